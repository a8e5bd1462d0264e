/- X19, part 2. -/
import Derived.Test.YtmcmhjdmilgoeaaGreatDoorX19P1
namespace Go.Abs
open Go Go.Proofs
set_option maxHeartbeats 4000000
set_option maxRecDepth 100000 in
theorem f75_ok  (x1 : List (BitVec 16 × BitVec 16)) (x2 : BitVec 16) (x3 : BitVec 16) (r : Int × BitVec 16 × BitVec 16) (h : f75 x1 x2 x3 = some r)  : Spec1 Tryz.prog 75 [] [2000] [(2000, .cells 30 [.b16 x2, .b16 x3])] [vL 2 eWW (default : BitVec 16 × BitVec 16) x1, .fn (.func 81) [.ptr 2000 0]] (.int .i64 r.1) [(2000, .cells 30 [.b16 r.2.1, .b16 r.2.2])] := by
  unfold f75 at h
  refine Spec1.body 0 _ _ Tryz.func75 rfl Tryz.ntmps75 rfl rfl ?_
  refine AWp.seq ?_
  refine AWp.regC [] [] [0, 1] [2000] ⟨19, [(0, vL 2 eWW (default : BitVec 16 × BitVec 16) x1), (1, .fn (.func 81) [.ptr 2000 0])], [(2000, .cells 30 [.b16 x2, .b16 x3])], [2000], 0⟩ (True) Tryz_mixed (by kernel_rfl) trivial ?_
  refine thenQ_normal ?_
  obtain ⟨K1, hK1, h⟩ := jn_some h
  refine AWp.join (α := BitVec 16 × BitVec 16) (fun (x : BitVec 16 × BitVec 16) => match x with | (w8, w9) => ⟨19, [], [(2000, .cells 30 [.b16 w8, .b16 w9])], [2000], 0⟩) (fun x => K1 x = some r) ?_ ?_
  ·
    refine AWp.seq ?_
    refine AWp.regC [] [] [0, 1, 7, 8] [2000] ⟨19, [(0, vL 2 eWW (default : BitVec 16 × BitVec 16) x1), (1, .fn (.func 81) [.ptr 2000 0]), (7, .int .i64 (((x1).length : Nat) : Int)), (8, .int .i64 (0 : Int))], [(2000, .cells 30 [.b16 x2, .b16 x3])], [2000], 0⟩ (True) Tryz_mixed (by kernel_rfl) trivial ?_
    refine thenQ_normal ?_
    refine AWp.block ?_
    refine AWp.loopL (α := Nat × (Nat × BitVec 16 × BitVec 16)) (fun x => match x with | (_, n4, w5, w6) => ⟨19, [(0, vL 2 eWW (default : BitVec 16 × BitVec 16) x1), (1, .fn (.func 81) [.ptr 2000 0]), (7, .int .i64 (((x1).length : Nat) : Int)), (8, .int .i64 ((n4 : Nat) : Int))], [(2000, .cells 30 [.b16 w5, .b16 w6])], [2000], 0⟩) (fun x => f75_L0 x1 K1 x.1 x.2 = some r) (fun x => x.1) (FUEL, 0, x2, x3) (Le.mk (s := ⟨19, [(0, vL 2 eWW (default : BitVec 16 × BitVec 16) x1), (1, .fn (.func 81) [.ptr 2000 0]), (7, .int .i64 (((x1).length : Nat) : Int)), (8, .int .i64 (0 : Int))], [(2000, .cells 30 [.b16 x2, .b16 x3])], [2000], 0⟩) (s' := ⟨19, [(0, vL 2 eWW (default : BitVec 16 × BitVec 16) x1), (1, .fn (.func 81) [.ptr 2000 0]), (7, .int .i64 (((x1).length : Nat) : Int)), (8, .int .i64 (0 : Int))], [(2000, .cells 30 [.b16 x2, .b16 x3])], [2000], 0⟩) rfl rfl ⟨.refl _, .refl _, .refl _, .refl _, trivial⟩ ⟨⟨_, rfl, .refl _⟩, trivial⟩) h ?_
    rintro ⟨k0, n4, w5, w6⟩ h
    cases k0 with
    | zero => exact nomatch (show (none : Option (Int × BitVec 16 × BitVec 16)) = some r from h)
    | succ k0 =>
    obtain ⟨C0, hC0⟩ : ∃ C, C = f75_L0 x1 K1 k0 := ⟨_, rfl⟩
    replace h := (f75_L0.eq_2 ..).symm.trans h
    try rw [← hC0] at h
    refine AWp.seq ?_
    refine AWp.regC [] [] [0, 1, 7, 8, 9] [2000] ⟨19, [(0, vL 2 eWW (default : BitVec 16 × BitVec 16) x1), (1, .fn (.func 81) [.ptr 2000 0]), (7, .int .i64 (((x1).length : Nat) : Int)), (8, .int .i64 ((n4 : Nat) : Int)), (9, .bool (decide (((n4 : Nat) : Int) < (((x1).length : Nat) : Int))))], [(2000, .cells 30 [.b16 w5, .b16 w6])], [2000], 0⟩ (True) Tryz_mixed (by kernel_rfl) trivial ?_
    refine thenQ_normal ?_
    refine AWp.seq ?_
    refine AWp.cond (b := (decide (((n4 : Nat) : Int) < (((x1).length : Nat) : Int)))) (by kernel_rfl) (fun hc1 => ?_) (fun hc1 => ?_)
    ·
      replace h := ite_tb hc1 h
      refine AWp.skip ?_
      refine thenQ_normal ?_
      refine AWp.seq ?_
      refine AWp.block ?_
      refine AWp.seq ?_
      refine AWp.regC [] [] [0, 1, 5, 7, 8] [2000] ⟨19, [(0, vL 2 eWW (default : BitVec 16 × BitVec 16) x1), (1, .fn (.func 81) [.ptr 2000 0]), (5, .int .i64 ((n4 : Nat) : Int)), (7, .int .i64 (((x1).length : Nat) : Int)), (8, .int .i64 ((n4 : Nat) : Int))], [(2000, .cells 30 [.b16 w5, .b16 w6])], [2000], 0⟩ (True) Tryz_mixed (by kernel_rfl) trivial ?_
      refine thenQ_normal ?_
      refine AWp.seq ?_
      obtain ⟨r7, hr7, h⟩ := bind_ok h
      obtain ⟨ob0p, h⟩ := chk_some h
      have ob0 : 0 ≤ ((n4 : Nat) : Int) ∧ ((n4 : Nat) : Int) < (((x1).length : Nat) : Int) := ⟨by omega, ob0p⟩
      refine AWp.regC [] [(5, ⟨[.agg [.b16 (x1.getD n4 (default : BitVec 16 × BitVec 16)).1, .b16 (x1.getD n4 (default : BitVec 16 × BitVec 16)).2], .ptr 2000 0], [2000], [2000], [(2000, .cells 30 [.b16 r7.2.1, .b16 r7.2.2])], .bool r7.1, [], [], []⟩)] [0, 1, 5, 7, 8, 16] [2000] ⟨19, [(0, vL 2 eWW (default : BitVec 16 × BitVec 16) x1), (1, .fn (.func 81) [.ptr 2000 0]), (5, .int .i64 ((n4 : Nat) : Int)), (7, .int .i64 (((x1).length : Nat) : Int)), (8, .int .i64 ((n4 : Nat) : Int)), (16, .bool r7.1)], [(2000, .cells 30 [.b16 r7.2.1, .b16 r7.2.2])], [2000], 0⟩ ((0 ≤ ((n4 : Nat) : Int) ∧ ((n4 : Nat) : Int) < (((x1).length : Nat) : Int)) ∧ (callP Tryz.prog true 81 [] [2000] [(2000, .cells 30 [.b16 w5, .b16 w6])] [] [] [.agg [.b16 (x1.getD n4 (default : BitVec 16 × BitVec 16)).1, .b16 (x1.getD n4 (default : BitVec 16 × BitVec 16)).2], .ptr 2000 0] [.agg [.b16 (x1.getD n4 (default : BitVec 16 × BitVec 16)).1, .b16 (x1.getD n4 (default : BitVec 16 × BitVec 16)).2], .ptr 2000 0] (.bool r7.1) [(2000, .cells 30 [.b16 r7.2.1, .b16 r7.2.2])]) ∧ True) Tryz_mixed (by kernel_rfl) ⟨ob0, ⟨fun _ => (f81_ok ((x1.getD n4 (default : BitVec 16 × BitVec 16)).1) ((x1.getD n4 (default : BitVec 16 × BitVec 16)).2) w5 w6 r7 hr7), fun _ => ⟨.refl _, .refl _, trivial⟩, .inl rfl⟩, trivial⟩ ?_
      refine thenQ_normal ?_
      refine AWp.cond (b := r7.1) (by kernel_rfl) (fun hc2 => ?_) (fun hc2 => ?_)
      ·
        replace h := ite_tb hc2 h
        refine AWp.seq ?_
        refine AWp.regC [] [] [4] [2000] ⟨19, [(4, .int .i64 ((n4 : Nat) : Int))], [(2000, .cells 30 [.b16 r7.2.1, .b16 r7.2.2])], [2000], 0⟩ (True) Tryz_mixed (by kernel_rfl) trivial ?_
        refine thenQ_normal ?_
        have hret := Option.some.inj h
        subst hret
        refine AWp.le (Le.mk (s := ⟨19, [(4, .int .i64 ((n4 : Nat) : Int))], [(2000, .cells 30 [.b16 r7.2.1, .b16 r7.2.2])], [2000], 0⟩) (s' := ⟨19, [(4, .int .i64 ((n4 : Nat) : Int))], [(2000, .cells 30 [.b16 r7.2.1, .b16 r7.2.2])], [2000], 0⟩) rfl rfl ⟨.refl _, trivial⟩ ⟨⟨_, rfl, .refl _⟩, trivial⟩) ?_
        refine AWp.ret ?_
        refine blockQ_ret ?_
        refine thenQ_ret ?_
        refine thenQ_ret ?_
        refine blockQ_ret ?_
        refine joinQ_ret ?_
        exact bodyQ_ret _ rfl ⟨rfl, rfl⟩ rfl
      ·
        replace h := ite_fb hc2 h
        refine AWp.skip ?_
        refine blockQ_normal ?_
        refine thenQ_normal ?_
        obtain ⟨ob1p, h⟩ := chk_some h
        have ob1 : -9223372036854775808 ≤ (((n4 : Nat) : Int) + (1 : Int)) ∧ (((n4 : Nat) : Int) + (1 : Int)) ≤ 9223372036854775807 := ⟨by omega, ob1p⟩
        refine AWp.regC [] [] [0, 1, 7, 8] [2000] ⟨19, [(0, vL 2 eWW (default : BitVec 16 × BitVec 16) x1), (1, .fn (.func 81) [.ptr 2000 0]), (7, .int .i64 (((x1).length : Nat) : Int)), (8, .int .i64 (((n4 + 1) : Nat) : Int))], [(2000, .cells 30 [.b16 r7.2.1, .b16 r7.2.2])], [2000], 0⟩ ((-9223372036854775808 ≤ (((n4 : Nat) : Int) + (1 : Int)) ∧ (((n4 : Nat) : Int) + (1 : Int)) ≤ 9223372036854775807) ∧ True) Tryz_mixed (by kernel_rfl) ⟨ob1, trivial⟩ ?_
        rw [hC0] at h
        exact loopQ_normal (_, (n4 + 1), r7.2.1, r7.2.2) (Le.mk (s := ⟨19, [(0, vL 2 eWW (default : BitVec 16 × BitVec 16) x1), (1, .fn (.func 81) [.ptr 2000 0]), (7, .int .i64 (((x1).length : Nat) : Int)), (8, .int .i64 (((n4 + 1) : Nat) : Int))], [(2000, .cells 30 [.b16 r7.2.1, .b16 r7.2.2])], [2000], 0⟩) (s' := ⟨19, [(0, vL 2 eWW (default : BitVec 16 × BitVec 16) x1), (1, .fn (.func 81) [.ptr 2000 0]), (7, .int .i64 (((x1).length : Nat) : Int)), (8, .int .i64 (((n4 + 1) : Nat) : Int))], [(2000, .cells 30 [.b16 r7.2.1, .b16 r7.2.2])], [2000], 0⟩) rfl rfl ⟨.refl _, .refl _, .refl _, .refl _, trivial⟩ ⟨⟨_, rfl, .refl _⟩, trivial⟩) h (Nat.lt_succ_self _)
    ·
      replace h := ite_fb hc1 h
      refine AWp.exit ?_
      refine thenQ_exit ?_
      refine thenQ_exit ?_
      refine blockQ_same ?_
      exact joinQ_normal (w5, w6) (Le.mk (s := ⟨19, [(0, vL 2 eWW (default : BitVec 16 × BitVec 16) x1), (1, .fn (.func 81) [.ptr 2000 0]), (7, .int .i64 (((x1).length : Nat) : Int)), (8, .int .i64 ((n4 : Nat) : Int)), (9, .bool (decide (((n4 : Nat) : Int) < (((x1).length : Nat) : Int))))], [(2000, .cells 30 [.b16 w5, .b16 w6])], [2000], 0⟩) (s' := ⟨19, [], [(2000, .cells 30 [.b16 w5, .b16 w6])], [2000], 0⟩) rfl rfl trivial ⟨⟨_, rfl, .refl _⟩, trivial⟩) h
  ·
    rintro ⟨w8, w9⟩ h
    replace h := (congrFun hK1 _).symm.trans h
    refine AWp.seq ?_
    refine AWp.regC [] [] [4] [2000] ⟨19, [(4, .int .i64 (-1 : Int))], [(2000, .cells 30 [.b16 w8, .b16 w9])], [2000], 0⟩ (True) Tryz_mixed (by kernel_rfl) trivial ?_
    refine thenQ_normal ?_
    have hret := Option.some.inj h
    subst hret
    refine AWp.le (Le.mk (s := ⟨19, [(4, .int .i64 (-1 : Int))], [(2000, .cells 30 [.b16 w8, .b16 w9])], [2000], 0⟩) (s' := ⟨19, [(4, .int .i64 (-1 : Int))], [(2000, .cells 30 [.b16 w8, .b16 w9])], [2000], 0⟩) rfl rfl ⟨.refl _, trivial⟩ ⟨⟨_, rfl, .refl _⟩, trivial⟩) ?_
    refine AWp.ret ?_
    exact bodyQ_ret _ rfl ⟨rfl, rfl⟩ rfl
def f48 (x1 : List (BitVec 16 × BitVec 16)) (x2 : BitVec 16) (x3 : BitVec 16) : Option (Bool × BitVec 16 × BitVec 16) :=
  (f75 x1 x2 x3).bind fun (r4 : Int × BitVec 16 × BitVec 16) =>
  some ((decide (r4.1 ≥ (0 : Int))), r4.2.1, r4.2.2)
set_option maxRecDepth 100000 in
theorem f48_ok  (x1 : List (BitVec 16 × BitVec 16)) (x2 : BitVec 16) (x3 : BitVec 16) (r : Bool × BitVec 16 × BitVec 16) (h : f48 x1 x2 x3 = some r)  : Spec1 Tryz.prog 48 [] [2000] [(2000, .cells 30 [.b16 x2, .b16 x3])] [vL 2 eWW (default : BitVec 16 × BitVec 16) x1, .fn (.func 81) [.ptr 2000 0]] (.bool r.1) [(2000, .cells 30 [.b16 r.2.1, .b16 r.2.2])] := by
  unfold f48 at h
  refine Spec1.body 0 _ _ Tryz.func48 rfl Tryz.ntmps48 rfl rfl ?_
  refine AWp.seq ?_
  refine AWp.regC [] [] [0, 1] [2000] ⟨9, [(0, vL 2 eWW (default : BitVec 16 × BitVec 16) x1), (1, .fn (.func 81) [.ptr 2000 0])], [(2000, .cells 30 [.b16 x2, .b16 x3])], [2000], 0⟩ (True) Tryz_mixed (by kernel_rfl) trivial ?_
  refine thenQ_normal ?_
  refine AWp.seq ?_
  obtain ⟨r4, hr4, h⟩ := bind_ok h
  refine AWp.regC [] [(2, ⟨[vL 2 eWW (default : BitVec 16 × BitVec 16) x1, .fn (.func 81) [.ptr 2000 0]], [2000], [2000], [(2000, .cells 30 [.b16 r4.2.1, .b16 r4.2.2])], .int .i64 r4.1, [], [], []⟩)] [4] [2000] ⟨9, [(4, .bool (decide (r4.1 ≥ (0 : Int))))], [(2000, .cells 30 [.b16 r4.2.1, .b16 r4.2.2])], [2000], 0⟩ ((callP Tryz.prog true 75 [] [2000] [(2000, .cells 30 [.b16 x2, .b16 x3])] [] [] [vL 2 eWW (default : BitVec 16 × BitVec 16) x1, .fn (.func 81) [.ptr 2000 0]] [vL 2 eWW (default : BitVec 16 × BitVec 16) x1, .fn (.func 81) [.ptr 2000 0]] (.int .i64 r4.1) [(2000, .cells 30 [.b16 r4.2.1, .b16 r4.2.2])]) ∧ True) Tryz_mixed (by kernel_rfl) ⟨⟨fun _ => (f75_ok x1 x2 x3 r4 hr4), fun _ => ⟨.refl _, .refl _, trivial⟩, .inl rfl⟩, trivial⟩ ?_
  refine thenQ_normal ?_
  have hret := Option.some.inj h
  subst hret
  refine AWp.le (Le.mk (s := ⟨9, [(4, .bool (decide (r4.1 ≥ (0 : Int))))], [(2000, .cells 30 [.b16 r4.2.1, .b16 r4.2.2])], [2000], 0⟩) (s' := ⟨9, [(4, .bool (decide (r4.1 ≥ (0 : Int))))], [(2000, .cells 30 [.b16 r4.2.1, .b16 r4.2.2])], [2000], 0⟩) rfl rfl ⟨.refl _, trivial⟩ ⟨⟨_, rfl, .refl _⟩, trivial⟩) ?_
  refine AWp.ret ?_
  exact bodyQ_ret _ rfl ⟨rfl, rfl⟩ rfl
def f54_L0 (r4 : List (BitVec 16 × BitVec 16)) (K1 : (List (BitVec 16 × BitVec 16)) → Option (Int × (List (BitVec 16 × BitVec 16)))) : Nat → (Nat × (List (BitVec 16 × BitVec 16))) → Option (Int × (List (BitVec 16 × BitVec 16)))
  | 0, _ => none
  | k + 1, (n5, l6) =>
    if (decide (((n5 : Nat) : Int) < (((r4).length : Nat) : Int))) then (
    jn (fun (l8 : List (BitVec 16 × BitVec 16)) =>
    chk ((((n5 : Nat) : Int) + (1 : Int)) ≤ 9223372036854775807) <|
    (f54_L0 r4 K1 k) ((n5 + 1), l8)
    ) fun (K2 : (List (BitVec 16 × BitVec 16)) → Option (Int × (List (BitVec 16 × BitVec 16)))) =>
    chk (((n5 : Nat) : Int) < (((r4).length : Nat) : Int)) <|
    chk (n5 < (r4).length) <|
    (f48 r4 ((r4.getD n5 (default : BitVec 16 × BitVec 16)).1) ((r4.getD n5 (default : BitVec 16 × BitVec 16)).2)).bind fun (r7 : Bool × BitVec 16 × BitVec 16) =>
    if (!r7.1) then (
    chk (((l6).length + 1) * 4 ≤ 140737488355328) <|
    K2 (l6 ++ [(r7.2.1, r7.2.2)])
    ) else (
    K2 l6
    )
    ) else (
    K1 l6
    )
def f54 (x1 : List (BitVec 16 × BitVec 16)) : Option (Int × (List (BitVec 16 × BitVec 16))) :=
  (f14 x1).bind fun (r2 : List (BitVec 16 × BitVec 16)) =>
  (f79 r2).bind fun (r3 : List (BitVec 16 × BitVec 16)) =>
  (f80 r3).bind fun (r4 : List (BitVec 16 × BitVec 16)) =>
  jn (fun (l9 : List (BitVec 16 × BitVec 16)) =>
  if (decide ((((l9).length : Nat) : Int) > (100 : Int))) then (
  some ((3 : Int), [])
  ) else (
  some ((0 : Int), l9)
  )
  ) fun (K1 : (List (BitVec 16 × BitVec 16)) → Option (Int × (List (BitVec 16 × BitVec 16)))) =>
  f54_L0 r4 K1 FUEL (0, [])
set_option maxRecDepth 100000 in
theorem f54_ok  (x1 : List (BitVec 16 × BitVec 16)) (r : Int × (List (BitVec 16 × BitVec 16))) (h : f54 x1 = some r)  : Spec1 Tryz.prog 54 [] [] [] [vL 2 eWW (default : BitVec 16 × BitVec 16) x1] (.tup [.own 3000, .int .i64 r.1]) [(3000, bL 30 2 eWW (default : BitVec 16 × BitVec 16) r.2)] := by
  unfold f54 at h
  refine Spec1.body 0 _ _ Tryz.func54 rfl Tryz.ntmps54 rfl rfl ?_
  refine AWp.seq ?_
  refine AWp.regC [] [] [0] [] ⟨32, [(0, vL 2 eWW (default : BitVec 16 × BitVec 16) x1)], [], [], 0⟩ (True) Tryz_mixed (by kernel_rfl) trivial ?_
  refine thenQ_normal ?_
  refine AWp.seq ?_
  obtain ⟨r2, hr2, h⟩ := bind_ok h
  refine AWp.regC [] [(1, ⟨[vL 2 eWW (default : BitVec 16 × BitVec 16) x1], [], [], [(6001, bL 30 2 eWW (default : BitVec 16 × BitVec 16) r2)], .own 6001, [6001], [], []⟩)] [0] [6001] ⟨32, [(0, .own 6001)], [(6001, bL 30 2 eWW (default : BitVec 16 × BitVec 16) r2)], [], 0⟩ ((callP Tryz.prog true 14 [] [] [] [] [] [vL 2 eWW (default : BitVec 16 × BitVec 16) x1] [vL 2 eWW (default : BitVec 16 × BitVec 16) x1] (.own 6001) [(6001, bL 30 2 eWW (default : BitVec 16 × BitVec 16) r2)]) ∧ True) Tryz_mixed (by kernel_rfl) ⟨⟨fun _ => (Spec1.ren (swapN 3000 6001) (swapN_inv 3000 6001) rfl (f14_ok x1 r2 hr2)), fun _ => ⟨.refl _, trivial⟩, .inl rfl⟩, trivial⟩ ?_
  refine thenQ_normal ?_
  refine AWp.seq ?_
  obtain ⟨r3, hr3, h⟩ := bind_ok h
  refine AWp.regC [] [(1, ⟨[.own 6001, .fn (.func 43) []], [6001], [6001], [(6001, bL 30 2 eWW (default : BitVec 16 × BitVec 16) r3)], .tup [], [], [], []⟩)] [0] [6001] ⟨32, [(0, .own 6001)], [(6001, bL 30 2 eWW (default : BitVec 16 × BitVec 16) r3)], [], 0⟩ ((callP Tryz.prog true 79 [] [6001] [(6001, bL 30 2 eWW (default : BitVec 16 × BitVec 16) r2)] [] [] [.own 6001, .fn (.func 43) []] [.own 6001, .fn (.func 43) []] (.tup []) [(6001, bL 30 2 eWW (default : BitVec 16 × BitVec 16) r3)]) ∧ True) Tryz_mixed (by kernel_rfl) ⟨⟨fun _ => (Spec1.ren (swapN 2000 6001) (swapN_inv 2000 6001) rfl (f79_ok r2 r3 hr3)), fun _ => ⟨.refl _, .refl _, trivial⟩, .inl rfl⟩, trivial⟩ ?_
  refine thenQ_normal ?_
  refine AWp.seq ?_
  obtain ⟨r4, hr4, h⟩ := bind_ok h
  refine AWp.regC [] [(1, ⟨[.own 6001], [6001], [], [(6001, bL 30 2 eWW (default : BitVec 16 × BitVec 16) r4)], .own 6001, [6001], [], []⟩)] [0] [6001] ⟨32, [(0, .own 6001)], [(6001, bL 30 2 eWW (default : BitVec 16 × BitVec 16) r4)], [], 0⟩ ((callP Tryz.prog true 80 [] [] [(6001, bL 30 2 eWW (default : BitVec 16 × BitVec 16) r3)] [] [] [.own 6001] [.own 6001] (.own 6001) [(6001, bL 30 2 eWW (default : BitVec 16 × BitVec 16) r4)]) ∧ True) Tryz_mixed (by kernel_rfl) ⟨⟨fun _ => (Spec1.ren (swapN 2000 6001) (swapN_inv 2000 6001) rfl (f80_ok r3 r4 hr4)), fun _ => ⟨.refl _, trivial⟩, .inl rfl⟩, trivial⟩ ?_
  refine thenQ_normal ?_
  refine AWp.seq ?_
  refine AWp.regC [] [] [0, 4] [6001] ⟨32, [(0, .own 6001), (4, .nils)], [(6001, bL 30 2 eWW (default : BitVec 16 × BitVec 16) r4)], [], 0⟩ (True) Tryz_mixed (by kernel_rfl) trivial ?_
  refine thenQ_normal ?_
  obtain ⟨K1, hK1, h⟩ := jn_some h
  refine AWp.join (α := List (BitVec 16 × BitVec 16)) (fun (l9 : List (BitVec 16 × BitVec 16)) => ⟨32, [(4, .own 5004)], [(5004, bL 30 2 eWW (default : BitVec 16 × BitVec 16) l9)], [], 0⟩) (fun x => K1 x = some r) ?_ ?_
  ·
    refine AWp.seq ?_
    refine AWp.regC [] [] [0, 4, 13, 14, 15] [6001] ⟨32, [(0, .own 6001), (4, .nils), (13, .own 6001), (14, .int .i64 (((r4).length : Nat) : Int)), (15, .int .i64 (0 : Int))], [(6001, bL 30 2 eWW (default : BitVec 16 × BitVec 16) r4)], [], 0⟩ (True) Tryz_mixed (by kernel_rfl) trivial ?_
    refine thenQ_normal ?_
    refine AWp.block ?_
    refine AWp.loopL (α := Nat × (Nat × (List (BitVec 16 × BitVec 16)))) (fun x => match x with | (_, n5, l6) => ⟨32, [(0, .own 6001), (4, .own 5004), (13, .own 6001), (14, .int .i64 (((r4).length : Nat) : Int)), (15, .int .i64 ((n5 : Nat) : Int))], [(5004, bL 30 2 eWW (default : BitVec 16 × BitVec 16) l6), (6001, bL 30 2 eWW (default : BitVec 16 × BitVec 16) r4)], [], 0⟩) (fun x => f54_L0 r4 K1 x.1 x.2 = some r) (fun x => x.1) (FUEL, 0, []) (Le.trans (Le.trans (Le.nilOwn (s := ⟨32, [(0, .own 6001), (4, .nils), (13, .own 6001), (14, .int .i64 (((r4).length : Nat) : Int)), (15, .int .i64 (0 : Int))], [(6001, bL 30 2 eWW (default : BitVec 16 × BitVec 16) r4)], [], 0⟩) 4 5004 30 2 (encF eWW (default : BitVec 16 × BitVec 16) []) rfl rfl (Nat.le_of_ble_eq_true rfl)) (Le.mk (s' := ⟨32, [(0, .own 6001), (4, .own 5004), (13, .own 6001), (14, .int .i64 (((r4).length : Nat) : Int)), (15, .int .i64 (0 : Int))], [(6001, bL 30 2 eWW (default : BitVec 16 × BitVec 16) r4), (5004, bL 30 2 eWW (default : BitVec 16 × BitVec 16) [])], [], 0⟩) rfl rfl ⟨.refl _, .refl _, .refl _, .refl _, .refl _, trivial⟩ ⟨⟨_, rfl, .refl _⟩, ⟨_, rfl, .refl _⟩, trivial⟩)) (Le.mk (s := ⟨32, [(0, .own 6001), (4, .own 5004), (13, .own 6001), (14, .int .i64 (((r4).length : Nat) : Int)), (15, .int .i64 (0 : Int))], [(6001, bL 30 2 eWW (default : BitVec 16 × BitVec 16) r4), (5004, bL 30 2 eWW (default : BitVec 16 × BitVec 16) [])], [], 0⟩) (s' := ⟨32, [(0, .own 6001), (4, .own 5004), (13, .own 6001), (14, .int .i64 (((r4).length : Nat) : Int)), (15, .int .i64 (0 : Int))], [(5004, bL 30 2 eWW (default : BitVec 16 × BitVec 16) []), (6001, bL 30 2 eWW (default : BitVec 16 × BitVec 16) r4)], [], 0⟩) rfl rfl ⟨.refl _, .refl _, .refl _, .refl _, .refl _, trivial⟩ ⟨⟨_, rfl, .refl _⟩, ⟨_, rfl, .refl _⟩, trivial⟩)) h ?_
    rintro ⟨k0, n5, l6⟩ h
    cases k0 with
    | zero => exact nomatch (show (none : Option (Int × (List (BitVec 16 × BitVec 16)))) = some r from h)
    | succ k0 =>
    obtain ⟨C0, hC0⟩ : ∃ C, C = f54_L0 r4 K1 k0 := ⟨_, rfl⟩
    replace h := (f54_L0.eq_2 ..).symm.trans h
    try rw [← hC0] at h
    refine AWp.seq ?_
    refine AWp.regC [] [] [0, 4, 13, 14, 15, 16] [5004, 6001] ⟨32, [(0, .own 6001), (4, .own 5004), (13, .own 6001), (14, .int .i64 (((r4).length : Nat) : Int)), (15, .int .i64 ((n5 : Nat) : Int)), (16, .bool (decide (((n5 : Nat) : Int) < (((r4).length : Nat) : Int))))], [(5004, bL 30 2 eWW (default : BitVec 16 × BitVec 16) l6), (6001, bL 30 2 eWW (default : BitVec 16 × BitVec 16) r4)], [], 0⟩ (True) Tryz_mixed (by kernel_rfl) trivial ?_
    refine thenQ_normal ?_
    refine AWp.seq ?_
    refine AWp.cond (b := (decide (((n5 : Nat) : Int) < (((r4).length : Nat) : Int)))) (by kernel_rfl) (fun hc1 => ?_) (fun hc1 => ?_)
    ·
      replace h := ite_tb hc1 h
      refine AWp.skip ?_
      refine thenQ_normal ?_
      obtain ⟨K2, hK2, h⟩ := jn_some h
      refine AWp.join (α := List (BitVec 16 × BitVec 16)) (fun (l8 : List (BitVec 16 × BitVec 16)) => ⟨32, [(0, .own 6001), (4, .own 26), (13, .own 6001), (14, .int .i64 (((r4).length : Nat) : Int)), (15, .int .i64 ((n5 : Nat) : Int))], [(26, bL 30 2 eWW (default : BitVec 16 × BitVec 16) l8), (6001, bL 30 2 eWW (default : BitVec 16 × BitVec 16) r4)], [], 0⟩) (fun x => K2 x = some r) ?_ ?_
      ·
        refine AWp.block ?_
        refine AWp.seq ?_
        obtain ⟨ob0p, h⟩ := chk_some h
        have ob0 : 0 ≤ ((n5 : Nat) : Int) ∧ ((n5 : Nat) : Int) < (((r4).length : Nat) : Int) := ⟨by omega, ob0p⟩
        obtain ⟨ob1, h⟩ := chk_some h
        refine AWp.regC [] [] [0, 4, 6, 13, 14, 15] [6, 5004, 6001] ⟨32, [(0, .own 6001), (4, .own 5004), (6, .ptr 6 0), (13, .own 6001), (14, .int .i64 (((r4).length : Nat) : Int)), (15, .int .i64 ((n5 : Nat) : Int))], [(6, .cells 30 [.b16 (r4.getD n5 (default : BitVec 16 × BitVec 16)).1, .b16 (r4.getD n5 (default : BitVec 16 × BitVec 16)).2]), (5004, bL 30 2 eWW (default : BitVec 16 × BitVec 16) l6), (6001, bL 30 2 eWW (default : BitVec 16 × BitVec 16) r4)], [], 0⟩ ((0 ≤ ((n5 : Nat) : Int) ∧ ((n5 : Nat) : Int) < (((r4).length : Nat) : Int)) ∧ (n5 < (r4).length) ∧ (True) ∧ True) Tryz_mixed (by kernel_rfl) ⟨ob0, ob1, trivial, trivial⟩ ?_
        refine thenQ_normal ?_
        refine AWp.seq ?_
        obtain ⟨r7, hr7, h⟩ := bind_ok h
        refine AWp.regC [] [(2, ⟨[vL 2 eWW (default : BitVec 16 × BitVec 16) r4, .fn (.func 81) [.ptr 6 0]], [6], [6], [(6, .cells 30 [.b16 r7.2.1, .b16 r7.2.2])], .bool r7.1, [], [6001], []⟩)] [0, 4, 6, 13, 14, 15, 22] [6, 5004, 6001] ⟨32, [(0, .own 6001), (4, .own 5004), (6, .ptr 6 0), (13, .own 6001), (14, .int .i64 (((r4).length : Nat) : Int)), (15, .int .i64 ((n5 : Nat) : Int)), (22, .bool (!r7.1))], [(6, .cells 30 [.b16 r7.2.1, .b16 r7.2.2]), (5004, bL 30 2 eWW (default : BitVec 16 × BitVec 16) l6), (6001, bL 30 2 eWW (default : BitVec 16 × BitVec 16) r4)], [], 0⟩ ((callP Tryz.prog true 48 [] [6] [(6, .cells 30 [.b16 (r4.getD n5 (default : BitVec 16 × BitVec 16)).1, .b16 (r4.getD n5 (default : BitVec 16 × BitVec 16)).2])] [(6001, bL 30 2 eWW (default : BitVec 16 × BitVec 16) r4)] [6001] [.own 6001, .fn (.func 81) [.ptr 6 0]] [vL 2 eWW (default : BitVec 16 × BitVec 16) r4, .fn (.func 81) [.ptr 6 0]] (.bool r7.1) [(6, .cells 30 [.b16 r7.2.1, .b16 r7.2.2])]) ∧ True) Tryz_mixed (by kernel_rfl) ⟨⟨fun _ => (Spec1.ren (swapN 2000 6) (swapN_inv 2000 6) rfl (f48_ok r4 ((r4.getD n5 (default : BitVec 16 × BitVec 16)).1) ((r4.getD n5 (default : BitVec 16 × BitVec 16)).2) r7 hr7)), fun _ => ⟨.refl _, .refl _, trivial⟩, .inr ⟨rfl, ⟨rfl, trivial⟩⟩⟩, trivial⟩ ?_
        refine thenQ_normal ?_
        refine AWp.cond (b := (!r7.1)) (by kernel_rfl) (fun hc2 => ?_) (fun hc2 => ?_)
        ·
          replace h := ite_tb hc2 h
          obtain ⟨ob2, h⟩ := chk_some h
          refine AWp.regC [] [] [0, 4, 13, 14, 15] [5004, 6001] ⟨32, [(0, .own 6001), (4, .own 5004), (13, .own 6001), (14, .int .i64 (((r4).length : Nat) : Int)), (15, .int .i64 ((n5 : Nat) : Int))], [(5004, .rows 30 2 ((l6).length + 1) (appF (l6).length (encF eWW (default : BitVec 16 × BitVec 16) l6) (lstF 2 [.b16 r7.2.1, .b16 r7.2.2]))), (6001, bL 30 2 eWW (default : BitVec 16 × BitVec 16) r4)], [], 0⟩ ((((l6).length + 1) * 4 ≤ 140737488355328) ∧ True) Tryz_mixed (by kernel_rfl) ⟨ob2, trivial⟩ ?_
          refine blockQ_normal ?_
          exact joinQ_normal ((l6 ++ [(r7.2.1, r7.2.2)])) (Le.trans (Le.mk (s := ⟨32, [(0, .own 6001), (4, .own 5004), (13, .own 6001), (14, .int .i64 (((r4).length : Nat) : Int)), (15, .int .i64 ((n5 : Nat) : Int))], [(5004, .rows 30 2 ((l6).length + 1) (appF (l6).length (encF eWW (default : BitVec 16 × BitVec 16) l6) (lstF 2 [.b16 r7.2.1, .b16 r7.2.2]))), (6001, bL 30 2 eWW (default : BitVec 16 × BitVec 16) r4)], [], 0⟩) (s' := ⟨32, [(0, .own 6001), (4, .own 5004), (13, .own 6001), (14, .int .i64 (((r4).length : Nat) : Int)), (15, .int .i64 ((n5 : Nat) : Int))], [(5004, bL 30 2 eWW (default : BitVec 16 × BitVec 16) (l6 ++ [(r7.2.1, r7.2.2)])), (6001, bL 30 2 eWW (default : BitVec 16 × BitVec 16) r4)], [], 0⟩) rfl rfl ⟨.refl _, .refl _, .refl _, .refl _, .refl _, trivial⟩ ⟨⟨_, rfl, (BLe.of (RL.app (RL.self _) (RL.lst (enc := eWW) [(r7.2.1, r7.2.2)] rfl rfl (fun _ => rfl))))⟩, ⟨_, rfl, .refl _⟩, trivial⟩) (Le.trans (Le.trans (Le.ren (s := ⟨32, [(0, .own 6001), (4, .own 5004), (13, .own 6001), (14, .int .i64 (((r4).length : Nat) : Int)), (15, .int .i64 ((n5 : Nat) : Int))], [(5004, bL 30 2 eWW (default : BitVec 16 × BitVec 16) (l6 ++ [(r7.2.1, r7.2.2)])), (6001, bL 30 2 eWW (default : BitVec 16 × BitVec 16) r4)], [], 0⟩) (swapN 5004 26) (swapN_inv 5004 26) rfl) (Le.mk (s' := ⟨32, [(0, .own 6001), (4, .own 26), (13, .own 6001), (14, .int .i64 (((r4).length : Nat) : Int)), (15, .int .i64 ((n5 : Nat) : Int))], [(26, bL 30 2 eWW (default : BitVec 16 × BitVec 16) (l6 ++ [(r7.2.1, r7.2.2)])), (6001, bL 30 2 eWW (default : BitVec 16 × BitVec 16) r4)], [], 0⟩) rfl rfl ⟨.refl _, .refl _, .refl _, .refl _, .refl _, trivial⟩ ⟨⟨_, rfl, .refl _⟩, ⟨_, rfl, .refl _⟩, trivial⟩)) (Le.mk (s := ⟨32, [(0, .own 6001), (4, .own 26), (13, .own 6001), (14, .int .i64 (((r4).length : Nat) : Int)), (15, .int .i64 ((n5 : Nat) : Int))], [(26, bL 30 2 eWW (default : BitVec 16 × BitVec 16) (l6 ++ [(r7.2.1, r7.2.2)])), (6001, bL 30 2 eWW (default : BitVec 16 × BitVec 16) r4)], [], 0⟩) (s' := ⟨32, [(0, .own 6001), (4, .own 26), (13, .own 6001), (14, .int .i64 (((r4).length : Nat) : Int)), (15, .int .i64 ((n5 : Nat) : Int))], [(26, bL 30 2 eWW (default : BitVec 16 × BitVec 16) (l6 ++ [(r7.2.1, r7.2.2)])), (6001, bL 30 2 eWW (default : BitVec 16 × BitVec 16) r4)], [], 0⟩) rfl rfl ⟨.refl _, .refl _, .refl _, .refl _, .refl _, trivial⟩ ⟨⟨_, rfl, .refl _⟩, ⟨_, rfl, .refl _⟩, trivial⟩))) h
        ·
          replace h := ite_fb hc2 h
          refine AWp.skip ?_
          refine blockQ_normal ?_
          exact joinQ_normal (l6) (Le.trans (Le.trans (Le.ren (s := ⟨32, [(0, .own 6001), (4, .own 5004), (6, .ptr 6 0), (13, .own 6001), (14, .int .i64 (((r4).length : Nat) : Int)), (15, .int .i64 ((n5 : Nat) : Int)), (22, .bool (!r7.1))], [(6, .cells 30 [.b16 r7.2.1, .b16 r7.2.2]), (5004, bL 30 2 eWW (default : BitVec 16 × BitVec 16) l6), (6001, bL 30 2 eWW (default : BitVec 16 × BitVec 16) r4)], [], 0⟩) (swapN 5004 26) (swapN_inv 5004 26) rfl) (Le.mk (s' := ⟨32, [(0, .own 6001), (4, .own 26), (6, .ptr 6 0), (13, .own 6001), (14, .int .i64 (((r4).length : Nat) : Int)), (15, .int .i64 ((n5 : Nat) : Int)), (22, .bool (!r7.1))], [(6, .cells 30 [.b16 r7.2.1, .b16 r7.2.2]), (26, bL 30 2 eWW (default : BitVec 16 × BitVec 16) l6), (6001, bL 30 2 eWW (default : BitVec 16 × BitVec 16) r4)], [], 0⟩) rfl rfl ⟨.refl _, .refl _, .refl _, .refl _, .refl _, .refl _, .refl _, trivial⟩ ⟨⟨_, rfl, .refl _⟩, ⟨_, rfl, .refl _⟩, ⟨_, rfl, .refl _⟩, trivial⟩)) (Le.mk (s := ⟨32, [(0, .own 6001), (4, .own 26), (6, .ptr 6 0), (13, .own 6001), (14, .int .i64 (((r4).length : Nat) : Int)), (15, .int .i64 ((n5 : Nat) : Int)), (22, .bool (!r7.1))], [(6, .cells 30 [.b16 r7.2.1, .b16 r7.2.2]), (26, bL 30 2 eWW (default : BitVec 16 × BitVec 16) l6), (6001, bL 30 2 eWW (default : BitVec 16 × BitVec 16) r4)], [], 0⟩) (s' := ⟨32, [(0, .own 6001), (4, .own 26), (13, .own 6001), (14, .int .i64 (((r4).length : Nat) : Int)), (15, .int .i64 ((n5 : Nat) : Int))], [(26, bL 30 2 eWW (default : BitVec 16 × BitVec 16) l6), (6001, bL 30 2 eWW (default : BitVec 16 × BitVec 16) r4)], [], 0⟩) rfl rfl ⟨.refl _, .refl _, .refl _, .refl _, .refl _, trivial⟩ ⟨⟨_, rfl, .refl _⟩, ⟨_, rfl, .refl _⟩, trivial⟩)) h
      ·
        rintro l8 h
        replace h := (congrFun hK2 _).symm.trans h
        obtain ⟨ob3p, h⟩ := chk_some h
        have ob3 : -9223372036854775808 ≤ (((n5 : Nat) : Int) + (1 : Int)) ∧ (((n5 : Nat) : Int) + (1 : Int)) ≤ 9223372036854775807 := ⟨by omega, ob3p⟩
        refine AWp.regC [] [] [0, 4, 13, 14, 15] [26, 6001] ⟨32, [(0, .own 6001), (4, .own 26), (13, .own 6001), (14, .int .i64 (((r4).length : Nat) : Int)), (15, .int .i64 (((n5 + 1) : Nat) : Int))], [(26, bL 30 2 eWW (default : BitVec 16 × BitVec 16) l8), (6001, bL 30 2 eWW (default : BitVec 16 × BitVec 16) r4)], [], 0⟩ ((-9223372036854775808 ≤ (((n5 : Nat) : Int) + (1 : Int)) ∧ (((n5 : Nat) : Int) + (1 : Int)) ≤ 9223372036854775807) ∧ True) Tryz_mixed (by kernel_rfl) ⟨ob3, trivial⟩ ?_
        rw [hC0] at h
        exact loopQ_normal (_, (n5 + 1), l8) (Le.trans (Le.trans (Le.ren (s := ⟨32, [(0, .own 6001), (4, .own 26), (13, .own 6001), (14, .int .i64 (((r4).length : Nat) : Int)), (15, .int .i64 (((n5 + 1) : Nat) : Int))], [(26, bL 30 2 eWW (default : BitVec 16 × BitVec 16) l8), (6001, bL 30 2 eWW (default : BitVec 16 × BitVec 16) r4)], [], 0⟩) (swapN 26 5004) (swapN_inv 26 5004) rfl) (Le.mk (s' := ⟨32, [(0, .own 6001), (4, .own 5004), (13, .own 6001), (14, .int .i64 (((r4).length : Nat) : Int)), (15, .int .i64 (((n5 + 1) : Nat) : Int))], [(5004, bL 30 2 eWW (default : BitVec 16 × BitVec 16) l8), (6001, bL 30 2 eWW (default : BitVec 16 × BitVec 16) r4)], [], 0⟩) rfl rfl ⟨.refl _, .refl _, .refl _, .refl _, .refl _, trivial⟩ ⟨⟨_, rfl, .refl _⟩, ⟨_, rfl, .refl _⟩, trivial⟩)) (Le.mk (s := ⟨32, [(0, .own 6001), (4, .own 5004), (13, .own 6001), (14, .int .i64 (((r4).length : Nat) : Int)), (15, .int .i64 (((n5 + 1) : Nat) : Int))], [(5004, bL 30 2 eWW (default : BitVec 16 × BitVec 16) l8), (6001, bL 30 2 eWW (default : BitVec 16 × BitVec 16) r4)], [], 0⟩) (s' := ⟨32, [(0, .own 6001), (4, .own 5004), (13, .own 6001), (14, .int .i64 (((r4).length : Nat) : Int)), (15, .int .i64 (((n5 + 1) : Nat) : Int))], [(5004, bL 30 2 eWW (default : BitVec 16 × BitVec 16) l8), (6001, bL 30 2 eWW (default : BitVec 16 × BitVec 16) r4)], [], 0⟩) rfl rfl ⟨.refl _, .refl _, .refl _, .refl _, .refl _, trivial⟩ ⟨⟨_, rfl, .refl _⟩, ⟨_, rfl, .refl _⟩, trivial⟩)) h (Nat.lt_succ_self _)
    ·
      replace h := ite_fb hc1 h
      refine AWp.exit ?_
      refine thenQ_exit ?_
      refine thenQ_exit ?_
      refine blockQ_same ?_
      exact joinQ_normal (l6) (Le.mk (s := ⟨32, [(0, .own 6001), (4, .own 5004), (13, .own 6001), (14, .int .i64 (((r4).length : Nat) : Int)), (15, .int .i64 ((n5 : Nat) : Int)), (16, .bool (decide (((n5 : Nat) : Int) < (((r4).length : Nat) : Int))))], [(5004, bL 30 2 eWW (default : BitVec 16 × BitVec 16) l6), (6001, bL 30 2 eWW (default : BitVec 16 × BitVec 16) r4)], [], 0⟩) (s' := ⟨32, [(4, .own 5004)], [(5004, bL 30 2 eWW (default : BitVec 16 × BitVec 16) l6)], [], 0⟩) rfl rfl ⟨.refl _, trivial⟩ ⟨⟨_, rfl, .refl _⟩, trivial⟩) h
  ·
    rintro l9 h
    replace h := (congrFun hK1 _).symm.trans h
    refine AWp.seq ?_
    refine AWp.seq ?_
    refine AWp.regC [] [] [4, 30] [5004] ⟨32, [(4, .own 5004), (30, .bool (decide ((((l9).length : Nat) : Int) > (100 : Int))))], [(5004, bL 30 2 eWW (default : BitVec 16 × BitVec 16) l9)], [], 0⟩ (True) Tryz_mixed (by kernel_rfl) trivial ?_
    refine thenQ_normal ?_
    refine AWp.cond (b := (decide ((((l9).length : Nat) : Int) > (100 : Int)))) (by kernel_rfl) (fun hc3 => ?_) (fun hc3 => ?_)
    ·
      replace h := ite_tb hc3 h
      refine AWp.seq ?_
      refine AWp.regC [] [] [2, 3] [] ⟨32, [(2, .nils), (3, .int .i64 (3 : Int))], [], [], 0⟩ (True) Tryz_mixed (by kernel_rfl) trivial ?_
      refine thenQ_normal ?_
      refine AWp.le (Le.trans (Le.nilOwn (s := ⟨32, [(2, .nils), (3, .int .i64 (3 : Int))], [], [], 0⟩) 2 3000 30 2 (encF eWW (default : BitVec 16 × BitVec 16) []) rfl rfl (Nat.le_of_ble_eq_true rfl)) (Le.mk (s' := ⟨32, [(2, .own 3000), (3, .int .i64 (3 : Int))], [(3000, bL 30 2 eWW (default : BitVec 16 × BitVec 16) [])], [], 0⟩) rfl rfl ⟨.refl _, .refl _, trivial⟩ ⟨⟨_, rfl, .refl _⟩, trivial⟩)) ?_
      have hret := Option.some.inj h
      subst hret
      refine AWp.le (Le.mk (s := ⟨32, [(2, .own 3000), (3, .int .i64 (3 : Int))], [(3000, bL 30 2 eWW (default : BitVec 16 × BitVec 16) [])], [], 0⟩) (s' := ⟨32, [(2, .own 3000), (3, .int .i64 (3 : Int))], [(3000, bL 30 2 eWW (default : BitVec 16 × BitVec 16) [])], [], 0⟩) rfl rfl ⟨.refl _, .refl _, trivial⟩ ⟨⟨_, rfl, .refl _⟩, trivial⟩) ?_
      refine AWp.ret ?_
      refine thenQ_ret ?_
      exact bodyQ_ret _ rfl ⟨rfl, rfl⟩ rfl
    ·
      replace h := ite_fb hc3 h
      refine AWp.skip ?_
      refine thenQ_normal ?_
      refine AWp.seq ?_
      refine AWp.regC [] [] [2, 3] [5004] ⟨32, [(2, .own 5004), (3, .int .i64 (0 : Int))], [(5004, bL 30 2 eWW (default : BitVec 16 × BitVec 16) l9)], [], 0⟩ (True) Tryz_mixed (by kernel_rfl) trivial ?_
      refine thenQ_normal ?_
      refine AWp.le (Le.trans (Le.ren (s := ⟨32, [(2, .own 5004), (3, .int .i64 (0 : Int))], [(5004, bL 30 2 eWW (default : BitVec 16 × BitVec 16) l9)], [], 0⟩) (swapN 5004 3000) (swapN_inv 5004 3000) rfl) (Le.mk (s' := ⟨32, [(2, .own 3000), (3, .int .i64 (0 : Int))], [(3000, bL 30 2 eWW (default : BitVec 16 × BitVec 16) l9)], [], 0⟩) rfl rfl ⟨.refl _, .refl _, trivial⟩ ⟨⟨_, rfl, .refl _⟩, trivial⟩)) ?_
      have hret := Option.some.inj h
      subst hret
      refine AWp.le (Le.mk (s := ⟨32, [(2, .own 3000), (3, .int .i64 (0 : Int))], [(3000, bL 30 2 eWW (default : BitVec 16 × BitVec 16) l9)], [], 0⟩) (s' := ⟨32, [(2, .own 3000), (3, .int .i64 (0 : Int))], [(3000, bL 30 2 eWW (default : BitVec 16 × BitVec 16) l9)], [], 0⟩) rfl rfl ⟨.refl _, .refl _, trivial⟩ ⟨⟨_, rfl, .refl _⟩, trivial⟩) ?_
      refine AWp.ret ?_
      exact bodyQ_ret _ rfl ⟨rfl, rfl⟩ rfl
def f27_L1 (x1 : List (BitVec 16 × BitVec 16)) (x2 : List (BitVec 16 × BitVec 16)) (n4 : Nat) (K2 : (List (BitVec 16 × BitVec 16)) → Option (Int × (List (BitVec 16 × BitVec 16)))) : Nat → (Nat × (List (BitVec 16 × BitVec 16))) → Option (Int × (List (BitVec 16 × BitVec 16)))
  | 0, _ => none
  | k + 1, (n6, l7) =>
    if (decide (((n6 : Nat) : Int) < (((x2).length : Nat) : Int))) then (
    chk (((n6 : Nat) : Int) < (((x2).length : Nat) : Int)) <|
    (f46 ((x1.getD n4 (default : BitVec 16 × BitVec 16)).1) ((x1.getD n4 (default : BitVec 16 × BitVec 16)).2)).bind fun (r8 : BitVec 16) =>
    (f46 ((x2.getD n6 (default : BitVec 16 × BitVec 16)).1) ((x2.getD n6 (default : BitVec 16 × BitVec 16)).2)).bind fun (r9 : BitVec 16) =>
    chk (((l7).length + 1) * 4 ≤ 140737488355328) <|
    chk ((((n6 : Nat) : Int) + (1 : Int)) ≤ 9223372036854775807) <|
    (f27_L1 x1 x2 n4 K2 k) ((n6 + 1), (l7 ++ [(((x1.getD n4 (default : BitVec 16 × BitVec 16)).1 &&& (x2.getD n6 (default : BitVec 16 × BitVec 16)).1), ((r8 &&& r9) &&& ~~~((x1.getD n4 (default : BitVec 16 × BitVec 16)).1 &&& (x2.getD n6 (default : BitVec 16 × BitVec 16)).1)))]))
    ) else (
    K2 l7
    )
def f27_L0 (x1 : List (BitVec 16 × BitVec 16)) (x2 : List (BitVec 16 × BitVec 16)) (K1 : (List (BitVec 16 × BitVec 16)) → Option (Int × (List (BitVec 16 × BitVec 16)))) : Nat → (Nat × (List (BitVec 16 × BitVec 16))) → Option (Int × (List (BitVec 16 × BitVec 16)))
  | 0, _ => none
  | k + 1, (n4, l5) =>
    if (decide (((n4 : Nat) : Int) < (((x1).length : Nat) : Int))) then (
    jn (fun (l10 : List (BitVec 16 × BitVec 16)) =>
    chk ((((n4 : Nat) : Int) + (1 : Int)) ≤ 9223372036854775807) <|
    (f27_L0 x1 x2 K1 k) ((n4 + 1), l10)
    ) fun (K2 : (List (BitVec 16 × BitVec 16)) → Option (Int × (List (BitVec 16 × BitVec 16)))) =>
    chk (((n4 : Nat) : Int) < (((x1).length : Nat) : Int)) <|
    f27_L1 x1 x2 n4 K2 FUEL (0, l5)
    ) else (
    K1 l5
    )
def f27 (x1 : List (BitVec 16 × BitVec 16)) (x2 : List (BitVec 16 × BitVec 16)) : Option (Int × (List (BitVec 16 × BitVec 16))) :=
  (f56 x1 x2).bind fun (r3 : Int) =>
  if (r3 != (0 : Int)) then (
  some (r3, [])
  ) else (
  jn (fun (l11 : List (BitVec 16 × BitVec 16)) =>
  (f54 l11).bind fun (r12 : Int × (List (BitVec 16 × BitVec 16))) =>
  some (r12.1, r12.2)
  ) fun (K1 : (List (BitVec 16 × BitVec 16)) → Option (Int × (List (BitVec 16 × BitVec 16)))) =>
  f27_L0 x1 x2 K1 FUEL (0, [])
  )
set_option maxRecDepth 100000 in
theorem f27_ok  (x1 : List (BitVec 16 × BitVec 16)) (x2 : List (BitVec 16 × BitVec 16)) (r : Int × (List (BitVec 16 × BitVec 16))) (h : f27 x1 x2 = some r)  : Spec1 Tryz.prog 27 [] [] [] [vL 2 eWW (default : BitVec 16 × BitVec 16) x1, vL 2 eWW (default : BitVec 16 × BitVec 16) x2] (.tup [.own 3000, .int .i64 r.1]) [(3000, bL 30 2 eWW (default : BitVec 16 × BitVec 16) r.2)] := by
  unfold f27 at h
  refine Spec1.body 0 _ _ Tryz.func27 rfl Tryz.ntmps27 rfl rfl ?_
  refine AWp.seq ?_
  refine AWp.regC [] [] [0, 1] [] ⟨54, [(0, vL 2 eWW (default : BitVec 16 × BitVec 16) x1), (1, vL 2 eWW (default : BitVec 16 × BitVec 16) x2)], [], [], 0⟩ (True) Tryz_mixed (by kernel_rfl) trivial ?_
  refine thenQ_normal ?_
  refine AWp.seq ?_
  refine AWp.seq ?_
  obtain ⟨r3, hr3, h⟩ := bind_ok h
  refine AWp.regC [] [(2, ⟨[vL 2 eWW (default : BitVec 16 × BitVec 16) x1, vL 2 eWW (default : BitVec 16 × BitVec 16) x2], [], [], [], .int .i64 r3, [], [], []⟩)] [0, 1, 6] [] ⟨54, [(0, vL 2 eWW (default : BitVec 16 × BitVec 16) x1), (1, vL 2 eWW (default : BitVec 16 × BitVec 16) x2), (6, .int .i64 r3)], [], [], 0⟩ ((callP Tryz.prog true 56 [] [] [] [] [] [vL 2 eWW (default : BitVec 16 × BitVec 16) x1, vL 2 eWW (default : BitVec 16 × BitVec 16) x2] [vL 2 eWW (default : BitVec 16 × BitVec 16) x1, vL 2 eWW (default : BitVec 16 × BitVec 16) x2] (.int .i64 r3) []) ∧ True) Tryz_mixed (by kernel_rfl) ⟨⟨fun _ => (f56_ok x1 x2 r3 hr3), fun _ => ⟨.refl _, .refl _, trivial⟩, .inl rfl⟩, trivial⟩ ?_
  refine thenQ_normal ?_
  refine AWp.seq ?_
  refine AWp.regC [] [] [0, 1, 6, 17] [] ⟨54, [(0, vL 2 eWW (default : BitVec 16 × BitVec 16) x1), (1, vL 2 eWW (default : BitVec 16 × BitVec 16) x2), (6, .int .i64 r3), (17, .bool (r3 != (0 : Int)))], [], [], 0⟩ (True) Tryz_mixed (by kernel_rfl) trivial ?_
  refine thenQ_normal ?_
  refine AWp.cond (b := (r3 != (0 : Int))) (by kernel_rfl) (fun hc1 => ?_) (fun hc1 => ?_)
  ·
    replace h := ite_tb hc1 h
    refine AWp.seq ?_
    refine AWp.regC [] [] [4, 5] [] ⟨54, [(4, .nils), (5, .int .i64 r3)], [], [], 0⟩ (True) Tryz_mixed (by kernel_rfl) trivial ?_
    refine thenQ_normal ?_
    refine AWp.le (Le.trans (Le.nilOwn (s := ⟨54, [(4, .nils), (5, .int .i64 r3)], [], [], 0⟩) 4 3000 30 2 (encF eWW (default : BitVec 16 × BitVec 16) []) rfl rfl (Nat.le_of_ble_eq_true rfl)) (Le.mk (s' := ⟨54, [(4, .own 3000), (5, .int .i64 r3)], [(3000, bL 30 2 eWW (default : BitVec 16 × BitVec 16) [])], [], 0⟩) rfl rfl ⟨.refl _, .refl _, trivial⟩ ⟨⟨_, rfl, .refl _⟩, trivial⟩)) ?_
    have hret := Option.some.inj h
    subst hret
    refine AWp.le (Le.mk (s := ⟨54, [(4, .own 3000), (5, .int .i64 r3)], [(3000, bL 30 2 eWW (default : BitVec 16 × BitVec 16) [])], [], 0⟩) (s' := ⟨54, [(4, .own 3000), (5, .int .i64 r3)], [(3000, bL 30 2 eWW (default : BitVec 16 × BitVec 16) [])], [], 0⟩) rfl rfl ⟨.refl _, .refl _, trivial⟩ ⟨⟨_, rfl, .refl _⟩, trivial⟩) ?_
    refine AWp.ret ?_
    refine thenQ_ret ?_
    exact bodyQ_ret _ rfl ⟨rfl, rfl⟩ rfl
  ·
    replace h := ite_fb hc1 h
    refine AWp.skip ?_
    refine thenQ_normal ?_
    refine AWp.seq ?_
    refine AWp.regC [] [] [0, 1, 7] [] ⟨54, [(0, vL 2 eWW (default : BitVec 16 × BitVec 16) x1), (1, vL 2 eWW (default : BitVec 16 × BitVec 16) x2), (7, .nils)], [], [], 0⟩ (True) Tryz_mixed (by kernel_rfl) trivial ?_
    refine thenQ_normal ?_
    obtain ⟨K1, hK1, h⟩ := jn_some h
    refine AWp.join (α := List (BitVec 16 × BitVec 16)) (fun (l11 : List (BitVec 16 × BitVec 16)) => ⟨54, [(7, .own 5007)], [(5007, bL 30 2 eWW (default : BitVec 16 × BitVec 16) l11)], [], 0⟩) (fun x => K1 x = some r) ?_ ?_
    ·
      refine AWp.seq ?_
      refine AWp.regC [] [] [1, 7, 19, 20, 21] [] ⟨54, [(1, vL 2 eWW (default : BitVec 16 × BitVec 16) x2), (7, .nils), (19, vL 2 eWW (default : BitVec 16 × BitVec 16) x1), (20, .int .i64 (((x1).length : Nat) : Int)), (21, .int .i64 (0 : Int))], [], [], 0⟩ (True) Tryz_mixed (by kernel_rfl) trivial ?_
      refine thenQ_normal ?_
      refine AWp.block ?_
      refine AWp.loopL (α := Nat × (Nat × (List (BitVec 16 × BitVec 16)))) (fun x => match x with | (_, n4, l5) => ⟨54, [(1, vL 2 eWW (default : BitVec 16 × BitVec 16) x2), (7, .own 5007), (19, vL 2 eWW (default : BitVec 16 × BitVec 16) x1), (20, .int .i64 (((x1).length : Nat) : Int)), (21, .int .i64 ((n4 : Nat) : Int))], [(5007, bL 30 2 eWW (default : BitVec 16 × BitVec 16) l5)], [], 0⟩) (fun x => f27_L0 x1 x2 K1 x.1 x.2 = some r) (fun x => x.1) (FUEL, 0, []) (Le.trans (Le.trans (Le.nilOwn (s := ⟨54, [(1, vL 2 eWW (default : BitVec 16 × BitVec 16) x2), (7, .nils), (19, vL 2 eWW (default : BitVec 16 × BitVec 16) x1), (20, .int .i64 (((x1).length : Nat) : Int)), (21, .int .i64 (0 : Int))], [], [], 0⟩) 7 5007 30 2 (encF eWW (default : BitVec 16 × BitVec 16) []) rfl rfl (Nat.le_of_ble_eq_true rfl)) (Le.mk (s' := ⟨54, [(1, vL 2 eWW (default : BitVec 16 × BitVec 16) x2), (7, .own 5007), (19, vL 2 eWW (default : BitVec 16 × BitVec 16) x1), (20, .int .i64 (((x1).length : Nat) : Int)), (21, .int .i64 (0 : Int))], [(5007, bL 30 2 eWW (default : BitVec 16 × BitVec 16) [])], [], 0⟩) rfl rfl ⟨.refl _, .refl _, .refl _, .refl _, .refl _, trivial⟩ ⟨⟨_, rfl, .refl _⟩, trivial⟩)) (Le.mk (s := ⟨54, [(1, vL 2 eWW (default : BitVec 16 × BitVec 16) x2), (7, .own 5007), (19, vL 2 eWW (default : BitVec 16 × BitVec 16) x1), (20, .int .i64 (((x1).length : Nat) : Int)), (21, .int .i64 (0 : Int))], [(5007, bL 30 2 eWW (default : BitVec 16 × BitVec 16) [])], [], 0⟩) (s' := ⟨54, [(1, vL 2 eWW (default : BitVec 16 × BitVec 16) x2), (7, .own 5007), (19, vL 2 eWW (default : BitVec 16 × BitVec 16) x1), (20, .int .i64 (((x1).length : Nat) : Int)), (21, .int .i64 (0 : Int))], [(5007, bL 30 2 eWW (default : BitVec 16 × BitVec 16) [])], [], 0⟩) rfl rfl ⟨.refl _, .refl _, .refl _, .refl _, .refl _, trivial⟩ ⟨⟨_, rfl, .refl _⟩, trivial⟩)) h ?_
      rintro ⟨k0, n4, l5⟩ h
      cases k0 with
      | zero => exact nomatch (show (none : Option (Int × (List (BitVec 16 × BitVec 16)))) = some r from h)
      | succ k0 =>
      obtain ⟨C0, hC0⟩ : ∃ C, C = f27_L0 x1 x2 K1 k0 := ⟨_, rfl⟩
      replace h := (f27_L0.eq_2 ..).symm.trans h
      try rw [← hC0] at h
      refine AWp.seq ?_
      refine AWp.regC [] [] [1, 7, 19, 20, 21, 22] [5007] ⟨54, [(1, vL 2 eWW (default : BitVec 16 × BitVec 16) x2), (7, .own 5007), (19, vL 2 eWW (default : BitVec 16 × BitVec 16) x1), (20, .int .i64 (((x1).length : Nat) : Int)), (21, .int .i64 ((n4 : Nat) : Int)), (22, .bool (decide (((n4 : Nat) : Int) < (((x1).length : Nat) : Int))))], [(5007, bL 30 2 eWW (default : BitVec 16 × BitVec 16) l5)], [], 0⟩ (True) Tryz_mixed (by kernel_rfl) trivial ?_
      refine thenQ_normal ?_
      refine AWp.seq ?_
      refine AWp.cond (b := (decide (((n4 : Nat) : Int) < (((x1).length : Nat) : Int)))) (by kernel_rfl) (fun hc2 => ?_) (fun hc2 => ?_)
      ·
        replace h := ite_tb hc2 h
        refine AWp.skip ?_
        refine thenQ_normal ?_
        obtain ⟨K2, hK2, h⟩ := jn_some h
        refine AWp.join (α := List (BitVec 16 × BitVec 16)) (fun (l10 : List (BitVec 16 × BitVec 16)) => ⟨54, [(1, vL 2 eWW (default : BitVec 16 × BitVec 16) x2), (7, .own 5007), (19, vL 2 eWW (default : BitVec 16 × BitVec 16) x1), (20, .int .i64 (((x1).length : Nat) : Int)), (21, .int .i64 ((n4 : Nat) : Int))], [(5007, bL 30 2 eWW (default : BitVec 16 × BitVec 16) l10)], [], 0⟩) (fun x => K2 x = some r) ?_ ?_
        ·
          refine AWp.block ?_
          refine AWp.seq ?_
          obtain ⟨ob0p, h⟩ := chk_some h
          have ob0 : 0 ≤ ((n4 : Nat) : Int) ∧ ((n4 : Nat) : Int) < (((x1).length : Nat) : Int) := ⟨by omega, ob0p⟩
          refine AWp.regC [] [] [1, 7, 9, 19, 20, 21] [9, 5007] ⟨54, [(1, vL 2 eWW (default : BitVec 16 × BitVec 16) x2), (7, .own 5007), (9, .ptr 9 0), (19, vL 2 eWW (default : BitVec 16 × BitVec 16) x1), (20, .int .i64 (((x1).length : Nat) : Int)), (21, .int .i64 ((n4 : Nat) : Int))], [(9, .cells 30 [.b16 (x1.getD n4 (default : BitVec 16 × BitVec 16)).1, .b16 (x1.getD n4 (default : BitVec 16 × BitVec 16)).2]), (5007, bL 30 2 eWW (default : BitVec 16 × BitVec 16) l5)], [], 0⟩ ((0 ≤ ((n4 : Nat) : Int) ∧ ((n4 : Nat) : Int) < (((x1).length : Nat) : Int)) ∧ (True) ∧ True) Tryz_mixed (by kernel_rfl) ⟨ob0, trivial, trivial⟩ ?_
          refine thenQ_normal ?_
          refine AWp.seq ?_
          refine AWp.regC [] [] [1, 7, 9, 19, 20, 21, 25, 26, 27] [9, 5007] ⟨54, [(1, vL 2 eWW (default : BitVec 16 × BitVec 16) x2), (7, .own 5007), (9, .ptr 9 0), (19, vL 2 eWW (default : BitVec 16 × BitVec 16) x1), (20, .int .i64 (((x1).length : Nat) : Int)), (21, .int .i64 ((n4 : Nat) : Int)), (25, vL 2 eWW (default : BitVec 16 × BitVec 16) x2), (26, .int .i64 (((x2).length : Nat) : Int)), (27, .int .i64 (0 : Int))], [(9, .cells 30 [.b16 (x1.getD n4 (default : BitVec 16 × BitVec 16)).1, .b16 (x1.getD n4 (default : BitVec 16 × BitVec 16)).2]), (5007, bL 30 2 eWW (default : BitVec 16 × BitVec 16) l5)], [], 0⟩ (True) Tryz_mixed (by kernel_rfl) trivial ?_
          refine thenQ_normal ?_
          refine AWp.block ?_
          refine AWp.loopL (α := Nat × (Nat × (List (BitVec 16 × BitVec 16)))) (fun x => match x with | (_, n6, l7) => ⟨54, [(1, vL 2 eWW (default : BitVec 16 × BitVec 16) x2), (7, .own 5007), (9, .ptr 9 0), (19, vL 2 eWW (default : BitVec 16 × BitVec 16) x1), (20, .int .i64 (((x1).length : Nat) : Int)), (21, .int .i64 ((n4 : Nat) : Int)), (25, vL 2 eWW (default : BitVec 16 × BitVec 16) x2), (26, .int .i64 (((x2).length : Nat) : Int)), (27, .int .i64 ((n6 : Nat) : Int))], [(9, .cells 30 [.b16 (x1.getD n4 (default : BitVec 16 × BitVec 16)).1, .b16 (x1.getD n4 (default : BitVec 16 × BitVec 16)).2]), (5007, bL 30 2 eWW (default : BitVec 16 × BitVec 16) l7)], [], 0⟩) (fun x => f27_L1 x1 x2 n4 K2 x.1 x.2 = some r) (fun x => x.1) (FUEL, 0, l5) (Le.mk (s := ⟨54, [(1, vL 2 eWW (default : BitVec 16 × BitVec 16) x2), (7, .own 5007), (9, .ptr 9 0), (19, vL 2 eWW (default : BitVec 16 × BitVec 16) x1), (20, .int .i64 (((x1).length : Nat) : Int)), (21, .int .i64 ((n4 : Nat) : Int)), (25, vL 2 eWW (default : BitVec 16 × BitVec 16) x2), (26, .int .i64 (((x2).length : Nat) : Int)), (27, .int .i64 (0 : Int))], [(9, .cells 30 [.b16 (x1.getD n4 (default : BitVec 16 × BitVec 16)).1, .b16 (x1.getD n4 (default : BitVec 16 × BitVec 16)).2]), (5007, bL 30 2 eWW (default : BitVec 16 × BitVec 16) l5)], [], 0⟩) (s' := ⟨54, [(1, vL 2 eWW (default : BitVec 16 × BitVec 16) x2), (7, .own 5007), (9, .ptr 9 0), (19, vL 2 eWW (default : BitVec 16 × BitVec 16) x1), (20, .int .i64 (((x1).length : Nat) : Int)), (21, .int .i64 ((n4 : Nat) : Int)), (25, vL 2 eWW (default : BitVec 16 × BitVec 16) x2), (26, .int .i64 (((x2).length : Nat) : Int)), (27, .int .i64 (0 : Int))], [(9, .cells 30 [.b16 (x1.getD n4 (default : BitVec 16 × BitVec 16)).1, .b16 (x1.getD n4 (default : BitVec 16 × BitVec 16)).2]), (5007, bL 30 2 eWW (default : BitVec 16 × BitVec 16) l5)], [], 0⟩) rfl rfl ⟨.refl _, .refl _, .refl _, .refl _, .refl _, .refl _, .refl _, .refl _, .refl _, trivial⟩ ⟨⟨_, rfl, .refl _⟩, ⟨_, rfl, .refl _⟩, trivial⟩) h ?_
          rintro ⟨k1, n6, l7⟩ h
          cases k1 with
          | zero => exact nomatch (show (none : Option (Int × (List (BitVec 16 × BitVec 16)))) = some r from h)
          | succ k1 =>
          obtain ⟨C1, hC1⟩ : ∃ C, C = f27_L1 x1 x2 n4 K2 k1 := ⟨_, rfl⟩
          replace h := (f27_L1.eq_2 ..).symm.trans h
          try rw [← hC1] at h
          refine AWp.seq ?_
          refine AWp.regC [] [] [1, 7, 9, 19, 20, 21, 25, 26, 27, 28] [9, 5007] ⟨54, [(1, vL 2 eWW (default : BitVec 16 × BitVec 16) x2), (7, .own 5007), (9, .ptr 9 0), (19, vL 2 eWW (default : BitVec 16 × BitVec 16) x1), (20, .int .i64 (((x1).length : Nat) : Int)), (21, .int .i64 ((n4 : Nat) : Int)), (25, vL 2 eWW (default : BitVec 16 × BitVec 16) x2), (26, .int .i64 (((x2).length : Nat) : Int)), (27, .int .i64 ((n6 : Nat) : Int)), (28, .bool (decide (((n6 : Nat) : Int) < (((x2).length : Nat) : Int))))], [(9, .cells 30 [.b16 (x1.getD n4 (default : BitVec 16 × BitVec 16)).1, .b16 (x1.getD n4 (default : BitVec 16 × BitVec 16)).2]), (5007, bL 30 2 eWW (default : BitVec 16 × BitVec 16) l7)], [], 0⟩ (True) Tryz_mixed (by kernel_rfl) trivial ?_
          refine thenQ_normal ?_
          refine AWp.seq ?_
          refine AWp.cond (b := (decide (((n6 : Nat) : Int) < (((x2).length : Nat) : Int)))) (by kernel_rfl) (fun hc3 => ?_) (fun hc3 => ?_)
          ·
            replace h := ite_tb hc3 h
            refine AWp.skip ?_
            refine thenQ_normal ?_
            refine AWp.seq ?_
            refine AWp.block ?_
            refine AWp.seq ?_
            obtain ⟨ob1p, h⟩ := chk_some h
            have ob1 : 0 ≤ ((n6 : Nat) : Int) ∧ ((n6 : Nat) : Int) < (((x2).length : Nat) : Int) := ⟨by omega, ob1p⟩
            refine AWp.regC [] [] [1, 7, 9, 11, 19, 20, 21, 25, 26, 27] [9, 11, 5007] ⟨54, [(1, vL 2 eWW (default : BitVec 16 × BitVec 16) x2), (7, .own 5007), (9, .ptr 9 0), (11, .ptr 11 0), (19, vL 2 eWW (default : BitVec 16 × BitVec 16) x1), (20, .int .i64 (((x1).length : Nat) : Int)), (21, .int .i64 ((n4 : Nat) : Int)), (25, vL 2 eWW (default : BitVec 16 × BitVec 16) x2), (26, .int .i64 (((x2).length : Nat) : Int)), (27, .int .i64 ((n6 : Nat) : Int))], [(9, .cells 30 [.b16 (x1.getD n4 (default : BitVec 16 × BitVec 16)).1, .b16 (x1.getD n4 (default : BitVec 16 × BitVec 16)).2]), (11, .cells 30 [.b16 (x2.getD n6 (default : BitVec 16 × BitVec 16)).1, .b16 (x2.getD n6 (default : BitVec 16 × BitVec 16)).2]), (5007, bL 30 2 eWW (default : BitVec 16 × BitVec 16) l7)], [], 0⟩ ((0 ≤ ((n6 : Nat) : Int) ∧ ((n6 : Nat) : Int) < (((x2).length : Nat) : Int)) ∧ (True) ∧ True) Tryz_mixed (by kernel_rfl) ⟨ob1, trivial, trivial⟩ ?_
            refine thenQ_normal ?_
            refine AWp.seq ?_
            refine AWp.regC [] [] [1, 7, 9, 11, 12, 19, 20, 21, 25, 26, 27] [9, 11, 5007] ⟨54, [(1, vL 2 eWW (default : BitVec 16 × BitVec 16) x2), (7, .own 5007), (9, .ptr 9 0), (11, .ptr 11 0), (12, .b16 ((x1.getD n4 (default : BitVec 16 × BitVec 16)).1 &&& (x2.getD n6 (default : BitVec 16 × BitVec 16)).1)), (19, vL 2 eWW (default : BitVec 16 × BitVec 16) x1), (20, .int .i64 (((x1).length : Nat) : Int)), (21, .int .i64 ((n4 : Nat) : Int)), (25, vL 2 eWW (default : BitVec 16 × BitVec 16) x2), (26, .int .i64 (((x2).length : Nat) : Int)), (27, .int .i64 ((n6 : Nat) : Int))], [(9, .cells 30 [.b16 (x1.getD n4 (default : BitVec 16 × BitVec 16)).1, .b16 (x1.getD n4 (default : BitVec 16 × BitVec 16)).2]), (11, .cells 30 [.b16 (x2.getD n6 (default : BitVec 16 × BitVec 16)).1, .b16 (x2.getD n6 (default : BitVec 16 × BitVec 16)).2]), (5007, bL 30 2 eWW (default : BitVec 16 × BitVec 16) l7)], [], 0⟩ (True) Tryz_mixed (by kernel_rfl) trivial ?_
            refine thenQ_normal ?_
            obtain ⟨r8, hr8, h⟩ := bind_ok h
            obtain ⟨r9, hr9, h⟩ := bind_ok h
            obtain ⟨ob2, h⟩ := chk_some h
            refine AWp.regC [] [(3, ⟨[.agg [.b16 (x1.getD n4 (default : BitVec 16 × BitVec 16)).1, .b16 (x1.getD n4 (default : BitVec 16 × BitVec 16)).2]], [], [], [], .b16 r8, [], [], []⟩), (5, ⟨[.agg [.b16 (x2.getD n6 (default : BitVec 16 × BitVec 16)).1, .b16 (x2.getD n6 (default : BitVec 16 × BitVec 16)).2]], [], [], [], .b16 r9, [], [], []⟩)] [1, 7, 9, 19, 20, 21, 25, 26, 27] [9, 5007] ⟨54, [(1, vL 2 eWW (default : BitVec 16 × BitVec 16) x2), (7, .own 5007), (9, .ptr 9 0), (19, vL 2 eWW (default : BitVec 16 × BitVec 16) x1), (20, .int .i64 (((x1).length : Nat) : Int)), (21, .int .i64 ((n4 : Nat) : Int)), (25, vL 2 eWW (default : BitVec 16 × BitVec 16) x2), (26, .int .i64 (((x2).length : Nat) : Int)), (27, .int .i64 ((n6 : Nat) : Int))], [(9, .cells 30 [.b16 (x1.getD n4 (default : BitVec 16 × BitVec 16)).1, .b16 (x1.getD n4 (default : BitVec 16 × BitVec 16)).2]), (5007, .rows 30 2 ((l7).length + 1) (appF (l7).length (encF eWW (default : BitVec 16 × BitVec 16) l7) (lstF 2 [.b16 ((x1.getD n4 (default : BitVec 16 × BitVec 16)).1 &&& (x2.getD n6 (default : BitVec 16 × BitVec 16)).1), .b16 ((r8 &&& r9) &&& ~~~((x1.getD n4 (default : BitVec 16 × BitVec 16)).1 &&& (x2.getD n6 (default : BitVec 16 × BitVec 16)).1))])))], [], 0⟩ ((callP Tryz.prog true 46 [] [] [] [] [] [.agg [.b16 (x1.getD n4 (default : BitVec 16 × BitVec 16)).1, .b16 (x1.getD n4 (default : BitVec 16 × BitVec 16)).2]] [.agg [.b16 (x1.getD n4 (default : BitVec 16 × BitVec 16)).1, .b16 (x1.getD n4 (default : BitVec 16 × BitVec 16)).2]] (.b16 r8) []) ∧ (callP Tryz.prog true 46 [] [] [] [] [] [.agg [.b16 (x2.getD n6 (default : BitVec 16 × BitVec 16)).1, .b16 (x2.getD n6 (default : BitVec 16 × BitVec 16)).2]] [.agg [.b16 (x2.getD n6 (default : BitVec 16 × BitVec 16)).1, .b16 (x2.getD n6 (default : BitVec 16 × BitVec 16)).2]] (.b16 r9) []) ∧ (((l7).length + 1) * 4 ≤ 140737488355328) ∧ True) Tryz_mixed (by kernel_rfl) ⟨⟨fun _ => (f46_ok ((x1.getD n4 (default : BitVec 16 × BitVec 16)).1) ((x1.getD n4 (default : BitVec 16 × BitVec 16)).2) r8 hr8), fun _ => ⟨.refl _, trivial⟩, .inl rfl⟩, ⟨fun _ => (f46_ok ((x2.getD n6 (default : BitVec 16 × BitVec 16)).1) ((x2.getD n6 (default : BitVec 16 × BitVec 16)).2) r9 hr9), fun _ => ⟨.refl _, trivial⟩, .inl rfl⟩, ob2, trivial⟩ ?_
            refine blockQ_normal ?_
            refine thenQ_normal ?_
            refine AWp.le (Le.mk (s := ⟨54, [(1, vL 2 eWW (default : BitVec 16 × BitVec 16) x2), (7, .own 5007), (9, .ptr 9 0), (19, vL 2 eWW (default : BitVec 16 × BitVec 16) x1), (20, .int .i64 (((x1).length : Nat) : Int)), (21, .int .i64 ((n4 : Nat) : Int)), (25, vL 2 eWW (default : BitVec 16 × BitVec 16) x2), (26, .int .i64 (((x2).length : Nat) : Int)), (27, .int .i64 ((n6 : Nat) : Int))], [(9, .cells 30 [.b16 (x1.getD n4 (default : BitVec 16 × BitVec 16)).1, .b16 (x1.getD n4 (default : BitVec 16 × BitVec 16)).2]), (5007, .rows 30 2 ((l7).length + 1) (appF (l7).length (encF eWW (default : BitVec 16 × BitVec 16) l7) (lstF 2 [.b16 ((x1.getD n4 (default : BitVec 16 × BitVec 16)).1 &&& (x2.getD n6 (default : BitVec 16 × BitVec 16)).1), .b16 ((r8 &&& r9) &&& ~~~((x1.getD n4 (default : BitVec 16 × BitVec 16)).1 &&& (x2.getD n6 (default : BitVec 16 × BitVec 16)).1))])))], [], 0⟩) (s' := ⟨54, [(1, vL 2 eWW (default : BitVec 16 × BitVec 16) x2), (7, .own 5007), (9, .ptr 9 0), (19, vL 2 eWW (default : BitVec 16 × BitVec 16) x1), (20, .int .i64 (((x1).length : Nat) : Int)), (21, .int .i64 ((n4 : Nat) : Int)), (25, vL 2 eWW (default : BitVec 16 × BitVec 16) x2), (26, .int .i64 (((x2).length : Nat) : Int)), (27, .int .i64 ((n6 : Nat) : Int))], [(9, .cells 30 [.b16 (x1.getD n4 (default : BitVec 16 × BitVec 16)).1, .b16 (x1.getD n4 (default : BitVec 16 × BitVec 16)).2]), (5007, bL 30 2 eWW (default : BitVec 16 × BitVec 16) (l7 ++ [(((x1.getD n4 (default : BitVec 16 × BitVec 16)).1 &&& (x2.getD n6 (default : BitVec 16 × BitVec 16)).1), ((r8 &&& r9) &&& ~~~((x1.getD n4 (default : BitVec 16 × BitVec 16)).1 &&& (x2.getD n6 (default : BitVec 16 × BitVec 16)).1)))]))], [], 0⟩) rfl rfl ⟨.refl _, .refl _, .refl _, .refl _, .refl _, .refl _, .refl _, .refl _, .refl _, trivial⟩ ⟨⟨_, rfl, .refl _⟩, ⟨_, rfl, (BLe.of (RL.app (RL.self _) (RL.lst (enc := eWW) [(((x1.getD n4 (default : BitVec 16 × BitVec 16)).1 &&& (x2.getD n6 (default : BitVec 16 × BitVec 16)).1), ((r8 &&& r9) &&& ~~~((x1.getD n4 (default : BitVec 16 × BitVec 16)).1 &&& (x2.getD n6 (default : BitVec 16 × BitVec 16)).1)))] rfl rfl (fun _ => rfl))))⟩, trivial⟩) ?_
            obtain ⟨ob3p, h⟩ := chk_some h
            have ob3 : -9223372036854775808 ≤ (((n6 : Nat) : Int) + (1 : Int)) ∧ (((n6 : Nat) : Int) + (1 : Int)) ≤ 9223372036854775807 := ⟨by omega, ob3p⟩
            refine AWp.regC [] [] [1, 7, 9, 19, 20, 21, 25, 26, 27] [9, 5007] ⟨54, [(1, vL 2 eWW (default : BitVec 16 × BitVec 16) x2), (7, .own 5007), (9, .ptr 9 0), (19, vL 2 eWW (default : BitVec 16 × BitVec 16) x1), (20, .int .i64 (((x1).length : Nat) : Int)), (21, .int .i64 ((n4 : Nat) : Int)), (25, vL 2 eWW (default : BitVec 16 × BitVec 16) x2), (26, .int .i64 (((x2).length : Nat) : Int)), (27, .int .i64 (((n6 + 1) : Nat) : Int))], [(9, .cells 30 [.b16 (x1.getD n4 (default : BitVec 16 × BitVec 16)).1, .b16 (x1.getD n4 (default : BitVec 16 × BitVec 16)).2]), (5007, bL 30 2 eWW (default : BitVec 16 × BitVec 16) (l7 ++ [(((x1.getD n4 (default : BitVec 16 × BitVec 16)).1 &&& (x2.getD n6 (default : BitVec 16 × BitVec 16)).1), ((r8 &&& r9) &&& ~~~((x1.getD n4 (default : BitVec 16 × BitVec 16)).1 &&& (x2.getD n6 (default : BitVec 16 × BitVec 16)).1)))]))], [], 0⟩ ((-9223372036854775808 ≤ (((n6 : Nat) : Int) + (1 : Int)) ∧ (((n6 : Nat) : Int) + (1 : Int)) ≤ 9223372036854775807) ∧ True) Tryz_mixed (by kernel_rfl) ⟨ob3, trivial⟩ ?_
            rw [hC1] at h
            exact loopQ_normal (_, (n6 + 1), (l7 ++ [(((x1.getD n4 (default : BitVec 16 × BitVec 16)).1 &&& (x2.getD n6 (default : BitVec 16 × BitVec 16)).1), ((r8 &&& r9) &&& ~~~((x1.getD n4 (default : BitVec 16 × BitVec 16)).1 &&& (x2.getD n6 (default : BitVec 16 × BitVec 16)).1)))])) (Le.mk (s := ⟨54, [(1, vL 2 eWW (default : BitVec 16 × BitVec 16) x2), (7, .own 5007), (9, .ptr 9 0), (19, vL 2 eWW (default : BitVec 16 × BitVec 16) x1), (20, .int .i64 (((x1).length : Nat) : Int)), (21, .int .i64 ((n4 : Nat) : Int)), (25, vL 2 eWW (default : BitVec 16 × BitVec 16) x2), (26, .int .i64 (((x2).length : Nat) : Int)), (27, .int .i64 (((n6 + 1) : Nat) : Int))], [(9, .cells 30 [.b16 (x1.getD n4 (default : BitVec 16 × BitVec 16)).1, .b16 (x1.getD n4 (default : BitVec 16 × BitVec 16)).2]), (5007, bL 30 2 eWW (default : BitVec 16 × BitVec 16) (l7 ++ [(((x1.getD n4 (default : BitVec 16 × BitVec 16)).1 &&& (x2.getD n6 (default : BitVec 16 × BitVec 16)).1), ((r8 &&& r9) &&& ~~~((x1.getD n4 (default : BitVec 16 × BitVec 16)).1 &&& (x2.getD n6 (default : BitVec 16 × BitVec 16)).1)))]))], [], 0⟩) (s' := ⟨54, [(1, vL 2 eWW (default : BitVec 16 × BitVec 16) x2), (7, .own 5007), (9, .ptr 9 0), (19, vL 2 eWW (default : BitVec 16 × BitVec 16) x1), (20, .int .i64 (((x1).length : Nat) : Int)), (21, .int .i64 ((n4 : Nat) : Int)), (25, vL 2 eWW (default : BitVec 16 × BitVec 16) x2), (26, .int .i64 (((x2).length : Nat) : Int)), (27, .int .i64 (((n6 + 1) : Nat) : Int))], [(9, .cells 30 [.b16 (x1.getD n4 (default : BitVec 16 × BitVec 16)).1, .b16 (x1.getD n4 (default : BitVec 16 × BitVec 16)).2]), (5007, bL 30 2 eWW (default : BitVec 16 × BitVec 16) (l7 ++ [(((x1.getD n4 (default : BitVec 16 × BitVec 16)).1 &&& (x2.getD n6 (default : BitVec 16 × BitVec 16)).1), ((r8 &&& r9) &&& ~~~((x1.getD n4 (default : BitVec 16 × BitVec 16)).1 &&& (x2.getD n6 (default : BitVec 16 × BitVec 16)).1)))]))], [], 0⟩) rfl rfl ⟨.refl _, .refl _, .refl _, .refl _, .refl _, .refl _, .refl _, .refl _, .refl _, trivial⟩ ⟨⟨_, rfl, .refl _⟩, ⟨_, rfl, .refl _⟩, trivial⟩) h (Nat.lt_succ_self _)
          ·
            replace h := ite_fb hc3 h
            refine AWp.exit ?_
            refine thenQ_exit ?_
            refine thenQ_exit ?_
            refine blockQ_same ?_
            refine blockQ_normal ?_
            exact joinQ_normal (l7) (Le.mk (s := ⟨54, [(1, vL 2 eWW (default : BitVec 16 × BitVec 16) x2), (7, .own 5007), (9, .ptr 9 0), (19, vL 2 eWW (default : BitVec 16 × BitVec 16) x1), (20, .int .i64 (((x1).length : Nat) : Int)), (21, .int .i64 ((n4 : Nat) : Int)), (25, vL 2 eWW (default : BitVec 16 × BitVec 16) x2), (26, .int .i64 (((x2).length : Nat) : Int)), (27, .int .i64 ((n6 : Nat) : Int)), (28, .bool (decide (((n6 : Nat) : Int) < (((x2).length : Nat) : Int))))], [(9, .cells 30 [.b16 (x1.getD n4 (default : BitVec 16 × BitVec 16)).1, .b16 (x1.getD n4 (default : BitVec 16 × BitVec 16)).2]), (5007, bL 30 2 eWW (default : BitVec 16 × BitVec 16) l7)], [], 0⟩) (s' := ⟨54, [(1, vL 2 eWW (default : BitVec 16 × BitVec 16) x2), (7, .own 5007), (19, vL 2 eWW (default : BitVec 16 × BitVec 16) x1), (20, .int .i64 (((x1).length : Nat) : Int)), (21, .int .i64 ((n4 : Nat) : Int))], [(5007, bL 30 2 eWW (default : BitVec 16 × BitVec 16) l7)], [], 0⟩) rfl rfl ⟨.refl _, .refl _, .refl _, .refl _, .refl _, trivial⟩ ⟨⟨_, rfl, .refl _⟩, trivial⟩) h
        ·
          rintro l10 h
          replace h := (congrFun hK2 _).symm.trans h
          obtain ⟨ob4p, h⟩ := chk_some h
          have ob4 : -9223372036854775808 ≤ (((n4 : Nat) : Int) + (1 : Int)) ∧ (((n4 : Nat) : Int) + (1 : Int)) ≤ 9223372036854775807 := ⟨by omega, ob4p⟩
          refine AWp.regC [] [] [1, 7, 19, 20, 21] [5007] ⟨54, [(1, vL 2 eWW (default : BitVec 16 × BitVec 16) x2), (7, .own 5007), (19, vL 2 eWW (default : BitVec 16 × BitVec 16) x1), (20, .int .i64 (((x1).length : Nat) : Int)), (21, .int .i64 (((n4 + 1) : Nat) : Int))], [(5007, bL 30 2 eWW (default : BitVec 16 × BitVec 16) l10)], [], 0⟩ ((-9223372036854775808 ≤ (((n4 : Nat) : Int) + (1 : Int)) ∧ (((n4 : Nat) : Int) + (1 : Int)) ≤ 9223372036854775807) ∧ True) Tryz_mixed (by kernel_rfl) ⟨ob4, trivial⟩ ?_
          rw [hC0] at h
          exact loopQ_normal (_, (n4 + 1), l10) (Le.mk (s := ⟨54, [(1, vL 2 eWW (default : BitVec 16 × BitVec 16) x2), (7, .own 5007), (19, vL 2 eWW (default : BitVec 16 × BitVec 16) x1), (20, .int .i64 (((x1).length : Nat) : Int)), (21, .int .i64 (((n4 + 1) : Nat) : Int))], [(5007, bL 30 2 eWW (default : BitVec 16 × BitVec 16) l10)], [], 0⟩) (s' := ⟨54, [(1, vL 2 eWW (default : BitVec 16 × BitVec 16) x2), (7, .own 5007), (19, vL 2 eWW (default : BitVec 16 × BitVec 16) x1), (20, .int .i64 (((x1).length : Nat) : Int)), (21, .int .i64 (((n4 + 1) : Nat) : Int))], [(5007, bL 30 2 eWW (default : BitVec 16 × BitVec 16) l10)], [], 0⟩) rfl rfl ⟨.refl _, .refl _, .refl _, .refl _, .refl _, trivial⟩ ⟨⟨_, rfl, .refl _⟩, trivial⟩) h (Nat.lt_succ_self _)
      ·
        replace h := ite_fb hc2 h
        refine AWp.exit ?_
        refine thenQ_exit ?_
        refine thenQ_exit ?_
        refine blockQ_same ?_
        exact joinQ_normal (l5) (Le.mk (s := ⟨54, [(1, vL 2 eWW (default : BitVec 16 × BitVec 16) x2), (7, .own 5007), (19, vL 2 eWW (default : BitVec 16 × BitVec 16) x1), (20, .int .i64 (((x1).length : Nat) : Int)), (21, .int .i64 ((n4 : Nat) : Int)), (22, .bool (decide (((n4 : Nat) : Int) < (((x1).length : Nat) : Int))))], [(5007, bL 30 2 eWW (default : BitVec 16 × BitVec 16) l5)], [], 0⟩) (s' := ⟨54, [(7, .own 5007)], [(5007, bL 30 2 eWW (default : BitVec 16 × BitVec 16) l5)], [], 0⟩) rfl rfl ⟨.refl _, trivial⟩ ⟨⟨_, rfl, .refl _⟩, trivial⟩) h
    ·
      rintro l11 h
      replace h := (congrFun hK1 _).symm.trans h
      refine AWp.seq ?_
      obtain ⟨r12, hr12, h⟩ := bind_ok h
      refine AWp.regC [] [(1, ⟨[vL 2 eWW (default : BitVec 16 × BitVec 16) l11], [], [], [(6001, bL 30 2 eWW (default : BitVec 16 × BitVec 16) r12.2)], .tup [.own 6001, .int .i64 r12.1], [6001], [5007], []⟩)] [4, 5] [6001] ⟨54, [(4, .own 6001), (5, .int .i64 r12.1)], [(6001, bL 30 2 eWW (default : BitVec 16 × BitVec 16) r12.2)], [], 0⟩ ((callP Tryz.prog true 54 [] [] [] [(5007, bL 30 2 eWW (default : BitVec 16 × BitVec 16) l11)] [5007] [.own 5007] [vL 2 eWW (default : BitVec 16 × BitVec 16) l11] (.tup [.own 6001, .int .i64 r12.1]) [(6001, bL 30 2 eWW (default : BitVec 16 × BitVec 16) r12.2)]) ∧ True) Tryz_mixed (by kernel_rfl) ⟨⟨fun _ => (Spec1.ren (swapN 3000 6001) (swapN_inv 3000 6001) rfl (f54_ok l11 r12 hr12)), fun _ => ⟨.refl _, trivial⟩, .inr ⟨rfl, ⟨(fun _ _ _ _ => eWW_flat _ _), trivial⟩⟩⟩, trivial⟩ ?_
      refine thenQ_normal ?_
      refine AWp.le (Le.trans (Le.ren (s := ⟨54, [(4, .own 6001), (5, .int .i64 r12.1)], [(6001, bL 30 2 eWW (default : BitVec 16 × BitVec 16) r12.2)], [], 0⟩) (swapN 6001 3000) (swapN_inv 6001 3000) rfl) (Le.mk (s' := ⟨54, [(4, .own 3000), (5, .int .i64 r12.1)], [(3000, bL 30 2 eWW (default : BitVec 16 × BitVec 16) r12.2)], [], 0⟩) rfl rfl ⟨.refl _, .refl _, trivial⟩ ⟨⟨_, rfl, .refl _⟩, trivial⟩)) ?_
      have hret := Option.some.inj h
      subst hret
      refine AWp.le (Le.mk (s := ⟨54, [(4, .own 3000), (5, .int .i64 r12.1)], [(3000, bL 30 2 eWW (default : BitVec 16 × BitVec 16) r12.2)], [], 0⟩) (s' := ⟨54, [(4, .own 3000), (5, .int .i64 r12.1)], [(3000, bL 30 2 eWW (default : BitVec 16 × BitVec 16) r12.2)], [], 0⟩) rfl rfl ⟨.refl _, .refl _, trivial⟩ ⟨⟨_, rfl, .refl _⟩, trivial⟩) ?_
      refine AWp.ret ?_
      exact bodyQ_ret _ rfl ⟨rfl, rfl⟩ rfl
def f22_L0 (x1 : List (BitVec 16 × BitVec 16)) (x2 : List (BitVec 16 × BitVec 16)) (K1 : Unit → Option Bool) : Nat → Nat → Option Bool
  | 0, _ => none
  | k + 1, n3 =>
    if (decide (((n3 : Nat) : Int) < (((x1).length : Nat) : Int))) then (
    chk (((n3 : Nat) : Int) < (((x1).length : Nat) : Int)) <|
    chk (((n3 : Nat) : Int) < (((x2).length : Nat) : Int)) <|
    if (!((((x1.getD n3 (default : BitVec 16 × BitVec 16)).1) == ((x2.getD n3 (default : BitVec 16 × BitVec 16)).1)) && ((((x1.getD n3 (default : BitVec 16 × BitVec 16)).2) == ((x2.getD n3 (default : BitVec 16 × BitVec 16)).2)) && true))) then (
    some false
    ) else (
    chk ((((n3 : Nat) : Int) + (1 : Int)) ≤ 9223372036854775807) <|
    (f22_L0 x1 x2 K1 k) (n3 + 1)
    )
    ) else (
    K1 ()
    )
def f22 (x1 : List (BitVec 16 × BitVec 16)) (x2 : List (BitVec 16 × BitVec 16)) : Option Bool :=
  if ((((x1).length : Nat) : Int) != (((x2).length : Nat) : Int)) then (
  some false
  ) else (
  jn (fun (_ : Unit) =>
  some true
  ) fun (K1 : Unit → Option Bool) =>
  f22_L0 x1 x2 K1 FUEL 0
  )
set_option maxRecDepth 100000 in
theorem f22_ok  (x1 : List (BitVec 16 × BitVec 16)) (x2 : List (BitVec 16 × BitVec 16)) (r : Bool) (h : f22 x1 x2 = some r)  : Spec1 Tryz.prog 22 [] [] [] [vL 2 eWW (default : BitVec 16 × BitVec 16) x1, vL 2 eWW (default : BitVec 16 × BitVec 16) x2] (.bool r) [] := by
  unfold f22 at h
  refine Spec1.body 0 _ _ Tryz.func22 rfl Tryz.ntmps22 rfl rfl ?_
  refine AWp.seq ?_
  refine AWp.regC [] [] [0, 1] [] ⟨26, [(0, vL 2 eWW (default : BitVec 16 × BitVec 16) x1), (1, vL 2 eWW (default : BitVec 16 × BitVec 16) x2)], [], [], 0⟩ (True) Tryz_mixed (by kernel_rfl) trivial ?_
  refine thenQ_normal ?_
  refine AWp.seq ?_
  refine AWp.seq ?_
  refine AWp.regC [] [] [0, 1, 10] [] ⟨26, [(0, vL 2 eWW (default : BitVec 16 × BitVec 16) x1), (1, vL 2 eWW (default : BitVec 16 × BitVec 16) x2), (10, .bool ((((x1).length : Nat) : Int) != (((x2).length : Nat) : Int)))], [], [], 0⟩ (True) Tryz_mixed (by kernel_rfl) trivial ?_
  refine thenQ_normal ?_
  refine AWp.cond (b := ((((x1).length : Nat) : Int) != (((x2).length : Nat) : Int))) (by kernel_rfl) (fun hc1 => ?_) (fun hc1 => ?_)
  ·
    replace h := ite_tb hc1 h
    refine AWp.seq ?_
    refine AWp.regC [] [] [4] [] ⟨26, [(4, .bool false)], [], [], 0⟩ (True) Tryz_mixed (by kernel_rfl) trivial ?_
    refine thenQ_normal ?_
    have hret := Option.some.inj h
    subst hret
    refine AWp.le (Le.mk (s := ⟨26, [(4, .bool false)], [], [], 0⟩) (s' := ⟨26, [(4, .bool false)], [], [], 0⟩) rfl rfl ⟨.refl _, trivial⟩ trivial) ?_
    refine AWp.ret ?_
    refine thenQ_ret ?_
    exact bodyQ_ret _ rfl ⟨rfl, rfl⟩ rfl
  ·
    replace h := ite_fb hc1 h
    refine AWp.skip ?_
    refine thenQ_normal ?_
    obtain ⟨K1, hK1, h⟩ := jn_some h
    refine AWp.join (α := Unit) (fun (x : Unit) => match x with | () => ⟨26, [], [], [], 0⟩) (fun x => K1 x = some r) ?_ ?_
    ·
      refine AWp.seq ?_
      refine AWp.regC [] [] [0, 1, 5] [] ⟨26, [(0, vL 2 eWW (default : BitVec 16 × BitVec 16) x1), (1, vL 2 eWW (default : BitVec 16 × BitVec 16) x2), (5, .int .i64 (0 : Int))], [], [], 0⟩ (True) Tryz_mixed (by kernel_rfl) trivial ?_
      refine thenQ_normal ?_
      refine AWp.block ?_
      refine AWp.loopL (α := Nat × Nat) (fun x => match x with | (_, n3) => ⟨26, [(0, vL 2 eWW (default : BitVec 16 × BitVec 16) x1), (1, vL 2 eWW (default : BitVec 16 × BitVec 16) x2), (5, .int .i64 ((n3 : Nat) : Int))], [], [], 0⟩) (fun x => f22_L0 x1 x2 K1 x.1 x.2 = some r) (fun x => x.1) (FUEL, 0) (Le.mk (s := ⟨26, [(0, vL 2 eWW (default : BitVec 16 × BitVec 16) x1), (1, vL 2 eWW (default : BitVec 16 × BitVec 16) x2), (5, .int .i64 (0 : Int))], [], [], 0⟩) (s' := ⟨26, [(0, vL 2 eWW (default : BitVec 16 × BitVec 16) x1), (1, vL 2 eWW (default : BitVec 16 × BitVec 16) x2), (5, .int .i64 (0 : Int))], [], [], 0⟩) rfl rfl ⟨.refl _, .refl _, .refl _, trivial⟩ trivial) h ?_
      rintro ⟨k0, n3⟩ h
      cases k0 with
      | zero => exact nomatch (show (none : Option Bool) = some r from h)
      | succ k0 =>
      obtain ⟨C0, hC0⟩ : ∃ C, C = f22_L0 x1 x2 K1 k0 := ⟨_, rfl⟩
      replace h := (f22_L0.eq_2 ..).symm.trans h
      try rw [← hC0] at h
      refine AWp.seq ?_
      refine AWp.seq ?_
      refine AWp.regC [] [] [0, 1, 5, 14] [] ⟨26, [(0, vL 2 eWW (default : BitVec 16 × BitVec 16) x1), (1, vL 2 eWW (default : BitVec 16 × BitVec 16) x2), (5, .int .i64 ((n3 : Nat) : Int)), (14, .bool (decide (((n3 : Nat) : Int) < (((x1).length : Nat) : Int))))], [], [], 0⟩ (True) Tryz_mixed (by kernel_rfl) trivial ?_
      refine thenQ_normal ?_
      refine AWp.cond (b := (decide (((n3 : Nat) : Int) < (((x1).length : Nat) : Int)))) (by kernel_rfl) (fun hc2 => ?_) (fun hc2 => ?_)
      ·
        replace h := ite_tb hc2 h
        refine AWp.skip ?_
        refine thenQ_normal ?_
        refine AWp.seq ?_
        refine AWp.block ?_
        refine AWp.seq ?_
        obtain ⟨ob0p, h⟩ := chk_some h
        have ob0 : 0 ≤ ((n3 : Nat) : Int) ∧ ((n3 : Nat) : Int) < (((x1).length : Nat) : Int) := ⟨by omega, ob0p⟩
        obtain ⟨ob1p, h⟩ := chk_some h
        have ob1 : 0 ≤ ((n3 : Nat) : Int) ∧ ((n3 : Nat) : Int) < (((x2).length : Nat) : Int) := ⟨by omega, ob1p⟩
        refine AWp.regC [] [] [0, 1, 5, 25] [] ⟨26, [(0, vL 2 eWW (default : BitVec 16 × BitVec 16) x1), (1, vL 2 eWW (default : BitVec 16 × BitVec 16) x2), (5, .int .i64 ((n3 : Nat) : Int)), (25, .bool (!((((x1.getD n3 (default : BitVec 16 × BitVec 16)).1) == ((x2.getD n3 (default : BitVec 16 × BitVec 16)).1)) && ((((x1.getD n3 (default : BitVec 16 × BitVec 16)).2) == ((x2.getD n3 (default : BitVec 16 × BitVec 16)).2)) && true))))], [], [], 0⟩ ((0 ≤ ((n3 : Nat) : Int) ∧ ((n3 : Nat) : Int) < (((x1).length : Nat) : Int)) ∧ (0 ≤ ((n3 : Nat) : Int) ∧ ((n3 : Nat) : Int) < (((x2).length : Nat) : Int)) ∧ True) Tryz_mixed (by kernel_rfl) ⟨ob0, ob1, trivial⟩ ?_
        refine thenQ_normal ?_
        refine AWp.cond (b := (!((((x1.getD n3 (default : BitVec 16 × BitVec 16)).1) == ((x2.getD n3 (default : BitVec 16 × BitVec 16)).1)) && ((((x1.getD n3 (default : BitVec 16 × BitVec 16)).2) == ((x2.getD n3 (default : BitVec 16 × BitVec 16)).2)) && true)))) (by kernel_rfl) (fun hc3 => ?_) (fun hc3 => ?_)
        ·
          replace h := ite_tb hc3 h
          refine AWp.seq ?_
          refine AWp.regC [] [] [4] [] ⟨26, [(4, .bool false)], [], [], 0⟩ (True) Tryz_mixed (by kernel_rfl) trivial ?_
          refine thenQ_normal ?_
          have hret := Option.some.inj h
          subst hret
          refine AWp.le (Le.mk (s := ⟨26, [(4, .bool false)], [], [], 0⟩) (s' := ⟨26, [(4, .bool false)], [], [], 0⟩) rfl rfl ⟨.refl _, trivial⟩ trivial) ?_
          refine AWp.ret ?_
          refine blockQ_ret ?_
          refine thenQ_ret ?_
          refine thenQ_ret ?_
          refine blockQ_ret ?_
          refine joinQ_ret ?_
          exact bodyQ_ret _ rfl ⟨rfl, rfl⟩ rfl
        ·
          replace h := ite_fb hc3 h
          refine AWp.skip ?_
          refine blockQ_normal ?_
          refine thenQ_normal ?_
          obtain ⟨ob2p, h⟩ := chk_some h
          have ob2 : -9223372036854775808 ≤ (((n3 : Nat) : Int) + (1 : Int)) ∧ (((n3 : Nat) : Int) + (1 : Int)) ≤ 9223372036854775807 := ⟨by omega, ob2p⟩
          refine AWp.regC [] [] [0, 1, 5] [] ⟨26, [(0, vL 2 eWW (default : BitVec 16 × BitVec 16) x1), (1, vL 2 eWW (default : BitVec 16 × BitVec 16) x2), (5, .int .i64 (((n3 + 1) : Nat) : Int))], [], [], 0⟩ ((-9223372036854775808 ≤ (((n3 : Nat) : Int) + (1 : Int)) ∧ (((n3 : Nat) : Int) + (1 : Int)) ≤ 9223372036854775807) ∧ True) Tryz_mixed (by kernel_rfl) ⟨ob2, trivial⟩ ?_
          rw [hC0] at h
          exact loopQ_normal (_, (n3 + 1)) (Le.mk (s := ⟨26, [(0, vL 2 eWW (default : BitVec 16 × BitVec 16) x1), (1, vL 2 eWW (default : BitVec 16 × BitVec 16) x2), (5, .int .i64 (((n3 + 1) : Nat) : Int))], [], [], 0⟩) (s' := ⟨26, [(0, vL 2 eWW (default : BitVec 16 × BitVec 16) x1), (1, vL 2 eWW (default : BitVec 16 × BitVec 16) x2), (5, .int .i64 (((n3 + 1) : Nat) : Int))], [], [], 0⟩) rfl rfl ⟨.refl _, .refl _, .refl _, trivial⟩ trivial) h (Nat.lt_succ_self _)
      ·
        replace h := ite_fb hc2 h
        refine AWp.exit ?_
        refine thenQ_exit ?_
        refine thenQ_exit ?_
        refine blockQ_same ?_
        exact joinQ_normal () (Le.mk (s := ⟨26, [(0, vL 2 eWW (default : BitVec 16 × BitVec 16) x1), (1, vL 2 eWW (default : BitVec 16 × BitVec 16) x2), (5, .int .i64 ((n3 : Nat) : Int)), (14, .bool (decide (((n3 : Nat) : Int) < (((x1).length : Nat) : Int))))], [], [], 0⟩) (s' := ⟨26, [], [], [], 0⟩) rfl rfl trivial trivial) h
    ·
      rintro ⟨⟩ h
      replace h := (congrFun hK1 _).symm.trans h
      refine AWp.seq ?_
      refine AWp.regC [] [] [4] [] ⟨26, [(4, .bool true)], [], [], 0⟩ (True) Tryz_mixed (by kernel_rfl) trivial ?_
      refine thenQ_normal ?_
      have hret := Option.some.inj h
      subst hret
      refine AWp.le (Le.mk (s := ⟨26, [(4, .bool true)], [], [], 0⟩) (s' := ⟨26, [(4, .bool true)], [], [], 0⟩) rfl rfl ⟨.refl _, trivial⟩ trivial) ?_
      refine AWp.ret ?_
      exact bodyQ_ret _ rfl ⟨rfl, rfl⟩ rfl
def f168 (x1 : Int) : Option (List UInt8) :=
  if (decide (x1 < (10 : Int))) then (
  chk (-9223372036854775808 ≤ (x1 + (1 : Int)) ∧ (x1 + (1 : Int)) ≤ 9223372036854775807) <|
  chk (0 ≤ x1 ∧ x1 ≤ (x1 + (1 : Int)) ∧ (x1 + (1 : Int)) ≤ ((cs1.length : Nat) : Int)) <|
  some ((cs1.take (((x1 + (1 : Int))).toNat)).drop ((x1).toNat))
  ) else (
  chk (-9223372036854775808 ≤ (x1 * (2 : Int)) ∧ (x1 * (2 : Int)) ≤ 9223372036854775807) <|
  chk (-9223372036854775808 ≤ (x1 * (2 : Int)) ∧ (x1 * (2 : Int)) ≤ 9223372036854775807) <|
  chk (-9223372036854775808 ≤ ((x1 * (2 : Int)) + (2 : Int)) ∧ ((x1 * (2 : Int)) + (2 : Int)) ≤ 9223372036854775807) <|
  chk (0 ≤ (x1 * (2 : Int)) ∧ (x1 * (2 : Int)) ≤ ((x1 * (2 : Int)) + (2 : Int)) ∧ ((x1 * (2 : Int)) + (2 : Int)) ≤ ((cs2.length : Nat) : Int)) <|
  some ((cs2.take ((((x1 * (2 : Int)) + (2 : Int))).toNat)).drop (((x1 * (2 : Int))).toNat))
  )
set_option maxRecDepth 100000 in
theorem f168_ok  (x1 : Int) (r : List UInt8) (h : f168 x1 = some r)  : Spec1 Tryz.prog 168 [] [] [] [.int .i64 x1] (.str r) [] := by
  unfold f168 at h
  refine Spec1.body 0 _ _ Tryz.func168 rfl Tryz.ntmps168 rfl rfl ?_
  refine AWp.seq ?_
  refine AWp.regC [] [] [0] [] ⟨15, [(0, .int .i64 x1)], [], [], 0⟩ (True) Tryz_mixed (by kernel_rfl) trivial ?_
  refine thenQ_normal ?_
  refine AWp.seq ?_
  refine AWp.seq ?_
  refine AWp.regC [] [] [0, 4] [] ⟨15, [(0, .int .i64 x1), (4, .bool (decide (x1 < (10 : Int))))], [], [], 0⟩ (True) Tryz_mixed (by kernel_rfl) trivial ?_
  refine thenQ_normal ?_
  refine AWp.cond (b := (decide (x1 < (10 : Int)))) (by kernel_rfl) (fun hc1 => ?_) (fun hc1 => ?_)
  ·
    replace h := ite_tb hc1 h
    refine AWp.seq ?_
    obtain ⟨ob0, h⟩ := chk_some h
    obtain ⟨ob1, h⟩ := chk_some h
    refine AWp.regC [] [] [2] [] ⟨15, [(2, .str ((cs1.take (((x1 + (1 : Int))).toNat)).drop ((x1).toNat)))], [], [], 0⟩ ((-9223372036854775808 ≤ (x1 + (1 : Int)) ∧ (x1 + (1 : Int)) ≤ 9223372036854775807) ∧ (0 ≤ x1 ∧ x1 ≤ (x1 + (1 : Int)) ∧ (x1 + (1 : Int)) ≤ ((cs1.length : Nat) : Int)) ∧ True) Tryz_mixed (by kernel_rfl) ⟨ob0, ob1, trivial⟩ ?_
    refine thenQ_normal ?_
    have hret := Option.some.inj h
    subst hret
    refine AWp.le (Le.mk (s := ⟨15, [(2, .str ((cs1.take (((x1 + (1 : Int))).toNat)).drop ((x1).toNat)))], [], [], 0⟩) (s' := ⟨15, [(2, .str ((cs1.take (((x1 + (1 : Int))).toNat)).drop ((x1).toNat)))], [], [], 0⟩) rfl rfl ⟨.refl _, trivial⟩ trivial) ?_
    refine AWp.ret ?_
    refine thenQ_ret ?_
    exact bodyQ_ret _ rfl ⟨rfl, rfl⟩ rfl
  ·
    replace h := ite_fb hc1 h
    refine AWp.skip ?_
    refine thenQ_normal ?_
    refine AWp.seq ?_
    obtain ⟨ob2, h⟩ := chk_some h
    obtain ⟨ob3, h⟩ := chk_some h
    obtain ⟨ob4, h⟩ := chk_some h
    obtain ⟨ob5, h⟩ := chk_some h
    refine AWp.regC [] [] [2] [] ⟨15, [(2, .str ((cs2.take ((((x1 * (2 : Int)) + (2 : Int))).toNat)).drop (((x1 * (2 : Int))).toNat)))], [], [], 0⟩ ((-9223372036854775808 ≤ (x1 * (2 : Int)) ∧ (x1 * (2 : Int)) ≤ 9223372036854775807) ∧ (-9223372036854775808 ≤ (x1 * (2 : Int)) ∧ (x1 * (2 : Int)) ≤ 9223372036854775807) ∧ (-9223372036854775808 ≤ ((x1 * (2 : Int)) + (2 : Int)) ∧ ((x1 * (2 : Int)) + (2 : Int)) ≤ 9223372036854775807) ∧ (0 ≤ (x1 * (2 : Int)) ∧ (x1 * (2 : Int)) ≤ ((x1 * (2 : Int)) + (2 : Int)) ∧ ((x1 * (2 : Int)) + (2 : Int)) ≤ ((cs2.length : Nat) : Int)) ∧ True) Tryz_mixed (by kernel_rfl) ⟨ob2, ob3, ob4, ob5, trivial⟩ ?_
    refine thenQ_normal ?_
    have hret := Option.some.inj h
    subst hret
    refine AWp.le (Le.mk (s := ⟨15, [(2, .str ((cs2.take ((((x1 * (2 : Int)) + (2 : Int))).toNat)).drop (((x1 * (2 : Int))).toNat)))], [], [], 0⟩) (s' := ⟨15, [(2, .str ((cs2.take ((((x1 * (2 : Int)) + (2 : Int))).toNat)).drop (((x1 * (2 : Int))).toNat)))], [], [], 0⟩) rfl rfl ⟨.refl _, trivial⟩ trivial) ?_
    refine AWp.ret ?_
    exact bodyQ_ret _ rfl ⟨rfl, rfl⟩ rfl
def f114 (x1 : Int) : Option Int :=
  jn (fun ((i2, n3) : Int × Nat) =>
  jn (fun ((i4, n5) : Int × Nat) =>
  jn (fun ((i6, n7) : Int × Nat) =>
  chk (0 ≤ i6 ∧ i6 ≤ 255) <|
  chk (0 ≤ i6 ∧ i6 < ((cs3.length : Nat) : Int)) <|
  chk ((((cs3.getD ((i6).toNat) 0).toNat : Nat) : Int) ≤ 9223372036854775807) <|
  chk ((((n7 : Nat) : Int) + (((cs3.getD ((i6).toNat) 0).toNat : Nat) : Int)) ≤ 9223372036854775807) <|
  some (((n7 + (cs3.getD ((i6).toNat) 0).toNat) : Nat) : Int)
  ) fun (K3 : (Int × Nat) → Option Int) =>
  if (decide (i4 ≥ (256 : Int))) then (
  chk (8 ≤ IntKind.bits .u64) <|
  chk ((((n5 : Nat) : Int) + (8 : Int)) ≤ 9223372036854775807) <|
  K3 ((i4 / 2 ^ 8), (n5 + 8))
  ) else (
  K3 (i4, n5)
  )
  ) fun (K2 : (Int × Nat) → Option Int) =>
  if (decide (i2 ≥ (65536 : Int))) then (
  chk (16 ≤ IntKind.bits .u64) <|
  chk ((((n3 : Nat) : Int) + (16 : Int)) ≤ 9223372036854775807) <|
  K2 ((i2 / 2 ^ 16), (n3 + 16))
  ) else (
  K2 (i2, n3)
  )
  ) fun (K1 : (Int × Nat) → Option Int) =>
  if (decide (x1 ≥ (4294967296 : Int))) then (
  chk (32 ≤ IntKind.bits .u64) <|
  K1 ((x1 / 2 ^ 32), 32)
  ) else (
  K1 (x1, 0)
  )
set_option maxRecDepth 100000 in
theorem f114_ok  (x1 : Int) (r : Int) (h : f114 x1 = some r)  : Spec1 Tryz.prog 114 [] [] [] [.int .u64 x1] (.int .i64 r) [] := by
  unfold f114 at h
  refine Spec1.body 0 _ _ Tryz.func114 rfl Tryz.ntmps114 rfl rfl ?_
  refine AWp.seq ?_
  refine AWp.regC [] [] [0, 2] [] ⟨25, [(0, .int .u64 x1), (2, .int .i64 (0 : Int))], [], [], 0⟩ (True) Tryz_mixed (by kernel_rfl) trivial ?_
  refine thenQ_normal ?_
  obtain ⟨K1, hK1, h⟩ := jn_some h
  refine AWp.join (α := Int × Nat) (fun (x : Int × Nat) => match x with | (i2, n3) => ⟨25, [(0, .int .u64 i2), (2, .int .i64 ((n3 : Nat) : Int))], [], [], 0⟩) (fun x => K1 x = some r) ?_ ?_
  ·
    refine AWp.seq ?_
    refine AWp.regC [] [] [0, 2, 4] [] ⟨25, [(0, .int .u64 x1), (2, .int .i64 (0 : Int)), (4, .bool (decide (x1 ≥ (4294967296 : Int))))], [], [], 0⟩ (True) Tryz_mixed (by kernel_rfl) trivial ?_
    refine thenQ_normal ?_
    refine AWp.cond (b := (decide (x1 ≥ (4294967296 : Int)))) (by kernel_rfl) (fun hc1 => ?_) (fun hc1 => ?_)
    ·
      replace h := ite_tb hc1 h
      refine AWp.seq ?_
      obtain ⟨ob0p, h⟩ := chk_some h
      have ob0 : 0 ≤ (32 : Int) ∧ 32 ≤ IntKind.bits .u64 := ⟨by omega, ob0p⟩
      refine AWp.regC [] [] [0] [] ⟨25, [(0, .int .u64 (x1 / 2 ^ 32))], [], [], 0⟩ ((0 ≤ (32 : Int) ∧ 32 ≤ IntKind.bits .u64) ∧ True) Tryz_mixed (by kernel_rfl) ⟨ob0, trivial⟩ ?_
      refine thenQ_normal ?_
      refine AWp.regC [] [] [0, 2] [] ⟨25, [(0, .int .u64 (x1 / 2 ^ 32)), (2, .int .i64 (32 : Int))], [], [], 0⟩ (True) Tryz_mixed (by kernel_rfl) trivial ?_
      exact joinQ_normal ((x1 / 2 ^ 32), 32) (Le.mk (s := ⟨25, [(0, .int .u64 (x1 / 2 ^ 32)), (2, .int .i64 (32 : Int))], [], [], 0⟩) (s' := ⟨25, [(0, .int .u64 (x1 / 2 ^ 32)), (2, .int .i64 (32 : Int))], [], [], 0⟩) rfl rfl ⟨.refl _, .refl _, trivial⟩ trivial) h
    ·
      replace h := ite_fb hc1 h
      refine AWp.skip ?_
      exact joinQ_normal (x1, 0) (Le.mk (s := ⟨25, [(0, .int .u64 x1), (2, .int .i64 (0 : Int)), (4, .bool (decide (x1 ≥ (4294967296 : Int))))], [], [], 0⟩) (s' := ⟨25, [(0, .int .u64 x1), (2, .int .i64 (0 : Int))], [], [], 0⟩) rfl rfl ⟨.refl _, .refl _, trivial⟩ trivial) h
  ·
    rintro ⟨i2, n3⟩ h
    replace h := (congrFun hK1 _).symm.trans h
    obtain ⟨K2, hK2, h⟩ := jn_some h
    refine AWp.join (α := Int × Nat) (fun (x : Int × Nat) => match x with | (i4, n5) => ⟨25, [(0, .int .u64 i4), (2, .int .i64 ((n5 : Nat) : Int))], [], [], 0⟩) (fun x => K2 x = some r) ?_ ?_
    ·
      refine AWp.seq ?_
      refine AWp.regC [] [] [0, 2, 8] [] ⟨25, [(0, .int .u64 i2), (2, .int .i64 ((n3 : Nat) : Int)), (8, .bool (decide (i2 ≥ (65536 : Int))))], [], [], 0⟩ (True) Tryz_mixed (by kernel_rfl) trivial ?_
      refine thenQ_normal ?_
      refine AWp.cond (b := (decide (i2 ≥ (65536 : Int)))) (by kernel_rfl) (fun hc2 => ?_) (fun hc2 => ?_)
      ·
        replace h := ite_tb hc2 h
        refine AWp.seq ?_
        obtain ⟨ob1p, h⟩ := chk_some h
        have ob1 : 0 ≤ (16 : Int) ∧ 16 ≤ IntKind.bits .u64 := ⟨by omega, ob1p⟩
        refine AWp.regC [] [] [0, 2] [] ⟨25, [(0, .int .u64 (i2 / 2 ^ 16)), (2, .int .i64 ((n3 : Nat) : Int))], [], [], 0⟩ ((0 ≤ (16 : Int) ∧ 16 ≤ IntKind.bits .u64) ∧ True) Tryz_mixed (by kernel_rfl) ⟨ob1, trivial⟩ ?_
        refine thenQ_normal ?_
        obtain ⟨ob2p, h⟩ := chk_some h
        have ob2 : -9223372036854775808 ≤ (((n3 : Nat) : Int) + (16 : Int)) ∧ (((n3 : Nat) : Int) + (16 : Int)) ≤ 9223372036854775807 := ⟨by omega, ob2p⟩
        refine AWp.regC [] [] [0, 2] [] ⟨25, [(0, .int .u64 (i2 / 2 ^ 16)), (2, .int .i64 (((n3 + 16) : Nat) : Int))], [], [], 0⟩ ((-9223372036854775808 ≤ (((n3 : Nat) : Int) + (16 : Int)) ∧ (((n3 : Nat) : Int) + (16 : Int)) ≤ 9223372036854775807) ∧ True) Tryz_mixed (by kernel_rfl) ⟨ob2, trivial⟩ ?_
        exact joinQ_normal ((i2 / 2 ^ 16), (n3 + 16)) (Le.mk (s := ⟨25, [(0, .int .u64 (i2 / 2 ^ 16)), (2, .int .i64 (((n3 + 16) : Nat) : Int))], [], [], 0⟩) (s' := ⟨25, [(0, .int .u64 (i2 / 2 ^ 16)), (2, .int .i64 (((n3 + 16) : Nat) : Int))], [], [], 0⟩) rfl rfl ⟨.refl _, .refl _, trivial⟩ trivial) h
      ·
        replace h := ite_fb hc2 h
        refine AWp.skip ?_
        exact joinQ_normal (i2, n3) (Le.mk (s := ⟨25, [(0, .int .u64 i2), (2, .int .i64 ((n3 : Nat) : Int)), (8, .bool (decide (i2 ≥ (65536 : Int))))], [], [], 0⟩) (s' := ⟨25, [(0, .int .u64 i2), (2, .int .i64 ((n3 : Nat) : Int))], [], [], 0⟩) rfl rfl ⟨.refl _, .refl _, trivial⟩ trivial) h
    ·
      rintro ⟨i4, n5⟩ h
      replace h := (congrFun hK2 _).symm.trans h
      obtain ⟨K3, hK3, h⟩ := jn_some h
      refine AWp.join (α := Int × Nat) (fun (x : Int × Nat) => match x with | (i6, n7) => ⟨25, [(0, .int .u64 i6), (2, .int .i64 ((n7 : Nat) : Int))], [], [], 0⟩) (fun x => K3 x = some r) ?_ ?_
      ·
        refine AWp.seq ?_
        refine AWp.regC [] [] [0, 2, 14] [] ⟨25, [(0, .int .u64 i4), (2, .int .i64 ((n5 : Nat) : Int)), (14, .bool (decide (i4 ≥ (256 : Int))))], [], [], 0⟩ (True) Tryz_mixed (by kernel_rfl) trivial ?_
        refine thenQ_normal ?_
        refine AWp.cond (b := (decide (i4 ≥ (256 : Int)))) (by kernel_rfl) (fun hc3 => ?_) (fun hc3 => ?_)
        ·
          replace h := ite_tb hc3 h
          refine AWp.seq ?_
          obtain ⟨ob3p, h⟩ := chk_some h
          have ob3 : 0 ≤ (8 : Int) ∧ 8 ≤ IntKind.bits .u64 := ⟨by omega, ob3p⟩
          refine AWp.regC [] [] [0, 2] [] ⟨25, [(0, .int .u64 (i4 / 2 ^ 8)), (2, .int .i64 ((n5 : Nat) : Int))], [], [], 0⟩ ((0 ≤ (8 : Int) ∧ 8 ≤ IntKind.bits .u64) ∧ True) Tryz_mixed (by kernel_rfl) ⟨ob3, trivial⟩ ?_
          refine thenQ_normal ?_
          obtain ⟨ob4p, h⟩ := chk_some h
          have ob4 : -9223372036854775808 ≤ (((n5 : Nat) : Int) + (8 : Int)) ∧ (((n5 : Nat) : Int) + (8 : Int)) ≤ 9223372036854775807 := ⟨by omega, ob4p⟩
          refine AWp.regC [] [] [0, 2] [] ⟨25, [(0, .int .u64 (i4 / 2 ^ 8)), (2, .int .i64 (((n5 + 8) : Nat) : Int))], [], [], 0⟩ ((-9223372036854775808 ≤ (((n5 : Nat) : Int) + (8 : Int)) ∧ (((n5 : Nat) : Int) + (8 : Int)) ≤ 9223372036854775807) ∧ True) Tryz_mixed (by kernel_rfl) ⟨ob4, trivial⟩ ?_
          exact joinQ_normal ((i4 / 2 ^ 8), (n5 + 8)) (Le.mk (s := ⟨25, [(0, .int .u64 (i4 / 2 ^ 8)), (2, .int .i64 (((n5 + 8) : Nat) : Int))], [], [], 0⟩) (s' := ⟨25, [(0, .int .u64 (i4 / 2 ^ 8)), (2, .int .i64 (((n5 + 8) : Nat) : Int))], [], [], 0⟩) rfl rfl ⟨.refl _, .refl _, trivial⟩ trivial) h
        ·
          replace h := ite_fb hc3 h
          refine AWp.skip ?_
          exact joinQ_normal (i4, n5) (Le.mk (s := ⟨25, [(0, .int .u64 i4), (2, .int .i64 ((n5 : Nat) : Int)), (14, .bool (decide (i4 ≥ (256 : Int))))], [], [], 0⟩) (s' := ⟨25, [(0, .int .u64 i4), (2, .int .i64 ((n5 : Nat) : Int))], [], [], 0⟩) rfl rfl ⟨.refl _, .refl _, trivial⟩ trivial) h
      ·
        rintro ⟨i6, n7⟩ h
        replace h := (congrFun hK3 _).symm.trans h
        refine AWp.seq ?_
        obtain ⟨ob5, h⟩ := chk_some h
        obtain ⟨ob6, h⟩ := chk_some h
        obtain ⟨ob7p, h⟩ := chk_some h
        have ob7 : -9223372036854775808 ≤ (((cs3.getD ((i6).toNat) 0).toNat : Nat) : Int) ∧ (((cs3.getD ((i6).toNat) 0).toNat : Nat) : Int) ≤ 9223372036854775807 := ⟨by omega, ob7p⟩
        obtain ⟨ob8p, h⟩ := chk_some h
        have ob8 : -9223372036854775808 ≤ (((n7 : Nat) : Int) + (((cs3.getD ((i6).toNat) 0).toNat : Nat) : Int)) ∧ (((n7 : Nat) : Int) + (((cs3.getD ((i6).toNat) 0).toNat : Nat) : Int)) ≤ 9223372036854775807 := ⟨by omega, ob8p⟩
        refine AWp.regC [] [] [2] [] ⟨25, [(2, .int .i64 (((n7 + (cs3.getD ((i6).toNat) 0).toNat) : Nat) : Int))], [], [], 0⟩ ((0 ≤ i6 ∧ i6 ≤ 255) ∧ (0 ≤ i6 ∧ i6 < ((cs3.length : Nat) : Int)) ∧ (-9223372036854775808 ≤ (((cs3.getD ((i6).toNat) 0).toNat : Nat) : Int) ∧ (((cs3.getD ((i6).toNat) 0).toNat : Nat) : Int) ≤ 9223372036854775807) ∧ (-9223372036854775808 ≤ (((n7 : Nat) : Int) + (((cs3.getD ((i6).toNat) 0).toNat : Nat) : Int)) ∧ (((n7 : Nat) : Int) + (((cs3.getD ((i6).toNat) 0).toNat : Nat) : Int)) ≤ 9223372036854775807) ∧ True) Tryz_mixed (by kernel_rfl) ⟨ob5, ob6, ob7, ob8, trivial⟩ ?_
        refine thenQ_normal ?_
        have hret := Option.some.inj h
        subst hret
        refine AWp.le (Le.mk (s := ⟨25, [(2, .int .i64 (((n7 + (cs3.getD ((i6).toNat) 0).toNat) : Nat) : Int))], [], [], 0⟩) (s' := ⟨25, [(2, .int .i64 (((n7 + (cs3.getD ((i6).toNat) 0).toNat) : Nat) : Int))], [], [], 0⟩) rfl rfl ⟨.refl _, trivial⟩ trivial) ?_
        refine AWp.ret ?_
        exact bodyQ_ret _ rfl ⟨rfl, rfl⟩ rfl
def f176 (x1 : Int) : Option Int :=
  chk (-9223372036854775808 ≤ (x1 * (78913 : Int)) ∧ (x1 * (78913 : Int)) ≤ 9223372036854775807) <|
  chk (18 ≤ IntKind.bits .i64) <|
  some ((x1 * (78913 : Int)) / 2 ^ 18)
set_option maxRecDepth 100000 in
theorem f176_ok  (x1 : Int) (r : Int) (h : f176 x1 = some r)  : Spec1 Tryz.prog 176 [] [] [] [.int .i64 x1] (.int .i64 r) [] := by
  unfold f176 at h
  refine Spec1.body 0 _ _ Tryz.func176 rfl Tryz.ntmps176 rfl rfl ?_
  refine AWp.seq ?_
  refine AWp.regC [] [] [0] [] ⟨6, [(0, .int .i64 x1)], [], [], 0⟩ (True) Tryz_mixed (by kernel_rfl) trivial ?_
  refine thenQ_normal ?_
  refine AWp.seq ?_
  obtain ⟨ob0, h⟩ := chk_some h
  obtain ⟨ob1p, h⟩ := chk_some h
  have ob1 : 0 ≤ (18 : Int) ∧ 18 ≤ IntKind.bits .i64 := ⟨by omega, ob1p⟩
  refine AWp.regC [] [] [2] [] ⟨6, [(2, .int .i64 ((x1 * (78913 : Int)) / 2 ^ 18))], [], [], 0⟩ ((-9223372036854775808 ≤ (x1 * (78913 : Int)) ∧ (x1 * (78913 : Int)) ≤ 9223372036854775807) ∧ (0 ≤ (18 : Int) ∧ 18 ≤ IntKind.bits .i64) ∧ True) Tryz_mixed (by kernel_rfl) ⟨ob0, ob1, trivial⟩ ?_
  refine thenQ_normal ?_
  have hret := Option.some.inj h
  subst hret
  refine AWp.le (Le.mk (s := ⟨6, [(2, .int .i64 ((x1 * (78913 : Int)) / 2 ^ 18))], [], [], 0⟩) (s' := ⟨6, [(2, .int .i64 ((x1 * (78913 : Int)) / 2 ^ 18))], [], [], 0⟩) rfl rfl ⟨.refl _, trivial⟩ trivial) ?_
  refine AWp.ret ?_
  exact bodyQ_ret _ rfl ⟨rfl, rfl⟩ rfl
def f177 (x1 : Bool) : Option Int :=
  if x1 then (
  some (1 : Int)
  ) else (
  some (0 : Int)
  )
set_option maxRecDepth 100000 in
theorem f177_ok  (x1 : Bool) (r : Int) (h : f177 x1 = some r)  : Spec1 Tryz.prog 177 [] [] [] [.bool x1] (.int .i64 r) [] := by
  unfold f177 at h
  refine Spec1.body 0 _ _ Tryz.func177 rfl Tryz.ntmps177 rfl rfl ?_
  refine AWp.seq ?_
  refine AWp.regC [] [] [0] [] ⟨4, [(0, .bool x1)], [], [], 0⟩ (True) Tryz_mixed (by kernel_rfl) trivial ?_
  refine thenQ_normal ?_
  refine AWp.seq ?_
  refine AWp.seq ?_
  refine AWp.regC [] [] [3] [] ⟨4, [(3, .bool x1)], [], [], 0⟩ (True) Tryz_mixed (by kernel_rfl) trivial ?_
  refine thenQ_normal ?_
  refine AWp.cond (b := x1) (by kernel_rfl) (fun hc1 => ?_) (fun hc1 => ?_)
  ·
    replace h := ite_tb hc1 h
    refine AWp.seq ?_
    refine AWp.regC [] [] [2] [] ⟨4, [(2, .int .i64 (1 : Int))], [], [], 0⟩ (True) Tryz_mixed (by kernel_rfl) trivial ?_
    refine thenQ_normal ?_
    have hret := Option.some.inj h
    subst hret
    refine AWp.le (Le.mk (s := ⟨4, [(2, .int .i64 (1 : Int))], [], [], 0⟩) (s' := ⟨4, [(2, .int .i64 (1 : Int))], [], [], 0⟩) rfl rfl ⟨.refl _, trivial⟩ trivial) ?_
    refine AWp.ret ?_
    refine thenQ_ret ?_
    exact bodyQ_ret _ rfl ⟨rfl, rfl⟩ rfl
  ·
    replace h := ite_fb hc1 h
    refine AWp.skip ?_
    refine thenQ_normal ?_
    refine AWp.seq ?_
    refine AWp.regC [] [] [2] [] ⟨4, [(2, .int .i64 (0 : Int))], [], [], 0⟩ (True) Tryz_mixed (by kernel_rfl) trivial ?_
    refine thenQ_normal ?_
    have hret := Option.some.inj h
    subst hret
    refine AWp.le (Le.mk (s := ⟨4, [(2, .int .i64 (0 : Int))], [], [], 0⟩) (s' := ⟨4, [(2, .int .i64 (0 : Int))], [], [], 0⟩) rfl rfl ⟨.refl _, trivial⟩ trivial) ?_
    refine AWp.ret ?_
    exact bodyQ_ret _ rfl ⟨rfl, rfl⟩ rfl
def f169 (x1 : Int) : Option Int :=
  (f114 x1).bind fun (r2 : Int) =>
  (f176 r2).bind fun (r3 : Int) =>
  (f177 (decide (x1 ≥ (((T6.getD (0 + ((r3).toNat) * 1 + 0) 0) : Nat) : Int)))).bind fun (r4 : Int) =>
  chk (0 ≤ r3 ∧ r3 < 20) <|
  chk (-9223372036854775808 ≤ (r3 + r4) ∧ (r3 + r4) ≤ 9223372036854775807) <|
  some (r3 + r4)
set_option maxRecDepth 100000 in
theorem f169_ok  (x1 : Int) (r : Int) (h : f169 x1 = some r)  : Spec1 Tryz.prog 169 [(6, .elem 20 1 T6F 0 0)] [] [] [.int .u64 x1] (.int .i64 r) [] := by
  unfold f169 at h
  refine Spec1.body 0 _ _ Tryz.func169 rfl Tryz.ntmps169 rfl rfl ?_
  refine AWp.seq ?_
  refine AWp.regC [] [] [0, 1000006] [] ⟨15, [(0, .int .u64 x1), (1000006, .elem 20 1 T6F 0 0)], [], [], 0⟩ (True) Tryz_mixed (by kernel_rfl) trivial ?_
  refine thenQ_normal ?_
  refine AWp.seq ?_
  obtain ⟨r2, hr2, h⟩ := bind_ok h
  obtain ⟨r3, hr3, h⟩ := bind_ok h
  refine AWp.regC [] [(1, ⟨[.int .u64 x1], [], [], [], .int .i64 r2, [], [], []⟩), (2, ⟨[.int .i64 r2], [], [], [], .int .i64 r3, [], [], []⟩)] [0, 3, 1000006] [] ⟨15, [(0, .int .u64 x1), (3, .int .i64 r3), (1000006, .elem 20 1 T6F 0 0)], [], [], 0⟩ ((callP Tryz.prog true 114 [] [] [] [] [] [.int .u64 x1] [.int .u64 x1] (.int .i64 r2) []) ∧ (callP Tryz.prog true 176 [] [] [] [] [] [.int .i64 r2] [.int .i64 r2] (.int .i64 r3) []) ∧ True) Tryz_mixed (by kernel_rfl) ⟨⟨fun _ => (f114_ok x1 r2 hr2), fun _ => ⟨.refl _, trivial⟩, .inl rfl⟩, ⟨fun _ => (f176_ok r2 r3 hr3), fun _ => ⟨.refl _, trivial⟩, .inl rfl⟩, trivial⟩ ?_
  refine thenQ_normal ?_
  refine AWp.seq ?_
  obtain ⟨r4, hr4, h⟩ := bind_ok h
  obtain ⟨ob0, h⟩ := chk_some h
  obtain ⟨ob1, h⟩ := chk_some h
  refine AWp.regC [] [(6, ⟨[.bool (decide (x1 ≥ (((T6.getD (0 + ((r3).toNat) * 1 + 0) 0) : Nat) : Int)))], [], [], [], .int .i64 r4, [], [], []⟩)] [2, 1000006] [] ⟨15, [(2, .int .i64 (r3 + r4)), (1000006, .elem 20 1 T6F 0 0)], [], [], 0⟩ ((0 ≤ r3 ∧ r3 < 20) ∧ (callP Tryz.prog true 177 [] [] [] [] [] [.bool (decide (x1 ≥ (((T6.getD (0 + ((r3).toNat) * 1 + 0) 0) : Nat) : Int)))] [.bool (decide (x1 ≥ (((T6.getD (0 + ((r3).toNat) * 1 + 0) 0) : Nat) : Int)))] (.int .i64 r4) []) ∧ (-9223372036854775808 ≤ (r3 + r4) ∧ (r3 + r4) ≤ 9223372036854775807) ∧ True) Tryz_mixed (by kernel_rfl) ⟨ob0, ⟨fun _ => (f177_ok (decide (x1 ≥ (((T6.getD (0 + ((r3).toNat) * 1 + 0) 0) : Nat) : Int))) r4 hr4), fun _ => ⟨.refl _, trivial⟩, .inl rfl⟩, ob1, trivial⟩ ?_
  refine thenQ_normal ?_
  have hret := Option.some.inj h
  subst hret
  refine AWp.le (Le.mk (s := ⟨15, [(2, .int .i64 (r3 + r4)), (1000006, .elem 20 1 T6F 0 0)], [], [], 0⟩) (s' := ⟨15, [(2, .int .i64 (r3 + r4))], [], [], 0⟩) rfl rfl ⟨.refl _, trivial⟩ trivial) ?_
  refine AWp.ret ?_
  exact bodyQ_ret _ rfl ⟨rfl, rfl⟩ rfl
def f156 (x1 : Int) (x2 : Int) : Option (List UInt8) :=
  if (x2 == (10 : Int)) then (
  if ((decide ((0 : Int) ≤ x1)) && (decide (x1 < (100 : Int)))) then (
  (f168 x1).bind fun (r3 : List UInt8) =>
  some r3
  ) else (
  chk (0 ≤ x1 ∧ x1 ≤ 18446744073709551615) <|
  jn (fun (i4 : Int) =>
  (f169 i4).bind fun (r5 : Int) =>
  none
  ) fun (K1 : Int → Option (List UInt8)) =>
  if (decide (x1 < (0 : Int))) then (
  chk (0 ≤ (0 - x1) ∧ (0 - x1) ≤ 18446744073709551615) <|
  K1 (0 - x1)
  ) else (
  K1 x1
  )
  )
  ) else (
  none
  )
set_option maxRecDepth 100000 in
theorem f156_ok  (x1 : Int) (x2 : Int) (r : List UInt8) (h : f156 x1 x2 = some r)  : Spec1 Tryz.prog 156 [(6, .elem 20 1 T6F 0 0)] [] [] [.int .i64 x1, .int .i64 x2] (.str r) [] := by
  unfold f156 at h
  refine Spec1.body 0 _ _ Tryz.func156 rfl Tryz.ntmps156 rfl rfl ?_
  refine AWp.seq ?_
  refine AWp.regC [] [] [0, 1, 1000006] [] ⟨54, [(0, .int .i64 x1), (1, .int .i64 x2), (1000006, .elem 20 1 T6F 0 0)], [], [], 0⟩ (True) Tryz_mixed (by kernel_rfl) trivial ?_
  refine thenQ_normal ?_
  refine AWp.seq ?_
  refine AWp.seq ?_
  refine AWp.regC [] [] [0, 1, 11, 1000006] [] ⟨54, [(0, .int .i64 x1), (1, .int .i64 x2), (11, .bool (x2 == (10 : Int))), (1000006, .elem 20 1 T6F 0 0)], [], [], 0⟩ (True) Tryz_mixed (by kernel_rfl) trivial ?_
  refine thenQ_normal ?_
  refine AWp.cond (b := (x2 == (10 : Int))) (by kernel_rfl) (fun hc1 => ?_) (fun hc1 => ?_)
  ·
    replace h := ite_tb hc1 h
    refine AWp.seq ?_
    refine AWp.seq ?_
    have ob0 : ((decide ((0 : Int) ≤ x1)) == true) = true → ((decide ((0 : Int) ≤ x1)) == true) = true := fun h => h
    have ob1 : true = true → (decide ((0 : Int) ≤ x1)) = true → ((decide ((0 : Int) ≤ x1)) == true) = true := fun _ h => beq_iff_eq.2 h
    refine AWp.regC [] [] [0, 17, 1000006] [] ⟨54, [(0, .int .i64 x1), (17, .bool ((decide ((0 : Int) ≤ x1)) && (decide (x1 < (100 : Int))))), (1000006, .elem 20 1 T6F 0 0)], [], [], 0⟩ (((((decide ((0 : Int) ≤ x1)) == true) = true → ((decide ((0 : Int) ≤ x1)) == true) = true) ∧ True) ∧ (true = true → (decide ((0 : Int) ≤ x1)) = true → ((decide ((0 : Int) ≤ x1)) == true) = true) ∧ True) Tryz_mixed (by kernel_rfl) ⟨⟨ob0, trivial⟩, ob1, trivial⟩ ?_
    refine thenQ_normal ?_
    refine AWp.cond (b := ((decide ((0 : Int) ≤ x1)) && (decide (x1 < (100 : Int))))) (by kernel_rfl) (fun hc2 => ?_) (fun hc2 => ?_)
    ·
      replace h := ite_tb hc2 h
      refine AWp.seq ?_
      obtain ⟨r3, hr3, h⟩ := bind_ok h
      refine AWp.regC [] [(1, ⟨[.int .i64 x1], [], [], [], .str r3, [], [], []⟩)] [4, 1000006] [] ⟨54, [(4, .str r3), (1000006, .elem 20 1 T6F 0 0)], [], [], 0⟩ ((callP Tryz.prog true 168 [] [] [] [] [] [.int .i64 x1] [.int .i64 x1] (.str r3) []) ∧ True) Tryz_mixed (by kernel_rfl) ⟨⟨fun _ => (f168_ok x1 r3 hr3), fun _ => ⟨.refl _, trivial⟩, .inl rfl⟩, trivial⟩ ?_
      refine thenQ_normal ?_
      have hret := Option.some.inj h
      subst hret
      refine AWp.le (Le.mk (s := ⟨54, [(4, .str r3), (1000006, .elem 20 1 T6F 0 0)], [], [], 0⟩) (s' := ⟨54, [(4, .str r3)], [], [], 0⟩) rfl rfl ⟨.refl _, trivial⟩ trivial) ?_
      refine AWp.ret ?_
      refine thenQ_ret ?_
      refine thenQ_ret ?_
      exact bodyQ_ret _ rfl ⟨rfl, rfl⟩ rfl
    ·
      replace h := ite_fb hc2 h
      refine AWp.skip ?_
      refine thenQ_normal ?_
      refine AWp.seq ?_
      refine AWp.regC [] [] [0, 5, 1000006] [5] ⟨54, [(0, .int .i64 x1), (5, .ptr 5 0), (1000006, .elem 20 1 T6F 0 0)], [(5, .cells 172 [.int .u8 (0 : Int), .int .u8 (0 : Int), .int .u8 (0 : Int), .int .u8 (0 : Int), .int .u8 (0 : Int), .int .u8 (0 : Int), .int .u8 (0 : Int), .int .u8 (0 : Int), .int .u8 (0 : Int), .int .u8 (0 : Int), .int .u8 (0 : Int), .int .u8 (0 : Int), .int .u8 (0 : Int), .int .u8 (0 : Int), .int .u8 (0 : Int), .int .u8 (0 : Int), .int .u8 (0 : Int), .int .u8 (0 : Int), .int .u8 (0 : Int), .int .u8 (0 : Int), .int .u8 (0 : Int), .int .u8 (0 : Int), .int .u8 (0 : Int), .int .u8 (0 : Int)])], [], 0⟩ (True) Tryz_mixed (by kernel_rfl) trivial ?_
      refine thenQ_normal ?_
      refine AWp.seq ?_
      obtain ⟨ob2, h⟩ := chk_some h
      refine AWp.regC [] [] [0, 5, 6, 1000006] [5] ⟨54, [(0, .int .i64 x1), (5, .ptr 5 0), (6, .int .u64 x1), (1000006, .elem 20 1 T6F 0 0)], [(5, .cells 172 [.int .u8 (0 : Int), .int .u8 (0 : Int), .int .u8 (0 : Int), .int .u8 (0 : Int), .int .u8 (0 : Int), .int .u8 (0 : Int), .int .u8 (0 : Int), .int .u8 (0 : Int), .int .u8 (0 : Int), .int .u8 (0 : Int), .int .u8 (0 : Int), .int .u8 (0 : Int), .int .u8 (0 : Int), .int .u8 (0 : Int), .int .u8 (0 : Int), .int .u8 (0 : Int), .int .u8 (0 : Int), .int .u8 (0 : Int), .int .u8 (0 : Int), .int .u8 (0 : Int), .int .u8 (0 : Int), .int .u8 (0 : Int), .int .u8 (0 : Int), .int .u8 (0 : Int)])], [], 0⟩ ((0 ≤ x1 ∧ x1 ≤ 18446744073709551615) ∧ True) Tryz_mixed (by kernel_rfl) ⟨ob2, trivial⟩ ?_
      refine thenQ_normal ?_
      obtain ⟨K1, hK1, h⟩ := jn_some h
      refine AWp.join (α := Int) (fun (i4 : Int) => ⟨54, [(0, .int .i64 x1), (5, .ptr 5 0), (6, .int .u64 i4), (1000006, .elem 20 1 T6F 0 0)], [(5, .cells 172 [.int .u8 (0 : Int), .int .u8 (0 : Int), .int .u8 (0 : Int), .int .u8 (0 : Int), .int .u8 (0 : Int), .int .u8 (0 : Int), .int .u8 (0 : Int), .int .u8 (0 : Int), .int .u8 (0 : Int), .int .u8 (0 : Int), .int .u8 (0 : Int), .int .u8 (0 : Int), .int .u8 (0 : Int), .int .u8 (0 : Int), .int .u8 (0 : Int), .int .u8 (0 : Int), .int .u8 (0 : Int), .int .u8 (0 : Int), .int .u8 (0 : Int), .int .u8 (0 : Int), .int .u8 (0 : Int), .int .u8 (0 : Int), .int .u8 (0 : Int), .int .u8 (0 : Int)])], [], 0⟩) (fun x => K1 x = some r) ?_ ?_
      ·
        refine AWp.seq ?_
        refine AWp.regC [] [] [0, 5, 6, 23, 1000006] [5] ⟨54, [(0, .int .i64 x1), (5, .ptr 5 0), (6, .int .u64 x1), (23, .bool (decide (x1 < (0 : Int)))), (1000006, .elem 20 1 T6F 0 0)], [(5, .cells 172 [.int .u8 (0 : Int), .int .u8 (0 : Int), .int .u8 (0 : Int), .int .u8 (0 : Int), .int .u8 (0 : Int), .int .u8 (0 : Int), .int .u8 (0 : Int), .int .u8 (0 : Int), .int .u8 (0 : Int), .int .u8 (0 : Int), .int .u8 (0 : Int), .int .u8 (0 : Int), .int .u8 (0 : Int), .int .u8 (0 : Int), .int .u8 (0 : Int), .int .u8 (0 : Int), .int .u8 (0 : Int), .int .u8 (0 : Int), .int .u8 (0 : Int), .int .u8 (0 : Int), .int .u8 (0 : Int), .int .u8 (0 : Int), .int .u8 (0 : Int), .int .u8 (0 : Int)])], [], 0⟩ (True) Tryz_mixed (by kernel_rfl) trivial ?_
        refine thenQ_normal ?_
        refine AWp.cond (b := (decide (x1 < (0 : Int)))) (by kernel_rfl) (fun hc3 => ?_) (fun hc3 => ?_)
        ·
          replace h := ite_tb hc3 h
          obtain ⟨ob3, h⟩ := chk_some h
          refine AWp.regC [] [] [0, 5, 6, 1000006] [5] ⟨54, [(0, .int .i64 x1), (5, .ptr 5 0), (6, .int .u64 (0 - x1)), (1000006, .elem 20 1 T6F 0 0)], [(5, .cells 172 [.int .u8 (0 : Int), .int .u8 (0 : Int), .int .u8 (0 : Int), .int .u8 (0 : Int), .int .u8 (0 : Int), .int .u8 (0 : Int), .int .u8 (0 : Int), .int .u8 (0 : Int), .int .u8 (0 : Int), .int .u8 (0 : Int), .int .u8 (0 : Int), .int .u8 (0 : Int), .int .u8 (0 : Int), .int .u8 (0 : Int), .int .u8 (0 : Int), .int .u8 (0 : Int), .int .u8 (0 : Int), .int .u8 (0 : Int), .int .u8 (0 : Int), .int .u8 (0 : Int), .int .u8 (0 : Int), .int .u8 (0 : Int), .int .u8 (0 : Int), .int .u8 (0 : Int)])], [], 0⟩ ((0 ≤ (0 - x1) ∧ (0 - x1) ≤ 18446744073709551615) ∧ True) Tryz_mixed (by kernel_rfl) ⟨ob3, trivial⟩ ?_
          exact joinQ_normal ((0 - x1)) (Le.mk (s := ⟨54, [(0, .int .i64 x1), (5, .ptr 5 0), (6, .int .u64 (0 - x1)), (1000006, .elem 20 1 T6F 0 0)], [(5, .cells 172 [.int .u8 (0 : Int), .int .u8 (0 : Int), .int .u8 (0 : Int), .int .u8 (0 : Int), .int .u8 (0 : Int), .int .u8 (0 : Int), .int .u8 (0 : Int), .int .u8 (0 : Int), .int .u8 (0 : Int), .int .u8 (0 : Int), .int .u8 (0 : Int), .int .u8 (0 : Int), .int .u8 (0 : Int), .int .u8 (0 : Int), .int .u8 (0 : Int), .int .u8 (0 : Int), .int .u8 (0 : Int), .int .u8 (0 : Int), .int .u8 (0 : Int), .int .u8 (0 : Int), .int .u8 (0 : Int), .int .u8 (0 : Int), .int .u8 (0 : Int), .int .u8 (0 : Int)])], [], 0⟩) (s' := ⟨54, [(0, .int .i64 x1), (5, .ptr 5 0), (6, .int .u64 (0 - x1)), (1000006, .elem 20 1 T6F 0 0)], [(5, .cells 172 [.int .u8 (0 : Int), .int .u8 (0 : Int), .int .u8 (0 : Int), .int .u8 (0 : Int), .int .u8 (0 : Int), .int .u8 (0 : Int), .int .u8 (0 : Int), .int .u8 (0 : Int), .int .u8 (0 : Int), .int .u8 (0 : Int), .int .u8 (0 : Int), .int .u8 (0 : Int), .int .u8 (0 : Int), .int .u8 (0 : Int), .int .u8 (0 : Int), .int .u8 (0 : Int), .int .u8 (0 : Int), .int .u8 (0 : Int), .int .u8 (0 : Int), .int .u8 (0 : Int), .int .u8 (0 : Int), .int .u8 (0 : Int), .int .u8 (0 : Int), .int .u8 (0 : Int)])], [], 0⟩) rfl rfl ⟨.refl _, .refl _, .refl _, .refl _, trivial⟩ ⟨⟨_, rfl, .refl _⟩, trivial⟩) h
        ·
          replace h := ite_fb hc3 h
          refine AWp.skip ?_
          exact joinQ_normal (x1) (Le.mk (s := ⟨54, [(0, .int .i64 x1), (5, .ptr 5 0), (6, .int .u64 x1), (23, .bool (decide (x1 < (0 : Int)))), (1000006, .elem 20 1 T6F 0 0)], [(5, .cells 172 [.int .u8 (0 : Int), .int .u8 (0 : Int), .int .u8 (0 : Int), .int .u8 (0 : Int), .int .u8 (0 : Int), .int .u8 (0 : Int), .int .u8 (0 : Int), .int .u8 (0 : Int), .int .u8 (0 : Int), .int .u8 (0 : Int), .int .u8 (0 : Int), .int .u8 (0 : Int), .int .u8 (0 : Int), .int .u8 (0 : Int), .int .u8 (0 : Int), .int .u8 (0 : Int), .int .u8 (0 : Int), .int .u8 (0 : Int), .int .u8 (0 : Int), .int .u8 (0 : Int), .int .u8 (0 : Int), .int .u8 (0 : Int), .int .u8 (0 : Int), .int .u8 (0 : Int)])], [], 0⟩) (s' := ⟨54, [(0, .int .i64 x1), (5, .ptr 5 0), (6, .int .u64 x1), (1000006, .elem 20 1 T6F 0 0)], [(5, .cells 172 [.int .u8 (0 : Int), .int .u8 (0 : Int), .int .u8 (0 : Int), .int .u8 (0 : Int), .int .u8 (0 : Int), .int .u8 (0 : Int), .int .u8 (0 : Int), .int .u8 (0 : Int), .int .u8 (0 : Int), .int .u8 (0 : Int), .int .u8 (0 : Int), .int .u8 (0 : Int), .int .u8 (0 : Int), .int .u8 (0 : Int), .int .u8 (0 : Int), .int .u8 (0 : Int), .int .u8 (0 : Int), .int .u8 (0 : Int), .int .u8 (0 : Int), .int .u8 (0 : Int), .int .u8 (0 : Int), .int .u8 (0 : Int), .int .u8 (0 : Int), .int .u8 (0 : Int)])], [], 0⟩) rfl rfl ⟨.refl _, .refl _, .refl _, .refl _, trivial⟩ ⟨⟨_, rfl, .refl _⟩, trivial⟩) h
      ·
        rintro i4 h
        replace h := (congrFun hK1 _).symm.trans h
        refine AWp.seq ?_
        obtain ⟨r5, hr5, h⟩ := bind_ok h
        refine AWp.regC [] [(1, ⟨[.int .u64 i4], [], [], [], .int .i64 r5, [], [], [6]⟩)] [0, 5, 6, 7, 1000006] [5] ⟨54, [(0, .int .i64 x1), (5, .ptr 5 0), (6, .int .u64 i4), (7, .int .i64 r5), (1000006, .elem 20 1 T6F 0 0)], [(5, .cells 172 [.int .u8 (0 : Int), .int .u8 (0 : Int), .int .u8 (0 : Int), .int .u8 (0 : Int), .int .u8 (0 : Int), .int .u8 (0 : Int), .int .u8 (0 : Int), .int .u8 (0 : Int), .int .u8 (0 : Int), .int .u8 (0 : Int), .int .u8 (0 : Int), .int .u8 (0 : Int), .int .u8 (0 : Int), .int .u8 (0 : Int), .int .u8 (0 : Int), .int .u8 (0 : Int), .int .u8 (0 : Int), .int .u8 (0 : Int), .int .u8 (0 : Int), .int .u8 (0 : Int), .int .u8 (0 : Int), .int .u8 (0 : Int), .int .u8 (0 : Int), .int .u8 (0 : Int)])], [], 0⟩ ((callP Tryz.prog true 169 [(6, .elem 20 1 T6F 0 0)] [] [] [] [] [.int .u64 i4] [.int .u64 i4] (.int .i64 r5) []) ∧ True) Tryz_mixed (by kernel_rfl) ⟨⟨fun _ => (f169_ok i4 r5 hr5), fun _ => ⟨.refl _, trivial⟩, .inl rfl⟩, trivial⟩ ?_
        refine thenQ_normal ?_
        refine AWp.seq ?_
        exact nomatch (show (none : Option (List UInt8)) = some r from h)
  ·
    replace h := ite_fb hc1 h
    refine AWp.skip ?_
    refine thenQ_normal ?_
    refine AWp.seq ?_
    exact nomatch (show (none : Option (List UInt8)) = some r from h)
def f137 (x1 : Int) : Option (List UInt8) :=
  (f156 x1 (10 : Int)).bind fun (r2 : List UInt8) =>
  some r2
set_option maxRecDepth 100000 in
theorem f137_ok  (x1 : Int) (r : List UInt8) (h : f137 x1 = some r)  : Spec1 Tryz.prog 137 [(6, .elem 20 1 T6F 0 0)] [] [] [.int .i64 x1] (.str r) [] := by
  unfold f137 at h
  refine Spec1.body 0 _ _ Tryz.func137 rfl Tryz.ntmps137 rfl rfl ?_
  refine AWp.seq ?_
  refine AWp.regC [] [] [0, 1000006] [] ⟨5, [(0, .int .i64 x1), (1000006, .elem 20 1 T6F 0 0)], [], [], 0⟩ (True) Tryz_mixed (by kernel_rfl) trivial ?_
  refine thenQ_normal ?_
  refine AWp.seq ?_
  obtain ⟨r2, hr2, h⟩ := bind_ok h
  refine AWp.regC [] [(1, ⟨[.int .i64 x1, .int .i64 (10 : Int)], [], [], [], .str r2, [], [], [6]⟩)] [2, 1000006] [] ⟨5, [(2, .str r2), (1000006, .elem 20 1 T6F 0 0)], [], [], 0⟩ ((callP Tryz.prog true 156 [(6, .elem 20 1 T6F 0 0)] [] [] [] [] [.int .i64 x1, .int .i64 (10 : Int)] [.int .i64 x1, .int .i64 (10 : Int)] (.str r2) []) ∧ True) Tryz_mixed (by kernel_rfl) ⟨⟨fun _ => (f156_ok x1 (10 : Int) r2 hr2), fun _ => ⟨.refl _, .refl _, trivial⟩, .inl rfl⟩, trivial⟩ ?_
  refine thenQ_normal ?_
  have hret := Option.some.inj h
  subst hret
  refine AWp.le (Le.mk (s := ⟨5, [(2, .str r2), (1000006, .elem 20 1 T6F 0 0)], [], [], 0⟩) (s' := ⟨5, [(2, .str r2)], [], [], 0⟩) rfl rfl ⟨.refl _, trivial⟩ trivial) ?_
  refine AWp.ret ?_
  exact bodyQ_ret _ rfl ⟨rfl, rfl⟩ rfl
def f102 (x1 : Int) : Option (List UInt8) :=
  (f137 x1).bind fun (r2 : List UInt8) =>
  some r2
set_option maxRecDepth 100000 in
theorem f102_ok  (x1 : Int) (r : List UInt8) (h : f102 x1 = some r)  : Spec1 Tryz.prog 102 [(6, .elem 20 1 T6F 0 0)] [] [] [.int .i64 x1] (.str r) [] := by
  unfold f102 at h
  refine Spec1.body 0 _ _ Tryz.func102 rfl Tryz.ntmps102 rfl rfl ?_
  refine AWp.seq ?_
  refine AWp.regC [] [] [0, 1000006] [] ⟨5, [(0, .int .i64 x1), (1000006, .elem 20 1 T6F 0 0)], [], [], 0⟩ (True) Tryz_mixed (by kernel_rfl) trivial ?_
  refine thenQ_normal ?_
  refine AWp.seq ?_
  obtain ⟨r2, hr2, h⟩ := bind_ok h
  refine AWp.regC [] [(1, ⟨[.int .i64 x1], [], [], [], .str r2, [], [], [6]⟩)] [2, 1000006] [] ⟨5, [(2, .str r2), (1000006, .elem 20 1 T6F 0 0)], [], [], 0⟩ ((callP Tryz.prog true 137 [(6, .elem 20 1 T6F 0 0)] [] [] [] [] [.int .i64 x1] [.int .i64 x1] (.str r2) []) ∧ True) Tryz_mixed (by kernel_rfl) ⟨⟨fun _ => (f137_ok x1 r2 hr2), fun _ => ⟨.refl _, trivial⟩, .inl rfl⟩, trivial⟩ ?_
  refine thenQ_normal ?_
  have hret := Option.some.inj h
  subst hret
  refine AWp.le (Le.mk (s := ⟨5, [(2, .str r2), (1000006, .elem 20 1 T6F 0 0)], [], [], 0⟩) (s' := ⟨5, [(2, .str r2)], [], [], 0⟩) rfl rfl ⟨.refl _, trivial⟩ trivial) ?_
  refine AWp.ret ?_
  exact bodyQ_ret _ rfl ⟨rfl, rfl⟩ rfl
def f62 (x1 : List (List UInt8)) (x2 : List UInt8) : Option (List UInt8) := joinP x1 x2
theorem f62_ok (x1 : List (List UInt8)) (x2 : List UInt8) (r : List UInt8) (h : f62 x1 x2 = some r) : Spec1 Tryz.prog 62 [] [] [] [vL 1 eS [] x1, .str x2] (.str r) [] :=
  join_spec (fun a c sep w => Any.strings_Join_none Tryz.lays156 Tryz.Builder_Extra_156 a c sep w) (fun bk o c xs sep w h1 h2 h3 h4 h5 => Any.strings_Join Tryz.lays156 Tryz.Builder_Extra_156 bk o c xs sep w h1 h2 h3 h4 h5) x1 x2 r h
def f83_L0 (K1 : (List (List UInt8)) → Option (List UInt8)) (r2 : List Int) : Nat → (Nat × List (List UInt8)) → Option (List UInt8)
  | 0, _ => none
  | k + 1, (n3, l4) =>
    if (decide (((n3 : Nat) : Int) < (((r2).length : Nat) : Int))) then (
    chk (((n3 : Nat) : Int) < (((r2).length : Nat) : Int)) <|
    chk (n3 < (r2).length) <|
    (f102 (r2.getD n3 0)).bind fun (r5 : List UInt8) =>
    chk (((l4).length + 1) * 16 ≤ 140737488355328) <|
    chk ((((n3 : Nat) : Int) + (1 : Int)) ≤ 9223372036854775807) <|
    (f83_L0 K1 r2 k) ((n3 + 1), (l4 ++ [r5]))
    ) else (
    K1 l4
    )
def f83 (x1 : BitVec 16) : Option (List UInt8) :=
  jn (fun (l6 : List (List UInt8)) =>
  (f62 l6 ([32] : List UInt8)).bind fun (r7 : List UInt8) =>
  chk (([123] : List UInt8).length + r7.length ≤ 9223372036854775807) <|
  chk ((([123] : List UInt8) ++ r7).length + ([125] : List UInt8).length ≤ 9223372036854775807) <|
  some ((([123] : List UInt8) ++ r7) ++ ([125] : List UInt8))
  ) fun (K1 : (List (List UInt8)) → Option (List UInt8)) =>
  (f100 x1).bind fun (r2 : List Int) =>
  f83_L0 K1 r2 FUEL (0, [])
set_option maxRecDepth 100000 in
theorem f83_ok  (x1 : BitVec 16) (r : List UInt8) (h : f83 x1 = some r)  : Spec1 Tryz.prog 83 [(0, .elem 32 1 T0F 0 0), (6, .elem 20 1 T6F 0 0)] [] [] [.b16 x1] (.str r) [] := by
  unfold f83 at h
  refine Spec1.body 0 _ _ Tryz.func83 rfl Tryz.ntmps83 rfl rfl ?_
  refine AWp.seq ?_
  refine AWp.regC [] [] [0, 1000000, 1000006] [] ⟨23, [(0, .b16 x1), (1000000, .elem 32 1 T0F 0 0), (1000006, .elem 20 1 T6F 0 0)], [], [], 0⟩ (True) Tryz_mixed (by kernel_rfl) trivial ?_
  refine thenQ_normal ?_
  refine AWp.seq ?_
  refine AWp.regC [] [] [0, 3, 1000000, 1000006] [] ⟨23, [(0, .b16 x1), (3, .nils), (1000000, .elem 32 1 T0F 0 0), (1000006, .elem 20 1 T6F 0 0)], [], [], 0⟩ (True) Tryz_mixed (by kernel_rfl) trivial ?_
  refine thenQ_normal ?_
  obtain ⟨K1, hK1, h⟩ := jn_some h
  refine AWp.join (α := List (List UInt8)) (fun (l6 : List (List UInt8)) => ⟨23, [(3, .own 5003), (1000000, .elem 32 1 T0F 0 0), (1000006, .elem 20 1 T6F 0 0)], [(5003, bL 9 1 eS [] l6)], [], 0⟩) (fun x => K1 x = some r) ?_ ?_
  ·
    refine AWp.seq ?_
    obtain ⟨r2, hr2, h⟩ := bind_ok h
    refine AWp.regC [] [(1, ⟨[.b16 x1], [], [], [(6001, bL 3 1 eI 0 r2)], .own 6001, [6001], [], [0]⟩)] [3, 7, 8, 9, 1000000, 1000006] [6001] ⟨23, [(3, .nils), (7, .own 6001), (8, .int .i64 (((r2).length : Nat) : Int)), (9, .int .i64 (0 : Int)), (1000000, .elem 32 1 T0F 0 0), (1000006, .elem 20 1 T6F 0 0)], [(6001, bL 3 1 eI 0 r2)], [], 0⟩ ((callP Tryz.prog true 100 [(0, .elem 32 1 T0F 0 0)] [] [] [] [] [.b16 x1] [.b16 x1] (.own 6001) [(6001, bL 3 1 eI 0 r2)]) ∧ True) Tryz_mixed (by kernel_rfl) ⟨⟨fun _ => (Spec1.ren (swapN 3000 6001) (swapN_inv 3000 6001) rfl (f100_ok x1 r2 hr2)), fun _ => ⟨.refl _, trivial⟩, .inl rfl⟩, trivial⟩ ?_
    refine thenQ_normal ?_
    refine AWp.block ?_
    refine AWp.loopL (α := Nat × (Nat × List (List UInt8))) (fun x => match x with | (_, n3, l4) => ⟨23, [(3, .own 5003), (7, .own 6001), (8, .int .i64 (((r2).length : Nat) : Int)), (9, .int .i64 ((n3 : Nat) : Int)), (1000000, .elem 32 1 T0F 0 0), (1000006, .elem 20 1 T6F 0 0)], [(5003, bL 9 1 eS [] l4), (6001, bL 3 1 eI 0 r2)], [], 0⟩) (fun x => f83_L0 K1 r2 x.1 x.2 = some r) (fun x => x.1) (FUEL, 0, []) (Le.trans (Le.trans (Le.nilOwn (s := ⟨23, [(3, .nils), (7, .own 6001), (8, .int .i64 (((r2).length : Nat) : Int)), (9, .int .i64 (0 : Int)), (1000000, .elem 32 1 T0F 0 0), (1000006, .elem 20 1 T6F 0 0)], [(6001, bL 3 1 eI 0 r2)], [], 0⟩) 3 5003 9 1 (encF eS [] []) rfl rfl (Nat.le_of_ble_eq_true rfl)) (Le.mk (s' := ⟨23, [(3, .own 5003), (7, .own 6001), (8, .int .i64 (((r2).length : Nat) : Int)), (9, .int .i64 (0 : Int)), (1000000, .elem 32 1 T0F 0 0), (1000006, .elem 20 1 T6F 0 0)], [(6001, bL 3 1 eI 0 r2), (5003, bL 9 1 eS [] [])], [], 0⟩) rfl rfl ⟨.refl _, .refl _, .refl _, .refl _, .refl _, .refl _, trivial⟩ ⟨⟨_, rfl, .refl _⟩, ⟨_, rfl, .refl _⟩, trivial⟩)) (Le.mk (s := ⟨23, [(3, .own 5003), (7, .own 6001), (8, .int .i64 (((r2).length : Nat) : Int)), (9, .int .i64 (0 : Int)), (1000000, .elem 32 1 T0F 0 0), (1000006, .elem 20 1 T6F 0 0)], [(6001, bL 3 1 eI 0 r2), (5003, bL 9 1 eS [] [])], [], 0⟩) (s' := ⟨23, [(3, .own 5003), (7, .own 6001), (8, .int .i64 (((r2).length : Nat) : Int)), (9, .int .i64 (0 : Int)), (1000000, .elem 32 1 T0F 0 0), (1000006, .elem 20 1 T6F 0 0)], [(5003, bL 9 1 eS [] []), (6001, bL 3 1 eI 0 r2)], [], 0⟩) rfl rfl ⟨.refl _, .refl _, .refl _, .refl _, .refl _, .refl _, trivial⟩ ⟨⟨_, rfl, .refl _⟩, ⟨_, rfl, .refl _⟩, trivial⟩)) h ?_
    rintro ⟨k0, n3, l4⟩ h
    cases k0 with
    | zero => exact nomatch (show (none : Option (List UInt8)) = some r from h)
    | succ k0 =>
    obtain ⟨C0, hC0⟩ : ∃ C, C = f83_L0 K1 r2 k0 := ⟨_, rfl⟩
    replace h := (f83_L0.eq_2 ..).symm.trans h
    try rw [← hC0] at h
    refine AWp.seq ?_
    refine AWp.regC [] [] [3, 7, 8, 9, 10, 1000000, 1000006] [5003, 6001] ⟨23, [(3, .own 5003), (7, .own 6001), (8, .int .i64 (((r2).length : Nat) : Int)), (9, .int .i64 ((n3 : Nat) : Int)), (10, .bool (decide (((n3 : Nat) : Int) < (((r2).length : Nat) : Int)))), (1000000, .elem 32 1 T0F 0 0), (1000006, .elem 20 1 T6F 0 0)], [(5003, bL 9 1 eS [] l4), (6001, bL 3 1 eI 0 r2)], [], 0⟩ (True) Tryz_mixed (by kernel_rfl) trivial ?_
    refine thenQ_normal ?_
    refine AWp.seq ?_
    refine AWp.cond (b := (decide (((n3 : Nat) : Int) < (((r2).length : Nat) : Int)))) (by kernel_rfl) (fun hc1 => ?_) (fun hc1 => ?_)
    ·
      replace h := ite_tb hc1 h
      refine AWp.skip ?_
      refine thenQ_normal ?_
      refine AWp.seq ?_
      refine AWp.block ?_
      refine AWp.seq ?_
      obtain ⟨ob0p, h⟩ := chk_some h
      have ob0 : 0 ≤ ((n3 : Nat) : Int) ∧ ((n3 : Nat) : Int) < (((r2).length : Nat) : Int) := ⟨by omega, ob0p⟩
      obtain ⟨ob1, h⟩ := chk_some h
      refine AWp.regC [] [] [3, 5, 7, 8, 9, 1000000, 1000006] [5003, 6001] ⟨23, [(3, .own 5003), (5, .int .i64 (r2.getD n3 0)), (7, .own 6001), (8, .int .i64 (((r2).length : Nat) : Int)), (9, .int .i64 ((n3 : Nat) : Int)), (1000000, .elem 32 1 T0F 0 0), (1000006, .elem 20 1 T6F 0 0)], [(5003, bL 9 1 eS [] l4), (6001, bL 3 1 eI 0 r2)], [], 0⟩ ((0 ≤ ((n3 : Nat) : Int) ∧ ((n3 : Nat) : Int) < (((r2).length : Nat) : Int)) ∧ (n3 < (r2).length) ∧ True) Tryz_mixed (by kernel_rfl) ⟨ob0, ob1, trivial⟩ ?_
      refine thenQ_normal ?_
      obtain ⟨r5, hr5, h⟩ := bind_ok h
      obtain ⟨ob2, h⟩ := chk_some h
      refine AWp.regC [] [(2, ⟨[.int .i64 (r2.getD n3 0)], [], [], [], .str r5, [], [], [6]⟩)] [3, 7, 8, 9, 1000000, 1000006] [5003, 6001] ⟨23, [(3, .own 5003), (7, .own 6001), (8, .int .i64 (((r2).length : Nat) : Int)), (9, .int .i64 ((n3 : Nat) : Int)), (1000000, .elem 32 1 T0F 0 0), (1000006, .elem 20 1 T6F 0 0)], [(5003, .rows 9 1 ((l4).length + 1) (appF (l4).length (encF eS [] l4) (lstF 1 [.str r5]))), (6001, bL 3 1 eI 0 r2)], [], 0⟩ ((callP Tryz.prog true 102 [(6, .elem 20 1 T6F 0 0)] [] [] [] [] [.int .i64 (r2.getD n3 0)] [.int .i64 (r2.getD n3 0)] (.str r5) []) ∧ (((l4).length + 1) * 16 ≤ 140737488355328) ∧ True) Tryz_mixed (by kernel_rfl) ⟨⟨fun _ => (f102_ok (r2.getD n3 0) r5 hr5), fun _ => ⟨.refl _, trivial⟩, .inl rfl⟩, ob2, trivial⟩ ?_
      refine blockQ_normal ?_
      refine thenQ_normal ?_
      refine AWp.le (Le.mk (s := ⟨23, [(3, .own 5003), (7, .own 6001), (8, .int .i64 (((r2).length : Nat) : Int)), (9, .int .i64 ((n3 : Nat) : Int)), (1000000, .elem 32 1 T0F 0 0), (1000006, .elem 20 1 T6F 0 0)], [(5003, .rows 9 1 ((l4).length + 1) (appF (l4).length (encF eS [] l4) (lstF 1 [.str r5]))), (6001, bL 3 1 eI 0 r2)], [], 0⟩) (s' := ⟨23, [(3, .own 5003), (7, .own 6001), (8, .int .i64 (((r2).length : Nat) : Int)), (9, .int .i64 ((n3 : Nat) : Int)), (1000000, .elem 32 1 T0F 0 0), (1000006, .elem 20 1 T6F 0 0)], [(5003, bL 9 1 eS [] (l4 ++ [r5])), (6001, bL 3 1 eI 0 r2)], [], 0⟩) rfl rfl ⟨.refl _, .refl _, .refl _, .refl _, .refl _, .refl _, trivial⟩ ⟨⟨_, rfl, (BLe.of (RL.app (RL.self _) (RL.lst (enc := eS) [r5] rfl rfl (fun _ => rfl))))⟩, ⟨_, rfl, .refl _⟩, trivial⟩) ?_
      obtain ⟨ob3p, h⟩ := chk_some h
      have ob3 : -9223372036854775808 ≤ (((n3 : Nat) : Int) + (1 : Int)) ∧ (((n3 : Nat) : Int) + (1 : Int)) ≤ 9223372036854775807 := ⟨by omega, ob3p⟩
      refine AWp.regC [] [] [3, 7, 8, 9, 1000000, 1000006] [5003, 6001] ⟨23, [(3, .own 5003), (7, .own 6001), (8, .int .i64 (((r2).length : Nat) : Int)), (9, .int .i64 (((n3 + 1) : Nat) : Int)), (1000000, .elem 32 1 T0F 0 0), (1000006, .elem 20 1 T6F 0 0)], [(5003, bL 9 1 eS [] (l4 ++ [r5])), (6001, bL 3 1 eI 0 r2)], [], 0⟩ ((-9223372036854775808 ≤ (((n3 : Nat) : Int) + (1 : Int)) ∧ (((n3 : Nat) : Int) + (1 : Int)) ≤ 9223372036854775807) ∧ True) Tryz_mixed (by kernel_rfl) ⟨ob3, trivial⟩ ?_
      rw [hC0] at h
      exact loopQ_normal (_, (n3 + 1), (l4 ++ [r5])) (Le.mk (s := ⟨23, [(3, .own 5003), (7, .own 6001), (8, .int .i64 (((r2).length : Nat) : Int)), (9, .int .i64 (((n3 + 1) : Nat) : Int)), (1000000, .elem 32 1 T0F 0 0), (1000006, .elem 20 1 T6F 0 0)], [(5003, bL 9 1 eS [] (l4 ++ [r5])), (6001, bL 3 1 eI 0 r2)], [], 0⟩) (s' := ⟨23, [(3, .own 5003), (7, .own 6001), (8, .int .i64 (((r2).length : Nat) : Int)), (9, .int .i64 (((n3 + 1) : Nat) : Int)), (1000000, .elem 32 1 T0F 0 0), (1000006, .elem 20 1 T6F 0 0)], [(5003, bL 9 1 eS [] (l4 ++ [r5])), (6001, bL 3 1 eI 0 r2)], [], 0⟩) rfl rfl ⟨.refl _, .refl _, .refl _, .refl _, .refl _, .refl _, trivial⟩ ⟨⟨_, rfl, .refl _⟩, ⟨_, rfl, .refl _⟩, trivial⟩) h (Nat.lt_succ_self _)
    ·
      replace h := ite_fb hc1 h
      refine AWp.exit ?_
      refine thenQ_exit ?_
      refine thenQ_exit ?_
      refine blockQ_same ?_
      exact joinQ_normal (l4) (Le.mk (s := ⟨23, [(3, .own 5003), (7, .own 6001), (8, .int .i64 (((r2).length : Nat) : Int)), (9, .int .i64 ((n3 : Nat) : Int)), (10, .bool (decide (((n3 : Nat) : Int) < (((r2).length : Nat) : Int)))), (1000000, .elem 32 1 T0F 0 0), (1000006, .elem 20 1 T6F 0 0)], [(5003, bL 9 1 eS [] l4), (6001, bL 3 1 eI 0 r2)], [], 0⟩) (s' := ⟨23, [(3, .own 5003), (1000000, .elem 32 1 T0F 0 0), (1000006, .elem 20 1 T6F 0 0)], [(5003, bL 9 1 eS [] l4)], [], 0⟩) rfl rfl ⟨.refl _, .refl _, .refl _, trivial⟩ ⟨⟨_, rfl, .refl _⟩, trivial⟩) h
  ·
    rintro l6 h
    replace h := (congrFun hK1 _).symm.trans h
    refine AWp.seq ?_
    obtain ⟨r7, hr7, h⟩ := bind_ok h
    obtain ⟨ob4, h⟩ := chk_some h
    obtain ⟨ob5, h⟩ := chk_some h
    refine AWp.regC [] [(1, ⟨[vL 1 eS [] l6, .str ([32] : List UInt8)], [], [], [], .str r7, [], [5003], []⟩)] [2, 1000000, 1000006] [] ⟨23, [(2, .str ((([123] : List UInt8) ++ r7) ++ ([125] : List UInt8))), (1000000, .elem 32 1 T0F 0 0), (1000006, .elem 20 1 T6F 0 0)], [], [], 0⟩ ((callP Tryz.prog true 62 [] [] [] [(5003, bL 9 1 eS [] l6)] [5003] [.own 5003, .str ([32] : List UInt8)] [vL 1 eS [] l6, .str ([32] : List UInt8)] (.str r7) []) ∧ (([123] : List UInt8).length + r7.length ≤ 9223372036854775807) ∧ ((([123] : List UInt8) ++ r7).length + ([125] : List UInt8).length ≤ 9223372036854775807) ∧ True) Tryz_mixed (by kernel_rfl) ⟨⟨fun _ => (f62_ok l6 ([32] : List UInt8) r7 hr7), fun _ => ⟨.refl _, .refl _, trivial⟩, .inr ⟨rfl, trivial⟩⟩, ob4, ob5, trivial⟩ ?_
    refine thenQ_normal ?_
    have hret := Option.some.inj h
    subst hret
    refine AWp.le (Le.mk (s := ⟨23, [(2, .str ((([123] : List UInt8) ++ r7) ++ ([125] : List UInt8))), (1000000, .elem 32 1 T0F 0 0), (1000006, .elem 20 1 T6F 0 0)], [], [], 0⟩) (s' := ⟨23, [(2, .str ((([123] : List UInt8) ++ r7) ++ ([125] : List UInt8)))], [], [], 0⟩) rfl rfl ⟨.refl _, trivial⟩ trivial) ?_
    refine AWp.ret ?_
    exact bodyQ_ret _ rfl ⟨rfl, rfl⟩ rfl
def f61 (x1 : BitVec 16) (x2 : BitVec 16) : Option (List UInt8) :=
  jn (fun (l4 : List (List UInt8)) =>
  jn (fun (l6 : List (List UInt8)) =>
  if ((((l6).length : Nat) : Int) == (0 : Int)) then (
  some ([110, 111, 110, 101] : List UInt8)
  ) else (
  (f62 l6 ([32] : List UInt8)).bind fun (r7 : List UInt8) =>
  some r7
  )
  ) fun (K2 : (List (List UInt8)) → Option (List UInt8)) =>
  if (!(x2 == (BitVec.ofInt 16 0))) then (
  (f83 x2).bind fun (r5 : List UInt8) =>
  chk (cs4.length + r5.length ≤ 9223372036854775807) <|
  chk (((l4).length + 1) * 16 ≤ 140737488355328) <|
  K2 (l4 ++ [(cs4 ++ r5)])
  ) else (
  K2 l4
  )
  ) fun (K1 : (List (List UInt8)) → Option (List UInt8)) =>
  if (!(x1 == (BitVec.ofInt 16 0))) then (
  (f83 x1).bind fun (r3 : List UInt8) =>
  chk (([98, 121, 122, 32] : List UInt8).length + r3.length ≤ 9223372036854775807) <|
  K1 ([(([98, 121, 122, 32] : List UInt8) ++ r3)])
  ) else (
  K1 []
  )
set_option maxRecDepth 100000 in
theorem f61_ok  (x1 : BitVec 16) (x2 : BitVec 16) (r : List UInt8) (h : f61 x1 x2 = some r)  : Spec1 Tryz.prog 61 [(0, .elem 32 1 T0F 0 0), (6, .elem 20 1 T6F 0 0)] [] [] [.agg [.b16 x1, .b16 x2]] (.str r) [] := by
  unfold f61 at h
  refine Spec1.body 0 _ _ Tryz.func61 rfl Tryz.ntmps61 rfl rfl ?_
  refine AWp.seq ?_
  refine AWp.regC [] [] [1, 1000000, 1000006] [1] ⟨29, [(1, .ptr 1 0), (1000000, .elem 32 1 T0F 0 0), (1000006, .elem 20 1 T6F 0 0)], [(1, .cells 30 [.b16 x1, .b16 x2])], [], 0⟩ (True) Tryz_mixed (by kernel_rfl) trivial ?_
  refine thenQ_normal ?_
  refine AWp.seq ?_
  refine AWp.regC [] [] [1, 3, 1000000, 1000006] [1] ⟨29, [(1, .ptr 1 0), (3, .nils), (1000000, .elem 32 1 T0F 0 0), (1000006, .elem 20 1 T6F 0 0)], [(1, .cells 30 [.b16 x1, .b16 x2])], [], 0⟩ (True) Tryz_mixed (by kernel_rfl) trivial ?_
  refine thenQ_normal ?_
  obtain ⟨K1, hK1, h⟩ := jn_some h
  refine AWp.join (α := List (List UInt8)) (fun (l4 : List (List UInt8)) => ⟨29, [(1, .ptr 1 0), (3, .own 13), (1000000, .elem 32 1 T0F 0 0), (1000006, .elem 20 1 T6F 0 0)], [(1, .cells 30 [.b16 x1, .b16 x2]), (13, bL 9 1 eS [] l4)], [], 0⟩) (fun x => K1 x = some r) ?_ ?_
  ·
    refine AWp.seq ?_
    refine AWp.regC [] [] [1, 3, 6, 1000000, 1000006] [1] ⟨29, [(1, .ptr 1 0), (3, .nils), (6, .bool (!(x1 == (BitVec.ofInt 16 0)))), (1000000, .elem 32 1 T0F 0 0), (1000006, .elem 20 1 T6F 0 0)], [(1, .cells 30 [.b16 x1, .b16 x2])], [], 0⟩ (True) Tryz_mixed (by kernel_rfl) trivial ?_
    refine thenQ_normal ?_
    refine AWp.cond (b := (!(x1 == (BitVec.ofInt 16 0)))) (by kernel_rfl) (fun hc1 => ?_) (fun hc1 => ?_)
    ·
      replace h := ite_tb hc1 h
      obtain ⟨r3, hr3, h⟩ := bind_ok h
      obtain ⟨ob0, h⟩ := chk_some h
      have ob1 : (0 + 1) * 16 ≤ 140737488355328 := by first | decide | omega | simp | (intro h; cases h)
      refine AWp.regC [] [(3, ⟨[.b16 x1], [], [], [], .str r3, [], [], [0, 6]⟩)] [1, 3, 1000000, 1000006] [1, 13] ⟨29, [(1, .ptr 1 0), (3, .own 13), (1000000, .elem 32 1 T0F 0 0), (1000006, .elem 20 1 T6F 0 0)], [(1, .cells 30 [.b16 x1, .b16 x2]), (13, .rows 9 1 (0 + 1) (lstF 1 [.str (([98, 121, 122, 32] : List UInt8) ++ r3)]))], [], 0⟩ ((callP Tryz.prog true 83 [(0, .elem 32 1 T0F 0 0), (6, .elem 20 1 T6F 0 0)] [] [] [] [] [.b16 x1] [.b16 x1] (.str r3) []) ∧ (([98, 121, 122, 32] : List UInt8).length + r3.length ≤ 9223372036854775807) ∧ ((0 + 1) * 16 ≤ 140737488355328) ∧ True) Tryz_mixed (by kernel_rfl) ⟨⟨fun _ => (f83_ok x1 r3 hr3), fun _ => ⟨.refl _, trivial⟩, .inl rfl⟩, ob0, ob1, trivial⟩ ?_
      have eq2 : [(([98, 121, 122, 32] : List UInt8) ++ r3)] = ([(([98, 121, 122, 32] : List UInt8) ++ r3)]) := by first | omega | (simp only [List.length_append, List.length_cons, List.length_nil, List.length_take, List.length_drop] at *; omega) | (simp; done) | (simp_all; done) | (simp_all; omega) | rfl
      exact joinQ_normal ([(([98, 121, 122, 32] : List UInt8) ++ r3)]) (Le.trans (Le.mk (s := ⟨29, [(1, .ptr 1 0), (3, .own 13), (1000000, .elem 32 1 T0F 0 0), (1000006, .elem 20 1 T6F 0 0)], [(1, .cells 30 [.b16 x1, .b16 x2]), (13, .rows 9 1 (0 + 1) (lstF 1 [.str (([98, 121, 122, 32] : List UInt8) ++ r3)]))], [], 0⟩) (s' := ⟨29, [(1, .ptr 1 0), (3, .own 13), (1000000, .elem 32 1 T0F 0 0), (1000006, .elem 20 1 T6F 0 0)], [(1, .cells 30 [.b16 x1, .b16 x2]), (13, bL 9 1 eS [] [(([98, 121, 122, 32] : List UInt8) ++ r3)])], [], 0⟩) rfl rfl ⟨.refl _, .refl _, .refl _, .refl _, trivial⟩ ⟨⟨_, rfl, .refl _⟩, ⟨_, rfl, (BLe.of (RL.app0 (RL.lst (enc := eS) [(([98, 121, 122, 32] : List UInt8) ++ r3)] rfl rfl (fun _ => rfl))))⟩, trivial⟩) (Le.mk (s := ⟨29, [(1, .ptr 1 0), (3, .own 13), (1000000, .elem 32 1 T0F 0 0), (1000006, .elem 20 1 T6F 0 0)], [(1, .cells 30 [.b16 x1, .b16 x2]), (13, bL 9 1 eS [] [(([98, 121, 122, 32] : List UInt8) ++ r3)])], [], 0⟩) (s' := ⟨29, [(1, .ptr 1 0), (3, .own 13), (1000000, .elem 32 1 T0F 0 0), (1000006, .elem 20 1 T6F 0 0)], [(1, .cells 30 [.b16 x1, .b16 x2]), (13, bL 9 1 eS [] ([(([98, 121, 122, 32] : List UInt8) ++ r3)]))], [], 0⟩) rfl rfl ⟨.refl _, .refl _, .refl _, .refl _, trivial⟩ ⟨⟨_, rfl, .refl _⟩, ⟨_, rfl, (.L eq2)⟩, trivial⟩)) h
    ·
      replace h := ite_fb hc1 h
      refine AWp.skip ?_
      exact joinQ_normal ([]) (Le.trans (Le.trans (Le.nilOwn (s := ⟨29, [(1, .ptr 1 0), (3, .nils), (6, .bool (!(x1 == (BitVec.ofInt 16 0)))), (1000000, .elem 32 1 T0F 0 0), (1000006, .elem 20 1 T6F 0 0)], [(1, .cells 30 [.b16 x1, .b16 x2])], [], 0⟩) 3 13 9 1 (encF eS [] []) rfl rfl (Nat.le_of_ble_eq_true rfl)) (Le.mk (s' := ⟨29, [(1, .ptr 1 0), (3, .own 13), (6, .bool (!(x1 == (BitVec.ofInt 16 0)))), (1000000, .elem 32 1 T0F 0 0), (1000006, .elem 20 1 T6F 0 0)], [(1, .cells 30 [.b16 x1, .b16 x2]), (13, bL 9 1 eS [] [])], [], 0⟩) rfl rfl ⟨.refl _, .refl _, .refl _, .refl _, .refl _, trivial⟩ ⟨⟨_, rfl, .refl _⟩, ⟨_, rfl, .refl _⟩, trivial⟩)) (Le.mk (s := ⟨29, [(1, .ptr 1 0), (3, .own 13), (6, .bool (!(x1 == (BitVec.ofInt 16 0)))), (1000000, .elem 32 1 T0F 0 0), (1000006, .elem 20 1 T6F 0 0)], [(1, .cells 30 [.b16 x1, .b16 x2]), (13, bL 9 1 eS [] [])], [], 0⟩) (s' := ⟨29, [(1, .ptr 1 0), (3, .own 13), (1000000, .elem 32 1 T0F 0 0), (1000006, .elem 20 1 T6F 0 0)], [(1, .cells 30 [.b16 x1, .b16 x2]), (13, bL 9 1 eS [] [])], [], 0⟩) rfl rfl ⟨.refl _, .refl _, .refl _, .refl _, trivial⟩ ⟨⟨_, rfl, .refl _⟩, ⟨_, rfl, .refl _⟩, trivial⟩)) h
  ·
    rintro l4 h
    replace h := (congrFun hK1 _).symm.trans h
    obtain ⟨K2, hK2, h⟩ := jn_some h
    refine AWp.join (α := List (List UInt8)) (fun (l6 : List (List UInt8)) => ⟨29, [(3, .own 13), (1000000, .elem 32 1 T0F 0 0), (1000006, .elem 20 1 T6F 0 0)], [(13, bL 9 1 eS [] l6)], [], 0⟩) (fun x => K2 x = some r) ?_ ?_
    ·
      refine AWp.seq ?_
      refine AWp.regC [] [] [1, 3, 16, 1000000, 1000006] [1, 13] ⟨29, [(1, .ptr 1 0), (3, .own 13), (16, .bool (!(x2 == (BitVec.ofInt 16 0)))), (1000000, .elem 32 1 T0F 0 0), (1000006, .elem 20 1 T6F 0 0)], [(1, .cells 30 [.b16 x1, .b16 x2]), (13, bL 9 1 eS [] l4)], [], 0⟩ (True) Tryz_mixed (by kernel_rfl) trivial ?_
      refine thenQ_normal ?_
      refine AWp.cond (b := (!(x2 == (BitVec.ofInt 16 0)))) (by kernel_rfl) (fun hc2 => ?_) (fun hc2 => ?_)
      ·
        replace h := ite_tb hc2 h
        obtain ⟨r5, hr5, h⟩ := bind_ok h
        obtain ⟨ob3, h⟩ := chk_some h
        obtain ⟨ob4, h⟩ := chk_some h
        refine AWp.regC [] [(3, ⟨[.b16 x2], [], [], [], .str r5, [], [], [0, 6]⟩)] [3, 1000000, 1000006] [13] ⟨29, [(3, .own 13), (1000000, .elem 32 1 T0F 0 0), (1000006, .elem 20 1 T6F 0 0)], [(13, .rows 9 1 ((l4).length + 1) (appF (l4).length (encF eS [] l4) (lstF 1 [.str (cs4 ++ r5)])))], [], 0⟩ ((callP Tryz.prog true 83 [(0, .elem 32 1 T0F 0 0), (6, .elem 20 1 T6F 0 0)] [] [] [] [] [.b16 x2] [.b16 x2] (.str r5) []) ∧ (cs4.length + r5.length ≤ 9223372036854775807) ∧ (((l4).length + 1) * 16 ≤ 140737488355328) ∧ True) Tryz_mixed (by kernel_rfl) ⟨⟨fun _ => (f83_ok x2 r5 hr5), fun _ => ⟨.refl _, trivial⟩, .inl rfl⟩, ob3, ob4, trivial⟩ ?_
        exact joinQ_normal ((l4 ++ [(cs4 ++ r5)])) (Le.trans (Le.mk (s := ⟨29, [(3, .own 13), (1000000, .elem 32 1 T0F 0 0), (1000006, .elem 20 1 T6F 0 0)], [(13, .rows 9 1 ((l4).length + 1) (appF (l4).length (encF eS [] l4) (lstF 1 [.str (cs4 ++ r5)])))], [], 0⟩) (s' := ⟨29, [(3, .own 13), (1000000, .elem 32 1 T0F 0 0), (1000006, .elem 20 1 T6F 0 0)], [(13, bL 9 1 eS [] (l4 ++ [(cs4 ++ r5)]))], [], 0⟩) rfl rfl ⟨.refl _, .refl _, .refl _, trivial⟩ ⟨⟨_, rfl, (BLe.of (RL.app (RL.self _) (RL.lst (enc := eS) [(cs4 ++ r5)] rfl rfl (fun _ => rfl))))⟩, trivial⟩) (Le.mk (s := ⟨29, [(3, .own 13), (1000000, .elem 32 1 T0F 0 0), (1000006, .elem 20 1 T6F 0 0)], [(13, bL 9 1 eS [] (l4 ++ [(cs4 ++ r5)]))], [], 0⟩) (s' := ⟨29, [(3, .own 13), (1000000, .elem 32 1 T0F 0 0), (1000006, .elem 20 1 T6F 0 0)], [(13, bL 9 1 eS [] (l4 ++ [(cs4 ++ r5)]))], [], 0⟩) rfl rfl ⟨.refl _, .refl _, .refl _, trivial⟩ ⟨⟨_, rfl, .refl _⟩, trivial⟩)) h
      ·
        replace h := ite_fb hc2 h
        refine AWp.skip ?_
        exact joinQ_normal (l4) (Le.mk (s := ⟨29, [(1, .ptr 1 0), (3, .own 13), (16, .bool (!(x2 == (BitVec.ofInt 16 0)))), (1000000, .elem 32 1 T0F 0 0), (1000006, .elem 20 1 T6F 0 0)], [(1, .cells 30 [.b16 x1, .b16 x2]), (13, bL 9 1 eS [] l4)], [], 0⟩) (s' := ⟨29, [(3, .own 13), (1000000, .elem 32 1 T0F 0 0), (1000006, .elem 20 1 T6F 0 0)], [(13, bL 9 1 eS [] l4)], [], 0⟩) rfl rfl ⟨.refl _, .refl _, .refl _, trivial⟩ ⟨⟨_, rfl, .refl _⟩, trivial⟩) h
    ·
      rintro l6 h
      replace h := (congrFun hK2 _).symm.trans h
      refine AWp.seq ?_
      refine AWp.seq ?_
      refine AWp.regC [] [] [3, 26, 1000000, 1000006] [13] ⟨29, [(3, .own 13), (26, .bool ((((l6).length : Nat) : Int) == (0 : Int))), (1000000, .elem 32 1 T0F 0 0), (1000006, .elem 20 1 T6F 0 0)], [(13, bL 9 1 eS [] l6)], [], 0⟩ (True) Tryz_mixed (by kernel_rfl) trivial ?_
      refine thenQ_normal ?_
      refine AWp.cond (b := ((((l6).length : Nat) : Int) == (0 : Int))) (by kernel_rfl) (fun hc3 => ?_) (fun hc3 => ?_)
      ·
        replace h := ite_tb hc3 h
        refine AWp.seq ?_
        refine AWp.regC [] [] [2, 1000000, 1000006] [] ⟨29, [(2, .str ([110, 111, 110, 101] : List UInt8)), (1000000, .elem 32 1 T0F 0 0), (1000006, .elem 20 1 T6F 0 0)], [], [], 0⟩ (True) Tryz_mixed (by kernel_rfl) trivial ?_
        refine thenQ_normal ?_
        have hret := Option.some.inj h
        subst hret
        refine AWp.le (Le.mk (s := ⟨29, [(2, .str ([110, 111, 110, 101] : List UInt8)), (1000000, .elem 32 1 T0F 0 0), (1000006, .elem 20 1 T6F 0 0)], [], [], 0⟩) (s' := ⟨29, [(2, .str ([110, 111, 110, 101] : List UInt8))], [], [], 0⟩) rfl rfl ⟨.refl _, trivial⟩ trivial) ?_
        refine AWp.ret ?_
        refine thenQ_ret ?_
        exact bodyQ_ret _ rfl ⟨rfl, rfl⟩ rfl
      ·
        replace h := ite_fb hc3 h
        refine AWp.skip ?_
        refine thenQ_normal ?_
        refine AWp.seq ?_
        obtain ⟨r7, hr7, h⟩ := bind_ok h
        refine AWp.regC [] [(1, ⟨[vL 1 eS [] l6, .str ([32] : List UInt8)], [], [], [], .str r7, [], [13], []⟩)] [2, 1000000, 1000006] [] ⟨29, [(2, .str r7), (1000000, .elem 32 1 T0F 0 0), (1000006, .elem 20 1 T6F 0 0)], [], [], 0⟩ ((callP Tryz.prog true 62 [] [] [] [(13, bL 9 1 eS [] l6)] [13] [.own 13, .str ([32] : List UInt8)] [vL 1 eS [] l6, .str ([32] : List UInt8)] (.str r7) []) ∧ True) Tryz_mixed (by kernel_rfl) ⟨⟨fun _ => (f62_ok l6 ([32] : List UInt8) r7 hr7), fun _ => ⟨.refl _, .refl _, trivial⟩, .inr ⟨rfl, trivial⟩⟩, trivial⟩ ?_
        refine thenQ_normal ?_
        have hret := Option.some.inj h
        subst hret
        refine AWp.le (Le.mk (s := ⟨29, [(2, .str r7), (1000000, .elem 32 1 T0F 0 0), (1000006, .elem 20 1 T6F 0 0)], [], [], 0⟩) (s' := ⟨29, [(2, .str r7)], [], [], 0⟩) rfl rfl ⟨.refl _, trivial⟩ trivial) ?_
        refine AWp.ret ?_
        exact bodyQ_ret _ rfl ⟨rfl, rfl⟩ rfl
def f35_L0 (x1 : List (BitVec 16 × BitVec 16)) (K1 : (List (List UInt8)) → Option (List UInt8)) : Nat → (Nat × List (List UInt8)) → Option (List UInt8)
  | 0, _ => none
  | k + 1, (n2, l3) =>
    if (decide (((n2 : Nat) : Int) < (((x1).length : Nat) : Int))) then (
    chk (((n2 : Nat) : Int) < (((x1).length : Nat) : Int)) <|
    (f61 ((x1.getD n2 (default : BitVec 16 × BitVec 16)).1) ((x1.getD n2 (default : BitVec 16 × BitVec 16)).2)).bind fun (r4 : List UInt8) =>
    chk (((l3).length + 1) * 16 ≤ 140737488355328) <|
    chk ((((n2 : Nat) : Int) + (1 : Int)) ≤ 9223372036854775807) <|
    (f35_L0 x1 K1 k) ((n2 + 1), (l3 ++ [r4]))
    ) else (
    K1 l3
    )
def f35 (x1 : List (BitVec 16 × BitVec 16)) : Option (List UInt8) :=
  jn (fun (l5 : List (List UInt8)) =>
  (f62 l5 ([32, 124, 32] : List UInt8)).bind fun (r6 : List UInt8) =>
  some r6
  ) fun (K1 : (List (List UInt8)) → Option (List UInt8)) =>
  f35_L0 x1 K1 FUEL (0, [])
set_option maxRecDepth 100000 in
theorem f35_ok  (x1 : List (BitVec 16 × BitVec 16)) (r : List UInt8) (h : f35 x1 = some r)  : Spec1 Tryz.prog 35 [(0, .elem 32 1 T0F 0 0), (6, .elem 20 1 T6F 0 0)] [] [] [vL 2 eWW (default : BitVec 16 × BitVec 16) x1] (.str r) [] := by
  unfold f35 at h
  refine Spec1.body 0 _ _ Tryz.func35 rfl Tryz.ntmps35 rfl rfl ?_
  refine AWp.seq ?_
  refine AWp.regC [] [] [0, 1000000, 1000006] [] ⟨20, [(0, vL 2 eWW (default : BitVec 16 × BitVec 16) x1), (1000000, .elem 32 1 T0F 0 0), (1000006, .elem 20 1 T6F 0 0)], [], [], 0⟩ (True) Tryz_mixed (by kernel_rfl) trivial ?_
  refine thenQ_normal ?_
  refine AWp.seq ?_
  refine AWp.regC [] [] [0, 3, 1000000, 1000006] [] ⟨20, [(0, vL 2 eWW (default : BitVec 16 × BitVec 16) x1), (3, .nils), (1000000, .elem 32 1 T0F 0 0), (1000006, .elem 20 1 T6F 0 0)], [], [], 0⟩ (True) Tryz_mixed (by kernel_rfl) trivial ?_
  refine thenQ_normal ?_
  obtain ⟨K1, hK1, h⟩ := jn_some h
  refine AWp.join (α := List (List UInt8)) (fun (l5 : List (List UInt8)) => ⟨20, [(3, .own 5003), (1000000, .elem 32 1 T0F 0 0), (1000006, .elem 20 1 T6F 0 0)], [(5003, bL 9 1 eS [] l5)], [], 0⟩) (fun x => K1 x = some r) ?_ ?_
  ·
    refine AWp.seq ?_
    refine AWp.regC [] [] [3, 6, 7, 8, 1000000, 1000006] [] ⟨20, [(3, .nils), (6, vL 2 eWW (default : BitVec 16 × BitVec 16) x1), (7, .int .i64 (((x1).length : Nat) : Int)), (8, .int .i64 (0 : Int)), (1000000, .elem 32 1 T0F 0 0), (1000006, .elem 20 1 T6F 0 0)], [], [], 0⟩ (True) Tryz_mixed (by kernel_rfl) trivial ?_
    refine thenQ_normal ?_
    refine AWp.block ?_
    refine AWp.loopL (α := Nat × (Nat × List (List UInt8))) (fun x => match x with | (_, n2, l3) => ⟨20, [(3, .own 5003), (6, vL 2 eWW (default : BitVec 16 × BitVec 16) x1), (7, .int .i64 (((x1).length : Nat) : Int)), (8, .int .i64 ((n2 : Nat) : Int)), (1000000, .elem 32 1 T0F 0 0), (1000006, .elem 20 1 T6F 0 0)], [(5003, bL 9 1 eS [] l3)], [], 0⟩) (fun x => f35_L0 x1 K1 x.1 x.2 = some r) (fun x => x.1) (FUEL, 0, []) (Le.trans (Le.trans (Le.nilOwn (s := ⟨20, [(3, .nils), (6, vL 2 eWW (default : BitVec 16 × BitVec 16) x1), (7, .int .i64 (((x1).length : Nat) : Int)), (8, .int .i64 (0 : Int)), (1000000, .elem 32 1 T0F 0 0), (1000006, .elem 20 1 T6F 0 0)], [], [], 0⟩) 3 5003 9 1 (encF eS [] []) rfl rfl (Nat.le_of_ble_eq_true rfl)) (Le.mk (s' := ⟨20, [(3, .own 5003), (6, vL 2 eWW (default : BitVec 16 × BitVec 16) x1), (7, .int .i64 (((x1).length : Nat) : Int)), (8, .int .i64 (0 : Int)), (1000000, .elem 32 1 T0F 0 0), (1000006, .elem 20 1 T6F 0 0)], [(5003, bL 9 1 eS [] [])], [], 0⟩) rfl rfl ⟨.refl _, .refl _, .refl _, .refl _, .refl _, .refl _, trivial⟩ ⟨⟨_, rfl, .refl _⟩, trivial⟩)) (Le.mk (s := ⟨20, [(3, .own 5003), (6, vL 2 eWW (default : BitVec 16 × BitVec 16) x1), (7, .int .i64 (((x1).length : Nat) : Int)), (8, .int .i64 (0 : Int)), (1000000, .elem 32 1 T0F 0 0), (1000006, .elem 20 1 T6F 0 0)], [(5003, bL 9 1 eS [] [])], [], 0⟩) (s' := ⟨20, [(3, .own 5003), (6, vL 2 eWW (default : BitVec 16 × BitVec 16) x1), (7, .int .i64 (((x1).length : Nat) : Int)), (8, .int .i64 (0 : Int)), (1000000, .elem 32 1 T0F 0 0), (1000006, .elem 20 1 T6F 0 0)], [(5003, bL 9 1 eS [] [])], [], 0⟩) rfl rfl ⟨.refl _, .refl _, .refl _, .refl _, .refl _, .refl _, trivial⟩ ⟨⟨_, rfl, .refl _⟩, trivial⟩)) h ?_
    rintro ⟨k0, n2, l3⟩ h
    cases k0 with
    | zero => exact nomatch (show (none : Option (List UInt8)) = some r from h)
    | succ k0 =>
    obtain ⟨C0, hC0⟩ : ∃ C, C = f35_L0 x1 K1 k0 := ⟨_, rfl⟩
    replace h := (f35_L0.eq_2 ..).symm.trans h
    try rw [← hC0] at h
    refine AWp.seq ?_
    refine AWp.regC [] [] [3, 6, 7, 8, 9, 1000000, 1000006] [5003] ⟨20, [(3, .own 5003), (6, vL 2 eWW (default : BitVec 16 × BitVec 16) x1), (7, .int .i64 (((x1).length : Nat) : Int)), (8, .int .i64 ((n2 : Nat) : Int)), (9, .bool (decide (((n2 : Nat) : Int) < (((x1).length : Nat) : Int)))), (1000000, .elem 32 1 T0F 0 0), (1000006, .elem 20 1 T6F 0 0)], [(5003, bL 9 1 eS [] l3)], [], 0⟩ (True) Tryz_mixed (by kernel_rfl) trivial ?_
    refine thenQ_normal ?_
    refine AWp.seq ?_
    refine AWp.cond (b := (decide (((n2 : Nat) : Int) < (((x1).length : Nat) : Int)))) (by kernel_rfl) (fun hc1 => ?_) (fun hc1 => ?_)
    ·
      replace h := ite_tb hc1 h
      refine AWp.skip ?_
      refine thenQ_normal ?_
      refine AWp.seq ?_
      refine AWp.block ?_
      refine AWp.seq ?_
      obtain ⟨ob0p, h⟩ := chk_some h
      have ob0 : 0 ≤ ((n2 : Nat) : Int) ∧ ((n2 : Nat) : Int) < (((x1).length : Nat) : Int) := ⟨by omega, ob0p⟩
      refine AWp.regC [] [] [3, 5, 6, 7, 8, 1000000, 1000006] [5, 5003] ⟨20, [(3, .own 5003), (5, .ptr 5 0), (6, vL 2 eWW (default : BitVec 16 × BitVec 16) x1), (7, .int .i64 (((x1).length : Nat) : Int)), (8, .int .i64 ((n2 : Nat) : Int)), (1000000, .elem 32 1 T0F 0 0), (1000006, .elem 20 1 T6F 0 0)], [(5, .cells 30 [.b16 (x1.getD n2 (default : BitVec 16 × BitVec 16)).1, .b16 (x1.getD n2 (default : BitVec 16 × BitVec 16)).2]), (5003, bL 9 1 eS [] l3)], [], 0⟩ ((0 ≤ ((n2 : Nat) : Int) ∧ ((n2 : Nat) : Int) < (((x1).length : Nat) : Int)) ∧ (True) ∧ True) Tryz_mixed (by kernel_rfl) ⟨ob0, trivial, trivial⟩ ?_
      refine thenQ_normal ?_
      obtain ⟨r4, hr4, h⟩ := bind_ok h
      obtain ⟨ob1, h⟩ := chk_some h
      refine AWp.regC [] [(2, ⟨[.agg [.b16 (x1.getD n2 (default : BitVec 16 × BitVec 16)).1, .b16 (x1.getD n2 (default : BitVec 16 × BitVec 16)).2]], [], [], [], .str r4, [], [], [0, 6]⟩)] [3, 6, 7, 8, 1000000, 1000006] [5003] ⟨20, [(3, .own 5003), (6, vL 2 eWW (default : BitVec 16 × BitVec 16) x1), (7, .int .i64 (((x1).length : Nat) : Int)), (8, .int .i64 ((n2 : Nat) : Int)), (1000000, .elem 32 1 T0F 0 0), (1000006, .elem 20 1 T6F 0 0)], [(5003, .rows 9 1 ((l3).length + 1) (appF (l3).length (encF eS [] l3) (lstF 1 [.str r4])))], [], 0⟩ ((callP Tryz.prog true 61 [(0, .elem 32 1 T0F 0 0), (6, .elem 20 1 T6F 0 0)] [] [] [] [] [.agg [.b16 (x1.getD n2 (default : BitVec 16 × BitVec 16)).1, .b16 (x1.getD n2 (default : BitVec 16 × BitVec 16)).2]] [.agg [.b16 (x1.getD n2 (default : BitVec 16 × BitVec 16)).1, .b16 (x1.getD n2 (default : BitVec 16 × BitVec 16)).2]] (.str r4) []) ∧ (((l3).length + 1) * 16 ≤ 140737488355328) ∧ True) Tryz_mixed (by kernel_rfl) ⟨⟨fun _ => (f61_ok ((x1.getD n2 (default : BitVec 16 × BitVec 16)).1) ((x1.getD n2 (default : BitVec 16 × BitVec 16)).2) r4 hr4), fun _ => ⟨.refl _, trivial⟩, .inl rfl⟩, ob1, trivial⟩ ?_
      refine blockQ_normal ?_
      refine thenQ_normal ?_
      refine AWp.le (Le.mk (s := ⟨20, [(3, .own 5003), (6, vL 2 eWW (default : BitVec 16 × BitVec 16) x1), (7, .int .i64 (((x1).length : Nat) : Int)), (8, .int .i64 ((n2 : Nat) : Int)), (1000000, .elem 32 1 T0F 0 0), (1000006, .elem 20 1 T6F 0 0)], [(5003, .rows 9 1 ((l3).length + 1) (appF (l3).length (encF eS [] l3) (lstF 1 [.str r4])))], [], 0⟩) (s' := ⟨20, [(3, .own 5003), (6, vL 2 eWW (default : BitVec 16 × BitVec 16) x1), (7, .int .i64 (((x1).length : Nat) : Int)), (8, .int .i64 ((n2 : Nat) : Int)), (1000000, .elem 32 1 T0F 0 0), (1000006, .elem 20 1 T6F 0 0)], [(5003, bL 9 1 eS [] (l3 ++ [r4]))], [], 0⟩) rfl rfl ⟨.refl _, .refl _, .refl _, .refl _, .refl _, .refl _, trivial⟩ ⟨⟨_, rfl, (BLe.of (RL.app (RL.self _) (RL.lst (enc := eS) [r4] rfl rfl (fun _ => rfl))))⟩, trivial⟩) ?_
      obtain ⟨ob2p, h⟩ := chk_some h
      have ob2 : -9223372036854775808 ≤ (((n2 : Nat) : Int) + (1 : Int)) ∧ (((n2 : Nat) : Int) + (1 : Int)) ≤ 9223372036854775807 := ⟨by omega, ob2p⟩
      refine AWp.regC [] [] [3, 6, 7, 8, 1000000, 1000006] [5003] ⟨20, [(3, .own 5003), (6, vL 2 eWW (default : BitVec 16 × BitVec 16) x1), (7, .int .i64 (((x1).length : Nat) : Int)), (8, .int .i64 (((n2 + 1) : Nat) : Int)), (1000000, .elem 32 1 T0F 0 0), (1000006, .elem 20 1 T6F 0 0)], [(5003, bL 9 1 eS [] (l3 ++ [r4]))], [], 0⟩ ((-9223372036854775808 ≤ (((n2 : Nat) : Int) + (1 : Int)) ∧ (((n2 : Nat) : Int) + (1 : Int)) ≤ 9223372036854775807) ∧ True) Tryz_mixed (by kernel_rfl) ⟨ob2, trivial⟩ ?_
      rw [hC0] at h
      exact loopQ_normal (_, (n2 + 1), (l3 ++ [r4])) (Le.mk (s := ⟨20, [(3, .own 5003), (6, vL 2 eWW (default : BitVec 16 × BitVec 16) x1), (7, .int .i64 (((x1).length : Nat) : Int)), (8, .int .i64 (((n2 + 1) : Nat) : Int)), (1000000, .elem 32 1 T0F 0 0), (1000006, .elem 20 1 T6F 0 0)], [(5003, bL 9 1 eS [] (l3 ++ [r4]))], [], 0⟩) (s' := ⟨20, [(3, .own 5003), (6, vL 2 eWW (default : BitVec 16 × BitVec 16) x1), (7, .int .i64 (((x1).length : Nat) : Int)), (8, .int .i64 (((n2 + 1) : Nat) : Int)), (1000000, .elem 32 1 T0F 0 0), (1000006, .elem 20 1 T6F 0 0)], [(5003, bL 9 1 eS [] (l3 ++ [r4]))], [], 0⟩) rfl rfl ⟨.refl _, .refl _, .refl _, .refl _, .refl _, .refl _, trivial⟩ ⟨⟨_, rfl, .refl _⟩, trivial⟩) h (Nat.lt_succ_self _)
    ·
      replace h := ite_fb hc1 h
      refine AWp.exit ?_
      refine thenQ_exit ?_
      refine thenQ_exit ?_
      refine blockQ_same ?_
      exact joinQ_normal (l3) (Le.mk (s := ⟨20, [(3, .own 5003), (6, vL 2 eWW (default : BitVec 16 × BitVec 16) x1), (7, .int .i64 (((x1).length : Nat) : Int)), (8, .int .i64 ((n2 : Nat) : Int)), (9, .bool (decide (((n2 : Nat) : Int) < (((x1).length : Nat) : Int)))), (1000000, .elem 32 1 T0F 0 0), (1000006, .elem 20 1 T6F 0 0)], [(5003, bL 9 1 eS [] l3)], [], 0⟩) (s' := ⟨20, [(3, .own 5003), (1000000, .elem 32 1 T0F 0 0), (1000006, .elem 20 1 T6F 0 0)], [(5003, bL 9 1 eS [] l3)], [], 0⟩) rfl rfl ⟨.refl _, .refl _, .refl _, trivial⟩ ⟨⟨_, rfl, .refl _⟩, trivial⟩) h
  ·
    rintro l5 h
    replace h := (congrFun hK1 _).symm.trans h
    refine AWp.seq ?_
    obtain ⟨r6, hr6, h⟩ := bind_ok h
    refine AWp.regC [] [(1, ⟨[vL 1 eS [] l5, .str ([32, 124, 32] : List UInt8)], [], [], [], .str r6, [], [5003], []⟩)] [2, 1000000, 1000006] [] ⟨20, [(2, .str r6), (1000000, .elem 32 1 T0F 0 0), (1000006, .elem 20 1 T6F 0 0)], [], [], 0⟩ ((callP Tryz.prog true 62 [] [] [] [(5003, bL 9 1 eS [] l5)] [5003] [.own 5003, .str ([32, 124, 32] : List UInt8)] [vL 1 eS [] l5, .str ([32, 124, 32] : List UInt8)] (.str r6) []) ∧ True) Tryz_mixed (by kernel_rfl) ⟨⟨fun _ => (f62_ok l5 ([32, 124, 32] : List UInt8) r6 hr6), fun _ => ⟨.refl _, .refl _, trivial⟩, .inr ⟨rfl, trivial⟩⟩, trivial⟩ ?_
    refine thenQ_normal ?_
    have hret := Option.some.inj h
    subst hret
    refine AWp.le (Le.mk (s := ⟨20, [(2, .str r6), (1000000, .elem 32 1 T0F 0 0), (1000006, .elem 20 1 T6F 0 0)], [], [], 0⟩) (s' := ⟨20, [(2, .str r6)], [], [], 0⟩) rfl rfl ⟨.refl _, trivial⟩ trivial) ?_
    refine AWp.ret ?_
    exact bodyQ_ret _ rfl ⟨rfl, rfl⟩ rfl
def f64 (x1 : List (BitVec 16)) : Option (List (BitVec 16)) := sortO key x1
theorem f64_ok (x1 r : List (BitVec 16)) (h : f64 x1 = some r) : Spec1 Tryz.prog 64 [] [2000] [(2000, bL 28 1 eW 0#16 x1)] [.own 2000, .fn (.func 65) []] (.tup []) [(2000, bL 28 1 eW 0#16 r)] := sortS x1 r h
def f66_L1 (x1 : List (BitVec 16)) (n2 : Nat) (K2 : (Nat × List (BitVec 16)) → Option (List (BitVec 16))) : Nat → (Nat × Nat × List (BitVec 16)) → Option (List (BitVec 16))
  | 0, _ => none
  | k + 1, (n3, n4, l5) =>
    if (decide (((n4 : Nat) : Int) < ((((x1).length - n2) : Nat) : Int))) then (
    jn (fun ((n6, l7) : Nat × List (BitVec 16)) =>
    chk ((((n4 : Nat) : Int) + (1 : Int)) ≤ 9223372036854775807) <|
    (f66_L1 x1 n2 K2 k) (n6, (n4 + 1), l7)
    ) fun (K3 : (Nat × List (BitVec 16)) → Option (List (BitVec 16))) =>
    chk (((n4 : Nat) : Int) < ((((x1).length - n2) : Nat) : Int)) <|
    chk ((n2 + n4) < (l5).length) <|
    chk (-9223372036854775808 ≤ (((n4 : Nat) : Int) - (1 : Int)) ∧ (((n4 : Nat) : Int) - (1 : Int)) ≤ 9223372036854775807) <|
    chk (0 ≤ (((n4 : Nat) : Int) - (1 : Int)) ∧ (((n4 : Nat) : Int) - (1 : Int)) < ((((x1).length - n2) : Nat) : Int)) <|
    chk ((n2 + (((((n4 : Nat) : Int) - (1 : Int))).toNat)) < (l5).length) <|
    if (!((l5.getD (n2 + n4) 0#16) == (l5.getD (n2 + (((((n4 : Nat) : Int) - (1 : Int))).toNat)) 0#16))) then (
    chk (((n4 : Nat) : Int) < ((((x1).length - n2) : Nat) : Int)) <|
    chk ((n2 + n4) < (l5).length) <|
    chk (((n3 : Nat) : Int) < (((l5).length : Nat) : Int)) <|
    chk (n3 < (l5).length) <|
    chk ((((n3 : Nat) : Int) + (1 : Int)) ≤ 9223372036854775807) <|
    K3 ((n3 + 1), (l5.set n3 (l5.getD (n2 + n4) 0#16)))
    ) else (
    K3 (n3, l5)
    )
    ) else (
    K2 (n3, l5)
    )
def f66_L0 (x1 : List (BitVec 16)) (K1 : Unit → Option (List (BitVec 16))) : Nat → Nat → Option (List (BitVec 16))
  | 0, _ => none
  | k + 1, n2 =>
    if (decide (((n2 : Nat) : Int) < (((x1).length : Nat) : Int))) then (
    chk (((n2 : Nat) : Int) < (((x1).length : Nat) : Int)) <|
    chk (n2 < (x1).length) <|
    chk (-9223372036854775808 ≤ (((n2 : Nat) : Int) - (1 : Int)) ∧ (((n2 : Nat) : Int) - (1 : Int)) ≤ 9223372036854775807) <|
    chk (0 ≤ (((n2 : Nat) : Int) - (1 : Int)) ∧ (((n2 : Nat) : Int) - (1 : Int)) < (((x1).length : Nat) : Int)) <|
    chk ((((((n2 : Nat) : Int) - (1 : Int))).toNat) < (x1).length) <|
    if ((x1.getD n2 0#16) == (x1.getD (((((n2 : Nat) : Int) - (1 : Int))).toNat) 0#16)) then (
    chk (((n2 : Nat) : Int) ≤ (((x1).length : Nat) : Int)) <|
    jn (fun ((n8, l9) : Nat × List (BitVec 16)) =>
    chk (((n8 : Nat) : Int) ≤ (((l9).length : Nat) : Int)) <|
    chk (n8 + ((l9).length - n8) ≤ (l9).length ∧ 0 < ((l9).length - n8)) <|
    chk (((n8 : Nat) : Int) ≤ ((((l9.take n8 ++ List.replicate ((l9).length - n8) (BitVec.ofInt 16 0))).length : Nat) : Int)) <|
    chk (n8 ≤ (l9.take n8 ++ List.replicate ((l9).length - n8) (BitVec.ofInt 16 0)).length) <|
    some ((l9.take n8 ++ List.replicate ((l9).length - n8) (BitVec.ofInt 16 0)).take n8)
    ) fun (K2 : (Nat × List (BitVec 16)) → Option (List (BitVec 16))) =>
    f66_L1 x1 n2 K2 FUEL (n2, 1, x1)
    ) else (
    chk ((((n2 : Nat) : Int) + (1 : Int)) ≤ 9223372036854775807) <|
    (f66_L0 x1 K1 k) (n2 + 1)
    )
    ) else (
    K1 ()
    )
def f66 (x1 : List (BitVec 16)) : Option (List (BitVec 16)) :=
  if (decide ((((x1).length : Nat) : Int) < (2 : Int))) then (
  some x1
  ) else (
  jn (fun (_ : Unit) =>
  some x1
  ) fun (K1 : Unit → Option (List (BitVec 16))) =>
  f66_L0 x1 K1 FUEL 1
  )
set_option maxRecDepth 100000 in
theorem f66_ok  (x1 : List (BitVec 16)) (r : List (BitVec 16)) (h : f66 x1 = some r)  : Spec1 Tryz.prog 66 [] [] [(2000, bL 28 1 eW 0#16 x1)] [.own 2000] (.own 2000) [(2000, bL 28 1 eW 0#16 r)] := by
  unfold f66 at h
  refine Spec1.body 0 _ _ Tryz.func66 rfl Tryz.ntmps66 rfl rfl ?_
  refine AWp.seq ?_
  refine AWp.regC [] [] [0] [2000] ⟨61, [(0, .own 2000)], [(2000, bL 28 1 eW 0#16 x1)], [], 0⟩ (True) Tryz_mixed (by kernel_rfl) trivial ?_
  refine thenQ_normal ?_
  refine AWp.seq ?_
  refine AWp.seq ?_
  refine AWp.regC [] [] [0, 8] [2000] ⟨61, [(0, .own 2000), (8, .bool (decide ((((x1).length : Nat) : Int) < (2 : Int))))], [(2000, bL 28 1 eW 0#16 x1)], [], 0⟩ (True) Tryz_mixed (by kernel_rfl) trivial ?_
  refine thenQ_normal ?_
  refine AWp.cond (b := (decide ((((x1).length : Nat) : Int) < (2 : Int)))) (by kernel_rfl) (fun hc1 => ?_) (fun hc1 => ?_)
  ·
    replace h := ite_tb hc1 h
    refine AWp.seq ?_
    refine AWp.regC [] [] [2] [2000] ⟨61, [(2, .own 2000)], [(2000, bL 28 1 eW 0#16 x1)], [], 0⟩ (True) Tryz_mixed (by kernel_rfl) trivial ?_
    refine thenQ_normal ?_
    have hret := Option.some.inj h
    subst hret
    refine AWp.le (Le.mk (s := ⟨61, [(2, .own 2000)], [(2000, bL 28 1 eW 0#16 x1)], [], 0⟩) (s' := ⟨61, [(2, .own 2000)], [(2000, bL 28 1 eW 0#16 x1)], [], 0⟩) rfl rfl ⟨.refl _, trivial⟩ ⟨⟨_, rfl, .refl _⟩, trivial⟩) ?_
    refine AWp.ret ?_
    refine thenQ_ret ?_
    exact bodyQ_ret _ rfl ⟨rfl, rfl⟩ rfl
  ·
    replace h := ite_fb hc1 h
    refine AWp.skip ?_
    refine thenQ_normal ?_
    obtain ⟨K1, hK1, h⟩ := jn_some h
    refine AWp.join (α := Unit) (fun (x : Unit) => match x with | () => ⟨61, [(0, .own 2000)], [(2000, bL 28 1 eW 0#16 x1)], [], 0⟩) (fun x => K1 x = some r) ?_ ?_
    ·
      refine AWp.seq ?_
      refine AWp.regC [] [] [0, 3] [2000] ⟨61, [(0, .own 2000), (3, .int .i64 (1 : Int))], [(2000, bL 28 1 eW 0#16 x1)], [], 0⟩ (True) Tryz_mixed (by kernel_rfl) trivial ?_
      refine thenQ_normal ?_
      refine AWp.block ?_
      refine AWp.loopL (α := Nat × Nat) (fun x => match x with | (_, n2) => ⟨61, [(0, .own 2000), (3, .int .i64 ((n2 : Nat) : Int))], [(2000, bL 28 1 eW 0#16 x1)], [], 0⟩) (fun x => f66_L0 x1 K1 x.1 x.2 = some r) (fun x => x.1) (FUEL, 1) (Le.mk (s := ⟨61, [(0, .own 2000), (3, .int .i64 (1 : Int))], [(2000, bL 28 1 eW 0#16 x1)], [], 0⟩) (s' := ⟨61, [(0, .own 2000), (3, .int .i64 (1 : Int))], [(2000, bL 28 1 eW 0#16 x1)], [], 0⟩) rfl rfl ⟨.refl _, .refl _, trivial⟩ ⟨⟨_, rfl, .refl _⟩, trivial⟩) h ?_
      rintro ⟨k0, n2⟩ h
      cases k0 with
      | zero => exact nomatch (show (none : Option (List (BitVec 16))) = some r from h)
      | succ k0 =>
      obtain ⟨C0, hC0⟩ : ∃ C, C = f66_L0 x1 K1 k0 := ⟨_, rfl⟩
      replace h := (f66_L0.eq_2 ..).symm.trans h
      try rw [← hC0] at h
      refine AWp.seq ?_
      refine AWp.seq ?_
      refine AWp.regC [] [] [0, 3, 13] [2000] ⟨61, [(0, .own 2000), (3, .int .i64 ((n2 : Nat) : Int)), (13, .bool (decide (((n2 : Nat) : Int) < (((x1).length : Nat) : Int))))], [(2000, bL 28 1 eW 0#16 x1)], [], 0⟩ (True) Tryz_mixed (by kernel_rfl) trivial ?_
      refine thenQ_normal ?_
      refine AWp.cond (b := (decide (((n2 : Nat) : Int) < (((x1).length : Nat) : Int)))) (by kernel_rfl) (fun hc2 => ?_) (fun hc2 => ?_)
      ·
        replace h := ite_tb hc2 h
        refine AWp.skip ?_
        refine thenQ_normal ?_
        refine AWp.seq ?_
        refine AWp.block ?_
        refine AWp.seq ?_
        obtain ⟨ob0p, h⟩ := chk_some h
        have ob0 : 0 ≤ ((n2 : Nat) : Int) ∧ ((n2 : Nat) : Int) < (((x1).length : Nat) : Int) := ⟨by omega, ob0p⟩
        obtain ⟨ob1, h⟩ := chk_some h
        obtain ⟨ob2, h⟩ := chk_some h
        obtain ⟨ob3, h⟩ := chk_some h
        obtain ⟨ob4, h⟩ := chk_some h
        refine AWp.regC [] [] [0, 3, 25] [2000] ⟨61, [(0, .own 2000), (3, .int .i64 ((n2 : Nat) : Int)), (25, .bool ((x1.getD n2 0#16) == (x1.getD (((((n2 : Nat) : Int) - (1 : Int))).toNat) 0#16)))], [(2000, bL 28 1 eW 0#16 x1)], [], 0⟩ ((0 ≤ ((n2 : Nat) : Int) ∧ ((n2 : Nat) : Int) < (((x1).length : Nat) : Int)) ∧ (n2 < (x1).length) ∧ (-9223372036854775808 ≤ (((n2 : Nat) : Int) - (1 : Int)) ∧ (((n2 : Nat) : Int) - (1 : Int)) ≤ 9223372036854775807) ∧ (0 ≤ (((n2 : Nat) : Int) - (1 : Int)) ∧ (((n2 : Nat) : Int) - (1 : Int)) < (((x1).length : Nat) : Int)) ∧ ((((((n2 : Nat) : Int) - (1 : Int))).toNat) < (x1).length) ∧ True) Tryz_mixed (by kernel_rfl) ⟨ob0, ob1, ob2, ob3, ob4, trivial⟩ ?_
        refine thenQ_normal ?_
        refine AWp.cond (b := ((x1.getD n2 0#16) == (x1.getD (((((n2 : Nat) : Int) - (1 : Int))).toNat) 0#16))) (by kernel_rfl) (fun hc3 => ?_) (fun hc3 => ?_)
        ·
          replace h := ite_tb hc3 h
          refine AWp.seq ?_
          obtain ⟨ob5p, h⟩ := chk_some h
          have ob5 : 0 ≤ ((n2 : Nat) : Int) ∧ ((n2 : Nat) : Int) ≤ (((x1).length : Nat) : Int) := ⟨by omega, ob5p⟩
          refine AWp.regC [] [] [0, 3, 4] [2000] ⟨61, [(0, .own 2000), (3, .int .i64 ((n2 : Nat) : Int)), (4, .osl 2000 1 n2 ((x1).length - n2))], [(2000, bL 28 1 eW 0#16 x1)], [], 0⟩ ((0 ≤ ((n2 : Nat) : Int) ∧ ((n2 : Nat) : Int) ≤ (((x1).length : Nat) : Int)) ∧ True) Tryz_mixed (by kernel_rfl) ⟨ob5, trivial⟩ ?_
          refine thenQ_normal ?_
          obtain ⟨K2, hK2, h⟩ := jn_some h
          refine AWp.join (α := Nat × List (BitVec 16)) (fun (x : Nat × List (BitVec 16)) => match x with | (n8, l9) => ⟨61, [(0, .own 2000), (3, .int .i64 ((n8 : Nat) : Int))], [(2000, bL 28 1 eW 0#16 l9)], [], 0⟩) (fun x => K2 x = some r) ?_ ?_
          ·
            refine AWp.seq ?_
            refine AWp.regC [] [] [0, 3, 4, 5] [2000] ⟨61, [(0, .own 2000), (3, .int .i64 ((n2 : Nat) : Int)), (4, .osl 2000 1 n2 ((x1).length - n2)), (5, .int .i64 (1 : Int))], [(2000, bL 28 1 eW 0#16 x1)], [], 0⟩ (True) Tryz_mixed (by kernel_rfl) trivial ?_
            refine thenQ_normal ?_
            refine AWp.block ?_
            refine AWp.loopL (α := Nat × (Nat × Nat × List (BitVec 16))) (fun x => match x with | (_, n3, n4, l5) => ⟨61, [(0, .own 2000), (3, .int .i64 ((n3 : Nat) : Int)), (4, .osl 2000 1 n2 ((x1).length - n2)), (5, .int .i64 ((n4 : Nat) : Int))], [(2000, bL 28 1 eW 0#16 l5)], [], 0⟩) (fun x => f66_L1 x1 n2 K2 x.1 x.2 = some r) (fun x => x.1) (FUEL, n2, 1, x1) (Le.mk (s := ⟨61, [(0, .own 2000), (3, .int .i64 ((n2 : Nat) : Int)), (4, .osl 2000 1 n2 ((x1).length - n2)), (5, .int .i64 (1 : Int))], [(2000, bL 28 1 eW 0#16 x1)], [], 0⟩) (s' := ⟨61, [(0, .own 2000), (3, .int .i64 ((n2 : Nat) : Int)), (4, .osl 2000 1 n2 ((x1).length - n2)), (5, .int .i64 (1 : Int))], [(2000, bL 28 1 eW 0#16 x1)], [], 0⟩) rfl rfl ⟨.refl _, .refl _, .refl _, .refl _, trivial⟩ ⟨⟨_, rfl, .refl _⟩, trivial⟩) h ?_
            rintro ⟨k1, n3, n4, l5⟩ h
            cases k1 with
            | zero => exact nomatch (show (none : Option (List (BitVec 16))) = some r from h)
            | succ k1 =>
            obtain ⟨C1, hC1⟩ : ∃ C, C = f66_L1 x1 n2 K2 k1 := ⟨_, rfl⟩
            replace h := (f66_L1.eq_2 ..).symm.trans h
            try rw [← hC1] at h
            refine AWp.seq ?_
            refine AWp.seq ?_
            refine AWp.regC [] [] [0, 3, 4, 5, 32] [2000] ⟨61, [(0, .own 2000), (3, .int .i64 ((n3 : Nat) : Int)), (4, .osl 2000 1 n2 ((x1).length - n2)), (5, .int .i64 ((n4 : Nat) : Int)), (32, .bool (decide (((n4 : Nat) : Int) < ((((x1).length - n2) : Nat) : Int))))], [(2000, bL 28 1 eW 0#16 l5)], [], 0⟩ (True) Tryz_mixed (by kernel_rfl) trivial ?_
            refine thenQ_normal ?_
            refine AWp.cond (b := (decide (((n4 : Nat) : Int) < ((((x1).length - n2) : Nat) : Int)))) (by kernel_rfl) (fun hc4 => ?_) (fun hc4 => ?_)
            ·
              replace h := ite_tb hc4 h
              refine AWp.skip ?_
              refine thenQ_normal ?_
              obtain ⟨K3, hK3, h⟩ := jn_some h
              refine AWp.join (α := Nat × List (BitVec 16)) (fun (x : Nat × List (BitVec 16)) => match x with | (n6, l7) => ⟨61, [(0, .own 2000), (3, .int .i64 ((n6 : Nat) : Int)), (4, .osl 2000 1 n2 ((x1).length - n2)), (5, .int .i64 ((n4 : Nat) : Int))], [(2000, bL 28 1 eW 0#16 l7)], [], 0⟩) (fun x => K3 x = some r) ?_ ?_
              ·
                refine AWp.block ?_
                refine AWp.seq ?_
                obtain ⟨ob6p, h⟩ := chk_some h
                have ob6 : 0 ≤ ((n4 : Nat) : Int) ∧ ((n4 : Nat) : Int) < ((((x1).length - n2) : Nat) : Int) := ⟨by omega, ob6p⟩
                obtain ⟨ob7, h⟩ := chk_some h
                obtain ⟨ob8, h⟩ := chk_some h
                obtain ⟨ob9, h⟩ := chk_some h
                obtain ⟨ob10, h⟩ := chk_some h
                refine AWp.regC [] [] [0, 3, 4, 5, 44] [2000] ⟨61, [(0, .own 2000), (3, .int .i64 ((n3 : Nat) : Int)), (4, .osl 2000 1 n2 ((x1).length - n2)), (5, .int .i64 ((n4 : Nat) : Int)), (44, .bool (!((l5.getD (n2 + n4) 0#16) == (l5.getD (n2 + (((((n4 : Nat) : Int) - (1 : Int))).toNat)) 0#16))))], [(2000, bL 28 1 eW 0#16 l5)], [], 0⟩ ((0 ≤ ((n4 : Nat) : Int) ∧ ((n4 : Nat) : Int) < ((((x1).length - n2) : Nat) : Int)) ∧ ((n2 + n4) < (l5).length) ∧ (-9223372036854775808 ≤ (((n4 : Nat) : Int) - (1 : Int)) ∧ (((n4 : Nat) : Int) - (1 : Int)) ≤ 9223372036854775807) ∧ (0 ≤ (((n4 : Nat) : Int) - (1 : Int)) ∧ (((n4 : Nat) : Int) - (1 : Int)) < ((((x1).length - n2) : Nat) : Int)) ∧ ((n2 + (((((n4 : Nat) : Int) - (1 : Int))).toNat)) < (l5).length) ∧ True) Tryz_mixed (by kernel_rfl) ⟨ob6, ob7, ob8, ob9, ob10, trivial⟩ ?_
                refine thenQ_normal ?_
                refine AWp.cond (b := (!((l5.getD (n2 + n4) 0#16) == (l5.getD (n2 + (((((n4 : Nat) : Int) - (1 : Int))).toNat)) 0#16)))) (by kernel_rfl) (fun hc5 => ?_) (fun hc5 => ?_)
                ·
                  replace h := ite_tb hc5 h
                  refine AWp.seq ?_
                  obtain ⟨ob11p, h⟩ := chk_some h
                  have ob11 : 0 ≤ ((n4 : Nat) : Int) ∧ ((n4 : Nat) : Int) < ((((x1).length - n2) : Nat) : Int) := ⟨by omega, ob11p⟩
                  obtain ⟨ob12, h⟩ := chk_some h
                  obtain ⟨ob13p, h⟩ := chk_some h
                  have ob13 : 0 ≤ ((n3 : Nat) : Int) ∧ ((n3 : Nat) : Int) < (((l5).length : Nat) : Int) := ⟨by omega, ob13p⟩
                  obtain ⟨ob14, h⟩ := chk_some h
                  refine AWp.regC [] [] [0, 3, 4, 5] [2000] ⟨61, [(0, .own 2000), (3, .int .i64 ((n3 : Nat) : Int)), (4, .osl 2000 1 n2 ((x1).length - n2)), (5, .int .i64 ((n4 : Nat) : Int))], [(2000, .rows 28 1 (l5).length (updF (encF eW 0#16 l5) n3 0 [.b16 (l5.getD (n2 + n4) 0#16)]))], [], 0⟩ ((0 ≤ ((n4 : Nat) : Int) ∧ ((n4 : Nat) : Int) < ((((x1).length - n2) : Nat) : Int)) ∧ ((n2 + n4) < (l5).length) ∧ (0 ≤ ((n3 : Nat) : Int) ∧ ((n3 : Nat) : Int) < (((l5).length : Nat) : Int)) ∧ (n3 < (l5).length) ∧ True) Tryz_mixed (by kernel_rfl) ⟨ob11, ob12, ob13, ob14, trivial⟩ ?_
                  refine thenQ_normal ?_
                  refine AWp.le (Le.mk (s := ⟨61, [(0, .own 2000), (3, .int .i64 ((n3 : Nat) : Int)), (4, .osl 2000 1 n2 ((x1).length - n2)), (5, .int .i64 ((n4 : Nat) : Int))], [(2000, .rows 28 1 (l5).length (updF (encF eW 0#16 l5) n3 0 [.b16 (l5.getD (n2 + n4) 0#16)]))], [], 0⟩) (s' := ⟨61, [(0, .own 2000), (3, .int .i64 ((n3 : Nat) : Int)), (4, .osl 2000 1 n2 ((x1).length - n2)), (5, .int .i64 ((n4 : Nat) : Int))], [(2000, bL 28 1 eW 0#16 (l5.set n3 (l5.getD (n2 + n4) 0#16)))], [], 0⟩) rfl rfl ⟨.refl _, .refl _, .refl _, .refl _, trivial⟩ ⟨⟨_, rfl, (BLe.of (RL.set (l5.getD (n2 + n4) 0#16) (RL.self _) (by intro j hj; match j, hj with | 0, _ => rfl)))⟩, trivial⟩) ?_
                  obtain ⟨ob15p, h⟩ := chk_some h
                  have ob15 : -9223372036854775808 ≤ (((n3 : Nat) : Int) + (1 : Int)) ∧ (((n3 : Nat) : Int) + (1 : Int)) ≤ 9223372036854775807 := ⟨by omega, ob15p⟩
                  refine AWp.regC [] [] [0, 3, 4, 5] [2000] ⟨61, [(0, .own 2000), (3, .int .i64 (((n3 + 1) : Nat) : Int)), (4, .osl 2000 1 n2 ((x1).length - n2)), (5, .int .i64 ((n4 : Nat) : Int))], [(2000, bL 28 1 eW 0#16 (l5.set n3 (l5.getD (n2 + n4) 0#16)))], [], 0⟩ ((-9223372036854775808 ≤ (((n3 : Nat) : Int) + (1 : Int)) ∧ (((n3 : Nat) : Int) + (1 : Int)) ≤ 9223372036854775807) ∧ True) Tryz_mixed (by kernel_rfl) ⟨ob15, trivial⟩ ?_
                  refine blockQ_normal ?_
                  exact joinQ_normal ((n3 + 1), (l5.set n3 (l5.getD (n2 + n4) 0#16))) (Le.mk (s := ⟨61, [(0, .own 2000), (3, .int .i64 (((n3 + 1) : Nat) : Int)), (4, .osl 2000 1 n2 ((x1).length - n2)), (5, .int .i64 ((n4 : Nat) : Int))], [(2000, bL 28 1 eW 0#16 (l5.set n3 (l5.getD (n2 + n4) 0#16)))], [], 0⟩) (s' := ⟨61, [(0, .own 2000), (3, .int .i64 (((n3 + 1) : Nat) : Int)), (4, .osl 2000 1 n2 ((x1).length - n2)), (5, .int .i64 ((n4 : Nat) : Int))], [(2000, bL 28 1 eW 0#16 (l5.set n3 (l5.getD (n2 + n4) 0#16)))], [], 0⟩) rfl rfl ⟨.refl _, .refl _, .refl _, .refl _, trivial⟩ ⟨⟨_, rfl, .refl _⟩, trivial⟩) h
                ·
                  replace h := ite_fb hc5 h
                  refine AWp.skip ?_
                  refine blockQ_normal ?_
                  exact joinQ_normal (n3, l5) (Le.mk (s := ⟨61, [(0, .own 2000), (3, .int .i64 ((n3 : Nat) : Int)), (4, .osl 2000 1 n2 ((x1).length - n2)), (5, .int .i64 ((n4 : Nat) : Int)), (44, .bool (!((l5.getD (n2 + n4) 0#16) == (l5.getD (n2 + (((((n4 : Nat) : Int) - (1 : Int))).toNat)) 0#16))))], [(2000, bL 28 1 eW 0#16 l5)], [], 0⟩) (s' := ⟨61, [(0, .own 2000), (3, .int .i64 ((n3 : Nat) : Int)), (4, .osl 2000 1 n2 ((x1).length - n2)), (5, .int .i64 ((n4 : Nat) : Int))], [(2000, bL 28 1 eW 0#16 l5)], [], 0⟩) rfl rfl ⟨.refl _, .refl _, .refl _, .refl _, trivial⟩ ⟨⟨_, rfl, .refl _⟩, trivial⟩) h
              ·
                rintro ⟨n6, l7⟩ h
                replace h := (congrFun hK3 _).symm.trans h
                obtain ⟨ob16p, h⟩ := chk_some h
                have ob16 : -9223372036854775808 ≤ (((n4 : Nat) : Int) + (1 : Int)) ∧ (((n4 : Nat) : Int) + (1 : Int)) ≤ 9223372036854775807 := ⟨by omega, ob16p⟩
                refine AWp.regC [] [] [0, 3, 4, 5] [2000] ⟨61, [(0, .own 2000), (3, .int .i64 ((n6 : Nat) : Int)), (4, .osl 2000 1 n2 ((x1).length - n2)), (5, .int .i64 (((n4 + 1) : Nat) : Int))], [(2000, bL 28 1 eW 0#16 l7)], [], 0⟩ ((-9223372036854775808 ≤ (((n4 : Nat) : Int) + (1 : Int)) ∧ (((n4 : Nat) : Int) + (1 : Int)) ≤ 9223372036854775807) ∧ True) Tryz_mixed (by kernel_rfl) ⟨ob16, trivial⟩ ?_
                rw [hC1] at h
                exact loopQ_normal (_, n6, (n4 + 1), l7) (Le.mk (s := ⟨61, [(0, .own 2000), (3, .int .i64 ((n6 : Nat) : Int)), (4, .osl 2000 1 n2 ((x1).length - n2)), (5, .int .i64 (((n4 + 1) : Nat) : Int))], [(2000, bL 28 1 eW 0#16 l7)], [], 0⟩) (s' := ⟨61, [(0, .own 2000), (3, .int .i64 ((n6 : Nat) : Int)), (4, .osl 2000 1 n2 ((x1).length - n2)), (5, .int .i64 (((n4 + 1) : Nat) : Int))], [(2000, bL 28 1 eW 0#16 l7)], [], 0⟩) rfl rfl ⟨.refl _, .refl _, .refl _, .refl _, trivial⟩ ⟨⟨_, rfl, .refl _⟩, trivial⟩) h (Nat.lt_succ_self _)
            ·
              replace h := ite_fb hc4 h
              refine AWp.exit ?_
              refine thenQ_exit ?_
              refine thenQ_exit ?_
              refine blockQ_same ?_
              exact joinQ_normal (n3, l5) (Le.mk (s := ⟨61, [(0, .own 2000), (3, .int .i64 ((n3 : Nat) : Int)), (4, .osl 2000 1 n2 ((x1).length - n2)), (5, .int .i64 ((n4 : Nat) : Int)), (32, .bool (decide (((n4 : Nat) : Int) < ((((x1).length - n2) : Nat) : Int))))], [(2000, bL 28 1 eW 0#16 l5)], [], 0⟩) (s' := ⟨61, [(0, .own 2000), (3, .int .i64 ((n3 : Nat) : Int))], [(2000, bL 28 1 eW 0#16 l5)], [], 0⟩) rfl rfl ⟨.refl _, .refl _, trivial⟩ ⟨⟨_, rfl, .refl _⟩, trivial⟩) h
          ·
            rintro ⟨n8, l9⟩ h
            replace h := (congrFun hK2 _).symm.trans h
            refine AWp.seq ?_
            obtain ⟨ob17p, h⟩ := chk_some h
            have ob17 : 0 ≤ ((n8 : Nat) : Int) ∧ ((n8 : Nat) : Int) ≤ (((l9).length : Nat) : Int) := ⟨by omega, ob17p⟩
            obtain ⟨ob18, h⟩ := chk_some h
            refine AWp.regC [] [] [0, 3] [2000] ⟨61, [(0, .own 2000), (3, .int .i64 ((n8 : Nat) : Int))], [(2000, .rows 28 1 (l9).length (clrF (encF eW 0#16 l9) n8 ((l9).length - n8) [.b16 (BitVec.ofInt 16 0)]))], [], 0⟩ ((0 ≤ ((n8 : Nat) : Int) ∧ ((n8 : Nat) : Int) ≤ (((l9).length : Nat) : Int)) ∧ (n8 + ((l9).length - n8) ≤ (l9).length ∧ 0 < ((l9).length - n8)) ∧ True) Tryz_mixed (by kernel_rfl) ⟨ob17, ob18, trivial⟩ ?_
            refine thenQ_normal ?_
            refine AWp.le (Le.mk (s := ⟨61, [(0, .own 2000), (3, .int .i64 ((n8 : Nat) : Int))], [(2000, .rows 28 1 (l9).length (clrF (encF eW 0#16 l9) n8 ((l9).length - n8) [.b16 (BitVec.ofInt 16 0)]))], [], 0⟩) (s' := ⟨61, [(0, .own 2000), (3, .int .i64 ((n8 : Nat) : Int))], [(2000, bL 28 1 eW 0#16 (l9.take n8 ++ List.replicate ((l9).length - n8) (BitVec.ofInt 16 0)))], [], 0⟩) rfl rfl ⟨.refl _, .refl _, trivial⟩ ⟨⟨_, rfl, (BLe.of (RL.clr (BitVec.ofInt 16 0) (RL.self _) (by first | omega | (simp only [List.length_append, List.length_cons, List.length_nil, List.length_take, List.length_drop] at *; omega) | (simp; done) | (simp_all; done) | (simp_all; omega) | rfl) rfl))⟩, trivial⟩) ?_
            refine AWp.seq ?_
            obtain ⟨ob19p, h⟩ := chk_some h
            have ob19 : 0 ≤ ((n8 : Nat) : Int) ∧ ((n8 : Nat) : Int) ≤ ((((l9.take n8 ++ List.replicate ((l9).length - n8) (BitVec.ofInt 16 0))).length : Nat) : Int) := ⟨by omega, ob19p⟩
            refine AWp.regC [] [] [2] [2000] ⟨61, [(2, .osl 2000 1 0 n8)], [(2000, bL 28 1 eW 0#16 (l9.take n8 ++ List.replicate ((l9).length - n8) (BitVec.ofInt 16 0)))], [], 0⟩ ((0 ≤ ((n8 : Nat) : Int) ∧ ((n8 : Nat) : Int) ≤ ((((l9.take n8 ++ List.replicate ((l9).length - n8) (BitVec.ofInt 16 0))).length : Nat) : Int)) ∧ True) Tryz_mixed (by kernel_rfl) ⟨ob19, trivial⟩ ?_
            refine thenQ_normal ?_
            obtain ⟨hk6, h⟩ := chk_some h
            refine AWp.le (Le.trans (Le.cutOwn (s := ⟨61, [(2, .osl 2000 1 0 n8)], [(2000, bL 28 1 eW 0#16 (l9.take n8 ++ List.replicate ((l9).length - n8) (BitVec.ofInt 16 0)))], [], 0⟩) 2 2000 n8 hk6 rfl rfl rfl) (Le.mk (s' := ⟨61, [(2, .own 2000)], [(2000, bL 28 1 eW 0#16 ((l9.take n8 ++ List.replicate ((l9).length - n8) (BitVec.ofInt 16 0)).take n8))], [], 0⟩) rfl rfl ⟨.refl _, trivial⟩ ⟨⟨_, rfl, (BLe.of (RL.take (RL.self _) hk6))⟩, trivial⟩)) ?_
            have hret := Option.some.inj h
            subst hret
            refine AWp.le (Le.mk (s := ⟨61, [(2, .own 2000)], [(2000, bL 28 1 eW 0#16 ((l9.take n8 ++ List.replicate ((l9).length - n8) (BitVec.ofInt 16 0)).take n8))], [], 0⟩) (s' := ⟨61, [(2, .own 2000)], [(2000, bL 28 1 eW 0#16 ((l9.take n8 ++ List.replicate ((l9).length - n8) (BitVec.ofInt 16 0)).take n8))], [], 0⟩) rfl rfl ⟨.refl _, trivial⟩ ⟨⟨_, rfl, .refl _⟩, trivial⟩) ?_
            refine AWp.ret ?_
            refine blockQ_ret ?_
            refine thenQ_ret ?_
            refine thenQ_ret ?_
            refine blockQ_ret ?_
            refine joinQ_ret ?_
            exact bodyQ_ret _ rfl ⟨rfl, rfl⟩ rfl
        ·
          replace h := ite_fb hc3 h
          refine AWp.skip ?_
          refine blockQ_normal ?_
          refine thenQ_normal ?_
          obtain ⟨ob20p, h⟩ := chk_some h
          have ob20 : -9223372036854775808 ≤ (((n2 : Nat) : Int) + (1 : Int)) ∧ (((n2 : Nat) : Int) + (1 : Int)) ≤ 9223372036854775807 := ⟨by omega, ob20p⟩
          refine AWp.regC [] [] [0, 3] [2000] ⟨61, [(0, .own 2000), (3, .int .i64 (((n2 + 1) : Nat) : Int))], [(2000, bL 28 1 eW 0#16 x1)], [], 0⟩ ((-9223372036854775808 ≤ (((n2 : Nat) : Int) + (1 : Int)) ∧ (((n2 : Nat) : Int) + (1 : Int)) ≤ 9223372036854775807) ∧ True) Tryz_mixed (by kernel_rfl) ⟨ob20, trivial⟩ ?_
          rw [hC0] at h
          exact loopQ_normal (_, (n2 + 1)) (Le.mk (s := ⟨61, [(0, .own 2000), (3, .int .i64 (((n2 + 1) : Nat) : Int))], [(2000, bL 28 1 eW 0#16 x1)], [], 0⟩) (s' := ⟨61, [(0, .own 2000), (3, .int .i64 (((n2 + 1) : Nat) : Int))], [(2000, bL 28 1 eW 0#16 x1)], [], 0⟩) rfl rfl ⟨.refl _, .refl _, trivial⟩ ⟨⟨_, rfl, .refl _⟩, trivial⟩) h (Nat.lt_succ_self _)
      ·
        replace h := ite_fb hc2 h
        refine AWp.exit ?_
        refine thenQ_exit ?_
        refine thenQ_exit ?_
        refine blockQ_same ?_
        exact joinQ_normal () (Le.mk (s := ⟨61, [(0, .own 2000), (3, .int .i64 ((n2 : Nat) : Int)), (13, .bool (decide (((n2 : Nat) : Int) < (((x1).length : Nat) : Int))))], [(2000, bL 28 1 eW 0#16 x1)], [], 0⟩) (s' := ⟨61, [(0, .own 2000)], [(2000, bL 28 1 eW 0#16 x1)], [], 0⟩) rfl rfl ⟨.refl _, trivial⟩ ⟨⟨_, rfl, .refl _⟩, trivial⟩) h
    ·
      rintro ⟨⟩ h
      replace h := (congrFun hK1 _).symm.trans h
      refine AWp.seq ?_
      refine AWp.regC [] [] [2] [2000] ⟨61, [(2, .own 2000)], [(2000, bL 28 1 eW 0#16 x1)], [], 0⟩ (True) Tryz_mixed (by kernel_rfl) trivial ?_
      refine thenQ_normal ?_
      have hret := Option.some.inj h
      subst hret
      refine AWp.le (Le.mk (s := ⟨61, [(2, .own 2000)], [(2000, bL 28 1 eW 0#16 x1)], [], 0⟩) (s' := ⟨61, [(2, .own 2000)], [(2000, bL 28 1 eW 0#16 x1)], [], 0⟩) rfl rfl ⟨.refl _, trivial⟩ ⟨⟨_, rfl, .refl _⟩, trivial⟩) ?_
      refine AWp.ret ?_
      exact bodyQ_ret _ rfl ⟨rfl, rfl⟩ rfl
def f68 (x1 : BitVec 16) (x2 : BitVec 16) : Option (Bool × BitVec 16) :=
  some (((!(x1 == x2)) && ((x2 &&& ~~~x1) == (BitVec.ofInt 16 0))), x2)
set_option maxRecDepth 100000 in
theorem f68_ok  (x1 : BitVec 16) (x2 : BitVec 16) (r : Bool × BitVec 16) (h : f68 x1 x2 = some r)  : Spec1 Tryz.prog 68 [] [2000] [(2000, .cells 28 [.b16 x2])] [.b16 x1, .ptr 2000 0] (.bool r.1) [(2000, .cells 28 [.b16 r.2])] := by
  unfold f68 at h
  refine Spec1.body 0 _ _ Tryz.func68 rfl Tryz.ntmps68 rfl rfl ?_
  refine AWp.seq ?_
  refine AWp.regC [] [] [0, 1] [2000] ⟨13, [(0, .b16 x1), (1, .ptr 2000 0)], [(2000, .cells 28 [.b16 x2])], [2000], 0⟩ (True) Tryz_mixed (by kernel_rfl) trivial ?_
  refine thenQ_normal ?_
  refine AWp.seq ?_
  have ob0 : ((!(x1 == x2)) == true) = true → ((!(x1 == x2)) == true) = true := fun h => h
  have ob1 : ((!(x1 == x2)) == true) = true → ((!(x1 == x2)) == true) = true := fun h => h
  have ob2 : ((!(x1 == x2)) == true) = true → ((!(x1 == x2)) == true) = true := fun h => h
  have ob3 : true = true → (!(x1 == x2)) = true → ((!(x1 == x2)) == true) = true := fun _ h => beq_iff_eq.2 h
  refine AWp.regC [] [] [3] [2000] ⟨13, [(3, .bool ((!(x1 == x2)) && ((x2 &&& ~~~x1) == (BitVec.ofInt 16 0))))], [(2000, .cells 28 [.b16 x2])], [2000], 0⟩ (((((!(x1 == x2)) == true) = true → ((!(x1 == x2)) == true) = true) ∧ (((!(x1 == x2)) == true) = true → ((!(x1 == x2)) == true) = true) ∧ True) ∧ ((((!(x1 == x2)) == true) = true → ((!(x1 == x2)) == true) = true) ∧ True) ∧ (true = true → (!(x1 == x2)) = true → ((!(x1 == x2)) == true) = true) ∧ True) Tryz_mixed (by kernel_rfl) ⟨⟨ob0, ob1, trivial⟩, ⟨ob2, trivial⟩, ob3, trivial⟩ ?_
  refine thenQ_normal ?_
  have hret := Option.some.inj h
  subst hret
  refine AWp.le (Le.mk (s := ⟨13, [(3, .bool ((!(x1 == x2)) && ((x2 &&& ~~~x1) == (BitVec.ofInt 16 0))))], [(2000, .cells 28 [.b16 x2])], [2000], 0⟩) (s' := ⟨13, [(3, .bool ((!(x1 == x2)) && ((x2 &&& ~~~x1) == (BitVec.ofInt 16 0))))], [(2000, .cells 28 [.b16 x2])], [2000], 0⟩) rfl rfl ⟨.refl _, trivial⟩ ⟨⟨_, rfl, .refl _⟩, trivial⟩) ?_
  refine AWp.ret ?_
  exact bodyQ_ret _ rfl ⟨rfl, rfl⟩ rfl
def f93_L0 (x1 : List (BitVec 16)) (K1 : (BitVec 16) → Option (Int × BitVec 16)) : Nat → (Nat × BitVec 16) → Option (Int × BitVec 16)
  | 0, _ => none
  | k + 1, (n3, w4) =>
    if (decide (((n3 : Nat) : Int) < (((x1).length : Nat) : Int))) then (
    (f68 (x1.getD n3 0#16) w4).bind fun (r5 : Bool × BitVec 16) =>
    chk (((n3 : Nat) : Int) < (((x1).length : Nat) : Int)) <|
    if r5.1 then (
    some (((n3 : Nat) : Int), r5.2)
    ) else (
    chk ((((n3 : Nat) : Int) + (1 : Int)) ≤ 9223372036854775807) <|
    (f93_L0 x1 K1 k) ((n3 + 1), r5.2)
    )
    ) else (
    K1 w4
    )
def f93 (x1 : List (BitVec 16)) (x2 : BitVec 16) : Option (Int × BitVec 16) :=
  jn (fun (w6 : BitVec 16) =>
  some ((-1 : Int), w6)
  ) fun (K1 : (BitVec 16) → Option (Int × BitVec 16)) =>
  f93_L0 x1 K1 FUEL (0, x2)
set_option maxRecDepth 100000 in
theorem f93_ok  (x1 : List (BitVec 16)) (x2 : BitVec 16) (r : Int × BitVec 16) (h : f93 x1 x2 = some r)  : Spec1 Tryz.prog 93 [] [2000] [(2000, .cells 28 [.b16 x2])] [vL 1 eW 0#16 x1, .fn (.func 68) [.ptr 2000 0]] (.int .i64 r.1) [(2000, .cells 28 [.b16 r.2])] := by
  unfold f93 at h
  refine Spec1.body 0 _ _ Tryz.func93 rfl Tryz.ntmps93 rfl rfl ?_
  refine AWp.seq ?_
  refine AWp.regC [] [] [0, 1] [2000] ⟨19, [(0, vL 1 eW 0#16 x1), (1, .fn (.func 68) [.ptr 2000 0])], [(2000, .cells 28 [.b16 x2])], [2000], 0⟩ (True) Tryz_mixed (by kernel_rfl) trivial ?_
  refine thenQ_normal ?_
  obtain ⟨K1, hK1, h⟩ := jn_some h
  refine AWp.join (α := BitVec 16) (fun (w6 : BitVec 16) => ⟨19, [], [(2000, .cells 28 [.b16 w6])], [2000], 0⟩) (fun x => K1 x = some r) ?_ ?_
  ·
    refine AWp.seq ?_
    refine AWp.regC [] [] [0, 1, 7, 8] [2000] ⟨19, [(0, vL 1 eW 0#16 x1), (1, .fn (.func 68) [.ptr 2000 0]), (7, .int .i64 (((x1).length : Nat) : Int)), (8, .int .i64 (0 : Int))], [(2000, .cells 28 [.b16 x2])], [2000], 0⟩ (True) Tryz_mixed (by kernel_rfl) trivial ?_
    refine thenQ_normal ?_
    refine AWp.block ?_
    refine AWp.loopL (α := Nat × (Nat × BitVec 16)) (fun x => match x with | (_, n3, w4) => ⟨19, [(0, vL 1 eW 0#16 x1), (1, .fn (.func 68) [.ptr 2000 0]), (7, .int .i64 (((x1).length : Nat) : Int)), (8, .int .i64 ((n3 : Nat) : Int))], [(2000, .cells 28 [.b16 w4])], [2000], 0⟩) (fun x => f93_L0 x1 K1 x.1 x.2 = some r) (fun x => x.1) (FUEL, 0, x2) (Le.mk (s := ⟨19, [(0, vL 1 eW 0#16 x1), (1, .fn (.func 68) [.ptr 2000 0]), (7, .int .i64 (((x1).length : Nat) : Int)), (8, .int .i64 (0 : Int))], [(2000, .cells 28 [.b16 x2])], [2000], 0⟩) (s' := ⟨19, [(0, vL 1 eW 0#16 x1), (1, .fn (.func 68) [.ptr 2000 0]), (7, .int .i64 (((x1).length : Nat) : Int)), (8, .int .i64 (0 : Int))], [(2000, .cells 28 [.b16 x2])], [2000], 0⟩) rfl rfl ⟨.refl _, .refl _, .refl _, .refl _, trivial⟩ ⟨⟨_, rfl, .refl _⟩, trivial⟩) h ?_
    rintro ⟨k0, n3, w4⟩ h
    cases k0 with
    | zero => exact nomatch (show (none : Option (Int × BitVec 16)) = some r from h)
    | succ k0 =>
    obtain ⟨C0, hC0⟩ : ∃ C, C = f93_L0 x1 K1 k0 := ⟨_, rfl⟩
    replace h := (f93_L0.eq_2 ..).symm.trans h
    try rw [← hC0] at h
    refine AWp.seq ?_
    refine AWp.regC [] [] [0, 1, 7, 8, 9] [2000] ⟨19, [(0, vL 1 eW 0#16 x1), (1, .fn (.func 68) [.ptr 2000 0]), (7, .int .i64 (((x1).length : Nat) : Int)), (8, .int .i64 ((n3 : Nat) : Int)), (9, .bool (decide (((n3 : Nat) : Int) < (((x1).length : Nat) : Int))))], [(2000, .cells 28 [.b16 w4])], [2000], 0⟩ (True) Tryz_mixed (by kernel_rfl) trivial ?_
    refine thenQ_normal ?_
    refine AWp.seq ?_
    refine AWp.cond (b := (decide (((n3 : Nat) : Int) < (((x1).length : Nat) : Int)))) (by kernel_rfl) (fun hc1 => ?_) (fun hc1 => ?_)
    ·
      replace h := ite_tb hc1 h
      refine AWp.skip ?_
      refine thenQ_normal ?_
      refine AWp.seq ?_
      refine AWp.block ?_
      refine AWp.seq ?_
      refine AWp.regC [] [] [0, 1, 5, 7, 8] [2000] ⟨19, [(0, vL 1 eW 0#16 x1), (1, .fn (.func 68) [.ptr 2000 0]), (5, .int .i64 ((n3 : Nat) : Int)), (7, .int .i64 (((x1).length : Nat) : Int)), (8, .int .i64 ((n3 : Nat) : Int))], [(2000, .cells 28 [.b16 w4])], [2000], 0⟩ (True) Tryz_mixed (by kernel_rfl) trivial ?_
      refine thenQ_normal ?_
      refine AWp.seq ?_
      obtain ⟨r5, hr5, h⟩ := bind_ok h
      obtain ⟨ob0p, h⟩ := chk_some h
      have ob0 : 0 ≤ ((n3 : Nat) : Int) ∧ ((n3 : Nat) : Int) < (((x1).length : Nat) : Int) := ⟨by omega, ob0p⟩
      refine AWp.regC [] [(5, ⟨[.b16 (x1.getD n3 0#16), .ptr 2000 0], [2000], [2000], [(2000, .cells 28 [.b16 r5.2])], .bool r5.1, [], [], []⟩)] [0, 1, 5, 7, 8, 16] [2000] ⟨19, [(0, vL 1 eW 0#16 x1), (1, .fn (.func 68) [.ptr 2000 0]), (5, .int .i64 ((n3 : Nat) : Int)), (7, .int .i64 (((x1).length : Nat) : Int)), (8, .int .i64 ((n3 : Nat) : Int)), (16, .bool r5.1)], [(2000, .cells 28 [.b16 r5.2])], [2000], 0⟩ ((0 ≤ ((n3 : Nat) : Int) ∧ ((n3 : Nat) : Int) < (((x1).length : Nat) : Int)) ∧ (callP Tryz.prog true 68 [] [2000] [(2000, .cells 28 [.b16 w4])] [] [] [.b16 (x1.getD n3 0#16), .ptr 2000 0] [.b16 (x1.getD n3 0#16), .ptr 2000 0] (.bool r5.1) [(2000, .cells 28 [.b16 r5.2])]) ∧ True) Tryz_mixed (by kernel_rfl) ⟨ob0, ⟨fun _ => (f68_ok (x1.getD n3 0#16) w4 r5 hr5), fun _ => ⟨.refl _, .refl _, trivial⟩, .inl rfl⟩, trivial⟩ ?_
      refine thenQ_normal ?_
      refine AWp.cond (b := r5.1) (by kernel_rfl) (fun hc2 => ?_) (fun hc2 => ?_)
      ·
        replace h := ite_tb hc2 h
        refine AWp.seq ?_
        refine AWp.regC [] [] [4] [2000] ⟨19, [(4, .int .i64 ((n3 : Nat) : Int))], [(2000, .cells 28 [.b16 r5.2])], [2000], 0⟩ (True) Tryz_mixed (by kernel_rfl) trivial ?_
        refine thenQ_normal ?_
        have hret := Option.some.inj h
        subst hret
        refine AWp.le (Le.mk (s := ⟨19, [(4, .int .i64 ((n3 : Nat) : Int))], [(2000, .cells 28 [.b16 r5.2])], [2000], 0⟩) (s' := ⟨19, [(4, .int .i64 ((n3 : Nat) : Int))], [(2000, .cells 28 [.b16 r5.2])], [2000], 0⟩) rfl rfl ⟨.refl _, trivial⟩ ⟨⟨_, rfl, .refl _⟩, trivial⟩) ?_
        refine AWp.ret ?_
        refine blockQ_ret ?_
        refine thenQ_ret ?_
        refine thenQ_ret ?_
        refine blockQ_ret ?_
        refine joinQ_ret ?_
        exact bodyQ_ret _ rfl ⟨rfl, rfl⟩ rfl
      ·
        replace h := ite_fb hc2 h
        refine AWp.skip ?_
        refine blockQ_normal ?_
        refine thenQ_normal ?_
        obtain ⟨ob1p, h⟩ := chk_some h
        have ob1 : -9223372036854775808 ≤ (((n3 : Nat) : Int) + (1 : Int)) ∧ (((n3 : Nat) : Int) + (1 : Int)) ≤ 9223372036854775807 := ⟨by omega, ob1p⟩
        refine AWp.regC [] [] [0, 1, 7, 8] [2000] ⟨19, [(0, vL 1 eW 0#16 x1), (1, .fn (.func 68) [.ptr 2000 0]), (7, .int .i64 (((x1).length : Nat) : Int)), (8, .int .i64 (((n3 + 1) : Nat) : Int))], [(2000, .cells 28 [.b16 r5.2])], [2000], 0⟩ ((-9223372036854775808 ≤ (((n3 : Nat) : Int) + (1 : Int)) ∧ (((n3 : Nat) : Int) + (1 : Int)) ≤ 9223372036854775807) ∧ True) Tryz_mixed (by kernel_rfl) ⟨ob1, trivial⟩ ?_
        rw [hC0] at h
        exact loopQ_normal (_, (n3 + 1), r5.2) (Le.mk (s := ⟨19, [(0, vL 1 eW 0#16 x1), (1, .fn (.func 68) [.ptr 2000 0]), (7, .int .i64 (((x1).length : Nat) : Int)), (8, .int .i64 (((n3 + 1) : Nat) : Int))], [(2000, .cells 28 [.b16 r5.2])], [2000], 0⟩) (s' := ⟨19, [(0, vL 1 eW 0#16 x1), (1, .fn (.func 68) [.ptr 2000 0]), (7, .int .i64 (((x1).length : Nat) : Int)), (8, .int .i64 (((n3 + 1) : Nat) : Int))], [(2000, .cells 28 [.b16 r5.2])], [2000], 0⟩) rfl rfl ⟨.refl _, .refl _, .refl _, .refl _, trivial⟩ ⟨⟨_, rfl, .refl _⟩, trivial⟩) h (Nat.lt_succ_self _)
    ·
      replace h := ite_fb hc1 h
      refine AWp.exit ?_
      refine thenQ_exit ?_
      refine thenQ_exit ?_
      refine blockQ_same ?_
      exact joinQ_normal (w4) (Le.mk (s := ⟨19, [(0, vL 1 eW 0#16 x1), (1, .fn (.func 68) [.ptr 2000 0]), (7, .int .i64 (((x1).length : Nat) : Int)), (8, .int .i64 ((n3 : Nat) : Int)), (9, .bool (decide (((n3 : Nat) : Int) < (((x1).length : Nat) : Int))))], [(2000, .cells 28 [.b16 w4])], [2000], 0⟩) (s' := ⟨19, [], [(2000, .cells 28 [.b16 w4])], [2000], 0⟩) rfl rfl trivial ⟨⟨_, rfl, .refl _⟩, trivial⟩) h
  ·
    rintro w6 h
    replace h := (congrFun hK1 _).symm.trans h
    refine AWp.seq ?_
    refine AWp.regC [] [] [4] [2000] ⟨19, [(4, .int .i64 (-1 : Int))], [(2000, .cells 28 [.b16 w6])], [2000], 0⟩ (True) Tryz_mixed (by kernel_rfl) trivial ?_
    refine thenQ_normal ?_
    have hret := Option.some.inj h
    subst hret
    refine AWp.le (Le.mk (s := ⟨19, [(4, .int .i64 (-1 : Int))], [(2000, .cells 28 [.b16 w6])], [2000], 0⟩) (s' := ⟨19, [(4, .int .i64 (-1 : Int))], [(2000, .cells 28 [.b16 w6])], [2000], 0⟩) rfl rfl ⟨.refl _, trivial⟩ ⟨⟨_, rfl, .refl _⟩, trivial⟩) ?_
    refine AWp.ret ?_
    exact bodyQ_ret _ rfl ⟨rfl, rfl⟩ rfl
def f67 (x1 : List (BitVec 16)) (x2 : BitVec 16) : Option (Bool × BitVec 16) :=
  (f93 x1 x2).bind fun (r3 : Int × BitVec 16) =>
  some ((decide (r3.1 ≥ (0 : Int))), r3.2)
set_option maxRecDepth 100000 in
theorem f67_ok  (x1 : List (BitVec 16)) (x2 : BitVec 16) (r : Bool × BitVec 16) (h : f67 x1 x2 = some r)  : Spec1 Tryz.prog 67 [] [2000] [(2000, .cells 28 [.b16 x2])] [vL 1 eW 0#16 x1, .fn (.func 68) [.ptr 2000 0]] (.bool r.1) [(2000, .cells 28 [.b16 r.2])] := by
  unfold f67 at h
  refine Spec1.body 0 _ _ Tryz.func67 rfl Tryz.ntmps67 rfl rfl ?_
  refine AWp.seq ?_
  refine AWp.regC [] [] [0, 1] [2000] ⟨9, [(0, vL 1 eW 0#16 x1), (1, .fn (.func 68) [.ptr 2000 0])], [(2000, .cells 28 [.b16 x2])], [2000], 0⟩ (True) Tryz_mixed (by kernel_rfl) trivial ?_
  refine thenQ_normal ?_
  refine AWp.seq ?_
  obtain ⟨r3, hr3, h⟩ := bind_ok h
  refine AWp.regC [] [(2, ⟨[vL 1 eW 0#16 x1, .fn (.func 68) [.ptr 2000 0]], [2000], [2000], [(2000, .cells 28 [.b16 r3.2])], .int .i64 r3.1, [], [], []⟩)] [4] [2000] ⟨9, [(4, .bool (decide (r3.1 ≥ (0 : Int))))], [(2000, .cells 28 [.b16 r3.2])], [2000], 0⟩ ((callP Tryz.prog true 93 [] [2000] [(2000, .cells 28 [.b16 x2])] [] [] [vL 1 eW 0#16 x1, .fn (.func 68) [.ptr 2000 0]] [vL 1 eW 0#16 x1, .fn (.func 68) [.ptr 2000 0]] (.int .i64 r3.1) [(2000, .cells 28 [.b16 r3.2])]) ∧ True) Tryz_mixed (by kernel_rfl) ⟨⟨fun _ => (f93_ok x1 x2 r3 hr3), fun _ => ⟨.refl _, .refl _, trivial⟩, .inl rfl⟩, trivial⟩ ?_
  refine thenQ_normal ?_
  have hret := Option.some.inj h
  subst hret
  refine AWp.le (Le.mk (s := ⟨9, [(4, .bool (decide (r3.1 ≥ (0 : Int))))], [(2000, .cells 28 [.b16 r3.2])], [2000], 0⟩) (s' := ⟨9, [(4, .bool (decide (r3.1 ≥ (0 : Int))))], [(2000, .cells 28 [.b16 r3.2])], [2000], 0⟩) rfl rfl ⟨.refl _, trivial⟩ ⟨⟨_, rfl, .refl _⟩, trivial⟩) ?_
  refine AWp.ret ?_
  exact bodyQ_ret _ rfl ⟨rfl, rfl⟩ rfl
def f38_L0 (x1 : List (BitVec 16 × BitVec 16)) (K1 : (List (BitVec 16)) → Option (List (BitVec 16))) : Nat → (Nat × List (BitVec 16)) → Option (List (BitVec 16))
  | 0, _ => none
  | k + 1, (n2, l3) =>
    if (decide (((n2 : Nat) : Int) < (((x1).length : Nat) : Int))) then (
    chk (((n2 : Nat) : Int) < (((x1).length : Nat) : Int)) <|
    chk (((l3).length + 1) * 2 ≤ 140737488355328) <|
    chk ((((n2 : Nat) : Int) + (1 : Int)) ≤ 9223372036854775807) <|
    (f38_L0 x1 K1 k) ((n2 + 1), (l3 ++ [(x1.getD n2 (default : BitVec 16 × BitVec 16)).1]))
    ) else (
    K1 l3
    )
def f38_L1 (r6 : List (BitVec 16)) (K2 : (List (BitVec 16)) → Option (List (BitVec 16))) : Nat → (Nat × List (BitVec 16)) → Option (List (BitVec 16))
  | 0, _ => none
  | k + 1, (n7, l8) =>
    if (decide (((n7 : Nat) : Int) < (((r6).length : Nat) : Int))) then (
    jn (fun (l10 : List (BitVec 16)) =>
    chk ((((n7 : Nat) : Int) + (1 : Int)) ≤ 9223372036854775807) <|
    (f38_L1 r6 K2 k) ((n7 + 1), l10)
    ) fun (K3 : (List (BitVec 16)) → Option (List (BitVec 16))) =>
    chk (((n7 : Nat) : Int) < (((r6).length : Nat) : Int)) <|
    chk (n7 < (r6).length) <|
    (f67 r6 (r6.getD n7 0#16)).bind fun (r9 : Bool × BitVec 16) =>
    if (!r9.1) then (
    chk (((l8).length + 1) * 2 ≤ 140737488355328) <|
    K3 (l8 ++ [r9.2])
    ) else (
    K3 l8
    )
    ) else (
    K2 l8
    )
def f38 (x1 : List (BitVec 16 × BitVec 16)) : Option (List (BitVec 16)) :=
  jn (fun (l4 : List (BitVec 16)) =>
  (f64 l4).bind fun (r5 : List (BitVec 16)) =>
  (f66 r5).bind fun (r6 : List (BitVec 16)) =>
  jn (fun (l11 : List (BitVec 16)) =>
  some l11
  ) fun (K2 : (List (BitVec 16)) → Option (List (BitVec 16))) =>
  f38_L1 r6 K2 FUEL (0, [])
  ) fun (K1 : (List (BitVec 16)) → Option (List (BitVec 16))) =>
  f38_L0 x1 K1 FUEL (0, [])
set_option maxRecDepth 100000 in
theorem f38_ok  (x1 : List (BitVec 16 × BitVec 16)) (r : List (BitVec 16)) (h : f38 x1 = some r)  : Spec1 Tryz.prog 38 [] [] [] [vL 2 eWW (default : BitVec 16 × BitVec 16) x1] (.own 3000) [(3000, bL 28 1 eW 0#16 r)] := by
  unfold f38 at h
  refine Spec1.body 0 _ _ Tryz.func38 rfl Tryz.ntmps38 rfl rfl ?_
  refine AWp.seq ?_
  refine AWp.regC [] [] [0] [] ⟨41, [(0, vL 2 eWW (default : BitVec 16 × BitVec 16) x1)], [], [], 0⟩ (True) Tryz_mixed (by kernel_rfl) trivial ?_
  refine thenQ_normal ?_
  refine AWp.seq ?_
  refine AWp.regC [] [] [0, 3, 4] [] ⟨41, [(0, vL 2 eWW (default : BitVec 16 × BitVec 16) x1), (3, .nils), (4, .nils)], [], [], 0⟩ (True) Tryz_mixed (by kernel_rfl) trivial ?_
  refine thenQ_normal ?_
  obtain ⟨K1, hK1, h⟩ := jn_some h
  refine AWp.join (α := List (BitVec 16)) (fun (l4 : List (BitVec 16)) => ⟨41, [(3, .own 5003), (4, .nils)], [(5003, bL 28 1 eW 0#16 l4)], [], 0⟩) (fun x => K1 x = some r) ?_ ?_
  ·
    refine AWp.seq ?_
    refine AWp.regC [] [] [3, 4, 9, 10, 11] [] ⟨41, [(3, .nils), (4, .nils), (9, vL 2 eWW (default : BitVec 16 × BitVec 16) x1), (10, .int .i64 (((x1).length : Nat) : Int)), (11, .int .i64 (0 : Int))], [], [], 0⟩ (True) Tryz_mixed (by kernel_rfl) trivial ?_
    refine thenQ_normal ?_
    refine AWp.block ?_
    refine AWp.loopL (α := Nat × (Nat × List (BitVec 16))) (fun x => match x with | (_, n2, l3) => ⟨41, [(3, .own 5003), (4, .nils), (9, vL 2 eWW (default : BitVec 16 × BitVec 16) x1), (10, .int .i64 (((x1).length : Nat) : Int)), (11, .int .i64 ((n2 : Nat) : Int))], [(5003, bL 28 1 eW 0#16 l3)], [], 0⟩) (fun x => f38_L0 x1 K1 x.1 x.2 = some r) (fun x => x.1) (FUEL, 0, []) (Le.trans (Le.trans (Le.nilOwn (s := ⟨41, [(3, .nils), (4, .nils), (9, vL 2 eWW (default : BitVec 16 × BitVec 16) x1), (10, .int .i64 (((x1).length : Nat) : Int)), (11, .int .i64 (0 : Int))], [], [], 0⟩) 3 5003 28 1 (encF eW 0#16 []) rfl rfl (Nat.le_of_ble_eq_true rfl)) (Le.mk (s' := ⟨41, [(3, .own 5003), (4, .nils), (9, vL 2 eWW (default : BitVec 16 × BitVec 16) x1), (10, .int .i64 (((x1).length : Nat) : Int)), (11, .int .i64 (0 : Int))], [(5003, bL 28 1 eW 0#16 [])], [], 0⟩) rfl rfl ⟨.refl _, .refl _, .refl _, .refl _, .refl _, trivial⟩ ⟨⟨_, rfl, .refl _⟩, trivial⟩)) (Le.mk (s := ⟨41, [(3, .own 5003), (4, .nils), (9, vL 2 eWW (default : BitVec 16 × BitVec 16) x1), (10, .int .i64 (((x1).length : Nat) : Int)), (11, .int .i64 (0 : Int))], [(5003, bL 28 1 eW 0#16 [])], [], 0⟩) (s' := ⟨41, [(3, .own 5003), (4, .nils), (9, vL 2 eWW (default : BitVec 16 × BitVec 16) x1), (10, .int .i64 (((x1).length : Nat) : Int)), (11, .int .i64 (0 : Int))], [(5003, bL 28 1 eW 0#16 [])], [], 0⟩) rfl rfl ⟨.refl _, .refl _, .refl _, .refl _, .refl _, trivial⟩ ⟨⟨_, rfl, .refl _⟩, trivial⟩)) h ?_
    rintro ⟨k0, n2, l3⟩ h
    cases k0 with
    | zero => exact nomatch (show (none : Option (List (BitVec 16))) = some r from h)
    | succ k0 =>
    obtain ⟨C0, hC0⟩ : ∃ C, C = f38_L0 x1 K1 k0 := ⟨_, rfl⟩
    replace h := (f38_L0.eq_2 ..).symm.trans h
    try rw [← hC0] at h
    refine AWp.seq ?_
    refine AWp.regC [] [] [3, 4, 9, 10, 11, 12] [5003] ⟨41, [(3, .own 5003), (4, .nils), (9, vL 2 eWW (default : BitVec 16 × BitVec 16) x1), (10, .int .i64 (((x1).length : Nat) : Int)), (11, .int .i64 ((n2 : Nat) : Int)), (12, .bool (decide (((n2 : Nat) : Int) < (((x1).length : Nat) : Int))))], [(5003, bL 28 1 eW 0#16 l3)], [], 0⟩ (True) Tryz_mixed (by kernel_rfl) trivial ?_
    refine thenQ_normal ?_
    refine AWp.seq ?_
    refine AWp.cond (b := (decide (((n2 : Nat) : Int) < (((x1).length : Nat) : Int)))) (by kernel_rfl) (fun hc1 => ?_) (fun hc1 => ?_)
    ·
      replace h := ite_tb hc1 h
      refine AWp.skip ?_
      refine thenQ_normal ?_
      refine AWp.seq ?_
      refine AWp.block ?_
      refine AWp.seq ?_
      obtain ⟨ob0p, h⟩ := chk_some h
      have ob0 : 0 ≤ ((n2 : Nat) : Int) ∧ ((n2 : Nat) : Int) < (((x1).length : Nat) : Int) := ⟨by omega, ob0p⟩
      refine AWp.regC [] [] [3, 4, 6, 9, 10, 11] [6, 5003] ⟨41, [(3, .own 5003), (4, .nils), (6, .ptr 6 0), (9, vL 2 eWW (default : BitVec 16 × BitVec 16) x1), (10, .int .i64 (((x1).length : Nat) : Int)), (11, .int .i64 ((n2 : Nat) : Int))], [(6, .cells 30 [.b16 (x1.getD n2 (default : BitVec 16 × BitVec 16)).1, .b16 (x1.getD n2 (default : BitVec 16 × BitVec 16)).2]), (5003, bL 28 1 eW 0#16 l3)], [], 0⟩ ((0 ≤ ((n2 : Nat) : Int) ∧ ((n2 : Nat) : Int) < (((x1).length : Nat) : Int)) ∧ (True) ∧ True) Tryz_mixed (by kernel_rfl) ⟨ob0, trivial, trivial⟩ ?_
      refine thenQ_normal ?_
      obtain ⟨ob1, h⟩ := chk_some h
      refine AWp.regC [] [] [3, 4, 9, 10, 11] [5003] ⟨41, [(3, .own 5003), (4, .nils), (9, vL 2 eWW (default : BitVec 16 × BitVec 16) x1), (10, .int .i64 (((x1).length : Nat) : Int)), (11, .int .i64 ((n2 : Nat) : Int))], [(5003, .rows 28 1 ((l3).length + 1) (appF (l3).length (encF eW 0#16 l3) (lstF 1 [.b16 (x1.getD n2 (default : BitVec 16 × BitVec 16)).1])))], [], 0⟩ ((((l3).length + 1) * 2 ≤ 140737488355328) ∧ True) Tryz_mixed (by kernel_rfl) ⟨ob1, trivial⟩ ?_
      refine blockQ_normal ?_
      refine thenQ_normal ?_
      refine AWp.le (Le.mk (s := ⟨41, [(3, .own 5003), (4, .nils), (9, vL 2 eWW (default : BitVec 16 × BitVec 16) x1), (10, .int .i64 (((x1).length : Nat) : Int)), (11, .int .i64 ((n2 : Nat) : Int))], [(5003, .rows 28 1 ((l3).length + 1) (appF (l3).length (encF eW 0#16 l3) (lstF 1 [.b16 (x1.getD n2 (default : BitVec 16 × BitVec 16)).1])))], [], 0⟩) (s' := ⟨41, [(3, .own 5003), (4, .nils), (9, vL 2 eWW (default : BitVec 16 × BitVec 16) x1), (10, .int .i64 (((x1).length : Nat) : Int)), (11, .int .i64 ((n2 : Nat) : Int))], [(5003, bL 28 1 eW 0#16 (l3 ++ [(x1.getD n2 (default : BitVec 16 × BitVec 16)).1]))], [], 0⟩) rfl rfl ⟨.refl _, .refl _, .refl _, .refl _, .refl _, trivial⟩ ⟨⟨_, rfl, (BLe.of (RL.app (RL.self _) (RL.lst (enc := eW) [(x1.getD n2 (default : BitVec 16 × BitVec 16)).1] rfl rfl (fun _ => rfl))))⟩, trivial⟩) ?_
      obtain ⟨ob2p, h⟩ := chk_some h
      have ob2 : -9223372036854775808 ≤ (((n2 : Nat) : Int) + (1 : Int)) ∧ (((n2 : Nat) : Int) + (1 : Int)) ≤ 9223372036854775807 := ⟨by omega, ob2p⟩
      refine AWp.regC [] [] [3, 4, 9, 10, 11] [5003] ⟨41, [(3, .own 5003), (4, .nils), (9, vL 2 eWW (default : BitVec 16 × BitVec 16) x1), (10, .int .i64 (((x1).length : Nat) : Int)), (11, .int .i64 (((n2 + 1) : Nat) : Int))], [(5003, bL 28 1 eW 0#16 (l3 ++ [(x1.getD n2 (default : BitVec 16 × BitVec 16)).1]))], [], 0⟩ ((-9223372036854775808 ≤ (((n2 : Nat) : Int) + (1 : Int)) ∧ (((n2 : Nat) : Int) + (1 : Int)) ≤ 9223372036854775807) ∧ True) Tryz_mixed (by kernel_rfl) ⟨ob2, trivial⟩ ?_
      rw [hC0] at h
      exact loopQ_normal (_, (n2 + 1), (l3 ++ [(x1.getD n2 (default : BitVec 16 × BitVec 16)).1])) (Le.mk (s := ⟨41, [(3, .own 5003), (4, .nils), (9, vL 2 eWW (default : BitVec 16 × BitVec 16) x1), (10, .int .i64 (((x1).length : Nat) : Int)), (11, .int .i64 (((n2 + 1) : Nat) : Int))], [(5003, bL 28 1 eW 0#16 (l3 ++ [(x1.getD n2 (default : BitVec 16 × BitVec 16)).1]))], [], 0⟩) (s' := ⟨41, [(3, .own 5003), (4, .nils), (9, vL 2 eWW (default : BitVec 16 × BitVec 16) x1), (10, .int .i64 (((x1).length : Nat) : Int)), (11, .int .i64 (((n2 + 1) : Nat) : Int))], [(5003, bL 28 1 eW 0#16 (l3 ++ [(x1.getD n2 (default : BitVec 16 × BitVec 16)).1]))], [], 0⟩) rfl rfl ⟨.refl _, .refl _, .refl _, .refl _, .refl _, trivial⟩ ⟨⟨_, rfl, .refl _⟩, trivial⟩) h (Nat.lt_succ_self _)
    ·
      replace h := ite_fb hc1 h
      refine AWp.exit ?_
      refine thenQ_exit ?_
      refine thenQ_exit ?_
      refine blockQ_same ?_
      exact joinQ_normal (l3) (Le.mk (s := ⟨41, [(3, .own 5003), (4, .nils), (9, vL 2 eWW (default : BitVec 16 × BitVec 16) x1), (10, .int .i64 (((x1).length : Nat) : Int)), (11, .int .i64 ((n2 : Nat) : Int)), (12, .bool (decide (((n2 : Nat) : Int) < (((x1).length : Nat) : Int))))], [(5003, bL 28 1 eW 0#16 l3)], [], 0⟩) (s' := ⟨41, [(3, .own 5003), (4, .nils)], [(5003, bL 28 1 eW 0#16 l3)], [], 0⟩) rfl rfl ⟨.refl _, .refl _, trivial⟩ ⟨⟨_, rfl, .refl _⟩, trivial⟩) h
  ·
    rintro l4 h
    replace h := (congrFun hK1 _).symm.trans h
    refine AWp.seq ?_
    obtain ⟨r5, hr5, h⟩ := bind_ok h
    refine AWp.regC [] [(1, ⟨[.own 5003, .fn (.func 65) []], [5003], [5003], [(5003, bL 28 1 eW 0#16 r5)], .tup [], [], [], []⟩)] [3, 4] [5003] ⟨41, [(3, .own 5003), (4, .nils)], [(5003, bL 28 1 eW 0#16 r5)], [], 0⟩ ((callP Tryz.prog true 64 [] [5003] [(5003, bL 28 1 eW 0#16 l4)] [] [] [.own 5003, .fn (.func 65) []] [.own 5003, .fn (.func 65) []] (.tup []) [(5003, bL 28 1 eW 0#16 r5)]) ∧ True) Tryz_mixed (by kernel_rfl) ⟨⟨fun _ => (Spec1.ren (swapN 2000 5003) (swapN_inv 2000 5003) rfl (f64_ok l4 r5 hr5)), fun _ => ⟨.refl _, .refl _, trivial⟩, .inl rfl⟩, trivial⟩ ?_
    refine thenQ_normal ?_
    refine AWp.seq ?_
    obtain ⟨r6, hr6, h⟩ := bind_ok h
    refine AWp.regC [] [(1, ⟨[.own 5003], [5003], [], [(5003, bL 28 1 eW 0#16 r6)], .own 5003, [5003], [], []⟩)] [3, 4] [5003] ⟨41, [(3, .own 5003), (4, .nils)], [(5003, bL 28 1 eW 0#16 r6)], [], 0⟩ ((callP Tryz.prog true 66 [] [] [(5003, bL 28 1 eW 0#16 r5)] [] [] [.own 5003] [.own 5003] (.own 5003) [(5003, bL 28 1 eW 0#16 r6)]) ∧ True) Tryz_mixed (by kernel_rfl) ⟨⟨fun _ => (Spec1.ren (swapN 2000 5003) (swapN_inv 2000 5003) rfl (f66_ok r5 r6 hr6)), fun _ => ⟨.refl _, trivial⟩, .inl rfl⟩, trivial⟩ ?_
    refine thenQ_normal ?_
    obtain ⟨K2, hK2, h⟩ := jn_some h
    refine AWp.join (α := List (BitVec 16)) (fun (l11 : List (BitVec 16)) => ⟨41, [(4, .own 5004)], [(5004, bL 28 1 eW 0#16 l11)], [], 0⟩) (fun x => K2 x = some r) ?_ ?_
    ·
      refine AWp.seq ?_
      refine AWp.regC [] [] [3, 4, 25, 26, 27] [5003] ⟨41, [(3, .own 5003), (4, .nils), (25, .own 5003), (26, .int .i64 (((r6).length : Nat) : Int)), (27, .int .i64 (0 : Int))], [(5003, bL 28 1 eW 0#16 r6)], [], 0⟩ (True) Tryz_mixed (by kernel_rfl) trivial ?_
      refine thenQ_normal ?_
      refine AWp.block ?_
      refine AWp.loopL (α := Nat × (Nat × List (BitVec 16))) (fun x => match x with | (_, n7, l8) => ⟨41, [(3, .own 5003), (4, .own 5004), (25, .own 5003), (26, .int .i64 (((r6).length : Nat) : Int)), (27, .int .i64 ((n7 : Nat) : Int))], [(5003, bL 28 1 eW 0#16 r6), (5004, bL 28 1 eW 0#16 l8)], [], 0⟩) (fun x => f38_L1 r6 K2 x.1 x.2 = some r) (fun x => x.1) (FUEL, 0, []) (Le.trans (Le.trans (Le.nilOwn (s := ⟨41, [(3, .own 5003), (4, .nils), (25, .own 5003), (26, .int .i64 (((r6).length : Nat) : Int)), (27, .int .i64 (0 : Int))], [(5003, bL 28 1 eW 0#16 r6)], [], 0⟩) 4 5004 28 1 (encF eW 0#16 []) rfl rfl (Nat.le_of_ble_eq_true rfl)) (Le.mk (s' := ⟨41, [(3, .own 5003), (4, .own 5004), (25, .own 5003), (26, .int .i64 (((r6).length : Nat) : Int)), (27, .int .i64 (0 : Int))], [(5003, bL 28 1 eW 0#16 r6), (5004, bL 28 1 eW 0#16 [])], [], 0⟩) rfl rfl ⟨.refl _, .refl _, .refl _, .refl _, .refl _, trivial⟩ ⟨⟨_, rfl, .refl _⟩, ⟨_, rfl, .refl _⟩, trivial⟩)) (Le.mk (s := ⟨41, [(3, .own 5003), (4, .own 5004), (25, .own 5003), (26, .int .i64 (((r6).length : Nat) : Int)), (27, .int .i64 (0 : Int))], [(5003, bL 28 1 eW 0#16 r6), (5004, bL 28 1 eW 0#16 [])], [], 0⟩) (s' := ⟨41, [(3, .own 5003), (4, .own 5004), (25, .own 5003), (26, .int .i64 (((r6).length : Nat) : Int)), (27, .int .i64 (0 : Int))], [(5003, bL 28 1 eW 0#16 r6), (5004, bL 28 1 eW 0#16 [])], [], 0⟩) rfl rfl ⟨.refl _, .refl _, .refl _, .refl _, .refl _, trivial⟩ ⟨⟨_, rfl, .refl _⟩, ⟨_, rfl, .refl _⟩, trivial⟩)) h ?_
      rintro ⟨k1, n7, l8⟩ h
      cases k1 with
      | zero => exact nomatch (show (none : Option (List (BitVec 16))) = some r from h)
      | succ k1 =>
      obtain ⟨C1, hC1⟩ : ∃ C, C = f38_L1 r6 K2 k1 := ⟨_, rfl⟩
      replace h := (f38_L1.eq_2 ..).symm.trans h
      try rw [← hC1] at h
      refine AWp.seq ?_
      refine AWp.regC [] [] [3, 4, 25, 26, 27, 28] [5003, 5004] ⟨41, [(3, .own 5003), (4, .own 5004), (25, .own 5003), (26, .int .i64 (((r6).length : Nat) : Int)), (27, .int .i64 ((n7 : Nat) : Int)), (28, .bool (decide (((n7 : Nat) : Int) < (((r6).length : Nat) : Int))))], [(5003, bL 28 1 eW 0#16 r6), (5004, bL 28 1 eW 0#16 l8)], [], 0⟩ (True) Tryz_mixed (by kernel_rfl) trivial ?_
      refine thenQ_normal ?_
      refine AWp.seq ?_
      refine AWp.cond (b := (decide (((n7 : Nat) : Int) < (((r6).length : Nat) : Int)))) (by kernel_rfl) (fun hc2 => ?_) (fun hc2 => ?_)
      ·
        replace h := ite_tb hc2 h
        refine AWp.skip ?_
        refine thenQ_normal ?_
        obtain ⟨K3, hK3, h⟩ := jn_some h
        refine AWp.join (α := List (BitVec 16)) (fun (l10 : List (BitVec 16)) => ⟨41, [(3, .own 5003), (4, .own 38), (25, .own 5003), (26, .int .i64 (((r6).length : Nat) : Int)), (27, .int .i64 ((n7 : Nat) : Int))], [(38, bL 28 1 eW 0#16 l10), (5003, bL 28 1 eW 0#16 r6)], [], 0⟩) (fun x => K3 x = some r) ?_ ?_
        ·
          refine AWp.block ?_
          refine AWp.seq ?_
          obtain ⟨ob3p, h⟩ := chk_some h
          have ob3 : 0 ≤ ((n7 : Nat) : Int) ∧ ((n7 : Nat) : Int) < (((r6).length : Nat) : Int) := ⟨by omega, ob3p⟩
          obtain ⟨ob4, h⟩ := chk_some h
          refine AWp.regC [] [] [3, 4, 8, 25, 26, 27] [8, 5003, 5004] ⟨41, [(3, .own 5003), (4, .own 5004), (8, .ptr 8 0), (25, .own 5003), (26, .int .i64 (((r6).length : Nat) : Int)), (27, .int .i64 ((n7 : Nat) : Int))], [(8, .cells 28 [.b16 (r6.getD n7 0#16)]), (5003, bL 28 1 eW 0#16 r6), (5004, bL 28 1 eW 0#16 l8)], [], 0⟩ ((0 ≤ ((n7 : Nat) : Int) ∧ ((n7 : Nat) : Int) < (((r6).length : Nat) : Int)) ∧ (n7 < (r6).length) ∧ (True) ∧ True) Tryz_mixed (by kernel_rfl) ⟨ob3, ob4, trivial, trivial⟩ ?_
          refine thenQ_normal ?_
          refine AWp.seq ?_
          obtain ⟨r9, hr9, h⟩ := bind_ok h
          refine AWp.regC [] [(2, ⟨[vL 1 eW 0#16 r6, .fn (.func 68) [.ptr 8 0]], [8], [8], [(8, .cells 28 [.b16 r9.2])], .bool r9.1, [], [5003], []⟩)] [3, 4, 8, 25, 26, 27, 34] [8, 5003, 5004] ⟨41, [(3, .own 5003), (4, .own 5004), (8, .ptr 8 0), (25, .own 5003), (26, .int .i64 (((r6).length : Nat) : Int)), (27, .int .i64 ((n7 : Nat) : Int)), (34, .bool (!r9.1))], [(8, .cells 28 [.b16 r9.2]), (5003, bL 28 1 eW 0#16 r6), (5004, bL 28 1 eW 0#16 l8)], [], 0⟩ ((callP Tryz.prog true 67 [] [8] [(8, .cells 28 [.b16 (r6.getD n7 0#16)])] [(5003, bL 28 1 eW 0#16 r6)] [5003] [.own 5003, .fn (.func 68) [.ptr 8 0]] [vL 1 eW 0#16 r6, .fn (.func 68) [.ptr 8 0]] (.bool r9.1) [(8, .cells 28 [.b16 r9.2])]) ∧ True) Tryz_mixed (by kernel_rfl) ⟨⟨fun _ => (Spec1.ren (swapN 2000 8) (swapN_inv 2000 8) rfl (f67_ok r6 (r6.getD n7 0#16) r9 hr9)), fun _ => ⟨.refl _, .refl _, trivial⟩, .inr ⟨rfl, ⟨rfl, trivial⟩⟩⟩, trivial⟩ ?_
          refine thenQ_normal ?_
          refine AWp.cond (b := (!r9.1)) (by kernel_rfl) (fun hc3 => ?_) (fun hc3 => ?_)
          ·
            replace h := ite_tb hc3 h
            obtain ⟨ob5, h⟩ := chk_some h
            refine AWp.regC [] [] [3, 4, 25, 26, 27] [5003, 5004] ⟨41, [(3, .own 5003), (4, .own 5004), (25, .own 5003), (26, .int .i64 (((r6).length : Nat) : Int)), (27, .int .i64 ((n7 : Nat) : Int))], [(5003, bL 28 1 eW 0#16 r6), (5004, .rows 28 1 ((l8).length + 1) (appF (l8).length (encF eW 0#16 l8) (lstF 1 [.b16 r9.2])))], [], 0⟩ ((((l8).length + 1) * 2 ≤ 140737488355328) ∧ True) Tryz_mixed (by kernel_rfl) ⟨ob5, trivial⟩ ?_
            refine blockQ_normal ?_
            exact joinQ_normal ((l8 ++ [r9.2])) (Le.trans (Le.mk (s := ⟨41, [(3, .own 5003), (4, .own 5004), (25, .own 5003), (26, .int .i64 (((r6).length : Nat) : Int)), (27, .int .i64 ((n7 : Nat) : Int))], [(5003, bL 28 1 eW 0#16 r6), (5004, .rows 28 1 ((l8).length + 1) (appF (l8).length (encF eW 0#16 l8) (lstF 1 [.b16 r9.2])))], [], 0⟩) (s' := ⟨41, [(3, .own 5003), (4, .own 5004), (25, .own 5003), (26, .int .i64 (((r6).length : Nat) : Int)), (27, .int .i64 ((n7 : Nat) : Int))], [(5003, bL 28 1 eW 0#16 r6), (5004, bL 28 1 eW 0#16 (l8 ++ [r9.2]))], [], 0⟩) rfl rfl ⟨.refl _, .refl _, .refl _, .refl _, .refl _, trivial⟩ ⟨⟨_, rfl, .refl _⟩, ⟨_, rfl, (BLe.of (RL.app (RL.self _) (RL.lst (enc := eW) [r9.2] rfl rfl (fun _ => rfl))))⟩, trivial⟩) (Le.trans (Le.trans (Le.ren (s := ⟨41, [(3, .own 5003), (4, .own 5004), (25, .own 5003), (26, .int .i64 (((r6).length : Nat) : Int)), (27, .int .i64 ((n7 : Nat) : Int))], [(5003, bL 28 1 eW 0#16 r6), (5004, bL 28 1 eW 0#16 (l8 ++ [r9.2]))], [], 0⟩) (swapN 5004 38) (swapN_inv 5004 38) rfl) (Le.mk (s' := ⟨41, [(3, .own 5003), (4, .own 38), (25, .own 5003), (26, .int .i64 (((r6).length : Nat) : Int)), (27, .int .i64 ((n7 : Nat) : Int))], [(5003, bL 28 1 eW 0#16 r6), (38, bL 28 1 eW 0#16 (l8 ++ [r9.2]))], [], 0⟩) rfl rfl ⟨.refl _, .refl _, .refl _, .refl _, .refl _, trivial⟩ ⟨⟨_, rfl, .refl _⟩, ⟨_, rfl, .refl _⟩, trivial⟩)) (Le.mk (s := ⟨41, [(3, .own 5003), (4, .own 38), (25, .own 5003), (26, .int .i64 (((r6).length : Nat) : Int)), (27, .int .i64 ((n7 : Nat) : Int))], [(5003, bL 28 1 eW 0#16 r6), (38, bL 28 1 eW 0#16 (l8 ++ [r9.2]))], [], 0⟩) (s' := ⟨41, [(3, .own 5003), (4, .own 38), (25, .own 5003), (26, .int .i64 (((r6).length : Nat) : Int)), (27, .int .i64 ((n7 : Nat) : Int))], [(38, bL 28 1 eW 0#16 (l8 ++ [r9.2])), (5003, bL 28 1 eW 0#16 r6)], [], 0⟩) rfl rfl ⟨.refl _, .refl _, .refl _, .refl _, .refl _, trivial⟩ ⟨⟨_, rfl, .refl _⟩, ⟨_, rfl, .refl _⟩, trivial⟩))) h
          ·
            replace h := ite_fb hc3 h
            refine AWp.skip ?_
            refine blockQ_normal ?_
            exact joinQ_normal (l8) (Le.trans (Le.trans (Le.ren (s := ⟨41, [(3, .own 5003), (4, .own 5004), (8, .ptr 8 0), (25, .own 5003), (26, .int .i64 (((r6).length : Nat) : Int)), (27, .int .i64 ((n7 : Nat) : Int)), (34, .bool (!r9.1))], [(8, .cells 28 [.b16 r9.2]), (5003, bL 28 1 eW 0#16 r6), (5004, bL 28 1 eW 0#16 l8)], [], 0⟩) (swapN 5004 38) (swapN_inv 5004 38) rfl) (Le.mk (s' := ⟨41, [(3, .own 5003), (4, .own 38), (8, .ptr 8 0), (25, .own 5003), (26, .int .i64 (((r6).length : Nat) : Int)), (27, .int .i64 ((n7 : Nat) : Int)), (34, .bool (!r9.1))], [(8, .cells 28 [.b16 r9.2]), (5003, bL 28 1 eW 0#16 r6), (38, bL 28 1 eW 0#16 l8)], [], 0⟩) rfl rfl ⟨.refl _, .refl _, .refl _, .refl _, .refl _, .refl _, .refl _, trivial⟩ ⟨⟨_, rfl, .refl _⟩, ⟨_, rfl, .refl _⟩, ⟨_, rfl, .refl _⟩, trivial⟩)) (Le.mk (s := ⟨41, [(3, .own 5003), (4, .own 38), (8, .ptr 8 0), (25, .own 5003), (26, .int .i64 (((r6).length : Nat) : Int)), (27, .int .i64 ((n7 : Nat) : Int)), (34, .bool (!r9.1))], [(8, .cells 28 [.b16 r9.2]), (5003, bL 28 1 eW 0#16 r6), (38, bL 28 1 eW 0#16 l8)], [], 0⟩) (s' := ⟨41, [(3, .own 5003), (4, .own 38), (25, .own 5003), (26, .int .i64 (((r6).length : Nat) : Int)), (27, .int .i64 ((n7 : Nat) : Int))], [(38, bL 28 1 eW 0#16 l8), (5003, bL 28 1 eW 0#16 r6)], [], 0⟩) rfl rfl ⟨.refl _, .refl _, .refl _, .refl _, .refl _, trivial⟩ ⟨⟨_, rfl, .refl _⟩, ⟨_, rfl, .refl _⟩, trivial⟩)) h
        ·
          rintro l10 h
          replace h := (congrFun hK3 _).symm.trans h
          obtain ⟨ob6p, h⟩ := chk_some h
          have ob6 : -9223372036854775808 ≤ (((n7 : Nat) : Int) + (1 : Int)) ∧ (((n7 : Nat) : Int) + (1 : Int)) ≤ 9223372036854775807 := ⟨by omega, ob6p⟩
          refine AWp.regC [] [] [3, 4, 25, 26, 27] [38, 5003] ⟨41, [(3, .own 5003), (4, .own 38), (25, .own 5003), (26, .int .i64 (((r6).length : Nat) : Int)), (27, .int .i64 (((n7 + 1) : Nat) : Int))], [(38, bL 28 1 eW 0#16 l10), (5003, bL 28 1 eW 0#16 r6)], [], 0⟩ ((-9223372036854775808 ≤ (((n7 : Nat) : Int) + (1 : Int)) ∧ (((n7 : Nat) : Int) + (1 : Int)) ≤ 9223372036854775807) ∧ True) Tryz_mixed (by kernel_rfl) ⟨ob6, trivial⟩ ?_
          rw [hC1] at h
          exact loopQ_normal (_, (n7 + 1), l10) (Le.trans (Le.trans (Le.ren (s := ⟨41, [(3, .own 5003), (4, .own 38), (25, .own 5003), (26, .int .i64 (((r6).length : Nat) : Int)), (27, .int .i64 (((n7 + 1) : Nat) : Int))], [(38, bL 28 1 eW 0#16 l10), (5003, bL 28 1 eW 0#16 r6)], [], 0⟩) (swapN 38 5004) (swapN_inv 38 5004) rfl) (Le.mk (s' := ⟨41, [(3, .own 5003), (4, .own 5004), (25, .own 5003), (26, .int .i64 (((r6).length : Nat) : Int)), (27, .int .i64 (((n7 + 1) : Nat) : Int))], [(5004, bL 28 1 eW 0#16 l10), (5003, bL 28 1 eW 0#16 r6)], [], 0⟩) rfl rfl ⟨.refl _, .refl _, .refl _, .refl _, .refl _, trivial⟩ ⟨⟨_, rfl, .refl _⟩, ⟨_, rfl, .refl _⟩, trivial⟩)) (Le.mk (s := ⟨41, [(3, .own 5003), (4, .own 5004), (25, .own 5003), (26, .int .i64 (((r6).length : Nat) : Int)), (27, .int .i64 (((n7 + 1) : Nat) : Int))], [(5004, bL 28 1 eW 0#16 l10), (5003, bL 28 1 eW 0#16 r6)], [], 0⟩) (s' := ⟨41, [(3, .own 5003), (4, .own 5004), (25, .own 5003), (26, .int .i64 (((r6).length : Nat) : Int)), (27, .int .i64 (((n7 + 1) : Nat) : Int))], [(5003, bL 28 1 eW 0#16 r6), (5004, bL 28 1 eW 0#16 l10)], [], 0⟩) rfl rfl ⟨.refl _, .refl _, .refl _, .refl _, .refl _, trivial⟩ ⟨⟨_, rfl, .refl _⟩, ⟨_, rfl, .refl _⟩, trivial⟩)) h (Nat.lt_succ_self _)
      ·
        replace h := ite_fb hc2 h
        refine AWp.exit ?_
        refine thenQ_exit ?_
        refine thenQ_exit ?_
        refine blockQ_same ?_
        exact joinQ_normal (l8) (Le.mk (s := ⟨41, [(3, .own 5003), (4, .own 5004), (25, .own 5003), (26, .int .i64 (((r6).length : Nat) : Int)), (27, .int .i64 ((n7 : Nat) : Int)), (28, .bool (decide (((n7 : Nat) : Int) < (((r6).length : Nat) : Int))))], [(5003, bL 28 1 eW 0#16 r6), (5004, bL 28 1 eW 0#16 l8)], [], 0⟩) (s' := ⟨41, [(4, .own 5004)], [(5004, bL 28 1 eW 0#16 l8)], [], 0⟩) rfl rfl ⟨.refl _, trivial⟩ ⟨⟨_, rfl, .refl _⟩, trivial⟩) h
    ·
      rintro l11 h
      replace h := (congrFun hK2 _).symm.trans h
      refine AWp.seq ?_
      refine AWp.regC [] [] [2] [5004] ⟨41, [(2, .own 5004)], [(5004, bL 28 1 eW 0#16 l11)], [], 0⟩ (True) Tryz_mixed (by kernel_rfl) trivial ?_
      refine thenQ_normal ?_
      refine AWp.le (Le.trans (Le.ren (s := ⟨41, [(2, .own 5004)], [(5004, bL 28 1 eW 0#16 l11)], [], 0⟩) (swapN 5004 3000) (swapN_inv 5004 3000) rfl) (Le.mk (s' := ⟨41, [(2, .own 3000)], [(3000, bL 28 1 eW 0#16 l11)], [], 0⟩) rfl rfl ⟨.refl _, trivial⟩ ⟨⟨_, rfl, .refl _⟩, trivial⟩)) ?_
      have hret := Option.some.inj h
      subst hret
      refine AWp.le (Le.mk (s := ⟨41, [(2, .own 3000)], [(3000, bL 28 1 eW 0#16 l11)], [], 0⟩) (s' := ⟨41, [(2, .own 3000)], [(3000, bL 28 1 eW 0#16 l11)], [], 0⟩) rfl rfl ⟨.refl _, trivial⟩ ⟨⟨_, rfl, .refl _⟩, trivial⟩) ?_
      refine AWp.ret ?_
      exact bodyQ_ret _ rfl ⟨rfl, rfl⟩ rfl
def f37_L0 (x1 : List (BitVec 16)) (x2 : List (BitVec 16)) (K1 : Unit → Option Bool) : Nat → Nat → Option Bool
  | 0, _ => none
  | k + 1, n3 =>
    if (decide (((n3 : Nat) : Int) < (((x1).length : Nat) : Int))) then (
    chk (((n3 : Nat) : Int) < (((x1).length : Nat) : Int)) <|
    chk (((n3 : Nat) : Int) < (((x2).length : Nat) : Int)) <|
    if (!((x1.getD n3 0#16) == (x2.getD n3 0#16))) then (
    some false
    ) else (
    chk ((((n3 : Nat) : Int) + (1 : Int)) ≤ 9223372036854775807) <|
    (f37_L0 x1 x2 K1 k) (n3 + 1)
    )
    ) else (
    K1 ()
    )
def f37 (x1 : List (BitVec 16)) (x2 : List (BitVec 16)) : Option Bool :=
  if ((((x1).length : Nat) : Int) != (((x2).length : Nat) : Int)) then (
  some false
  ) else (
  jn (fun (_ : Unit) =>
  some true
  ) fun (K1 : Unit → Option Bool) =>
  f37_L0 x1 x2 K1 FUEL 0
  )
set_option maxRecDepth 100000 in
theorem f37_ok  (x1 : List (BitVec 16)) (x2 : List (BitVec 16)) (r : Bool) (h : f37 x1 x2 = some r)  : Spec1 Tryz.prog 37 [] [] [] [vL 1 eW 0#16 x1, vL 1 eW 0#16 x2] (.bool r) [] := by
  unfold f37 at h
  refine Spec1.body 0 _ _ Tryz.func37 rfl Tryz.ntmps37 rfl rfl ?_
  refine AWp.seq ?_
  refine AWp.regC [] [] [0, 1] [] ⟨26, [(0, vL 1 eW 0#16 x1), (1, vL 1 eW 0#16 x2)], [], [], 0⟩ (True) Tryz_mixed (by kernel_rfl) trivial ?_
  refine thenQ_normal ?_
  refine AWp.seq ?_
  refine AWp.seq ?_
  refine AWp.regC [] [] [0, 1, 10] [] ⟨26, [(0, vL 1 eW 0#16 x1), (1, vL 1 eW 0#16 x2), (10, .bool ((((x1).length : Nat) : Int) != (((x2).length : Nat) : Int)))], [], [], 0⟩ (True) Tryz_mixed (by kernel_rfl) trivial ?_
  refine thenQ_normal ?_
  refine AWp.cond (b := ((((x1).length : Nat) : Int) != (((x2).length : Nat) : Int))) (by kernel_rfl) (fun hc1 => ?_) (fun hc1 => ?_)
  ·
    replace h := ite_tb hc1 h
    refine AWp.seq ?_
    refine AWp.regC [] [] [4] [] ⟨26, [(4, .bool false)], [], [], 0⟩ (True) Tryz_mixed (by kernel_rfl) trivial ?_
    refine thenQ_normal ?_
    have hret := Option.some.inj h
    subst hret
    refine AWp.le (Le.mk (s := ⟨26, [(4, .bool false)], [], [], 0⟩) (s' := ⟨26, [(4, .bool false)], [], [], 0⟩) rfl rfl ⟨.refl _, trivial⟩ trivial) ?_
    refine AWp.ret ?_
    refine thenQ_ret ?_
    exact bodyQ_ret _ rfl ⟨rfl, rfl⟩ rfl
  ·
    replace h := ite_fb hc1 h
    refine AWp.skip ?_
    refine thenQ_normal ?_
    obtain ⟨K1, hK1, h⟩ := jn_some h
    refine AWp.join (α := Unit) (fun (x : Unit) => match x with | () => ⟨26, [], [], [], 0⟩) (fun x => K1 x = some r) ?_ ?_
    ·
      refine AWp.seq ?_
      refine AWp.regC [] [] [0, 1, 5] [] ⟨26, [(0, vL 1 eW 0#16 x1), (1, vL 1 eW 0#16 x2), (5, .int .i64 (0 : Int))], [], [], 0⟩ (True) Tryz_mixed (by kernel_rfl) trivial ?_
      refine thenQ_normal ?_
      refine AWp.block ?_
      refine AWp.loopL (α := Nat × Nat) (fun x => match x with | (_, n3) => ⟨26, [(0, vL 1 eW 0#16 x1), (1, vL 1 eW 0#16 x2), (5, .int .i64 ((n3 : Nat) : Int))], [], [], 0⟩) (fun x => f37_L0 x1 x2 K1 x.1 x.2 = some r) (fun x => x.1) (FUEL, 0) (Le.mk (s := ⟨26, [(0, vL 1 eW 0#16 x1), (1, vL 1 eW 0#16 x2), (5, .int .i64 (0 : Int))], [], [], 0⟩) (s' := ⟨26, [(0, vL 1 eW 0#16 x1), (1, vL 1 eW 0#16 x2), (5, .int .i64 (0 : Int))], [], [], 0⟩) rfl rfl ⟨.refl _, .refl _, .refl _, trivial⟩ trivial) h ?_
      rintro ⟨k0, n3⟩ h
      cases k0 with
      | zero => exact nomatch (show (none : Option Bool) = some r from h)
      | succ k0 =>
      obtain ⟨C0, hC0⟩ : ∃ C, C = f37_L0 x1 x2 K1 k0 := ⟨_, rfl⟩
      replace h := (f37_L0.eq_2 ..).symm.trans h
      try rw [← hC0] at h
      refine AWp.seq ?_
      refine AWp.seq ?_
      refine AWp.regC [] [] [0, 1, 5, 14] [] ⟨26, [(0, vL 1 eW 0#16 x1), (1, vL 1 eW 0#16 x2), (5, .int .i64 ((n3 : Nat) : Int)), (14, .bool (decide (((n3 : Nat) : Int) < (((x1).length : Nat) : Int))))], [], [], 0⟩ (True) Tryz_mixed (by kernel_rfl) trivial ?_
      refine thenQ_normal ?_
      refine AWp.cond (b := (decide (((n3 : Nat) : Int) < (((x1).length : Nat) : Int)))) (by kernel_rfl) (fun hc2 => ?_) (fun hc2 => ?_)
      ·
        replace h := ite_tb hc2 h
        refine AWp.skip ?_
        refine thenQ_normal ?_
        refine AWp.seq ?_
        refine AWp.block ?_
        refine AWp.seq ?_
        obtain ⟨ob0p, h⟩ := chk_some h
        have ob0 : 0 ≤ ((n3 : Nat) : Int) ∧ ((n3 : Nat) : Int) < (((x1).length : Nat) : Int) := ⟨by omega, ob0p⟩
        obtain ⟨ob1p, h⟩ := chk_some h
        have ob1 : 0 ≤ ((n3 : Nat) : Int) ∧ ((n3 : Nat) : Int) < (((x2).length : Nat) : Int) := ⟨by omega, ob1p⟩
        refine AWp.regC [] [] [0, 1, 5, 25] [] ⟨26, [(0, vL 1 eW 0#16 x1), (1, vL 1 eW 0#16 x2), (5, .int .i64 ((n3 : Nat) : Int)), (25, .bool (!((x1.getD n3 0#16) == (x2.getD n3 0#16))))], [], [], 0⟩ ((0 ≤ ((n3 : Nat) : Int) ∧ ((n3 : Nat) : Int) < (((x1).length : Nat) : Int)) ∧ (0 ≤ ((n3 : Nat) : Int) ∧ ((n3 : Nat) : Int) < (((x2).length : Nat) : Int)) ∧ True) Tryz_mixed (by kernel_rfl) ⟨ob0, ob1, trivial⟩ ?_
        refine thenQ_normal ?_
        refine AWp.cond (b := (!((x1.getD n3 0#16) == (x2.getD n3 0#16)))) (by kernel_rfl) (fun hc3 => ?_) (fun hc3 => ?_)
        ·
          replace h := ite_tb hc3 h
          refine AWp.seq ?_
          refine AWp.regC [] [] [4] [] ⟨26, [(4, .bool false)], [], [], 0⟩ (True) Tryz_mixed (by kernel_rfl) trivial ?_
          refine thenQ_normal ?_
          have hret := Option.some.inj h
          subst hret
          refine AWp.le (Le.mk (s := ⟨26, [(4, .bool false)], [], [], 0⟩) (s' := ⟨26, [(4, .bool false)], [], [], 0⟩) rfl rfl ⟨.refl _, trivial⟩ trivial) ?_
          refine AWp.ret ?_
          refine blockQ_ret ?_
          refine thenQ_ret ?_
          refine thenQ_ret ?_
          refine blockQ_ret ?_
          refine joinQ_ret ?_
          exact bodyQ_ret _ rfl ⟨rfl, rfl⟩ rfl
        ·
          replace h := ite_fb hc3 h
          refine AWp.skip ?_
          refine blockQ_normal ?_
          refine thenQ_normal ?_
          obtain ⟨ob2p, h⟩ := chk_some h
          have ob2 : -9223372036854775808 ≤ (((n3 : Nat) : Int) + (1 : Int)) ∧ (((n3 : Nat) : Int) + (1 : Int)) ≤ 9223372036854775807 := ⟨by omega, ob2p⟩
          refine AWp.regC [] [] [0, 1, 5] [] ⟨26, [(0, vL 1 eW 0#16 x1), (1, vL 1 eW 0#16 x2), (5, .int .i64 (((n3 + 1) : Nat) : Int))], [], [], 0⟩ ((-9223372036854775808 ≤ (((n3 : Nat) : Int) + (1 : Int)) ∧ (((n3 : Nat) : Int) + (1 : Int)) ≤ 9223372036854775807) ∧ True) Tryz_mixed (by kernel_rfl) ⟨ob2, trivial⟩ ?_
          rw [hC0] at h
          exact loopQ_normal (_, (n3 + 1)) (Le.mk (s := ⟨26, [(0, vL 1 eW 0#16 x1), (1, vL 1 eW 0#16 x2), (5, .int .i64 (((n3 + 1) : Nat) : Int))], [], [], 0⟩) (s' := ⟨26, [(0, vL 1 eW 0#16 x1), (1, vL 1 eW 0#16 x2), (5, .int .i64 (((n3 + 1) : Nat) : Int))], [], [], 0⟩) rfl rfl ⟨.refl _, .refl _, .refl _, trivial⟩ trivial) h (Nat.lt_succ_self _)
      ·
        replace h := ite_fb hc2 h
        refine AWp.exit ?_
        refine thenQ_exit ?_
        refine thenQ_exit ?_
        refine blockQ_same ?_
        exact joinQ_normal () (Le.mk (s := ⟨26, [(0, vL 1 eW 0#16 x1), (1, vL 1 eW 0#16 x2), (5, .int .i64 ((n3 : Nat) : Int)), (14, .bool (decide (((n3 : Nat) : Int) < (((x1).length : Nat) : Int))))], [], [], 0⟩) (s' := ⟨26, [], [], [], 0⟩) rfl rfl trivial trivial) h
    ·
      rintro ⟨⟩ h
      replace h := (congrFun hK1 _).symm.trans h
      refine AWp.seq ?_
      refine AWp.regC [] [] [4] [] ⟨26, [(4, .bool true)], [], [], 0⟩ (True) Tryz_mixed (by kernel_rfl) trivial ?_
      refine thenQ_normal ?_
      have hret := Option.some.inj h
      subst hret
      refine AWp.le (Le.mk (s := ⟨26, [(4, .bool true)], [], [], 0⟩) (s' := ⟨26, [(4, .bool true)], [], [], 0⟩) rfl rfl ⟨.refl _, trivial⟩ trivial) ?_
      refine AWp.ret ?_
      exact bodyQ_ret _ rfl ⟨rfl, rfl⟩ rfl
def f12  : Option Bool :=
  (f20 (3 : Int) (1 : Int) (1 : Int)).bind fun (r1 : (List (BitVec 16 × BitVec 16)) × Int) =>
  (f27 [((BitVec.ofInt 16 3), (BitVec.ofInt 16 0))] [((BitVec.ofInt 16 1), (BitVec.ofInt 16 6))]).bind fun (r2 : Int × (List (BitVec 16 × BitVec 16))) =>
  if ((((r1.2 == (0 : Int)) && (r2.1 == (0 : Int))) && ((((r1.1).length : Nat) : Int) == (6 : Int))) && ((((r1.1.getD 1 (default : BitVec 16 × BitVec 16)).1) == (BitVec.ofInt 16 1)) && ((((r1.1.getD 1 (default : BitVec 16 × BitVec 16)).2) == (BitVec.ofInt 16 4)) && true))) = true then (
  (f22 r2.2 [((BitVec.ofInt 16 1), (BitVec.ofInt 16 2))]).bind fun (r3 : Bool) =>
  optc (r3 == true) (f16 (([((BitVec.ofInt 16 1), (BitVec.ofInt 16 6))].getD 0 (default : BitVec 16 × BitVec 16)).1) (([((BitVec.ofInt 16 1), (BitVec.ofInt 16 6))].getD 0 (default : BitVec 16 × BitVec 16)).2) (([((BitVec.ofInt 16 3), (BitVec.ofInt 16 0))].getD 0 (default : BitVec 16 × BitVec 16)).1) (([((BitVec.ofInt 16 3), (BitVec.ofInt 16 0))].getD 0 (default : BitVec 16 × BitVec 16)).2)) fun (r4 : Bool) =>
  optc ((r3 && (!r4)) == true) (f35 r2.2) fun (r5 : List UInt8) =>
  if ((r3 && (!r4)) && (r5 == cs5)) = true then (
  (f38 ([((BitVec.ofInt 16 1), (BitVec.ofInt 16 6))] ++ [((BitVec.ofInt 16 3), (BitVec.ofInt 16 0))])).bind fun (r6 : List (BitVec 16)) =>
  (f37 r6 [(BitVec.ofInt 16 3)]).bind fun (r7 : Bool) =>
  chk (((((r1.2 == (0 : Int)) && (r2.1 == (0 : Int))) && ((((r1.1).length : Nat) : Int) == (6 : Int))) == true) = true → 0 ≤ (1 : Int) ∧ (1 : Int) < (((r1.1).length : Nat) : Int)) <|
  chk ((r3 == true) = true → 0 ≤ (0 : Int) ∧ (0 : Int) < ((([((BitVec.ofInt 16 1), (BitVec.ofInt 16 6))]).length : Nat) : Int)) <|
  chk ((r3 == true) = true → 0 < ([((BitVec.ofInt 16 1), (BitVec.ofInt 16 6))]).length) <|
  chk ((r3 == true) = true → 0 ≤ (0 : Int) ∧ (0 : Int) < ((([((BitVec.ofInt 16 3), (BitVec.ofInt 16 0))]).length : Nat) : Int)) <|
  chk ((r3 == true) = true → 0 < ([((BitVec.ofInt 16 3), (BitVec.ofInt 16 0))]).length) <|
  chk ((([((BitVec.ofInt 16 1), (BitVec.ofInt 16 6))]).length + ([((BitVec.ofInt 16 3), (BitVec.ofInt 16 0))]).length) * 4 ≤ 140737488355328) <|
  some r7
  ) else (
  chk (((((r1.2 == (0 : Int)) && (r2.1 == (0 : Int))) && ((((r1.1).length : Nat) : Int) == (6 : Int))) == true) = true → 0 ≤ (1 : Int) ∧ (1 : Int) < (((r1.1).length : Nat) : Int)) <|
  chk ((r3 == true) = true → 0 ≤ (0 : Int) ∧ (0 : Int) < ((([((BitVec.ofInt 16 1), (BitVec.ofInt 16 6))]).length : Nat) : Int)) <|
  chk ((r3 == true) = true → 0 < ([((BitVec.ofInt 16 1), (BitVec.ofInt 16 6))]).length) <|
  chk ((r3 == true) = true → 0 ≤ (0 : Int) ∧ (0 : Int) < ((([((BitVec.ofInt 16 3), (BitVec.ofInt 16 0))]).length : Nat) : Int)) <|
  chk ((r3 == true) = true → 0 < ([((BitVec.ofInt 16 3), (BitVec.ofInt 16 0))]).length) <|
  some false
  )
  ) else (
  chk (((((r1.2 == (0 : Int)) && (r2.1 == (0 : Int))) && ((((r1.1).length : Nat) : Int) == (6 : Int))) == true) = true → 0 ≤ (1 : Int) ∧ (1 : Int) < (((r1.1).length : Nat) : Int)) <|
  chk (false = true → 0 ≤ (0 : Int) ∧ (0 : Int) < ((([((BitVec.ofInt 16 1), (BitVec.ofInt 16 6))]).length : Nat) : Int)) <|
  chk (false = true → 0 < ([((BitVec.ofInt 16 1), (BitVec.ofInt 16 6))]).length) <|
  chk (false = true → 0 ≤ (0 : Int) ∧ (0 : Int) < ((([((BitVec.ofInt 16 3), (BitVec.ofInt 16 0))]).length : Nat) : Int)) <|
  chk (false = true → 0 < ([((BitVec.ofInt 16 3), (BitVec.ofInt 16 0))]).length) <|
  some false
  )
set_option maxRecDepth 100000 in
theorem f12_ok   (r : Bool) (h : f12 = some r)  : Spec1 Tryz.prog 12 [(0, .elem 32 1 T0F 0 0), (6, .elem 20 1 T6F 0 0)] [] [] [] (.bool r) [] := by
  unfold f12 at h
  refine Spec1.body 0 _ _ Tryz.func12 rfl Tryz.ntmps12 rfl rfl ?_
  refine AWp.seq ?_
  refine AWp.regC [] [] [1000000, 1000006] [] ⟨68, [(1000000, .elem 32 1 T0F 0 0), (1000006, .elem 20 1 T6F 0 0)], [], [], 0⟩ (True) Tryz_mixed (by kernel_rfl) trivial ?_
  refine thenQ_normal ?_
  refine AWp.seq ?_
  obtain ⟨r1, hr1, h⟩ := bind_ok h
  refine AWp.regC [] [(0, ⟨[.int .i64 (3 : Int), .int .i64 (1 : Int), .int .i64 (1 : Int)], [], [], [], .tup [vL 2 eWW (default : BitVec 16 × BitVec 16) r1.1, .int .i64 r1.2], [], [], [0]⟩)] [1, 2, 1000000, 1000006] [] ⟨68, [(1, vL 2 eWW (default : BitVec 16 × BitVec 16) r1.1), (2, .int .i64 r1.2), (1000000, .elem 32 1 T0F 0 0), (1000006, .elem 20 1 T6F 0 0)], [], [], 0⟩ ((callP Tryz.prog true 20 [(0, .elem 32 1 T0F 0 0)] [] [] [] [] [.int .i64 (3 : Int), .int .i64 (1 : Int), .int .i64 (1 : Int)] [.int .i64 (3 : Int), .int .i64 (1 : Int), .int .i64 (1 : Int)] (.tup [vL 2 eWW (default : BitVec 16 × BitVec 16) r1.1, .int .i64 r1.2]) []) ∧ True) Tryz_mixed (by kernel_rfl) ⟨⟨fun _ => (f20_ok (3 : Int) (1 : Int) (1 : Int) r1 hr1), fun _ => ⟨.refl _, .refl _, .refl _, trivial⟩, .inl rfl⟩, trivial⟩ ?_
  refine thenQ_normal ?_
  refine AWp.seq ?_
  refine AWp.regC [] [] [1, 2, 3, 4, 1000000, 1000006] [12, 14] ⟨68, [(1, vL 2 eWW (default : BitVec 16 × BitVec 16) r1.1), (2, .int .i64 r1.2), (3, .own 12), (4, .own 14), (1000000, .elem 32 1 T0F 0 0), (1000006, .elem 20 1 T6F 0 0)], [(12, .rows 30 2 1 (lstF 2 [.b16 (BitVec.ofInt 16 3), .b16 (BitVec.ofInt 16 0)])), (14, .rows 30 2 1 (lstF 2 [.b16 (BitVec.ofInt 16 1), .b16 (BitVec.ofInt 16 6)]))], [], 0⟩ (True) Tryz_mixed (by kernel_rfl) trivial ?_
  refine thenQ_normal ?_
  refine AWp.le (Le.mk (s := ⟨68, [(1, vL 2 eWW (default : BitVec 16 × BitVec 16) r1.1), (2, .int .i64 r1.2), (3, .own 12), (4, .own 14), (1000000, .elem 32 1 T0F 0 0), (1000006, .elem 20 1 T6F 0 0)], [(12, .rows 30 2 1 (lstF 2 [.b16 (BitVec.ofInt 16 3), .b16 (BitVec.ofInt 16 0)])), (14, .rows 30 2 1 (lstF 2 [.b16 (BitVec.ofInt 16 1), .b16 (BitVec.ofInt 16 6)]))], [], 0⟩) (s' := ⟨68, [(1, vL 2 eWW (default : BitVec 16 × BitVec 16) r1.1), (2, .int .i64 r1.2), (3, .own 12), (4, .own 14), (1000000, .elem 32 1 T0F 0 0), (1000006, .elem 20 1 T6F 0 0)], [(12, bL 30 2 eWW (default : BitVec 16 × BitVec 16) [((BitVec.ofInt 16 3), (BitVec.ofInt 16 0))]), (14, bL 30 2 eWW (default : BitVec 16 × BitVec 16) [((BitVec.ofInt 16 1), (BitVec.ofInt 16 6))])], [], 0⟩) rfl rfl ⟨.refl _, .refl _, .refl _, .refl _, .refl _, .refl _, trivial⟩ ⟨⟨_, rfl, (BLe.of (RL.lst (enc := eWW) [((BitVec.ofInt 16 3), (BitVec.ofInt 16 0))] rfl rfl (fun _ => rfl)))⟩, ⟨_, rfl, (BLe.of (RL.lst (enc := eWW) [((BitVec.ofInt 16 1), (BitVec.ofInt 16 6))] rfl rfl (fun _ => rfl)))⟩, trivial⟩) ?_
  refine AWp.seq ?_
  obtain ⟨r2, hr2, h⟩ := bind_ok h
  refine AWp.regC [] [(2, ⟨[vL 2 eWW (default : BitVec 16 × BitVec 16) [((BitVec.ofInt 16 3), (BitVec.ofInt 16 0))], vL 2 eWW (default : BitVec 16 × BitVec 16) [((BitVec.ofInt 16 1), (BitVec.ofInt 16 6))]], [], [], [(6001, bL 30 2 eWW (default : BitVec 16 × BitVec 16) r2.2)], .tup [.own 6001, .int .i64 r2.1], [6001], [12, 14], []⟩)] [1, 2, 3, 4, 5, 6, 1000000, 1000006] [12, 14, 6001] ⟨68, [(1, vL 2 eWW (default : BitVec 16 × BitVec 16) r1.1), (2, .int .i64 r1.2), (3, .own 12), (4, .own 14), (5, .own 6001), (6, .int .i64 r2.1), (1000000, .elem 32 1 T0F 0 0), (1000006, .elem 20 1 T6F 0 0)], [(12, bL 30 2 eWW (default : BitVec 16 × BitVec 16) [((BitVec.ofInt 16 3), (BitVec.ofInt 16 0))]), (14, bL 30 2 eWW (default : BitVec 16 × BitVec 16) [((BitVec.ofInt 16 1), (BitVec.ofInt 16 6))]), (6001, bL 30 2 eWW (default : BitVec 16 × BitVec 16) r2.2)], [], 0⟩ ((callP Tryz.prog true 27 [] [] [] [(12, bL 30 2 eWW (default : BitVec 16 × BitVec 16) [((BitVec.ofInt 16 3), (BitVec.ofInt 16 0))]), (14, bL 30 2 eWW (default : BitVec 16 × BitVec 16) [((BitVec.ofInt 16 1), (BitVec.ofInt 16 6))])] [12, 14] [.own 12, .own 14] [vL 2 eWW (default : BitVec 16 × BitVec 16) [((BitVec.ofInt 16 3), (BitVec.ofInt 16 0))], vL 2 eWW (default : BitVec 16 × BitVec 16) [((BitVec.ofInt 16 1), (BitVec.ofInt 16 6))]] (.tup [.own 6001, .int .i64 r2.1]) [(6001, bL 30 2 eWW (default : BitVec 16 × BitVec 16) r2.2)]) ∧ True) Tryz_mixed (by kernel_rfl) ⟨⟨fun _ => (Spec1.ren (swapN 3000 6001) (swapN_inv 3000 6001) rfl (f27_ok [((BitVec.ofInt 16 3), (BitVec.ofInt 16 0))] [((BitVec.ofInt 16 1), (BitVec.ofInt 16 6))] r2 hr2)), fun _ => ⟨.refl _, .refl _, trivial⟩, .inr ⟨rfl, ⟨(fun _ _ _ _ => eWW_flat _ _), trivial⟩⟩⟩, trivial⟩ ?_
  refine thenQ_normal ?_
  refine AWp.seq ?_
  by_cases hg4_18 : ((((r1.2 == (0 : Int)) && (r2.1 == (0 : Int))) && ((((r1.1).length : Nat) : Int) == (6 : Int))) && ((((r1.1.getD 1 (default : BitVec 16 × BitVec 16)).1) == (BitVec.ofInt 16 1)) && ((((r1.1.getD 1 (default : BitVec 16 × BitVec 16)).2) == (BitVec.ofInt 16 4)) && true))) = true
  ·
    replace h := ite_t hg4_18 h
    obtain ⟨r3, hr3, h⟩ := bind_ok h
    obtain ⟨r4, hr4, h⟩ := optc_some h
    obtain ⟨r5, hr5, h⟩ := optc_some h
    by_cases hg4_39 : ((r3 && (!r4)) && (r5 == cs5)) = true
    ·
      replace h := ite_t hg4_39 h
      obtain ⟨r6, hr6, h⟩ := bind_ok h
      obtain ⟨r7, hr7, h⟩ := bind_ok h
      have ob0 : ((r1.2 == (0 : Int)) == true) = true → ((r1.2 == (0 : Int)) == true) = true := fun h => h
      have ob1 : true = true → (r1.2 == (0 : Int)) = true → ((r1.2 == (0 : Int)) == true) = true := fun _ h => beq_iff_eq.2 h
      have ob2 : (((r1.2 == (0 : Int)) && (r2.1 == (0 : Int))) == true) = true → (((r1.2 == (0 : Int)) && (r2.1 == (0 : Int))) == true) = true := fun h => h
      have ob3 : (((r1.2 == (0 : Int)) && (r2.1 == (0 : Int))) == true) = true → (((r1.2 == (0 : Int)) && (r2.1 == (0 : Int))) == true) = true := fun h => h
      have ob4 : true = true → ((r1.2 == (0 : Int)) && (r2.1 == (0 : Int))) = true → (((r1.2 == (0 : Int)) && (r2.1 == (0 : Int))) == true) = true := fun _ h => beq_iff_eq.2 h
      obtain ⟨ob5, h⟩ := chk_some h
      have ob6 : ((((r1.2 == (0 : Int)) && (r2.1 == (0 : Int))) && ((((r1.1).length : Nat) : Int) == (6 : Int))) == true) = true → ((((r1.2 == (0 : Int)) && (r2.1 == (0 : Int))) && ((((r1.1).length : Nat) : Int) == (6 : Int))) == true) = true := fun h => h
      have ob7 : ((((r1.2 == (0 : Int)) && (r2.1 == (0 : Int))) && ((((r1.1).length : Nat) : Int) == (6 : Int))) == true) = true → ((((r1.2 == (0 : Int)) && (r2.1 == (0 : Int))) && ((((r1.1).length : Nat) : Int) == (6 : Int))) == true) = true := fun h => h
      have ob8 : ((((r1.2 == (0 : Int)) && (r2.1 == (0 : Int))) && ((((r1.1).length : Nat) : Int) == (6 : Int))) == true) = true → ((((r1.2 == (0 : Int)) && (r2.1 == (0 : Int))) && ((((r1.1).length : Nat) : Int) == (6 : Int))) == true) = true := fun h => h
      have ob9 : ((((r1.2 == (0 : Int)) && (r2.1 == (0 : Int))) && ((((r1.1).length : Nat) : Int) == (6 : Int))) == true) = true → ((((r1.2 == (0 : Int)) && (r2.1 == (0 : Int))) && ((((r1.1).length : Nat) : Int) == (6 : Int))) == true) = true := fun h => h
      have ob10 : true = true → (((r1.2 == (0 : Int)) && (r2.1 == (0 : Int))) && ((((r1.1).length : Nat) : Int) == (6 : Int))) = true → ((((r1.2 == (0 : Int)) && (r2.1 == (0 : Int))) && ((((r1.1).length : Nat) : Int) == (6 : Int))) == true) = true := fun _ h => beq_iff_eq.2 h
      have ob11 : true = true → true = true := fun h => h
      have ob12 : true = true → true = true := fun h => h
      have ob13 : true = true → true = true → true = true := fun _ h => h
      obtain ⟨ob14, h⟩ := chk_some h
      have ob15 : (r3 == true) = true → (r3 == true) = true := fun h => h
      obtain ⟨ob16, h⟩ := chk_some h
      have ob17 : (r3 == true) = true → (r3 == true) = true := fun h => h
      obtain ⟨ob18, h⟩ := chk_some h
      have ob19 : (r3 == true) = true → (r3 == true) = true := fun h => h
      obtain ⟨ob20, h⟩ := chk_some h
      have ob21 : (r3 == true) = true → (r3 == true) = true := fun h => h
      have ob22 : (r3 == true) = true → (r3 == true) = true := fun h => h
      have ob23 : (r3 == true) = true → (r3 == true) = true := fun h => h
      have ob24 : (r3 == true) = true → (r3 == true) = true := fun h => h
      have ob25 : true = true → r3 = true → (r3 == true) = true := fun _ h => beq_iff_eq.2 h
      have ob26 : ((r3 && (!r4)) == true) = true → ((r3 && (!r4)) == true) = true := fun h => h
      have ob27 : ((r3 && (!r4)) == true) = true → ((r3 && (!r4)) == true) = true := fun h => h
      have ob28 : true = true → (r3 && (!r4)) = true → ((r3 && (!r4)) == true) = true := fun _ h => beq_iff_eq.2 h
      obtain ⟨ob29, h⟩ := chk_some h
      have ob30 : true = true → true = true := fun h => h
      have ob31 : true = true → true = true := fun h => h
      have ob32 : true = true → true = true → true = true := fun _ h => h
      refine AWp.regC [] [(18, ⟨[], [], [], [], (.bool true), [], [0], []⟩), (22, ⟨[vL 2 eWW (default : BitVec 16 × BitVec 16) r2.2, vL 2 eWW (default : BitVec 16 × BitVec 16) [((BitVec.ofInt 16 1), (BitVec.ofInt 16 2))]], [], [], [], .bool r3, [], [6001, 42], []⟩), (31, ⟨[.agg [.b16 ([((BitVec.ofInt 16 1), (BitVec.ofInt 16 6))].getD 0 (default : BitVec 16 × BitVec 16)).1, .b16 ([((BitVec.ofInt 16 1), (BitVec.ofInt 16 6))].getD 0 (default : BitVec 16 × BitVec 16)).2], .agg [.b16 ([((BitVec.ofInt 16 3), (BitVec.ofInt 16 0))].getD 0 (default : BitVec 16 × BitVec 16)).1, .b16 ([((BitVec.ofInt 16 3), (BitVec.ofInt 16 0))].getD 0 (default : BitVec 16 × BitVec 16)).2]], [], [], [], .bool r4, [], [], []⟩), (36, ⟨[vL 2 eWW (default : BitVec 16 × BitVec 16) r2.2], [], [], [], .str r5, [], [6001], [0, 6]⟩), (39, ⟨[], [], [], [], (.bool true), [], [0], []⟩), (43, ⟨[vL 2 eWW (default : BitVec 16 × BitVec 16) ([((BitVec.ofInt 16 1), (BitVec.ofInt 16 6))] ++ [((BitVec.ofInt 16 3), (BitVec.ofInt 16 0))])], [], [], [(6002, bL 28 1 eW 0#16 r6)], .own 6002, [6002], [14], []⟩), (45, ⟨[vL 1 eW 0#16 r6, vL 1 eW 0#16 [(BitVec.ofInt 16 3)]], [], [], [], .bool r7, [], [6002, 65], []⟩)] [0, 1000000, 1000006] [] ⟨68, [(0, .bool r7), (1000000, .elem 32 1 T0F 0 0), (1000006, .elem 20 1 T6F 0 0)], [], [], 0⟩ (((((r1.2 == (0 : Int)) == true) = true → ((r1.2 == (0 : Int)) == true) = true) ∧ True) ∧ (true = true → (r1.2 == (0 : Int)) = true → ((r1.2 == (0 : Int)) == true) = true) ∧ (((((r1.2 == (0 : Int)) && (r2.1 == (0 : Int))) == true) = true → (((r1.2 == (0 : Int)) && (r2.1 == (0 : Int))) == true) = true) ∧ True) ∧ (((((r1.2 == (0 : Int)) && (r2.1 == (0 : Int))) == true) = true → (((r1.2 == (0 : Int)) && (r2.1 == (0 : Int))) == true) = true) ∧ True) ∧ (true = true → ((r1.2 == (0 : Int)) && (r2.1 == (0 : Int))) = true → (((r1.2 == (0 : Int)) && (r2.1 == (0 : Int))) == true) = true) ∧ ((((((r1.2 == (0 : Int)) && (r2.1 == (0 : Int))) && ((((r1.1).length : Nat) : Int) == (6 : Int))) == true) = true → 0 ≤ (1 : Int) ∧ (1 : Int) < (((r1.1).length : Nat) : Int)) ∧ (((((r1.2 == (0 : Int)) && (r2.1 == (0 : Int))) && ((((r1.1).length : Nat) : Int) == (6 : Int))) == true) = true → ((((r1.2 == (0 : Int)) && (r2.1 == (0 : Int))) && ((((r1.1).length : Nat) : Int) == (6 : Int))) == true) = true) ∧ True) ∧ ((((((r1.2 == (0 : Int)) && (r2.1 == (0 : Int))) && ((((r1.1).length : Nat) : Int) == (6 : Int))) == true) = true → ((((r1.2 == (0 : Int)) && (r2.1 == (0 : Int))) && ((((r1.1).length : Nat) : Int) == (6 : Int))) == true) = true) ∧ True) ∧ ((((((r1.2 == (0 : Int)) && (r2.1 == (0 : Int))) && ((((r1.1).length : Nat) : Int) == (6 : Int))) == true) = true → ((((r1.2 == (0 : Int)) && (r2.1 == (0 : Int))) && ((((r1.1).length : Nat) : Int) == (6 : Int))) == true) = true) ∧ (((((r1.2 == (0 : Int)) && (r2.1 == (0 : Int))) && ((((r1.1).length : Nat) : Int) == (6 : Int))) == true) = true → ((((r1.2 == (0 : Int)) && (r2.1 == (0 : Int))) && ((((r1.1).length : Nat) : Int) == (6 : Int))) == true) = true) ∧ True) ∧ (true = true → (((r1.2 == (0 : Int)) && (r2.1 == (0 : Int))) && ((((r1.1).length : Nat) : Int) == (6 : Int))) = true → ((((r1.2 == (0 : Int)) && (r2.1 == (0 : Int))) && ((((r1.1).length : Nat) : Int) == (6 : Int))) == true) = true) ∧ (((.bool ((((r1.2 == (0 : Int)) && (r2.1 == (0 : Int))) && ((((r1.1).length : Nat) : Int) == (6 : Int))) && ((((r1.1.getD 1 (default : BitVec 16 × BitVec 16)).1) == (BitVec.ofInt 16 1)) && ((((r1.1.getD 1 (default : BitVec 16 × BitVec 16)).2) == (BitVec.ofInt 16 4)) && true)))) : V) = (.bool true)) ∧ ((true = true → true = true) ∧ True) ∧ ((callP Tryz.prog true 22 [] [] [] [(6001, bL 30 2 eWW (default : BitVec 16 × BitVec 16) r2.2), (42, .rows 30 2 1 (lstF 2 [.b16 (BitVec.ofInt 16 1), .b16 (BitVec.ofInt 16 2)]))] [6001, 42] [.own 6001, .own 42] [vL 2 eWW (default : BitVec 16 × BitVec 16) r2.2, vL 2 eWW (default : BitVec 16 × BitVec 16) [((BitVec.ofInt 16 1), (BitVec.ofInt 16 2))]] (.bool r3) []) ∧ (true = true → true = true) ∧ True) ∧ (true = true → true = true → true = true) ∧ (((r3 == true) = true → 0 ≤ (0 : Int) ∧ (0 : Int) < ((([((BitVec.ofInt 16 1), (BitVec.ofInt 16 6))]).length : Nat) : Int)) ∧ ((r3 == true) = true → (r3 == true) = true) ∧ True) ∧ (((r3 == true) = true → 0 < ([((BitVec.ofInt 16 1), (BitVec.ofInt 16 6))]).length) ∧ ((r3 == true) = true → (r3 == true) = true) ∧ True) ∧ (((r3 == true) = true → 0 ≤ (0 : Int) ∧ (0 : Int) < ((([((BitVec.ofInt 16 3), (BitVec.ofInt 16 0))]).length : Nat) : Int)) ∧ ((r3 == true) = true → (r3 == true) = true) ∧ True) ∧ (((r3 == true) = true → 0 < ([((BitVec.ofInt 16 3), (BitVec.ofInt 16 0))]).length) ∧ ((r3 == true) = true → (r3 == true) = true) ∧ True) ∧ ((callP Tryz.prog (r3 == true) 16 [] [] [] [] [] [.agg [.b16 ([((BitVec.ofInt 16 1), (BitVec.ofInt 16 6))].getD 0 (default : BitVec 16 × BitVec 16)).1, .b16 ([((BitVec.ofInt 16 1), (BitVec.ofInt 16 6))].getD 0 (default : BitVec 16 × BitVec 16)).2], .agg [.b16 ([((BitVec.ofInt 16 3), (BitVec.ofInt 16 0))].getD 0 (default : BitVec 16 × BitVec 16)).1, .b16 ([((BitVec.ofInt 16 3), (BitVec.ofInt 16 0))].getD 0 (default : BitVec 16 × BitVec 16)).2]] [.agg [.b16 ([((BitVec.ofInt 16 1), (BitVec.ofInt 16 6))].getD 0 (default : BitVec 16 × BitVec 16)).1, .b16 ([((BitVec.ofInt 16 1), (BitVec.ofInt 16 6))].getD 0 (default : BitVec 16 × BitVec 16)).2], .agg [.b16 ([((BitVec.ofInt 16 3), (BitVec.ofInt 16 0))].getD 0 (default : BitVec 16 × BitVec 16)).1, .b16 ([((BitVec.ofInt 16 3), (BitVec.ofInt 16 0))].getD 0 (default : BitVec 16 × BitVec 16)).2]] (.bool r4) []) ∧ ((r3 == true) = true → (r3 == true) = true) ∧ ((r3 == true) = true → (r3 == true) = true) ∧ True) ∧ (((r3 == true) = true → (r3 == true) = true) ∧ True) ∧ (true = true → r3 = true → (r3 == true) = true) ∧ ((callP Tryz.prog ((r3 && (!r4)) == true) 35 [(0, .elem 32 1 T0F 0 0), (6, .elem 20 1 T6F 0 0)] [] [] [(6001, bL 30 2 eWW (default : BitVec 16 × BitVec 16) r2.2)] [6001] [.own 6001] [vL 2 eWW (default : BitVec 16 × BitVec 16) r2.2] (.str r5) []) ∧ (((r3 && (!r4)) == true) = true → ((r3 && (!r4)) == true) = true) ∧ True) ∧ ((((r3 && (!r4)) == true) = true → ((r3 && (!r4)) == true) = true) ∧ True) ∧ (true = true → (r3 && (!r4)) = true → ((r3 && (!r4)) == true) = true) ∧ (((.bool ((r3 && (!r4)) && (r5 == cs5))) : V) = (.bool true)) ∧ (((([((BitVec.ofInt 16 1), (BitVec.ofInt 16 6))]).length + ([((BitVec.ofInt 16 3), (BitVec.ofInt 16 0))]).length) * 4 ≤ 140737488355328) ∧ (true = true → true = true) ∧ (true = true → true = true) ∧ True) ∧ (callP Tryz.prog true 38 [] [] [] [(14, .rows 30 2 (([((BitVec.ofInt 16 1), (BitVec.ofInt 16 6))]).length + ([((BitVec.ofInt 16 3), (BitVec.ofInt 16 0))]).length) (appF ([((BitVec.ofInt 16 1), (BitVec.ofInt 16 6))]).length (encF eWW (default : BitVec 16 × BitVec 16) [((BitVec.ofInt 16 1), (BitVec.ofInt 16 6))]) (encF eWW (default : BitVec 16 × BitVec 16) [((BitVec.ofInt 16 3), (BitVec.ofInt 16 0))])))] [14] [.own 14] [vL 2 eWW (default : BitVec 16 × BitVec 16) ([((BitVec.ofInt 16 1), (BitVec.ofInt 16 6))] ++ [((BitVec.ofInt 16 3), (BitVec.ofInt 16 0))])] (.own 6002) [(6002, bL 28 1 eW 0#16 r6)]) ∧ (callP Tryz.prog true 37 [] [] [] [(6002, bL 28 1 eW 0#16 r6), (65, .rows 28 1 1 (lstF 1 [.b16 (BitVec.ofInt 16 3)]))] [6002, 65] [.own 6002, .own 65] [vL 1 eW 0#16 r6, vL 1 eW 0#16 [(BitVec.ofInt 16 3)]] (.bool r7) []) ∧ (true = true → true = true → true = true) ∧ True) Tryz_mixed (by kernel_rfl) ⟨⟨ob0, trivial⟩, ob1, ⟨ob2, trivial⟩, ⟨ob3, trivial⟩, ob4, ⟨ob5, ob6, trivial⟩, ⟨ob7, trivial⟩, ⟨ob8, ob9, trivial⟩, ob10, (congrArg (fun x => ((.bool x) : V)) hg4_18), ⟨ob11, trivial⟩, ⟨⟨fun _ => (f22_ok r2.2 [((BitVec.ofInt 16 1), (BitVec.ofInt 16 2))] r3 hr3), fun _ => ⟨.refl _, (VLe.of (RL.lst (enc := eWW) [((BitVec.ofInt 16 1), (BitVec.ofInt 16 2))] rfl rfl (fun _ => rfl))), trivial⟩, .inr ⟨rfl, trivial⟩⟩, ob12, trivial⟩, ob13, ⟨ob14, ob15, trivial⟩, ⟨ob16, ob17, trivial⟩, ⟨ob18, ob19, trivial⟩, ⟨ob20, ob21, trivial⟩, ⟨⟨fun hc => (f16_ok (([((BitVec.ofInt 16 1), (BitVec.ofInt 16 6))].getD 0 (default : BitVec 16 × BitVec 16)).1) (([((BitVec.ofInt 16 1), (BitVec.ofInt 16 6))].getD 0 (default : BitVec 16 × BitVec 16)).2) (([((BitVec.ofInt 16 3), (BitVec.ofInt 16 0))].getD 0 (default : BitVec 16 × BitVec 16)).1) (([((BitVec.ofInt 16 3), (BitVec.ofInt 16 0))].getD 0 (default : BitVec 16 × BitVec 16)).2) r4 (hr4 hc)), fun _ => ⟨.refl _, .refl _, trivial⟩, .inl rfl⟩, ob22, ob23, trivial⟩, ⟨ob24, trivial⟩, ob25, ⟨⟨fun hc => (f35_ok r2.2 r5 (hr5 hc)), fun _ => ⟨.refl _, trivial⟩, .inr ⟨rfl, trivial⟩⟩, ob26, trivial⟩, ⟨ob27, trivial⟩, ob28, (congrArg (fun x => ((.bool x) : V)) hg4_39), ⟨ob29, ob30, ob31, trivial⟩, ⟨fun _ => (Spec1.ren (swapN 3000 6002) (swapN_inv 3000 6002) rfl (f38_ok ([((BitVec.ofInt 16 1), (BitVec.ofInt 16 6))] ++ [((BitVec.ofInt 16 3), (BitVec.ofInt 16 0))]) r6 hr6)), fun _ => ⟨(VLe.of (RL.app (RL.self _) (RL.self _))), trivial⟩, .inr ⟨rfl, ⟨(fun _ _ _ _ => eW_flat _ _), trivial⟩⟩⟩, ⟨fun _ => (f37_ok r6 [(BitVec.ofInt 16 3)] r7 hr7), fun _ => ⟨.refl _, (VLe.of (RL.lst (enc := eW) [(BitVec.ofInt 16 3)] rfl rfl (fun _ => rfl))), trivial⟩, .inr ⟨rfl, trivial⟩⟩, ob32, trivial⟩ ?_
      refine thenQ_normal ?_
      have hret := Option.some.inj h
      subst hret
      refine AWp.le (Le.mk (s := ⟨68, [(0, .bool r7), (1000000, .elem 32 1 T0F 0 0), (1000006, .elem 20 1 T6F 0 0)], [], [], 0⟩) (s' := ⟨68, [(0, .bool r7)], [], [], 0⟩) rfl rfl ⟨.refl _, trivial⟩ trivial) ?_
      refine AWp.ret ?_
      exact bodyQ_ret _ rfl ⟨rfl, rfl⟩ rfl
    ·
      replace h := ite_f hg4_39 h
      have ob0 : ((r1.2 == (0 : Int)) == true) = true → ((r1.2 == (0 : Int)) == true) = true := fun h => h
      have ob1 : true = true → (r1.2 == (0 : Int)) = true → ((r1.2 == (0 : Int)) == true) = true := fun _ h => beq_iff_eq.2 h
      have ob2 : (((r1.2 == (0 : Int)) && (r2.1 == (0 : Int))) == true) = true → (((r1.2 == (0 : Int)) && (r2.1 == (0 : Int))) == true) = true := fun h => h
      have ob3 : (((r1.2 == (0 : Int)) && (r2.1 == (0 : Int))) == true) = true → (((r1.2 == (0 : Int)) && (r2.1 == (0 : Int))) == true) = true := fun h => h
      have ob4 : true = true → ((r1.2 == (0 : Int)) && (r2.1 == (0 : Int))) = true → (((r1.2 == (0 : Int)) && (r2.1 == (0 : Int))) == true) = true := fun _ h => beq_iff_eq.2 h
      obtain ⟨ob5, h⟩ := chk_some h
      have ob6 : ((((r1.2 == (0 : Int)) && (r2.1 == (0 : Int))) && ((((r1.1).length : Nat) : Int) == (6 : Int))) == true) = true → ((((r1.2 == (0 : Int)) && (r2.1 == (0 : Int))) && ((((r1.1).length : Nat) : Int) == (6 : Int))) == true) = true := fun h => h
      have ob7 : ((((r1.2 == (0 : Int)) && (r2.1 == (0 : Int))) && ((((r1.1).length : Nat) : Int) == (6 : Int))) == true) = true → ((((r1.2 == (0 : Int)) && (r2.1 == (0 : Int))) && ((((r1.1).length : Nat) : Int) == (6 : Int))) == true) = true := fun h => h
      have ob8 : ((((r1.2 == (0 : Int)) && (r2.1 == (0 : Int))) && ((((r1.1).length : Nat) : Int) == (6 : Int))) == true) = true → ((((r1.2 == (0 : Int)) && (r2.1 == (0 : Int))) && ((((r1.1).length : Nat) : Int) == (6 : Int))) == true) = true := fun h => h
      have ob9 : ((((r1.2 == (0 : Int)) && (r2.1 == (0 : Int))) && ((((r1.1).length : Nat) : Int) == (6 : Int))) == true) = true → ((((r1.2 == (0 : Int)) && (r2.1 == (0 : Int))) && ((((r1.1).length : Nat) : Int) == (6 : Int))) == true) = true := fun h => h
      have ob10 : true = true → (((r1.2 == (0 : Int)) && (r2.1 == (0 : Int))) && ((((r1.1).length : Nat) : Int) == (6 : Int))) = true → ((((r1.2 == (0 : Int)) && (r2.1 == (0 : Int))) && ((((r1.1).length : Nat) : Int) == (6 : Int))) == true) = true := fun _ h => beq_iff_eq.2 h
      have ob11 : true = true → true = true := fun h => h
      have ob12 : true = true → true = true := fun h => h
      have ob13 : true = true → true = true → true = true := fun _ h => h
      obtain ⟨ob14, h⟩ := chk_some h
      have ob15 : (r3 == true) = true → (r3 == true) = true := fun h => h
      obtain ⟨ob16, h⟩ := chk_some h
      have ob17 : (r3 == true) = true → (r3 == true) = true := fun h => h
      obtain ⟨ob18, h⟩ := chk_some h
      have ob19 : (r3 == true) = true → (r3 == true) = true := fun h => h
      obtain ⟨ob20, h⟩ := chk_some h
      have ob21 : (r3 == true) = true → (r3 == true) = true := fun h => h
      have ob22 : (r3 == true) = true → (r3 == true) = true := fun h => h
      have ob23 : (r3 == true) = true → (r3 == true) = true := fun h => h
      have ob24 : (r3 == true) = true → (r3 == true) = true := fun h => h
      have ob25 : true = true → r3 = true → (r3 == true) = true := fun _ h => beq_iff_eq.2 h
      have ob26 : ((r3 && (!r4)) == true) = true → ((r3 && (!r4)) == true) = true := fun h => h
      have ob27 : ((r3 && (!r4)) == true) = true → ((r3 && (!r4)) == true) = true := fun h => h
      have ob28 : true = true → (r3 && (!r4)) = true → ((r3 && (!r4)) == true) = true := fun _ h => beq_iff_eq.2 h
      have ob29 : false = true → false = true := fun h => h
      have ob30 : false = true → false = true := fun h => h
      have ob31 : false = true → false = true := fun h => h
      have ob32 : true = true → false = true → false = true := fun _ h => h
      refine AWp.regC [] [(18, ⟨[], [], [], [], (.bool true), [], [0], []⟩), (22, ⟨[vL 2 eWW (default : BitVec 16 × BitVec 16) r2.2, vL 2 eWW (default : BitVec 16 × BitVec 16) [((BitVec.ofInt 16 1), (BitVec.ofInt 16 2))]], [], [], [], .bool r3, [], [6001, 42], []⟩), (31, ⟨[.agg [.b16 ([((BitVec.ofInt 16 1), (BitVec.ofInt 16 6))].getD 0 (default : BitVec 16 × BitVec 16)).1, .b16 ([((BitVec.ofInt 16 1), (BitVec.ofInt 16 6))].getD 0 (default : BitVec 16 × BitVec 16)).2], .agg [.b16 ([((BitVec.ofInt 16 3), (BitVec.ofInt 16 0))].getD 0 (default : BitVec 16 × BitVec 16)).1, .b16 ([((BitVec.ofInt 16 3), (BitVec.ofInt 16 0))].getD 0 (default : BitVec 16 × BitVec 16)).2]], [], [], [], .bool r4, [], [], []⟩), (36, ⟨[vL 2 eWW (default : BitVec 16 × BitVec 16) r2.2], [], [], [], .str r5, [], [6001], [0, 6]⟩), (39, ⟨[], [], [], [], (.bool false), [], [0], []⟩), (43, ⟨[], [], [], [], .any, [], [], []⟩), (45, ⟨[], [], [], [], .bool false, [], [], []⟩)] [0, 1000000, 1000006] [] ⟨68, [(0, .bool false), (1000000, .elem 32 1 T0F 0 0), (1000006, .elem 20 1 T6F 0 0)], [], [], 0⟩ (((((r1.2 == (0 : Int)) == true) = true → ((r1.2 == (0 : Int)) == true) = true) ∧ True) ∧ (true = true → (r1.2 == (0 : Int)) = true → ((r1.2 == (0 : Int)) == true) = true) ∧ (((((r1.2 == (0 : Int)) && (r2.1 == (0 : Int))) == true) = true → (((r1.2 == (0 : Int)) && (r2.1 == (0 : Int))) == true) = true) ∧ True) ∧ (((((r1.2 == (0 : Int)) && (r2.1 == (0 : Int))) == true) = true → (((r1.2 == (0 : Int)) && (r2.1 == (0 : Int))) == true) = true) ∧ True) ∧ (true = true → ((r1.2 == (0 : Int)) && (r2.1 == (0 : Int))) = true → (((r1.2 == (0 : Int)) && (r2.1 == (0 : Int))) == true) = true) ∧ ((((((r1.2 == (0 : Int)) && (r2.1 == (0 : Int))) && ((((r1.1).length : Nat) : Int) == (6 : Int))) == true) = true → 0 ≤ (1 : Int) ∧ (1 : Int) < (((r1.1).length : Nat) : Int)) ∧ (((((r1.2 == (0 : Int)) && (r2.1 == (0 : Int))) && ((((r1.1).length : Nat) : Int) == (6 : Int))) == true) = true → ((((r1.2 == (0 : Int)) && (r2.1 == (0 : Int))) && ((((r1.1).length : Nat) : Int) == (6 : Int))) == true) = true) ∧ True) ∧ ((((((r1.2 == (0 : Int)) && (r2.1 == (0 : Int))) && ((((r1.1).length : Nat) : Int) == (6 : Int))) == true) = true → ((((r1.2 == (0 : Int)) && (r2.1 == (0 : Int))) && ((((r1.1).length : Nat) : Int) == (6 : Int))) == true) = true) ∧ True) ∧ ((((((r1.2 == (0 : Int)) && (r2.1 == (0 : Int))) && ((((r1.1).length : Nat) : Int) == (6 : Int))) == true) = true → ((((r1.2 == (0 : Int)) && (r2.1 == (0 : Int))) && ((((r1.1).length : Nat) : Int) == (6 : Int))) == true) = true) ∧ (((((r1.2 == (0 : Int)) && (r2.1 == (0 : Int))) && ((((r1.1).length : Nat) : Int) == (6 : Int))) == true) = true → ((((r1.2 == (0 : Int)) && (r2.1 == (0 : Int))) && ((((r1.1).length : Nat) : Int) == (6 : Int))) == true) = true) ∧ True) ∧ (true = true → (((r1.2 == (0 : Int)) && (r2.1 == (0 : Int))) && ((((r1.1).length : Nat) : Int) == (6 : Int))) = true → ((((r1.2 == (0 : Int)) && (r2.1 == (0 : Int))) && ((((r1.1).length : Nat) : Int) == (6 : Int))) == true) = true) ∧ (((.bool ((((r1.2 == (0 : Int)) && (r2.1 == (0 : Int))) && ((((r1.1).length : Nat) : Int) == (6 : Int))) && ((((r1.1.getD 1 (default : BitVec 16 × BitVec 16)).1) == (BitVec.ofInt 16 1)) && ((((r1.1.getD 1 (default : BitVec 16 × BitVec 16)).2) == (BitVec.ofInt 16 4)) && true)))) : V) = (.bool true)) ∧ ((true = true → true = true) ∧ True) ∧ ((callP Tryz.prog true 22 [] [] [] [(6001, bL 30 2 eWW (default : BitVec 16 × BitVec 16) r2.2), (42, .rows 30 2 1 (lstF 2 [.b16 (BitVec.ofInt 16 1), .b16 (BitVec.ofInt 16 2)]))] [6001, 42] [.own 6001, .own 42] [vL 2 eWW (default : BitVec 16 × BitVec 16) r2.2, vL 2 eWW (default : BitVec 16 × BitVec 16) [((BitVec.ofInt 16 1), (BitVec.ofInt 16 2))]] (.bool r3) []) ∧ (true = true → true = true) ∧ True) ∧ (true = true → true = true → true = true) ∧ (((r3 == true) = true → 0 ≤ (0 : Int) ∧ (0 : Int) < ((([((BitVec.ofInt 16 1), (BitVec.ofInt 16 6))]).length : Nat) : Int)) ∧ ((r3 == true) = true → (r3 == true) = true) ∧ True) ∧ (((r3 == true) = true → 0 < ([((BitVec.ofInt 16 1), (BitVec.ofInt 16 6))]).length) ∧ ((r3 == true) = true → (r3 == true) = true) ∧ True) ∧ (((r3 == true) = true → 0 ≤ (0 : Int) ∧ (0 : Int) < ((([((BitVec.ofInt 16 3), (BitVec.ofInt 16 0))]).length : Nat) : Int)) ∧ ((r3 == true) = true → (r3 == true) = true) ∧ True) ∧ (((r3 == true) = true → 0 < ([((BitVec.ofInt 16 3), (BitVec.ofInt 16 0))]).length) ∧ ((r3 == true) = true → (r3 == true) = true) ∧ True) ∧ ((callP Tryz.prog (r3 == true) 16 [] [] [] [] [] [.agg [.b16 ([((BitVec.ofInt 16 1), (BitVec.ofInt 16 6))].getD 0 (default : BitVec 16 × BitVec 16)).1, .b16 ([((BitVec.ofInt 16 1), (BitVec.ofInt 16 6))].getD 0 (default : BitVec 16 × BitVec 16)).2], .agg [.b16 ([((BitVec.ofInt 16 3), (BitVec.ofInt 16 0))].getD 0 (default : BitVec 16 × BitVec 16)).1, .b16 ([((BitVec.ofInt 16 3), (BitVec.ofInt 16 0))].getD 0 (default : BitVec 16 × BitVec 16)).2]] [.agg [.b16 ([((BitVec.ofInt 16 1), (BitVec.ofInt 16 6))].getD 0 (default : BitVec 16 × BitVec 16)).1, .b16 ([((BitVec.ofInt 16 1), (BitVec.ofInt 16 6))].getD 0 (default : BitVec 16 × BitVec 16)).2], .agg [.b16 ([((BitVec.ofInt 16 3), (BitVec.ofInt 16 0))].getD 0 (default : BitVec 16 × BitVec 16)).1, .b16 ([((BitVec.ofInt 16 3), (BitVec.ofInt 16 0))].getD 0 (default : BitVec 16 × BitVec 16)).2]] (.bool r4) []) ∧ ((r3 == true) = true → (r3 == true) = true) ∧ ((r3 == true) = true → (r3 == true) = true) ∧ True) ∧ (((r3 == true) = true → (r3 == true) = true) ∧ True) ∧ (true = true → r3 = true → (r3 == true) = true) ∧ ((callP Tryz.prog ((r3 && (!r4)) == true) 35 [(0, .elem 32 1 T0F 0 0), (6, .elem 20 1 T6F 0 0)] [] [] [(6001, bL 30 2 eWW (default : BitVec 16 × BitVec 16) r2.2)] [6001] [.own 6001] [vL 2 eWW (default : BitVec 16 × BitVec 16) r2.2] (.str r5) []) ∧ (((r3 && (!r4)) == true) = true → ((r3 && (!r4)) == true) = true) ∧ True) ∧ ((((r3 && (!r4)) == true) = true → ((r3 && (!r4)) == true) = true) ∧ True) ∧ (true = true → (r3 && (!r4)) = true → ((r3 && (!r4)) == true) = true) ∧ (((.bool ((r3 && (!r4)) && (r5 == cs5))) : V) = (.bool false)) ∧ ((callP Tryz.prog false 38 [] [] [] [] [] [.bool false] [] (.any) []) ∧ (false = true → false = true) ∧ True) ∧ ((callP Tryz.prog false 37 [] [] [] [] [] [.any, .bool false] [] (.bool false) []) ∧ (false = true → false = true) ∧ (false = true → false = true) ∧ True) ∧ (true = true → false = true → false = true) ∧ True) Tryz_mixed (by kernel_rfl) ⟨⟨ob0, trivial⟩, ob1, ⟨ob2, trivial⟩, ⟨ob3, trivial⟩, ob4, ⟨ob5, ob6, trivial⟩, ⟨ob7, trivial⟩, ⟨ob8, ob9, trivial⟩, ob10, (congrArg (fun x => ((.bool x) : V)) hg4_18), ⟨ob11, trivial⟩, ⟨⟨fun _ => (f22_ok r2.2 [((BitVec.ofInt 16 1), (BitVec.ofInt 16 2))] r3 hr3), fun _ => ⟨.refl _, (VLe.of (RL.lst (enc := eWW) [((BitVec.ofInt 16 1), (BitVec.ofInt 16 2))] rfl rfl (fun _ => rfl))), trivial⟩, .inr ⟨rfl, trivial⟩⟩, ob12, trivial⟩, ob13, ⟨ob14, ob15, trivial⟩, ⟨ob16, ob17, trivial⟩, ⟨ob18, ob19, trivial⟩, ⟨ob20, ob21, trivial⟩, ⟨⟨fun hc => (f16_ok (([((BitVec.ofInt 16 1), (BitVec.ofInt 16 6))].getD 0 (default : BitVec 16 × BitVec 16)).1) (([((BitVec.ofInt 16 1), (BitVec.ofInt 16 6))].getD 0 (default : BitVec 16 × BitVec 16)).2) (([((BitVec.ofInt 16 3), (BitVec.ofInt 16 0))].getD 0 (default : BitVec 16 × BitVec 16)).1) (([((BitVec.ofInt 16 3), (BitVec.ofInt 16 0))].getD 0 (default : BitVec 16 × BitVec 16)).2) r4 (hr4 hc)), fun _ => ⟨.refl _, .refl _, trivial⟩, .inl rfl⟩, ob22, ob23, trivial⟩, ⟨ob24, trivial⟩, ob25, ⟨⟨fun hc => (f35_ok r2.2 r5 (hr5 hc)), fun _ => ⟨.refl _, trivial⟩, .inr ⟨rfl, trivial⟩⟩, ob26, trivial⟩, ⟨ob27, trivial⟩, ob28, (congrArg (fun x => ((.bool x) : V)) (Bool.eq_false_iff.2 hg4_39)), ⟨⟨nofun, nofun, .inl rfl⟩, ob29, trivial⟩, ⟨⟨nofun, nofun, .inl rfl⟩, ob30, ob31, trivial⟩, ob32, trivial⟩ ?_
      refine thenQ_normal ?_
      have hret := Option.some.inj h
      subst hret
      refine AWp.le (Le.mk (s := ⟨68, [(0, .bool false), (1000000, .elem 32 1 T0F 0 0), (1000006, .elem 20 1 T6F 0 0)], [], [], 0⟩) (s' := ⟨68, [(0, .bool false)], [], [], 0⟩) rfl rfl ⟨.refl _, trivial⟩ trivial) ?_
      refine AWp.ret ?_
      exact bodyQ_ret _ rfl ⟨rfl, rfl⟩ rfl
  ·
    replace h := ite_f hg4_18 h
    have ob0 : ((r1.2 == (0 : Int)) == true) = true → ((r1.2 == (0 : Int)) == true) = true := fun h => h
    have ob1 : true = true → (r1.2 == (0 : Int)) = true → ((r1.2 == (0 : Int)) == true) = true := fun _ h => beq_iff_eq.2 h
    have ob2 : (((r1.2 == (0 : Int)) && (r2.1 == (0 : Int))) == true) = true → (((r1.2 == (0 : Int)) && (r2.1 == (0 : Int))) == true) = true := fun h => h
    have ob3 : (((r1.2 == (0 : Int)) && (r2.1 == (0 : Int))) == true) = true → (((r1.2 == (0 : Int)) && (r2.1 == (0 : Int))) == true) = true := fun h => h
    have ob4 : true = true → ((r1.2 == (0 : Int)) && (r2.1 == (0 : Int))) = true → (((r1.2 == (0 : Int)) && (r2.1 == (0 : Int))) == true) = true := fun _ h => beq_iff_eq.2 h
    obtain ⟨ob5, h⟩ := chk_some h
    have ob6 : ((((r1.2 == (0 : Int)) && (r2.1 == (0 : Int))) && ((((r1.1).length : Nat) : Int) == (6 : Int))) == true) = true → ((((r1.2 == (0 : Int)) && (r2.1 == (0 : Int))) && ((((r1.1).length : Nat) : Int) == (6 : Int))) == true) = true := fun h => h
    have ob7 : ((((r1.2 == (0 : Int)) && (r2.1 == (0 : Int))) && ((((r1.1).length : Nat) : Int) == (6 : Int))) == true) = true → ((((r1.2 == (0 : Int)) && (r2.1 == (0 : Int))) && ((((r1.1).length : Nat) : Int) == (6 : Int))) == true) = true := fun h => h
    have ob8 : ((((r1.2 == (0 : Int)) && (r2.1 == (0 : Int))) && ((((r1.1).length : Nat) : Int) == (6 : Int))) == true) = true → ((((r1.2 == (0 : Int)) && (r2.1 == (0 : Int))) && ((((r1.1).length : Nat) : Int) == (6 : Int))) == true) = true := fun h => h
    have ob9 : ((((r1.2 == (0 : Int)) && (r2.1 == (0 : Int))) && ((((r1.1).length : Nat) : Int) == (6 : Int))) == true) = true → ((((r1.2 == (0 : Int)) && (r2.1 == (0 : Int))) && ((((r1.1).length : Nat) : Int) == (6 : Int))) == true) = true := fun h => h
    have ob10 : true = true → (((r1.2 == (0 : Int)) && (r2.1 == (0 : Int))) && ((((r1.1).length : Nat) : Int) == (6 : Int))) = true → ((((r1.2 == (0 : Int)) && (r2.1 == (0 : Int))) && ((((r1.1).length : Nat) : Int) == (6 : Int))) == true) = true := fun _ h => beq_iff_eq.2 h
    have ob11 : false = true → false = true := fun h => h
    have ob12 : false = true → false = true := fun h => h
    have ob13 : true = true → false = true → false = true := fun _ h => h
    obtain ⟨ob14, h⟩ := chk_some h
    have ob15 : false = true → false = true := fun h => h
    obtain ⟨ob16, h⟩ := chk_some h
    have ob17 : false = true → false = true := fun h => h
    obtain ⟨ob18, h⟩ := chk_some h
    have ob19 : false = true → false = true := fun h => h
    obtain ⟨ob20, h⟩ := chk_some h
    have ob21 : false = true → false = true := fun h => h
    have ob22 : false = true → false = true := fun h => h
    have ob23 : false = true → false = true := fun h => h
    have ob24 : false = true → false = true := fun h => h
    have ob25 : true = true → false = true → false = true := fun _ h => h
    have ob26 : false = true → false = true := fun h => h
    have ob27 : true = true → false = true → false = true := fun _ h => h
    have ob28 : false = true → false = true := fun h => h
    have ob29 : false = true → false = true := fun h => h
    have ob30 : false = true → false = true := fun h => h
    have ob31 : true = true → false = true → false = true := fun _ h => h
    refine AWp.regC [] [(18, ⟨[], [], [], [], (.bool false), [], [0], []⟩), (22, ⟨[], [], [], [], .bool false, [], [], []⟩), (31, ⟨[], [], [], [], .bool false, [], [], []⟩), (36, ⟨[], [], [], [], .any, [], [], []⟩), (43, ⟨[], [], [], [], .any, [], [], []⟩), (45, ⟨[], [], [], [], .bool false, [], [], []⟩)] [0, 1000000, 1000006] [] ⟨68, [(0, .bool false), (1000000, .elem 32 1 T0F 0 0), (1000006, .elem 20 1 T6F 0 0)], [], [], 0⟩ (((((r1.2 == (0 : Int)) == true) = true → ((r1.2 == (0 : Int)) == true) = true) ∧ True) ∧ (true = true → (r1.2 == (0 : Int)) = true → ((r1.2 == (0 : Int)) == true) = true) ∧ (((((r1.2 == (0 : Int)) && (r2.1 == (0 : Int))) == true) = true → (((r1.2 == (0 : Int)) && (r2.1 == (0 : Int))) == true) = true) ∧ True) ∧ (((((r1.2 == (0 : Int)) && (r2.1 == (0 : Int))) == true) = true → (((r1.2 == (0 : Int)) && (r2.1 == (0 : Int))) == true) = true) ∧ True) ∧ (true = true → ((r1.2 == (0 : Int)) && (r2.1 == (0 : Int))) = true → (((r1.2 == (0 : Int)) && (r2.1 == (0 : Int))) == true) = true) ∧ ((((((r1.2 == (0 : Int)) && (r2.1 == (0 : Int))) && ((((r1.1).length : Nat) : Int) == (6 : Int))) == true) = true → 0 ≤ (1 : Int) ∧ (1 : Int) < (((r1.1).length : Nat) : Int)) ∧ (((((r1.2 == (0 : Int)) && (r2.1 == (0 : Int))) && ((((r1.1).length : Nat) : Int) == (6 : Int))) == true) = true → ((((r1.2 == (0 : Int)) && (r2.1 == (0 : Int))) && ((((r1.1).length : Nat) : Int) == (6 : Int))) == true) = true) ∧ True) ∧ ((((((r1.2 == (0 : Int)) && (r2.1 == (0 : Int))) && ((((r1.1).length : Nat) : Int) == (6 : Int))) == true) = true → ((((r1.2 == (0 : Int)) && (r2.1 == (0 : Int))) && ((((r1.1).length : Nat) : Int) == (6 : Int))) == true) = true) ∧ True) ∧ ((((((r1.2 == (0 : Int)) && (r2.1 == (0 : Int))) && ((((r1.1).length : Nat) : Int) == (6 : Int))) == true) = true → ((((r1.2 == (0 : Int)) && (r2.1 == (0 : Int))) && ((((r1.1).length : Nat) : Int) == (6 : Int))) == true) = true) ∧ (((((r1.2 == (0 : Int)) && (r2.1 == (0 : Int))) && ((((r1.1).length : Nat) : Int) == (6 : Int))) == true) = true → ((((r1.2 == (0 : Int)) && (r2.1 == (0 : Int))) && ((((r1.1).length : Nat) : Int) == (6 : Int))) == true) = true) ∧ True) ∧ (true = true → (((r1.2 == (0 : Int)) && (r2.1 == (0 : Int))) && ((((r1.1).length : Nat) : Int) == (6 : Int))) = true → ((((r1.2 == (0 : Int)) && (r2.1 == (0 : Int))) && ((((r1.1).length : Nat) : Int) == (6 : Int))) == true) = true) ∧ (((.bool ((((r1.2 == (0 : Int)) && (r2.1 == (0 : Int))) && ((((r1.1).length : Nat) : Int) == (6 : Int))) && ((((r1.1.getD 1 (default : BitVec 16 × BitVec 16)).1) == (BitVec.ofInt 16 1)) && ((((r1.1.getD 1 (default : BitVec 16 × BitVec 16)).2) == (BitVec.ofInt 16 4)) && true)))) : V) = (.bool false)) ∧ ((callP Tryz.prog false 22 [] [] [] [] [] [.own 6001, .bool false] [] (.bool false) []) ∧ (false = true → false = true) ∧ (false = true → false = true) ∧ True) ∧ (true = true → false = true → false = true) ∧ ((false = true → 0 ≤ (0 : Int) ∧ (0 : Int) < ((([((BitVec.ofInt 16 1), (BitVec.ofInt 16 6))]).length : Nat) : Int)) ∧ (false = true → false = true) ∧ True) ∧ ((false = true → 0 < ([((BitVec.ofInt 16 1), (BitVec.ofInt 16 6))]).length) ∧ (false = true → false = true) ∧ True) ∧ ((false = true → 0 ≤ (0 : Int) ∧ (0 : Int) < ((([((BitVec.ofInt 16 3), (BitVec.ofInt 16 0))]).length : Nat) : Int)) ∧ (false = true → false = true) ∧ True) ∧ ((false = true → 0 < ([((BitVec.ofInt 16 3), (BitVec.ofInt 16 0))]).length) ∧ (false = true → false = true) ∧ True) ∧ ((callP Tryz.prog false 16 [] [] [] [] [] [.agg [.b16 ([((BitVec.ofInt 16 1), (BitVec.ofInt 16 6))].getD 0 (default : BitVec 16 × BitVec 16)).1, .b16 ([((BitVec.ofInt 16 1), (BitVec.ofInt 16 6))].getD 0 (default : BitVec 16 × BitVec 16)).2], .agg [.b16 ([((BitVec.ofInt 16 3), (BitVec.ofInt 16 0))].getD 0 (default : BitVec 16 × BitVec 16)).1, .b16 ([((BitVec.ofInt 16 3), (BitVec.ofInt 16 0))].getD 0 (default : BitVec 16 × BitVec 16)).2]] [] (.bool false) []) ∧ (false = true → false = true) ∧ (false = true → false = true) ∧ True) ∧ ((false = true → false = true) ∧ True) ∧ (true = true → false = true → false = true) ∧ ((callP Tryz.prog false 35 [] [] [] [] [] [.own 6001] [] (.any) []) ∧ (false = true → false = true) ∧ True) ∧ (true = true → false = true → false = true) ∧ ((callP Tryz.prog false 38 [] [] [] [] [] [.bool false] [] (.any) []) ∧ (false = true → false = true) ∧ True) ∧ ((callP Tryz.prog false 37 [] [] [] [] [] [.any, .bool false] [] (.bool false) []) ∧ (false = true → false = true) ∧ (false = true → false = true) ∧ True) ∧ (true = true → false = true → false = true) ∧ True) Tryz_mixed (by kernel_rfl) ⟨⟨ob0, trivial⟩, ob1, ⟨ob2, trivial⟩, ⟨ob3, trivial⟩, ob4, ⟨ob5, ob6, trivial⟩, ⟨ob7, trivial⟩, ⟨ob8, ob9, trivial⟩, ob10, (congrArg (fun x => ((.bool x) : V)) (Bool.eq_false_iff.2 hg4_18)), ⟨⟨nofun, nofun, .inl rfl⟩, ob11, ob12, trivial⟩, ob13, ⟨ob14, ob15, trivial⟩, ⟨ob16, ob17, trivial⟩, ⟨ob18, ob19, trivial⟩, ⟨ob20, ob21, trivial⟩, ⟨⟨nofun, nofun, .inl rfl⟩, ob22, ob23, trivial⟩, ⟨ob24, trivial⟩, ob25, ⟨⟨nofun, nofun, .inl rfl⟩, ob26, trivial⟩, ob27, ⟨⟨nofun, nofun, .inl rfl⟩, ob28, trivial⟩, ⟨⟨nofun, nofun, .inl rfl⟩, ob29, ob30, trivial⟩, ob31, trivial⟩ ?_
    refine thenQ_normal ?_
    have hret := Option.some.inj h
    subst hret
    refine AWp.le (Le.mk (s := ⟨68, [(0, .bool false), (1000000, .elem 32 1 T0F 0 0), (1000006, .elem 20 1 T6F 0 0)], [], [], 0⟩) (s' := ⟨68, [(0, .bool false)], [], [], 0⟩) rfl rfl ⟨.refl _, trivial⟩ trivial) ?_
    refine AWp.ret ?_
    exact bodyQ_ret _ rfl ⟨rfl, rfl⟩ rfl
def f23 (x1 : BitVec 16) (x2 : BitVec 16) : Option (BitVec 16) :=
  some (x1 ||| x2)
set_option maxRecDepth 100000 in
theorem f23_ok  (x1 : BitVec 16) (x2 : BitVec 16) (r : BitVec 16) (h : f23 x1 x2 = some r)  : Spec1 Tryz.prog 23 [] [] [] [.agg [.b16 x1, .b16 x2]] (.b16 r) [] := by
  unfold f23 at h
  refine Spec1.body 0 _ _ Tryz.func23 rfl Tryz.ntmps23 rfl rfl ?_
  refine AWp.seq ?_
  refine AWp.regC [] [] [1] [1] ⟨8, [(1, .ptr 1 0)], [(1, .cells 30 [.b16 x1, .b16 x2])], [], 0⟩ (True) Tryz_mixed (by kernel_rfl) trivial ?_
  refine thenQ_normal ?_
  refine AWp.seq ?_
  refine AWp.regC [] [] [2] [] ⟨8, [(2, .b16 (x1 ||| x2))], [], [], 0⟩ (True) Tryz_mixed (by kernel_rfl) trivial ?_
  refine thenQ_normal ?_
  have hret := Option.some.inj h
  subst hret
  refine AWp.le (Le.mk (s := ⟨8, [(2, .b16 (x1 ||| x2))], [], [], 0⟩) (s' := ⟨8, [(2, .b16 (x1 ||| x2))], [], [], 0⟩) rfl rfl ⟨.refl _, trivial⟩ trivial) ?_
  refine AWp.ret ?_
  exact bodyQ_ret _ rfl ⟨rfl, rfl⟩ rfl
def f44 (x1 : BitVec 16) (x2 : BitVec 16) : Option Int :=
  (f23 x1 x2).bind fun (r3 : BitVec 16) =>
  if (decide (r3.toNat ≥ (BitVec.ofInt 16 4096).toNat)) then (
  some (7 : Int)
  ) else (
  if (!((x1 &&& x2) == (BitVec.ofInt 16 0))) then (
  some (1 : Int)
  ) else (
  some (0 : Int)
  )
  )
def f47 (x1 : BitVec 16) (x2 : BitVec 16) : Option Bool :=
  some ((x1 &&& ~~~x2) == (BitVec.ofInt 16 0))
set_option maxRecDepth 100000 in
theorem f47_ok  (x1 : BitVec 16) (x2 : BitVec 16) (r : Bool) (h : f47 x1 x2 = some r)  : Spec1 Tryz.prog 47 [] [] [] [.b16 x1, .b16 x2] (.bool r) [] := by
  unfold f47 at h
  refine Spec1.body 0 _ _ Tryz.func47 rfl Tryz.ntmps47 rfl rfl ?_
  refine AWp.seq ?_
  refine AWp.regC [] [] [0, 1] [] ⟨9, [(0, .b16 x1), (1, .b16 x2)], [], [], 0⟩ (True) Tryz_mixed (by kernel_rfl) trivial ?_
  refine thenQ_normal ?_
  refine AWp.seq ?_
  refine AWp.regC [] [] [4] [] ⟨9, [(4, .bool ((x1 &&& ~~~x2) == (BitVec.ofInt 16 0)))], [], [], 0⟩ (True) Tryz_mixed (by kernel_rfl) trivial ?_
  refine thenQ_normal ?_
  have hret := Option.some.inj h
  subst hret
  refine AWp.le (Le.mk (s := ⟨9, [(4, .bool ((x1 &&& ~~~x2) == (BitVec.ofInt 16 0)))], [], [], 0⟩) (s' := ⟨9, [(4, .bool ((x1 &&& ~~~x2) == (BitVec.ofInt 16 0)))], [], [], 0⟩) rfl rfl ⟨.refl _, trivial⟩ trivial) ?_
  refine AWp.ret ?_
  exact bodyQ_ret _ rfl ⟨rfl, rfl⟩ rfl
def f17 (x1 : BitVec 16) (x2 : BitVec 16) (x3 : BitVec 16) (x4 : BitVec 16) : Option Bool :=
  (f47 x3 x1).bind fun (r5 : Bool) =>
  optc (r5 == true) (f23 x3 x4) fun (r6 : BitVec 16) =>
  optc (r5 == true) (f23 x1 x2) fun (r7 : BitVec 16) =>
  optc (r5 == true) (f47 r6 r7) fun (r8 : Bool) =>
  some (r5 && r8)
set_option maxRecDepth 100000 in
theorem f17_ok  (x1 : BitVec 16) (x2 : BitVec 16) (x3 : BitVec 16) (x4 : BitVec 16) (r : Bool) (h : f17 x1 x2 x3 x4 = some r)  : Spec1 Tryz.prog 17 [] [] [] [.agg [.b16 x1, .b16 x2], .agg [.b16 x3, .b16 x4]] (.bool r) [] := by
  unfold f17 at h
  refine Spec1.body 0 _ _ Tryz.func17 rfl Tryz.ntmps17 rfl rfl ?_
  refine AWp.seq ?_
  refine AWp.regC [] [] [2, 3] [2, 3] ⟨17, [(2, .ptr 2 0), (3, .ptr 3 0)], [(2, .cells 30 [.b16 x1, .b16 x2]), (3, .cells 30 [.b16 x3, .b16 x4])], [], 0⟩ (True) Tryz_mixed (by kernel_rfl) trivial ?_
  refine thenQ_normal ?_
  refine AWp.seq ?_
  obtain ⟨r5, hr5, h⟩ := bind_ok h
  obtain ⟨r6, hr6, h⟩ := optc_some h
  obtain ⟨r7, hr7, h⟩ := optc_some h
  obtain ⟨r8, hr8, h⟩ := optc_some h
  have ob0 : (r5 == true) = true → (r5 == true) = true := fun h => h
  have ob1 : (r5 == true) = true → (r5 == true) = true := fun h => h
  have ob2 : (r5 == true) = true → (r5 == true) = true := fun h => h
  have ob3 : (r5 == true) = true → (r5 == true) = true := fun h => h
  have ob4 : true = true → r5 = true → (r5 == true) = true := fun _ h => beq_iff_eq.2 h
  refine AWp.regC [] [(4, ⟨[.b16 x3, .b16 x1], [], [], [], .bool r5, [], [], []⟩), (7, ⟨[.agg [.b16 x3, .b16 x4]], [], [], [], .b16 r6, [], [], []⟩), (9, ⟨[.agg [.b16 x1, .b16 x2]], [], [], [], .b16 r7, [], [], []⟩), (10, ⟨[.b16 r6, .b16 r7], [], [], [], .bool r8, [], [], []⟩)] [4] [] ⟨17, [(4, .bool (r5 && r8))], [], [], 0⟩ ((callP Tryz.prog true 47 [] [] [] [] [] [.b16 x3, .b16 x1] [.b16 x3, .b16 x1] (.bool r5) []) ∧ ((callP Tryz.prog (r5 == true) 23 [] [] [] [] [] [.agg [.b16 x3, .b16 x4]] [.agg [.b16 x3, .b16 x4]] (.b16 r6) []) ∧ ((r5 == true) = true → (r5 == true) = true) ∧ True) ∧ ((callP Tryz.prog (r5 == true) 23 [] [] [] [] [] [.agg [.b16 x1, .b16 x2]] [.agg [.b16 x1, .b16 x2]] (.b16 r7) []) ∧ ((r5 == true) = true → (r5 == true) = true) ∧ True) ∧ ((callP Tryz.prog (r5 == true) 47 [] [] [] [] [] [.b16 r6, .b16 r7] [.b16 r6, .b16 r7] (.bool r8) []) ∧ ((r5 == true) = true → (r5 == true) = true) ∧ ((r5 == true) = true → (r5 == true) = true) ∧ True) ∧ (true = true → r5 = true → (r5 == true) = true) ∧ True) Tryz_mixed (by kernel_rfl) ⟨⟨fun _ => (f47_ok x3 x1 r5 hr5), fun _ => ⟨.refl _, .refl _, trivial⟩, .inl rfl⟩, ⟨⟨fun hc => (f23_ok x3 x4 r6 (hr6 hc)), fun _ => ⟨.refl _, trivial⟩, .inl rfl⟩, ob0, trivial⟩, ⟨⟨fun hc => (f23_ok x1 x2 r7 (hr7 hc)), fun _ => ⟨.refl _, trivial⟩, .inl rfl⟩, ob1, trivial⟩, ⟨⟨fun hc => (f47_ok r6 r7 r8 (hr8 hc)), fun _ => ⟨.refl _, .refl _, trivial⟩, .inl rfl⟩, ob2, ob3, trivial⟩, ob4, trivial⟩ ?_
  refine thenQ_normal ?_
  have hret := Option.some.inj h
  subst hret
  refine AWp.le (Le.mk (s := ⟨17, [(4, .bool (r5 && r8))], [], [], 0⟩) (s' := ⟨17, [(4, .bool (r5 && r8))], [], [], 0⟩) rfl rfl ⟨.refl _, trivial⟩ trivial) ?_
  refine AWp.ret ?_
  exact bodyQ_ret _ rfl ⟨rfl, rfl⟩ rfl
def f78 (x1 : BitVec 16) (x2 : Int) : Option Bool :=
  chk ((((decide (x2 ≥ (0 : Int))) && (decide (x2 < (16 : Int)))) == true) = true → 0 ≤ x2) <|
  some (((decide (x2 ≥ (0 : Int))) && (decide (x2 < (16 : Int)))) && (((x1 >>> ((x2).toNat)) &&& (BitVec.ofInt 16 1)) == (BitVec.ofInt 16 1)))
def f53_L0 (x1 : BitVec 16) (K1 : (List Int) → Option (List Int)) : Nat → (Nat × List Int) → Option (List Int)
  | 0, _ => none
  | k + 1, (n2, l3) =>
    if (decide (((n2 : Nat) : Int) < (16 : Int))) then (
    jn (fun (l5 : List Int) =>
    chk ((((n2 : Nat) : Int) + (1 : Int)) ≤ 9223372036854775807) <|
    (f53_L0 x1 K1 k) ((n2 + 1), l5)
    ) fun (K2 : (List Int) → Option (List Int)) =>
    (f78 x1 ((n2 : Nat) : Int)).bind fun (r4 : Bool) =>
    if r4 then (
    chk (((l3).length + 1) * 8 ≤ 140737488355328) <|
    K2 (l3 ++ [((n2 : Nat) : Int)])
    ) else (
    K2 l3
    )
    ) else (
    K1 l3
    )
def f53 (x1 : BitVec 16) : Option (List Int) :=
  jn (fun (l6 : List Int) =>
  some l6
  ) fun (K1 : (List Int) → Option (List Int)) =>
  f53_L0 x1 K1 FUEL (0, [])
def f24 (x1 : BitVec 16) : Option Int :=
  (f53 x1).bind fun (r2 : List Int) =>
  some (((r2).length : Nat) : Int)
def f74 (x1 : BitVec 16) (x2 : BitVec 16) : Option Int :=
  if (x1 == x2) then (
  some (0 : Int)
  ) else (
  (f24 x1).bind fun (r3 : Int) =>
  (f24 x2).bind fun (r4 : Int) =>
  optc ((decide (r3 < r4)) == false) (f24 x1) fun (r5 : Int) =>
  optc ((decide (r3 < r4)) == false) (f24 x2) fun (r6 : Int) =>
  chk (((decide (r3 < r4)) == false) = true → ((decide (r3 < r4)) == false) = true → (r5 == r6) = true → (((decide (r3 < r4)) == false) && ((r5 == r6) == true)) = true) <|
  if ((decide (r3 < r4)) || ((r5 == r6) && (decide (x1.toNat < x2.toNat)))) then (
  some (-1 : Int)
  ) else (
  some (1 : Int)
  )
  )
def f45 (x1 : BitVec 16) (x2 : BitVec 16) (x3 : BitVec 16) (x4 : BitVec 16) : Option Int :=
  (f74 x1 x3).bind fun (r5 : Int) =>
  if (r5 != (0 : Int)) then (
  some r5
  ) else (
  (f74 x2 x4).bind fun (r6 : Int) =>
  some r6
  )
def f15_L1 (x1 : List (BitVec 16 × BitVec 16)) (n2 : Nat) (K2 : Unit → Option Int) : Nat → Nat → Option Int
  | 0, _ => none
  | k + 1, n4 =>
    if (decide (((n4 : Nat) : Int) < ((n2 : Nat) : Int))) then (
    (f17 ((x1.getD n2 (default : BitVec 16 × BitVec 16)).1) ((x1.getD n2 (default : BitVec 16 × BitVec 16)).2) ((x1.getD n4 (default : BitVec 16 × BitVec 16)).1) ((x1.getD n4 (default : BitVec 16 × BitVec 16)).2)).bind fun (r5 : Bool) =>
    optc (r5 == false) (f17 ((x1.getD n4 (default : BitVec 16 × BitVec 16)).1) ((x1.getD n4 (default : BitVec 16 × BitVec 16)).2) ((x1.getD n2 (default : BitVec 16 × BitVec 16)).1) ((x1.getD n2 (default : BitVec 16 × BitVec 16)).2)) fun (r6 : Bool) =>
    chk (((n2 : Nat) : Int) < (((x1).length : Nat) : Int)) <|
    chk (((n4 : Nat) : Int) < (((x1).length : Nat) : Int)) <|
    chk ((r5 == false) = true → 0 ≤ ((n4 : Nat) : Int) ∧ ((n4 : Nat) : Int) < (((x1).length : Nat) : Int)) <|
    chk ((r5 == false) = true → 0 ≤ ((n2 : Nat) : Int) ∧ ((n2 : Nat) : Int) < (((x1).length : Nat) : Int)) <|
    if (r5 || r6) then (
    some (5 : Int)
    ) else (
    chk ((((n4 : Nat) : Int) + (1 : Int)) ≤ 9223372036854775807) <|
    (f15_L1 x1 n2 K2 k) (n4 + 1)
    )
    ) else (
    K2 ()
    )
def f15_L0 (x1 : List (BitVec 16 × BitVec 16)) (K1 : Unit → Option Int) : Nat → Nat → Option Int
  | 0, _ => none
  | k + 1, n2 =>
    if (decide (((n2 : Nat) : Int) < (((x1).length : Nat) : Int))) then (
    (f44 ((x1.getD n2 (default : BitVec 16 × BitVec 16)).1) ((x1.getD n2 (default : BitVec 16 × BitVec 16)).2)).bind fun (r3 : Int) =>
    chk (((n2 : Nat) : Int) < (((x1).length : Nat) : Int)) <|
    if (r3 != (0 : Int)) then (
    some r3
    ) else (
    jn (fun (_ : Unit) =>
    optc ((decide (((n2 : Nat) : Int) > (0 : Int))) == true) (f45 ((x1.getD (((((n2 : Nat) : Int) - (1 : Int))).toNat) (default : BitVec 16 × BitVec 16)).1) ((x1.getD (((((n2 : Nat) : Int) - (1 : Int))).toNat) (default : BitVec 16 × BitVec 16)).2) ((x1.getD n2 (default : BitVec 16 × BitVec 16)).1) ((x1.getD n2 (default : BitVec 16 × BitVec 16)).2)) fun (r7 : Int) =>
    chk (((decide (((n2 : Nat) : Int) > (0 : Int))) == true) = true → -9223372036854775808 ≤ (((n2 : Nat) : Int) - (1 : Int)) ∧ (((n2 : Nat) : Int) - (1 : Int)) ≤ 9223372036854775807) <|
    chk (((decide (((n2 : Nat) : Int) > (0 : Int))) == true) = true → 0 ≤ (((n2 : Nat) : Int) - (1 : Int)) ∧ (((n2 : Nat) : Int) - (1 : Int)) < (((x1).length : Nat) : Int)) <|
    chk (((decide (((n2 : Nat) : Int) > (0 : Int))) == true) = true → 0 ≤ ((n2 : Nat) : Int) ∧ ((n2 : Nat) : Int) < (((x1).length : Nat) : Int)) <|
    if ((decide (((n2 : Nat) : Int) > (0 : Int))) && (decide (r7 ≥ (0 : Int)))) then (
    some (1 : Int)
    ) else (
    chk ((((n2 : Nat) : Int) + (1 : Int)) ≤ 9223372036854775807) <|
    (f15_L0 x1 K1 k) (n2 + 1)
    )
    ) fun (K2 : Unit → Option Int) =>
    f15_L1 x1 n2 K2 FUEL 0
    )
    ) else (
    K1 ()
    )
def f15 (x1 : List (BitVec 16 × BitVec 16)) : Option Int :=
  if ((((x1).length : Nat) : Int) == (0 : Int)) then (
  some (9 : Int)
  ) else (
  if (decide ((((x1).length : Nat) : Int) > (100 : Int))) then (
  some (3 : Int)
  ) else (
  jn (fun (_ : Unit) =>
  some (0 : Int)
  ) fun (K1 : Unit → Option Int) =>
  f15_L0 x1 K1 FUEL 0
  )
  )
def f49 (x1 : BitVec 16) (x2 : BitVec 16) (x3 : BitVec 16) (x4 : BitVec 16) : Option (Bool × BitVec 16 × BitVec 16) :=
  (f16 x1 x2 x3 x4).bind fun (r5 : Bool) =>
  some (r5, x3, x4)
set_option maxRecDepth 100000 in
theorem f49_ok  (x1 : BitVec 16) (x2 : BitVec 16) (x3 : BitVec 16) (x4 : BitVec 16) (r : Bool × BitVec 16 × BitVec 16) (h : f49 x1 x2 x3 x4 = some r)  : Spec1 Tryz.prog 49 [] [2000] [(2000, .cells 30 [.b16 x3, .b16 x4])] [.agg [.b16 x1, .b16 x2], .ptr 2000 0] (.bool r.1) [(2000, .cells 30 [.b16 r.2.1, .b16 r.2.2])] := by
  unfold f49 at h
  refine Spec1.body 0 _ _ Tryz.func49 rfl Tryz.ntmps49 rfl rfl ?_
  refine AWp.seq ?_
  refine AWp.regC [] [] [1, 2] [2, 2000] ⟨7, [(1, .ptr 2000 0), (2, .ptr 2 0)], [(2, .cells 30 [.b16 x1, .b16 x2]), (2000, .cells 30 [.b16 x3, .b16 x4])], [2000], 0⟩ (True) Tryz_mixed (by kernel_rfl) trivial ?_
  refine thenQ_normal ?_
  refine AWp.seq ?_
  obtain ⟨r5, hr5, h⟩ := bind_ok h
  refine AWp.regC [] [(2, ⟨[.agg [.b16 x1, .b16 x2], .agg [.b16 x3, .b16 x4]], [], [], [], .bool r5, [], [], []⟩)] [3] [2000] ⟨7, [(3, .bool r5)], [(2000, .cells 30 [.b16 x3, .b16 x4])], [2000], 0⟩ ((callP Tryz.prog true 16 [] [] [] [] [] [.agg [.b16 x1, .b16 x2], .agg [.b16 x3, .b16 x4]] [.agg [.b16 x1, .b16 x2], .agg [.b16 x3, .b16 x4]] (.bool r5) []) ∧ True) Tryz_mixed (by kernel_rfl) ⟨⟨fun _ => (f16_ok x1 x2 x3 x4 r5 hr5), fun _ => ⟨.refl _, .refl _, trivial⟩, .inl rfl⟩, trivial⟩ ?_
  refine thenQ_normal ?_
  have hret := Option.some.inj h
  subst hret
  refine AWp.le (Le.mk (s := ⟨7, [(3, .bool r5)], [(2000, .cells 30 [.b16 x3, .b16 x4])], [2000], 0⟩) (s' := ⟨7, [(3, .bool r5)], [(2000, .cells 30 [.b16 x3, .b16 x4])], [2000], 0⟩) rfl rfl ⟨.refl _, trivial⟩ ⟨⟨_, rfl, .refl _⟩, trivial⟩) ?_
  refine AWp.ret ?_
  exact bodyQ_ret _ rfl ⟨rfl, rfl⟩ rfl
def f75a_L0 (x1 : List (BitVec 16 × BitVec 16)) (K1 : (BitVec 16 × BitVec 16) → Option (Int × BitVec 16 × BitVec 16)) : Nat → (Nat × BitVec 16 × BitVec 16) → Option (Int × BitVec 16 × BitVec 16)
  | 0, _ => none
  | k + 1, (n4, w5, w6) =>
    if (decide (((n4 : Nat) : Int) < (((x1).length : Nat) : Int))) then (
    (f49 ((x1.getD n4 (default : BitVec 16 × BitVec 16)).1) ((x1.getD n4 (default : BitVec 16 × BitVec 16)).2) w5 w6).bind fun (r7 : Bool × BitVec 16 × BitVec 16) =>
    chk (((n4 : Nat) : Int) < (((x1).length : Nat) : Int)) <|
    if r7.1 then (
    some (((n4 : Nat) : Int), r7.2.1, r7.2.2)
    ) else (
    chk ((((n4 : Nat) : Int) + (1 : Int)) ≤ 9223372036854775807) <|
    (f75a_L0 x1 K1 k) ((n4 + 1), r7.2.1, r7.2.2)
    )
    ) else (
    K1 (w5, w6)
    )
def f75a (x1 : List (BitVec 16 × BitVec 16)) (x2 : BitVec 16) (x3 : BitVec 16) : Option (Int × BitVec 16 × BitVec 16) :=
  jn (fun ((w8, w9) : BitVec 16 × BitVec 16) =>
  some ((-1 : Int), w8, w9)
  ) fun (K1 : (BitVec 16 × BitVec 16) → Option (Int × BitVec 16 × BitVec 16)) =>
  f75a_L0 x1 K1 FUEL (0, x2, x3)
set_option maxRecDepth 100000 in
theorem f75a_ok  (x1 : List (BitVec 16 × BitVec 16)) (x2 : BitVec 16) (x3 : BitVec 16) (r : Int × BitVec 16 × BitVec 16) (h : f75a x1 x2 x3 = some r)  : Spec1 Tryz.prog 75 [] [2000] [(2000, .cells 30 [.b16 x2, .b16 x3])] [vL 2 eWW (default : BitVec 16 × BitVec 16) x1, .fn (.func 49) [.ptr 2000 0]] (.int .i64 r.1) [(2000, .cells 30 [.b16 r.2.1, .b16 r.2.2])] := by
  unfold f75a at h
  refine Spec1.body 0 _ _ Tryz.func75 rfl Tryz.ntmps75 rfl rfl ?_
  refine AWp.seq ?_
  refine AWp.regC [] [] [0, 1] [2000] ⟨19, [(0, vL 2 eWW (default : BitVec 16 × BitVec 16) x1), (1, .fn (.func 49) [.ptr 2000 0])], [(2000, .cells 30 [.b16 x2, .b16 x3])], [2000], 0⟩ (True) Tryz_mixed (by kernel_rfl) trivial ?_
  refine thenQ_normal ?_
  obtain ⟨K1, hK1, h⟩ := jn_some h
  refine AWp.join (α := BitVec 16 × BitVec 16) (fun (x : BitVec 16 × BitVec 16) => match x with | (w8, w9) => ⟨19, [], [(2000, .cells 30 [.b16 w8, .b16 w9])], [2000], 0⟩) (fun x => K1 x = some r) ?_ ?_
  ·
    refine AWp.seq ?_
    refine AWp.regC [] [] [0, 1, 7, 8] [2000] ⟨19, [(0, vL 2 eWW (default : BitVec 16 × BitVec 16) x1), (1, .fn (.func 49) [.ptr 2000 0]), (7, .int .i64 (((x1).length : Nat) : Int)), (8, .int .i64 (0 : Int))], [(2000, .cells 30 [.b16 x2, .b16 x3])], [2000], 0⟩ (True) Tryz_mixed (by kernel_rfl) trivial ?_
    refine thenQ_normal ?_
    refine AWp.block ?_
    refine AWp.loopL (α := Nat × (Nat × BitVec 16 × BitVec 16)) (fun x => match x with | (_, n4, w5, w6) => ⟨19, [(0, vL 2 eWW (default : BitVec 16 × BitVec 16) x1), (1, .fn (.func 49) [.ptr 2000 0]), (7, .int .i64 (((x1).length : Nat) : Int)), (8, .int .i64 ((n4 : Nat) : Int))], [(2000, .cells 30 [.b16 w5, .b16 w6])], [2000], 0⟩) (fun x => f75a_L0 x1 K1 x.1 x.2 = some r) (fun x => x.1) (FUEL, 0, x2, x3) (Le.mk (s := ⟨19, [(0, vL 2 eWW (default : BitVec 16 × BitVec 16) x1), (1, .fn (.func 49) [.ptr 2000 0]), (7, .int .i64 (((x1).length : Nat) : Int)), (8, .int .i64 (0 : Int))], [(2000, .cells 30 [.b16 x2, .b16 x3])], [2000], 0⟩) (s' := ⟨19, [(0, vL 2 eWW (default : BitVec 16 × BitVec 16) x1), (1, .fn (.func 49) [.ptr 2000 0]), (7, .int .i64 (((x1).length : Nat) : Int)), (8, .int .i64 (0 : Int))], [(2000, .cells 30 [.b16 x2, .b16 x3])], [2000], 0⟩) rfl rfl ⟨.refl _, .refl _, .refl _, .refl _, trivial⟩ ⟨⟨_, rfl, .refl _⟩, trivial⟩) h ?_
    rintro ⟨k0, n4, w5, w6⟩ h
    cases k0 with
    | zero => exact nomatch (show (none : Option (Int × BitVec 16 × BitVec 16)) = some r from h)
    | succ k0 =>
    obtain ⟨C0, hC0⟩ : ∃ C, C = f75a_L0 x1 K1 k0 := ⟨_, rfl⟩
    replace h := (f75a_L0.eq_2 ..).symm.trans h
    try rw [← hC0] at h
    refine AWp.seq ?_
    refine AWp.regC [] [] [0, 1, 7, 8, 9] [2000] ⟨19, [(0, vL 2 eWW (default : BitVec 16 × BitVec 16) x1), (1, .fn (.func 49) [.ptr 2000 0]), (7, .int .i64 (((x1).length : Nat) : Int)), (8, .int .i64 ((n4 : Nat) : Int)), (9, .bool (decide (((n4 : Nat) : Int) < (((x1).length : Nat) : Int))))], [(2000, .cells 30 [.b16 w5, .b16 w6])], [2000], 0⟩ (True) Tryz_mixed (by kernel_rfl) trivial ?_
    refine thenQ_normal ?_
    refine AWp.seq ?_
    refine AWp.cond (b := (decide (((n4 : Nat) : Int) < (((x1).length : Nat) : Int)))) (by kernel_rfl) (fun hc1 => ?_) (fun hc1 => ?_)
    ·
      replace h := ite_tb hc1 h
      refine AWp.skip ?_
      refine thenQ_normal ?_
      refine AWp.seq ?_
      refine AWp.block ?_
      refine AWp.seq ?_
      refine AWp.regC [] [] [0, 1, 5, 7, 8] [2000] ⟨19, [(0, vL 2 eWW (default : BitVec 16 × BitVec 16) x1), (1, .fn (.func 49) [.ptr 2000 0]), (5, .int .i64 ((n4 : Nat) : Int)), (7, .int .i64 (((x1).length : Nat) : Int)), (8, .int .i64 ((n4 : Nat) : Int))], [(2000, .cells 30 [.b16 w5, .b16 w6])], [2000], 0⟩ (True) Tryz_mixed (by kernel_rfl) trivial ?_
      refine thenQ_normal ?_
      refine AWp.seq ?_
      obtain ⟨r7, hr7, h⟩ := bind_ok h
      obtain ⟨ob0p, h⟩ := chk_some h
      have ob0 : 0 ≤ ((n4 : Nat) : Int) ∧ ((n4 : Nat) : Int) < (((x1).length : Nat) : Int) := ⟨by omega, ob0p⟩
      refine AWp.regC [] [(5, ⟨[.agg [.b16 (x1.getD n4 (default : BitVec 16 × BitVec 16)).1, .b16 (x1.getD n4 (default : BitVec 16 × BitVec 16)).2], .ptr 2000 0], [2000], [2000], [(2000, .cells 30 [.b16 r7.2.1, .b16 r7.2.2])], .bool r7.1, [], [], []⟩)] [0, 1, 5, 7, 8, 16] [2000] ⟨19, [(0, vL 2 eWW (default : BitVec 16 × BitVec 16) x1), (1, .fn (.func 49) [.ptr 2000 0]), (5, .int .i64 ((n4 : Nat) : Int)), (7, .int .i64 (((x1).length : Nat) : Int)), (8, .int .i64 ((n4 : Nat) : Int)), (16, .bool r7.1)], [(2000, .cells 30 [.b16 r7.2.1, .b16 r7.2.2])], [2000], 0⟩ ((0 ≤ ((n4 : Nat) : Int) ∧ ((n4 : Nat) : Int) < (((x1).length : Nat) : Int)) ∧ (callP Tryz.prog true 49 [] [2000] [(2000, .cells 30 [.b16 w5, .b16 w6])] [] [] [.agg [.b16 (x1.getD n4 (default : BitVec 16 × BitVec 16)).1, .b16 (x1.getD n4 (default : BitVec 16 × BitVec 16)).2], .ptr 2000 0] [.agg [.b16 (x1.getD n4 (default : BitVec 16 × BitVec 16)).1, .b16 (x1.getD n4 (default : BitVec 16 × BitVec 16)).2], .ptr 2000 0] (.bool r7.1) [(2000, .cells 30 [.b16 r7.2.1, .b16 r7.2.2])]) ∧ True) Tryz_mixed (by kernel_rfl) ⟨ob0, ⟨fun _ => (f49_ok ((x1.getD n4 (default : BitVec 16 × BitVec 16)).1) ((x1.getD n4 (default : BitVec 16 × BitVec 16)).2) w5 w6 r7 hr7), fun _ => ⟨.refl _, .refl _, trivial⟩, .inl rfl⟩, trivial⟩ ?_
      refine thenQ_normal ?_
      refine AWp.cond (b := r7.1) (by kernel_rfl) (fun hc2 => ?_) (fun hc2 => ?_)
      ·
        replace h := ite_tb hc2 h
        refine AWp.seq ?_
        refine AWp.regC [] [] [4] [2000] ⟨19, [(4, .int .i64 ((n4 : Nat) : Int))], [(2000, .cells 30 [.b16 r7.2.1, .b16 r7.2.2])], [2000], 0⟩ (True) Tryz_mixed (by kernel_rfl) trivial ?_
        refine thenQ_normal ?_
        have hret := Option.some.inj h
        subst hret
        refine AWp.le (Le.mk (s := ⟨19, [(4, .int .i64 ((n4 : Nat) : Int))], [(2000, .cells 30 [.b16 r7.2.1, .b16 r7.2.2])], [2000], 0⟩) (s' := ⟨19, [(4, .int .i64 ((n4 : Nat) : Int))], [(2000, .cells 30 [.b16 r7.2.1, .b16 r7.2.2])], [2000], 0⟩) rfl rfl ⟨.refl _, trivial⟩ ⟨⟨_, rfl, .refl _⟩, trivial⟩) ?_
        refine AWp.ret ?_
        refine blockQ_ret ?_
        refine thenQ_ret ?_
        refine thenQ_ret ?_
        refine blockQ_ret ?_
        refine joinQ_ret ?_
        exact bodyQ_ret _ rfl ⟨rfl, rfl⟩ rfl
      ·
        replace h := ite_fb hc2 h
        refine AWp.skip ?_
        refine blockQ_normal ?_
        refine thenQ_normal ?_
        obtain ⟨ob1p, h⟩ := chk_some h
        have ob1 : -9223372036854775808 ≤ (((n4 : Nat) : Int) + (1 : Int)) ∧ (((n4 : Nat) : Int) + (1 : Int)) ≤ 9223372036854775807 := ⟨by omega, ob1p⟩
        refine AWp.regC [] [] [0, 1, 7, 8] [2000] ⟨19, [(0, vL 2 eWW (default : BitVec 16 × BitVec 16) x1), (1, .fn (.func 49) [.ptr 2000 0]), (7, .int .i64 (((x1).length : Nat) : Int)), (8, .int .i64 (((n4 + 1) : Nat) : Int))], [(2000, .cells 30 [.b16 r7.2.1, .b16 r7.2.2])], [2000], 0⟩ ((-9223372036854775808 ≤ (((n4 : Nat) : Int) + (1 : Int)) ∧ (((n4 : Nat) : Int) + (1 : Int)) ≤ 9223372036854775807) ∧ True) Tryz_mixed (by kernel_rfl) ⟨ob1, trivial⟩ ?_
        rw [hC0] at h
        exact loopQ_normal (_, (n4 + 1), r7.2.1, r7.2.2) (Le.mk (s := ⟨19, [(0, vL 2 eWW (default : BitVec 16 × BitVec 16) x1), (1, .fn (.func 49) [.ptr 2000 0]), (7, .int .i64 (((x1).length : Nat) : Int)), (8, .int .i64 (((n4 + 1) : Nat) : Int))], [(2000, .cells 30 [.b16 r7.2.1, .b16 r7.2.2])], [2000], 0⟩) (s' := ⟨19, [(0, vL 2 eWW (default : BitVec 16 × BitVec 16) x1), (1, .fn (.func 49) [.ptr 2000 0]), (7, .int .i64 (((x1).length : Nat) : Int)), (8, .int .i64 (((n4 + 1) : Nat) : Int))], [(2000, .cells 30 [.b16 r7.2.1, .b16 r7.2.2])], [2000], 0⟩) rfl rfl ⟨.refl _, .refl _, .refl _, .refl _, trivial⟩ ⟨⟨_, rfl, .refl _⟩, trivial⟩) h (Nat.lt_succ_self _)
    ·
      replace h := ite_fb hc1 h
      refine AWp.exit ?_
      refine thenQ_exit ?_
      refine thenQ_exit ?_
      refine blockQ_same ?_
      exact joinQ_normal (w5, w6) (Le.mk (s := ⟨19, [(0, vL 2 eWW (default : BitVec 16 × BitVec 16) x1), (1, .fn (.func 49) [.ptr 2000 0]), (7, .int .i64 (((x1).length : Nat) : Int)), (8, .int .i64 ((n4 : Nat) : Int)), (9, .bool (decide (((n4 : Nat) : Int) < (((x1).length : Nat) : Int))))], [(2000, .cells 30 [.b16 w5, .b16 w6])], [2000], 0⟩) (s' := ⟨19, [], [(2000, .cells 30 [.b16 w5, .b16 w6])], [2000], 0⟩) rfl rfl trivial ⟨⟨_, rfl, .refl _⟩, trivial⟩) h
  ·
    rintro ⟨w8, w9⟩ h
    replace h := (congrFun hK1 _).symm.trans h
    refine AWp.seq ?_
    refine AWp.regC [] [] [4] [2000] ⟨19, [(4, .int .i64 (-1 : Int))], [(2000, .cells 30 [.b16 w8, .b16 w9])], [2000], 0⟩ (True) Tryz_mixed (by kernel_rfl) trivial ?_
    refine thenQ_normal ?_
    have hret := Option.some.inj h
    subst hret
    refine AWp.le (Le.mk (s := ⟨19, [(4, .int .i64 (-1 : Int))], [(2000, .cells 30 [.b16 w8, .b16 w9])], [2000], 0⟩) (s' := ⟨19, [(4, .int .i64 (-1 : Int))], [(2000, .cells 30 [.b16 w8, .b16 w9])], [2000], 0⟩) rfl rfl ⟨.refl _, trivial⟩ ⟨⟨_, rfl, .refl _⟩, trivial⟩) ?_
    refine AWp.ret ?_
    exact bodyQ_ret _ rfl ⟨rfl, rfl⟩ rfl
def f48a (x1 : List (BitVec 16 × BitVec 16)) (x2 : BitVec 16) (x3 : BitVec 16) : Option (Bool × BitVec 16 × BitVec 16) :=
  (f75a x1 x2 x3).bind fun (r4 : Int × BitVec 16 × BitVec 16) =>
  some ((decide (r4.1 ≥ (0 : Int))), r4.2.1, r4.2.2)
set_option maxRecDepth 100000 in
theorem f48a_ok  (x1 : List (BitVec 16 × BitVec 16)) (x2 : BitVec 16) (x3 : BitVec 16) (r : Bool × BitVec 16 × BitVec 16) (h : f48a x1 x2 x3 = some r)  : Spec1 Tryz.prog 48 [] [2000] [(2000, .cells 30 [.b16 x2, .b16 x3])] [vL 2 eWW (default : BitVec 16 × BitVec 16) x1, .fn (.func 49) [.ptr 2000 0]] (.bool r.1) [(2000, .cells 30 [.b16 r.2.1, .b16 r.2.2])] := by
  unfold f48a at h
  refine Spec1.body 0 _ _ Tryz.func48 rfl Tryz.ntmps48 rfl rfl ?_
  refine AWp.seq ?_
  refine AWp.regC [] [] [0, 1] [2000] ⟨9, [(0, vL 2 eWW (default : BitVec 16 × BitVec 16) x1), (1, .fn (.func 49) [.ptr 2000 0])], [(2000, .cells 30 [.b16 x2, .b16 x3])], [2000], 0⟩ (True) Tryz_mixed (by kernel_rfl) trivial ?_
  refine thenQ_normal ?_
  refine AWp.seq ?_
  obtain ⟨r4, hr4, h⟩ := bind_ok h
  refine AWp.regC [] [(2, ⟨[vL 2 eWW (default : BitVec 16 × BitVec 16) x1, .fn (.func 49) [.ptr 2000 0]], [2000], [2000], [(2000, .cells 30 [.b16 r4.2.1, .b16 r4.2.2])], .int .i64 r4.1, [], [], []⟩)] [4] [2000] ⟨9, [(4, .bool (decide (r4.1 ≥ (0 : Int))))], [(2000, .cells 30 [.b16 r4.2.1, .b16 r4.2.2])], [2000], 0⟩ ((callP Tryz.prog true 75 [] [2000] [(2000, .cells 30 [.b16 x2, .b16 x3])] [] [] [vL 2 eWW (default : BitVec 16 × BitVec 16) x1, .fn (.func 49) [.ptr 2000 0]] [vL 2 eWW (default : BitVec 16 × BitVec 16) x1, .fn (.func 49) [.ptr 2000 0]] (.int .i64 r4.1) [(2000, .cells 30 [.b16 r4.2.1, .b16 r4.2.2])]) ∧ True) Tryz_mixed (by kernel_rfl) ⟨⟨fun _ => (f75a_ok x1 x2 x3 r4 hr4), fun _ => ⟨.refl _, .refl _, trivial⟩, .inl rfl⟩, trivial⟩ ?_
  refine thenQ_normal ?_
  have hret := Option.some.inj h
  subst hret
  refine AWp.le (Le.mk (s := ⟨9, [(4, .bool (decide (r4.1 ≥ (0 : Int))))], [(2000, .cells 30 [.b16 r4.2.1, .b16 r4.2.2])], [2000], 0⟩) (s' := ⟨9, [(4, .bool (decide (r4.1 ≥ (0 : Int))))], [(2000, .cells 30 [.b16 r4.2.1, .b16 r4.2.2])], [2000], 0⟩) rfl rfl ⟨.refl _, trivial⟩ ⟨⟨_, rfl, .refl _⟩, trivial⟩) ?_
  refine AWp.ret ?_
  exact bodyQ_ret _ rfl ⟨rfl, rfl⟩ rfl
def f18 (x1 : List (BitVec 16 × BitVec 16)) (x2 : BitVec 16) (x3 : BitVec 16) : Option Bool :=
  (f48a x1 x2 x3).bind fun (r4 : Bool × BitVec 16 × BitVec 16) =>
  some r4.1
set_option maxRecDepth 100000 in
theorem f18_ok  (x1 : List (BitVec 16 × BitVec 16)) (x2 : BitVec 16) (x3 : BitVec 16) (r : Bool) (h : f18 x1 x2 x3 = some r)  : Spec1 Tryz.prog 18 [] [] [] [vL 2 eWW (default : BitVec 16 × BitVec 16) x1, .agg [.b16 x2, .b16 x3]] (.bool r) [] := by
  unfold f18 at h
  refine Spec1.body 0 _ _ Tryz.func18 rfl Tryz.ntmps18 rfl rfl ?_
  refine AWp.seq ?_
  refine AWp.regC [] [] [0, 3] [3] ⟨8, [(0, vL 2 eWW (default : BitVec 16 × BitVec 16) x1), (3, .ptr 3 0)], [(3, .cells 30 [.b16 x2, .b16 x3])], [], 0⟩ (True) Tryz_mixed (by kernel_rfl) trivial ?_
  refine thenQ_normal ?_
  refine AWp.seq ?_
  obtain ⟨r4, hr4, h⟩ := bind_ok h
  refine AWp.regC [] [(2, ⟨[vL 2 eWW (default : BitVec 16 × BitVec 16) x1, .fn (.func 49) [.ptr 3 0]], [3], [3], [(3, .cells 30 [.b16 r4.2.1, .b16 r4.2.2])], .bool r4.1, [], [], []⟩)] [4] [] ⟨8, [(4, .bool r4.1)], [], [], 0⟩ ((callP Tryz.prog true 48 [] [3] [(3, .cells 30 [.b16 x2, .b16 x3])] [] [] [vL 2 eWW (default : BitVec 16 × BitVec 16) x1, .fn (.func 49) [.ptr 3 0]] [vL 2 eWW (default : BitVec 16 × BitVec 16) x1, .fn (.func 49) [.ptr 3 0]] (.bool r4.1) [(3, .cells 30 [.b16 r4.2.1, .b16 r4.2.2])]) ∧ True) Tryz_mixed (by kernel_rfl) ⟨⟨fun _ => (Spec1.ren (swapN 2000 3) (swapN_inv 2000 3) rfl (f48a_ok x1 x2 x3 r4 hr4)), fun _ => ⟨.refl _, .refl _, trivial⟩, .inl rfl⟩, trivial⟩ ?_
  refine thenQ_normal ?_
  have hret := Option.some.inj h
  subst hret
  refine AWp.le (Le.mk (s := ⟨8, [(4, .bool r4.1)], [], [], 0⟩) (s' := ⟨8, [(4, .bool r4.1)], [], [], 0⟩) rfl rfl ⟨.refl _, trivial⟩ trivial) ?_
  refine AWp.ret ?_
  exact bodyQ_ret _ rfl ⟨rfl, rfl⟩ rfl
end Go.Abs
