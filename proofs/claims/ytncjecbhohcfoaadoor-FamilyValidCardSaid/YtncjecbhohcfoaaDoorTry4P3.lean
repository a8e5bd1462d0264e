import Derived.Test.YtncjecbhohcfoaaDoorTry4P2
namespace Go.Abs
open Go Go.Proofs
set_option maxHeartbeats 4000000
set_option maxRecDepth 100000 in
theorem f21_ok  (x1 : List (BitVec 16)) (x2 : List (BitVec 16)) (r : List (BitVec 16) × Int) (h : f21 x1 x2 = some r)  : Spec1 Tryd.prog 21 [] [] [] [vL 1 eW 0#16 x1, vL 1 eW 0#16 x2] (.tup [vL 1 eW 0#16 r.1, .int .i64 r.2]) [] := by
  unfold f21 at h
  refine Spec1.body 0 _ _ Tryd.func21 rfl Tryd.ntmps21 rfl rfl ?_
  refine AWp.seq ?_
  refine AWp.regC [] [] [0, 1] [] ⟨60, [(0, vL 1 eW 0#16 x1), (1, vL 1 eW 0#16 x2)], [], [], 0⟩ (True) Tryd_mixed (by kernel_rfl) trivial ?_
  refine thenQ_normal ?_
  refine AWp.seq ?_
  refine AWp.seq ?_
  obtain ⟨r3, hr3, h⟩ := bind_ok h
  refine AWp.regC [] [(2, ⟨[vL 1 eW 0#16 x1, vL 1 eW 0#16 x2], [], [], [], .int .i64 r3, [], [], []⟩)] [0, 1, 6] [] ⟨60, [(0, vL 1 eW 0#16 x1), (1, vL 1 eW 0#16 x2), (6, .int .i64 r3)], [], [], 0⟩ ((callP Tryd.prog true 48 [] [] [] [] [] [vL 1 eW 0#16 x1, vL 1 eW 0#16 x2] [vL 1 eW 0#16 x1, vL 1 eW 0#16 x2] (.int .i64 r3) []) ∧ True) Tryd_mixed (by kernel_rfl) ⟨⟨fun _ => (f48_ok x1 x2 r3 hr3), fun _ => ⟨.refl _, .refl _, trivial⟩, .inl rfl⟩, trivial⟩ ?_
  refine thenQ_normal ?_
  refine AWp.seq ?_
  refine AWp.regC [] [] [0, 1, 6, 19] [] ⟨60, [(0, vL 1 eW 0#16 x1), (1, vL 1 eW 0#16 x2), (6, .int .i64 r3), (19, .bool (r3 != (0 : Int)))], [], [], 0⟩ (True) Tryd_mixed (by kernel_rfl) trivial ?_
  refine thenQ_normal ?_
  refine AWp.cond (b := (r3 != (0 : Int))) (by kernel_rfl) (fun hc1 => ?_) (fun hc1 => ?_)
  ·
    replace h := ite_tb hc1 h
    refine AWp.seq ?_
    refine AWp.regC [] [] [4, 5] [] ⟨60, [(4, .nils), (5, .int .i64 r3)], [], [], 0⟩ (True) Tryd_mixed (by kernel_rfl) trivial ?_
    refine thenQ_normal ?_
    have hret := Option.some.inj h
    subst hret
    refine AWp.le (Le.mk (s := ⟨60, [(4, .nils), (5, .int .i64 r3)], [], [], 0⟩) (s' := ⟨60, [(4, vL 1 eW 0#16 []), (5, .int .i64 r3)], [], [], 0⟩) rfl rfl ⟨.nilL, .refl _, trivial⟩ trivial) ?_
    refine AWp.ret ?_
    refine thenQ_ret ?_
    exact bodyQ_ret _ rfl ⟨rfl, rfl⟩ rfl
  ·
    replace h := ite_fb hc1 h
    refine AWp.skip ?_
    refine thenQ_normal ?_
    refine AWp.seq ?_
    have ob0 : 0 ≤ (4096 : Int) ∧ (4096 : Int) ≤ (4096 : Int) ∧ (1 : Int) * (4096 : Int) ≤ 281474976710656 ∧ (4096 : Int) ≤ 9223372036854775807 := by first | decide | omega | simp | (intro h; cases h)
    refine AWp.regC [] [] [0, 1, 7] [21] ⟨60, [(0, vL 1 eW 0#16 x1), (1, vL 1 eW 0#16 x2), (7, .own 21)], [(21, .rows 4 1 4096 (repF [.bool false]))], [], 0⟩ ((0 ≤ (4096 : Int) ∧ (4096 : Int) ≤ (4096 : Int) ∧ (1 : Int) * (4096 : Int) ≤ 281474976710656 ∧ (4096 : Int) ≤ 9223372036854775807) ∧ True) Tryd_mixed (by kernel_rfl) ⟨ob0, trivial⟩ ?_
    refine thenQ_normal ?_
    refine AWp.le (Le.mk (s := ⟨60, [(0, vL 1 eW 0#16 x1), (1, vL 1 eW 0#16 x2), (7, .own 21)], [(21, .rows 4 1 4096 (repF [.bool false]))], [], 0⟩) (s' := ⟨60, [(0, vL 1 eW 0#16 x1), (1, vL 1 eW 0#16 x2), (7, .own 21)], [(21, bL 4 1 eB false (List.replicate 4096 false))], [], 0⟩) rfl rfl ⟨.refl _, .refl _, .refl _, trivial⟩ ⟨⟨_, rfl, (BLe.of (RL.rep false rfl))⟩, trivial⟩) ?_
    obtain ⟨K1, hK1, h⟩ := jn_some h
    refine AWp.join (α := List Bool) (fun (l9 : List Bool) => ⟨60, [(7, .own 21)], [(21, bL 4 1 eB false l9)], [], 0⟩) (fun x => K1 x = some r) ?_ ?_
    ·
      refine AWp.seq ?_
      refine AWp.regC [] [] [1, 7, 22, 23, 24] [21] ⟨60, [(1, vL 1 eW 0#16 x2), (7, .own 21), (22, vL 1 eW 0#16 x1), (23, .int .i64 (((x1).length : Nat) : Int)), (24, .int .i64 (0 : Int))], [(21, bL 4 1 eB false (List.replicate 4096 false))], [], 0⟩ (True) Tryd_mixed (by kernel_rfl) trivial ?_
      refine thenQ_normal ?_
      refine AWp.block ?_
      refine AWp.loopL (α := Nat × (Nat × List Bool)) (fun x => match x with | (_, n4, l5) => ⟨60, [(1, vL 1 eW 0#16 x2), (7, .own 21), (22, vL 1 eW 0#16 x1), (23, .int .i64 (((x1).length : Nat) : Int)), (24, .int .i64 ((n4 : Nat) : Int))], [(21, bL 4 1 eB false l5)], [], 0⟩) (fun x => f21_L0 x1 x2 K1 x.1 x.2 = some r) (fun x => x.1) (FUEL, 0, (List.replicate 4096 false)) (Le.mk (s := ⟨60, [(1, vL 1 eW 0#16 x2), (7, .own 21), (22, vL 1 eW 0#16 x1), (23, .int .i64 (((x1).length : Nat) : Int)), (24, .int .i64 (0 : Int))], [(21, bL 4 1 eB false (List.replicate 4096 false))], [], 0⟩) (s' := ⟨60, [(1, vL 1 eW 0#16 x2), (7, .own 21), (22, vL 1 eW 0#16 x1), (23, .int .i64 (((x1).length : Nat) : Int)), (24, .int .i64 (0 : Int))], [(21, bL 4 1 eB false (List.replicate 4096 false))], [], 0⟩) rfl rfl ⟨.refl _, .refl _, .refl _, .refl _, .refl _, trivial⟩ ⟨⟨_, rfl, .refl _⟩, trivial⟩) h ?_
      rintro ⟨k0, n4, l5⟩ h
      cases k0 with
      | zero => exact nomatch (show (none : Option (List (BitVec 16) × Int)) = some r from h)
      | succ k0 =>
      obtain ⟨C0, hC0⟩ : ∃ C, C = f21_L0 x1 x2 K1 k0 := ⟨_, rfl⟩
      replace h := (f21_L0.eq_2 ..).symm.trans h
      try rw [← hC0] at h
      refine AWp.seq ?_
      refine AWp.regC [] [] [1, 7, 22, 23, 24, 25] [21] ⟨60, [(1, vL 1 eW 0#16 x2), (7, .own 21), (22, vL 1 eW 0#16 x1), (23, .int .i64 (((x1).length : Nat) : Int)), (24, .int .i64 ((n4 : Nat) : Int)), (25, .bool (decide (((n4 : Nat) : Int) < (((x1).length : Nat) : Int))))], [(21, bL 4 1 eB false l5)], [], 0⟩ (True) Tryd_mixed (by kernel_rfl) trivial ?_
      refine thenQ_normal ?_
      refine AWp.seq ?_
      refine AWp.cond (b := (decide (((n4 : Nat) : Int) < (((x1).length : Nat) : Int)))) (by kernel_rfl) (fun hc2 => ?_) (fun hc2 => ?_)
      ·
        replace h := ite_tb hc2 h
        refine AWp.skip ?_
        refine thenQ_normal ?_
        obtain ⟨K2, hK2, h⟩ := jn_some h
        refine AWp.join (α := List Bool) (fun (l8 : List Bool) => ⟨60, [(1, vL 1 eW 0#16 x2), (7, .own 21), (22, vL 1 eW 0#16 x1), (23, .int .i64 (((x1).length : Nat) : Int)), (24, .int .i64 ((n4 : Nat) : Int))], [(21, bL 4 1 eB false l8)], [], 0⟩) (fun x => K2 x = some r) ?_ ?_
        ·
          refine AWp.block ?_
          refine AWp.seq ?_
          obtain ⟨ob1p, h⟩ := chk_some h
          have ob1 : 0 ≤ ((n4 : Nat) : Int) ∧ ((n4 : Nat) : Int) < (((x1).length : Nat) : Int) := ⟨by omega, ob1p⟩
          refine AWp.regC [] [] [1, 7, 9, 22, 23, 24] [21] ⟨60, [(1, vL 1 eW 0#16 x2), (7, .own 21), (9, .b16 (x1.getD n4 0#16)), (22, vL 1 eW 0#16 x1), (23, .int .i64 (((x1).length : Nat) : Int)), (24, .int .i64 ((n4 : Nat) : Int))], [(21, bL 4 1 eB false l5)], [], 0⟩ ((0 ≤ ((n4 : Nat) : Int) ∧ ((n4 : Nat) : Int) < (((x1).length : Nat) : Int)) ∧ True) Tryd_mixed (by kernel_rfl) ⟨ob1, trivial⟩ ?_
          refine thenQ_normal ?_
          refine AWp.seq ?_
          refine AWp.regC [] [] [1, 7, 9, 22, 23, 24, 28, 29, 30] [21] ⟨60, [(1, vL 1 eW 0#16 x2), (7, .own 21), (9, .b16 (x1.getD n4 0#16)), (22, vL 1 eW 0#16 x1), (23, .int .i64 (((x1).length : Nat) : Int)), (24, .int .i64 ((n4 : Nat) : Int)), (28, vL 1 eW 0#16 x2), (29, .int .i64 (((x2).length : Nat) : Int)), (30, .int .i64 (0 : Int))], [(21, bL 4 1 eB false l5)], [], 0⟩ (True) Tryd_mixed (by kernel_rfl) trivial ?_
          refine thenQ_normal ?_
          refine AWp.block ?_
          refine AWp.loopL (α := Nat × (Nat × List Bool)) (fun x => match x with | (_, n6, l7) => ⟨60, [(1, vL 1 eW 0#16 x2), (7, .own 21), (9, .b16 (x1.getD n4 0#16)), (22, vL 1 eW 0#16 x1), (23, .int .i64 (((x1).length : Nat) : Int)), (24, .int .i64 ((n4 : Nat) : Int)), (28, vL 1 eW 0#16 x2), (29, .int .i64 (((x2).length : Nat) : Int)), (30, .int .i64 ((n6 : Nat) : Int))], [(21, bL 4 1 eB false l7)], [], 0⟩) (fun x => f21_L1 x1 x2 n4 K2 x.1 x.2 = some r) (fun x => x.1) (FUEL, 0, l5) (Le.mk (s := ⟨60, [(1, vL 1 eW 0#16 x2), (7, .own 21), (9, .b16 (x1.getD n4 0#16)), (22, vL 1 eW 0#16 x1), (23, .int .i64 (((x1).length : Nat) : Int)), (24, .int .i64 ((n4 : Nat) : Int)), (28, vL 1 eW 0#16 x2), (29, .int .i64 (((x2).length : Nat) : Int)), (30, .int .i64 (0 : Int))], [(21, bL 4 1 eB false l5)], [], 0⟩) (s' := ⟨60, [(1, vL 1 eW 0#16 x2), (7, .own 21), (9, .b16 (x1.getD n4 0#16)), (22, vL 1 eW 0#16 x1), (23, .int .i64 (((x1).length : Nat) : Int)), (24, .int .i64 ((n4 : Nat) : Int)), (28, vL 1 eW 0#16 x2), (29, .int .i64 (((x2).length : Nat) : Int)), (30, .int .i64 (0 : Int))], [(21, bL 4 1 eB false l5)], [], 0⟩) rfl rfl ⟨.refl _, .refl _, .refl _, .refl _, .refl _, .refl _, .refl _, .refl _, .refl _, trivial⟩ ⟨⟨_, rfl, .refl _⟩, trivial⟩) h ?_
          rintro ⟨k1, n6, l7⟩ h
          cases k1 with
          | zero => exact nomatch (show (none : Option (List (BitVec 16) × Int)) = some r from h)
          | succ k1 =>
          obtain ⟨C1, hC1⟩ : ∃ C, C = f21_L1 x1 x2 n4 K2 k1 := ⟨_, rfl⟩
          replace h := (f21_L1.eq_2 ..).symm.trans h
          try rw [← hC1] at h
          refine AWp.seq ?_
          refine AWp.regC [] [] [1, 7, 9, 22, 23, 24, 28, 29, 30, 31] [21] ⟨60, [(1, vL 1 eW 0#16 x2), (7, .own 21), (9, .b16 (x1.getD n4 0#16)), (22, vL 1 eW 0#16 x1), (23, .int .i64 (((x1).length : Nat) : Int)), (24, .int .i64 ((n4 : Nat) : Int)), (28, vL 1 eW 0#16 x2), (29, .int .i64 (((x2).length : Nat) : Int)), (30, .int .i64 ((n6 : Nat) : Int)), (31, .bool (decide (((n6 : Nat) : Int) < (((x2).length : Nat) : Int))))], [(21, bL 4 1 eB false l7)], [], 0⟩ (True) Tryd_mixed (by kernel_rfl) trivial ?_
          refine thenQ_normal ?_
          refine AWp.seq ?_
          refine AWp.cond (b := (decide (((n6 : Nat) : Int) < (((x2).length : Nat) : Int)))) (by kernel_rfl) (fun hc3 => ?_) (fun hc3 => ?_)
          ·
            replace h := ite_tb hc3 h
            refine AWp.skip ?_
            refine thenQ_normal ?_
            refine AWp.seq ?_
            refine AWp.block ?_
            refine AWp.seq ?_
            obtain ⟨ob2p, h⟩ := chk_some h
            have ob2 : 0 ≤ ((n6 : Nat) : Int) ∧ ((n6 : Nat) : Int) < (((x2).length : Nat) : Int) := ⟨by omega, ob2p⟩
            refine AWp.regC [] [] [1, 7, 9, 11, 22, 23, 24, 28, 29, 30] [21] ⟨60, [(1, vL 1 eW 0#16 x2), (7, .own 21), (9, .b16 (x1.getD n4 0#16)), (11, .b16 (x2.getD n6 0#16)), (22, vL 1 eW 0#16 x1), (23, .int .i64 (((x1).length : Nat) : Int)), (24, .int .i64 ((n4 : Nat) : Int)), (28, vL 1 eW 0#16 x2), (29, .int .i64 (((x2).length : Nat) : Int)), (30, .int .i64 ((n6 : Nat) : Int))], [(21, bL 4 1 eB false l7)], [], 0⟩ ((0 ≤ ((n6 : Nat) : Int) ∧ ((n6 : Nat) : Int) < (((x2).length : Nat) : Int)) ∧ True) Tryd_mixed (by kernel_rfl) ⟨ob2, trivial⟩ ?_
            refine thenQ_normal ?_
            obtain ⟨ob3p, h⟩ := chk_some h
            have ob3 : 0 ≤ ((((x1.getD n4 0#16) ||| (x2.getD n6 0#16)).toNat : Nat) : Int) ∧ ((((x1.getD n4 0#16) ||| (x2.getD n6 0#16)).toNat : Nat) : Int) < (((l7).length : Nat) : Int) := ⟨by omega, ob3p⟩
            obtain ⟨ob4, h⟩ := chk_some h
            refine AWp.regC [] [] [1, 7, 9, 22, 23, 24, 28, 29, 30] [21] ⟨60, [(1, vL 1 eW 0#16 x2), (7, .own 21), (9, .b16 (x1.getD n4 0#16)), (22, vL 1 eW 0#16 x1), (23, .int .i64 (((x1).length : Nat) : Int)), (24, .int .i64 ((n4 : Nat) : Int)), (28, vL 1 eW 0#16 x2), (29, .int .i64 (((x2).length : Nat) : Int)), (30, .int .i64 ((n6 : Nat) : Int))], [(21, .rows 4 1 (l7).length (updF (encF eB false l7) (((x1.getD n4 0#16) ||| (x2.getD n6 0#16)).toNat) 0 [.bool true]))], [], 0⟩ ((0 ≤ ((((x1.getD n4 0#16) ||| (x2.getD n6 0#16)).toNat : Nat) : Int) ∧ ((((x1.getD n4 0#16) ||| (x2.getD n6 0#16)).toNat : Nat) : Int) < (((l7).length : Nat) : Int)) ∧ ((((x1.getD n4 0#16) ||| (x2.getD n6 0#16)).toNat) < (l7).length) ∧ True) Tryd_mixed (by kernel_rfl) ⟨ob3, ob4, trivial⟩ ?_
            refine blockQ_normal ?_
            refine thenQ_normal ?_
            refine AWp.le (Le.mk (s := ⟨60, [(1, vL 1 eW 0#16 x2), (7, .own 21), (9, .b16 (x1.getD n4 0#16)), (22, vL 1 eW 0#16 x1), (23, .int .i64 (((x1).length : Nat) : Int)), (24, .int .i64 ((n4 : Nat) : Int)), (28, vL 1 eW 0#16 x2), (29, .int .i64 (((x2).length : Nat) : Int)), (30, .int .i64 ((n6 : Nat) : Int))], [(21, .rows 4 1 (l7).length (updF (encF eB false l7) (((x1.getD n4 0#16) ||| (x2.getD n6 0#16)).toNat) 0 [.bool true]))], [], 0⟩) (s' := ⟨60, [(1, vL 1 eW 0#16 x2), (7, .own 21), (9, .b16 (x1.getD n4 0#16)), (22, vL 1 eW 0#16 x1), (23, .int .i64 (((x1).length : Nat) : Int)), (24, .int .i64 ((n4 : Nat) : Int)), (28, vL 1 eW 0#16 x2), (29, .int .i64 (((x2).length : Nat) : Int)), (30, .int .i64 ((n6 : Nat) : Int))], [(21, bL 4 1 eB false (l7.set (((x1.getD n4 0#16) ||| (x2.getD n6 0#16)).toNat) true))], [], 0⟩) rfl rfl ⟨.refl _, .refl _, .refl _, .refl _, .refl _, .refl _, .refl _, .refl _, .refl _, trivial⟩ ⟨⟨_, rfl, (BLe.of (RL.set true (RL.self _) (by intro j hj; match j, hj with | 0, _ => rfl)))⟩, trivial⟩) ?_
            obtain ⟨ob5p, h⟩ := chk_some h
            have ob5 : -9223372036854775808 ≤ (((n6 : Nat) : Int) + (1 : Int)) ∧ (((n6 : Nat) : Int) + (1 : Int)) ≤ 9223372036854775807 := ⟨by omega, ob5p⟩
            refine AWp.regC [] [] [1, 7, 9, 22, 23, 24, 28, 29, 30] [21] ⟨60, [(1, vL 1 eW 0#16 x2), (7, .own 21), (9, .b16 (x1.getD n4 0#16)), (22, vL 1 eW 0#16 x1), (23, .int .i64 (((x1).length : Nat) : Int)), (24, .int .i64 ((n4 : Nat) : Int)), (28, vL 1 eW 0#16 x2), (29, .int .i64 (((x2).length : Nat) : Int)), (30, .int .i64 (((n6 + 1) : Nat) : Int))], [(21, bL 4 1 eB false (l7.set (((x1.getD n4 0#16) ||| (x2.getD n6 0#16)).toNat) true))], [], 0⟩ ((-9223372036854775808 ≤ (((n6 : Nat) : Int) + (1 : Int)) ∧ (((n6 : Nat) : Int) + (1 : Int)) ≤ 9223372036854775807) ∧ True) Tryd_mixed (by kernel_rfl) ⟨ob5, trivial⟩ ?_
            rw [hC1] at h
            exact loopQ_normal (_, (n6 + 1), (l7.set (((x1.getD n4 0#16) ||| (x2.getD n6 0#16)).toNat) true)) (Le.mk (s := ⟨60, [(1, vL 1 eW 0#16 x2), (7, .own 21), (9, .b16 (x1.getD n4 0#16)), (22, vL 1 eW 0#16 x1), (23, .int .i64 (((x1).length : Nat) : Int)), (24, .int .i64 ((n4 : Nat) : Int)), (28, vL 1 eW 0#16 x2), (29, .int .i64 (((x2).length : Nat) : Int)), (30, .int .i64 (((n6 + 1) : Nat) : Int))], [(21, bL 4 1 eB false (l7.set (((x1.getD n4 0#16) ||| (x2.getD n6 0#16)).toNat) true))], [], 0⟩) (s' := ⟨60, [(1, vL 1 eW 0#16 x2), (7, .own 21), (9, .b16 (x1.getD n4 0#16)), (22, vL 1 eW 0#16 x1), (23, .int .i64 (((x1).length : Nat) : Int)), (24, .int .i64 ((n4 : Nat) : Int)), (28, vL 1 eW 0#16 x2), (29, .int .i64 (((x2).length : Nat) : Int)), (30, .int .i64 (((n6 + 1) : Nat) : Int))], [(21, bL 4 1 eB false (l7.set (((x1.getD n4 0#16) ||| (x2.getD n6 0#16)).toNat) true))], [], 0⟩) rfl rfl ⟨.refl _, .refl _, .refl _, .refl _, .refl _, .refl _, .refl _, .refl _, .refl _, trivial⟩ ⟨⟨_, rfl, .refl _⟩, trivial⟩) h (Nat.lt_succ_self _)
          ·
            replace h := ite_fb hc3 h
            refine AWp.exit ?_
            refine thenQ_exit ?_
            refine thenQ_exit ?_
            refine blockQ_same ?_
            refine blockQ_normal ?_
            exact joinQ_normal (l7) (Le.mk (s := ⟨60, [(1, vL 1 eW 0#16 x2), (7, .own 21), (9, .b16 (x1.getD n4 0#16)), (22, vL 1 eW 0#16 x1), (23, .int .i64 (((x1).length : Nat) : Int)), (24, .int .i64 ((n4 : Nat) : Int)), (28, vL 1 eW 0#16 x2), (29, .int .i64 (((x2).length : Nat) : Int)), (30, .int .i64 ((n6 : Nat) : Int)), (31, .bool (decide (((n6 : Nat) : Int) < (((x2).length : Nat) : Int))))], [(21, bL 4 1 eB false l7)], [], 0⟩) (s' := ⟨60, [(1, vL 1 eW 0#16 x2), (7, .own 21), (22, vL 1 eW 0#16 x1), (23, .int .i64 (((x1).length : Nat) : Int)), (24, .int .i64 ((n4 : Nat) : Int))], [(21, bL 4 1 eB false l7)], [], 0⟩) rfl rfl ⟨.refl _, .refl _, .refl _, .refl _, .refl _, trivial⟩ ⟨⟨_, rfl, .refl _⟩, trivial⟩) h
        ·
          rintro l8 h
          replace h := (congrFun hK2 _).symm.trans h
          obtain ⟨ob6p, h⟩ := chk_some h
          have ob6 : -9223372036854775808 ≤ (((n4 : Nat) : Int) + (1 : Int)) ∧ (((n4 : Nat) : Int) + (1 : Int)) ≤ 9223372036854775807 := ⟨by omega, ob6p⟩
          refine AWp.regC [] [] [1, 7, 22, 23, 24] [21] ⟨60, [(1, vL 1 eW 0#16 x2), (7, .own 21), (22, vL 1 eW 0#16 x1), (23, .int .i64 (((x1).length : Nat) : Int)), (24, .int .i64 (((n4 + 1) : Nat) : Int))], [(21, bL 4 1 eB false l8)], [], 0⟩ ((-9223372036854775808 ≤ (((n4 : Nat) : Int) + (1 : Int)) ∧ (((n4 : Nat) : Int) + (1 : Int)) ≤ 9223372036854775807) ∧ True) Tryd_mixed (by kernel_rfl) ⟨ob6, trivial⟩ ?_
          rw [hC0] at h
          exact loopQ_normal (_, (n4 + 1), l8) (Le.mk (s := ⟨60, [(1, vL 1 eW 0#16 x2), (7, .own 21), (22, vL 1 eW 0#16 x1), (23, .int .i64 (((x1).length : Nat) : Int)), (24, .int .i64 (((n4 + 1) : Nat) : Int))], [(21, bL 4 1 eB false l8)], [], 0⟩) (s' := ⟨60, [(1, vL 1 eW 0#16 x2), (7, .own 21), (22, vL 1 eW 0#16 x1), (23, .int .i64 (((x1).length : Nat) : Int)), (24, .int .i64 (((n4 + 1) : Nat) : Int))], [(21, bL 4 1 eB false l8)], [], 0⟩) rfl rfl ⟨.refl _, .refl _, .refl _, .refl _, .refl _, trivial⟩ ⟨⟨_, rfl, .refl _⟩, trivial⟩) h (Nat.lt_succ_self _)
      ·
        replace h := ite_fb hc2 h
        refine AWp.exit ?_
        refine thenQ_exit ?_
        refine thenQ_exit ?_
        refine blockQ_same ?_
        exact joinQ_normal (l5) (Le.mk (s := ⟨60, [(1, vL 1 eW 0#16 x2), (7, .own 21), (22, vL 1 eW 0#16 x1), (23, .int .i64 (((x1).length : Nat) : Int)), (24, .int .i64 ((n4 : Nat) : Int)), (25, .bool (decide (((n4 : Nat) : Int) < (((x1).length : Nat) : Int))))], [(21, bL 4 1 eB false l5)], [], 0⟩) (s' := ⟨60, [(7, .own 21)], [(21, bL 4 1 eB false l5)], [], 0⟩) rfl rfl ⟨.refl _, trivial⟩ ⟨⟨_, rfl, .refl _⟩, trivial⟩) h
    ·
      rintro l9 h
      replace h := (congrFun hK1 _).symm.trans h
      refine AWp.seq ?_
      refine AWp.regC [] [] [7, 12] [21] ⟨60, [(7, .own 21), (12, .nils)], [(21, bL 4 1 eB false l9)], [], 0⟩ (True) Tryd_mixed (by kernel_rfl) trivial ?_
      refine thenQ_normal ?_
      obtain ⟨K3, hK3, h⟩ := jn_some h
      refine AWp.join (α := List (BitVec 16)) (fun (l13 : List (BitVec 16)) => ⟨60, [(12, .own 5012)], [(5012, bL 28 1 eW 0#16 l13)], [], 0⟩) (fun x => K3 x = some r) ?_ ?_
      ·
        refine AWp.seq ?_
        refine AWp.regC [] [] [12, 41, 42, 43] [21] ⟨60, [(12, .nils), (41, .own 21), (42, .int .i64 (((l9).length : Nat) : Int)), (43, .int .i64 (0 : Int))], [(21, bL 4 1 eB false l9)], [], 0⟩ (True) Tryd_mixed (by kernel_rfl) trivial ?_
        refine thenQ_normal ?_
        refine AWp.block ?_
        refine AWp.loopL (α := Nat × (Nat × List (BitVec 16))) (fun x => match x with | (_, n10, l11) => ⟨60, [(12, .own 5012), (41, .own 21), (42, .int .i64 (((l9).length : Nat) : Int)), (43, .int .i64 ((n10 : Nat) : Int))], [(21, bL 4 1 eB false l9), (5012, bL 28 1 eW 0#16 l11)], [], 0⟩) (fun x => f21_L2 l9 K3 x.1 x.2 = some r) (fun x => x.1) (FUEL, 0, []) (Le.trans (Le.trans (Le.nilOwn (s := ⟨60, [(12, .nils), (41, .own 21), (42, .int .i64 (((l9).length : Nat) : Int)), (43, .int .i64 (0 : Int))], [(21, bL 4 1 eB false l9)], [], 0⟩) 12 5012 28 1 (encF eW 0#16 []) rfl rfl (Nat.le_of_ble_eq_true rfl)) (Le.mk (s' := ⟨60, [(12, .own 5012), (41, .own 21), (42, .int .i64 (((l9).length : Nat) : Int)), (43, .int .i64 (0 : Int))], [(21, bL 4 1 eB false l9), (5012, bL 28 1 eW 0#16 [])], [], 0⟩) rfl rfl ⟨.refl _, .refl _, .refl _, .refl _, trivial⟩ ⟨⟨_, rfl, .refl _⟩, ⟨_, rfl, .refl _⟩, trivial⟩)) (Le.mk (s := ⟨60, [(12, .own 5012), (41, .own 21), (42, .int .i64 (((l9).length : Nat) : Int)), (43, .int .i64 (0 : Int))], [(21, bL 4 1 eB false l9), (5012, bL 28 1 eW 0#16 [])], [], 0⟩) (s' := ⟨60, [(12, .own 5012), (41, .own 21), (42, .int .i64 (((l9).length : Nat) : Int)), (43, .int .i64 (0 : Int))], [(21, bL 4 1 eB false l9), (5012, bL 28 1 eW 0#16 [])], [], 0⟩) rfl rfl ⟨.refl _, .refl _, .refl _, .refl _, trivial⟩ ⟨⟨_, rfl, .refl _⟩, ⟨_, rfl, .refl _⟩, trivial⟩)) h ?_
        rintro ⟨k2, n10, l11⟩ h
        cases k2 with
        | zero => exact nomatch (show (none : Option (List (BitVec 16) × Int)) = some r from h)
        | succ k2 =>
        obtain ⟨C2, hC2⟩ : ∃ C, C = f21_L2 l9 K3 k2 := ⟨_, rfl⟩
        replace h := (f21_L2.eq_2 ..).symm.trans h
        try rw [← hC2] at h
        refine AWp.seq ?_
        refine AWp.regC [] [] [12, 41, 42, 43, 44] [21, 5012] ⟨60, [(12, .own 5012), (41, .own 21), (42, .int .i64 (((l9).length : Nat) : Int)), (43, .int .i64 ((n10 : Nat) : Int)), (44, .bool (decide (((n10 : Nat) : Int) < (((l9).length : Nat) : Int))))], [(21, bL 4 1 eB false l9), (5012, bL 28 1 eW 0#16 l11)], [], 0⟩ (True) Tryd_mixed (by kernel_rfl) trivial ?_
        refine thenQ_normal ?_
        refine AWp.seq ?_
        refine AWp.cond (b := (decide (((n10 : Nat) : Int) < (((l9).length : Nat) : Int)))) (by kernel_rfl) (fun hc4 => ?_) (fun hc4 => ?_)
        ·
          replace h := ite_tb hc4 h
          refine AWp.skip ?_
          refine thenQ_normal ?_
          obtain ⟨K4, hK4, h⟩ := jn_some h
          refine AWp.join (α := List (BitVec 16)) (fun (l12 : List (BitVec 16)) => ⟨60, [(12, .own 53), (41, .own 21), (42, .int .i64 (((l9).length : Nat) : Int)), (43, .int .i64 ((n10 : Nat) : Int))], [(21, bL 4 1 eB false l9), (53, bL 28 1 eW 0#16 l12)], [], 0⟩) (fun x => K4 x = some r) ?_ ?_
          ·
            refine AWp.block ?_
            refine AWp.seq ?_
            obtain ⟨ob7p, h⟩ := chk_some h
            have ob7 : 0 ≤ ((n10 : Nat) : Int) ∧ ((n10 : Nat) : Int) < (((l9).length : Nat) : Int) := ⟨by omega, ob7p⟩
            obtain ⟨ob8, h⟩ := chk_some h
            refine AWp.regC [] [] [12, 13, 14, 41, 42, 43] [21, 5012] ⟨60, [(12, .own 5012), (13, .int .i64 ((n10 : Nat) : Int)), (14, .bool (l9.getD n10 false)), (41, .own 21), (42, .int .i64 (((l9).length : Nat) : Int)), (43, .int .i64 ((n10 : Nat) : Int))], [(21, bL 4 1 eB false l9), (5012, bL 28 1 eW 0#16 l11)], [], 0⟩ ((0 ≤ ((n10 : Nat) : Int) ∧ ((n10 : Nat) : Int) < (((l9).length : Nat) : Int)) ∧ (n10 < (l9).length) ∧ True) Tryd_mixed (by kernel_rfl) ⟨ob7, ob8, trivial⟩ ?_
            refine thenQ_normal ?_
            refine AWp.seq ?_
            refine AWp.regC [] [] [12, 13, 41, 42, 43, 48] [21, 5012] ⟨60, [(12, .own 5012), (13, .int .i64 ((n10 : Nat) : Int)), (41, .own 21), (42, .int .i64 (((l9).length : Nat) : Int)), (43, .int .i64 ((n10 : Nat) : Int)), (48, .bool (l9.getD n10 false))], [(21, bL 4 1 eB false l9), (5012, bL 28 1 eW 0#16 l11)], [], 0⟩ (True) Tryd_mixed (by kernel_rfl) trivial ?_
            refine thenQ_normal ?_
            refine AWp.cond (b := (l9.getD n10 false)) (by kernel_rfl) (fun hc5 => ?_) (fun hc5 => ?_)
            ·
              replace h := ite_tb hc5 h
              obtain ⟨ob9, h⟩ := chk_some h
              refine AWp.regC [] [] [12, 41, 42, 43] [21, 5012] ⟨60, [(12, .own 5012), (41, .own 21), (42, .int .i64 (((l9).length : Nat) : Int)), (43, .int .i64 ((n10 : Nat) : Int))], [(21, bL 4 1 eB false l9), (5012, .rows 28 1 ((l11).length + 1) (appF (l11).length (encF eW 0#16 l11) (lstF 1 [.b16 (BitVec.ofInt 16 ((n10 : Nat) : Int))])))], [], 0⟩ ((True) ∧ (((l11).length + 1) * 2 ≤ 140737488355328) ∧ True) Tryd_mixed (by kernel_rfl) ⟨trivial, ob9, trivial⟩ ?_
              refine blockQ_normal ?_
              exact joinQ_normal ((l11 ++ [(BitVec.ofInt 16 ((n10 : Nat) : Int))])) (Le.trans (Le.mk (s := ⟨60, [(12, .own 5012), (41, .own 21), (42, .int .i64 (((l9).length : Nat) : Int)), (43, .int .i64 ((n10 : Nat) : Int))], [(21, bL 4 1 eB false l9), (5012, .rows 28 1 ((l11).length + 1) (appF (l11).length (encF eW 0#16 l11) (lstF 1 [.b16 (BitVec.ofInt 16 ((n10 : Nat) : Int))])))], [], 0⟩) (s' := ⟨60, [(12, .own 5012), (41, .own 21), (42, .int .i64 (((l9).length : Nat) : Int)), (43, .int .i64 ((n10 : Nat) : Int))], [(21, bL 4 1 eB false l9), (5012, bL 28 1 eW 0#16 (l11 ++ [(BitVec.ofInt 16 ((n10 : Nat) : Int))]))], [], 0⟩) rfl rfl ⟨.refl _, .refl _, .refl _, .refl _, trivial⟩ ⟨⟨_, rfl, .refl _⟩, ⟨_, rfl, (BLe.of (RL.app (RL.self _) (RL.lst (enc := eW) [(BitVec.ofInt 16 ((n10 : Nat) : Int))] rfl rfl (fun _ => rfl))))⟩, trivial⟩) (Le.trans (Le.trans (Le.ren (s := ⟨60, [(12, .own 5012), (41, .own 21), (42, .int .i64 (((l9).length : Nat) : Int)), (43, .int .i64 ((n10 : Nat) : Int))], [(21, bL 4 1 eB false l9), (5012, bL 28 1 eW 0#16 (l11 ++ [(BitVec.ofInt 16 ((n10 : Nat) : Int))]))], [], 0⟩) (swapN 5012 53) (swapN_inv 5012 53) rfl) (Le.mk (s' := ⟨60, [(12, .own 53), (41, .own 21), (42, .int .i64 (((l9).length : Nat) : Int)), (43, .int .i64 ((n10 : Nat) : Int))], [(21, bL 4 1 eB false l9), (53, bL 28 1 eW 0#16 (l11 ++ [(BitVec.ofInt 16 ((n10 : Nat) : Int))]))], [], 0⟩) rfl rfl ⟨.refl _, .refl _, .refl _, .refl _, trivial⟩ ⟨⟨_, rfl, .refl _⟩, ⟨_, rfl, .refl _⟩, trivial⟩)) (Le.mk (s := ⟨60, [(12, .own 53), (41, .own 21), (42, .int .i64 (((l9).length : Nat) : Int)), (43, .int .i64 ((n10 : Nat) : Int))], [(21, bL 4 1 eB false l9), (53, bL 28 1 eW 0#16 (l11 ++ [(BitVec.ofInt 16 ((n10 : Nat) : Int))]))], [], 0⟩) (s' := ⟨60, [(12, .own 53), (41, .own 21), (42, .int .i64 (((l9).length : Nat) : Int)), (43, .int .i64 ((n10 : Nat) : Int))], [(21, bL 4 1 eB false l9), (53, bL 28 1 eW 0#16 (l11 ++ [(BitVec.ofInt 16 ((n10 : Nat) : Int))]))], [], 0⟩) rfl rfl ⟨.refl _, .refl _, .refl _, .refl _, trivial⟩ ⟨⟨_, rfl, .refl _⟩, ⟨_, rfl, .refl _⟩, trivial⟩))) h
            ·
              replace h := ite_fb hc5 h
              refine AWp.skip ?_
              refine blockQ_normal ?_
              exact joinQ_normal (l11) (Le.trans (Le.trans (Le.ren (s := ⟨60, [(12, .own 5012), (13, .int .i64 ((n10 : Nat) : Int)), (41, .own 21), (42, .int .i64 (((l9).length : Nat) : Int)), (43, .int .i64 ((n10 : Nat) : Int)), (48, .bool (l9.getD n10 false))], [(21, bL 4 1 eB false l9), (5012, bL 28 1 eW 0#16 l11)], [], 0⟩) (swapN 5012 53) (swapN_inv 5012 53) rfl) (Le.mk (s' := ⟨60, [(12, .own 53), (13, .int .i64 ((n10 : Nat) : Int)), (41, .own 21), (42, .int .i64 (((l9).length : Nat) : Int)), (43, .int .i64 ((n10 : Nat) : Int)), (48, .bool (l9.getD n10 false))], [(21, bL 4 1 eB false l9), (53, bL 28 1 eW 0#16 l11)], [], 0⟩) rfl rfl ⟨.refl _, .refl _, .refl _, .refl _, .refl _, .refl _, trivial⟩ ⟨⟨_, rfl, .refl _⟩, ⟨_, rfl, .refl _⟩, trivial⟩)) (Le.mk (s := ⟨60, [(12, .own 53), (13, .int .i64 ((n10 : Nat) : Int)), (41, .own 21), (42, .int .i64 (((l9).length : Nat) : Int)), (43, .int .i64 ((n10 : Nat) : Int)), (48, .bool (l9.getD n10 false))], [(21, bL 4 1 eB false l9), (53, bL 28 1 eW 0#16 l11)], [], 0⟩) (s' := ⟨60, [(12, .own 53), (41, .own 21), (42, .int .i64 (((l9).length : Nat) : Int)), (43, .int .i64 ((n10 : Nat) : Int))], [(21, bL 4 1 eB false l9), (53, bL 28 1 eW 0#16 l11)], [], 0⟩) rfl rfl ⟨.refl _, .refl _, .refl _, .refl _, trivial⟩ ⟨⟨_, rfl, .refl _⟩, ⟨_, rfl, .refl _⟩, trivial⟩)) h
          ·
            rintro l12 h
            replace h := (congrFun hK4 _).symm.trans h
            obtain ⟨ob10p, h⟩ := chk_some h
            have ob10 : -9223372036854775808 ≤ (((n10 : Nat) : Int) + (1 : Int)) ∧ (((n10 : Nat) : Int) + (1 : Int)) ≤ 9223372036854775807 := ⟨by omega, ob10p⟩
            refine AWp.regC [] [] [12, 41, 42, 43] [21, 53] ⟨60, [(12, .own 53), (41, .own 21), (42, .int .i64 (((l9).length : Nat) : Int)), (43, .int .i64 (((n10 + 1) : Nat) : Int))], [(21, bL 4 1 eB false l9), (53, bL 28 1 eW 0#16 l12)], [], 0⟩ ((-9223372036854775808 ≤ (((n10 : Nat) : Int) + (1 : Int)) ∧ (((n10 : Nat) : Int) + (1 : Int)) ≤ 9223372036854775807) ∧ True) Tryd_mixed (by kernel_rfl) ⟨ob10, trivial⟩ ?_
            rw [hC2] at h
            exact loopQ_normal (_, (n10 + 1), l12) (Le.trans (Le.trans (Le.ren (s := ⟨60, [(12, .own 53), (41, .own 21), (42, .int .i64 (((l9).length : Nat) : Int)), (43, .int .i64 (((n10 + 1) : Nat) : Int))], [(21, bL 4 1 eB false l9), (53, bL 28 1 eW 0#16 l12)], [], 0⟩) (swapN 53 5012) (swapN_inv 53 5012) rfl) (Le.mk (s' := ⟨60, [(12, .own 5012), (41, .own 21), (42, .int .i64 (((l9).length : Nat) : Int)), (43, .int .i64 (((n10 + 1) : Nat) : Int))], [(21, bL 4 1 eB false l9), (5012, bL 28 1 eW 0#16 l12)], [], 0⟩) rfl rfl ⟨.refl _, .refl _, .refl _, .refl _, trivial⟩ ⟨⟨_, rfl, .refl _⟩, ⟨_, rfl, .refl _⟩, trivial⟩)) (Le.mk (s := ⟨60, [(12, .own 5012), (41, .own 21), (42, .int .i64 (((l9).length : Nat) : Int)), (43, .int .i64 (((n10 + 1) : Nat) : Int))], [(21, bL 4 1 eB false l9), (5012, bL 28 1 eW 0#16 l12)], [], 0⟩) (s' := ⟨60, [(12, .own 5012), (41, .own 21), (42, .int .i64 (((l9).length : Nat) : Int)), (43, .int .i64 (((n10 + 1) : Nat) : Int))], [(21, bL 4 1 eB false l9), (5012, bL 28 1 eW 0#16 l12)], [], 0⟩) rfl rfl ⟨.refl _, .refl _, .refl _, .refl _, trivial⟩ ⟨⟨_, rfl, .refl _⟩, ⟨_, rfl, .refl _⟩, trivial⟩)) h (Nat.lt_succ_self _)
        ·
          replace h := ite_fb hc4 h
          refine AWp.exit ?_
          refine thenQ_exit ?_
          refine thenQ_exit ?_
          refine blockQ_same ?_
          exact joinQ_normal (l11) (Le.mk (s := ⟨60, [(12, .own 5012), (41, .own 21), (42, .int .i64 (((l9).length : Nat) : Int)), (43, .int .i64 ((n10 : Nat) : Int)), (44, .bool (decide (((n10 : Nat) : Int) < (((l9).length : Nat) : Int))))], [(21, bL 4 1 eB false l9), (5012, bL 28 1 eW 0#16 l11)], [], 0⟩) (s' := ⟨60, [(12, .own 5012)], [(5012, bL 28 1 eW 0#16 l11)], [], 0⟩) rfl rfl ⟨.refl _, trivial⟩ ⟨⟨_, rfl, .refl _⟩, trivial⟩) h
      ·
        rintro l13 h
        replace h := (congrFun hK3 _).symm.trans h
        refine AWp.seq ?_
        obtain ⟨r14, hr14, h⟩ := bind_ok h
        obtain ⟨r15, hr15, h⟩ := bind_ok h
        refine AWp.regC [] [(1, ⟨[vL 1 eW 0#16 l13], [], [], [(6001, bL 28 1 eW 0#16 r14)], .own 6001, [6001], [5012], []⟩), (2, ⟨[.own 6001], [6001], [], [], .tup [vL 1 eW 0#16 r15.1, .int .i64 r15.2], [], [], []⟩)] [4, 5] [] ⟨60, [(4, vL 1 eW 0#16 r15.1), (5, .int .i64 r15.2)], [], [], 0⟩ ((callP Tryd.prog true 43 [] [] [] [(5012, bL 28 1 eW 0#16 l13)] [5012] [.own 5012] [vL 1 eW 0#16 l13] (.own 6001) [(6001, bL 28 1 eW 0#16 r14)]) ∧ (callP Tryd.prog true 49 [] [] [(6001, bL 28 1 eW 0#16 r14)] [] [] [.own 6001] [.own 6001] (.tup [vL 1 eW 0#16 r15.1, .int .i64 r15.2]) []) ∧ True) Tryd_mixed (by kernel_rfl) ⟨⟨fun _ => (Spec1.ren (swapN 3000 6001) (swapN_inv 3000 6001) rfl (f43_ok l13 r14 hr14)), fun _ => ⟨.refl _, trivial⟩, .inr ⟨rfl, ⟨(fun _ _ _ _ => eW_flat _ _), trivial⟩⟩⟩, ⟨fun _ => (Spec1.pre (f49_ok r14 r15 hr15) rfl rfl rfl (Le.trans (Le.freeze (s := ⟨1, [(0, .own 6001)], [(6001, bL 28 1 eW 0#16 r14)], [], 0⟩) 6001 rfl rfl) (Le.mk (s' := ⟨1, [(0, vL 1 eW 0#16 r14)], [], [], 0⟩) rfl rfl ⟨.refl _, trivial⟩ trivial))), fun _ => ⟨.refl _, trivial⟩, .inl rfl⟩, trivial⟩ ?_
        refine thenQ_normal ?_
        have hret := Option.some.inj h
        subst hret
        refine AWp.le (Le.mk (s := ⟨60, [(4, vL 1 eW 0#16 r15.1), (5, .int .i64 r15.2)], [], [], 0⟩) (s' := ⟨60, [(4, vL 1 eW 0#16 r15.1), (5, .int .i64 r15.2)], [], [], 0⟩) rfl rfl ⟨.refl _, .refl _, trivial⟩ trivial) ?_
        refine AWp.ret ?_
        exact bodyQ_ret _ rfl ⟨rfl, rfl⟩ rfl
def f72 (x1 : Int) : Option (List (BitVec 16)) :=
  if (decide (x1 < (0 : Int))) then (
  none
  ) else (
  jn (fun (l2 : List (BitVec 16)) =>
  some l2
  ) fun (K1 : (List (BitVec 16)) → Option (List (BitVec 16))) =>
  chk (-9223372036854775808 ≤ (x1 - (0 : Int)) ∧ (x1 - (0 : Int)) ≤ 9223372036854775807) <|
  if (decide ((x1 - (0 : Int)) > (0 : Int))) then (
  chk (0 < (x1 - (0 : Int)) ∧ (x1 - (0 : Int)) * (2 : Int) ≤ 140737488355328 ∧ (x1 - (0 : Int)) ≤ 4611686018427387904) <|
  chk ((0 : Int) ≤ (((((x1 - (0 : Int))).toNat) : Nat) : Int)) <|
  chk (0 ≤ (List.replicate (((x1 - (0 : Int))).toNat) (BitVec.ofInt 16 0)).length) <|
  K1 ((List.replicate (((x1 - (0 : Int))).toNat) (BitVec.ofInt 16 0)).take 0)
  ) else (
  K1 []
  )
  )
set_option maxRecDepth 100000 in
theorem f72_ok  (x1 : Int) (r : List (BitVec 16)) (h : f72 x1 = some r)  : Spec1 Tryd.prog 72 [] [] [] [.nils, .int .i64 x1] (.own 3000) [(3000, bL 28 1 eW 0#16 r)] := by
  unfold f72 at h
  refine Spec1.body 0 _ _ Tryd.func72 rfl Tryd.ntmps72 rfl rfl ?_
  refine AWp.seq ?_
  refine AWp.regC [] [] [0, 1] [] ⟨27, [(0, .nils), (1, .int .i64 x1)], [], [], 0⟩ (True) Tryd_mixed (by kernel_rfl) trivial ?_
  refine thenQ_normal ?_
  refine AWp.seq ?_
  refine AWp.seq ?_
  refine AWp.regC [] [] [0, 1, 6] [] ⟨27, [(0, .nils), (1, .int .i64 x1), (6, .bool (decide (x1 < (0 : Int))))], [], [], 0⟩ (True) Tryd_mixed (by kernel_rfl) trivial ?_
  refine thenQ_normal ?_
  refine AWp.cond (b := (decide (x1 < (0 : Int)))) (by kernel_rfl) (fun hc1 => ?_) (fun hc1 => ?_)
  ·
    replace h := ite_tb hc1 h
    exact nomatch (show (none : Option (List (BitVec 16))) = some r from h)
  ·
    replace h := ite_fb hc1 h
    refine AWp.skip ?_
    refine thenQ_normal ?_
    obtain ⟨K1, hK1, h⟩ := jn_some h
    refine AWp.join (α := List (BitVec 16)) (fun (l2 : List (BitVec 16)) => ⟨27, [(0, .own 22)], [(22, bL 28 1 eW 0#16 l2)], [], 0⟩) (fun x => K1 x = some r) ?_ ?_
    ·
      refine AWp.seq ?_
      have ob0 : -9223372036854775808 ≤ ((0 : Int) - (0 : Int)) ∧ ((0 : Int) - (0 : Int)) ≤ 9223372036854775807 := by first | decide | omega | simp | (intro h; cases h)
      obtain ⟨ob1, h⟩ := chk_some h
      refine AWp.regC [] [] [0, 1] [] ⟨27, [(0, .nils), (1, .int .i64 (x1 - (0 : Int)))], [], [], 0⟩ ((-9223372036854775808 ≤ ((0 : Int) - (0 : Int)) ∧ ((0 : Int) - (0 : Int)) ≤ 9223372036854775807) ∧ (-9223372036854775808 ≤ (x1 - (0 : Int)) ∧ (x1 - (0 : Int)) ≤ 9223372036854775807) ∧ True) Tryd_mixed (by kernel_rfl) ⟨ob0, ob1, trivial⟩ ?_
      refine thenQ_normal ?_
      refine AWp.seq ?_
      refine AWp.regC [] [] [0, 1, 16] [] ⟨27, [(0, .nils), (1, .int .i64 (x1 - (0 : Int))), (16, .bool (decide ((x1 - (0 : Int)) > (0 : Int))))], [], [], 0⟩ (True) Tryd_mixed (by kernel_rfl) trivial ?_
      refine thenQ_normal ?_
      refine AWp.cond (b := (decide ((x1 - (0 : Int)) > (0 : Int)))) (by kernel_rfl) (fun hc2 => ?_) (fun hc2 => ?_)
      ·
        replace h := ite_tb hc2 h
        have ob2 : 0 ≤ (0 : Int) ∧ (0 : Int) ≤ (0 : Int) := by first | decide | omega | simp | (intro h; cases h)
        obtain ⟨ob3, h⟩ := chk_some h
        obtain ⟨ob4p, h⟩ := chk_some h
        have ob4 : 0 ≤ (0 : Int) ∧ (0 : Int) ≤ (((((x1 - (0 : Int))).toNat) : Nat) : Int) := ⟨by omega, ob4p⟩
        refine AWp.regC [] [] [0] [22] ⟨27, [(0, .osl 22 1 0 0)], [(22, .rows 28 1 (((x1 - (0 : Int))).toNat) (repF [.b16 (BitVec.ofInt 16 0)]))], [], 0⟩ ((0 ≤ (0 : Int) ∧ (0 : Int) ≤ (0 : Int)) ∧ (0 < (x1 - (0 : Int)) ∧ (x1 - (0 : Int)) * (2 : Int) ≤ 140737488355328 ∧ (x1 - (0 : Int)) ≤ 4611686018427387904) ∧ (0 ≤ (0 : Int) ∧ (0 : Int) ≤ (((((x1 - (0 : Int))).toNat) : Nat) : Int)) ∧ True) Tryd_mixed (by kernel_rfl) ⟨ob2, ob3, ob4, trivial⟩ ?_
        obtain ⟨hk3, h⟩ := chk_some h
        exact joinQ_normal (((List.replicate (((x1 - (0 : Int))).toNat) (BitVec.ofInt 16 0)).take 0)) (Le.trans (Le.mk (s := ⟨27, [(0, .osl 22 1 0 0)], [(22, .rows 28 1 (((x1 - (0 : Int))).toNat) (repF [.b16 (BitVec.ofInt 16 0)]))], [], 0⟩) (s' := ⟨27, [(0, .osl 22 1 0 0)], [(22, bL 28 1 eW 0#16 (List.replicate (((x1 - (0 : Int))).toNat) (BitVec.ofInt 16 0)))], [], 0⟩) rfl rfl ⟨.refl _, trivial⟩ ⟨⟨_, rfl, (BLe.of (RL.rep (BitVec.ofInt 16 0) rfl))⟩, trivial⟩) (Le.trans (Le.trans (Le.cutOwn (s := ⟨27, [(0, .osl 22 1 0 0)], [(22, bL 28 1 eW 0#16 (List.replicate (((x1 - (0 : Int))).toNat) (BitVec.ofInt 16 0)))], [], 0⟩) 0 22 0 hk3 rfl rfl rfl) (Le.mk (s' := ⟨27, [(0, .own 22)], [(22, bL 28 1 eW 0#16 ((List.replicate (((x1 - (0 : Int))).toNat) (BitVec.ofInt 16 0)).take 0))], [], 0⟩) rfl rfl ⟨.refl _, trivial⟩ ⟨⟨_, rfl, (BLe.of (RL.take (RL.self _) hk3))⟩, trivial⟩)) (Le.mk (s := ⟨27, [(0, .own 22)], [(22, bL 28 1 eW 0#16 ((List.replicate (((x1 - (0 : Int))).toNat) (BitVec.ofInt 16 0)).take 0))], [], 0⟩) (s' := ⟨27, [(0, .own 22)], [(22, bL 28 1 eW 0#16 ((List.replicate (((x1 - (0 : Int))).toNat) (BitVec.ofInt 16 0)).take 0))], [], 0⟩) rfl rfl ⟨.refl _, trivial⟩ ⟨⟨_, rfl, .refl _⟩, trivial⟩))) h
      ·
        replace h := ite_fb hc2 h
        refine AWp.skip ?_
        exact joinQ_normal ([]) (Le.trans (Le.trans (Le.nilOwn (s := ⟨27, [(0, .nils), (1, .int .i64 (x1 - (0 : Int))), (16, .bool (decide ((x1 - (0 : Int)) > (0 : Int))))], [], [], 0⟩) 0 22 28 1 (encF eW 0#16 []) rfl rfl (Nat.le_of_ble_eq_true rfl)) (Le.mk (s' := ⟨27, [(0, .own 22), (1, .int .i64 (x1 - (0 : Int))), (16, .bool (decide ((x1 - (0 : Int)) > (0 : Int))))], [(22, bL 28 1 eW 0#16 [])], [], 0⟩) rfl rfl ⟨.refl _, .refl _, .refl _, trivial⟩ ⟨⟨_, rfl, .refl _⟩, trivial⟩)) (Le.mk (s := ⟨27, [(0, .own 22), (1, .int .i64 (x1 - (0 : Int))), (16, .bool (decide ((x1 - (0 : Int)) > (0 : Int))))], [(22, bL 28 1 eW 0#16 [])], [], 0⟩) (s' := ⟨27, [(0, .own 22)], [(22, bL 28 1 eW 0#16 [])], [], 0⟩) rfl rfl ⟨.refl _, trivial⟩ ⟨⟨_, rfl, .refl _⟩, trivial⟩)) h
    ·
      rintro l2 h
      replace h := (congrFun hK1 _).symm.trans h
      refine AWp.seq ?_
      refine AWp.regC [] [] [4] [22] ⟨27, [(4, .own 22)], [(22, bL 28 1 eW 0#16 l2)], [], 0⟩ (True) Tryd_mixed (by kernel_rfl) trivial ?_
      refine thenQ_normal ?_
      refine AWp.le (Le.trans (Le.ren (s := ⟨27, [(4, .own 22)], [(22, bL 28 1 eW 0#16 l2)], [], 0⟩) (swapN 22 3000) (swapN_inv 22 3000) rfl) (Le.mk (s' := ⟨27, [(4, .own 3000)], [(3000, bL 28 1 eW 0#16 l2)], [], 0⟩) rfl rfl ⟨.refl _, trivial⟩ ⟨⟨_, rfl, .refl _⟩, trivial⟩)) ?_
      have hret := Option.some.inj h
      subst hret
      refine AWp.le (Le.mk (s := ⟨27, [(4, .own 3000)], [(3000, bL 28 1 eW 0#16 l2)], [], 0⟩) (s' := ⟨27, [(4, .own 3000)], [(3000, bL 28 1 eW 0#16 l2)], [], 0⟩) rfl rfl ⟨.refl _, trivial⟩ ⟨⟨_, rfl, .refl _⟩, trivial⟩) ?_
      refine AWp.ret ?_
      exact bodyQ_ret _ rfl ⟨rfl, rfl⟩ rfl
def f50_L0 (x1 : List (List (BitVec 16))) (K1 : Nat → Option (List (BitVec 16))) : Nat → (Nat × Nat) → Option (List (BitVec 16))
  | 0, _ => none
  | k + 1, (n2, n3) =>
    if (decide (((n3 : Nat) : Int) < (((x1).length : Nat) : Int))) then (
    chk (((n3 : Nat) : Int) < (((x1).length : Nat) : Int)) <|
    chk ((((n2 : Nat) : Int) + ((((x1.getD n3 [])).length : Nat) : Int)) ≤ 9223372036854775807) <|
    if (decide ((((n2 + ((x1.getD n3 [])).length) : Nat) : Int) < (0 : Int))) then (
    none
    ) else (
    chk ((((n3 : Nat) : Int) + (1 : Int)) ≤ 9223372036854775807) <|
    (f50_L0 x1 K1 k) ((n2 + ((x1.getD n3 [])).length), (n3 + 1))
    )
    ) else (
    K1 n2
    )
def f50_L1 (x1 : List (List (BitVec 16))) (K2 : (List (BitVec 16)) → Option (List (BitVec 16))) : Nat → (Nat × List (BitVec 16)) → Option (List (BitVec 16))
  | 0, _ => none
  | k + 1, (n6, l7) =>
    if (decide (((n6 : Nat) : Int) < (((x1).length : Nat) : Int))) then (
    chk (((n6 : Nat) : Int) < (((x1).length : Nat) : Int)) <|
    chk (((l7).length + ((x1.getD n6 [])).length) * 2 ≤ 140737488355328) <|
    chk ((((n6 : Nat) : Int) + (1 : Int)) ≤ 9223372036854775807) <|
    (f50_L1 x1 K2 k) ((n6 + 1), (l7 ++ (x1.getD n6 [])))
    ) else (
    K2 l7
    )
def f50 (x1 : List (List (BitVec 16))) : Option (List (BitVec 16)) :=
  jn (fun (n4 : Nat) =>
  (f72 ((n4 : Nat) : Int)).bind fun (r5 : List (BitVec 16)) =>
  jn (fun (l8 : List (BitVec 16)) =>
  some l8
  ) fun (K2 : (List (BitVec 16)) → Option (List (BitVec 16))) =>
  f50_L1 x1 K2 FUEL (0, r5)
  ) fun (K1 : Nat → Option (List (BitVec 16))) =>
  f50_L0 x1 K1 FUEL (0, 0)
set_option maxRecDepth 100000 in
theorem f50_ok  (x1 : List (List (BitVec 16))) (r : List (BitVec 16)) (h : f50 x1 = some r)  : Spec1 Tryd.prog 50 [] [] [] [vL 1 eLWJ [] x1] (.own 3000) [(3000, bL 28 1 eW 0#16 r)] := by
  unfold f50 at h
  refine Spec1.body 0 _ _ Tryd.func50 rfl Tryd.ntmps50 rfl rfl ?_
  refine AWp.seq ?_
  refine AWp.regC [] [] [0] [] ⟨36, [(0, vL 1 eLWJ [] x1)], [], [], 0⟩ (True) Tryd_mixed (by kernel_rfl) trivial ?_
  refine thenQ_normal ?_
  refine AWp.seq ?_
  refine AWp.regC [] [] [0, 3] [] ⟨36, [(0, vL 1 eLWJ [] x1), (3, .int .i64 (0 : Int))], [], [], 0⟩ (True) Tryd_mixed (by kernel_rfl) trivial ?_
  refine thenQ_normal ?_
  obtain ⟨K1, hK1, h⟩ := jn_some h
  refine AWp.join (α := Nat) (fun (n4 : Nat) => ⟨36, [(0, vL 1 eLWJ [] x1), (3, .int .i64 ((n4 : Nat) : Int))], [], [], 0⟩) (fun x => K1 x = some r) ?_ ?_
  ·
    refine AWp.seq ?_
    refine AWp.regC [] [] [0, 3, 9, 10, 11] [] ⟨36, [(0, vL 1 eLWJ [] x1), (3, .int .i64 (0 : Int)), (9, vL 1 eLWJ [] x1), (10, .int .i64 (((x1).length : Nat) : Int)), (11, .int .i64 (0 : Int))], [], [], 0⟩ (True) Tryd_mixed (by kernel_rfl) trivial ?_
    refine thenQ_normal ?_
    refine AWp.block ?_
    refine AWp.loopL (α := Nat × (Nat × Nat)) (fun x => match x with | (_, n2, n3) => ⟨36, [(0, vL 1 eLWJ [] x1), (3, .int .i64 ((n2 : Nat) : Int)), (9, vL 1 eLWJ [] x1), (10, .int .i64 (((x1).length : Nat) : Int)), (11, .int .i64 ((n3 : Nat) : Int))], [], [], 0⟩) (fun x => f50_L0 x1 K1 x.1 x.2 = some r) (fun x => x.1) (FUEL, 0, 0) (Le.mk (s := ⟨36, [(0, vL 1 eLWJ [] x1), (3, .int .i64 (0 : Int)), (9, vL 1 eLWJ [] x1), (10, .int .i64 (((x1).length : Nat) : Int)), (11, .int .i64 (0 : Int))], [], [], 0⟩) (s' := ⟨36, [(0, vL 1 eLWJ [] x1), (3, .int .i64 (0 : Int)), (9, vL 1 eLWJ [] x1), (10, .int .i64 (((x1).length : Nat) : Int)), (11, .int .i64 (0 : Int))], [], [], 0⟩) rfl rfl ⟨.refl _, .refl _, .refl _, .refl _, .refl _, trivial⟩ trivial) h ?_
    rintro ⟨k0, n2, n3⟩ h
    cases k0 with
    | zero => exact nomatch (show (none : Option (List (BitVec 16))) = some r from h)
    | succ k0 =>
    obtain ⟨C0, hC0⟩ : ∃ C, C = f50_L0 x1 K1 k0 := ⟨_, rfl⟩
    replace h := (f50_L0.eq_2 ..).symm.trans h
    try rw [← hC0] at h
    refine AWp.seq ?_
    refine AWp.regC [] [] [0, 3, 9, 10, 11, 12] [] ⟨36, [(0, vL 1 eLWJ [] x1), (3, .int .i64 ((n2 : Nat) : Int)), (9, vL 1 eLWJ [] x1), (10, .int .i64 (((x1).length : Nat) : Int)), (11, .int .i64 ((n3 : Nat) : Int)), (12, .bool (decide (((n3 : Nat) : Int) < (((x1).length : Nat) : Int))))], [], [], 0⟩ (True) Tryd_mixed (by kernel_rfl) trivial ?_
    refine thenQ_normal ?_
    refine AWp.seq ?_
    refine AWp.cond (b := (decide (((n3 : Nat) : Int) < (((x1).length : Nat) : Int)))) (by kernel_rfl) (fun hc1 => ?_) (fun hc1 => ?_)
    ·
      replace h := ite_tb hc1 h
      refine AWp.skip ?_
      refine thenQ_normal ?_
      refine AWp.seq ?_
      refine AWp.block ?_
      refine AWp.seq ?_
      obtain ⟨ob0p, h⟩ := chk_some h
      have ob0 : 0 ≤ ((n3 : Nat) : Int) ∧ ((n3 : Nat) : Int) < (((x1).length : Nat) : Int) := ⟨by omega, ob0p⟩
      refine AWp.regC [] [] [0, 3, 5, 9, 10, 11] [] ⟨36, [(0, vL 1 eLWJ [] x1), (3, .int .i64 ((n2 : Nat) : Int)), (5, vL 1 eW 0#16 (x1.getD n3 [])), (9, vL 1 eLWJ [] x1), (10, .int .i64 (((x1).length : Nat) : Int)), (11, .int .i64 ((n3 : Nat) : Int))], [], [], 0⟩ ((0 ≤ ((n3 : Nat) : Int) ∧ ((n3 : Nat) : Int) < (((x1).length : Nat) : Int)) ∧ True) Tryd_mixed (by kernel_rfl) ⟨ob0, trivial⟩ ?_
      refine thenQ_normal ?_
      refine AWp.seq ?_
      obtain ⟨ob1p, h⟩ := chk_some h
      have ob1 : -9223372036854775808 ≤ (((n2 : Nat) : Int) + ((((x1.getD n3 [])).length : Nat) : Int)) ∧ (((n2 : Nat) : Int) + ((((x1.getD n3 [])).length : Nat) : Int)) ≤ 9223372036854775807 := ⟨by omega, ob1p⟩
      refine AWp.regC [] [] [0, 3, 9, 10, 11] [] ⟨36, [(0, vL 1 eLWJ [] x1), (3, .int .i64 (((n2 + ((x1.getD n3 [])).length) : Nat) : Int)), (9, vL 1 eLWJ [] x1), (10, .int .i64 (((x1).length : Nat) : Int)), (11, .int .i64 ((n3 : Nat) : Int))], [], [], 0⟩ ((-9223372036854775808 ≤ (((n2 : Nat) : Int) + ((((x1.getD n3 [])).length : Nat) : Int)) ∧ (((n2 : Nat) : Int) + ((((x1.getD n3 [])).length : Nat) : Int)) ≤ 9223372036854775807) ∧ True) Tryd_mixed (by kernel_rfl) ⟨ob1, trivial⟩ ?_
      refine thenQ_normal ?_
      refine AWp.seq ?_
      refine AWp.regC [] [] [0, 3, 9, 10, 11, 20] [] ⟨36, [(0, vL 1 eLWJ [] x1), (3, .int .i64 (((n2 + ((x1.getD n3 [])).length) : Nat) : Int)), (9, vL 1 eLWJ [] x1), (10, .int .i64 (((x1).length : Nat) : Int)), (11, .int .i64 ((n3 : Nat) : Int)), (20, .bool (decide ((((n2 + ((x1.getD n3 [])).length) : Nat) : Int) < (0 : Int))))], [], [], 0⟩ (True) Tryd_mixed (by kernel_rfl) trivial ?_
      refine thenQ_normal ?_
      refine AWp.cond (b := (decide ((((n2 + ((x1.getD n3 [])).length) : Nat) : Int) < (0 : Int)))) (by kernel_rfl) (fun hc2 => ?_) (fun hc2 => ?_)
      ·
        replace h := ite_tb hc2 h
        exact nomatch (show (none : Option (List (BitVec 16))) = some r from h)
      ·
        replace h := ite_fb hc2 h
        refine AWp.skip ?_
        refine blockQ_normal ?_
        refine thenQ_normal ?_
        obtain ⟨ob2p, h⟩ := chk_some h
        have ob2 : -9223372036854775808 ≤ (((n3 : Nat) : Int) + (1 : Int)) ∧ (((n3 : Nat) : Int) + (1 : Int)) ≤ 9223372036854775807 := ⟨by omega, ob2p⟩
        refine AWp.regC [] [] [0, 3, 9, 10, 11] [] ⟨36, [(0, vL 1 eLWJ [] x1), (3, .int .i64 (((n2 + ((x1.getD n3 [])).length) : Nat) : Int)), (9, vL 1 eLWJ [] x1), (10, .int .i64 (((x1).length : Nat) : Int)), (11, .int .i64 (((n3 + 1) : Nat) : Int))], [], [], 0⟩ ((-9223372036854775808 ≤ (((n3 : Nat) : Int) + (1 : Int)) ∧ (((n3 : Nat) : Int) + (1 : Int)) ≤ 9223372036854775807) ∧ True) Tryd_mixed (by kernel_rfl) ⟨ob2, trivial⟩ ?_
        rw [hC0] at h
        exact loopQ_normal (_, (n2 + ((x1.getD n3 [])).length), (n3 + 1)) (Le.mk (s := ⟨36, [(0, vL 1 eLWJ [] x1), (3, .int .i64 (((n2 + ((x1.getD n3 [])).length) : Nat) : Int)), (9, vL 1 eLWJ [] x1), (10, .int .i64 (((x1).length : Nat) : Int)), (11, .int .i64 (((n3 + 1) : Nat) : Int))], [], [], 0⟩) (s' := ⟨36, [(0, vL 1 eLWJ [] x1), (3, .int .i64 (((n2 + ((x1.getD n3 [])).length) : Nat) : Int)), (9, vL 1 eLWJ [] x1), (10, .int .i64 (((x1).length : Nat) : Int)), (11, .int .i64 (((n3 + 1) : Nat) : Int))], [], [], 0⟩) rfl rfl ⟨.refl _, .refl _, .refl _, .refl _, .refl _, trivial⟩ trivial) h (Nat.lt_succ_self _)
    ·
      replace h := ite_fb hc1 h
      refine AWp.exit ?_
      refine thenQ_exit ?_
      refine thenQ_exit ?_
      refine blockQ_same ?_
      exact joinQ_normal (n2) (Le.mk (s := ⟨36, [(0, vL 1 eLWJ [] x1), (3, .int .i64 ((n2 : Nat) : Int)), (9, vL 1 eLWJ [] x1), (10, .int .i64 (((x1).length : Nat) : Int)), (11, .int .i64 ((n3 : Nat) : Int)), (12, .bool (decide (((n3 : Nat) : Int) < (((x1).length : Nat) : Int))))], [], [], 0⟩) (s' := ⟨36, [(0, vL 1 eLWJ [] x1), (3, .int .i64 ((n2 : Nat) : Int))], [], [], 0⟩) rfl rfl ⟨.refl _, .refl _, trivial⟩ trivial) h
  ·
    rintro n4 h
    replace h := (congrFun hK1 _).symm.trans h
    refine AWp.seq ?_
    obtain ⟨r5, hr5, h⟩ := bind_ok h
    refine AWp.regC [] [(1, ⟨[.nils, .int .i64 ((n4 : Nat) : Int)], [], [], [(6001, bL 28 1 eW 0#16 r5)], .own 6001, [6001], [], []⟩)] [0, 6] [6001] ⟨36, [(0, vL 1 eLWJ [] x1), (6, .own 6001)], [(6001, bL 28 1 eW 0#16 r5)], [], 0⟩ ((callP Tryd.prog true 72 [] [] [] [] [] [.nils, .int .i64 ((n4 : Nat) : Int)] [.nils, .int .i64 ((n4 : Nat) : Int)] (.own 6001) [(6001, bL 28 1 eW 0#16 r5)]) ∧ True) Tryd_mixed (by kernel_rfl) ⟨⟨fun _ => (Spec1.ren (swapN 3000 6001) (swapN_inv 3000 6001) rfl (f72_ok ((n4 : Nat) : Int) r5 hr5)), fun _ => ⟨.refl _, .refl _, trivial⟩, .inl rfl⟩, trivial⟩ ?_
    refine thenQ_normal ?_
    obtain ⟨K2, hK2, h⟩ := jn_some h
    refine AWp.join (α := List (BitVec 16)) (fun (l8 : List (BitVec 16)) => ⟨36, [(6, .own 6001)], [(6001, bL 28 1 eW 0#16 l8)], [], 0⟩) (fun x => K2 x = some r) ?_ ?_
    ·
      refine AWp.seq ?_
      refine AWp.regC [] [] [6, 25, 26, 27] [6001] ⟨36, [(6, .own 6001), (25, vL 1 eLWJ [] x1), (26, .int .i64 (((x1).length : Nat) : Int)), (27, .int .i64 (0 : Int))], [(6001, bL 28 1 eW 0#16 r5)], [], 0⟩ (True) Tryd_mixed (by kernel_rfl) trivial ?_
      refine thenQ_normal ?_
      refine AWp.block ?_
      refine AWp.loopL (α := Nat × (Nat × List (BitVec 16))) (fun x => match x with | (_, n6, l7) => ⟨36, [(6, .own 6001), (25, vL 1 eLWJ [] x1), (26, .int .i64 (((x1).length : Nat) : Int)), (27, .int .i64 ((n6 : Nat) : Int))], [(6001, bL 28 1 eW 0#16 l7)], [], 0⟩) (fun x => f50_L1 x1 K2 x.1 x.2 = some r) (fun x => x.1) (FUEL, 0, r5) (Le.mk (s := ⟨36, [(6, .own 6001), (25, vL 1 eLWJ [] x1), (26, .int .i64 (((x1).length : Nat) : Int)), (27, .int .i64 (0 : Int))], [(6001, bL 28 1 eW 0#16 r5)], [], 0⟩) (s' := ⟨36, [(6, .own 6001), (25, vL 1 eLWJ [] x1), (26, .int .i64 (((x1).length : Nat) : Int)), (27, .int .i64 (0 : Int))], [(6001, bL 28 1 eW 0#16 r5)], [], 0⟩) rfl rfl ⟨.refl _, .refl _, .refl _, .refl _, trivial⟩ ⟨⟨_, rfl, .refl _⟩, trivial⟩) h ?_
      rintro ⟨k1, n6, l7⟩ h
      cases k1 with
      | zero => exact nomatch (show (none : Option (List (BitVec 16))) = some r from h)
      | succ k1 =>
      obtain ⟨C1, hC1⟩ : ∃ C, C = f50_L1 x1 K2 k1 := ⟨_, rfl⟩
      replace h := (f50_L1.eq_2 ..).symm.trans h
      try rw [← hC1] at h
      refine AWp.seq ?_
      refine AWp.regC [] [] [6, 25, 26, 27, 28] [6001] ⟨36, [(6, .own 6001), (25, vL 1 eLWJ [] x1), (26, .int .i64 (((x1).length : Nat) : Int)), (27, .int .i64 ((n6 : Nat) : Int)), (28, .bool (decide (((n6 : Nat) : Int) < (((x1).length : Nat) : Int))))], [(6001, bL 28 1 eW 0#16 l7)], [], 0⟩ (True) Tryd_mixed (by kernel_rfl) trivial ?_
      refine thenQ_normal ?_
      refine AWp.seq ?_
      refine AWp.cond (b := (decide (((n6 : Nat) : Int) < (((x1).length : Nat) : Int)))) (by kernel_rfl) (fun hc3 => ?_) (fun hc3 => ?_)
      ·
        replace h := ite_tb hc3 h
        refine AWp.skip ?_
        refine thenQ_normal ?_
        refine AWp.seq ?_
        refine AWp.block ?_
        refine AWp.seq ?_
        obtain ⟨ob3p, h⟩ := chk_some h
        have ob3 : 0 ≤ ((n6 : Nat) : Int) ∧ ((n6 : Nat) : Int) < (((x1).length : Nat) : Int) := ⟨by omega, ob3p⟩
        refine AWp.regC [] [] [6, 8, 25, 26, 27] [6001] ⟨36, [(6, .own 6001), (8, vL 1 eW 0#16 (x1.getD n6 [])), (25, vL 1 eLWJ [] x1), (26, .int .i64 (((x1).length : Nat) : Int)), (27, .int .i64 ((n6 : Nat) : Int))], [(6001, bL 28 1 eW 0#16 l7)], [], 0⟩ ((0 ≤ ((n6 : Nat) : Int) ∧ ((n6 : Nat) : Int) < (((x1).length : Nat) : Int)) ∧ True) Tryd_mixed (by kernel_rfl) ⟨ob3, trivial⟩ ?_
        refine thenQ_normal ?_
        obtain ⟨ob4, h⟩ := chk_some h
        refine AWp.regC [] [] [6, 25, 26, 27] [6001] ⟨36, [(6, .own 6001), (25, vL 1 eLWJ [] x1), (26, .int .i64 (((x1).length : Nat) : Int)), (27, .int .i64 ((n6 : Nat) : Int))], [(6001, .rows 28 1 ((l7).length + ((x1.getD n6 [])).length) (appF (l7).length (encF eW 0#16 l7) (encF eW 0#16 (x1.getD n6 []))))], [], 0⟩ ((((l7).length + ((x1.getD n6 [])).length) * 2 ≤ 140737488355328) ∧ True) Tryd_mixed (by kernel_rfl) ⟨ob4, trivial⟩ ?_
        refine blockQ_normal ?_
        refine thenQ_normal ?_
        refine AWp.le (Le.mk (s := ⟨36, [(6, .own 6001), (25, vL 1 eLWJ [] x1), (26, .int .i64 (((x1).length : Nat) : Int)), (27, .int .i64 ((n6 : Nat) : Int))], [(6001, .rows 28 1 ((l7).length + ((x1.getD n6 [])).length) (appF (l7).length (encF eW 0#16 l7) (encF eW 0#16 (x1.getD n6 []))))], [], 0⟩) (s' := ⟨36, [(6, .own 6001), (25, vL 1 eLWJ [] x1), (26, .int .i64 (((x1).length : Nat) : Int)), (27, .int .i64 ((n6 : Nat) : Int))], [(6001, bL 28 1 eW 0#16 (l7 ++ (x1.getD n6 [])))], [], 0⟩) rfl rfl ⟨.refl _, .refl _, .refl _, .refl _, trivial⟩ ⟨⟨_, rfl, (BLe.of (RL.app (RL.self _) (RL.self _)))⟩, trivial⟩) ?_
        obtain ⟨ob5p, h⟩ := chk_some h
        have ob5 : -9223372036854775808 ≤ (((n6 : Nat) : Int) + (1 : Int)) ∧ (((n6 : Nat) : Int) + (1 : Int)) ≤ 9223372036854775807 := ⟨by omega, ob5p⟩
        refine AWp.regC [] [] [6, 25, 26, 27] [6001] ⟨36, [(6, .own 6001), (25, vL 1 eLWJ [] x1), (26, .int .i64 (((x1).length : Nat) : Int)), (27, .int .i64 (((n6 + 1) : Nat) : Int))], [(6001, bL 28 1 eW 0#16 (l7 ++ (x1.getD n6 [])))], [], 0⟩ ((-9223372036854775808 ≤ (((n6 : Nat) : Int) + (1 : Int)) ∧ (((n6 : Nat) : Int) + (1 : Int)) ≤ 9223372036854775807) ∧ True) Tryd_mixed (by kernel_rfl) ⟨ob5, trivial⟩ ?_
        rw [hC1] at h
        exact loopQ_normal (_, (n6 + 1), (l7 ++ (x1.getD n6 []))) (Le.mk (s := ⟨36, [(6, .own 6001), (25, vL 1 eLWJ [] x1), (26, .int .i64 (((x1).length : Nat) : Int)), (27, .int .i64 (((n6 + 1) : Nat) : Int))], [(6001, bL 28 1 eW 0#16 (l7 ++ (x1.getD n6 [])))], [], 0⟩) (s' := ⟨36, [(6, .own 6001), (25, vL 1 eLWJ [] x1), (26, .int .i64 (((x1).length : Nat) : Int)), (27, .int .i64 (((n6 + 1) : Nat) : Int))], [(6001, bL 28 1 eW 0#16 (l7 ++ (x1.getD n6 [])))], [], 0⟩) rfl rfl ⟨.refl _, .refl _, .refl _, .refl _, trivial⟩ ⟨⟨_, rfl, .refl _⟩, trivial⟩) h (Nat.lt_succ_self _)
      ·
        replace h := ite_fb hc3 h
        refine AWp.exit ?_
        refine thenQ_exit ?_
        refine thenQ_exit ?_
        refine blockQ_same ?_
        exact joinQ_normal (l7) (Le.mk (s := ⟨36, [(6, .own 6001), (25, vL 1 eLWJ [] x1), (26, .int .i64 (((x1).length : Nat) : Int)), (27, .int .i64 ((n6 : Nat) : Int)), (28, .bool (decide (((n6 : Nat) : Int) < (((x1).length : Nat) : Int))))], [(6001, bL 28 1 eW 0#16 l7)], [], 0⟩) (s' := ⟨36, [(6, .own 6001)], [(6001, bL 28 1 eW 0#16 l7)], [], 0⟩) rfl rfl ⟨.refl _, trivial⟩ ⟨⟨_, rfl, .refl _⟩, trivial⟩) h
    ·
      rintro l8 h
      replace h := (congrFun hK2 _).symm.trans h
      refine AWp.seq ?_
      refine AWp.regC [] [] [2] [6001] ⟨36, [(2, .own 6001)], [(6001, bL 28 1 eW 0#16 l8)], [], 0⟩ (True) Tryd_mixed (by kernel_rfl) trivial ?_
      refine thenQ_normal ?_
      refine AWp.le (Le.trans (Le.ren (s := ⟨36, [(2, .own 6001)], [(6001, bL 28 1 eW 0#16 l8)], [], 0⟩) (swapN 6001 3000) (swapN_inv 6001 3000) rfl) (Le.mk (s' := ⟨36, [(2, .own 3000)], [(3000, bL 28 1 eW 0#16 l8)], [], 0⟩) rfl rfl ⟨.refl _, trivial⟩ ⟨⟨_, rfl, .refl _⟩, trivial⟩)) ?_
      have hret := Option.some.inj h
      subst hret
      refine AWp.le (Le.mk (s := ⟨36, [(2, .own 3000)], [(3000, bL 28 1 eW 0#16 l8)], [], 0⟩) (s' := ⟨36, [(2, .own 3000)], [(3000, bL 28 1 eW 0#16 l8)], [], 0⟩) rfl rfl ⟨.refl _, trivial⟩ ⟨⟨_, rfl, .refl _⟩, trivial⟩) ?_
      refine AWp.ret ?_
      exact bodyQ_ret _ rfl ⟨rfl, rfl⟩ rfl
def f19 (x1 : List (BitVec 16)) (x2 : List (BitVec 16)) : Option (List (BitVec 16) × Int) :=
  (f48 x1 x2).bind fun (r3 : Int) =>
  if (r3 != (0 : Int)) then (
  some ([], r3)
  ) else (
  (f50 [x1, x2]).bind fun (r4 : List (BitVec 16)) =>
  (f43 r4).bind fun (r5 : List (BitVec 16)) =>
  (f49 r5).bind fun (r6 : List (BitVec 16) × Int) =>
  some (r6.1, r6.2)
  )
set_option maxRecDepth 100000 in
theorem f19_ok  (x1 : List (BitVec 16)) (x2 : List (BitVec 16)) (r : List (BitVec 16) × Int) (h : f19 x1 x2 = some r)  : Spec1 Tryd.prog 19 [] [] [] [vL 1 eW 0#16 x1, vL 1 eW 0#16 x2] (.tup [vL 1 eW 0#16 r.1, .int .i64 r.2]) [] := by
  unfold f19 at h
  refine Spec1.body 0 _ _ Tryd.func19 rfl Tryd.ntmps19 rfl rfl ?_
  refine AWp.seq ?_
  refine AWp.regC [] [] [0, 1] [] ⟨21, [(0, vL 1 eW 0#16 x1), (1, vL 1 eW 0#16 x2)], [], [], 0⟩ (True) Tryd_mixed (by kernel_rfl) trivial ?_
  refine thenQ_normal ?_
  refine AWp.seq ?_
  refine AWp.seq ?_
  obtain ⟨r3, hr3, h⟩ := bind_ok h
  refine AWp.regC [] [(2, ⟨[vL 1 eW 0#16 x1, vL 1 eW 0#16 x2], [], [], [], .int .i64 r3, [], [], []⟩)] [0, 1, 6] [] ⟨21, [(0, vL 1 eW 0#16 x1), (1, vL 1 eW 0#16 x2), (6, .int .i64 r3)], [], [], 0⟩ ((callP Tryd.prog true 48 [] [] [] [] [] [vL 1 eW 0#16 x1, vL 1 eW 0#16 x2] [vL 1 eW 0#16 x1, vL 1 eW 0#16 x2] (.int .i64 r3) []) ∧ True) Tryd_mixed (by kernel_rfl) ⟨⟨fun _ => (f48_ok x1 x2 r3 hr3), fun _ => ⟨.refl _, .refl _, trivial⟩, .inl rfl⟩, trivial⟩ ?_
  refine thenQ_normal ?_
  refine AWp.seq ?_
  refine AWp.regC [] [] [0, 1, 6, 11] [] ⟨21, [(0, vL 1 eW 0#16 x1), (1, vL 1 eW 0#16 x2), (6, .int .i64 r3), (11, .bool (r3 != (0 : Int)))], [], [], 0⟩ (True) Tryd_mixed (by kernel_rfl) trivial ?_
  refine thenQ_normal ?_
  refine AWp.cond (b := (r3 != (0 : Int))) (by kernel_rfl) (fun hc1 => ?_) (fun hc1 => ?_)
  ·
    replace h := ite_tb hc1 h
    refine AWp.seq ?_
    refine AWp.regC [] [] [4, 5] [] ⟨21, [(4, .nils), (5, .int .i64 r3)], [], [], 0⟩ (True) Tryd_mixed (by kernel_rfl) trivial ?_
    refine thenQ_normal ?_
    have hret := Option.some.inj h
    subst hret
    refine AWp.le (Le.mk (s := ⟨21, [(4, .nils), (5, .int .i64 r3)], [], [], 0⟩) (s' := ⟨21, [(4, vL 1 eW 0#16 []), (5, .int .i64 r3)], [], [], 0⟩) rfl rfl ⟨.nilL, .refl _, trivial⟩ trivial) ?_
    refine AWp.ret ?_
    refine thenQ_ret ?_
    exact bodyQ_ret _ rfl ⟨rfl, rfl⟩ rfl
  ·
    replace h := ite_fb hc1 h
    refine AWp.skip ?_
    refine thenQ_normal ?_
    refine AWp.seq ?_
    obtain ⟨r4, hr4, h⟩ := bind_ok h
    obtain ⟨r5, hr5, h⟩ := bind_ok h
    obtain ⟨r6, hr6, h⟩ := bind_ok h
    refine AWp.regC [] [(3, ⟨[vL 1 eLWJ [] [x1, x2]], [], [], [(6001, bL 28 1 eW 0#16 r4)], .own 6001, [6001], [15], []⟩), (4, ⟨[vL 1 eW 0#16 r4], [], [], [(6002, bL 28 1 eW 0#16 r5)], .own 6002, [6002], [6001], []⟩), (5, ⟨[.own 6002], [6002], [], [], .tup [vL 1 eW 0#16 r6.1, .int .i64 r6.2], [], [], []⟩)] [4, 5] [] ⟨21, [(4, vL 1 eW 0#16 r6.1), (5, .int .i64 r6.2)], [], [], 0⟩ ((callP Tryd.prog true 50 [] [] [] [(15, .rows 22 1 2 (lstF 1 [vL 1 eW 0#16 x1, vL 1 eW 0#16 x2]))] [15] [.own 15] [vL 1 eLWJ [] [x1, x2]] (.own 6001) [(6001, bL 28 1 eW 0#16 r4)]) ∧ (callP Tryd.prog true 43 [] [] [] [(6001, bL 28 1 eW 0#16 r4)] [6001] [.own 6001] [vL 1 eW 0#16 r4] (.own 6002) [(6002, bL 28 1 eW 0#16 r5)]) ∧ (callP Tryd.prog true 49 [] [] [(6002, bL 28 1 eW 0#16 r5)] [] [] [.own 6002] [.own 6002] (.tup [vL 1 eW 0#16 r6.1, .int .i64 r6.2]) []) ∧ True) Tryd_mixed (by kernel_rfl) ⟨⟨fun _ => (Spec1.ren (swapN 3000 6001) (swapN_inv 3000 6001) rfl (f50_ok [x1, x2] r4 hr4)), fun _ => ⟨(VLe.of (RL.lst (enc := eLWJ) [x1, x2] rfl rfl (fun _ => rfl))), trivial⟩, .inr ⟨rfl, ⟨(fun _ _ _ _ => eW_flat _ _), trivial⟩⟩⟩, ⟨fun _ => (Spec1.ren (swapN 3000 6002) (swapN_inv 3000 6002) rfl (f43_ok r4 r5 hr5)), fun _ => ⟨.refl _, trivial⟩, .inr ⟨rfl, ⟨(fun _ _ _ _ => eW_flat _ _), trivial⟩⟩⟩, ⟨fun _ => (Spec1.pre (f49_ok r5 r6 hr6) rfl rfl rfl (Le.trans (Le.freeze (s := ⟨1, [(0, .own 6002)], [(6002, bL 28 1 eW 0#16 r5)], [], 0⟩) 6002 rfl rfl) (Le.mk (s' := ⟨1, [(0, vL 1 eW 0#16 r5)], [], [], 0⟩) rfl rfl ⟨.refl _, trivial⟩ trivial))), fun _ => ⟨.refl _, trivial⟩, .inl rfl⟩, trivial⟩ ?_
    refine thenQ_normal ?_
    have hret := Option.some.inj h
    subst hret
    refine AWp.le (Le.mk (s := ⟨21, [(4, vL 1 eW 0#16 r6.1), (5, .int .i64 r6.2)], [], [], 0⟩) (s' := ⟨21, [(4, vL 1 eW 0#16 r6.1), (5, .int .i64 r6.2)], [], [], 0⟩) rfl rfl ⟨.refl _, .refl _, trivial⟩ trivial) ?_
    refine AWp.ret ?_
    exact bodyQ_ret _ rfl ⟨rfl, rfl⟩ rfl
def f23_L0 (x1 : List (BitVec 16)) (x2 : BitVec 16) (K1 : (List (BitVec 16)) → Option (List (BitVec 16) × Int)) : Nat → (Nat × List (BitVec 16)) → Option (List (BitVec 16) × Int)
  | 0, _ => none
  | k + 1, (n4, l5) =>
    if (decide (((n4 : Nat) : Int) < (((x1).length : Nat) : Int))) then (
    chk (((n4 : Nat) : Int) < (((x1).length : Nat) : Int)) <|
    chk (((l5).length + 1) * 2 ≤ 140737488355328) <|
    chk ((((n4 : Nat) : Int) + (1 : Int)) ≤ 9223372036854775807) <|
    (f23_L0 x1 x2 K1 k) ((n4 + 1), (l5 ++ [((x1.getD n4 0#16) &&& ~~~x2)]))
    ) else (
    K1 l5
    )
def f23 (x1 : List (BitVec 16)) (x2 : BitVec 16) : Option (List (BitVec 16) × Int) :=
  (f11 x1).bind fun (r3 : Int) =>
  if (r3 != (0 : Int)) then (
  some ([], r3)
  ) else (
  jn (fun (l6 : List (BitVec 16)) =>
  (f43 l6).bind fun (r7 : List (BitVec 16)) =>
  (f49 r7).bind fun (r8 : List (BitVec 16) × Int) =>
  some (r8.1, r8.2)
  ) fun (K1 : (List (BitVec 16)) → Option (List (BitVec 16) × Int)) =>
  f23_L0 x1 x2 K1 FUEL (0, [])
  )
set_option maxRecDepth 100000 in
theorem f23_ok  (x1 : List (BitVec 16)) (x2 : BitVec 16) (r : List (BitVec 16) × Int) (h : f23 x1 x2 = some r)  : Spec1 Tryd.prog 23 [] [] [] [vL 1 eW 0#16 x1, .b16 x2] (.tup [vL 1 eW 0#16 r.1, .int .i64 r.2]) [] := by
  unfold f23 at h
  refine Spec1.body 0 _ _ Tryd.func23 rfl Tryd.ntmps23 rfl rfl ?_
  refine AWp.seq ?_
  refine AWp.regC [] [] [0, 1] [] ⟨33, [(0, vL 1 eW 0#16 x1), (1, .b16 x2)], [], [], 0⟩ (True) Tryd_mixed (by kernel_rfl) trivial ?_
  refine thenQ_normal ?_
  refine AWp.seq ?_
  refine AWp.seq ?_
  obtain ⟨r3, hr3, h⟩ := bind_ok h
  refine AWp.regC [] [(1, ⟨[vL 1 eW 0#16 x1], [], [], [], .int .i64 r3, [], [], []⟩)] [0, 1, 6] [] ⟨33, [(0, vL 1 eW 0#16 x1), (1, .b16 x2), (6, .int .i64 r3)], [], [], 0⟩ ((callP Tryd.prog true 11 [] [] [] [] [] [vL 1 eW 0#16 x1] [vL 1 eW 0#16 x1] (.int .i64 r3) []) ∧ True) Tryd_mixed (by kernel_rfl) ⟨⟨fun _ => (f11_ok x1 r3 hr3), fun _ => ⟨.refl _, trivial⟩, .inl rfl⟩, trivial⟩ ?_
  refine thenQ_normal ?_
  refine AWp.seq ?_
  refine AWp.regC [] [] [0, 1, 6, 13] [] ⟨33, [(0, vL 1 eW 0#16 x1), (1, .b16 x2), (6, .int .i64 r3), (13, .bool (r3 != (0 : Int)))], [], [], 0⟩ (True) Tryd_mixed (by kernel_rfl) trivial ?_
  refine thenQ_normal ?_
  refine AWp.cond (b := (r3 != (0 : Int))) (by kernel_rfl) (fun hc1 => ?_) (fun hc1 => ?_)
  ·
    replace h := ite_tb hc1 h
    refine AWp.seq ?_
    refine AWp.regC [] [] [4, 5] [] ⟨33, [(4, .nils), (5, .int .i64 r3)], [], [], 0⟩ (True) Tryd_mixed (by kernel_rfl) trivial ?_
    refine thenQ_normal ?_
    have hret := Option.some.inj h
    subst hret
    refine AWp.le (Le.mk (s := ⟨33, [(4, .nils), (5, .int .i64 r3)], [], [], 0⟩) (s' := ⟨33, [(4, vL 1 eW 0#16 []), (5, .int .i64 r3)], [], [], 0⟩) rfl rfl ⟨.nilL, .refl _, trivial⟩ trivial) ?_
    refine AWp.ret ?_
    refine thenQ_ret ?_
    exact bodyQ_ret _ rfl ⟨rfl, rfl⟩ rfl
  ·
    replace h := ite_fb hc1 h
    refine AWp.skip ?_
    refine thenQ_normal ?_
    refine AWp.seq ?_
    refine AWp.regC [] [] [0, 1, 7] [] ⟨33, [(0, vL 1 eW 0#16 x1), (1, .b16 x2), (7, .nils)], [], [], 0⟩ (True) Tryd_mixed (by kernel_rfl) trivial ?_
    refine thenQ_normal ?_
    obtain ⟨K1, hK1, h⟩ := jn_some h
    refine AWp.join (α := List (BitVec 16)) (fun (l6 : List (BitVec 16)) => ⟨33, [(7, .own 5007)], [(5007, bL 28 1 eW 0#16 l6)], [], 0⟩) (fun x => K1 x = some r) ?_ ?_
    ·
      refine AWp.seq ?_
      refine AWp.regC [] [] [1, 7, 15, 16, 17] [] ⟨33, [(1, .b16 x2), (7, .nils), (15, vL 1 eW 0#16 x1), (16, .int .i64 (((x1).length : Nat) : Int)), (17, .int .i64 (0 : Int))], [], [], 0⟩ (True) Tryd_mixed (by kernel_rfl) trivial ?_
      refine thenQ_normal ?_
      refine AWp.block ?_
      refine AWp.loopL (α := Nat × (Nat × List (BitVec 16))) (fun x => match x with | (_, n4, l5) => ⟨33, [(1, .b16 x2), (7, .own 5007), (15, vL 1 eW 0#16 x1), (16, .int .i64 (((x1).length : Nat) : Int)), (17, .int .i64 ((n4 : Nat) : Int))], [(5007, bL 28 1 eW 0#16 l5)], [], 0⟩) (fun x => f23_L0 x1 x2 K1 x.1 x.2 = some r) (fun x => x.1) (FUEL, 0, []) (Le.trans (Le.trans (Le.nilOwn (s := ⟨33, [(1, .b16 x2), (7, .nils), (15, vL 1 eW 0#16 x1), (16, .int .i64 (((x1).length : Nat) : Int)), (17, .int .i64 (0 : Int))], [], [], 0⟩) 7 5007 28 1 (encF eW 0#16 []) rfl rfl (Nat.le_of_ble_eq_true rfl)) (Le.mk (s' := ⟨33, [(1, .b16 x2), (7, .own 5007), (15, vL 1 eW 0#16 x1), (16, .int .i64 (((x1).length : Nat) : Int)), (17, .int .i64 (0 : Int))], [(5007, bL 28 1 eW 0#16 [])], [], 0⟩) rfl rfl ⟨.refl _, .refl _, .refl _, .refl _, .refl _, trivial⟩ ⟨⟨_, rfl, .refl _⟩, trivial⟩)) (Le.mk (s := ⟨33, [(1, .b16 x2), (7, .own 5007), (15, vL 1 eW 0#16 x1), (16, .int .i64 (((x1).length : Nat) : Int)), (17, .int .i64 (0 : Int))], [(5007, bL 28 1 eW 0#16 [])], [], 0⟩) (s' := ⟨33, [(1, .b16 x2), (7, .own 5007), (15, vL 1 eW 0#16 x1), (16, .int .i64 (((x1).length : Nat) : Int)), (17, .int .i64 (0 : Int))], [(5007, bL 28 1 eW 0#16 [])], [], 0⟩) rfl rfl ⟨.refl _, .refl _, .refl _, .refl _, .refl _, trivial⟩ ⟨⟨_, rfl, .refl _⟩, trivial⟩)) h ?_
      rintro ⟨k0, n4, l5⟩ h
      cases k0 with
      | zero => exact nomatch (show (none : Option (List (BitVec 16) × Int)) = some r from h)
      | succ k0 =>
      obtain ⟨C0, hC0⟩ : ∃ C, C = f23_L0 x1 x2 K1 k0 := ⟨_, rfl⟩
      replace h := (f23_L0.eq_2 ..).symm.trans h
      try rw [← hC0] at h
      refine AWp.seq ?_
      refine AWp.regC [] [] [1, 7, 15, 16, 17, 18] [5007] ⟨33, [(1, .b16 x2), (7, .own 5007), (15, vL 1 eW 0#16 x1), (16, .int .i64 (((x1).length : Nat) : Int)), (17, .int .i64 ((n4 : Nat) : Int)), (18, .bool (decide (((n4 : Nat) : Int) < (((x1).length : Nat) : Int))))], [(5007, bL 28 1 eW 0#16 l5)], [], 0⟩ (True) Tryd_mixed (by kernel_rfl) trivial ?_
      refine thenQ_normal ?_
      refine AWp.seq ?_
      refine AWp.cond (b := (decide (((n4 : Nat) : Int) < (((x1).length : Nat) : Int)))) (by kernel_rfl) (fun hc2 => ?_) (fun hc2 => ?_)
      ·
        replace h := ite_tb hc2 h
        refine AWp.skip ?_
        refine thenQ_normal ?_
        refine AWp.seq ?_
        refine AWp.block ?_
        refine AWp.seq ?_
        obtain ⟨ob0p, h⟩ := chk_some h
        have ob0 : 0 ≤ ((n4 : Nat) : Int) ∧ ((n4 : Nat) : Int) < (((x1).length : Nat) : Int) := ⟨by omega, ob0p⟩
        refine AWp.regC [] [] [1, 7, 9, 15, 16, 17] [5007] ⟨33, [(1, .b16 x2), (7, .own 5007), (9, .b16 (x1.getD n4 0#16)), (15, vL 1 eW 0#16 x1), (16, .int .i64 (((x1).length : Nat) : Int)), (17, .int .i64 ((n4 : Nat) : Int))], [(5007, bL 28 1 eW 0#16 l5)], [], 0⟩ ((0 ≤ ((n4 : Nat) : Int) ∧ ((n4 : Nat) : Int) < (((x1).length : Nat) : Int)) ∧ True) Tryd_mixed (by kernel_rfl) ⟨ob0, trivial⟩ ?_
        refine thenQ_normal ?_
        obtain ⟨ob1, h⟩ := chk_some h
        refine AWp.regC [] [] [1, 7, 15, 16, 17] [5007] ⟨33, [(1, .b16 x2), (7, .own 5007), (15, vL 1 eW 0#16 x1), (16, .int .i64 (((x1).length : Nat) : Int)), (17, .int .i64 ((n4 : Nat) : Int))], [(5007, .rows 28 1 ((l5).length + 1) (appF (l5).length (encF eW 0#16 l5) (lstF 1 [.b16 ((x1.getD n4 0#16) &&& ~~~x2)])))], [], 0⟩ ((((l5).length + 1) * 2 ≤ 140737488355328) ∧ True) Tryd_mixed (by kernel_rfl) ⟨ob1, trivial⟩ ?_
        refine blockQ_normal ?_
        refine thenQ_normal ?_
        refine AWp.le (Le.mk (s := ⟨33, [(1, .b16 x2), (7, .own 5007), (15, vL 1 eW 0#16 x1), (16, .int .i64 (((x1).length : Nat) : Int)), (17, .int .i64 ((n4 : Nat) : Int))], [(5007, .rows 28 1 ((l5).length + 1) (appF (l5).length (encF eW 0#16 l5) (lstF 1 [.b16 ((x1.getD n4 0#16) &&& ~~~x2)])))], [], 0⟩) (s' := ⟨33, [(1, .b16 x2), (7, .own 5007), (15, vL 1 eW 0#16 x1), (16, .int .i64 (((x1).length : Nat) : Int)), (17, .int .i64 ((n4 : Nat) : Int))], [(5007, bL 28 1 eW 0#16 (l5 ++ [((x1.getD n4 0#16) &&& ~~~x2)]))], [], 0⟩) rfl rfl ⟨.refl _, .refl _, .refl _, .refl _, .refl _, trivial⟩ ⟨⟨_, rfl, (BLe.of (RL.app (RL.self _) (RL.lst (enc := eW) [((x1.getD n4 0#16) &&& ~~~x2)] rfl rfl (fun _ => rfl))))⟩, trivial⟩) ?_
        obtain ⟨ob2p, h⟩ := chk_some h
        have ob2 : -9223372036854775808 ≤ (((n4 : Nat) : Int) + (1 : Int)) ∧ (((n4 : Nat) : Int) + (1 : Int)) ≤ 9223372036854775807 := ⟨by omega, ob2p⟩
        refine AWp.regC [] [] [1, 7, 15, 16, 17] [5007] ⟨33, [(1, .b16 x2), (7, .own 5007), (15, vL 1 eW 0#16 x1), (16, .int .i64 (((x1).length : Nat) : Int)), (17, .int .i64 (((n4 + 1) : Nat) : Int))], [(5007, bL 28 1 eW 0#16 (l5 ++ [((x1.getD n4 0#16) &&& ~~~x2)]))], [], 0⟩ ((-9223372036854775808 ≤ (((n4 : Nat) : Int) + (1 : Int)) ∧ (((n4 : Nat) : Int) + (1 : Int)) ≤ 9223372036854775807) ∧ True) Tryd_mixed (by kernel_rfl) ⟨ob2, trivial⟩ ?_
        rw [hC0] at h
        exact loopQ_normal (_, (n4 + 1), (l5 ++ [((x1.getD n4 0#16) &&& ~~~x2)])) (Le.mk (s := ⟨33, [(1, .b16 x2), (7, .own 5007), (15, vL 1 eW 0#16 x1), (16, .int .i64 (((x1).length : Nat) : Int)), (17, .int .i64 (((n4 + 1) : Nat) : Int))], [(5007, bL 28 1 eW 0#16 (l5 ++ [((x1.getD n4 0#16) &&& ~~~x2)]))], [], 0⟩) (s' := ⟨33, [(1, .b16 x2), (7, .own 5007), (15, vL 1 eW 0#16 x1), (16, .int .i64 (((x1).length : Nat) : Int)), (17, .int .i64 (((n4 + 1) : Nat) : Int))], [(5007, bL 28 1 eW 0#16 (l5 ++ [((x1.getD n4 0#16) &&& ~~~x2)]))], [], 0⟩) rfl rfl ⟨.refl _, .refl _, .refl _, .refl _, .refl _, trivial⟩ ⟨⟨_, rfl, .refl _⟩, trivial⟩) h (Nat.lt_succ_self _)
      ·
        replace h := ite_fb hc2 h
        refine AWp.exit ?_
        refine thenQ_exit ?_
        refine thenQ_exit ?_
        refine blockQ_same ?_
        exact joinQ_normal (l5) (Le.mk (s := ⟨33, [(1, .b16 x2), (7, .own 5007), (15, vL 1 eW 0#16 x1), (16, .int .i64 (((x1).length : Nat) : Int)), (17, .int .i64 ((n4 : Nat) : Int)), (18, .bool (decide (((n4 : Nat) : Int) < (((x1).length : Nat) : Int))))], [(5007, bL 28 1 eW 0#16 l5)], [], 0⟩) (s' := ⟨33, [(7, .own 5007)], [(5007, bL 28 1 eW 0#16 l5)], [], 0⟩) rfl rfl ⟨.refl _, trivial⟩ ⟨⟨_, rfl, .refl _⟩, trivial⟩) h
    ·
      rintro l6 h
      replace h := (congrFun hK1 _).symm.trans h
      refine AWp.seq ?_
      obtain ⟨r7, hr7, h⟩ := bind_ok h
      obtain ⟨r8, hr8, h⟩ := bind_ok h
      refine AWp.regC [] [(1, ⟨[vL 1 eW 0#16 l6], [], [], [(6001, bL 28 1 eW 0#16 r7)], .own 6001, [6001], [5007], []⟩), (2, ⟨[.own 6001], [6001], [], [], .tup [vL 1 eW 0#16 r8.1, .int .i64 r8.2], [], [], []⟩)] [4, 5] [] ⟨33, [(4, vL 1 eW 0#16 r8.1), (5, .int .i64 r8.2)], [], [], 0⟩ ((callP Tryd.prog true 43 [] [] [] [(5007, bL 28 1 eW 0#16 l6)] [5007] [.own 5007] [vL 1 eW 0#16 l6] (.own 6001) [(6001, bL 28 1 eW 0#16 r7)]) ∧ (callP Tryd.prog true 49 [] [] [(6001, bL 28 1 eW 0#16 r7)] [] [] [.own 6001] [.own 6001] (.tup [vL 1 eW 0#16 r8.1, .int .i64 r8.2]) []) ∧ True) Tryd_mixed (by kernel_rfl) ⟨⟨fun _ => (Spec1.ren (swapN 3000 6001) (swapN_inv 3000 6001) rfl (f43_ok l6 r7 hr7)), fun _ => ⟨.refl _, trivial⟩, .inr ⟨rfl, ⟨(fun _ _ _ _ => eW_flat _ _), trivial⟩⟩⟩, ⟨fun _ => (Spec1.pre (f49_ok r7 r8 hr8) rfl rfl rfl (Le.trans (Le.freeze (s := ⟨1, [(0, .own 6001)], [(6001, bL 28 1 eW 0#16 r7)], [], 0⟩) 6001 rfl rfl) (Le.mk (s' := ⟨1, [(0, vL 1 eW 0#16 r7)], [], [], 0⟩) rfl rfl ⟨.refl _, trivial⟩ trivial))), fun _ => ⟨.refl _, trivial⟩, .inl rfl⟩, trivial⟩ ?_
      refine thenQ_normal ?_
      have hret := Option.some.inj h
      subst hret
      refine AWp.le (Le.mk (s := ⟨33, [(4, vL 1 eW 0#16 r8.1), (5, .int .i64 r8.2)], [], [], 0⟩) (s' := ⟨33, [(4, vL 1 eW 0#16 r8.1), (5, .int .i64 r8.2)], [], [], 0⟩) rfl rfl ⟨.refl _, .refl _, trivial⟩ trivial) ?_
      refine AWp.ret ?_
      exact bodyQ_ret _ rfl ⟨rfl, rfl⟩ rfl
def f25_L0 (x1 : List (BitVec 16)) (x2 : BitVec 16) (K1 : (List (BitVec 16)) → Option (Int × List (BitVec 16))) : Nat → (Nat × List (BitVec 16)) → Option (Int × List (BitVec 16))
  | 0, _ => none
  | k + 1, (n4, l5) =>
    if (decide (((n4 : Nat) : Int) < (((x1).length : Nat) : Int))) then (
    jn (fun (l6 : List (BitVec 16)) =>
    chk ((((n4 : Nat) : Int) + (1 : Int)) ≤ 9223372036854775807) <|
    (f25_L0 x1 x2 K1 k) ((n4 + 1), l6)
    ) fun (K2 : (List (BitVec 16)) → Option (Int × List (BitVec 16))) =>
    chk (((n4 : Nat) : Int) < (((x1).length : Nat) : Int)) <|
    if (((x1.getD n4 0#16) &&& x2) == (BitVec.ofInt 16 0)) then (
    chk (((l5).length + 1) * 2 ≤ 140737488355328) <|
    K2 (l5 ++ [(x1.getD n4 0#16)])
    ) else (
    K2 l5
    )
    ) else (
    K1 l5
    )
def f25 (x1 : List (BitVec 16)) (x2 : BitVec 16) : Option (Int × List (BitVec 16)) :=
  (f11 x1).bind fun (r3 : Int) =>
  if (r3 != (0 : Int)) then (
  some (r3, [])
  ) else (
  jn (fun (l7 : List (BitVec 16)) =>
  some ((0 : Int), l7)
  ) fun (K1 : (List (BitVec 16)) → Option (Int × List (BitVec 16))) =>
  f25_L0 x1 x2 K1 FUEL (0, [])
  )
set_option maxRecDepth 100000 in
theorem f25_ok  (x1 : List (BitVec 16)) (x2 : BitVec 16) (r : Int × List (BitVec 16)) (h : f25 x1 x2 = some r)  : Spec1 Tryd.prog 25 [] [] [] [vL 1 eW 0#16 x1, .b16 x2] (.tup [.own 3000, .int .i64 r.1]) [(3000, bL 28 1 eW 0#16 r.2)] := by
  unfold f25 at h
  refine Spec1.body 0 _ _ Tryd.func25 rfl Tryd.ntmps25 rfl rfl ?_
  refine AWp.seq ?_
  refine AWp.regC [] [] [0, 1] [] ⟨31, [(0, vL 1 eW 0#16 x1), (1, .b16 x2)], [], [], 0⟩ (True) Tryd_mixed (by kernel_rfl) trivial ?_
  refine thenQ_normal ?_
  refine AWp.seq ?_
  refine AWp.seq ?_
  obtain ⟨r3, hr3, h⟩ := bind_ok h
  refine AWp.regC [] [(1, ⟨[vL 1 eW 0#16 x1], [], [], [], .int .i64 r3, [], [], []⟩)] [0, 1, 6] [] ⟨31, [(0, vL 1 eW 0#16 x1), (1, .b16 x2), (6, .int .i64 r3)], [], [], 0⟩ ((callP Tryd.prog true 11 [] [] [] [] [] [vL 1 eW 0#16 x1] [vL 1 eW 0#16 x1] (.int .i64 r3) []) ∧ True) Tryd_mixed (by kernel_rfl) ⟨⟨fun _ => (f11_ok x1 r3 hr3), fun _ => ⟨.refl _, trivial⟩, .inl rfl⟩, trivial⟩ ?_
  refine thenQ_normal ?_
  refine AWp.seq ?_
  refine AWp.regC [] [] [0, 1, 6, 13] [] ⟨31, [(0, vL 1 eW 0#16 x1), (1, .b16 x2), (6, .int .i64 r3), (13, .bool (r3 != (0 : Int)))], [], [], 0⟩ (True) Tryd_mixed (by kernel_rfl) trivial ?_
  refine thenQ_normal ?_
  refine AWp.cond (b := (r3 != (0 : Int))) (by kernel_rfl) (fun hc1 => ?_) (fun hc1 => ?_)
  ·
    replace h := ite_tb hc1 h
    refine AWp.seq ?_
    refine AWp.regC [] [] [4, 5] [] ⟨31, [(4, .nils), (5, .int .i64 r3)], [], [], 0⟩ (True) Tryd_mixed (by kernel_rfl) trivial ?_
    refine thenQ_normal ?_
    refine AWp.le (Le.trans (Le.nilOwn (s := ⟨31, [(4, .nils), (5, .int .i64 r3)], [], [], 0⟩) 4 3000 28 1 (encF eW 0#16 []) rfl rfl (Nat.le_of_ble_eq_true rfl)) (Le.mk (s' := ⟨31, [(4, .own 3000), (5, .int .i64 r3)], [(3000, bL 28 1 eW 0#16 [])], [], 0⟩) rfl rfl ⟨.refl _, .refl _, trivial⟩ ⟨⟨_, rfl, .refl _⟩, trivial⟩)) ?_
    have hret := Option.some.inj h
    subst hret
    refine AWp.le (Le.mk (s := ⟨31, [(4, .own 3000), (5, .int .i64 r3)], [(3000, bL 28 1 eW 0#16 [])], [], 0⟩) (s' := ⟨31, [(4, .own 3000), (5, .int .i64 r3)], [(3000, bL 28 1 eW 0#16 [])], [], 0⟩) rfl rfl ⟨.refl _, .refl _, trivial⟩ ⟨⟨_, rfl, .refl _⟩, trivial⟩) ?_
    refine AWp.ret ?_
    refine thenQ_ret ?_
    exact bodyQ_ret _ rfl ⟨rfl, rfl⟩ rfl
  ·
    replace h := ite_fb hc1 h
    refine AWp.skip ?_
    refine thenQ_normal ?_
    refine AWp.seq ?_
    refine AWp.regC [] [] [0, 1, 7] [] ⟨31, [(0, vL 1 eW 0#16 x1), (1, .b16 x2), (7, .nils)], [], [], 0⟩ (True) Tryd_mixed (by kernel_rfl) trivial ?_
    refine thenQ_normal ?_
    obtain ⟨K1, hK1, h⟩ := jn_some h
    refine AWp.join (α := List (BitVec 16)) (fun (l7 : List (BitVec 16)) => ⟨31, [(7, .own 5007)], [(5007, bL 28 1 eW 0#16 l7)], [], 0⟩) (fun x => K1 x = some r) ?_ ?_
    ·
      refine AWp.seq ?_
      refine AWp.regC [] [] [1, 7, 15, 16, 17] [] ⟨31, [(1, .b16 x2), (7, .nils), (15, vL 1 eW 0#16 x1), (16, .int .i64 (((x1).length : Nat) : Int)), (17, .int .i64 (0 : Int))], [], [], 0⟩ (True) Tryd_mixed (by kernel_rfl) trivial ?_
      refine thenQ_normal ?_
      refine AWp.block ?_
      refine AWp.loopL (α := Nat × (Nat × List (BitVec 16))) (fun x => match x with | (_, n4, l5) => ⟨31, [(1, .b16 x2), (7, .own 5007), (15, vL 1 eW 0#16 x1), (16, .int .i64 (((x1).length : Nat) : Int)), (17, .int .i64 ((n4 : Nat) : Int))], [(5007, bL 28 1 eW 0#16 l5)], [], 0⟩) (fun x => f25_L0 x1 x2 K1 x.1 x.2 = some r) (fun x => x.1) (FUEL, 0, []) (Le.trans (Le.trans (Le.nilOwn (s := ⟨31, [(1, .b16 x2), (7, .nils), (15, vL 1 eW 0#16 x1), (16, .int .i64 (((x1).length : Nat) : Int)), (17, .int .i64 (0 : Int))], [], [], 0⟩) 7 5007 28 1 (encF eW 0#16 []) rfl rfl (Nat.le_of_ble_eq_true rfl)) (Le.mk (s' := ⟨31, [(1, .b16 x2), (7, .own 5007), (15, vL 1 eW 0#16 x1), (16, .int .i64 (((x1).length : Nat) : Int)), (17, .int .i64 (0 : Int))], [(5007, bL 28 1 eW 0#16 [])], [], 0⟩) rfl rfl ⟨.refl _, .refl _, .refl _, .refl _, .refl _, trivial⟩ ⟨⟨_, rfl, .refl _⟩, trivial⟩)) (Le.mk (s := ⟨31, [(1, .b16 x2), (7, .own 5007), (15, vL 1 eW 0#16 x1), (16, .int .i64 (((x1).length : Nat) : Int)), (17, .int .i64 (0 : Int))], [(5007, bL 28 1 eW 0#16 [])], [], 0⟩) (s' := ⟨31, [(1, .b16 x2), (7, .own 5007), (15, vL 1 eW 0#16 x1), (16, .int .i64 (((x1).length : Nat) : Int)), (17, .int .i64 (0 : Int))], [(5007, bL 28 1 eW 0#16 [])], [], 0⟩) rfl rfl ⟨.refl _, .refl _, .refl _, .refl _, .refl _, trivial⟩ ⟨⟨_, rfl, .refl _⟩, trivial⟩)) h ?_
      rintro ⟨k0, n4, l5⟩ h
      cases k0 with
      | zero => exact nomatch (show (none : Option (Int × List (BitVec 16))) = some r from h)
      | succ k0 =>
      obtain ⟨C0, hC0⟩ : ∃ C, C = f25_L0 x1 x2 K1 k0 := ⟨_, rfl⟩
      replace h := (f25_L0.eq_2 ..).symm.trans h
      try rw [← hC0] at h
      refine AWp.seq ?_
      refine AWp.regC [] [] [1, 7, 15, 16, 17, 18] [5007] ⟨31, [(1, .b16 x2), (7, .own 5007), (15, vL 1 eW 0#16 x1), (16, .int .i64 (((x1).length : Nat) : Int)), (17, .int .i64 ((n4 : Nat) : Int)), (18, .bool (decide (((n4 : Nat) : Int) < (((x1).length : Nat) : Int))))], [(5007, bL 28 1 eW 0#16 l5)], [], 0⟩ (True) Tryd_mixed (by kernel_rfl) trivial ?_
      refine thenQ_normal ?_
      refine AWp.seq ?_
      refine AWp.cond (b := (decide (((n4 : Nat) : Int) < (((x1).length : Nat) : Int)))) (by kernel_rfl) (fun hc2 => ?_) (fun hc2 => ?_)
      ·
        replace h := ite_tb hc2 h
        refine AWp.skip ?_
        refine thenQ_normal ?_
        obtain ⟨K2, hK2, h⟩ := jn_some h
        refine AWp.join (α := List (BitVec 16)) (fun (l6 : List (BitVec 16)) => ⟨31, [(1, .b16 x2), (7, .own 28), (15, vL 1 eW 0#16 x1), (16, .int .i64 (((x1).length : Nat) : Int)), (17, .int .i64 ((n4 : Nat) : Int))], [(28, bL 28 1 eW 0#16 l6)], [], 0⟩) (fun x => K2 x = some r) ?_ ?_
        ·
          refine AWp.block ?_
          refine AWp.seq ?_
          obtain ⟨ob0p, h⟩ := chk_some h
          have ob0 : 0 ≤ ((n4 : Nat) : Int) ∧ ((n4 : Nat) : Int) < (((x1).length : Nat) : Int) := ⟨by omega, ob0p⟩
          refine AWp.regC [] [] [1, 7, 9, 15, 16, 17] [5007] ⟨31, [(1, .b16 x2), (7, .own 5007), (9, .b16 (x1.getD n4 0#16)), (15, vL 1 eW 0#16 x1), (16, .int .i64 (((x1).length : Nat) : Int)), (17, .int .i64 ((n4 : Nat) : Int))], [(5007, bL 28 1 eW 0#16 l5)], [], 0⟩ ((0 ≤ ((n4 : Nat) : Int) ∧ ((n4 : Nat) : Int) < (((x1).length : Nat) : Int)) ∧ True) Tryd_mixed (by kernel_rfl) ⟨ob0, trivial⟩ ?_
          refine thenQ_normal ?_
          refine AWp.seq ?_
          refine AWp.regC [] [] [1, 7, 9, 15, 16, 17, 24] [5007] ⟨31, [(1, .b16 x2), (7, .own 5007), (9, .b16 (x1.getD n4 0#16)), (15, vL 1 eW 0#16 x1), (16, .int .i64 (((x1).length : Nat) : Int)), (17, .int .i64 ((n4 : Nat) : Int)), (24, .bool (((x1.getD n4 0#16) &&& x2) == (BitVec.ofInt 16 0)))], [(5007, bL 28 1 eW 0#16 l5)], [], 0⟩ (True) Tryd_mixed (by kernel_rfl) trivial ?_
          refine thenQ_normal ?_
          refine AWp.cond (b := (((x1.getD n4 0#16) &&& x2) == (BitVec.ofInt 16 0))) (by kernel_rfl) (fun hc3 => ?_) (fun hc3 => ?_)
          ·
            replace h := ite_tb hc3 h
            obtain ⟨ob1, h⟩ := chk_some h
            refine AWp.regC [] [] [1, 7, 15, 16, 17] [5007] ⟨31, [(1, .b16 x2), (7, .own 5007), (15, vL 1 eW 0#16 x1), (16, .int .i64 (((x1).length : Nat) : Int)), (17, .int .i64 ((n4 : Nat) : Int))], [(5007, .rows 28 1 ((l5).length + 1) (appF (l5).length (encF eW 0#16 l5) (lstF 1 [.b16 (x1.getD n4 0#16)])))], [], 0⟩ ((((l5).length + 1) * 2 ≤ 140737488355328) ∧ True) Tryd_mixed (by kernel_rfl) ⟨ob1, trivial⟩ ?_
            refine blockQ_normal ?_
            exact joinQ_normal ((l5 ++ [(x1.getD n4 0#16)])) (Le.trans (Le.mk (s := ⟨31, [(1, .b16 x2), (7, .own 5007), (15, vL 1 eW 0#16 x1), (16, .int .i64 (((x1).length : Nat) : Int)), (17, .int .i64 ((n4 : Nat) : Int))], [(5007, .rows 28 1 ((l5).length + 1) (appF (l5).length (encF eW 0#16 l5) (lstF 1 [.b16 (x1.getD n4 0#16)])))], [], 0⟩) (s' := ⟨31, [(1, .b16 x2), (7, .own 5007), (15, vL 1 eW 0#16 x1), (16, .int .i64 (((x1).length : Nat) : Int)), (17, .int .i64 ((n4 : Nat) : Int))], [(5007, bL 28 1 eW 0#16 (l5 ++ [(x1.getD n4 0#16)]))], [], 0⟩) rfl rfl ⟨.refl _, .refl _, .refl _, .refl _, .refl _, trivial⟩ ⟨⟨_, rfl, (BLe.of (RL.app (RL.self _) (RL.lst (enc := eW) [(x1.getD n4 0#16)] rfl rfl (fun _ => rfl))))⟩, trivial⟩) (Le.trans (Le.trans (Le.ren (s := ⟨31, [(1, .b16 x2), (7, .own 5007), (15, vL 1 eW 0#16 x1), (16, .int .i64 (((x1).length : Nat) : Int)), (17, .int .i64 ((n4 : Nat) : Int))], [(5007, bL 28 1 eW 0#16 (l5 ++ [(x1.getD n4 0#16)]))], [], 0⟩) (swapN 5007 28) (swapN_inv 5007 28) rfl) (Le.mk (s' := ⟨31, [(1, .b16 x2), (7, .own 28), (15, vL 1 eW 0#16 x1), (16, .int .i64 (((x1).length : Nat) : Int)), (17, .int .i64 ((n4 : Nat) : Int))], [(28, bL 28 1 eW 0#16 (l5 ++ [(x1.getD n4 0#16)]))], [], 0⟩) rfl rfl ⟨.refl _, .refl _, .refl _, .refl _, .refl _, trivial⟩ ⟨⟨_, rfl, .refl _⟩, trivial⟩)) (Le.mk (s := ⟨31, [(1, .b16 x2), (7, .own 28), (15, vL 1 eW 0#16 x1), (16, .int .i64 (((x1).length : Nat) : Int)), (17, .int .i64 ((n4 : Nat) : Int))], [(28, bL 28 1 eW 0#16 (l5 ++ [(x1.getD n4 0#16)]))], [], 0⟩) (s' := ⟨31, [(1, .b16 x2), (7, .own 28), (15, vL 1 eW 0#16 x1), (16, .int .i64 (((x1).length : Nat) : Int)), (17, .int .i64 ((n4 : Nat) : Int))], [(28, bL 28 1 eW 0#16 (l5 ++ [(x1.getD n4 0#16)]))], [], 0⟩) rfl rfl ⟨.refl _, .refl _, .refl _, .refl _, .refl _, trivial⟩ ⟨⟨_, rfl, .refl _⟩, trivial⟩))) h
          ·
            replace h := ite_fb hc3 h
            refine AWp.skip ?_
            refine blockQ_normal ?_
            exact joinQ_normal (l5) (Le.trans (Le.trans (Le.ren (s := ⟨31, [(1, .b16 x2), (7, .own 5007), (9, .b16 (x1.getD n4 0#16)), (15, vL 1 eW 0#16 x1), (16, .int .i64 (((x1).length : Nat) : Int)), (17, .int .i64 ((n4 : Nat) : Int)), (24, .bool (((x1.getD n4 0#16) &&& x2) == (BitVec.ofInt 16 0)))], [(5007, bL 28 1 eW 0#16 l5)], [], 0⟩) (swapN 5007 28) (swapN_inv 5007 28) rfl) (Le.mk (s' := ⟨31, [(1, .b16 x2), (7, .own 28), (9, .b16 (x1.getD n4 0#16)), (15, vL 1 eW 0#16 x1), (16, .int .i64 (((x1).length : Nat) : Int)), (17, .int .i64 ((n4 : Nat) : Int)), (24, .bool (((x1.getD n4 0#16) &&& x2) == (BitVec.ofInt 16 0)))], [(28, bL 28 1 eW 0#16 l5)], [], 0⟩) rfl rfl ⟨.refl _, .refl _, .refl _, .refl _, .refl _, .refl _, .refl _, trivial⟩ ⟨⟨_, rfl, .refl _⟩, trivial⟩)) (Le.mk (s := ⟨31, [(1, .b16 x2), (7, .own 28), (9, .b16 (x1.getD n4 0#16)), (15, vL 1 eW 0#16 x1), (16, .int .i64 (((x1).length : Nat) : Int)), (17, .int .i64 ((n4 : Nat) : Int)), (24, .bool (((x1.getD n4 0#16) &&& x2) == (BitVec.ofInt 16 0)))], [(28, bL 28 1 eW 0#16 l5)], [], 0⟩) (s' := ⟨31, [(1, .b16 x2), (7, .own 28), (15, vL 1 eW 0#16 x1), (16, .int .i64 (((x1).length : Nat) : Int)), (17, .int .i64 ((n4 : Nat) : Int))], [(28, bL 28 1 eW 0#16 l5)], [], 0⟩) rfl rfl ⟨.refl _, .refl _, .refl _, .refl _, .refl _, trivial⟩ ⟨⟨_, rfl, .refl _⟩, trivial⟩)) h
        ·
          rintro l6 h
          replace h := (congrFun hK2 _).symm.trans h
          obtain ⟨ob2p, h⟩ := chk_some h
          have ob2 : -9223372036854775808 ≤ (((n4 : Nat) : Int) + (1 : Int)) ∧ (((n4 : Nat) : Int) + (1 : Int)) ≤ 9223372036854775807 := ⟨by omega, ob2p⟩
          refine AWp.regC [] [] [1, 7, 15, 16, 17] [28] ⟨31, [(1, .b16 x2), (7, .own 28), (15, vL 1 eW 0#16 x1), (16, .int .i64 (((x1).length : Nat) : Int)), (17, .int .i64 (((n4 + 1) : Nat) : Int))], [(28, bL 28 1 eW 0#16 l6)], [], 0⟩ ((-9223372036854775808 ≤ (((n4 : Nat) : Int) + (1 : Int)) ∧ (((n4 : Nat) : Int) + (1 : Int)) ≤ 9223372036854775807) ∧ True) Tryd_mixed (by kernel_rfl) ⟨ob2, trivial⟩ ?_
          rw [hC0] at h
          exact loopQ_normal (_, (n4 + 1), l6) (Le.trans (Le.trans (Le.ren (s := ⟨31, [(1, .b16 x2), (7, .own 28), (15, vL 1 eW 0#16 x1), (16, .int .i64 (((x1).length : Nat) : Int)), (17, .int .i64 (((n4 + 1) : Nat) : Int))], [(28, bL 28 1 eW 0#16 l6)], [], 0⟩) (swapN 28 5007) (swapN_inv 28 5007) rfl) (Le.mk (s' := ⟨31, [(1, .b16 x2), (7, .own 5007), (15, vL 1 eW 0#16 x1), (16, .int .i64 (((x1).length : Nat) : Int)), (17, .int .i64 (((n4 + 1) : Nat) : Int))], [(5007, bL 28 1 eW 0#16 l6)], [], 0⟩) rfl rfl ⟨.refl _, .refl _, .refl _, .refl _, .refl _, trivial⟩ ⟨⟨_, rfl, .refl _⟩, trivial⟩)) (Le.mk (s := ⟨31, [(1, .b16 x2), (7, .own 5007), (15, vL 1 eW 0#16 x1), (16, .int .i64 (((x1).length : Nat) : Int)), (17, .int .i64 (((n4 + 1) : Nat) : Int))], [(5007, bL 28 1 eW 0#16 l6)], [], 0⟩) (s' := ⟨31, [(1, .b16 x2), (7, .own 5007), (15, vL 1 eW 0#16 x1), (16, .int .i64 (((x1).length : Nat) : Int)), (17, .int .i64 (((n4 + 1) : Nat) : Int))], [(5007, bL 28 1 eW 0#16 l6)], [], 0⟩) rfl rfl ⟨.refl _, .refl _, .refl _, .refl _, .refl _, trivial⟩ ⟨⟨_, rfl, .refl _⟩, trivial⟩)) h (Nat.lt_succ_self _)
      ·
        replace h := ite_fb hc2 h
        refine AWp.exit ?_
        refine thenQ_exit ?_
        refine thenQ_exit ?_
        refine blockQ_same ?_
        exact joinQ_normal (l5) (Le.mk (s := ⟨31, [(1, .b16 x2), (7, .own 5007), (15, vL 1 eW 0#16 x1), (16, .int .i64 (((x1).length : Nat) : Int)), (17, .int .i64 ((n4 : Nat) : Int)), (18, .bool (decide (((n4 : Nat) : Int) < (((x1).length : Nat) : Int))))], [(5007, bL 28 1 eW 0#16 l5)], [], 0⟩) (s' := ⟨31, [(7, .own 5007)], [(5007, bL 28 1 eW 0#16 l5)], [], 0⟩) rfl rfl ⟨.refl _, trivial⟩ ⟨⟨_, rfl, .refl _⟩, trivial⟩) h
    ·
      rintro l7 h
      replace h := (congrFun hK1 _).symm.trans h
      refine AWp.seq ?_
      refine AWp.regC [] [] [4, 5] [5007] ⟨31, [(4, .own 5007), (5, .int .i64 (0 : Int))], [(5007, bL 28 1 eW 0#16 l7)], [], 0⟩ (True) Tryd_mixed (by kernel_rfl) trivial ?_
      refine thenQ_normal ?_
      refine AWp.le (Le.trans (Le.ren (s := ⟨31, [(4, .own 5007), (5, .int .i64 (0 : Int))], [(5007, bL 28 1 eW 0#16 l7)], [], 0⟩) (swapN 5007 3000) (swapN_inv 5007 3000) rfl) (Le.mk (s' := ⟨31, [(4, .own 3000), (5, .int .i64 (0 : Int))], [(3000, bL 28 1 eW 0#16 l7)], [], 0⟩) rfl rfl ⟨.refl _, .refl _, trivial⟩ ⟨⟨_, rfl, .refl _⟩, trivial⟩)) ?_
      have hret := Option.some.inj h
      subst hret
      refine AWp.le (Le.mk (s := ⟨31, [(4, .own 3000), (5, .int .i64 (0 : Int))], [(3000, bL 28 1 eW 0#16 l7)], [], 0⟩) (s' := ⟨31, [(4, .own 3000), (5, .int .i64 (0 : Int))], [(3000, bL 28 1 eW 0#16 l7)], [], 0⟩) rfl rfl ⟨.refl _, .refl _, trivial⟩ ⟨⟨_, rfl, .refl _⟩, trivial⟩) ?_
      refine AWp.ret ?_
      exact bodyQ_ret _ rfl ⟨rfl, rfl⟩ rfl
def f66 (x1 : BitVec 16) : Option Bool :=
  some (!((x1 &&& (BitVec.ofInt 16 61440)) == (BitVec.ofInt 16 0)))
set_option maxRecDepth 100000 in
theorem f66_ok  (x1 : BitVec 16) (r : Bool) (h : f66 x1 = some r)  : Spec1 Tryd.prog 66 [] [] [] [.b16 x1] (.bool r) [] := by
  unfold f66 at h
  refine Spec1.body 0 _ _ Tryd.func66 rfl Tryd.ntmps66 rfl rfl ?_
  refine AWp.seq ?_
  refine AWp.regC [] [] [0] [] ⟨6, [(0, .b16 x1)], [], [], 0⟩ (True) Tryd_mixed (by kernel_rfl) trivial ?_
  refine thenQ_normal ?_
  refine AWp.seq ?_
  refine AWp.regC [] [] [2] [] ⟨6, [(2, .bool (!((x1 &&& (BitVec.ofInt 16 61440)) == (BitVec.ofInt 16 0))))], [], [], 0⟩ (True) Tryd_mixed (by kernel_rfl) trivial ?_
  refine thenQ_normal ?_
  have hret := Option.some.inj h
  subst hret
  refine AWp.le (Le.mk (s := ⟨6, [(2, .bool (!((x1 &&& (BitVec.ofInt 16 61440)) == (BitVec.ofInt 16 0))))], [], [], 0⟩) (s' := ⟨6, [(2, .bool (!((x1 &&& (BitVec.ofInt 16 61440)) == (BitVec.ofInt 16 0))))], [], [], 0⟩) rfl rfl ⟨.refl _, trivial⟩ trivial) ?_
  refine AWp.ret ?_
  exact bodyQ_ret _ rfl ⟨rfl, rfl⟩ rfl
def f73a_L0 (x1 : List (BitVec 16)) (K1 : Unit → Option Int) : Nat → Nat → Option Int
  | 0, _ => none
  | k + 1, n2 =>
    if (decide (((n2 : Nat) : Int) < (((x1).length : Nat) : Int))) then (
    (f66 (x1.getD n2 0#16)).bind fun (r3 : Bool) =>
    chk (((n2 : Nat) : Int) < (((x1).length : Nat) : Int)) <|
    if r3 then (
    some ((n2 : Nat) : Int)
    ) else (
    chk ((((n2 : Nat) : Int) + (1 : Int)) ≤ 9223372036854775807) <|
    (f73a_L0 x1 K1 k) (n2 + 1)
    )
    ) else (
    K1 ()
    )
def f73a (x1 : List (BitVec 16)) : Option Int :=
  jn (fun (_ : Unit) =>
  some (-1 : Int)
  ) fun (K1 : Unit → Option Int) =>
  f73a_L0 x1 K1 FUEL 0
set_option maxRecDepth 100000 in
theorem f73a_ok  (x1 : List (BitVec 16)) (r : Int) (h : f73a x1 = some r)  : Spec1 Tryd.prog 73 [] [] [] [vL 1 eW 0#16 x1, .fn (.func 66) []] (.int .i64 r) [] := by
  unfold f73a at h
  refine Spec1.body 0 _ _ Tryd.func73 rfl Tryd.ntmps73 rfl rfl ?_
  refine AWp.seq ?_
  refine AWp.regC [] [] [0, 1] [] ⟨19, [(0, vL 1 eW 0#16 x1), (1, .fn (.func 66) [])], [], [], 0⟩ (True) Tryd_mixed (by kernel_rfl) trivial ?_
  refine thenQ_normal ?_
  obtain ⟨K1, hK1, h⟩ := jn_some h
  refine AWp.join (α := Unit) (fun (x : Unit) => match x with | () => ⟨19, [], [], [], 0⟩) (fun x => K1 x = some r) ?_ ?_
  ·
    refine AWp.seq ?_
    refine AWp.regC [] [] [0, 1, 7, 8] [] ⟨19, [(0, vL 1 eW 0#16 x1), (1, .fn (.func 66) []), (7, .int .i64 (((x1).length : Nat) : Int)), (8, .int .i64 (0 : Int))], [], [], 0⟩ (True) Tryd_mixed (by kernel_rfl) trivial ?_
    refine thenQ_normal ?_
    refine AWp.block ?_
    refine AWp.loopL (α := Nat × Nat) (fun x => match x with | (_, n2) => ⟨19, [(0, vL 1 eW 0#16 x1), (1, .fn (.func 66) []), (7, .int .i64 (((x1).length : Nat) : Int)), (8, .int .i64 ((n2 : Nat) : Int))], [], [], 0⟩) (fun x => f73a_L0 x1 K1 x.1 x.2 = some r) (fun x => x.1) (FUEL, 0) (Le.mk (s := ⟨19, [(0, vL 1 eW 0#16 x1), (1, .fn (.func 66) []), (7, .int .i64 (((x1).length : Nat) : Int)), (8, .int .i64 (0 : Int))], [], [], 0⟩) (s' := ⟨19, [(0, vL 1 eW 0#16 x1), (1, .fn (.func 66) []), (7, .int .i64 (((x1).length : Nat) : Int)), (8, .int .i64 (0 : Int))], [], [], 0⟩) rfl rfl ⟨.refl _, .refl _, .refl _, .refl _, trivial⟩ trivial) h ?_
    rintro ⟨k0, n2⟩ h
    cases k0 with
    | zero => exact nomatch (show (none : Option Int) = some r from h)
    | succ k0 =>
    obtain ⟨C0, hC0⟩ : ∃ C, C = f73a_L0 x1 K1 k0 := ⟨_, rfl⟩
    replace h := (f73a_L0.eq_2 ..).symm.trans h
    try rw [← hC0] at h
    refine AWp.seq ?_
    refine AWp.regC [] [] [0, 1, 7, 8, 9] [] ⟨19, [(0, vL 1 eW 0#16 x1), (1, .fn (.func 66) []), (7, .int .i64 (((x1).length : Nat) : Int)), (8, .int .i64 ((n2 : Nat) : Int)), (9, .bool (decide (((n2 : Nat) : Int) < (((x1).length : Nat) : Int))))], [], [], 0⟩ (True) Tryd_mixed (by kernel_rfl) trivial ?_
    refine thenQ_normal ?_
    refine AWp.seq ?_
    refine AWp.cond (b := (decide (((n2 : Nat) : Int) < (((x1).length : Nat) : Int)))) (by kernel_rfl) (fun hc1 => ?_) (fun hc1 => ?_)
    ·
      replace h := ite_tb hc1 h
      refine AWp.skip ?_
      refine thenQ_normal ?_
      refine AWp.seq ?_
      refine AWp.block ?_
      refine AWp.seq ?_
      refine AWp.regC [] [] [0, 1, 5, 7, 8] [] ⟨19, [(0, vL 1 eW 0#16 x1), (1, .fn (.func 66) []), (5, .int .i64 ((n2 : Nat) : Int)), (7, .int .i64 (((x1).length : Nat) : Int)), (8, .int .i64 ((n2 : Nat) : Int))], [], [], 0⟩ (True) Tryd_mixed (by kernel_rfl) trivial ?_
      refine thenQ_normal ?_
      refine AWp.seq ?_
      obtain ⟨r3, hr3, h⟩ := bind_ok h
      obtain ⟨ob0p, h⟩ := chk_some h
      have ob0 : 0 ≤ ((n2 : Nat) : Int) ∧ ((n2 : Nat) : Int) < (((x1).length : Nat) : Int) := ⟨by omega, ob0p⟩
      refine AWp.regC [] [(5, ⟨[.b16 (x1.getD n2 0#16)], [], [], [], .bool r3, [], [], []⟩)] [0, 1, 5, 7, 8, 16] [] ⟨19, [(0, vL 1 eW 0#16 x1), (1, .fn (.func 66) []), (5, .int .i64 ((n2 : Nat) : Int)), (7, .int .i64 (((x1).length : Nat) : Int)), (8, .int .i64 ((n2 : Nat) : Int)), (16, .bool r3)], [], [], 0⟩ ((0 ≤ ((n2 : Nat) : Int) ∧ ((n2 : Nat) : Int) < (((x1).length : Nat) : Int)) ∧ (callP Tryd.prog true 66 [] [] [] [] [] [.b16 (x1.getD n2 0#16)] [.b16 (x1.getD n2 0#16)] (.bool r3) []) ∧ True) Tryd_mixed (by kernel_rfl) ⟨ob0, ⟨fun _ => (f66_ok (x1.getD n2 0#16) r3 hr3), fun _ => ⟨.refl _, trivial⟩, .inl rfl⟩, trivial⟩ ?_
      refine thenQ_normal ?_
      refine AWp.cond (b := r3) (by kernel_rfl) (fun hc2 => ?_) (fun hc2 => ?_)
      ·
        replace h := ite_tb hc2 h
        refine AWp.seq ?_
        refine AWp.regC [] [] [4] [] ⟨19, [(4, .int .i64 ((n2 : Nat) : Int))], [], [], 0⟩ (True) Tryd_mixed (by kernel_rfl) trivial ?_
        refine thenQ_normal ?_
        have hret := Option.some.inj h
        subst hret
        refine AWp.le (Le.mk (s := ⟨19, [(4, .int .i64 ((n2 : Nat) : Int))], [], [], 0⟩) (s' := ⟨19, [(4, .int .i64 ((n2 : Nat) : Int))], [], [], 0⟩) rfl rfl ⟨.refl _, trivial⟩ trivial) ?_
        refine AWp.ret ?_
        refine blockQ_ret ?_
        refine thenQ_ret ?_
        refine thenQ_ret ?_
        refine blockQ_ret ?_
        refine joinQ_ret ?_
        exact bodyQ_ret _ rfl ⟨rfl, rfl⟩ rfl
      ·
        replace h := ite_fb hc2 h
        refine AWp.skip ?_
        refine blockQ_normal ?_
        refine thenQ_normal ?_
        obtain ⟨ob1p, h⟩ := chk_some h
        have ob1 : -9223372036854775808 ≤ (((n2 : Nat) : Int) + (1 : Int)) ∧ (((n2 : Nat) : Int) + (1 : Int)) ≤ 9223372036854775807 := ⟨by omega, ob1p⟩
        refine AWp.regC [] [] [0, 1, 7, 8] [] ⟨19, [(0, vL 1 eW 0#16 x1), (1, .fn (.func 66) []), (7, .int .i64 (((x1).length : Nat) : Int)), (8, .int .i64 (((n2 + 1) : Nat) : Int))], [], [], 0⟩ ((-9223372036854775808 ≤ (((n2 : Nat) : Int) + (1 : Int)) ∧ (((n2 : Nat) : Int) + (1 : Int)) ≤ 9223372036854775807) ∧ True) Tryd_mixed (by kernel_rfl) ⟨ob1, trivial⟩ ?_
        rw [hC0] at h
        exact loopQ_normal (_, (n2 + 1)) (Le.mk (s := ⟨19, [(0, vL 1 eW 0#16 x1), (1, .fn (.func 66) []), (7, .int .i64 (((x1).length : Nat) : Int)), (8, .int .i64 (((n2 + 1) : Nat) : Int))], [], [], 0⟩) (s' := ⟨19, [(0, vL 1 eW 0#16 x1), (1, .fn (.func 66) []), (7, .int .i64 (((x1).length : Nat) : Int)), (8, .int .i64 (((n2 + 1) : Nat) : Int))], [], [], 0⟩) rfl rfl ⟨.refl _, .refl _, .refl _, .refl _, trivial⟩ trivial) h (Nat.lt_succ_self _)
    ·
      replace h := ite_fb hc1 h
      refine AWp.exit ?_
      refine thenQ_exit ?_
      refine thenQ_exit ?_
      refine blockQ_same ?_
      exact joinQ_normal () (Le.mk (s := ⟨19, [(0, vL 1 eW 0#16 x1), (1, .fn (.func 66) []), (7, .int .i64 (((x1).length : Nat) : Int)), (8, .int .i64 ((n2 : Nat) : Int)), (9, .bool (decide (((n2 : Nat) : Int) < (((x1).length : Nat) : Int))))], [], [], 0⟩) (s' := ⟨19, [], [], [], 0⟩) rfl rfl trivial trivial) h
  ·
    rintro ⟨⟩ h
    replace h := (congrFun hK1 _).symm.trans h
    refine AWp.seq ?_
    refine AWp.regC [] [] [4] [] ⟨19, [(4, .int .i64 (-1 : Int))], [], [], 0⟩ (True) Tryd_mixed (by kernel_rfl) trivial ?_
    refine thenQ_normal ?_
    have hret := Option.some.inj h
    subst hret
    refine AWp.le (Le.mk (s := ⟨19, [(4, .int .i64 (-1 : Int))], [], [], 0⟩) (s' := ⟨19, [(4, .int .i64 (-1 : Int))], [], [], 0⟩) rfl rfl ⟨.refl _, trivial⟩ trivial) ?_
    refine AWp.ret ?_
    exact bodyQ_ret _ rfl ⟨rfl, rfl⟩ rfl
def f53a (x1 : List (BitVec 16)) : Option Bool :=
  (f73a x1).bind fun (r2 : Int) =>
  some (decide (r2 ≥ (0 : Int)))
set_option maxRecDepth 100000 in
theorem f53a_ok  (x1 : List (BitVec 16)) (r : Bool) (h : f53a x1 = some r)  : Spec1 Tryd.prog 53 [] [] [] [vL 1 eW 0#16 x1, .fn (.func 66) []] (.bool r) [] := by
  unfold f53a at h
  refine Spec1.body 0 _ _ Tryd.func53 rfl Tryd.ntmps53 rfl rfl ?_
  refine AWp.seq ?_
  refine AWp.regC [] [] [0, 1] [] ⟨9, [(0, vL 1 eW 0#16 x1), (1, .fn (.func 66) [])], [], [], 0⟩ (True) Tryd_mixed (by kernel_rfl) trivial ?_
  refine thenQ_normal ?_
  refine AWp.seq ?_
  obtain ⟨r2, hr2, h⟩ := bind_ok h
  refine AWp.regC [] [(2, ⟨[vL 1 eW 0#16 x1, .fn (.func 66) []], [], [], [], .int .i64 r2, [], [], []⟩)] [4] [] ⟨9, [(4, .bool (decide (r2 ≥ (0 : Int))))], [], [], 0⟩ ((callP Tryd.prog true 73 [] [] [] [] [] [vL 1 eW 0#16 x1, .fn (.func 66) []] [vL 1 eW 0#16 x1, .fn (.func 66) []] (.int .i64 r2) []) ∧ True) Tryd_mixed (by kernel_rfl) ⟨⟨fun _ => (f73a_ok x1 r2 hr2), fun _ => ⟨.refl _, .refl _, trivial⟩, .inl rfl⟩, trivial⟩ ?_
  refine thenQ_normal ?_
  have hret := Option.some.inj h
  subst hret
  refine AWp.le (Le.mk (s := ⟨9, [(4, .bool (decide (r2 ≥ (0 : Int))))], [], [], 0⟩) (s' := ⟨9, [(4, .bool (decide (r2 ≥ (0 : Int))))], [], [], 0⟩) rfl rfl ⟨.refl _, trivial⟩ trivial) ?_
  refine AWp.ret ?_
  exact bodyQ_ret _ rfl ⟨rfl, rfl⟩ rfl
def f42 (x1 : List (BitVec 16)) : Option (List (BitVec 16) × Int) :=
  (f53a x1).bind fun (r2 : Bool) =>
  if r2 then (
  some ([], (7 : Int))
  ) else (
  (f43 x1).bind fun (r3 : List (BitVec 16)) =>
  (f49 r3).bind fun (r4 : List (BitVec 16) × Int) =>
  some (r4.1, r4.2)
  )
set_option maxRecDepth 100000 in
theorem f42_ok  (x1 : List (BitVec 16)) (r : List (BitVec 16) × Int) (h : f42 x1 = some r)  : Spec1 Tryd.prog 42 [] [] [] [vL 1 eW 0#16 x1, .fn (.func 43) []] (.tup [vL 1 eW 0#16 r.1, .int .i64 r.2]) [] := by
  unfold f42 at h
  refine Spec1.body 0 _ _ Tryd.func42 rfl Tryd.ntmps42 rfl rfl ?_
  refine AWp.seq ?_
  refine AWp.regC [] [] [0, 1] [] ⟨14, [(0, vL 1 eW 0#16 x1), (1, .fn (.func 43) [])], [], [], 0⟩ (True) Tryd_mixed (by kernel_rfl) trivial ?_
  refine thenQ_normal ?_
  refine AWp.seq ?_
  refine AWp.seq ?_
  obtain ⟨r2, hr2, h⟩ := bind_ok h
  refine AWp.regC [] [(1, ⟨[vL 1 eW 0#16 x1, .fn (.func 66) []], [], [], [], .bool r2, [], [], []⟩)] [0, 1, 7] [] ⟨14, [(0, vL 1 eW 0#16 x1), (1, .fn (.func 43) []), (7, .bool r2)], [], [], 0⟩ ((callP Tryd.prog true 53 [] [] [] [] [] [vL 1 eW 0#16 x1, .fn (.func 66) []] [vL 1 eW 0#16 x1, .fn (.func 66) []] (.bool r2) []) ∧ True) Tryd_mixed (by kernel_rfl) ⟨⟨fun _ => (f53a_ok x1 r2 hr2), fun _ => ⟨.refl _, .refl _, trivial⟩, .inl rfl⟩, trivial⟩ ?_
  refine thenQ_normal ?_
  refine AWp.cond (b := r2) (by kernel_rfl) (fun hc1 => ?_) (fun hc1 => ?_)
  ·
    replace h := ite_tb hc1 h
    refine AWp.seq ?_
    refine AWp.regC [] [] [4, 5] [] ⟨14, [(4, .nils), (5, .int .i64 (7 : Int))], [], [], 0⟩ (True) Tryd_mixed (by kernel_rfl) trivial ?_
    refine thenQ_normal ?_
    have hret := Option.some.inj h
    subst hret
    refine AWp.le (Le.mk (s := ⟨14, [(4, .nils), (5, .int .i64 (7 : Int))], [], [], 0⟩) (s' := ⟨14, [(4, vL 1 eW 0#16 []), (5, .int .i64 (7 : Int))], [], [], 0⟩) rfl rfl ⟨.nilL, .refl _, trivial⟩ trivial) ?_
    refine AWp.ret ?_
    refine thenQ_ret ?_
    exact bodyQ_ret _ rfl ⟨rfl, rfl⟩ rfl
  ·
    replace h := ite_fb hc1 h
    refine AWp.skip ?_
    refine thenQ_normal ?_
    refine AWp.seq ?_
    obtain ⟨r3, hr3, h⟩ := bind_ok h
    obtain ⟨r4, hr4, h⟩ := bind_ok h
    refine AWp.regC [] [(2, ⟨[vL 1 eW 0#16 x1], [], [], [(6001, bL 28 1 eW 0#16 r3)], .own 6001, [6001], [], []⟩), (3, ⟨[.own 6001], [6001], [], [], .tup [vL 1 eW 0#16 r4.1, .int .i64 r4.2], [], [], []⟩)] [4, 5] [] ⟨14, [(4, vL 1 eW 0#16 r4.1), (5, .int .i64 r4.2)], [], [], 0⟩ ((callP Tryd.prog true 43 [] [] [] [] [] [vL 1 eW 0#16 x1] [vL 1 eW 0#16 x1] (.own 6001) [(6001, bL 28 1 eW 0#16 r3)]) ∧ (callP Tryd.prog true 49 [] [] [(6001, bL 28 1 eW 0#16 r3)] [] [] [.own 6001] [.own 6001] (.tup [vL 1 eW 0#16 r4.1, .int .i64 r4.2]) []) ∧ True) Tryd_mixed (by kernel_rfl) ⟨⟨fun _ => (Spec1.ren (swapN 3000 6001) (swapN_inv 3000 6001) rfl (f43_ok x1 r3 hr3)), fun _ => ⟨.refl _, trivial⟩, .inl rfl⟩, ⟨fun _ => (Spec1.pre (f49_ok r3 r4 hr4) rfl rfl rfl (Le.trans (Le.freeze (s := ⟨1, [(0, .own 6001)], [(6001, bL 28 1 eW 0#16 r3)], [], 0⟩) 6001 rfl rfl) (Le.mk (s' := ⟨1, [(0, vL 1 eW 0#16 r3)], [], [], 0⟩) rfl rfl ⟨.refl _, trivial⟩ trivial))), fun _ => ⟨.refl _, trivial⟩, .inl rfl⟩, trivial⟩ ?_
    refine thenQ_normal ?_
    have hret := Option.some.inj h
    subst hret
    refine AWp.le (Le.mk (s := ⟨14, [(4, vL 1 eW 0#16 r4.1), (5, .int .i64 r4.2)], [], [], 0⟩) (s' := ⟨14, [(4, vL 1 eW 0#16 r4.1), (5, .int .i64 r4.2)], [], [], 0⟩) rfl rfl ⟨.refl _, .refl _, trivial⟩ trivial) ?_
    refine AWp.ret ?_
    exact bodyQ_ret _ rfl ⟨rfl, rfl⟩ rfl
def f14 (x1 : List (BitVec 16)) : Option (List (BitVec 16) × Int) :=
  (f42 x1).bind fun (r2 : List (BitVec 16) × Int) =>
  some (r2.1, r2.2)
set_option maxRecDepth 100000 in
theorem f14_ok  (x1 : List (BitVec 16)) (r : List (BitVec 16) × Int) (h : f14 x1 = some r)  : Spec1 Tryd.prog 14 [] [] [] [vL 1 eW 0#16 x1] (.tup [vL 1 eW 0#16 r.1, .int .i64 r.2]) [] := by
  unfold f14 at h
  refine Spec1.body 0 _ _ Tryd.func14 rfl Tryd.ntmps14 rfl rfl ?_
  refine AWp.seq ?_
  refine AWp.regC [] [] [0] [] ⟨8, [(0, vL 1 eW 0#16 x1)], [], [], 0⟩ (True) Tryd_mixed (by kernel_rfl) trivial ?_
  refine thenQ_normal ?_
  refine AWp.seq ?_
  obtain ⟨r2, hr2, h⟩ := bind_ok h
  refine AWp.regC [] [(1, ⟨[vL 1 eW 0#16 x1, .fn (.func 43) []], [], [], [], .tup [vL 1 eW 0#16 r2.1, .int .i64 r2.2], [], [], []⟩)] [2, 3] [] ⟨8, [(2, vL 1 eW 0#16 r2.1), (3, .int .i64 r2.2)], [], [], 0⟩ ((callP Tryd.prog true 42 [] [] [] [] [] [vL 1 eW 0#16 x1, .fn (.func 43) []] [vL 1 eW 0#16 x1, .fn (.func 43) []] (.tup [vL 1 eW 0#16 r2.1, .int .i64 r2.2]) []) ∧ True) Tryd_mixed (by kernel_rfl) ⟨⟨fun _ => (f42_ok x1 r2 hr2), fun _ => ⟨.refl _, .refl _, trivial⟩, .inl rfl⟩, trivial⟩ ?_
  refine thenQ_normal ?_
  have hret := Option.some.inj h
  subst hret
  refine AWp.le (Le.mk (s := ⟨8, [(2, vL 1 eW 0#16 r2.1), (3, .int .i64 r2.2)], [], [], 0⟩) (s' := ⟨8, [(2, vL 1 eW 0#16 r2.1), (3, .int .i64 r2.2)], [], [], 0⟩) rfl rfl ⟨.refl _, .refl _, trivial⟩ trivial) ?_
  refine AWp.ret ?_
  exact bodyQ_ret _ rfl ⟨rfl, rfl⟩ rfl
def f69 (x1 : List (BitVec 16)) : Option (List (BitVec 16)) :=
  some x1
set_option maxRecDepth 100000 in
theorem f69_ok  (x1 : List (BitVec 16)) (r : List (BitVec 16)) (h : f69 x1 = some r)  : Spec1 Tryd.prog 69 [] [] [] [vL 1 eW 0#16 x1] (.fn (.func 86) [.ptr 3500 0]) [(3500, .cells 22 [vL 1 eW 0#16 r])] := by
  unfold f69 at h
  refine Spec1.body 0 _ _ Tryd.func69 rfl Tryd.ntmps69 rfl rfl ?_
  refine AWp.seq ?_
  refine AWp.regC [] [] [1] [1] ⟨4, [(1, .ptr 1 0)], [(1, .cells 22 [vL 1 eW 0#16 x1])], [], 0⟩ (True) Tryd_mixed (by kernel_rfl) trivial ?_
  refine thenQ_normal ?_
  refine AWp.seq ?_
  refine AWp.regC [] [] [2] [1] ⟨4, [(2, .fn (.func 86) [.ptr 1 0])], [(1, .cells 22 [vL 1 eW 0#16 x1])], [], 0⟩ (True) Tryd_mixed (by kernel_rfl) trivial ?_
  refine thenQ_normal ?_
  refine AWp.le (Le.trans (Le.ren (s := ⟨4, [(2, .fn (.func 86) [.ptr 1 0])], [(1, .cells 22 [vL 1 eW 0#16 x1])], [], 0⟩) (swapN 1 3500) (swapN_inv 1 3500) rfl) (Le.mk (s' := ⟨4, [(2, .fn (.func 86) [.ptr 3500 0])], [(3500, .cells 22 [vL 1 eW 0#16 x1])], [], 0⟩) rfl rfl ⟨.refl _, trivial⟩ ⟨⟨_, rfl, .refl _⟩, trivial⟩)) ?_
  have hret := Option.some.inj h
  subst hret
  refine AWp.le (Le.mk (s := ⟨4, [(2, .fn (.func 86) [.ptr 3500 0])], [(3500, .cells 22 [vL 1 eW 0#16 x1])], [], 0⟩) (s' := ⟨4, [(2, .fn (.func 86) [.ptr 3500 0])], [(3500, .cells 22 [vL 1 eW 0#16 x1])], [], 0⟩) rfl rfl ⟨.refl _, trivial⟩ ⟨⟨_, rfl, .refl _⟩, trivial⟩) ?_
  refine AWp.ret ?_
  exact bodyQ_ret _ rfl ⟨rfl, rfl⟩ rfl
def f70 (x1 : BitVec 16) (x2 : BitVec 16) : Option (Bool × BitVec 16) :=
  (f55 x1 x2).bind fun (r3 : Bool) =>
  some (r3, x2)
set_option maxRecDepth 100000 in
theorem f70_ok  (x1 : BitVec 16) (x2 : BitVec 16) (r : Bool × BitVec 16) (h : f70 x1 x2 = some r)  : Spec1 Tryd.prog 70 [] [2000] [(2000, .cells 28 [.b16 x2])] [.b16 x1, .ptr 2000 0] (.bool r.1) [(2000, .cells 28 [.b16 r.2])] := by
  unfold f70 at h
  refine Spec1.body 0 _ _ Tryd.func70 rfl Tryd.ntmps70 rfl rfl ?_
  refine AWp.seq ?_
  refine AWp.regC [] [] [0, 1] [2000] ⟨7, [(0, .b16 x1), (1, .ptr 2000 0)], [(2000, .cells 28 [.b16 x2])], [2000], 0⟩ (True) Tryd_mixed (by kernel_rfl) trivial ?_
  refine thenQ_normal ?_
  refine AWp.seq ?_
  obtain ⟨r3, hr3, h⟩ := bind_ok h
  refine AWp.regC [] [(2, ⟨[.b16 x1, .b16 x2], [], [], [], .bool r3, [], [], []⟩)] [3] [2000] ⟨7, [(3, .bool r3)], [(2000, .cells 28 [.b16 x2])], [2000], 0⟩ ((callP Tryd.prog true 55 [] [] [] [] [] [.b16 x1, .b16 x2] [.b16 x1, .b16 x2] (.bool r3) []) ∧ True) Tryd_mixed (by kernel_rfl) ⟨⟨fun _ => (f55_ok x1 x2 r3 hr3), fun _ => ⟨.refl _, .refl _, trivial⟩, .inl rfl⟩, trivial⟩ ?_
  refine thenQ_normal ?_
  have hret := Option.some.inj h
  subst hret
  refine AWp.le (Le.mk (s := ⟨7, [(3, .bool r3)], [(2000, .cells 28 [.b16 x2])], [2000], 0⟩) (s' := ⟨7, [(3, .bool r3)], [(2000, .cells 28 [.b16 x2])], [2000], 0⟩) rfl rfl ⟨.refl _, trivial⟩ ⟨⟨_, rfl, .refl _⟩, trivial⟩) ?_
  refine AWp.ret ?_
  exact bodyQ_ret _ rfl ⟨rfl, rfl⟩ rfl
def f73b_L0 (x1 : List (BitVec 16)) (K1 : (BitVec 16) → Option (Int × BitVec 16)) : Nat → (Nat × BitVec 16) → Option (Int × BitVec 16)
  | 0, _ => none
  | k + 1, (n3, w4) =>
    if (decide (((n3 : Nat) : Int) < (((x1).length : Nat) : Int))) then (
    (f70 (x1.getD n3 0#16) w4).bind fun (r5 : Bool × BitVec 16) =>
    chk (((n3 : Nat) : Int) < (((x1).length : Nat) : Int)) <|
    if r5.1 then (
    some (((n3 : Nat) : Int), r5.2)
    ) else (
    chk ((((n3 : Nat) : Int) + (1 : Int)) ≤ 9223372036854775807) <|
    (f73b_L0 x1 K1 k) ((n3 + 1), r5.2)
    )
    ) else (
    K1 w4
    )
def f73b (x1 : List (BitVec 16)) (x2 : BitVec 16) : Option (Int × BitVec 16) :=
  jn (fun (w6 : BitVec 16) =>
  some ((-1 : Int), w6)
  ) fun (K1 : (BitVec 16) → Option (Int × BitVec 16)) =>
  f73b_L0 x1 K1 FUEL (0, x2)
set_option maxRecDepth 100000 in
theorem f73b_ok  (x1 : List (BitVec 16)) (x2 : BitVec 16) (r : Int × BitVec 16) (h : f73b x1 x2 = some r)  : Spec1 Tryd.prog 73 [] [2000] [(2000, .cells 28 [.b16 x2])] [vL 1 eW 0#16 x1, .fn (.func 70) [.ptr 2000 0]] (.int .i64 r.1) [(2000, .cells 28 [.b16 r.2])] := by
  unfold f73b at h
  refine Spec1.body 0 _ _ Tryd.func73 rfl Tryd.ntmps73 rfl rfl ?_
  refine AWp.seq ?_
  refine AWp.regC [] [] [0, 1] [2000] ⟨19, [(0, vL 1 eW 0#16 x1), (1, .fn (.func 70) [.ptr 2000 0])], [(2000, .cells 28 [.b16 x2])], [2000], 0⟩ (True) Tryd_mixed (by kernel_rfl) trivial ?_
  refine thenQ_normal ?_
  obtain ⟨K1, hK1, h⟩ := jn_some h
  refine AWp.join (α := BitVec 16) (fun (w6 : BitVec 16) => ⟨19, [], [(2000, .cells 28 [.b16 w6])], [2000], 0⟩) (fun x => K1 x = some r) ?_ ?_
  ·
    refine AWp.seq ?_
    refine AWp.regC [] [] [0, 1, 7, 8] [2000] ⟨19, [(0, vL 1 eW 0#16 x1), (1, .fn (.func 70) [.ptr 2000 0]), (7, .int .i64 (((x1).length : Nat) : Int)), (8, .int .i64 (0 : Int))], [(2000, .cells 28 [.b16 x2])], [2000], 0⟩ (True) Tryd_mixed (by kernel_rfl) trivial ?_
    refine thenQ_normal ?_
    refine AWp.block ?_
    refine AWp.loopL (α := Nat × (Nat × BitVec 16)) (fun x => match x with | (_, n3, w4) => ⟨19, [(0, vL 1 eW 0#16 x1), (1, .fn (.func 70) [.ptr 2000 0]), (7, .int .i64 (((x1).length : Nat) : Int)), (8, .int .i64 ((n3 : Nat) : Int))], [(2000, .cells 28 [.b16 w4])], [2000], 0⟩) (fun x => f73b_L0 x1 K1 x.1 x.2 = some r) (fun x => x.1) (FUEL, 0, x2) (Le.mk (s := ⟨19, [(0, vL 1 eW 0#16 x1), (1, .fn (.func 70) [.ptr 2000 0]), (7, .int .i64 (((x1).length : Nat) : Int)), (8, .int .i64 (0 : Int))], [(2000, .cells 28 [.b16 x2])], [2000], 0⟩) (s' := ⟨19, [(0, vL 1 eW 0#16 x1), (1, .fn (.func 70) [.ptr 2000 0]), (7, .int .i64 (((x1).length : Nat) : Int)), (8, .int .i64 (0 : Int))], [(2000, .cells 28 [.b16 x2])], [2000], 0⟩) rfl rfl ⟨.refl _, .refl _, .refl _, .refl _, trivial⟩ ⟨⟨_, rfl, .refl _⟩, trivial⟩) h ?_
    rintro ⟨k0, n3, w4⟩ h
    cases k0 with
    | zero => exact nomatch (show (none : Option (Int × BitVec 16)) = some r from h)
    | succ k0 =>
    obtain ⟨C0, hC0⟩ : ∃ C, C = f73b_L0 x1 K1 k0 := ⟨_, rfl⟩
    replace h := (f73b_L0.eq_2 ..).symm.trans h
    try rw [← hC0] at h
    refine AWp.seq ?_
    refine AWp.regC [] [] [0, 1, 7, 8, 9] [2000] ⟨19, [(0, vL 1 eW 0#16 x1), (1, .fn (.func 70) [.ptr 2000 0]), (7, .int .i64 (((x1).length : Nat) : Int)), (8, .int .i64 ((n3 : Nat) : Int)), (9, .bool (decide (((n3 : Nat) : Int) < (((x1).length : Nat) : Int))))], [(2000, .cells 28 [.b16 w4])], [2000], 0⟩ (True) Tryd_mixed (by kernel_rfl) trivial ?_
    refine thenQ_normal ?_
    refine AWp.seq ?_
    refine AWp.cond (b := (decide (((n3 : Nat) : Int) < (((x1).length : Nat) : Int)))) (by kernel_rfl) (fun hc1 => ?_) (fun hc1 => ?_)
    ·
      replace h := ite_tb hc1 h
      refine AWp.skip ?_
      refine thenQ_normal ?_
      refine AWp.seq ?_
      refine AWp.block ?_
      refine AWp.seq ?_
      refine AWp.regC [] [] [0, 1, 5, 7, 8] [2000] ⟨19, [(0, vL 1 eW 0#16 x1), (1, .fn (.func 70) [.ptr 2000 0]), (5, .int .i64 ((n3 : Nat) : Int)), (7, .int .i64 (((x1).length : Nat) : Int)), (8, .int .i64 ((n3 : Nat) : Int))], [(2000, .cells 28 [.b16 w4])], [2000], 0⟩ (True) Tryd_mixed (by kernel_rfl) trivial ?_
      refine thenQ_normal ?_
      refine AWp.seq ?_
      obtain ⟨r5, hr5, h⟩ := bind_ok h
      obtain ⟨ob0p, h⟩ := chk_some h
      have ob0 : 0 ≤ ((n3 : Nat) : Int) ∧ ((n3 : Nat) : Int) < (((x1).length : Nat) : Int) := ⟨by omega, ob0p⟩
      refine AWp.regC [] [(5, ⟨[.b16 (x1.getD n3 0#16), .ptr 2000 0], [2000], [2000], [(2000, .cells 28 [.b16 r5.2])], .bool r5.1, [], [], []⟩)] [0, 1, 5, 7, 8, 16] [2000] ⟨19, [(0, vL 1 eW 0#16 x1), (1, .fn (.func 70) [.ptr 2000 0]), (5, .int .i64 ((n3 : Nat) : Int)), (7, .int .i64 (((x1).length : Nat) : Int)), (8, .int .i64 ((n3 : Nat) : Int)), (16, .bool r5.1)], [(2000, .cells 28 [.b16 r5.2])], [2000], 0⟩ ((0 ≤ ((n3 : Nat) : Int) ∧ ((n3 : Nat) : Int) < (((x1).length : Nat) : Int)) ∧ (callP Tryd.prog true 70 [] [2000] [(2000, .cells 28 [.b16 w4])] [] [] [.b16 (x1.getD n3 0#16), .ptr 2000 0] [.b16 (x1.getD n3 0#16), .ptr 2000 0] (.bool r5.1) [(2000, .cells 28 [.b16 r5.2])]) ∧ True) Tryd_mixed (by kernel_rfl) ⟨ob0, ⟨fun _ => (f70_ok (x1.getD n3 0#16) w4 r5 hr5), fun _ => ⟨.refl _, .refl _, trivial⟩, .inl rfl⟩, trivial⟩ ?_
      refine thenQ_normal ?_
      refine AWp.cond (b := r5.1) (by kernel_rfl) (fun hc2 => ?_) (fun hc2 => ?_)
      ·
        replace h := ite_tb hc2 h
        refine AWp.seq ?_
        refine AWp.regC [] [] [4] [2000] ⟨19, [(4, .int .i64 ((n3 : Nat) : Int))], [(2000, .cells 28 [.b16 r5.2])], [2000], 0⟩ (True) Tryd_mixed (by kernel_rfl) trivial ?_
        refine thenQ_normal ?_
        have hret := Option.some.inj h
        subst hret
        refine AWp.le (Le.mk (s := ⟨19, [(4, .int .i64 ((n3 : Nat) : Int))], [(2000, .cells 28 [.b16 r5.2])], [2000], 0⟩) (s' := ⟨19, [(4, .int .i64 ((n3 : Nat) : Int))], [(2000, .cells 28 [.b16 r5.2])], [2000], 0⟩) rfl rfl ⟨.refl _, trivial⟩ ⟨⟨_, rfl, .refl _⟩, trivial⟩) ?_
        refine AWp.ret ?_
        refine blockQ_ret ?_
        refine thenQ_ret ?_
        refine thenQ_ret ?_
        refine blockQ_ret ?_
        refine joinQ_ret ?_
        exact bodyQ_ret _ rfl ⟨rfl, rfl⟩ rfl
      ·
        replace h := ite_fb hc2 h
        refine AWp.skip ?_
        refine blockQ_normal ?_
        refine thenQ_normal ?_
        obtain ⟨ob1p, h⟩ := chk_some h
        have ob1 : -9223372036854775808 ≤ (((n3 : Nat) : Int) + (1 : Int)) ∧ (((n3 : Nat) : Int) + (1 : Int)) ≤ 9223372036854775807 := ⟨by omega, ob1p⟩
        refine AWp.regC [] [] [0, 1, 7, 8] [2000] ⟨19, [(0, vL 1 eW 0#16 x1), (1, .fn (.func 70) [.ptr 2000 0]), (7, .int .i64 (((x1).length : Nat) : Int)), (8, .int .i64 (((n3 + 1) : Nat) : Int))], [(2000, .cells 28 [.b16 r5.2])], [2000], 0⟩ ((-9223372036854775808 ≤ (((n3 : Nat) : Int) + (1 : Int)) ∧ (((n3 : Nat) : Int) + (1 : Int)) ≤ 9223372036854775807) ∧ True) Tryd_mixed (by kernel_rfl) ⟨ob1, trivial⟩ ?_
        rw [hC0] at h
        exact loopQ_normal (_, (n3 + 1), r5.2) (Le.mk (s := ⟨19, [(0, vL 1 eW 0#16 x1), (1, .fn (.func 70) [.ptr 2000 0]), (7, .int .i64 (((x1).length : Nat) : Int)), (8, .int .i64 (((n3 + 1) : Nat) : Int))], [(2000, .cells 28 [.b16 r5.2])], [2000], 0⟩) (s' := ⟨19, [(0, vL 1 eW 0#16 x1), (1, .fn (.func 70) [.ptr 2000 0]), (7, .int .i64 (((x1).length : Nat) : Int)), (8, .int .i64 (((n3 + 1) : Nat) : Int))], [(2000, .cells 28 [.b16 r5.2])], [2000], 0⟩) rfl rfl ⟨.refl _, .refl _, .refl _, .refl _, trivial⟩ ⟨⟨_, rfl, .refl _⟩, trivial⟩) h (Nat.lt_succ_self _)
    ·
      replace h := ite_fb hc1 h
      refine AWp.exit ?_
      refine thenQ_exit ?_
      refine thenQ_exit ?_
      refine blockQ_same ?_
      exact joinQ_normal (w4) (Le.mk (s := ⟨19, [(0, vL 1 eW 0#16 x1), (1, .fn (.func 70) [.ptr 2000 0]), (7, .int .i64 (((x1).length : Nat) : Int)), (8, .int .i64 ((n3 : Nat) : Int)), (9, .bool (decide (((n3 : Nat) : Int) < (((x1).length : Nat) : Int))))], [(2000, .cells 28 [.b16 w4])], [2000], 0⟩) (s' := ⟨19, [], [(2000, .cells 28 [.b16 w4])], [2000], 0⟩) rfl rfl trivial ⟨⟨_, rfl, .refl _⟩, trivial⟩) h
  ·
    rintro w6 h
    replace h := (congrFun hK1 _).symm.trans h
    refine AWp.seq ?_
    refine AWp.regC [] [] [4] [2000] ⟨19, [(4, .int .i64 (-1 : Int))], [(2000, .cells 28 [.b16 w6])], [2000], 0⟩ (True) Tryd_mixed (by kernel_rfl) trivial ?_
    refine thenQ_normal ?_
    have hret := Option.some.inj h
    subst hret
    refine AWp.le (Le.mk (s := ⟨19, [(4, .int .i64 (-1 : Int))], [(2000, .cells 28 [.b16 w6])], [2000], 0⟩) (s' := ⟨19, [(4, .int .i64 (-1 : Int))], [(2000, .cells 28 [.b16 w6])], [2000], 0⟩) rfl rfl ⟨.refl _, trivial⟩ ⟨⟨_, rfl, .refl _⟩, trivial⟩) ?_
    refine AWp.ret ?_
    exact bodyQ_ret _ rfl ⟨rfl, rfl⟩ rfl
def f53b (x1 : List (BitVec 16)) (x2 : BitVec 16) : Option (Bool × BitVec 16) :=
  (f73b x1 x2).bind fun (r3 : Int × BitVec 16) =>
  some ((decide (r3.1 ≥ (0 : Int))), r3.2)
set_option maxRecDepth 100000 in
theorem f53b_ok  (x1 : List (BitVec 16)) (x2 : BitVec 16) (r : Bool × BitVec 16) (h : f53b x1 x2 = some r)  : Spec1 Tryd.prog 53 [] [2000] [(2000, .cells 28 [.b16 x2])] [vL 1 eW 0#16 x1, .fn (.func 70) [.ptr 2000 0]] (.bool r.1) [(2000, .cells 28 [.b16 r.2])] := by
  unfold f53b at h
  refine Spec1.body 0 _ _ Tryd.func53 rfl Tryd.ntmps53 rfl rfl ?_
  refine AWp.seq ?_
  refine AWp.regC [] [] [0, 1] [2000] ⟨9, [(0, vL 1 eW 0#16 x1), (1, .fn (.func 70) [.ptr 2000 0])], [(2000, .cells 28 [.b16 x2])], [2000], 0⟩ (True) Tryd_mixed (by kernel_rfl) trivial ?_
  refine thenQ_normal ?_
  refine AWp.seq ?_
  obtain ⟨r3, hr3, h⟩ := bind_ok h
  refine AWp.regC [] [(2, ⟨[vL 1 eW 0#16 x1, .fn (.func 70) [.ptr 2000 0]], [2000], [2000], [(2000, .cells 28 [.b16 r3.2])], .int .i64 r3.1, [], [], []⟩)] [4] [2000] ⟨9, [(4, .bool (decide (r3.1 ≥ (0 : Int))))], [(2000, .cells 28 [.b16 r3.2])], [2000], 0⟩ ((callP Tryd.prog true 73 [] [2000] [(2000, .cells 28 [.b16 x2])] [] [] [vL 1 eW 0#16 x1, .fn (.func 70) [.ptr 2000 0]] [vL 1 eW 0#16 x1, .fn (.func 70) [.ptr 2000 0]] (.int .i64 r3.1) [(2000, .cells 28 [.b16 r3.2])]) ∧ True) Tryd_mixed (by kernel_rfl) ⟨⟨fun _ => (f73b_ok x1 x2 r3 hr3), fun _ => ⟨.refl _, .refl _, trivial⟩, .inl rfl⟩, trivial⟩ ?_
  refine thenQ_normal ?_
  have hret := Option.some.inj h
  subst hret
  refine AWp.le (Le.mk (s := ⟨9, [(4, .bool (decide (r3.1 ≥ (0 : Int))))], [(2000, .cells 28 [.b16 r3.2])], [2000], 0⟩) (s' := ⟨9, [(4, .bool (decide (r3.1 ≥ (0 : Int))))], [(2000, .cells 28 [.b16 r3.2])], [2000], 0⟩) rfl rfl ⟨.refl _, trivial⟩ ⟨⟨_, rfl, .refl _⟩, trivial⟩) ?_
  refine AWp.ret ?_
  exact bodyQ_ret _ rfl ⟨rfl, rfl⟩ rfl
def f86_L0 (Y70001 : (List (BitVec 16) × List (BitVec 16)) → (Int × BitVec 16) → Option (Nat × (List (BitVec 16) × List (BitVec 16)))) : Nat → (Int × List (BitVec 16) × List (BitVec 16) × Nat) → Option (Nat × List (BitVec 16) × List (BitVec 16))
  | 0, _ => none
  | k + 1, (i3, l4, l5, n6) =>
    if (decide (i3 ≥ (0 : Int))) then (
    jn (fun ((l8, l9, n10) : List (BitVec 16) × List (BitVec 16) × Nat) =>
    chk (-9223372036854775808 ≤ (i3 - (1 : Int)) ∧ (i3 - (1 : Int)) ≤ 9223372036854775807) <|
    (f86_L0 Y70001 k) ((i3 - (1 : Int)), l8, l9, n10)
    ) fun (K1 : (List (BitVec 16) × List (BitVec 16) × Nat) → Option (Nat × List (BitVec 16) × List (BitVec 16))) =>
    chk (n6 = 0) <|
    (Y70001 (l5, l4) (i3, (l4.getD ((i3).toNat) 0#16))).bind fun (r7 : Nat × (List (BitVec 16) × List (BitVec 16))) =>
    if r7.1 = 0 then (
    chk (0 ≤ i3 ∧ i3 < (((l4).length : Nat) : Int)) <|
    if (!true) then (
    some (0, r7.2.1, r7.2.2)
    ) else (
    K1 (r7.2.2, r7.2.1, 0)
    )
    ) else (
    chk (0 ≤ i3 ∧ i3 < (((l4).length : Nat) : Int)) <|
    if (!false) then (
    some (r7.1, r7.2.1, r7.2.2)
    ) else (
    K1 (r7.2.2, r7.2.1, r7.1)
    )
    )
    ) else (
    some (n6, l5, l4)
    )
def f86 (Y70001 : (List (BitVec 16) × List (BitVec 16)) → (Int × BitVec 16) → Option (Nat × (List (BitVec 16) × List (BitVec 16)))) (x1 : List (BitVec 16)) (x2 : List (BitVec 16)) : Option (Nat × List (BitVec 16) × List (BitVec 16)) :=
  chk (-9223372036854775808 ≤ ((((x2).length : Nat) : Int) - (1 : Int)) ∧ ((((x2).length : Nat) : Int) - (1 : Int)) ≤ 9223372036854775807) <|
  f86_L0 Y70001 FUEL (((((x2).length : Nat) : Int) - (1 : Int)), x2, x1, 0)
set_option maxRecDepth 100000 in
theorem f86_ok (C70001 : YC) (Y70001 : (List (BitVec 16) × List (BitVec 16)) → (Int × BitVec 16) → Option (Nat × (List (BitVec 16) × List (BitVec 16)))) (x1 : List (BitVec 16)) (x2 : List (BitVec 16)) (r : Nat × List (BitVec 16) × List (BitVec 16)) (h : f86 Y70001 x1 x2 = some r) (hY70001 : ∀ s x r, Y70001 s x = some r → YSpec Tryd.prog 70001 [3] C70001 [3, 6002] [(3, .cells 22 [.own 5800]), (5800, bL 28 1 eW 0#16 s.1), (6002, .cells 22 [vL 1 eW 0#16 s.2])] [.int .i64 x.1, .b16 x.2] r.1 [(3, .cells 22 [.own 5800]), (5800, bL 28 1 eW 0#16 r.2.1), (6002, .cells 22 [vL 1 eW 0#16 r.2.2])]) : Spec1 Tryd.prog 86 [] [70001, 3, 6002] [(70001, .yld (some ([3], C70001)) 0), (3, .cells 22 [.own 5800]), (5800, bL 28 1 eW 0#16 x1), (6002, .cells 22 [vL 1 eW 0#16 x2])] [.own 70001, .ptr 6002 0] (.tup []) [(70001, .yld (some ([3], C70001)) r.1), (3, .cells 22 [.own 5800]), (5800, bL 28 1 eW 0#16 r.2.1), (6002, .cells 22 [vL 1 eW 0#16 r.2.2])] := by
  unfold f86 at h
  refine Spec1.body 10000 _ _ Tryd.func86 rfl Tryd.ntmps86 rfl rfl ?_
  refine AWp.seq ?_
  obtain ⟨ob0, h⟩ := chk_some h
  refine AWp.regC [] [] [0, 1, 3] [3, 5800, 6002, 70001] ⟨19, [(0, .own 70001), (1, .ptr 6002 0), (3, .int .i64 ((((x2).length : Nat) : Int) - (1 : Int)))], [(3, .cells 22 [.own 5800]), (5800, bL 28 1 eW 0#16 x1), (6002, .cells 22 [vL 1 eW 0#16 x2]), (70001, .yld (some ([3], C70001)) 0)], [70001, 3, 6002], 10000⟩ ((-9223372036854775808 ≤ ((((x2).length : Nat) : Int) - (1 : Int)) ∧ ((((x2).length : Nat) : Int) - (1 : Int)) ≤ 9223372036854775807) ∧ True) Tryd_mixed (by kernel_rfl) ⟨ob0, trivial⟩ ?_
  refine thenQ_normal ?_
  refine AWp.block ?_
  refine AWp.loopL (α := Nat × (Int × List (BitVec 16) × List (BitVec 16) × Nat)) (fun x => match x with | (_, i3, l4, l5, n6) => ⟨19, [(0, .own 70001), (1, .ptr 6002 0), (3, .int .i64 i3)], [(3, .cells 22 [.own 5800]), (5800, bL 28 1 eW 0#16 l5), (6002, .cells 22 [vL 1 eW 0#16 l4]), (70001, .yld (some ([3], C70001)) n6)], [70001, 3, 6002], 10000⟩) (fun x => f86_L0 Y70001 x.1 x.2 = some r) (fun x => x.1) (FUEL, ((((x2).length : Nat) : Int) - (1 : Int)), x2, x1, 0) (Le.mk (s := ⟨19, [(0, .own 70001), (1, .ptr 6002 0), (3, .int .i64 ((((x2).length : Nat) : Int) - (1 : Int)))], [(3, .cells 22 [.own 5800]), (5800, bL 28 1 eW 0#16 x1), (6002, .cells 22 [vL 1 eW 0#16 x2]), (70001, .yld (some ([3], C70001)) 0)], [70001, 3, 6002], 10000⟩) (s' := ⟨19, [(0, .own 70001), (1, .ptr 6002 0), (3, .int .i64 ((((x2).length : Nat) : Int) - (1 : Int)))], [(3, .cells 22 [.own 5800]), (5800, bL 28 1 eW 0#16 x1), (6002, .cells 22 [vL 1 eW 0#16 x2]), (70001, .yld (some ([3], C70001)) 0)], [70001, 3, 6002], 10000⟩) rfl rfl ⟨.refl _, .refl _, .refl _, trivial⟩ ⟨⟨_, rfl, .refl _⟩, ⟨_, rfl, .refl _⟩, ⟨_, rfl, .refl _⟩, ⟨_, rfl, .refl _⟩, trivial⟩) h ?_
  rintro ⟨k0, i3, l4, l5, n6⟩ h
  cases k0 with
  | zero => exact nomatch (show (none : Option (Nat × List (BitVec 16) × List (BitVec 16))) = some r from h)
  | succ k0 =>
  obtain ⟨C0, hC0⟩ : ∃ C, C = f86_L0 Y70001 k0 := ⟨_, rfl⟩
  replace h := (f86_L0.eq_2 ..).symm.trans h
  try rw [← hC0] at h
  refine AWp.seq ?_
  refine AWp.seq ?_
  refine AWp.regC [] [] [0, 1, 3, 8] [3, 5800, 6002, 70001] ⟨19, [(0, .own 70001), (1, .ptr 6002 0), (3, .int .i64 i3), (8, .bool (decide (i3 ≥ (0 : Int))))], [(3, .cells 22 [.own 5800]), (5800, bL 28 1 eW 0#16 l5), (6002, .cells 22 [vL 1 eW 0#16 l4]), (70001, .yld (some ([3], C70001)) n6)], [70001, 3, 6002], 10000⟩ (True) Tryd_mixed (by kernel_rfl) trivial ?_
  refine thenQ_normal ?_
  refine AWp.cond (b := (decide (i3 ≥ (0 : Int)))) (by kernel_rfl) (fun hc1 => ?_) (fun hc1 => ?_)
  ·
    replace h := ite_tb hc1 h
    refine AWp.skip ?_
    refine thenQ_normal ?_
    obtain ⟨K1, hK1, h⟩ := jn_some h
    refine AWp.join (α := List (BitVec 16) × List (BitVec 16) × Nat) (fun (x : List (BitVec 16) × List (BitVec 16) × Nat) => match x with | (l8, l9, n10) => ⟨19, [(0, .own 70001), (1, .ptr 6002 0), (3, .int .i64 i3)], [(3, .cells 22 [.own 5800]), (5800, bL 28 1 eW 0#16 l9), (6002, .cells 22 [vL 1 eW 0#16 l8]), (70001, .yld (some ([3], C70001)) n10)], [70001, 3, 6002], 10000⟩) (fun x => K1 x = some r) ?_ ?_
    ·
      refine AWp.block ?_
      refine AWp.seq ?_
      obtain ⟨hz2, h⟩ := chk_some h
      refine AWp.le (Le.mk (s' := ⟨19, [(0, .own 70001), (1, .ptr 6002 0), (3, .int .i64 i3), (8, .bool (decide (i3 ≥ (0 : Int))))], [(3, .cells 22 [.own 5800]), (5800, bL 28 1 eW 0#16 l5), (6002, .cells 22 [vL 1 eW 0#16 l4]), (70001, .yld (some ([3], C70001)) 0)], [70001, 3, 6002], 10000⟩) rfl rfl ⟨.refl _, .refl _, .refl _, .refl _, trivial⟩ ⟨⟨_, rfl, .refl _⟩, ⟨_, rfl, .refl _⟩, ⟨_, rfl, .refl _⟩, ⟨_, rfl, BLe.yldEq hz2⟩, trivial⟩) ?_
      obtain ⟨r7, hr7, h⟩ := bind_ok h
      by_cases hy_r7 : r7.1 = 0
      ·
        replace h := ite_t hy_r7 h
        obtain ⟨ob1, h⟩ := chk_some h
        refine AWp.regC [] [(6, ⟨[.int .i64 i3, .b16 (l4.getD ((i3).toNat) 0#16)], [70001, 3, 5800, 6002], [3, 6002], [(70001, .yld (some ([3], C70001)) 0), (3, .cells 22 [.own 5800]), (5800, bL 28 1 eW 0#16 r7.2.1), (6002, .cells 22 [vL 1 eW 0#16 r7.2.2])], .bool true, [5800], [], []⟩)] [0, 1, 3, 18] [3, 5800, 6002, 70001] ⟨19, [(0, .own 70001), (1, .ptr 6002 0), (3, .int .i64 i3), (18, .bool (!true))], [(3, .cells 22 [.own 5800]), (5800, bL 28 1 eW 0#16 r7.2.1), (6002, .cells 22 [vL 1 eW 0#16 r7.2.2]), (70001, .yld (some ([3], C70001)) 0)], [70001, 3, 6002], 10000⟩ ((0 ≤ i3 ∧ i3 < (((l4).length : Nat) : Int)) ∧ (([(70001, .yld (some ([3], C70001)) 0), (3, .cells 22 [.own 5800]), (5800, bL 28 1 eW 0#16 r7.2.1), (6002, .cells 22 [vL 1 eW 0#16 r7.2.2])] : Heap) = (70001, .yld (some ([3], C70001)) 0) :: [(3, .cells 22 [.own 5800]), (5800, bL 28 1 eW 0#16 r7.2.1), (6002, .cells 22 [vL 1 eW 0#16 r7.2.2])] ∧ V.bool true = V.bool (0 == 0) ∧ YSpec Tryd.prog 70001 [3] C70001 [3, 6002] [(3, .cells 22 [.own 5800]), (5800, bL 28 1 eW 0#16 l5), (6002, .cells 22 [vL 1 eW 0#16 l4])] [.int .i64 i3, .b16 (l4.getD ((i3).toNat) 0#16)] 0 [(3, .cells 22 [.own 5800]), (5800, bL 28 1 eW 0#16 r7.2.1), (6002, .cells 22 [vL 1 eW 0#16 r7.2.2])] ∧ VLes [.int .i64 i3, .b16 (l4.getD ((i3).toNat) 0#16)] [.int .i64 i3, .b16 (l4.getD ((i3).toNat) 0#16)]) ∧ True) Tryd_mixed (by kernel_rfl) ⟨ob1, ⟨rfl, rfl, (YSpec.zero (hY70001 _ _ r7 hr7) hy_r7), ⟨.refl _, .refl _, trivial⟩⟩, trivial⟩ ?_
        refine thenQ_normal ?_
        refine AWp.cond (b := (!true)) (by kernel_rfl) (fun hc4 => ?_) (fun hc4 => ?_)
        ·
          replace h := ite_tb hc4 h
          have hret := Option.some.inj h
          subst hret
          refine AWp.le (Le.mk (s := ⟨19, [(0, .own 70001), (1, .ptr 6002 0), (3, .int .i64 i3), (18, .bool (!true))], [(3, .cells 22 [.own 5800]), (5800, bL 28 1 eW 0#16 r7.2.1), (6002, .cells 22 [vL 1 eW 0#16 r7.2.2]), (70001, .yld (some ([3], C70001)) 0)], [70001, 3, 6002], 10000⟩) (s' := ⟨19, [], [(70001, .yld (some ([3], C70001)) 0), (3, .cells 22 [.own 5800]), (5800, bL 28 1 eW 0#16 r7.2.1), (6002, .cells 22 [vL 1 eW 0#16 r7.2.2])], [70001, 3, 6002], 10000⟩) rfl rfl trivial ⟨⟨_, rfl, .refl _⟩, ⟨_, rfl, .refl _⟩, ⟨_, rfl, .refl _⟩, ⟨_, rfl, .refl _⟩, trivial⟩) ?_
          refine AWp.ret ?_
          refine blockQ_ret ?_
          refine joinQ_ret ?_
          refine thenQ_ret ?_
          refine blockQ_ret ?_
          exact bodyQ_ret _ rfl ⟨rfl, rfl⟩ rfl
        ·
          replace h := ite_fb hc4 h
          refine AWp.skip ?_
          refine blockQ_normal ?_
          exact joinQ_normal (r7.2.2, r7.2.1, 0) (Le.mk (s := ⟨19, [(0, .own 70001), (1, .ptr 6002 0), (3, .int .i64 i3), (18, .bool (!true))], [(3, .cells 22 [.own 5800]), (5800, bL 28 1 eW 0#16 r7.2.1), (6002, .cells 22 [vL 1 eW 0#16 r7.2.2]), (70001, .yld (some ([3], C70001)) 0)], [70001, 3, 6002], 10000⟩) (s' := ⟨19, [(0, .own 70001), (1, .ptr 6002 0), (3, .int .i64 i3)], [(3, .cells 22 [.own 5800]), (5800, bL 28 1 eW 0#16 r7.2.1), (6002, .cells 22 [vL 1 eW 0#16 r7.2.2]), (70001, .yld (some ([3], C70001)) 0)], [70001, 3, 6002], 10000⟩) rfl rfl ⟨.refl _, .refl _, .refl _, trivial⟩ ⟨⟨_, rfl, .refl _⟩, ⟨_, rfl, .refl _⟩, ⟨_, rfl, .refl _⟩, ⟨_, rfl, .refl _⟩, trivial⟩) h
      ·
        replace h := ite_f hy_r7 h
        obtain ⟨ob1, h⟩ := chk_some h
        refine AWp.regC [] [(6, ⟨[.int .i64 i3, .b16 (l4.getD ((i3).toNat) 0#16)], [70001, 3, 5800, 6002], [3, 6002], [(70001, .yld (some ([3], C70001)) r7.1), (3, .cells 22 [.own 5800]), (5800, bL 28 1 eW 0#16 r7.2.1), (6002, .cells 22 [vL 1 eW 0#16 r7.2.2])], .bool false, [5800], [], []⟩)] [0, 1, 3, 18] [3, 5800, 6002, 70001] ⟨19, [(0, .own 70001), (1, .ptr 6002 0), (3, .int .i64 i3), (18, .bool (!false))], [(3, .cells 22 [.own 5800]), (5800, bL 28 1 eW 0#16 r7.2.1), (6002, .cells 22 [vL 1 eW 0#16 r7.2.2]), (70001, .yld (some ([3], C70001)) r7.1)], [70001, 3, 6002], 10000⟩ ((0 ≤ i3 ∧ i3 < (((l4).length : Nat) : Int)) ∧ (([(70001, .yld (some ([3], C70001)) r7.1), (3, .cells 22 [.own 5800]), (5800, bL 28 1 eW 0#16 r7.2.1), (6002, .cells 22 [vL 1 eW 0#16 r7.2.2])] : Heap) = (70001, .yld (some ([3], C70001)) r7.1) :: [(3, .cells 22 [.own 5800]), (5800, bL 28 1 eW 0#16 r7.2.1), (6002, .cells 22 [vL 1 eW 0#16 r7.2.2])] ∧ V.bool false = V.bool (r7.1 == 0) ∧ YSpec Tryd.prog 70001 [3] C70001 [3, 6002] [(3, .cells 22 [.own 5800]), (5800, bL 28 1 eW 0#16 l5), (6002, .cells 22 [vL 1 eW 0#16 l4])] [.int .i64 i3, .b16 (l4.getD ((i3).toNat) 0#16)] r7.1 [(3, .cells 22 [.own 5800]), (5800, bL 28 1 eW 0#16 r7.2.1), (6002, .cells 22 [vL 1 eW 0#16 r7.2.2])] ∧ VLes [.int .i64 i3, .b16 (l4.getD ((i3).toNat) 0#16)] [.int .i64 i3, .b16 (l4.getD ((i3).toNat) 0#16)]) ∧ True) Tryd_mixed (by kernel_rfl) ⟨ob1, ⟨rfl, bool_ne hy_r7, (hY70001 _ _ r7 hr7), ⟨.refl _, .refl _, trivial⟩⟩, trivial⟩ ?_
        refine thenQ_normal ?_
        refine AWp.cond (b := (!false)) (by kernel_rfl) (fun hc5 => ?_) (fun hc5 => ?_)
        ·
          replace h := ite_tb hc5 h
          have hret := Option.some.inj h
          subst hret
          refine AWp.le (Le.mk (s := ⟨19, [(0, .own 70001), (1, .ptr 6002 0), (3, .int .i64 i3), (18, .bool (!false))], [(3, .cells 22 [.own 5800]), (5800, bL 28 1 eW 0#16 r7.2.1), (6002, .cells 22 [vL 1 eW 0#16 r7.2.2]), (70001, .yld (some ([3], C70001)) r7.1)], [70001, 3, 6002], 10000⟩) (s' := ⟨19, [], [(70001, .yld (some ([3], C70001)) r7.1), (3, .cells 22 [.own 5800]), (5800, bL 28 1 eW 0#16 r7.2.1), (6002, .cells 22 [vL 1 eW 0#16 r7.2.2])], [70001, 3, 6002], 10000⟩) rfl rfl trivial ⟨⟨_, rfl, .refl _⟩, ⟨_, rfl, .refl _⟩, ⟨_, rfl, .refl _⟩, ⟨_, rfl, .refl _⟩, trivial⟩) ?_
          refine AWp.ret ?_
          refine blockQ_ret ?_
          refine joinQ_ret ?_
          refine thenQ_ret ?_
          refine blockQ_ret ?_
          exact bodyQ_ret _ rfl ⟨rfl, rfl⟩ rfl
        ·
          replace h := ite_fb hc5 h
          refine AWp.skip ?_
          refine blockQ_normal ?_
          exact joinQ_normal (r7.2.2, r7.2.1, r7.1) (Le.mk (s := ⟨19, [(0, .own 70001), (1, .ptr 6002 0), (3, .int .i64 i3), (18, .bool (!false))], [(3, .cells 22 [.own 5800]), (5800, bL 28 1 eW 0#16 r7.2.1), (6002, .cells 22 [vL 1 eW 0#16 r7.2.2]), (70001, .yld (some ([3], C70001)) r7.1)], [70001, 3, 6002], 10000⟩) (s' := ⟨19, [(0, .own 70001), (1, .ptr 6002 0), (3, .int .i64 i3)], [(3, .cells 22 [.own 5800]), (5800, bL 28 1 eW 0#16 r7.2.1), (6002, .cells 22 [vL 1 eW 0#16 r7.2.2]), (70001, .yld (some ([3], C70001)) r7.1)], [70001, 3, 6002], 10000⟩) rfl rfl ⟨.refl _, .refl _, .refl _, trivial⟩ ⟨⟨_, rfl, .refl _⟩, ⟨_, rfl, .refl _⟩, ⟨_, rfl, .refl _⟩, ⟨_, rfl, .refl _⟩, trivial⟩) h
    ·
      rintro ⟨l8, l9, n10⟩ h
      replace h := (congrFun hK1 _).symm.trans h
      obtain ⟨ob2, h⟩ := chk_some h
      refine AWp.regC [] [] [0, 1, 3] [3, 5800, 6002, 70001] ⟨19, [(0, .own 70001), (1, .ptr 6002 0), (3, .int .i64 (i3 - (1 : Int)))], [(3, .cells 22 [.own 5800]), (5800, bL 28 1 eW 0#16 l9), (6002, .cells 22 [vL 1 eW 0#16 l8]), (70001, .yld (some ([3], C70001)) n10)], [70001, 3, 6002], 10000⟩ ((-9223372036854775808 ≤ (i3 - (1 : Int)) ∧ (i3 - (1 : Int)) ≤ 9223372036854775807) ∧ True) Tryd_mixed (by kernel_rfl) ⟨ob2, trivial⟩ ?_
      rw [hC0] at h
      exact loopQ_normal (_, (i3 - (1 : Int)), l8, l9, n10) (Le.mk (s := ⟨19, [(0, .own 70001), (1, .ptr 6002 0), (3, .int .i64 (i3 - (1 : Int)))], [(3, .cells 22 [.own 5800]), (5800, bL 28 1 eW 0#16 l9), (6002, .cells 22 [vL 1 eW 0#16 l8]), (70001, .yld (some ([3], C70001)) n10)], [70001, 3, 6002], 10000⟩) (s' := ⟨19, [(0, .own 70001), (1, .ptr 6002 0), (3, .int .i64 (i3 - (1 : Int)))], [(3, .cells 22 [.own 5800]), (5800, bL 28 1 eW 0#16 l9), (6002, .cells 22 [vL 1 eW 0#16 l8]), (70001, .yld (some ([3], C70001)) n10)], [70001, 3, 6002], 10000⟩) rfl rfl ⟨.refl _, .refl _, .refl _, trivial⟩ ⟨⟨_, rfl, .refl _⟩, ⟨_, rfl, .refl _⟩, ⟨_, rfl, .refl _⟩, ⟨_, rfl, .refl _⟩, trivial⟩) h (Nat.lt_succ_self _)
  ·
    replace h := ite_fb hc1 h
    refine AWp.exit ?_
    refine thenQ_exit ?_
    refine thenQ_exit ?_
    refine blockQ_same ?_
    have hret := Option.some.inj h
    subst hret
    exact bodyQ_le (Le.mk (s := ⟨19, [(0, .own 70001), (1, .ptr 6002 0), (3, .int .i64 i3), (8, .bool (decide (i3 ≥ (0 : Int))))], [(3, .cells 22 [.own 5800]), (5800, bL 28 1 eW 0#16 l5), (6002, .cells 22 [vL 1 eW 0#16 l4]), (70001, .yld (some ([3], C70001)) n6)], [70001, 3, 6002], 10000⟩) (s' := ⟨19, [], [(70001, .yld (some ([3], C70001)) n6), (3, .cells 22 [.own 5800]), (5800, bL 28 1 eW 0#16 l5), (6002, .cells 22 [vL 1 eW 0#16 l4])], [70001, 3, 6002], 10000⟩) rfl rfl trivial ⟨⟨_, rfl, .refl _⟩, ⟨_, rfl, .refl _⟩, ⟨_, rfl, .refl _⟩, ⟨_, rfl, .refl _⟩, trivial⟩) (bodyQ_normal _ rfl ⟨rfl, rfl⟩ rfl)
def f71_L0 : Nat → (Nat × Int × List (BitVec 16)) → Option (List (BitVec 16))
  | 0, _ => none
  | k + 1, (n2, i3, l4) =>
    if (decide (((n2 : Nat) : Int) < i3)) then (
    chk (0 ≤ i3 ∧ i3 < (((l4).length : Nat) : Int)) <|
    chk (((i3).toNat) < (l4).length) <|
    chk (((n2 : Nat) : Int) < (((l4).length : Nat) : Int)) <|
    chk (n2 < (l4).length) <|
    chk (((n2 : Nat) : Int) < (((l4).length : Nat) : Int)) <|
    chk (n2 < (l4).length) <|
    chk (0 ≤ i3 ∧ i3 < (((l4).length : Nat) : Int)) <|
    chk (((i3).toNat) < (l4).length) <|
    chk ((((n2 : Nat) : Int) + (1 : Int)) ≤ 9223372036854775807) <|
    chk (-9223372036854775808 ≤ (i3 - (1 : Int)) ∧ (i3 - (1 : Int)) ≤ 9223372036854775807) <|
    (f71_L0 k) ((n2 + 1), (i3 - (1 : Int)), ((l4.set n2 (l4.getD ((i3).toNat) 0#16)).set ((i3).toNat) (l4.getD n2 0#16)))
    ) else (
    some l4
    )
def f71 (x1 : List (BitVec 16)) : Option (List (BitVec 16)) :=
  chk (-9223372036854775808 ≤ ((((x1).length : Nat) : Int) - (1 : Int)) ∧ ((((x1).length : Nat) : Int) - (1 : Int)) ≤ 9223372036854775807) <|
  f71_L0 FUEL (0, ((((x1).length : Nat) : Int) - (1 : Int)), x1)
set_option maxRecDepth 100000 in
theorem f71_ok  (x1 : List (BitVec 16)) (r : List (BitVec 16)) (h : f71 x1 = some r)  : Spec1 Tryd.prog 71 [] [2000] [(2000, bL 28 1 eW 0#16 x1)] [.own 2000] (.tup []) [(2000, bL 28 1 eW 0#16 r)] := by
  unfold f71 at h
  refine Spec1.body 0 _ _ Tryd.func71 rfl Tryd.ntmps71 rfl rfl ?_
  refine AWp.seq ?_
  obtain ⟨ob0, h⟩ := chk_some h
  refine AWp.regC [] [] [0, 2, 3] [2000] ⟨28, [(0, .own 2000), (2, .int .i64 (0 : Int)), (3, .int .i64 ((((x1).length : Nat) : Int) - (1 : Int)))], [(2000, bL 28 1 eW 0#16 x1)], [2000], 0⟩ ((-9223372036854775808 ≤ ((((x1).length : Nat) : Int) - (1 : Int)) ∧ ((((x1).length : Nat) : Int) - (1 : Int)) ≤ 9223372036854775807) ∧ True) Tryd_mixed (by kernel_rfl) ⟨ob0, trivial⟩ ?_
  refine thenQ_normal ?_
  refine AWp.block ?_
  refine AWp.loopL (α := Nat × (Nat × Int × List (BitVec 16))) (fun x => match x with | (_, n2, i3, l4) => ⟨28, [(0, .own 2000), (2, .int .i64 ((n2 : Nat) : Int)), (3, .int .i64 i3)], [(2000, bL 28 1 eW 0#16 l4)], [2000], 0⟩) (fun x => f71_L0 x.1 x.2 = some r) (fun x => x.1) (FUEL, 0, ((((x1).length : Nat) : Int) - (1 : Int)), x1) (Le.mk (s := ⟨28, [(0, .own 2000), (2, .int .i64 (0 : Int)), (3, .int .i64 ((((x1).length : Nat) : Int) - (1 : Int)))], [(2000, bL 28 1 eW 0#16 x1)], [2000], 0⟩) (s' := ⟨28, [(0, .own 2000), (2, .int .i64 (0 : Int)), (3, .int .i64 ((((x1).length : Nat) : Int) - (1 : Int)))], [(2000, bL 28 1 eW 0#16 x1)], [2000], 0⟩) rfl rfl ⟨.refl _, .refl _, .refl _, trivial⟩ ⟨⟨_, rfl, .refl _⟩, trivial⟩) h ?_
  rintro ⟨k0, n2, i3, l4⟩ h
  cases k0 with
  | zero => exact nomatch (show (none : Option (List (BitVec 16))) = some r from h)
  | succ k0 =>
  obtain ⟨C0, hC0⟩ : ∃ C, C = f71_L0 k0 := ⟨_, rfl⟩
  replace h := (f71_L0.eq_2 ..).symm.trans h
  try rw [← hC0] at h
  refine AWp.seq ?_
  refine AWp.seq ?_
  refine AWp.regC [] [] [0, 2, 3, 9] [2000] ⟨28, [(0, .own 2000), (2, .int .i64 ((n2 : Nat) : Int)), (3, .int .i64 i3), (9, .bool (decide (((n2 : Nat) : Int) < i3)))], [(2000, bL 28 1 eW 0#16 l4)], [2000], 0⟩ (True) Tryd_mixed (by kernel_rfl) trivial ?_
  refine thenQ_normal ?_
  refine AWp.cond (b := (decide (((n2 : Nat) : Int) < i3))) (by kernel_rfl) (fun hc1 => ?_) (fun hc1 => ?_)
  ·
    replace h := ite_tb hc1 h
    refine AWp.skip ?_
    refine thenQ_normal ?_
    refine AWp.seq ?_
    refine AWp.block ?_
    obtain ⟨ob1, h⟩ := chk_some h
    obtain ⟨ob2, h⟩ := chk_some h
    obtain ⟨ob3p, h⟩ := chk_some h
    have ob3 : 0 ≤ ((n2 : Nat) : Int) ∧ ((n2 : Nat) : Int) < (((l4).length : Nat) : Int) := ⟨by omega, ob3p⟩
    obtain ⟨ob4, h⟩ := chk_some h
    obtain ⟨ob5p, h⟩ := chk_some h
    have ob5 : 0 ≤ ((n2 : Nat) : Int) ∧ ((n2 : Nat) : Int) < (((l4).length : Nat) : Int) := ⟨by omega, ob5p⟩
    obtain ⟨ob6, h⟩ := chk_some h
    obtain ⟨ob7, h⟩ := chk_some h
    obtain ⟨ob8, h⟩ := chk_some h
    refine AWp.regC [] [] [0, 2, 3] [2000] ⟨28, [(0, .own 2000), (2, .int .i64 ((n2 : Nat) : Int)), (3, .int .i64 i3)], [(2000, .rows 28 1 (l4).length (updF (updF (encF eW 0#16 l4) n2 0 [.b16 (l4.getD ((i3).toNat) 0#16)]) ((i3).toNat) 0 [.b16 (l4.getD n2 0#16)]))], [2000], 0⟩ ((0 ≤ i3 ∧ i3 < (((l4).length : Nat) : Int)) ∧ (((i3).toNat) < (l4).length) ∧ (0 ≤ ((n2 : Nat) : Int) ∧ ((n2 : Nat) : Int) < (((l4).length : Nat) : Int)) ∧ (n2 < (l4).length) ∧ (0 ≤ ((n2 : Nat) : Int) ∧ ((n2 : Nat) : Int) < (((l4).length : Nat) : Int)) ∧ (n2 < (l4).length) ∧ (0 ≤ i3 ∧ i3 < (((l4).length : Nat) : Int)) ∧ (((i3).toNat) < (l4).length) ∧ True) Tryd_mixed (by kernel_rfl) ⟨ob1, ob2, ob3, ob4, ob5, ob6, ob7, ob8, trivial⟩ ?_
    refine blockQ_normal ?_
    refine thenQ_normal ?_
    refine AWp.le (Le.mk (s := ⟨28, [(0, .own 2000), (2, .int .i64 ((n2 : Nat) : Int)), (3, .int .i64 i3)], [(2000, .rows 28 1 (l4).length (updF (updF (encF eW 0#16 l4) n2 0 [.b16 (l4.getD ((i3).toNat) 0#16)]) ((i3).toNat) 0 [.b16 (l4.getD n2 0#16)]))], [2000], 0⟩) (s' := ⟨28, [(0, .own 2000), (2, .int .i64 ((n2 : Nat) : Int)), (3, .int .i64 i3)], [(2000, bL 28 1 eW 0#16 ((l4.set n2 (l4.getD ((i3).toNat) 0#16)).set ((i3).toNat) (l4.getD n2 0#16)))], [2000], 0⟩) rfl rfl ⟨.refl _, .refl _, .refl _, trivial⟩ ⟨⟨_, rfl, (BLe.of (RL.set (l4.getD n2 0#16) (RL.set (l4.getD ((i3).toNat) 0#16) (RL.self _) (by intro j hj; match j, hj with | 0, _ => rfl)) (by intro j hj; match j, hj with | 0, _ => rfl)))⟩, trivial⟩) ?_
    obtain ⟨ob9p, h⟩ := chk_some h
    have ob9 : -9223372036854775808 ≤ (((n2 : Nat) : Int) + (1 : Int)) ∧ (((n2 : Nat) : Int) + (1 : Int)) ≤ 9223372036854775807 := ⟨by omega, ob9p⟩
    obtain ⟨ob10, h⟩ := chk_some h
    refine AWp.regC [] [] [0, 2, 3] [2000] ⟨28, [(0, .own 2000), (2, .int .i64 (((n2 + 1) : Nat) : Int)), (3, .int .i64 (i3 - (1 : Int)))], [(2000, bL 28 1 eW 0#16 ((l4.set n2 (l4.getD ((i3).toNat) 0#16)).set ((i3).toNat) (l4.getD n2 0#16)))], [2000], 0⟩ ((-9223372036854775808 ≤ (((n2 : Nat) : Int) + (1 : Int)) ∧ (((n2 : Nat) : Int) + (1 : Int)) ≤ 9223372036854775807) ∧ (-9223372036854775808 ≤ (i3 - (1 : Int)) ∧ (i3 - (1 : Int)) ≤ 9223372036854775807) ∧ True) Tryd_mixed (by kernel_rfl) ⟨ob9, ob10, trivial⟩ ?_
    rw [hC0] at h
    exact loopQ_normal (_, (n2 + 1), (i3 - (1 : Int)), ((l4.set n2 (l4.getD ((i3).toNat) 0#16)).set ((i3).toNat) (l4.getD n2 0#16))) (Le.mk (s := ⟨28, [(0, .own 2000), (2, .int .i64 (((n2 + 1) : Nat) : Int)), (3, .int .i64 (i3 - (1 : Int)))], [(2000, bL 28 1 eW 0#16 ((l4.set n2 (l4.getD ((i3).toNat) 0#16)).set ((i3).toNat) (l4.getD n2 0#16)))], [2000], 0⟩) (s' := ⟨28, [(0, .own 2000), (2, .int .i64 (((n2 + 1) : Nat) : Int)), (3, .int .i64 (i3 - (1 : Int)))], [(2000, bL 28 1 eW 0#16 ((l4.set n2 (l4.getD ((i3).toNat) 0#16)).set ((i3).toNat) (l4.getD n2 0#16)))], [2000], 0⟩) rfl rfl ⟨.refl _, .refl _, .refl _, trivial⟩ ⟨⟨_, rfl, .refl _⟩, trivial⟩) h (Nat.lt_succ_self _)
  ·
    replace h := ite_fb hc1 h
    refine AWp.exit ?_
    refine thenQ_exit ?_
    refine thenQ_exit ?_
    refine blockQ_same ?_
    have hret := Option.some.inj h
    subst hret
    exact bodyQ_le (Le.mk (s := ⟨28, [(0, .own 2000), (2, .int .i64 ((n2 : Nat) : Int)), (3, .int .i64 i3), (9, .bool (decide (((n2 : Nat) : Int) < i3)))], [(2000, bL 28 1 eW 0#16 l4)], [2000], 0⟩) (s' := ⟨28, [], [(2000, bL 28 1 eW 0#16 l4)], [2000], 0⟩) rfl rfl trivial ⟨⟨_, rfl, .refl _⟩, trivial⟩) (bodyQ_normal _ rfl ⟨rfl, rfl⟩ rfl)
def f46_Y70001 : (List (BitVec 16) × List (BitVec 16)) → (Int × BitVec 16) → Option (Nat × (List (BitVec 16) × List (BitVec 16)))
  | (l5, l4), (x6, x7) =>
    (f53b l5 x7).bind fun (r8 : Bool × BitVec 16) =>
    if (!r8.1) then (
    chk (((l5).length + 1) * 2 ≤ 140737488355328) <|
    some (0, ((l5 ++ [r8.2]), l4))
    ) else (
    some (0, (l5, l4))
    )
def f46 (x1 : List (BitVec 16)) : Option (List (BitVec 16)) :=
  (f67 x1).bind fun (r2 : List (BitVec 16)) =>
  (f69 r2).bind fun (r3 : List (BitVec 16)) =>
  (f86 f46_Y70001 [] r3).bind fun (r9 : Nat × List (BitVec 16) × List (BitVec 16)) =>
  chk (r9.1 ≠ 1) <|
  if r9.1 = 0 then (
  (f71 r9.2.1).bind fun (r10 : List (BitVec 16)) =>
  some r10
  ) else (
  none
  )
set_option maxRecDepth 100000 in
theorem f46_ok  (x1 : List (BitVec 16)) (r : List (BitVec 16)) (h : f46 x1 = some r)  : Spec1 Tryd.prog 46 [] [] [] [vL 1 eW 0#16 x1] (.own 3000) [(3000, bL 28 1 eW 0#16 r)] := by
  unfold f46 at h
  refine Spec1.body 0 _ _ Tryd.func46 rfl Tryd.ntmps46 rfl rfl ?_
  refine AWp.seq ?_
  refine AWp.regC [] [] [0] [] ⟨22, [(0, vL 1 eW 0#16 x1)], [], [], 0⟩ (True) Tryd_mixed (by kernel_rfl) trivial ?_
  refine thenQ_normal ?_
  refine AWp.seq ?_
  refine AWp.regC [] [] [0, 3] [3] ⟨22, [(0, vL 1 eW 0#16 x1), (3, .ptr 3 0)], [(3, .cells 22 [.nils])], [], 0⟩ (True) Tryd_mixed (by kernel_rfl) trivial ?_
  refine thenQ_normal ?_
  refine AWp.seq ?_
  refine AWp.seq ?_
  obtain ⟨r2, hr2, h⟩ := bind_ok h
  obtain ⟨r3, hr3, h⟩ := bind_ok h
  refine AWp.regC [] [(1, ⟨[vL 1 eW 0#16 x1], [], [], [(6001, bL 28 1 eW 0#16 r2)], .own 6001, [6001], [], []⟩), (2, ⟨[.own 6001], [6001], [], [(6002, .cells 22 [vL 1 eW 0#16 r3])], .fn (.func 86) [.ptr 6002 0], [6002], [], []⟩)] [3, 8] [3, 6002] ⟨22, [(3, .ptr 3 0), (8, .fn (.func 86) [.ptr 6002 0])], [(3, .cells 22 [.nils]), (6002, .cells 22 [vL 1 eW 0#16 r3])], [], 0⟩ ((callP Tryd.prog true 67 [] [] [] [] [] [vL 1 eW 0#16 x1] [vL 1 eW 0#16 x1] (.own 6001) [(6001, bL 28 1 eW 0#16 r2)]) ∧ (callP Tryd.prog true 69 [] [] [(6001, bL 28 1 eW 0#16 r2)] [] [] [.own 6001] [.own 6001] (.fn (.func 86) [.ptr 6002 0]) [(6002, .cells 22 [vL 1 eW 0#16 r3])]) ∧ True) Tryd_mixed (by kernel_rfl) ⟨⟨fun _ => (Spec1.ren (swapN 3000 6001) (swapN_inv 3000 6001) rfl (f67_ok x1 r2 hr2)), fun _ => ⟨.refl _, trivial⟩, .inl rfl⟩, ⟨fun _ => (Spec1.pre (Spec1.ren (swapN 3500 6002) (swapN_inv 3500 6002) rfl (f69_ok r2 r3 hr3)) rfl rfl rfl (Le.trans (Le.freeze (s := ⟨1, [(0, .own 6001)], [(6001, bL 28 1 eW 0#16 r2)], [], 0⟩) 6001 rfl rfl) (Le.mk (s' := ⟨1, [(0, vL 1 eW 0#16 r2)], [], [], 0⟩) rfl rfl ⟨.refl _, trivial⟩ trivial))), fun _ => ⟨.refl _, trivial⟩, .inl rfl⟩, trivial⟩ ?_
  refine thenQ_normal ?_
  refine AWp.block ?_
  refine AWp.le (Le.trans (Le.trans (Le.nilOwnC (s := ⟨22, [(3, .ptr 3 0), (8, .fn (.func 86) [.ptr 6002 0])], [(3, .cells 22 [.nils]), (6002, .cells 22 [vL 1 eW 0#16 r3])], [], 0⟩) 3 0 5800 28 1 (encF eW 0#16 []) rfl rfl rfl) (Le.mk (s' := ⟨22, [(3, .ptr 3 0), (8, .fn (.func 86) [.ptr 6002 0])], [(3, .cells 22 [.own 5800]), (6002, .cells 22 [vL 1 eW 0#16 r3]), (5800, bL 28 1 eW 0#16 [])], [], 0⟩) rfl rfl ⟨.refl _, .refl _, trivial⟩ ⟨⟨_, rfl, .refl _⟩, ⟨_, rfl, .refl _⟩, ⟨_, rfl, .refl _⟩, trivial⟩)) (Le.mk (s := ⟨22, [(3, .ptr 3 0), (8, .fn (.func 86) [.ptr 6002 0])], [(3, .cells 22 [.own 5800]), (6002, .cells 22 [vL 1 eW 0#16 r3]), (5800, bL 28 1 eW 0#16 [])], [], 0⟩) (s' := ⟨22, [(3, .ptr 3 0), (8, .fn (.func 86) [.ptr 6002 0])], [(3, .cells 22 [.own 5800]), (5800, bL 28 1 eW 0#16 []), (6002, .cells 22 [vL 1 eW 0#16 r3])], [], 0⟩) rfl rfl ⟨.refl _, .refl _, trivial⟩ ⟨⟨_, rfl, .refl _⟩, ⟨_, rfl, .refl _⟩, ⟨_, rfl, .refl _⟩, trivial⟩)) ?_
  obtain ⟨r9, hr9, h⟩ := bind_ok h
  obtain ⟨hkr9, h⟩ := chk_some h
  refine AWp.rangeFunc (s := ⟨22, [(3, .ptr 3 0), (8, .fn (.func 86) [.ptr 6002 0])], [(3, .cells 22 [.own 5800]), (5800, bL 28 1 eW 0#16 []), (6002, .cells 22 [vL 1 eW 0#16 r3])], [], 0⟩) 70001 [3] [3] [] 86 [.ptr 6002 0] ⟨[.own 70001, .ptr 6002 0], [3, 5800, 6002], [70001, 3, 6002], [], .tup [], [5800], [], []⟩ r9.1 [(3, .cells 22 [.own 5800]), (5800, bL 28 1 eW 0#16 r9.2.1), (6002, .cells 22 [vL 1 eW 0#16 r9.2.2])] ⟨22, [(3, .ptr 3 0), (8, .fn (.func 86) [.ptr 6002 0])], [(3, .cells 22 [.own 5800]), (5800, bL 28 1 eW 0#16 r9.2.1), (6002, .cells 22 [vL 1 eW 0#16 r9.2.2])], [], 0⟩ rfl (by kernel_rfl) (by kernel_rfl) (fun g0 => ?_) (fun C => (by kernel_rfl)) (by kernel_rfl) (by kernel_rfl) (by kernel_rfl) (by kernel_rfl) hkr9 (by kernel_rfl) ?_ ?_
  ·
    refine ⟨fun _ => (f86_ok _ f46_Y70001 [] r3 r9 hr9 ?_), fun _ => ⟨.refl _, .refl _, trivial⟩, .inl rfl⟩
    clear h
    rintro ⟨l5, l4⟩ ⟨x6, x7⟩ rY70001 h
    replace h := (f46_Y70001.eq_1 ..).symm.trans h
    refine YSpec.body 0 rfl (of_decide_eq_true (by kernel_rfl)) (of_decide_eq_true (by kernel_rfl)) (within_tget (by kernel_rfl)) (by kernel_rfl) (by kernel_rfl) (by kernel_rfl) (by kernel_rfl) ?_
    refine AWp.le (Le.mk (s' := ⟨22, [(9, .int .i64 x6), (10, .b16 x7), (3, .ptr 3 0)], [(3, .cells 22 [.own 5800]), (5800, bL 28 1 eW 0#16 l5), (6002, .cells 22 [vL 1 eW 0#16 l4])], [3, 6002], 0⟩) rfl rfl ⟨.refl _, .refl _, .refl _, trivial⟩ ⟨⟨_, rfl, .refl _⟩, ⟨_, rfl, .refl _⟩, ⟨_, rfl, .refl _⟩, trivial⟩) ?_
    refine AWp.regC [] [] [3, 5] [3, 5, 5800, 6002] ⟨22, [(3, .ptr 3 0), (5, .ptr 5 0)], [(3, .cells 22 [.own 5800]), (5, .cells 28 [.b16 x7]), (5800, bL 28 1 eW 0#16 l5), (6002, .cells 22 [vL 1 eW 0#16 l4])], [3, 6002], 0⟩ ((True) ∧ True) Tryd_mixed (by kernel_rfl) ⟨trivial, trivial⟩ ?_
    refine ⟨rfl, rfl, ?_⟩
    refine AWp.block ?_
    refine AWp.seq ?_
    obtain ⟨r8, hr8, h⟩ := bind_ok h
    refine AWp.regC [] [(2, ⟨[vL 1 eW 0#16 l5, .fn (.func 70) [.ptr 5 0]], [5], [5], [(5, .cells 28 [.b16 r8.2])], .bool r8.1, [], [5800], []⟩)] [3, 5, 14] [3, 5, 5800, 6002] ⟨22, [(3, .ptr 3 0), (5, .ptr 5 0), (14, .bool (!r8.1))], [(3, .cells 22 [.own 5800]), (5, .cells 28 [.b16 r8.2]), (5800, bL 28 1 eW 0#16 l5), (6002, .cells 22 [vL 1 eW 0#16 l4])], [3, 6002], 0⟩ ((callP Tryd.prog true 53 [] [5] [(5, .cells 28 [.b16 x7])] [(5800, bL 28 1 eW 0#16 l5)] [5800] [.own 5800, .fn (.func 70) [.ptr 5 0]] [vL 1 eW 0#16 l5, .fn (.func 70) [.ptr 5 0]] (.bool r8.1) [(5, .cells 28 [.b16 r8.2])]) ∧ True) Tryd_mixed (by kernel_rfl) ⟨⟨fun _ => (Spec1.ren (swapN 2000 5) (swapN_inv 2000 5) rfl (f53b_ok l5 x7 r8 hr8)), fun _ => ⟨.refl _, .refl _, trivial⟩, .inr ⟨rfl, ⟨rfl, trivial⟩⟩⟩, trivial⟩ ?_
    refine thenQ_normal ?_
    refine AWp.cond (b := (!r8.1)) (by kernel_rfl) (fun hc1 => ?_) (fun hc1 => ?_)
    ·
      replace h := ite_tb hc1 h
      obtain ⟨ob0, h⟩ := chk_some h
      refine AWp.regC [] [] [] [3, 5800, 6002] ⟨22, [], [(3, .cells 22 [.own 5800]), (5800, .rows 28 1 ((l5).length + 1) (appF (l5).length (encF eW 0#16 l5) (lstF 1 [.b16 r8.2]))), (6002, .cells 22 [vL 1 eW 0#16 l4])], [3, 6002], 0⟩ ((((l5).length + 1) * 2 ≤ 140737488355328) ∧ (True) ∧ True) Tryd_mixed (by kernel_rfl) ⟨ob0, trivial, trivial⟩ ?_
      refine blockQ_normal ?_
      have hret := Option.some.inj h
      subst hret
      exact ⟨_, (Le.trans (Le.mk (s := ⟨22, [], [(3, .cells 22 [.own 5800]), (5800, .rows 28 1 ((l5).length + 1) (appF (l5).length (encF eW 0#16 l5) (lstF 1 [.b16 r8.2]))), (6002, .cells 22 [vL 1 eW 0#16 l4])], [3, 6002], 0⟩) (s' := ⟨22, [], [(3, .cells 22 [.own 5800]), (5800, bL 28 1 eW 0#16 (l5 ++ [r8.2])), (6002, .cells 22 [vL 1 eW 0#16 l4])], [3, 6002], 0⟩) rfl rfl trivial ⟨⟨_, rfl, .refl _⟩, ⟨_, rfl, (BLe.of (RL.app (RL.self _) (RL.lst (enc := eW) [r8.2] rfl rfl (fun _ => rfl))))⟩, ⟨_, rfl, .refl _⟩, trivial⟩) (Le.mk (s := ⟨22, [], [(3, .cells 22 [.own 5800]), (5800, bL 28 1 eW 0#16 (l5 ++ [r8.2])), (6002, .cells 22 [vL 1 eW 0#16 l4])], [3, 6002], 0⟩) (s' := ⟨22, [], [(3, .cells 22 [.own 5800]), (5800, bL 28 1 eW 0#16 (l5 ++ [r8.2])), (6002, .cells 22 [vL 1 eW 0#16 l4])], [3, 6002], 0⟩) rfl rfl trivial ⟨⟨_, rfl, .refl _⟩, ⟨_, rfl, .refl _⟩, ⟨_, rfl, .refl _⟩, trivial⟩)), rfl, rfl, .inl ⟨rfl, rfl⟩⟩
    ·
      replace h := ite_fb hc1 h
      refine AWp.skip ?_
      refine blockQ_normal ?_
      have hret := Option.some.inj h
      subst hret
      exact ⟨_, (Le.mk (s := ⟨22, [(3, .ptr 3 0), (5, .ptr 5 0), (14, .bool (!r8.1))], [(3, .cells 22 [.own 5800]), (5, .cells 28 [.b16 r8.2]), (5800, bL 28 1 eW 0#16 l5), (6002, .cells 22 [vL 1 eW 0#16 l4])], [3, 6002], 0⟩) (s' := ⟨22, [], [(3, .cells 22 [.own 5800]), (5800, bL 28 1 eW 0#16 l5), (6002, .cells 22 [vL 1 eW 0#16 l4])], [3, 6002], 0⟩) rfl rfl trivial ⟨⟨_, rfl, .refl _⟩, ⟨_, rfl, .refl _⟩, ⟨_, rfl, .refl _⟩, trivial⟩), rfl, rfl, .inl ⟨rfl, rfl⟩⟩
  ·
    intro hk0
    replace h := ite_t hk0 h
    refine blockQ_normal ?_
    refine thenQ_normal ?_
    refine AWp.seq ?_
    obtain ⟨r10, hr10, h⟩ := bind_ok h
    refine AWp.regC [] [(1, ⟨[.own 5800], [5800], [5800], [(5800, bL 28 1 eW 0#16 r10)], .tup [], [], [], []⟩)] [3] [3, 5800] ⟨22, [(3, .ptr 3 0)], [(3, .cells 22 [.own 5800]), (5800, bL 28 1 eW 0#16 r10)], [], 0⟩ ((callP Tryd.prog true 71 [] [5800] [(5800, bL 28 1 eW 0#16 r9.2.1)] [] [] [.own 5800] [.own 5800] (.tup []) [(5800, bL 28 1 eW 0#16 r10)]) ∧ True) Tryd_mixed (by kernel_rfl) ⟨⟨fun _ => (Spec1.ren (swapN 2000 5800) (swapN_inv 2000 5800) rfl (f71_ok r9.2.1 r10 hr10)), fun _ => ⟨.refl _, trivial⟩, .inl rfl⟩, trivial⟩ ?_
    refine thenQ_normal ?_
    refine AWp.seq ?_
    refine AWp.regC [] [] [2] [5800] ⟨22, [(2, .own 5800)], [(5800, bL 28 1 eW 0#16 r10)], [], 0⟩ (True) Tryd_mixed (by kernel_rfl) trivial ?_
    refine thenQ_normal ?_
    refine AWp.le (Le.trans (Le.ren (s := ⟨22, [(2, .own 5800)], [(5800, bL 28 1 eW 0#16 r10)], [], 0⟩) (swapN 5800 3000) (swapN_inv 5800 3000) rfl) (Le.mk (s' := ⟨22, [(2, .own 3000)], [(3000, bL 28 1 eW 0#16 r10)], [], 0⟩) rfl rfl ⟨.refl _, trivial⟩ ⟨⟨_, rfl, .refl _⟩, trivial⟩)) ?_
    have hret := Option.some.inj h
    subst hret
    refine AWp.le (Le.mk (s := ⟨22, [(2, .own 3000)], [(3000, bL 28 1 eW 0#16 r10)], [], 0⟩) (s' := ⟨22, [(2, .own 3000)], [(3000, bL 28 1 eW 0#16 r10)], [], 0⟩) rfl rfl ⟨.refl _, trivial⟩ ⟨⟨_, rfl, .refl _⟩, trivial⟩) ?_
    refine AWp.ret ?_
    exact bodyQ_ret _ rfl ⟨rfl, rfl⟩ rfl
  ·
    intro j hkj
    replace h := ite_f (by omega) h
    exact nomatch (show (none : Option (List (BitVec 16))) = some r from h)
def f42a (x1 : List (BitVec 16)) : Option (List (BitVec 16) × Int) :=
  (f53a x1).bind fun (r2 : Bool) =>
  if r2 then (
  some ([], (7 : Int))
  ) else (
  (f46 x1).bind fun (r3 : List (BitVec 16)) =>
  (f49 r3).bind fun (r4 : List (BitVec 16) × Int) =>
  some (r4.1, r4.2)
  )
set_option maxRecDepth 100000 in
theorem f42a_ok  (x1 : List (BitVec 16)) (r : List (BitVec 16) × Int) (h : f42a x1 = some r)  : Spec1 Tryd.prog 42 [] [] [] [vL 1 eW 0#16 x1, .fn (.func 46) []] (.tup [vL 1 eW 0#16 r.1, .int .i64 r.2]) [] := by
  unfold f42a at h
  refine Spec1.body 0 _ _ Tryd.func42 rfl Tryd.ntmps42 rfl rfl ?_
  refine AWp.seq ?_
  refine AWp.regC [] [] [0, 1] [] ⟨14, [(0, vL 1 eW 0#16 x1), (1, .fn (.func 46) [])], [], [], 0⟩ (True) Tryd_mixed (by kernel_rfl) trivial ?_
  refine thenQ_normal ?_
  refine AWp.seq ?_
  refine AWp.seq ?_
  obtain ⟨r2, hr2, h⟩ := bind_ok h
  refine AWp.regC [] [(1, ⟨[vL 1 eW 0#16 x1, .fn (.func 66) []], [], [], [], .bool r2, [], [], []⟩)] [0, 1, 7] [] ⟨14, [(0, vL 1 eW 0#16 x1), (1, .fn (.func 46) []), (7, .bool r2)], [], [], 0⟩ ((callP Tryd.prog true 53 [] [] [] [] [] [vL 1 eW 0#16 x1, .fn (.func 66) []] [vL 1 eW 0#16 x1, .fn (.func 66) []] (.bool r2) []) ∧ True) Tryd_mixed (by kernel_rfl) ⟨⟨fun _ => (f53a_ok x1 r2 hr2), fun _ => ⟨.refl _, .refl _, trivial⟩, .inl rfl⟩, trivial⟩ ?_
  refine thenQ_normal ?_
  refine AWp.cond (b := r2) (by kernel_rfl) (fun hc1 => ?_) (fun hc1 => ?_)
  ·
    replace h := ite_tb hc1 h
    refine AWp.seq ?_
    refine AWp.regC [] [] [4, 5] [] ⟨14, [(4, .nils), (5, .int .i64 (7 : Int))], [], [], 0⟩ (True) Tryd_mixed (by kernel_rfl) trivial ?_
    refine thenQ_normal ?_
    have hret := Option.some.inj h
    subst hret
    refine AWp.le (Le.mk (s := ⟨14, [(4, .nils), (5, .int .i64 (7 : Int))], [], [], 0⟩) (s' := ⟨14, [(4, vL 1 eW 0#16 []), (5, .int .i64 (7 : Int))], [], [], 0⟩) rfl rfl ⟨.nilL, .refl _, trivial⟩ trivial) ?_
    refine AWp.ret ?_
    refine thenQ_ret ?_
    exact bodyQ_ret _ rfl ⟨rfl, rfl⟩ rfl
  ·
    replace h := ite_fb hc1 h
    refine AWp.skip ?_
    refine thenQ_normal ?_
    refine AWp.seq ?_
    obtain ⟨r3, hr3, h⟩ := bind_ok h
    obtain ⟨r4, hr4, h⟩ := bind_ok h
    refine AWp.regC [] [(2, ⟨[vL 1 eW 0#16 x1], [], [], [(6001, bL 28 1 eW 0#16 r3)], .own 6001, [6001], [], []⟩), (3, ⟨[.own 6001], [6001], [], [], .tup [vL 1 eW 0#16 r4.1, .int .i64 r4.2], [], [], []⟩)] [4, 5] [] ⟨14, [(4, vL 1 eW 0#16 r4.1), (5, .int .i64 r4.2)], [], [], 0⟩ ((callP Tryd.prog true 46 [] [] [] [] [] [vL 1 eW 0#16 x1] [vL 1 eW 0#16 x1] (.own 6001) [(6001, bL 28 1 eW 0#16 r3)]) ∧ (callP Tryd.prog true 49 [] [] [(6001, bL 28 1 eW 0#16 r3)] [] [] [.own 6001] [.own 6001] (.tup [vL 1 eW 0#16 r4.1, .int .i64 r4.2]) []) ∧ True) Tryd_mixed (by kernel_rfl) ⟨⟨fun _ => (Spec1.ren (swapN 3000 6001) (swapN_inv 3000 6001) rfl (f46_ok x1 r3 hr3)), fun _ => ⟨.refl _, trivial⟩, .inl rfl⟩, ⟨fun _ => (Spec1.pre (f49_ok r3 r4 hr4) rfl rfl rfl (Le.trans (Le.freeze (s := ⟨1, [(0, .own 6001)], [(6001, bL 28 1 eW 0#16 r3)], [], 0⟩) 6001 rfl rfl) (Le.mk (s' := ⟨1, [(0, vL 1 eW 0#16 r3)], [], [], 0⟩) rfl rfl ⟨.refl _, trivial⟩ trivial))), fun _ => ⟨.refl _, trivial⟩, .inl rfl⟩, trivial⟩ ?_
    refine thenQ_normal ?_
    have hret := Option.some.inj h
    subst hret
    refine AWp.le (Le.mk (s := ⟨14, [(4, vL 1 eW 0#16 r4.1), (5, .int .i64 r4.2)], [], [], 0⟩) (s' := ⟨14, [(4, vL 1 eW 0#16 r4.1), (5, .int .i64 r4.2)], [], [], 0⟩) rfl rfl ⟨.refl _, .refl _, trivial⟩ trivial) ?_
    refine AWp.ret ?_
    exact bodyQ_ret _ rfl ⟨rfl, rfl⟩ rfl
def f16 (x1 : List (BitVec 16)) : Option (List (BitVec 16) × Int) :=
  (f42a x1).bind fun (r2 : List (BitVec 16) × Int) =>
  some (r2.1, r2.2)
set_option maxRecDepth 100000 in
theorem f16_ok  (x1 : List (BitVec 16)) (r : List (BitVec 16) × Int) (h : f16 x1 = some r)  : Spec1 Tryd.prog 16 [] [] [] [vL 1 eW 0#16 x1] (.tup [vL 1 eW 0#16 r.1, .int .i64 r.2]) [] := by
  unfold f16 at h
  refine Spec1.body 0 _ _ Tryd.func16 rfl Tryd.ntmps16 rfl rfl ?_
  refine AWp.seq ?_
  refine AWp.regC [] [] [0] [] ⟨8, [(0, vL 1 eW 0#16 x1)], [], [], 0⟩ (True) Tryd_mixed (by kernel_rfl) trivial ?_
  refine thenQ_normal ?_
  refine AWp.seq ?_
  obtain ⟨r2, hr2, h⟩ := bind_ok h
  refine AWp.regC [] [(1, ⟨[vL 1 eW 0#16 x1, .fn (.func 46) []], [], [], [], .tup [vL 1 eW 0#16 r2.1, .int .i64 r2.2], [], [], []⟩)] [2, 3] [] ⟨8, [(2, vL 1 eW 0#16 r2.1), (3, .int .i64 r2.2)], [], [], 0⟩ ((callP Tryd.prog true 42 [] [] [] [] [] [vL 1 eW 0#16 x1, .fn (.func 46) []] [vL 1 eW 0#16 x1, .fn (.func 46) []] (.tup [vL 1 eW 0#16 r2.1, .int .i64 r2.2]) []) ∧ True) Tryd_mixed (by kernel_rfl) ⟨⟨fun _ => (f42a_ok x1 r2 hr2), fun _ => ⟨.refl _, .refl _, trivial⟩, .inl rfl⟩, trivial⟩ ?_
  refine thenQ_normal ?_
  have hret := Option.some.inj h
  subst hret
  refine AWp.le (Le.mk (s := ⟨8, [(2, vL 1 eW 0#16 r2.1), (3, .int .i64 r2.2)], [], [], 0⟩) (s' := ⟨8, [(2, vL 1 eW 0#16 r2.1), (3, .int .i64 r2.2)], [], [], 0⟩) rfl rfl ⟨.refl _, .refl _, trivial⟩ trivial) ?_
  refine AWp.ret ?_
  exact bodyQ_ret _ rfl ⟨rfl, rfl⟩ rfl
def f18_L0 (x1 : List (BitVec 16)) (x2 : List (BitVec 16)) (K1 : Unit → Option Bool) : Nat → Nat → Option Bool
  | 0, _ => none
  | k + 1, n3 =>
    if (decide (((n3 : Nat) : Int) < (((x1).length : Nat) : Int))) then (
    chk (((n3 : Nat) : Int) < (((x1).length : Nat) : Int)) <|
    chk (((n3 : Nat) : Int) < (((x2).length : Nat) : Int)) <|
    if (!((x1.getD n3 0#16) == (x2.getD n3 0#16))) then (
    some false
    ) else (
    chk ((((n3 : Nat) : Int) + (1 : Int)) ≤ 9223372036854775807) <|
    (f18_L0 x1 x2 K1 k) (n3 + 1)
    )
    ) else (
    K1 ()
    )
def f18 (x1 : List (BitVec 16)) (x2 : List (BitVec 16)) : Option Bool :=
  if ((((x1).length : Nat) : Int) != (((x2).length : Nat) : Int)) then (
  some false
  ) else (
  jn (fun (_ : Unit) =>
  some true
  ) fun (K1 : Unit → Option Bool) =>
  f18_L0 x1 x2 K1 FUEL 0
  )
set_option maxRecDepth 100000 in
theorem f18_ok  (x1 : List (BitVec 16)) (x2 : List (BitVec 16)) (r : Bool) (h : f18 x1 x2 = some r)  : Spec1 Tryd.prog 18 [] [] [] [vL 1 eW 0#16 x1, vL 1 eW 0#16 x2] (.bool r) [] := by
  unfold f18 at h
  refine Spec1.body 0 _ _ Tryd.func18 rfl Tryd.ntmps18 rfl rfl ?_
  refine AWp.seq ?_
  refine AWp.regC [] [] [0, 1] [] ⟨26, [(0, vL 1 eW 0#16 x1), (1, vL 1 eW 0#16 x2)], [], [], 0⟩ (True) Tryd_mixed (by kernel_rfl) trivial ?_
  refine thenQ_normal ?_
  refine AWp.seq ?_
  refine AWp.seq ?_
  refine AWp.regC [] [] [0, 1, 10] [] ⟨26, [(0, vL 1 eW 0#16 x1), (1, vL 1 eW 0#16 x2), (10, .bool ((((x1).length : Nat) : Int) != (((x2).length : Nat) : Int)))], [], [], 0⟩ (True) Tryd_mixed (by kernel_rfl) trivial ?_
  refine thenQ_normal ?_
  refine AWp.cond (b := ((((x1).length : Nat) : Int) != (((x2).length : Nat) : Int))) (by kernel_rfl) (fun hc1 => ?_) (fun hc1 => ?_)
  ·
    replace h := ite_tb hc1 h
    refine AWp.seq ?_
    refine AWp.regC [] [] [4] [] ⟨26, [(4, .bool false)], [], [], 0⟩ (True) Tryd_mixed (by kernel_rfl) trivial ?_
    refine thenQ_normal ?_
    have hret := Option.some.inj h
    subst hret
    refine AWp.le (Le.mk (s := ⟨26, [(4, .bool false)], [], [], 0⟩) (s' := ⟨26, [(4, .bool false)], [], [], 0⟩) rfl rfl ⟨.refl _, trivial⟩ trivial) ?_
    refine AWp.ret ?_
    refine thenQ_ret ?_
    exact bodyQ_ret _ rfl ⟨rfl, rfl⟩ rfl
  ·
    replace h := ite_fb hc1 h
    refine AWp.skip ?_
    refine thenQ_normal ?_
    obtain ⟨K1, hK1, h⟩ := jn_some h
    refine AWp.join (α := Unit) (fun (x : Unit) => match x with | () => ⟨26, [], [], [], 0⟩) (fun x => K1 x = some r) ?_ ?_
    ·
      refine AWp.seq ?_
      refine AWp.regC [] [] [0, 1, 12, 13] [] ⟨26, [(0, vL 1 eW 0#16 x1), (1, vL 1 eW 0#16 x2), (12, .int .i64 (((x1).length : Nat) : Int)), (13, .int .i64 (0 : Int))], [], [], 0⟩ (True) Tryd_mixed (by kernel_rfl) trivial ?_
      refine thenQ_normal ?_
      refine AWp.block ?_
      refine AWp.loopL (α := Nat × Nat) (fun x => match x with | (_, n3) => ⟨26, [(0, vL 1 eW 0#16 x1), (1, vL 1 eW 0#16 x2), (12, .int .i64 (((x1).length : Nat) : Int)), (13, .int .i64 ((n3 : Nat) : Int))], [], [], 0⟩) (fun x => f18_L0 x1 x2 K1 x.1 x.2 = some r) (fun x => x.1) (FUEL, 0) (Le.mk (s := ⟨26, [(0, vL 1 eW 0#16 x1), (1, vL 1 eW 0#16 x2), (12, .int .i64 (((x1).length : Nat) : Int)), (13, .int .i64 (0 : Int))], [], [], 0⟩) (s' := ⟨26, [(0, vL 1 eW 0#16 x1), (1, vL 1 eW 0#16 x2), (12, .int .i64 (((x1).length : Nat) : Int)), (13, .int .i64 (0 : Int))], [], [], 0⟩) rfl rfl ⟨.refl _, .refl _, .refl _, .refl _, trivial⟩ trivial) h ?_
      rintro ⟨k0, n3⟩ h
      cases k0 with
      | zero => exact nomatch (show (none : Option Bool) = some r from h)
      | succ k0 =>
      obtain ⟨C0, hC0⟩ : ∃ C, C = f18_L0 x1 x2 K1 k0 := ⟨_, rfl⟩
      replace h := (f18_L0.eq_2 ..).symm.trans h
      try rw [← hC0] at h
      refine AWp.seq ?_
      refine AWp.regC [] [] [0, 1, 12, 13, 14] [] ⟨26, [(0, vL 1 eW 0#16 x1), (1, vL 1 eW 0#16 x2), (12, .int .i64 (((x1).length : Nat) : Int)), (13, .int .i64 ((n3 : Nat) : Int)), (14, .bool (decide (((n3 : Nat) : Int) < (((x1).length : Nat) : Int))))], [], [], 0⟩ (True) Tryd_mixed (by kernel_rfl) trivial ?_
      refine thenQ_normal ?_
      refine AWp.seq ?_
      refine AWp.cond (b := (decide (((n3 : Nat) : Int) < (((x1).length : Nat) : Int)))) (by kernel_rfl) (fun hc2 => ?_) (fun hc2 => ?_)
      ·
        replace h := ite_tb hc2 h
        refine AWp.skip ?_
        refine thenQ_normal ?_
        refine AWp.seq ?_
        refine AWp.block ?_
        refine AWp.seq ?_
        refine AWp.regC [] [] [0, 1, 5, 12, 13] [] ⟨26, [(0, vL 1 eW 0#16 x1), (1, vL 1 eW 0#16 x2), (5, .int .i64 ((n3 : Nat) : Int)), (12, .int .i64 (((x1).length : Nat) : Int)), (13, .int .i64 ((n3 : Nat) : Int))], [], [], 0⟩ (True) Tryd_mixed (by kernel_rfl) trivial ?_
        refine thenQ_normal ?_
        refine AWp.seq ?_
        obtain ⟨ob0p, h⟩ := chk_some h
        have ob0 : 0 ≤ ((n3 : Nat) : Int) ∧ ((n3 : Nat) : Int) < (((x1).length : Nat) : Int) := ⟨by omega, ob0p⟩
        obtain ⟨ob1p, h⟩ := chk_some h
        have ob1 : 0 ≤ ((n3 : Nat) : Int) ∧ ((n3 : Nat) : Int) < (((x2).length : Nat) : Int) := ⟨by omega, ob1p⟩
        refine AWp.regC [] [] [0, 1, 12, 13, 24] [] ⟨26, [(0, vL 1 eW 0#16 x1), (1, vL 1 eW 0#16 x2), (12, .int .i64 (((x1).length : Nat) : Int)), (13, .int .i64 ((n3 : Nat) : Int)), (24, .bool (!((x1.getD n3 0#16) == (x2.getD n3 0#16))))], [], [], 0⟩ ((0 ≤ ((n3 : Nat) : Int) ∧ ((n3 : Nat) : Int) < (((x1).length : Nat) : Int)) ∧ (0 ≤ ((n3 : Nat) : Int) ∧ ((n3 : Nat) : Int) < (((x2).length : Nat) : Int)) ∧ True) Tryd_mixed (by kernel_rfl) ⟨ob0, ob1, trivial⟩ ?_
        refine thenQ_normal ?_
        refine AWp.cond (b := (!((x1.getD n3 0#16) == (x2.getD n3 0#16)))) (by kernel_rfl) (fun hc3 => ?_) (fun hc3 => ?_)
        ·
          replace h := ite_tb hc3 h
          refine AWp.seq ?_
          refine AWp.regC [] [] [4] [] ⟨26, [(4, .bool false)], [], [], 0⟩ (True) Tryd_mixed (by kernel_rfl) trivial ?_
          refine thenQ_normal ?_
          have hret := Option.some.inj h
          subst hret
          refine AWp.le (Le.mk (s := ⟨26, [(4, .bool false)], [], [], 0⟩) (s' := ⟨26, [(4, .bool false)], [], [], 0⟩) rfl rfl ⟨.refl _, trivial⟩ trivial) ?_
          refine AWp.ret ?_
          refine blockQ_ret ?_
          refine thenQ_ret ?_
          refine thenQ_ret ?_
          refine blockQ_ret ?_
          refine joinQ_ret ?_
          exact bodyQ_ret _ rfl ⟨rfl, rfl⟩ rfl
        ·
          replace h := ite_fb hc3 h
          refine AWp.skip ?_
          refine blockQ_normal ?_
          refine thenQ_normal ?_
          obtain ⟨ob2p, h⟩ := chk_some h
          have ob2 : -9223372036854775808 ≤ (((n3 : Nat) : Int) + (1 : Int)) ∧ (((n3 : Nat) : Int) + (1 : Int)) ≤ 9223372036854775807 := ⟨by omega, ob2p⟩
          refine AWp.regC [] [] [0, 1, 12, 13] [] ⟨26, [(0, vL 1 eW 0#16 x1), (1, vL 1 eW 0#16 x2), (12, .int .i64 (((x1).length : Nat) : Int)), (13, .int .i64 (((n3 + 1) : Nat) : Int))], [], [], 0⟩ ((-9223372036854775808 ≤ (((n3 : Nat) : Int) + (1 : Int)) ∧ (((n3 : Nat) : Int) + (1 : Int)) ≤ 9223372036854775807) ∧ True) Tryd_mixed (by kernel_rfl) ⟨ob2, trivial⟩ ?_
          rw [hC0] at h
          exact loopQ_normal (_, (n3 + 1)) (Le.mk (s := ⟨26, [(0, vL 1 eW 0#16 x1), (1, vL 1 eW 0#16 x2), (12, .int .i64 (((x1).length : Nat) : Int)), (13, .int .i64 (((n3 + 1) : Nat) : Int))], [], [], 0⟩) (s' := ⟨26, [(0, vL 1 eW 0#16 x1), (1, vL 1 eW 0#16 x2), (12, .int .i64 (((x1).length : Nat) : Int)), (13, .int .i64 (((n3 + 1) : Nat) : Int))], [], [], 0⟩) rfl rfl ⟨.refl _, .refl _, .refl _, .refl _, trivial⟩ trivial) h (Nat.lt_succ_self _)
      ·
        replace h := ite_fb hc2 h
        refine AWp.exit ?_
        refine thenQ_exit ?_
        refine thenQ_exit ?_
        refine blockQ_same ?_
        exact joinQ_normal () (Le.mk (s := ⟨26, [(0, vL 1 eW 0#16 x1), (1, vL 1 eW 0#16 x2), (12, .int .i64 (((x1).length : Nat) : Int)), (13, .int .i64 ((n3 : Nat) : Int)), (14, .bool (decide (((n3 : Nat) : Int) < (((x1).length : Nat) : Int))))], [], [], 0⟩) (s' := ⟨26, [], [], [], 0⟩) rfl rfl trivial trivial) h
    ·
      rintro ⟨⟩ h
      replace h := (congrFun hK1 _).symm.trans h
      refine AWp.seq ?_
      refine AWp.regC [] [] [4] [] ⟨26, [(4, .bool true)], [], [], 0⟩ (True) Tryd_mixed (by kernel_rfl) trivial ?_
      refine thenQ_normal ?_
      have hret := Option.some.inj h
      subst hret
      refine AWp.le (Le.mk (s := ⟨26, [(4, .bool true)], [], [], 0⟩) (s' := ⟨26, [(4, .bool true)], [], [], 0⟩) rfl rfl ⟨.refl _, trivial⟩ trivial) ?_
      refine AWp.ret ?_
      exact bodyQ_ret _ rfl ⟨rfl, rfl⟩ rfl
def f87 (x1 : BitVec 16) : Option Int :=
  if (x1 == (BitVec.ofInt 16 0)) then (
  some (16 : Int)
  ) else (
  chk (0 ≤ ((((x1 &&& (-x1)).toNat : Nat) : Int) * (125613361 : Int)) ∧ ((((x1 &&& (-x1)).toNat : Nat) : Int) * (125613361 : Int)) ≤ 4294967295) <|
  chk (27 ≤ IntKind.bits .u32) <|
  chk (0 ≤ (((((x1 &&& (-x1)).toNat * 125613361) : Nat) : Int) / 2 ^ 27) ∧ (((((x1 &&& (-x1)).toNat * 125613361) : Nat) : Int) / 2 ^ 27) < 32) <|
  chk ((((T0.getD (0 + (((((((x1 &&& (-x1)).toNat * 125613361) : Nat) : Int) / 2 ^ 27)).toNat) * 1 + 0) 0) : Nat) : Int) ≤ 9223372036854775807) <|
  some (((T0.getD (0 + (((((((x1 &&& (-x1)).toNat * 125613361) : Nat) : Int) / 2 ^ 27)).toNat) * 1 + 0) 0) : Nat) : Int)
  )
set_option maxRecDepth 100000 in
theorem f87_ok  (x1 : BitVec 16) (r : Int) (h : f87 x1 = some r)  : Spec1 Tryd.prog 87 [(0, .elem 32 1 T0F 0 0)] [] [] [.b16 x1] (.int .i64 r) [] := by
  unfold f87 at h
  refine Spec1.body 0 _ _ Tryd.func87 rfl Tryd.ntmps87 rfl rfl ?_
  refine AWp.seq ?_
  refine AWp.regC [] [] [0, 1000000] [] ⟨15, [(0, .b16 x1), (1000000, .elem 32 1 T0F 0 0)], [], [], 0⟩ (True) Tryd_mixed (by kernel_rfl) trivial ?_
  refine thenQ_normal ?_
  refine AWp.seq ?_
  refine AWp.seq ?_
  refine AWp.regC [] [] [0, 4, 1000000] [] ⟨15, [(0, .b16 x1), (4, .bool (x1 == (BitVec.ofInt 16 0))), (1000000, .elem 32 1 T0F 0 0)], [], [], 0⟩ (True) Tryd_mixed (by kernel_rfl) trivial ?_
  refine thenQ_normal ?_
  refine AWp.cond (b := (x1 == (BitVec.ofInt 16 0))) (by kernel_rfl) (fun hc1 => ?_) (fun hc1 => ?_)
  ·
    replace h := ite_tb hc1 h
    refine AWp.seq ?_
    refine AWp.regC [] [] [2, 1000000] [] ⟨15, [(2, .int .i64 (16 : Int)), (1000000, .elem 32 1 T0F 0 0)], [], [], 0⟩ (True) Tryd_mixed (by kernel_rfl) trivial ?_
    refine thenQ_normal ?_
    have hret := Option.some.inj h
    subst hret
    refine AWp.le (Le.mk (s := ⟨15, [(2, .int .i64 (16 : Int)), (1000000, .elem 32 1 T0F 0 0)], [], [], 0⟩) (s' := ⟨15, [(2, .int .i64 (16 : Int))], [], [], 0⟩) rfl rfl ⟨.refl _, trivial⟩ trivial) ?_
    refine AWp.ret ?_
    refine thenQ_ret ?_
    exact bodyQ_ret _ rfl ⟨rfl, rfl⟩ rfl
  ·
    replace h := ite_fb hc1 h
    refine AWp.skip ?_
    refine thenQ_normal ?_
    refine AWp.seq ?_
    have ob0 : 0 ≤ (((x1 &&& (-x1)).toNat : Nat) : Int) ∧ (((x1 &&& (-x1)).toNat : Nat) : Int) ≤ 4294967295 := ⟨by omega, by (have := ((x1 &&& (-x1)) : BitVec 16).isLt; omega)⟩
    obtain ⟨ob1, h⟩ := chk_some h
    obtain ⟨ob2p, h⟩ := chk_some h
    have ob2 : 0 ≤ (27 : Int) ∧ 27 ≤ IntKind.bits .u32 := ⟨by omega, ob2p⟩
    obtain ⟨ob3, h⟩ := chk_some h
    obtain ⟨ob4p, h⟩ := chk_some h
    have ob4 : -9223372036854775808 ≤ (((T0.getD (0 + (((((((x1 &&& (-x1)).toNat * 125613361) : Nat) : Int) / 2 ^ 27)).toNat) * 1 + 0) 0) : Nat) : Int) ∧ (((T0.getD (0 + (((((((x1 &&& (-x1)).toNat * 125613361) : Nat) : Int) / 2 ^ 27)).toNat) * 1 + 0) 0) : Nat) : Int) ≤ 9223372036854775807 := ⟨by omega, ob4p⟩
    refine AWp.regC [] [] [2, 1000000] [] ⟨15, [(2, .int .i64 (((T0.getD (0 + (((((((x1 &&& (-x1)).toNat * 125613361) : Nat) : Int) / 2 ^ 27)).toNat) * 1 + 0) 0) : Nat) : Int)), (1000000, .elem 32 1 T0F 0 0)], [], [], 0⟩ ((True) ∧ (0 ≤ (((x1 &&& (-x1)).toNat : Nat) : Int) ∧ (((x1 &&& (-x1)).toNat : Nat) : Int) ≤ 4294967295) ∧ (0 ≤ ((((x1 &&& (-x1)).toNat : Nat) : Int) * (125613361 : Int)) ∧ ((((x1 &&& (-x1)).toNat : Nat) : Int) * (125613361 : Int)) ≤ 4294967295) ∧ (0 ≤ (27 : Int) ∧ 27 ≤ IntKind.bits .u32) ∧ (0 ≤ (((((x1 &&& (-x1)).toNat * 125613361) : Nat) : Int) / 2 ^ 27) ∧ (((((x1 &&& (-x1)).toNat * 125613361) : Nat) : Int) / 2 ^ 27) < 32) ∧ (-9223372036854775808 ≤ (((T0.getD (0 + (((((((x1 &&& (-x1)).toNat * 125613361) : Nat) : Int) / 2 ^ 27)).toNat) * 1 + 0) 0) : Nat) : Int) ∧ (((T0.getD (0 + (((((((x1 &&& (-x1)).toNat * 125613361) : Nat) : Int) / 2 ^ 27)).toNat) * 1 + 0) 0) : Nat) : Int) ≤ 9223372036854775807) ∧ True) Tryd_mixed (by kernel_rfl) ⟨trivial, ob0, ob1, ob2, ob3, ob4, trivial⟩ ?_
    refine thenQ_normal ?_
    have hret := Option.some.inj h
    subst hret
    refine AWp.le (Le.mk (s := ⟨15, [(2, .int .i64 (((T0.getD (0 + (((((((x1 &&& (-x1)).toNat * 125613361) : Nat) : Int) / 2 ^ 27)).toNat) * 1 + 0) 0) : Nat) : Int)), (1000000, .elem 32 1 T0F 0 0)], [], [], 0⟩) (s' := ⟨15, [(2, .int .i64 (((T0.getD (0 + (((((((x1 &&& (-x1)).toNat * 125613361) : Nat) : Int) / 2 ^ 27)).toNat) * 1 + 0) 0) : Nat) : Int))], [], [], 0⟩) rfl rfl ⟨.refl _, trivial⟩ trivial) ?_
    refine AWp.ret ?_
    exact bodyQ_ret _ rfl ⟨rfl, rfl⟩ rfl
def f76_L0 (K1 : (List Int) → Option (List Int)) : Nat → (BitVec 16 × List Int) → Option (List Int)
  | 0, _ => none
  | k + 1, (w2, l3) =>
    if (!(w2 == (BitVec.ofInt 16 0))) then (
    (f87 w2).bind fun (r4 : Int) =>
    chk (((l3).length + 1) * 8 ≤ 140737488355328) <|
    (f76_L0 K1 k) ((w2 &&& (w2 - (BitVec.ofInt 16 1))), (l3 ++ [r4]))
    ) else (
    K1 l3
    )
def f76 (x1 : BitVec 16) : Option (List Int) :=
  jn (fun (l5 : List Int) =>
  some l5
  ) fun (K1 : (List Int) → Option (List Int)) =>
  f76_L0 K1 FUEL (x1, [])
set_option maxRecDepth 100000 in
theorem f76_ok  (x1 : BitVec 16) (r : List Int) (h : f76 x1 = some r)  : Spec1 Tryd.prog 76 [(0, .elem 32 1 T0F 0 0)] [] [] [.b16 x1] (.own 3000) [(3000, bL 3 1 eI 0 r)] := by
  unfold f76 at h
  refine Spec1.body 0 _ _ Tryd.func76 rfl Tryd.ntmps76 rfl rfl ?_
  refine AWp.seq ?_
  refine AWp.regC [] [] [0, 1000000] [] ⟨16, [(0, .b16 x1), (1000000, .elem 32 1 T0F 0 0)], [], [], 0⟩ (True) Tryd_mixed (by kernel_rfl) trivial ?_
  refine thenQ_normal ?_
  refine AWp.seq ?_
  refine AWp.regC [] [] [0, 3, 1000000] [] ⟨16, [(0, .b16 x1), (3, .nils), (1000000, .elem 32 1 T0F 0 0)], [], [], 0⟩ (True) Tryd_mixed (by kernel_rfl) trivial ?_
  refine thenQ_normal ?_
  obtain ⟨K1, hK1, h⟩ := jn_some h
  refine AWp.join (α := List Int) (fun (l5 : List Int) => ⟨16, [(3, .own 5003), (1000000, .elem 32 1 T0F 0 0)], [(5003, bL 3 1 eI 0 l5)], [], 0⟩) (fun x => K1 x = some r) ?_ ?_
  ·
    refine AWp.block ?_
    refine AWp.loopL (α := Nat × (BitVec 16 × List Int)) (fun x => match x with | (_, w2, l3) => ⟨16, [(0, .b16 w2), (3, .own 5003), (1000000, .elem 32 1 T0F 0 0)], [(5003, bL 3 1 eI 0 l3)], [], 0⟩) (fun x => f76_L0 K1 x.1 x.2 = some r) (fun x => x.1) (FUEL, x1, []) (Le.trans (Le.trans (Le.nilOwn (s := ⟨16, [(0, .b16 x1), (3, .nils), (1000000, .elem 32 1 T0F 0 0)], [], [], 0⟩) 3 5003 3 1 (encF eI 0 []) rfl rfl (Nat.le_of_ble_eq_true rfl)) (Le.mk (s' := ⟨16, [(0, .b16 x1), (3, .own 5003), (1000000, .elem 32 1 T0F 0 0)], [(5003, bL 3 1 eI 0 [])], [], 0⟩) rfl rfl ⟨.refl _, .refl _, .refl _, trivial⟩ ⟨⟨_, rfl, .refl _⟩, trivial⟩)) (Le.mk (s := ⟨16, [(0, .b16 x1), (3, .own 5003), (1000000, .elem 32 1 T0F 0 0)], [(5003, bL 3 1 eI 0 [])], [], 0⟩) (s' := ⟨16, [(0, .b16 x1), (3, .own 5003), (1000000, .elem 32 1 T0F 0 0)], [(5003, bL 3 1 eI 0 [])], [], 0⟩) rfl rfl ⟨.refl _, .refl _, .refl _, trivial⟩ ⟨⟨_, rfl, .refl _⟩, trivial⟩)) h ?_
    rintro ⟨k0, w2, l3⟩ h
    cases k0 with
    | zero => exact nomatch (show (none : Option (List Int)) = some r from h)
    | succ k0 =>
    obtain ⟨C0, hC0⟩ : ∃ C, C = f76_L0 K1 k0 := ⟨_, rfl⟩
    replace h := (f76_L0.eq_2 ..).symm.trans h
    try rw [← hC0] at h
    refine AWp.seq ?_
    refine AWp.seq ?_
    refine AWp.regC [] [] [0, 3, 5, 1000000] [5003] ⟨16, [(0, .b16 w2), (3, .own 5003), (5, .bool (!(w2 == (BitVec.ofInt 16 0)))), (1000000, .elem 32 1 T0F 0 0)], [(5003, bL 3 1 eI 0 l3)], [], 0⟩ (True) Tryd_mixed (by kernel_rfl) trivial ?_
    refine thenQ_normal ?_
    refine AWp.cond (b := (!(w2 == (BitVec.ofInt 16 0)))) (by kernel_rfl) (fun hc1 => ?_) (fun hc1 => ?_)
    ·
      replace h := ite_tb hc1 h
      refine AWp.skip ?_
      refine thenQ_normal ?_
      refine AWp.seq ?_
      refine AWp.block ?_
      obtain ⟨r4, hr4, h⟩ := bind_ok h
      obtain ⟨ob0, h⟩ := chk_some h
      refine AWp.regC [] [(2, ⟨[.b16 w2], [], [], [], .int .i64 r4, [], [], [0]⟩)] [0, 3, 1000000] [5003] ⟨16, [(0, .b16 w2), (3, .own 5003), (1000000, .elem 32 1 T0F 0 0)], [(5003, .rows 3 1 ((l3).length + 1) (appF (l3).length (encF eI 0 l3) (lstF 1 [.int .i64 r4])))], [], 0⟩ ((callP Tryd.prog true 87 [(0, .elem 32 1 T0F 0 0)] [] [] [] [] [.b16 w2] [.b16 w2] (.int .i64 r4) []) ∧ (((l3).length + 1) * 8 ≤ 140737488355328) ∧ True) Tryd_mixed (by kernel_rfl) ⟨⟨fun _ => (f87_ok w2 r4 hr4), fun _ => ⟨.refl _, trivial⟩, .inl rfl⟩, ob0, trivial⟩ ?_
      refine blockQ_normal ?_
      refine thenQ_normal ?_
      refine AWp.le (Le.mk (s := ⟨16, [(0, .b16 w2), (3, .own 5003), (1000000, .elem 32 1 T0F 0 0)], [(5003, .rows 3 1 ((l3).length + 1) (appF (l3).length (encF eI 0 l3) (lstF 1 [.int .i64 r4])))], [], 0⟩) (s' := ⟨16, [(0, .b16 w2), (3, .own 5003), (1000000, .elem 32 1 T0F 0 0)], [(5003, bL 3 1 eI 0 (l3 ++ [r4]))], [], 0⟩) rfl rfl ⟨.refl _, .refl _, .refl _, trivial⟩ ⟨⟨_, rfl, (BLe.of (RL.app (RL.self _) (RL.lst (enc := eI) [r4] rfl rfl (fun _ => rfl))))⟩, trivial⟩) ?_
      refine AWp.regC [] [] [0, 3, 1000000] [5003] ⟨16, [(0, .b16 (w2 &&& (w2 - (BitVec.ofInt 16 1)))), (3, .own 5003), (1000000, .elem 32 1 T0F 0 0)], [(5003, bL 3 1 eI 0 (l3 ++ [r4]))], [], 0⟩ ((True) ∧ True) Tryd_mixed (by kernel_rfl) ⟨trivial, trivial⟩ ?_
      rw [hC0] at h
      exact loopQ_normal (_, (w2 &&& (w2 - (BitVec.ofInt 16 1))), (l3 ++ [r4])) (Le.mk (s := ⟨16, [(0, .b16 (w2 &&& (w2 - (BitVec.ofInt 16 1)))), (3, .own 5003), (1000000, .elem 32 1 T0F 0 0)], [(5003, bL 3 1 eI 0 (l3 ++ [r4]))], [], 0⟩) (s' := ⟨16, [(0, .b16 (w2 &&& (w2 - (BitVec.ofInt 16 1)))), (3, .own 5003), (1000000, .elem 32 1 T0F 0 0)], [(5003, bL 3 1 eI 0 (l3 ++ [r4]))], [], 0⟩) rfl rfl ⟨.refl _, .refl _, .refl _, trivial⟩ ⟨⟨_, rfl, .refl _⟩, trivial⟩) h (Nat.lt_succ_self _)
    ·
      replace h := ite_fb hc1 h
      refine AWp.exit ?_
      refine thenQ_exit ?_
      refine thenQ_exit ?_
      refine blockQ_same ?_
      exact joinQ_normal (l3) (Le.mk (s := ⟨16, [(0, .b16 w2), (3, .own 5003), (5, .bool (!(w2 == (BitVec.ofInt 16 0)))), (1000000, .elem 32 1 T0F 0 0)], [(5003, bL 3 1 eI 0 l3)], [], 0⟩) (s' := ⟨16, [(3, .own 5003), (1000000, .elem 32 1 T0F 0 0)], [(5003, bL 3 1 eI 0 l3)], [], 0⟩) rfl rfl ⟨.refl _, .refl _, trivial⟩ ⟨⟨_, rfl, .refl _⟩, trivial⟩) h
  ·
    rintro l5 h
    replace h := (congrFun hK1 _).symm.trans h
    refine AWp.seq ?_
    refine AWp.regC [] [] [2, 1000000] [5003] ⟨16, [(2, .own 5003), (1000000, .elem 32 1 T0F 0 0)], [(5003, bL 3 1 eI 0 l5)], [], 0⟩ (True) Tryd_mixed (by kernel_rfl) trivial ?_
    refine thenQ_normal ?_
    refine AWp.le (Le.trans (Le.ren (s := ⟨16, [(2, .own 5003), (1000000, .elem 32 1 T0F 0 0)], [(5003, bL 3 1 eI 0 l5)], [], 0⟩) (swapN 5003 3000) (swapN_inv 5003 3000) rfl) (Le.mk (s' := ⟨16, [(2, .own 3000), (1000000, .elem 32 1 T0F 0 0)], [(3000, bL 3 1 eI 0 l5)], [], 0⟩) rfl rfl ⟨.refl _, .refl _, trivial⟩ ⟨⟨_, rfl, .refl _⟩, trivial⟩)) ?_
    have hret := Option.some.inj h
    subst hret
    refine AWp.le (Le.mk (s := ⟨16, [(2, .own 3000), (1000000, .elem 32 1 T0F 0 0)], [(3000, bL 3 1 eI 0 l5)], [], 0⟩) (s' := ⟨16, [(2, .own 3000)], [(3000, bL 3 1 eI 0 l5)], [], 0⟩) rfl rfl ⟨.refl _, trivial⟩ ⟨⟨_, rfl, .refl _⟩, trivial⟩) ?_
    refine AWp.ret ?_
    exact bodyQ_ret _ rfl ⟨rfl, rfl⟩ rfl
def f106 (x1 : Int) : Option (List UInt8) :=
  if (decide (x1 < (10 : Int))) then (
  chk (-9223372036854775808 ≤ (x1 + (1 : Int)) ∧ (x1 + (1 : Int)) ≤ 9223372036854775807) <|
  chk (0 ≤ x1 ∧ x1 ≤ (x1 + (1 : Int)) ∧ (x1 + (1 : Int)) ≤ ((cs2.length : Nat) : Int)) <|
  some ((cs2.take (((x1 + (1 : Int))).toNat)).drop ((x1).toNat))
  ) else (
  chk (-9223372036854775808 ≤ (x1 * (2 : Int)) ∧ (x1 * (2 : Int)) ≤ 9223372036854775807) <|
  chk (-9223372036854775808 ≤ (x1 * (2 : Int)) ∧ (x1 * (2 : Int)) ≤ 9223372036854775807) <|
  chk (-9223372036854775808 ≤ ((x1 * (2 : Int)) + (2 : Int)) ∧ ((x1 * (2 : Int)) + (2 : Int)) ≤ 9223372036854775807) <|
  chk (0 ≤ (x1 * (2 : Int)) ∧ (x1 * (2 : Int)) ≤ ((x1 * (2 : Int)) + (2 : Int)) ∧ ((x1 * (2 : Int)) + (2 : Int)) ≤ ((cs3.length : Nat) : Int)) <|
  some ((cs3.take ((((x1 * (2 : Int)) + (2 : Int))).toNat)).drop (((x1 * (2 : Int))).toNat))
  )
set_option maxRecDepth 100000 in
theorem f106_ok  (x1 : Int) (r : List UInt8) (h : f106 x1 = some r)  : Spec1 Tryd.prog 106 [] [] [] [.int .i64 x1] (.str r) [] := by
  unfold f106 at h
  refine Spec1.body 0 _ _ Tryd.func106 rfl Tryd.ntmps106 rfl rfl ?_
  refine AWp.seq ?_
  refine AWp.regC [] [] [0] [] ⟨15, [(0, .int .i64 x1)], [], [], 0⟩ (True) Tryd_mixed (by kernel_rfl) trivial ?_
  refine thenQ_normal ?_
  refine AWp.seq ?_
  refine AWp.seq ?_
  refine AWp.regC [] [] [0, 4] [] ⟨15, [(0, .int .i64 x1), (4, .bool (decide (x1 < (10 : Int))))], [], [], 0⟩ (True) Tryd_mixed (by kernel_rfl) trivial ?_
  refine thenQ_normal ?_
  refine AWp.cond (b := (decide (x1 < (10 : Int)))) (by kernel_rfl) (fun hc1 => ?_) (fun hc1 => ?_)
  ·
    replace h := ite_tb hc1 h
    refine AWp.seq ?_
    obtain ⟨ob0, h⟩ := chk_some h
    obtain ⟨ob1, h⟩ := chk_some h
    refine AWp.regC [] [] [2] [] ⟨15, [(2, .str ((cs2.take (((x1 + (1 : Int))).toNat)).drop ((x1).toNat)))], [], [], 0⟩ ((-9223372036854775808 ≤ (x1 + (1 : Int)) ∧ (x1 + (1 : Int)) ≤ 9223372036854775807) ∧ (0 ≤ x1 ∧ x1 ≤ (x1 + (1 : Int)) ∧ (x1 + (1 : Int)) ≤ ((cs2.length : Nat) : Int)) ∧ True) Tryd_mixed (by kernel_rfl) ⟨ob0, ob1, trivial⟩ ?_
    refine thenQ_normal ?_
    have hret := Option.some.inj h
    subst hret
    refine AWp.le (Le.mk (s := ⟨15, [(2, .str ((cs2.take (((x1 + (1 : Int))).toNat)).drop ((x1).toNat)))], [], [], 0⟩) (s' := ⟨15, [(2, .str ((cs2.take (((x1 + (1 : Int))).toNat)).drop ((x1).toNat)))], [], [], 0⟩) rfl rfl ⟨.refl _, trivial⟩ trivial) ?_
    refine AWp.ret ?_
    refine thenQ_ret ?_
    exact bodyQ_ret _ rfl ⟨rfl, rfl⟩ rfl
  ·
    replace h := ite_fb hc1 h
    refine AWp.skip ?_
    refine thenQ_normal ?_
    refine AWp.seq ?_
    obtain ⟨ob2, h⟩ := chk_some h
    obtain ⟨ob3, h⟩ := chk_some h
    obtain ⟨ob4, h⟩ := chk_some h
    obtain ⟨ob5, h⟩ := chk_some h
    refine AWp.regC [] [] [2] [] ⟨15, [(2, .str ((cs3.take ((((x1 * (2 : Int)) + (2 : Int))).toNat)).drop (((x1 * (2 : Int))).toNat)))], [], [], 0⟩ ((-9223372036854775808 ≤ (x1 * (2 : Int)) ∧ (x1 * (2 : Int)) ≤ 9223372036854775807) ∧ (-9223372036854775808 ≤ (x1 * (2 : Int)) ∧ (x1 * (2 : Int)) ≤ 9223372036854775807) ∧ (-9223372036854775808 ≤ ((x1 * (2 : Int)) + (2 : Int)) ∧ ((x1 * (2 : Int)) + (2 : Int)) ≤ 9223372036854775807) ∧ (0 ≤ (x1 * (2 : Int)) ∧ (x1 * (2 : Int)) ≤ ((x1 * (2 : Int)) + (2 : Int)) ∧ ((x1 * (2 : Int)) + (2 : Int)) ≤ ((cs3.length : Nat) : Int)) ∧ True) Tryd_mixed (by kernel_rfl) ⟨ob2, ob3, ob4, ob5, trivial⟩ ?_
    refine thenQ_normal ?_
    have hret := Option.some.inj h
    subst hret
    refine AWp.le (Le.mk (s := ⟨15, [(2, .str ((cs3.take ((((x1 * (2 : Int)) + (2 : Int))).toNat)).drop (((x1 * (2 : Int))).toNat)))], [], [], 0⟩) (s' := ⟨15, [(2, .str ((cs3.take ((((x1 * (2 : Int)) + (2 : Int))).toNat)).drop (((x1 * (2 : Int))).toNat)))], [], [], 0⟩) rfl rfl ⟨.refl _, trivial⟩ trivial) ?_
    refine AWp.ret ?_
    exact bodyQ_ret _ rfl ⟨rfl, rfl⟩ rfl
def f115 (x1 : Int) : Option Int :=
  chk (-9223372036854775808 ≤ (x1 * (78913 : Int)) ∧ (x1 * (78913 : Int)) ≤ 9223372036854775807) <|
  chk (18 ≤ IntKind.bits .i64) <|
  some ((x1 * (78913 : Int)) / 2 ^ 18)
set_option maxRecDepth 100000 in
theorem f115_ok  (x1 : Int) (r : Int) (h : f115 x1 = some r)  : Spec1 Tryd.prog 115 [] [] [] [.int .i64 x1] (.int .i64 r) [] := by
  unfold f115 at h
  refine Spec1.body 0 _ _ Tryd.func115 rfl Tryd.ntmps115 rfl rfl ?_
  refine AWp.seq ?_
  refine AWp.regC [] [] [0] [] ⟨6, [(0, .int .i64 x1)], [], [], 0⟩ (True) Tryd_mixed (by kernel_rfl) trivial ?_
  refine thenQ_normal ?_
  refine AWp.seq ?_
  obtain ⟨ob0, h⟩ := chk_some h
  obtain ⟨ob1p, h⟩ := chk_some h
  have ob1 : 0 ≤ (18 : Int) ∧ 18 ≤ IntKind.bits .i64 := ⟨by omega, ob1p⟩
  refine AWp.regC [] [] [2] [] ⟨6, [(2, .int .i64 ((x1 * (78913 : Int)) / 2 ^ 18))], [], [], 0⟩ ((-9223372036854775808 ≤ (x1 * (78913 : Int)) ∧ (x1 * (78913 : Int)) ≤ 9223372036854775807) ∧ (0 ≤ (18 : Int) ∧ 18 ≤ IntKind.bits .i64) ∧ True) Tryd_mixed (by kernel_rfl) ⟨ob0, ob1, trivial⟩ ?_
  refine thenQ_normal ?_
  have hret := Option.some.inj h
  subst hret
  refine AWp.le (Le.mk (s := ⟨6, [(2, .int .i64 ((x1 * (78913 : Int)) / 2 ^ 18))], [], [], 0⟩) (s' := ⟨6, [(2, .int .i64 ((x1 * (78913 : Int)) / 2 ^ 18))], [], [], 0⟩) rfl rfl ⟨.refl _, trivial⟩ trivial) ?_
  refine AWp.ret ?_
  exact bodyQ_ret _ rfl ⟨rfl, rfl⟩ rfl
def f116 (x1 : Bool) : Option Int :=
  if x1 then (
  some (1 : Int)
  ) else (
  some (0 : Int)
  )
set_option maxRecDepth 100000 in
theorem f116_ok  (x1 : Bool) (r : Int) (h : f116 x1 = some r)  : Spec1 Tryd.prog 116 [] [] [] [.bool x1] (.int .i64 r) [] := by
  unfold f116 at h
  refine Spec1.body 0 _ _ Tryd.func116 rfl Tryd.ntmps116 rfl rfl ?_
  refine AWp.seq ?_
  refine AWp.regC [] [] [0] [] ⟨4, [(0, .bool x1)], [], [], 0⟩ (True) Tryd_mixed (by kernel_rfl) trivial ?_
  refine thenQ_normal ?_
  refine AWp.seq ?_
  refine AWp.seq ?_
  refine AWp.regC [] [] [3] [] ⟨4, [(3, .bool x1)], [], [], 0⟩ (True) Tryd_mixed (by kernel_rfl) trivial ?_
  refine thenQ_normal ?_
  refine AWp.cond (b := x1) (by kernel_rfl) (fun hc1 => ?_) (fun hc1 => ?_)
  ·
    replace h := ite_tb hc1 h
    refine AWp.seq ?_
    refine AWp.regC [] [] [2] [] ⟨4, [(2, .int .i64 (1 : Int))], [], [], 0⟩ (True) Tryd_mixed (by kernel_rfl) trivial ?_
    refine thenQ_normal ?_
    have hret := Option.some.inj h
    subst hret
    refine AWp.le (Le.mk (s := ⟨4, [(2, .int .i64 (1 : Int))], [], [], 0⟩) (s' := ⟨4, [(2, .int .i64 (1 : Int))], [], [], 0⟩) rfl rfl ⟨.refl _, trivial⟩ trivial) ?_
    refine AWp.ret ?_
    refine thenQ_ret ?_
    exact bodyQ_ret _ rfl ⟨rfl, rfl⟩ rfl
  ·
    replace h := ite_fb hc1 h
    refine AWp.skip ?_
    refine thenQ_normal ?_
    refine AWp.seq ?_
    refine AWp.regC [] [] [2] [] ⟨4, [(2, .int .i64 (0 : Int))], [], [], 0⟩ (True) Tryd_mixed (by kernel_rfl) trivial ?_
    refine thenQ_normal ?_
    have hret := Option.some.inj h
    subst hret
    refine AWp.le (Le.mk (s := ⟨4, [(2, .int .i64 (0 : Int))], [], [], 0⟩) (s' := ⟨4, [(2, .int .i64 (0 : Int))], [], [], 0⟩) rfl rfl ⟨.refl _, trivial⟩ trivial) ?_
    refine AWp.ret ?_
    exact bodyQ_ret _ rfl ⟨rfl, rfl⟩ rfl
def f107 (x1 : Int) : Option Int :=
  (f105 x1).bind fun (r2 : Int) =>
  (f115 r2).bind fun (r3 : Int) =>
  (f116 (decide (x1 ≥ (((T2.getD (0 + ((r3).toNat) * 1 + 0) 0) : Nat) : Int)))).bind fun (r4 : Int) =>
  chk (0 ≤ r3 ∧ r3 < 20) <|
  chk (-9223372036854775808 ≤ (r3 + r4) ∧ (r3 + r4) ≤ 9223372036854775807) <|
  some (r3 + r4)
set_option maxRecDepth 100000 in
theorem f107_ok  (x1 : Int) (r : Int) (h : f107 x1 = some r)  : Spec1 Tryd.prog 107 [(2, .elem 20 1 T2F 0 0)] [] [] [.int .u64 x1] (.int .i64 r) [] := by
  unfold f107 at h
  refine Spec1.body 0 _ _ Tryd.func107 rfl Tryd.ntmps107 rfl rfl ?_
  refine AWp.seq ?_
  refine AWp.regC [] [] [0, 1000002] [] ⟨15, [(0, .int .u64 x1), (1000002, .elem 20 1 T2F 0 0)], [], [], 0⟩ (True) Tryd_mixed (by kernel_rfl) trivial ?_
  refine thenQ_normal ?_
  refine AWp.seq ?_
  obtain ⟨r2, hr2, h⟩ := bind_ok h
  obtain ⟨r3, hr3, h⟩ := bind_ok h
  refine AWp.regC [] [(1, ⟨[.int .u64 x1], [], [], [], .int .i64 r2, [], [], []⟩), (2, ⟨[.int .i64 r2], [], [], [], .int .i64 r3, [], [], []⟩)] [0, 3, 1000002] [] ⟨15, [(0, .int .u64 x1), (3, .int .i64 r3), (1000002, .elem 20 1 T2F 0 0)], [], [], 0⟩ ((callP Tryd.prog true 105 [] [] [] [] [] [.int .u64 x1] [.int .u64 x1] (.int .i64 r2) []) ∧ (callP Tryd.prog true 115 [] [] [] [] [] [.int .i64 r2] [.int .i64 r2] (.int .i64 r3) []) ∧ True) Tryd_mixed (by kernel_rfl) ⟨⟨fun _ => (f105_ok x1 r2 hr2), fun _ => ⟨.refl _, trivial⟩, .inl rfl⟩, ⟨fun _ => (f115_ok r2 r3 hr3), fun _ => ⟨.refl _, trivial⟩, .inl rfl⟩, trivial⟩ ?_
  refine thenQ_normal ?_
  refine AWp.seq ?_
  obtain ⟨r4, hr4, h⟩ := bind_ok h
  obtain ⟨ob0, h⟩ := chk_some h
  obtain ⟨ob1, h⟩ := chk_some h
  refine AWp.regC [] [(6, ⟨[.bool (decide (x1 ≥ (((T2.getD (0 + ((r3).toNat) * 1 + 0) 0) : Nat) : Int)))], [], [], [], .int .i64 r4, [], [], []⟩)] [2, 1000002] [] ⟨15, [(2, .int .i64 (r3 + r4)), (1000002, .elem 20 1 T2F 0 0)], [], [], 0⟩ ((0 ≤ r3 ∧ r3 < 20) ∧ (callP Tryd.prog true 116 [] [] [] [] [] [.bool (decide (x1 ≥ (((T2.getD (0 + ((r3).toNat) * 1 + 0) 0) : Nat) : Int)))] [.bool (decide (x1 ≥ (((T2.getD (0 + ((r3).toNat) * 1 + 0) 0) : Nat) : Int)))] (.int .i64 r4) []) ∧ (-9223372036854775808 ≤ (r3 + r4) ∧ (r3 + r4) ≤ 9223372036854775807) ∧ True) Tryd_mixed (by kernel_rfl) ⟨ob0, ⟨fun _ => (f116_ok (decide (x1 ≥ (((T2.getD (0 + ((r3).toNat) * 1 + 0) 0) : Nat) : Int))) r4 hr4), fun _ => ⟨.refl _, trivial⟩, .inl rfl⟩, ob1, trivial⟩ ?_
  refine thenQ_normal ?_
  have hret := Option.some.inj h
  subst hret
  refine AWp.le (Le.mk (s := ⟨15, [(2, .int .i64 (r3 + r4)), (1000002, .elem 20 1 T2F 0 0)], [], [], 0⟩) (s' := ⟨15, [(2, .int .i64 (r3 + r4))], [], [], 0⟩) rfl rfl ⟨.refl _, trivial⟩ trivial) ?_
  refine AWp.ret ?_
  exact bodyQ_ret _ rfl ⟨rfl, rfl⟩ rfl
def f117 (x1 : Int) : Option Bool :=
  chk (-9223372036854775808 ≤ (x1 - (1 : Int)) ∧ (x1 - (1 : Int)) ≤ 9223372036854775807) <|
  some ((bitsI .and .i64 x1 (x1 - (1 : Int))) == (0 : Int))
set_option maxRecDepth 100000 in
theorem f117_ok  (x1 : Int) (r : Bool) (h : f117 x1 = some r)  : Spec1 Tryd.prog 117 [] [] [] [.int .i64 x1] (.bool r) [] := by
  unfold f117 at h
  refine Spec1.body 0 _ _ Tryd.func117 rfl Tryd.ntmps117 rfl rfl ?_
  refine AWp.seq ?_
  refine AWp.regC [] [] [0] [] ⟨8, [(0, .int .i64 x1)], [], [], 0⟩ (True) Tryd_mixed (by kernel_rfl) trivial ?_
  refine thenQ_normal ?_
  refine AWp.seq ?_
  obtain ⟨ob0, h⟩ := chk_some h
  refine AWp.regC [] [] [2] [] ⟨8, [(2, .bool ((bitsI .and .i64 x1 (x1 - (1 : Int))) == (0 : Int)))], [], [], 0⟩ ((-9223372036854775808 ≤ (x1 - (1 : Int)) ∧ (x1 - (1 : Int)) ≤ 9223372036854775807) ∧ True) Tryd_mixed (by kernel_rfl) ⟨ob0, trivial⟩ ?_
  refine thenQ_normal ?_
  have hret := Option.some.inj h
  subst hret
  refine AWp.le (Le.mk (s := ⟨8, [(2, .bool ((bitsI .and .i64 x1 (x1 - (1 : Int))) == (0 : Int)))], [], [], 0⟩) (s' := ⟨8, [(2, .bool ((bitsI .and .i64 x1 (x1 - (1 : Int))) == (0 : Int)))], [], [], 0⟩) rfl rfl ⟨.refl _, trivial⟩ trivial) ?_
  refine AWp.ret ?_
  exact bodyQ_ret _ rfl ⟨rfl, rfl⟩ rfl
def f121 (x1 : Int) : Option Int :=
  if (x1 == (0 : Int)) then (
  some (64 : Int)
  ) else (
  chk (0 ≤ (0 - x1) ∧ (0 - x1) ≤ 18446744073709551615) <|
  chk (0 ≤ ((bitsI .and .u64 x1 (0 - x1)) * (285870213051353865 : Int)) ∧ ((bitsI .and .u64 x1 (0 - x1)) * (285870213051353865 : Int)) ≤ 18446744073709551615) <|
  chk (58 ≤ IntKind.bits .u64) <|
  chk (0 ≤ (((bitsI .and .u64 x1 (0 - x1)) * (285870213051353865 : Int)) / 2 ^ 58) ∧ (((bitsI .and .u64 x1 (0 - x1)) * (285870213051353865 : Int)) / 2 ^ 58) < 64) <|
  chk ((((T3.getD (0 + (((((bitsI .and .u64 x1 (0 - x1)) * (285870213051353865 : Int)) / 2 ^ 58)).toNat) * 1 + 0) 0) : Nat) : Int) ≤ 9223372036854775807) <|
  some (((T3.getD (0 + (((((bitsI .and .u64 x1 (0 - x1)) * (285870213051353865 : Int)) / 2 ^ 58)).toNat) * 1 + 0) 0) : Nat) : Int)
  )
set_option maxRecDepth 100000 in
theorem f121_ok  (x1 : Int) (r : Int) (h : f121 x1 = some r)  : Spec1 Tryd.prog 121 [(3, .elem 64 1 T3F 0 0)] [] [] [.int .u64 x1] (.int .i64 r) [] := by
  unfold f121 at h
  refine Spec1.body 0 _ _ Tryd.func121 rfl Tryd.ntmps121 rfl rfl ?_
  refine AWp.seq ?_
  refine AWp.regC [] [] [0, 1000003] [] ⟨14, [(0, .int .u64 x1), (1000003, .elem 64 1 T3F 0 0)], [], [], 0⟩ (True) Tryd_mixed (by kernel_rfl) trivial ?_
  refine thenQ_normal ?_
  refine AWp.seq ?_
  refine AWp.seq ?_
  refine AWp.regC [] [] [0, 4, 1000003] [] ⟨14, [(0, .int .u64 x1), (4, .bool (x1 == (0 : Int))), (1000003, .elem 64 1 T3F 0 0)], [], [], 0⟩ (True) Tryd_mixed (by kernel_rfl) trivial ?_
  refine thenQ_normal ?_
  refine AWp.cond (b := (x1 == (0 : Int))) (by kernel_rfl) (fun hc1 => ?_) (fun hc1 => ?_)
  ·
    replace h := ite_tb hc1 h
    refine AWp.seq ?_
    refine AWp.regC [] [] [2, 1000003] [] ⟨14, [(2, .int .i64 (64 : Int)), (1000003, .elem 64 1 T3F 0 0)], [], [], 0⟩ (True) Tryd_mixed (by kernel_rfl) trivial ?_
    refine thenQ_normal ?_
    have hret := Option.some.inj h
    subst hret
    refine AWp.le (Le.mk (s := ⟨14, [(2, .int .i64 (64 : Int)), (1000003, .elem 64 1 T3F 0 0)], [], [], 0⟩) (s' := ⟨14, [(2, .int .i64 (64 : Int))], [], [], 0⟩) rfl rfl ⟨.refl _, trivial⟩ trivial) ?_
    refine AWp.ret ?_
    refine thenQ_ret ?_
    exact bodyQ_ret _ rfl ⟨rfl, rfl⟩ rfl
  ·
    replace h := ite_fb hc1 h
    refine AWp.skip ?_
    refine thenQ_normal ?_
    refine AWp.seq ?_
    obtain ⟨ob0, h⟩ := chk_some h
    obtain ⟨ob1, h⟩ := chk_some h
    obtain ⟨ob2p, h⟩ := chk_some h
    have ob2 : 0 ≤ (58 : Int) ∧ 58 ≤ IntKind.bits .u64 := ⟨by omega, ob2p⟩
    obtain ⟨ob3, h⟩ := chk_some h
    obtain ⟨ob4p, h⟩ := chk_some h
    have ob4 : -9223372036854775808 ≤ (((T3.getD (0 + (((((bitsI .and .u64 x1 (0 - x1)) * (285870213051353865 : Int)) / 2 ^ 58)).toNat) * 1 + 0) 0) : Nat) : Int) ∧ (((T3.getD (0 + (((((bitsI .and .u64 x1 (0 - x1)) * (285870213051353865 : Int)) / 2 ^ 58)).toNat) * 1 + 0) 0) : Nat) : Int) ≤ 9223372036854775807 := ⟨by omega, ob4p⟩
    refine AWp.regC [] [] [2, 1000003] [] ⟨14, [(2, .int .i64 (((T3.getD (0 + (((((bitsI .and .u64 x1 (0 - x1)) * (285870213051353865 : Int)) / 2 ^ 58)).toNat) * 1 + 0) 0) : Nat) : Int)), (1000003, .elem 64 1 T3F 0 0)], [], [], 0⟩ ((0 ≤ (0 - x1) ∧ (0 - x1) ≤ 18446744073709551615) ∧ (0 ≤ ((bitsI .and .u64 x1 (0 - x1)) * (285870213051353865 : Int)) ∧ ((bitsI .and .u64 x1 (0 - x1)) * (285870213051353865 : Int)) ≤ 18446744073709551615) ∧ (0 ≤ (58 : Int) ∧ 58 ≤ IntKind.bits .u64) ∧ (0 ≤ (((bitsI .and .u64 x1 (0 - x1)) * (285870213051353865 : Int)) / 2 ^ 58) ∧ (((bitsI .and .u64 x1 (0 - x1)) * (285870213051353865 : Int)) / 2 ^ 58) < 64) ∧ (-9223372036854775808 ≤ (((T3.getD (0 + (((((bitsI .and .u64 x1 (0 - x1)) * (285870213051353865 : Int)) / 2 ^ 58)).toNat) * 1 + 0) 0) : Nat) : Int) ∧ (((T3.getD (0 + (((((bitsI .and .u64 x1 (0 - x1)) * (285870213051353865 : Int)) / 2 ^ 58)).toNat) * 1 + 0) 0) : Nat) : Int) ≤ 9223372036854775807) ∧ True) Tryd_mixed (by kernel_rfl) ⟨ob0, ob1, ob2, ob3, ob4, trivial⟩ ?_
    refine thenQ_normal ?_
    have hret := Option.some.inj h
    subst hret
    refine AWp.le (Le.mk (s := ⟨14, [(2, .int .i64 (((T3.getD (0 + (((((bitsI .and .u64 x1 (0 - x1)) * (285870213051353865 : Int)) / 2 ^ 58)).toNat) * 1 + 0) 0) : Nat) : Int)), (1000003, .elem 64 1 T3F 0 0)], [], [], 0⟩) (s' := ⟨14, [(2, .int .i64 (((T3.getD (0 + (((((bitsI .and .u64 x1 (0 - x1)) * (285870213051353865 : Int)) / 2 ^ 58)).toNat) * 1 + 0) 0) : Nat) : Int))], [], [], 0⟩) rfl rfl ⟨.refl _, trivial⟩ trivial) ?_
    refine AWp.ret ?_
    exact bodyQ_ret _ rfl ⟨rfl, rfl⟩ rfl
def f118 (x1 : Int) : Option Int :=
  (f121 x1).bind fun (r2 : Int) =>
  some r2
set_option maxRecDepth 100000 in
theorem f118_ok  (x1 : Int) (r : Int) (h : f118 x1 = some r)  : Spec1 Tryd.prog 118 [(3, .elem 64 1 T3F 0 0)] [] [] [.int .u64 x1] (.int .i64 r) [] := by
  unfold f118 at h
  refine Spec1.body 0 _ _ Tryd.func118 rfl Tryd.ntmps118 rfl rfl ?_
  refine AWp.seq ?_
  refine AWp.regC [] [] [0, 1000003] [] ⟨8, [(0, .int .u64 x1), (1000003, .elem 64 1 T3F 0 0)], [], [], 0⟩ (True) Tryd_mixed (by kernel_rfl) trivial ?_
  refine thenQ_normal ?_
  refine AWp.seq ?_
  refine AWp.cond (b := false) (by kernel_rfl) (fun hc => ?_) (fun hc => ?_)
  ·
    cases hc
  ·
    clear hc
    refine AWp.skip ?_
    refine thenQ_normal ?_
    refine AWp.seq ?_
    obtain ⟨r2, hr2, h⟩ := bind_ok h
    refine AWp.regC [] [(1, ⟨[.int .u64 x1], [], [], [], .int .i64 r2, [], [], [3]⟩)] [2, 1000003] [] ⟨8, [(2, .int .i64 r2), (1000003, .elem 64 1 T3F 0 0)], [], [], 0⟩ ((callP Tryd.prog true 121 [(3, .elem 64 1 T3F 0 0)] [] [] [] [] [.int .u64 x1] [.int .u64 x1] (.int .i64 r2) []) ∧ True) Tryd_mixed (by kernel_rfl) ⟨⟨fun _ => (f121_ok x1 r2 hr2), fun _ => ⟨.refl _, trivial⟩, .inl rfl⟩, trivial⟩ ?_
    refine thenQ_normal ?_
    have hret := Option.some.inj h
    subst hret
    refine AWp.le (Le.mk (s := ⟨8, [(2, .int .i64 r2), (1000003, .elem 64 1 T3F 0 0)], [], [], 0⟩) (s' := ⟨8, [(2, .int .i64 r2)], [], [], 0⟩) rfl rfl ⟨.refl _, trivial⟩ trivial) ?_
    refine AWp.ret ?_
    exact bodyQ_ret _ rfl ⟨rfl, rfl⟩ rfl
def f93 (x1 : Int) (x2 : Int) : Option (List UInt8) :=
  if (x2 == (10 : Int)) then (
  if ((decide ((0 : Int) ≤ x1)) && (decide (x1 < (100 : Int)))) then (
  (f106 x1).bind fun (r3 : List UInt8) =>
  some r3
  ) else (
  chk (0 ≤ x1 ∧ x1 ≤ 18446744073709551615) <|
  jn (fun (i4 : Int) =>
  (f107 i4).bind fun (r5 : Int) =>
  none
  ) fun (K1 : Int → Option (List UInt8)) =>
  if (decide (x1 < (0 : Int))) then (
  chk (0 ≤ (0 - x1) ∧ (0 - x1) ≤ 18446744073709551615) <|
  K1 (0 - x1)
  ) else (
  K1 x1
  )
  )
  ) else (
  none
  )
set_option maxRecDepth 100000 in
theorem f93_ok  (x1 : Int) (x2 : Int) (r : List UInt8) (h : f93 x1 x2 = some r)  : Spec1 Tryd.prog 93 [(2, .elem 20 1 T2F 0 0)] [] [] [.int .i64 x1, .int .i64 x2] (.str r) [] := by
  unfold f93 at h
  refine Spec1.body 0 _ _ Tryd.func93 rfl Tryd.ntmps93 rfl rfl ?_
  refine AWp.seq ?_
  refine AWp.regC [] [] [0, 1, 1000002] [] ⟨54, [(0, .int .i64 x1), (1, .int .i64 x2), (1000002, .elem 20 1 T2F 0 0)], [], [], 0⟩ (True) Tryd_mixed (by kernel_rfl) trivial ?_
  refine thenQ_normal ?_
  refine AWp.seq ?_
  refine AWp.seq ?_
  refine AWp.regC [] [] [0, 1, 11, 1000002] [] ⟨54, [(0, .int .i64 x1), (1, .int .i64 x2), (11, .bool (x2 == (10 : Int))), (1000002, .elem 20 1 T2F 0 0)], [], [], 0⟩ (True) Tryd_mixed (by kernel_rfl) trivial ?_
  refine thenQ_normal ?_
  refine AWp.cond (b := (x2 == (10 : Int))) (by kernel_rfl) (fun hc1 => ?_) (fun hc1 => ?_)
  ·
    replace h := ite_tb hc1 h
    refine AWp.seq ?_
    refine AWp.seq ?_
    have ob0 : ((decide ((0 : Int) ≤ x1)) == true) = true → ((decide ((0 : Int) ≤ x1)) == true) = true := fun h => h
    have ob1 : true = true → (decide ((0 : Int) ≤ x1)) = true → ((decide ((0 : Int) ≤ x1)) == true) = true := fun _ h => beq_iff_eq.2 h
    refine AWp.regC [] [] [0, 17, 1000002] [] ⟨54, [(0, .int .i64 x1), (17, .bool ((decide ((0 : Int) ≤ x1)) && (decide (x1 < (100 : Int))))), (1000002, .elem 20 1 T2F 0 0)], [], [], 0⟩ (((((decide ((0 : Int) ≤ x1)) == true) = true → ((decide ((0 : Int) ≤ x1)) == true) = true) ∧ True) ∧ (true = true → (decide ((0 : Int) ≤ x1)) = true → ((decide ((0 : Int) ≤ x1)) == true) = true) ∧ True) Tryd_mixed (by kernel_rfl) ⟨⟨ob0, trivial⟩, ob1, trivial⟩ ?_
    refine thenQ_normal ?_
    refine AWp.cond (b := ((decide ((0 : Int) ≤ x1)) && (decide (x1 < (100 : Int))))) (by kernel_rfl) (fun hc2 => ?_) (fun hc2 => ?_)
    ·
      replace h := ite_tb hc2 h
      refine AWp.seq ?_
      obtain ⟨r3, hr3, h⟩ := bind_ok h
      refine AWp.regC [] [(1, ⟨[.int .i64 x1], [], [], [], .str r3, [], [], []⟩)] [4, 1000002] [] ⟨54, [(4, .str r3), (1000002, .elem 20 1 T2F 0 0)], [], [], 0⟩ ((callP Tryd.prog true 106 [] [] [] [] [] [.int .i64 x1] [.int .i64 x1] (.str r3) []) ∧ True) Tryd_mixed (by kernel_rfl) ⟨⟨fun _ => (f106_ok x1 r3 hr3), fun _ => ⟨.refl _, trivial⟩, .inl rfl⟩, trivial⟩ ?_
      refine thenQ_normal ?_
      have hret := Option.some.inj h
      subst hret
      refine AWp.le (Le.mk (s := ⟨54, [(4, .str r3), (1000002, .elem 20 1 T2F 0 0)], [], [], 0⟩) (s' := ⟨54, [(4, .str r3)], [], [], 0⟩) rfl rfl ⟨.refl _, trivial⟩ trivial) ?_
      refine AWp.ret ?_
      refine thenQ_ret ?_
      refine thenQ_ret ?_
      exact bodyQ_ret _ rfl ⟨rfl, rfl⟩ rfl
    ·
      replace h := ite_fb hc2 h
      refine AWp.skip ?_
      refine thenQ_normal ?_
      refine AWp.seq ?_
      refine AWp.regC [] [] [0, 5, 1000002] [5] ⟨54, [(0, .int .i64 x1), (5, .ptr 5 0), (1000002, .elem 20 1 T2F 0 0)], [(5, .cells 113 [.int .u8 (0 : Int), .int .u8 (0 : Int), .int .u8 (0 : Int), .int .u8 (0 : Int), .int .u8 (0 : Int), .int .u8 (0 : Int), .int .u8 (0 : Int), .int .u8 (0 : Int), .int .u8 (0 : Int), .int .u8 (0 : Int), .int .u8 (0 : Int), .int .u8 (0 : Int), .int .u8 (0 : Int), .int .u8 (0 : Int), .int .u8 (0 : Int), .int .u8 (0 : Int), .int .u8 (0 : Int), .int .u8 (0 : Int), .int .u8 (0 : Int), .int .u8 (0 : Int), .int .u8 (0 : Int), .int .u8 (0 : Int), .int .u8 (0 : Int), .int .u8 (0 : Int)])], [], 0⟩ (True) Tryd_mixed (by kernel_rfl) trivial ?_
      refine thenQ_normal ?_
      refine AWp.seq ?_
      obtain ⟨ob2, h⟩ := chk_some h
      refine AWp.regC [] [] [0, 5, 6, 1000002] [5] ⟨54, [(0, .int .i64 x1), (5, .ptr 5 0), (6, .int .u64 x1), (1000002, .elem 20 1 T2F 0 0)], [(5, .cells 113 [.int .u8 (0 : Int), .int .u8 (0 : Int), .int .u8 (0 : Int), .int .u8 (0 : Int), .int .u8 (0 : Int), .int .u8 (0 : Int), .int .u8 (0 : Int), .int .u8 (0 : Int), .int .u8 (0 : Int), .int .u8 (0 : Int), .int .u8 (0 : Int), .int .u8 (0 : Int), .int .u8 (0 : Int), .int .u8 (0 : Int), .int .u8 (0 : Int), .int .u8 (0 : Int), .int .u8 (0 : Int), .int .u8 (0 : Int), .int .u8 (0 : Int), .int .u8 (0 : Int), .int .u8 (0 : Int), .int .u8 (0 : Int), .int .u8 (0 : Int), .int .u8 (0 : Int)])], [], 0⟩ ((0 ≤ x1 ∧ x1 ≤ 18446744073709551615) ∧ True) Tryd_mixed (by kernel_rfl) ⟨ob2, trivial⟩ ?_
      refine thenQ_normal ?_
      obtain ⟨K1, hK1, h⟩ := jn_some h
      refine AWp.join (α := Int) (fun (i4 : Int) => ⟨54, [(0, .int .i64 x1), (5, .ptr 5 0), (6, .int .u64 i4), (1000002, .elem 20 1 T2F 0 0)], [(5, .cells 113 [.int .u8 (0 : Int), .int .u8 (0 : Int), .int .u8 (0 : Int), .int .u8 (0 : Int), .int .u8 (0 : Int), .int .u8 (0 : Int), .int .u8 (0 : Int), .int .u8 (0 : Int), .int .u8 (0 : Int), .int .u8 (0 : Int), .int .u8 (0 : Int), .int .u8 (0 : Int), .int .u8 (0 : Int), .int .u8 (0 : Int), .int .u8 (0 : Int), .int .u8 (0 : Int), .int .u8 (0 : Int), .int .u8 (0 : Int), .int .u8 (0 : Int), .int .u8 (0 : Int), .int .u8 (0 : Int), .int .u8 (0 : Int), .int .u8 (0 : Int), .int .u8 (0 : Int)])], [], 0⟩) (fun x => K1 x = some r) ?_ ?_
      ·
        refine AWp.seq ?_
        refine AWp.regC [] [] [0, 5, 6, 23, 1000002] [5] ⟨54, [(0, .int .i64 x1), (5, .ptr 5 0), (6, .int .u64 x1), (23, .bool (decide (x1 < (0 : Int)))), (1000002, .elem 20 1 T2F 0 0)], [(5, .cells 113 [.int .u8 (0 : Int), .int .u8 (0 : Int), .int .u8 (0 : Int), .int .u8 (0 : Int), .int .u8 (0 : Int), .int .u8 (0 : Int), .int .u8 (0 : Int), .int .u8 (0 : Int), .int .u8 (0 : Int), .int .u8 (0 : Int), .int .u8 (0 : Int), .int .u8 (0 : Int), .int .u8 (0 : Int), .int .u8 (0 : Int), .int .u8 (0 : Int), .int .u8 (0 : Int), .int .u8 (0 : Int), .int .u8 (0 : Int), .int .u8 (0 : Int), .int .u8 (0 : Int), .int .u8 (0 : Int), .int .u8 (0 : Int), .int .u8 (0 : Int), .int .u8 (0 : Int)])], [], 0⟩ (True) Tryd_mixed (by kernel_rfl) trivial ?_
        refine thenQ_normal ?_
        refine AWp.cond (b := (decide (x1 < (0 : Int)))) (by kernel_rfl) (fun hc3 => ?_) (fun hc3 => ?_)
        ·
          replace h := ite_tb hc3 h
          obtain ⟨ob3, h⟩ := chk_some h
          refine AWp.regC [] [] [0, 5, 6, 1000002] [5] ⟨54, [(0, .int .i64 x1), (5, .ptr 5 0), (6, .int .u64 (0 - x1)), (1000002, .elem 20 1 T2F 0 0)], [(5, .cells 113 [.int .u8 (0 : Int), .int .u8 (0 : Int), .int .u8 (0 : Int), .int .u8 (0 : Int), .int .u8 (0 : Int), .int .u8 (0 : Int), .int .u8 (0 : Int), .int .u8 (0 : Int), .int .u8 (0 : Int), .int .u8 (0 : Int), .int .u8 (0 : Int), .int .u8 (0 : Int), .int .u8 (0 : Int), .int .u8 (0 : Int), .int .u8 (0 : Int), .int .u8 (0 : Int), .int .u8 (0 : Int), .int .u8 (0 : Int), .int .u8 (0 : Int), .int .u8 (0 : Int), .int .u8 (0 : Int), .int .u8 (0 : Int), .int .u8 (0 : Int), .int .u8 (0 : Int)])], [], 0⟩ ((0 ≤ (0 - x1) ∧ (0 - x1) ≤ 18446744073709551615) ∧ True) Tryd_mixed (by kernel_rfl) ⟨ob3, trivial⟩ ?_
          exact joinQ_normal ((0 - x1)) (Le.mk (s := ⟨54, [(0, .int .i64 x1), (5, .ptr 5 0), (6, .int .u64 (0 - x1)), (1000002, .elem 20 1 T2F 0 0)], [(5, .cells 113 [.int .u8 (0 : Int), .int .u8 (0 : Int), .int .u8 (0 : Int), .int .u8 (0 : Int), .int .u8 (0 : Int), .int .u8 (0 : Int), .int .u8 (0 : Int), .int .u8 (0 : Int), .int .u8 (0 : Int), .int .u8 (0 : Int), .int .u8 (0 : Int), .int .u8 (0 : Int), .int .u8 (0 : Int), .int .u8 (0 : Int), .int .u8 (0 : Int), .int .u8 (0 : Int), .int .u8 (0 : Int), .int .u8 (0 : Int), .int .u8 (0 : Int), .int .u8 (0 : Int), .int .u8 (0 : Int), .int .u8 (0 : Int), .int .u8 (0 : Int), .int .u8 (0 : Int)])], [], 0⟩) (s' := ⟨54, [(0, .int .i64 x1), (5, .ptr 5 0), (6, .int .u64 (0 - x1)), (1000002, .elem 20 1 T2F 0 0)], [(5, .cells 113 [.int .u8 (0 : Int), .int .u8 (0 : Int), .int .u8 (0 : Int), .int .u8 (0 : Int), .int .u8 (0 : Int), .int .u8 (0 : Int), .int .u8 (0 : Int), .int .u8 (0 : Int), .int .u8 (0 : Int), .int .u8 (0 : Int), .int .u8 (0 : Int), .int .u8 (0 : Int), .int .u8 (0 : Int), .int .u8 (0 : Int), .int .u8 (0 : Int), .int .u8 (0 : Int), .int .u8 (0 : Int), .int .u8 (0 : Int), .int .u8 (0 : Int), .int .u8 (0 : Int), .int .u8 (0 : Int), .int .u8 (0 : Int), .int .u8 (0 : Int), .int .u8 (0 : Int)])], [], 0⟩) rfl rfl ⟨.refl _, .refl _, .refl _, .refl _, trivial⟩ ⟨⟨_, rfl, .refl _⟩, trivial⟩) h
        ·
          replace h := ite_fb hc3 h
          refine AWp.skip ?_
          exact joinQ_normal (x1) (Le.mk (s := ⟨54, [(0, .int .i64 x1), (5, .ptr 5 0), (6, .int .u64 x1), (23, .bool (decide (x1 < (0 : Int)))), (1000002, .elem 20 1 T2F 0 0)], [(5, .cells 113 [.int .u8 (0 : Int), .int .u8 (0 : Int), .int .u8 (0 : Int), .int .u8 (0 : Int), .int .u8 (0 : Int), .int .u8 (0 : Int), .int .u8 (0 : Int), .int .u8 (0 : Int), .int .u8 (0 : Int), .int .u8 (0 : Int), .int .u8 (0 : Int), .int .u8 (0 : Int), .int .u8 (0 : Int), .int .u8 (0 : Int), .int .u8 (0 : Int), .int .u8 (0 : Int), .int .u8 (0 : Int), .int .u8 (0 : Int), .int .u8 (0 : Int), .int .u8 (0 : Int), .int .u8 (0 : Int), .int .u8 (0 : Int), .int .u8 (0 : Int), .int .u8 (0 : Int)])], [], 0⟩) (s' := ⟨54, [(0, .int .i64 x1), (5, .ptr 5 0), (6, .int .u64 x1), (1000002, .elem 20 1 T2F 0 0)], [(5, .cells 113 [.int .u8 (0 : Int), .int .u8 (0 : Int), .int .u8 (0 : Int), .int .u8 (0 : Int), .int .u8 (0 : Int), .int .u8 (0 : Int), .int .u8 (0 : Int), .int .u8 (0 : Int), .int .u8 (0 : Int), .int .u8 (0 : Int), .int .u8 (0 : Int), .int .u8 (0 : Int), .int .u8 (0 : Int), .int .u8 (0 : Int), .int .u8 (0 : Int), .int .u8 (0 : Int), .int .u8 (0 : Int), .int .u8 (0 : Int), .int .u8 (0 : Int), .int .u8 (0 : Int), .int .u8 (0 : Int), .int .u8 (0 : Int), .int .u8 (0 : Int), .int .u8 (0 : Int)])], [], 0⟩) rfl rfl ⟨.refl _, .refl _, .refl _, .refl _, trivial⟩ ⟨⟨_, rfl, .refl _⟩, trivial⟩) h
      ·
        rintro i4 h
        replace h := (congrFun hK1 _).symm.trans h
        refine AWp.seq ?_
        obtain ⟨r5, hr5, h⟩ := bind_ok h
        refine AWp.regC [] [(1, ⟨[.int .u64 i4], [], [], [], .int .i64 r5, [], [], [2]⟩)] [0, 5, 6, 7, 1000002] [5] ⟨54, [(0, .int .i64 x1), (5, .ptr 5 0), (6, .int .u64 i4), (7, .int .i64 r5), (1000002, .elem 20 1 T2F 0 0)], [(5, .cells 113 [.int .u8 (0 : Int), .int .u8 (0 : Int), .int .u8 (0 : Int), .int .u8 (0 : Int), .int .u8 (0 : Int), .int .u8 (0 : Int), .int .u8 (0 : Int), .int .u8 (0 : Int), .int .u8 (0 : Int), .int .u8 (0 : Int), .int .u8 (0 : Int), .int .u8 (0 : Int), .int .u8 (0 : Int), .int .u8 (0 : Int), .int .u8 (0 : Int), .int .u8 (0 : Int), .int .u8 (0 : Int), .int .u8 (0 : Int), .int .u8 (0 : Int), .int .u8 (0 : Int), .int .u8 (0 : Int), .int .u8 (0 : Int), .int .u8 (0 : Int), .int .u8 (0 : Int)])], [], 0⟩ ((callP Tryd.prog true 107 [(2, .elem 20 1 T2F 0 0)] [] [] [] [] [.int .u64 i4] [.int .u64 i4] (.int .i64 r5) []) ∧ True) Tryd_mixed (by kernel_rfl) ⟨⟨fun _ => (f107_ok i4 r5 hr5), fun _ => ⟨.refl _, trivial⟩, .inl rfl⟩, trivial⟩ ?_
        refine thenQ_normal ?_
        refine AWp.seq ?_
        exact nomatch (show (none : Option (List UInt8)) = some r from h)
  ·
    replace h := ite_fb hc1 h
    refine AWp.skip ?_
    refine thenQ_normal ?_
    refine AWp.seq ?_
    exact nomatch (show (none : Option (List UInt8)) = some r from h)
def f88 (x1 : Int) : Option (List UInt8) :=
  (f93 x1 (10 : Int)).bind fun (r2 : List UInt8) =>
  some r2
set_option maxRecDepth 100000 in
theorem f88_ok  (x1 : Int) (r : List UInt8) (h : f88 x1 = some r)  : Spec1 Tryd.prog 88 [(2, .elem 20 1 T2F 0 0)] [] [] [.int .i64 x1] (.str r) [] := by
  unfold f88 at h
  refine Spec1.body 0 _ _ Tryd.func88 rfl Tryd.ntmps88 rfl rfl ?_
  refine AWp.seq ?_
  refine AWp.regC [] [] [0, 1000002] [] ⟨5, [(0, .int .i64 x1), (1000002, .elem 20 1 T2F 0 0)], [], [], 0⟩ (True) Tryd_mixed (by kernel_rfl) trivial ?_
  refine thenQ_normal ?_
  refine AWp.seq ?_
  obtain ⟨r2, hr2, h⟩ := bind_ok h
  refine AWp.regC [] [(1, ⟨[.int .i64 x1, .int .i64 (10 : Int)], [], [], [], .str r2, [], [], [2]⟩)] [2, 1000002] [] ⟨5, [(2, .str r2), (1000002, .elem 20 1 T2F 0 0)], [], [], 0⟩ ((callP Tryd.prog true 93 [(2, .elem 20 1 T2F 0 0)] [] [] [] [] [.int .i64 x1, .int .i64 (10 : Int)] [.int .i64 x1, .int .i64 (10 : Int)] (.str r2) []) ∧ True) Tryd_mixed (by kernel_rfl) ⟨⟨fun _ => (f93_ok x1 (10 : Int) r2 hr2), fun _ => ⟨.refl _, .refl _, trivial⟩, .inl rfl⟩, trivial⟩ ?_
  refine thenQ_normal ?_
  have hret := Option.some.inj h
  subst hret
  refine AWp.le (Le.mk (s := ⟨5, [(2, .str r2), (1000002, .elem 20 1 T2F 0 0)], [], [], 0⟩) (s' := ⟨5, [(2, .str r2)], [], [], 0⟩) rfl rfl ⟨.refl _, trivial⟩ trivial) ?_
  refine AWp.ret ?_
  exact bodyQ_ret _ rfl ⟨rfl, rfl⟩ rfl
def f77 (x1 : Int) : Option (List UInt8) :=
  (f88 x1).bind fun (r2 : List UInt8) =>
  some r2
set_option maxRecDepth 100000 in
theorem f77_ok  (x1 : Int) (r : List UInt8) (h : f77 x1 = some r)  : Spec1 Tryd.prog 77 [(2, .elem 20 1 T2F 0 0)] [] [] [.int .i64 x1] (.str r) [] := by
  unfold f77 at h
  refine Spec1.body 0 _ _ Tryd.func77 rfl Tryd.ntmps77 rfl rfl ?_
  refine AWp.seq ?_
  refine AWp.regC [] [] [0, 1000002] [] ⟨5, [(0, .int .i64 x1), (1000002, .elem 20 1 T2F 0 0)], [], [], 0⟩ (True) Tryd_mixed (by kernel_rfl) trivial ?_
  refine thenQ_normal ?_
  refine AWp.seq ?_
  obtain ⟨r2, hr2, h⟩ := bind_ok h
  refine AWp.regC [] [(1, ⟨[.int .i64 x1], [], [], [], .str r2, [], [], [2]⟩)] [2, 1000002] [] ⟨5, [(2, .str r2), (1000002, .elem 20 1 T2F 0 0)], [], [], 0⟩ ((callP Tryd.prog true 88 [(2, .elem 20 1 T2F 0 0)] [] [] [] [] [.int .i64 x1] [.int .i64 x1] (.str r2) []) ∧ True) Tryd_mixed (by kernel_rfl) ⟨⟨fun _ => (f88_ok x1 r2 hr2), fun _ => ⟨.refl _, trivial⟩, .inl rfl⟩, trivial⟩ ?_
  refine thenQ_normal ?_
  have hret := Option.some.inj h
  subst hret
  refine AWp.le (Le.mk (s := ⟨5, [(2, .str r2), (1000002, .elem 20 1 T2F 0 0)], [], [], 0⟩) (s' := ⟨5, [(2, .str r2)], [], [], 0⟩) rfl rfl ⟨.refl _, trivial⟩ trivial) ?_
  refine AWp.ret ?_
  exact bodyQ_ret _ rfl ⟨rfl, rfl⟩ rfl
def f61 (x1 : List (List UInt8)) (x2 : List UInt8) : Option (List UInt8) := joinP x1 x2
theorem f61_ok (x1 : List (List UInt8)) (x2 : List UInt8) (r : List UInt8) (h : f61 x1 x2 = some r) : Spec1 Tryd.prog 61 [] [] [] [vL 1 eS [] x1, .str x2] (.str r) [] :=
  join_spec (fun a c sep w => Any.strings_Join_none Tryd.lays156 Tryd.Builder_Extra_156 a c sep w) (fun bk o c xs sep w h1 h2 h3 h4 h5 => Any.strings_Join Tryd.lays156 Tryd.Builder_Extra_156 bk o c xs sep w h1 h2 h3 h4 h5) x1 x2 r h
def f60_L0 (K1 : (List (List UInt8)) → Option (List UInt8)) (r2 : List Int) : Nat → (Nat × List (List UInt8)) → Option (List UInt8)
  | 0, _ => none
  | k + 1, (n3, l4) =>
    if (decide (((n3 : Nat) : Int) < (((r2).length : Nat) : Int))) then (
    chk (((n3 : Nat) : Int) < (((r2).length : Nat) : Int)) <|
    chk (n3 < (r2).length) <|
    (f77 (r2.getD n3 0)).bind fun (r5 : List UInt8) =>
    chk (((l4).length + 1) * 16 ≤ 140737488355328) <|
    chk ((((n3 : Nat) : Int) + (1 : Int)) ≤ 9223372036854775807) <|
    (f60_L0 K1 r2 k) ((n3 + 1), (l4 ++ [r5]))
    ) else (
    K1 l4
    )
def f60 (x1 : BitVec 16) : Option (List UInt8) :=
  jn (fun (l6 : List (List UInt8)) =>
  (f61 l6 ([32] : List UInt8)).bind fun (r7 : List UInt8) =>
  chk (([123] : List UInt8).length + r7.length ≤ 9223372036854775807) <|
  chk ((([123] : List UInt8) ++ r7).length + ([125] : List UInt8).length ≤ 9223372036854775807) <|
  some ((([123] : List UInt8) ++ r7) ++ ([125] : List UInt8))
  ) fun (K1 : (List (List UInt8)) → Option (List UInt8)) =>
  (f76 x1).bind fun (r2 : List Int) =>
  f60_L0 K1 r2 FUEL (0, [])
set_option maxRecDepth 100000 in
theorem f60_ok  (x1 : BitVec 16) (r : List UInt8) (h : f60 x1 = some r)  : Spec1 Tryd.prog 60 [(0, .elem 32 1 T0F 0 0), (2, .elem 20 1 T2F 0 0)] [] [] [.b16 x1] (.str r) [] := by
  unfold f60 at h
  refine Spec1.body 0 _ _ Tryd.func60 rfl Tryd.ntmps60 rfl rfl ?_
  refine AWp.seq ?_
  refine AWp.regC [] [] [0, 1000000, 1000002] [] ⟨23, [(0, .b16 x1), (1000000, .elem 32 1 T0F 0 0), (1000002, .elem 20 1 T2F 0 0)], [], [], 0⟩ (True) Tryd_mixed (by kernel_rfl) trivial ?_
  refine thenQ_normal ?_
  refine AWp.seq ?_
  refine AWp.regC [] [] [0, 3, 1000000, 1000002] [] ⟨23, [(0, .b16 x1), (3, .nils), (1000000, .elem 32 1 T0F 0 0), (1000002, .elem 20 1 T2F 0 0)], [], [], 0⟩ (True) Tryd_mixed (by kernel_rfl) trivial ?_
  refine thenQ_normal ?_
  obtain ⟨K1, hK1, h⟩ := jn_some h
  refine AWp.join (α := List (List UInt8)) (fun (l6 : List (List UInt8)) => ⟨23, [(3, .own 5003), (1000000, .elem 32 1 T0F 0 0), (1000002, .elem 20 1 T2F 0 0)], [(5003, bL 9 1 eS [] l6)], [], 0⟩) (fun x => K1 x = some r) ?_ ?_
  ·
    refine AWp.seq ?_
    obtain ⟨r2, hr2, h⟩ := bind_ok h
    refine AWp.regC [] [(1, ⟨[.b16 x1], [], [], [(6001, bL 3 1 eI 0 r2)], .own 6001, [6001], [], [0]⟩)] [3, 7, 8, 9, 1000000, 1000002] [6001] ⟨23, [(3, .nils), (7, .own 6001), (8, .int .i64 (((r2).length : Nat) : Int)), (9, .int .i64 (0 : Int)), (1000000, .elem 32 1 T0F 0 0), (1000002, .elem 20 1 T2F 0 0)], [(6001, bL 3 1 eI 0 r2)], [], 0⟩ ((callP Tryd.prog true 76 [(0, .elem 32 1 T0F 0 0)] [] [] [] [] [.b16 x1] [.b16 x1] (.own 6001) [(6001, bL 3 1 eI 0 r2)]) ∧ True) Tryd_mixed (by kernel_rfl) ⟨⟨fun _ => (Spec1.ren (swapN 3000 6001) (swapN_inv 3000 6001) rfl (f76_ok x1 r2 hr2)), fun _ => ⟨.refl _, trivial⟩, .inl rfl⟩, trivial⟩ ?_
    refine thenQ_normal ?_
    refine AWp.block ?_
    refine AWp.loopL (α := Nat × (Nat × List (List UInt8))) (fun x => match x with | (_, n3, l4) => ⟨23, [(3, .own 5003), (7, .own 6001), (8, .int .i64 (((r2).length : Nat) : Int)), (9, .int .i64 ((n3 : Nat) : Int)), (1000000, .elem 32 1 T0F 0 0), (1000002, .elem 20 1 T2F 0 0)], [(5003, bL 9 1 eS [] l4), (6001, bL 3 1 eI 0 r2)], [], 0⟩) (fun x => f60_L0 K1 r2 x.1 x.2 = some r) (fun x => x.1) (FUEL, 0, []) (Le.trans (Le.trans (Le.nilOwn (s := ⟨23, [(3, .nils), (7, .own 6001), (8, .int .i64 (((r2).length : Nat) : Int)), (9, .int .i64 (0 : Int)), (1000000, .elem 32 1 T0F 0 0), (1000002, .elem 20 1 T2F 0 0)], [(6001, bL 3 1 eI 0 r2)], [], 0⟩) 3 5003 9 1 (encF eS [] []) rfl rfl (Nat.le_of_ble_eq_true rfl)) (Le.mk (s' := ⟨23, [(3, .own 5003), (7, .own 6001), (8, .int .i64 (((r2).length : Nat) : Int)), (9, .int .i64 (0 : Int)), (1000000, .elem 32 1 T0F 0 0), (1000002, .elem 20 1 T2F 0 0)], [(6001, bL 3 1 eI 0 r2), (5003, bL 9 1 eS [] [])], [], 0⟩) rfl rfl ⟨.refl _, .refl _, .refl _, .refl _, .refl _, .refl _, trivial⟩ ⟨⟨_, rfl, .refl _⟩, ⟨_, rfl, .refl _⟩, trivial⟩)) (Le.mk (s := ⟨23, [(3, .own 5003), (7, .own 6001), (8, .int .i64 (((r2).length : Nat) : Int)), (9, .int .i64 (0 : Int)), (1000000, .elem 32 1 T0F 0 0), (1000002, .elem 20 1 T2F 0 0)], [(6001, bL 3 1 eI 0 r2), (5003, bL 9 1 eS [] [])], [], 0⟩) (s' := ⟨23, [(3, .own 5003), (7, .own 6001), (8, .int .i64 (((r2).length : Nat) : Int)), (9, .int .i64 (0 : Int)), (1000000, .elem 32 1 T0F 0 0), (1000002, .elem 20 1 T2F 0 0)], [(5003, bL 9 1 eS [] []), (6001, bL 3 1 eI 0 r2)], [], 0⟩) rfl rfl ⟨.refl _, .refl _, .refl _, .refl _, .refl _, .refl _, trivial⟩ ⟨⟨_, rfl, .refl _⟩, ⟨_, rfl, .refl _⟩, trivial⟩)) h ?_
    rintro ⟨k0, n3, l4⟩ h
    cases k0 with
    | zero => exact nomatch (show (none : Option (List UInt8)) = some r from h)
    | succ k0 =>
    obtain ⟨C0, hC0⟩ : ∃ C, C = f60_L0 K1 r2 k0 := ⟨_, rfl⟩
    replace h := (f60_L0.eq_2 ..).symm.trans h
    try rw [← hC0] at h
    refine AWp.seq ?_
    refine AWp.regC [] [] [3, 7, 8, 9, 10, 1000000, 1000002] [5003, 6001] ⟨23, [(3, .own 5003), (7, .own 6001), (8, .int .i64 (((r2).length : Nat) : Int)), (9, .int .i64 ((n3 : Nat) : Int)), (10, .bool (decide (((n3 : Nat) : Int) < (((r2).length : Nat) : Int)))), (1000000, .elem 32 1 T0F 0 0), (1000002, .elem 20 1 T2F 0 0)], [(5003, bL 9 1 eS [] l4), (6001, bL 3 1 eI 0 r2)], [], 0⟩ (True) Tryd_mixed (by kernel_rfl) trivial ?_
    refine thenQ_normal ?_
    refine AWp.seq ?_
    refine AWp.cond (b := (decide (((n3 : Nat) : Int) < (((r2).length : Nat) : Int)))) (by kernel_rfl) (fun hc1 => ?_) (fun hc1 => ?_)
    ·
      replace h := ite_tb hc1 h
      refine AWp.skip ?_
      refine thenQ_normal ?_
      refine AWp.seq ?_
      refine AWp.block ?_
      refine AWp.seq ?_
      obtain ⟨ob0p, h⟩ := chk_some h
      have ob0 : 0 ≤ ((n3 : Nat) : Int) ∧ ((n3 : Nat) : Int) < (((r2).length : Nat) : Int) := ⟨by omega, ob0p⟩
      obtain ⟨ob1, h⟩ := chk_some h
      refine AWp.regC [] [] [3, 5, 7, 8, 9, 1000000, 1000002] [5003, 6001] ⟨23, [(3, .own 5003), (5, .int .i64 (r2.getD n3 0)), (7, .own 6001), (8, .int .i64 (((r2).length : Nat) : Int)), (9, .int .i64 ((n3 : Nat) : Int)), (1000000, .elem 32 1 T0F 0 0), (1000002, .elem 20 1 T2F 0 0)], [(5003, bL 9 1 eS [] l4), (6001, bL 3 1 eI 0 r2)], [], 0⟩ ((0 ≤ ((n3 : Nat) : Int) ∧ ((n3 : Nat) : Int) < (((r2).length : Nat) : Int)) ∧ (n3 < (r2).length) ∧ True) Tryd_mixed (by kernel_rfl) ⟨ob0, ob1, trivial⟩ ?_
      refine thenQ_normal ?_
      obtain ⟨r5, hr5, h⟩ := bind_ok h
      obtain ⟨ob2, h⟩ := chk_some h
      refine AWp.regC [] [(2, ⟨[.int .i64 (r2.getD n3 0)], [], [], [], .str r5, [], [], [2]⟩)] [3, 7, 8, 9, 1000000, 1000002] [5003, 6001] ⟨23, [(3, .own 5003), (7, .own 6001), (8, .int .i64 (((r2).length : Nat) : Int)), (9, .int .i64 ((n3 : Nat) : Int)), (1000000, .elem 32 1 T0F 0 0), (1000002, .elem 20 1 T2F 0 0)], [(5003, .rows 9 1 ((l4).length + 1) (appF (l4).length (encF eS [] l4) (lstF 1 [.str r5]))), (6001, bL 3 1 eI 0 r2)], [], 0⟩ ((callP Tryd.prog true 77 [(2, .elem 20 1 T2F 0 0)] [] [] [] [] [.int .i64 (r2.getD n3 0)] [.int .i64 (r2.getD n3 0)] (.str r5) []) ∧ (((l4).length + 1) * 16 ≤ 140737488355328) ∧ True) Tryd_mixed (by kernel_rfl) ⟨⟨fun _ => (f77_ok (r2.getD n3 0) r5 hr5), fun _ => ⟨.refl _, trivial⟩, .inl rfl⟩, ob2, trivial⟩ ?_
      refine blockQ_normal ?_
      refine thenQ_normal ?_
      refine AWp.le (Le.mk (s := ⟨23, [(3, .own 5003), (7, .own 6001), (8, .int .i64 (((r2).length : Nat) : Int)), (9, .int .i64 ((n3 : Nat) : Int)), (1000000, .elem 32 1 T0F 0 0), (1000002, .elem 20 1 T2F 0 0)], [(5003, .rows 9 1 ((l4).length + 1) (appF (l4).length (encF eS [] l4) (lstF 1 [.str r5]))), (6001, bL 3 1 eI 0 r2)], [], 0⟩) (s' := ⟨23, [(3, .own 5003), (7, .own 6001), (8, .int .i64 (((r2).length : Nat) : Int)), (9, .int .i64 ((n3 : Nat) : Int)), (1000000, .elem 32 1 T0F 0 0), (1000002, .elem 20 1 T2F 0 0)], [(5003, bL 9 1 eS [] (l4 ++ [r5])), (6001, bL 3 1 eI 0 r2)], [], 0⟩) rfl rfl ⟨.refl _, .refl _, .refl _, .refl _, .refl _, .refl _, trivial⟩ ⟨⟨_, rfl, (BLe.of (RL.app (RL.self _) (RL.lst (enc := eS) [r5] rfl rfl (fun _ => rfl))))⟩, ⟨_, rfl, .refl _⟩, trivial⟩) ?_
      obtain ⟨ob3p, h⟩ := chk_some h
      have ob3 : -9223372036854775808 ≤ (((n3 : Nat) : Int) + (1 : Int)) ∧ (((n3 : Nat) : Int) + (1 : Int)) ≤ 9223372036854775807 := ⟨by omega, ob3p⟩
      refine AWp.regC [] [] [3, 7, 8, 9, 1000000, 1000002] [5003, 6001] ⟨23, [(3, .own 5003), (7, .own 6001), (8, .int .i64 (((r2).length : Nat) : Int)), (9, .int .i64 (((n3 + 1) : Nat) : Int)), (1000000, .elem 32 1 T0F 0 0), (1000002, .elem 20 1 T2F 0 0)], [(5003, bL 9 1 eS [] (l4 ++ [r5])), (6001, bL 3 1 eI 0 r2)], [], 0⟩ ((-9223372036854775808 ≤ (((n3 : Nat) : Int) + (1 : Int)) ∧ (((n3 : Nat) : Int) + (1 : Int)) ≤ 9223372036854775807) ∧ True) Tryd_mixed (by kernel_rfl) ⟨ob3, trivial⟩ ?_
      rw [hC0] at h
      exact loopQ_normal (_, (n3 + 1), (l4 ++ [r5])) (Le.mk (s := ⟨23, [(3, .own 5003), (7, .own 6001), (8, .int .i64 (((r2).length : Nat) : Int)), (9, .int .i64 (((n3 + 1) : Nat) : Int)), (1000000, .elem 32 1 T0F 0 0), (1000002, .elem 20 1 T2F 0 0)], [(5003, bL 9 1 eS [] (l4 ++ [r5])), (6001, bL 3 1 eI 0 r2)], [], 0⟩) (s' := ⟨23, [(3, .own 5003), (7, .own 6001), (8, .int .i64 (((r2).length : Nat) : Int)), (9, .int .i64 (((n3 + 1) : Nat) : Int)), (1000000, .elem 32 1 T0F 0 0), (1000002, .elem 20 1 T2F 0 0)], [(5003, bL 9 1 eS [] (l4 ++ [r5])), (6001, bL 3 1 eI 0 r2)], [], 0⟩) rfl rfl ⟨.refl _, .refl _, .refl _, .refl _, .refl _, .refl _, trivial⟩ ⟨⟨_, rfl, .refl _⟩, ⟨_, rfl, .refl _⟩, trivial⟩) h (Nat.lt_succ_self _)
    ·
      replace h := ite_fb hc1 h
      refine AWp.exit ?_
      refine thenQ_exit ?_
      refine thenQ_exit ?_
      refine blockQ_same ?_
      exact joinQ_normal (l4) (Le.mk (s := ⟨23, [(3, .own 5003), (7, .own 6001), (8, .int .i64 (((r2).length : Nat) : Int)), (9, .int .i64 ((n3 : Nat) : Int)), (10, .bool (decide (((n3 : Nat) : Int) < (((r2).length : Nat) : Int)))), (1000000, .elem 32 1 T0F 0 0), (1000002, .elem 20 1 T2F 0 0)], [(5003, bL 9 1 eS [] l4), (6001, bL 3 1 eI 0 r2)], [], 0⟩) (s' := ⟨23, [(3, .own 5003), (1000000, .elem 32 1 T0F 0 0), (1000002, .elem 20 1 T2F 0 0)], [(5003, bL 9 1 eS [] l4)], [], 0⟩) rfl rfl ⟨.refl _, .refl _, .refl _, trivial⟩ ⟨⟨_, rfl, .refl _⟩, trivial⟩) h
  ·
    rintro l6 h
    replace h := (congrFun hK1 _).symm.trans h
    refine AWp.seq ?_
    obtain ⟨r7, hr7, h⟩ := bind_ok h
    obtain ⟨ob4, h⟩ := chk_some h
    obtain ⟨ob5, h⟩ := chk_some h
    refine AWp.regC [] [(1, ⟨[vL 1 eS [] l6, .str ([32] : List UInt8)], [], [], [], .str r7, [], [5003], []⟩)] [2, 1000000, 1000002] [] ⟨23, [(2, .str ((([123] : List UInt8) ++ r7) ++ ([125] : List UInt8))), (1000000, .elem 32 1 T0F 0 0), (1000002, .elem 20 1 T2F 0 0)], [], [], 0⟩ ((callP Tryd.prog true 61 [] [] [] [(5003, bL 9 1 eS [] l6)] [5003] [.own 5003, .str ([32] : List UInt8)] [vL 1 eS [] l6, .str ([32] : List UInt8)] (.str r7) []) ∧ (([123] : List UInt8).length + r7.length ≤ 9223372036854775807) ∧ ((([123] : List UInt8) ++ r7).length + ([125] : List UInt8).length ≤ 9223372036854775807) ∧ True) Tryd_mixed (by kernel_rfl) ⟨⟨fun _ => (f61_ok l6 ([32] : List UInt8) r7 hr7), fun _ => ⟨.refl _, .refl _, trivial⟩, .inr ⟨rfl, trivial⟩⟩, ob4, ob5, trivial⟩ ?_
    refine thenQ_normal ?_
    have hret := Option.some.inj h
    subst hret
    refine AWp.le (Le.mk (s := ⟨23, [(2, .str ((([123] : List UInt8) ++ r7) ++ ([125] : List UInt8))), (1000000, .elem 32 1 T0F 0 0), (1000002, .elem 20 1 T2F 0 0)], [], [], 0⟩) (s' := ⟨23, [(2, .str ((([123] : List UInt8) ++ r7) ++ ([125] : List UInt8)))], [], [], 0⟩) rfl rfl ⟨.refl _, trivial⟩ trivial) ?_
    refine AWp.ret ?_
    exact bodyQ_ret _ rfl ⟨rfl, rfl⟩ rfl
def f37_L0 (x1 : List (BitVec 16)) (K1 : (List (List UInt8)) → Option (List UInt8)) : Nat → (Nat × List (List UInt8)) → Option (List UInt8)
  | 0, _ => none
  | k + 1, (n2, l3) =>
    if (decide (((n2 : Nat) : Int) < (((x1).length : Nat) : Int))) then (
    chk (((n2 : Nat) : Int) < (((x1).length : Nat) : Int)) <|
    (f60 (x1.getD n2 0#16)).bind fun (r4 : List UInt8) =>
    chk (((l3).length + 1) * 16 ≤ 140737488355328) <|
    chk ((((n2 : Nat) : Int) + (1 : Int)) ≤ 9223372036854775807) <|
    (f37_L0 x1 K1 k) ((n2 + 1), (l3 ++ [r4]))
    ) else (
    K1 l3
    )
def f37 (x1 : List (BitVec 16)) : Option (List UInt8) :=
  jn (fun (l5 : List (List UInt8)) =>
  (f61 l5 ([32] : List UInt8)).bind fun (r6 : List UInt8) =>
  some r6
  ) fun (K1 : (List (List UInt8)) → Option (List UInt8)) =>
  f37_L0 x1 K1 FUEL (0, [])
set_option maxRecDepth 100000 in
theorem f37_ok  (x1 : List (BitVec 16)) (r : List UInt8) (h : f37 x1 = some r)  : Spec1 Tryd.prog 37 [(0, .elem 32 1 T0F 0 0), (2, .elem 20 1 T2F 0 0)] [] [] [vL 1 eW 0#16 x1] (.str r) [] := by
  unfold f37 at h
  refine Spec1.body 0 _ _ Tryd.func37 rfl Tryd.ntmps37 rfl rfl ?_
  refine AWp.seq ?_
  refine AWp.regC [] [] [0, 1000000, 1000002] [] ⟨20, [(0, vL 1 eW 0#16 x1), (1000000, .elem 32 1 T0F 0 0), (1000002, .elem 20 1 T2F 0 0)], [], [], 0⟩ (True) Tryd_mixed (by kernel_rfl) trivial ?_
  refine thenQ_normal ?_
  refine AWp.seq ?_
  refine AWp.regC [] [] [0, 3, 1000000, 1000002] [] ⟨20, [(0, vL 1 eW 0#16 x1), (3, .nils), (1000000, .elem 32 1 T0F 0 0), (1000002, .elem 20 1 T2F 0 0)], [], [], 0⟩ (True) Tryd_mixed (by kernel_rfl) trivial ?_
  refine thenQ_normal ?_
  obtain ⟨K1, hK1, h⟩ := jn_some h
  refine AWp.join (α := List (List UInt8)) (fun (l5 : List (List UInt8)) => ⟨20, [(3, .own 5003), (1000000, .elem 32 1 T0F 0 0), (1000002, .elem 20 1 T2F 0 0)], [(5003, bL 9 1 eS [] l5)], [], 0⟩) (fun x => K1 x = some r) ?_ ?_
  ·
    refine AWp.seq ?_
    refine AWp.regC [] [] [3, 6, 7, 8, 1000000, 1000002] [] ⟨20, [(3, .nils), (6, vL 1 eW 0#16 x1), (7, .int .i64 (((x1).length : Nat) : Int)), (8, .int .i64 (0 : Int)), (1000000, .elem 32 1 T0F 0 0), (1000002, .elem 20 1 T2F 0 0)], [], [], 0⟩ (True) Tryd_mixed (by kernel_rfl) trivial ?_
    refine thenQ_normal ?_
    refine AWp.block ?_
    refine AWp.loopL (α := Nat × (Nat × List (List UInt8))) (fun x => match x with | (_, n2, l3) => ⟨20, [(3, .own 5003), (6, vL 1 eW 0#16 x1), (7, .int .i64 (((x1).length : Nat) : Int)), (8, .int .i64 ((n2 : Nat) : Int)), (1000000, .elem 32 1 T0F 0 0), (1000002, .elem 20 1 T2F 0 0)], [(5003, bL 9 1 eS [] l3)], [], 0⟩) (fun x => f37_L0 x1 K1 x.1 x.2 = some r) (fun x => x.1) (FUEL, 0, []) (Le.trans (Le.trans (Le.nilOwn (s := ⟨20, [(3, .nils), (6, vL 1 eW 0#16 x1), (7, .int .i64 (((x1).length : Nat) : Int)), (8, .int .i64 (0 : Int)), (1000000, .elem 32 1 T0F 0 0), (1000002, .elem 20 1 T2F 0 0)], [], [], 0⟩) 3 5003 9 1 (encF eS [] []) rfl rfl (Nat.le_of_ble_eq_true rfl)) (Le.mk (s' := ⟨20, [(3, .own 5003), (6, vL 1 eW 0#16 x1), (7, .int .i64 (((x1).length : Nat) : Int)), (8, .int .i64 (0 : Int)), (1000000, .elem 32 1 T0F 0 0), (1000002, .elem 20 1 T2F 0 0)], [(5003, bL 9 1 eS [] [])], [], 0⟩) rfl rfl ⟨.refl _, .refl _, .refl _, .refl _, .refl _, .refl _, trivial⟩ ⟨⟨_, rfl, .refl _⟩, trivial⟩)) (Le.mk (s := ⟨20, [(3, .own 5003), (6, vL 1 eW 0#16 x1), (7, .int .i64 (((x1).length : Nat) : Int)), (8, .int .i64 (0 : Int)), (1000000, .elem 32 1 T0F 0 0), (1000002, .elem 20 1 T2F 0 0)], [(5003, bL 9 1 eS [] [])], [], 0⟩) (s' := ⟨20, [(3, .own 5003), (6, vL 1 eW 0#16 x1), (7, .int .i64 (((x1).length : Nat) : Int)), (8, .int .i64 (0 : Int)), (1000000, .elem 32 1 T0F 0 0), (1000002, .elem 20 1 T2F 0 0)], [(5003, bL 9 1 eS [] [])], [], 0⟩) rfl rfl ⟨.refl _, .refl _, .refl _, .refl _, .refl _, .refl _, trivial⟩ ⟨⟨_, rfl, .refl _⟩, trivial⟩)) h ?_
    rintro ⟨k0, n2, l3⟩ h
    cases k0 with
    | zero => exact nomatch (show (none : Option (List UInt8)) = some r from h)
    | succ k0 =>
    obtain ⟨C0, hC0⟩ : ∃ C, C = f37_L0 x1 K1 k0 := ⟨_, rfl⟩
    replace h := (f37_L0.eq_2 ..).symm.trans h
    try rw [← hC0] at h
    refine AWp.seq ?_
    refine AWp.regC [] [] [3, 6, 7, 8, 9, 1000000, 1000002] [5003] ⟨20, [(3, .own 5003), (6, vL 1 eW 0#16 x1), (7, .int .i64 (((x1).length : Nat) : Int)), (8, .int .i64 ((n2 : Nat) : Int)), (9, .bool (decide (((n2 : Nat) : Int) < (((x1).length : Nat) : Int)))), (1000000, .elem 32 1 T0F 0 0), (1000002, .elem 20 1 T2F 0 0)], [(5003, bL 9 1 eS [] l3)], [], 0⟩ (True) Tryd_mixed (by kernel_rfl) trivial ?_
    refine thenQ_normal ?_
    refine AWp.seq ?_
    refine AWp.cond (b := (decide (((n2 : Nat) : Int) < (((x1).length : Nat) : Int)))) (by kernel_rfl) (fun hc1 => ?_) (fun hc1 => ?_)
    ·
      replace h := ite_tb hc1 h
      refine AWp.skip ?_
      refine thenQ_normal ?_
      refine AWp.seq ?_
      refine AWp.block ?_
      refine AWp.seq ?_
      obtain ⟨ob0p, h⟩ := chk_some h
      have ob0 : 0 ≤ ((n2 : Nat) : Int) ∧ ((n2 : Nat) : Int) < (((x1).length : Nat) : Int) := ⟨by omega, ob0p⟩
      refine AWp.regC [] [] [3, 5, 6, 7, 8, 1000000, 1000002] [5003] ⟨20, [(3, .own 5003), (5, .b16 (x1.getD n2 0#16)), (6, vL 1 eW 0#16 x1), (7, .int .i64 (((x1).length : Nat) : Int)), (8, .int .i64 ((n2 : Nat) : Int)), (1000000, .elem 32 1 T0F 0 0), (1000002, .elem 20 1 T2F 0 0)], [(5003, bL 9 1 eS [] l3)], [], 0⟩ ((0 ≤ ((n2 : Nat) : Int) ∧ ((n2 : Nat) : Int) < (((x1).length : Nat) : Int)) ∧ True) Tryd_mixed (by kernel_rfl) ⟨ob0, trivial⟩ ?_
      refine thenQ_normal ?_
      obtain ⟨r4, hr4, h⟩ := bind_ok h
      obtain ⟨ob1, h⟩ := chk_some h
      refine AWp.regC [] [(2, ⟨[.b16 (x1.getD n2 0#16)], [], [], [], .str r4, [], [], [0, 2]⟩)] [3, 6, 7, 8, 1000000, 1000002] [5003] ⟨20, [(3, .own 5003), (6, vL 1 eW 0#16 x1), (7, .int .i64 (((x1).length : Nat) : Int)), (8, .int .i64 ((n2 : Nat) : Int)), (1000000, .elem 32 1 T0F 0 0), (1000002, .elem 20 1 T2F 0 0)], [(5003, .rows 9 1 ((l3).length + 1) (appF (l3).length (encF eS [] l3) (lstF 1 [.str r4])))], [], 0⟩ ((callP Tryd.prog true 60 [(0, .elem 32 1 T0F 0 0), (2, .elem 20 1 T2F 0 0)] [] [] [] [] [.b16 (x1.getD n2 0#16)] [.b16 (x1.getD n2 0#16)] (.str r4) []) ∧ (((l3).length + 1) * 16 ≤ 140737488355328) ∧ True) Tryd_mixed (by kernel_rfl) ⟨⟨fun _ => (f60_ok (x1.getD n2 0#16) r4 hr4), fun _ => ⟨.refl _, trivial⟩, .inl rfl⟩, ob1, trivial⟩ ?_
      refine blockQ_normal ?_
      refine thenQ_normal ?_
      refine AWp.le (Le.mk (s := ⟨20, [(3, .own 5003), (6, vL 1 eW 0#16 x1), (7, .int .i64 (((x1).length : Nat) : Int)), (8, .int .i64 ((n2 : Nat) : Int)), (1000000, .elem 32 1 T0F 0 0), (1000002, .elem 20 1 T2F 0 0)], [(5003, .rows 9 1 ((l3).length + 1) (appF (l3).length (encF eS [] l3) (lstF 1 [.str r4])))], [], 0⟩) (s' := ⟨20, [(3, .own 5003), (6, vL 1 eW 0#16 x1), (7, .int .i64 (((x1).length : Nat) : Int)), (8, .int .i64 ((n2 : Nat) : Int)), (1000000, .elem 32 1 T0F 0 0), (1000002, .elem 20 1 T2F 0 0)], [(5003, bL 9 1 eS [] (l3 ++ [r4]))], [], 0⟩) rfl rfl ⟨.refl _, .refl _, .refl _, .refl _, .refl _, .refl _, trivial⟩ ⟨⟨_, rfl, (BLe.of (RL.app (RL.self _) (RL.lst (enc := eS) [r4] rfl rfl (fun _ => rfl))))⟩, trivial⟩) ?_
      obtain ⟨ob2p, h⟩ := chk_some h
      have ob2 : -9223372036854775808 ≤ (((n2 : Nat) : Int) + (1 : Int)) ∧ (((n2 : Nat) : Int) + (1 : Int)) ≤ 9223372036854775807 := ⟨by omega, ob2p⟩
      refine AWp.regC [] [] [3, 6, 7, 8, 1000000, 1000002] [5003] ⟨20, [(3, .own 5003), (6, vL 1 eW 0#16 x1), (7, .int .i64 (((x1).length : Nat) : Int)), (8, .int .i64 (((n2 + 1) : Nat) : Int)), (1000000, .elem 32 1 T0F 0 0), (1000002, .elem 20 1 T2F 0 0)], [(5003, bL 9 1 eS [] (l3 ++ [r4]))], [], 0⟩ ((-9223372036854775808 ≤ (((n2 : Nat) : Int) + (1 : Int)) ∧ (((n2 : Nat) : Int) + (1 : Int)) ≤ 9223372036854775807) ∧ True) Tryd_mixed (by kernel_rfl) ⟨ob2, trivial⟩ ?_
      rw [hC0] at h
      exact loopQ_normal (_, (n2 + 1), (l3 ++ [r4])) (Le.mk (s := ⟨20, [(3, .own 5003), (6, vL 1 eW 0#16 x1), (7, .int .i64 (((x1).length : Nat) : Int)), (8, .int .i64 (((n2 + 1) : Nat) : Int)), (1000000, .elem 32 1 T0F 0 0), (1000002, .elem 20 1 T2F 0 0)], [(5003, bL 9 1 eS [] (l3 ++ [r4]))], [], 0⟩) (s' := ⟨20, [(3, .own 5003), (6, vL 1 eW 0#16 x1), (7, .int .i64 (((x1).length : Nat) : Int)), (8, .int .i64 (((n2 + 1) : Nat) : Int)), (1000000, .elem 32 1 T0F 0 0), (1000002, .elem 20 1 T2F 0 0)], [(5003, bL 9 1 eS [] (l3 ++ [r4]))], [], 0⟩) rfl rfl ⟨.refl _, .refl _, .refl _, .refl _, .refl _, .refl _, trivial⟩ ⟨⟨_, rfl, .refl _⟩, trivial⟩) h (Nat.lt_succ_self _)
    ·
      replace h := ite_fb hc1 h
      refine AWp.exit ?_
      refine thenQ_exit ?_
      refine thenQ_exit ?_
      refine blockQ_same ?_
      exact joinQ_normal (l3) (Le.mk (s := ⟨20, [(3, .own 5003), (6, vL 1 eW 0#16 x1), (7, .int .i64 (((x1).length : Nat) : Int)), (8, .int .i64 ((n2 : Nat) : Int)), (9, .bool (decide (((n2 : Nat) : Int) < (((x1).length : Nat) : Int)))), (1000000, .elem 32 1 T0F 0 0), (1000002, .elem 20 1 T2F 0 0)], [(5003, bL 9 1 eS [] l3)], [], 0⟩) (s' := ⟨20, [(3, .own 5003), (1000000, .elem 32 1 T0F 0 0), (1000002, .elem 20 1 T2F 0 0)], [(5003, bL 9 1 eS [] l3)], [], 0⟩) rfl rfl ⟨.refl _, .refl _, .refl _, trivial⟩ ⟨⟨_, rfl, .refl _⟩, trivial⟩) h
  ·
    rintro l5 h
    replace h := (congrFun hK1 _).symm.trans h
    refine AWp.seq ?_
    obtain ⟨r6, hr6, h⟩ := bind_ok h
    refine AWp.regC [] [(1, ⟨[vL 1 eS [] l5, .str ([32] : List UInt8)], [], [], [], .str r6, [], [5003], []⟩)] [2, 1000000, 1000002] [] ⟨20, [(2, .str r6), (1000000, .elem 32 1 T0F 0 0), (1000002, .elem 20 1 T2F 0 0)], [], [], 0⟩ ((callP Tryd.prog true 61 [] [] [] [(5003, bL 9 1 eS [] l5)] [5003] [.own 5003, .str ([32] : List UInt8)] [vL 1 eS [] l5, .str ([32] : List UInt8)] (.str r6) []) ∧ True) Tryd_mixed (by kernel_rfl) ⟨⟨fun _ => (f61_ok l5 ([32] : List UInt8) r6 hr6), fun _ => ⟨.refl _, .refl _, trivial⟩, .inr ⟨rfl, trivial⟩⟩, trivial⟩ ?_
    refine thenQ_normal ?_
    have hret := Option.some.inj h
    subst hret
    refine AWp.le (Le.mk (s := ⟨20, [(2, .str r6), (1000000, .elem 32 1 T0F 0 0), (1000002, .elem 20 1 T2F 0 0)], [], [], 0⟩) (s' := ⟨20, [(2, .str r6)], [], [], 0⟩) rfl rfl ⟨.refl _, trivial⟩ trivial) ?_
    refine AWp.ret ?_
    exact bodyQ_ret _ rfl ⟨rfl, rfl⟩ rfl
def f10  : Option Bool :=
  (f21 [(BitVec.ofInt 16 3), (BitVec.ofInt 16 5), (BitVec.ofInt 16 6)] [(BitVec.ofInt 16 8)]).bind fun (r1 : List (BitVec 16) × Int) =>
  (f19 [(BitVec.ofInt 16 3), (BitVec.ofInt 16 5), (BitVec.ofInt 16 6)] [(BitVec.ofInt 16 8)]).bind fun (r2 : List (BitVec 16) × Int) =>
  (f23 [(BitVec.ofInt 16 3), (BitVec.ofInt 16 5), (BitVec.ofInt 16 6)] (BitVec.ofInt 16 1)).bind fun (r3 : List (BitVec 16) × Int) =>
  (f25 [(BitVec.ofInt 16 3), (BitVec.ofInt 16 5), (BitVec.ofInt 16 6)] (BitVec.ofInt 16 1)).bind fun (r4 : Int × List (BitVec 16)) =>
  (f14 [(BitVec.ofInt 16 3), (BitVec.ofInt 16 2), (BitVec.ofInt 16 5), (BitVec.ofInt 16 2)]).bind fun (r5 : List (BitVec 16) × Int) =>
  (f16 [(BitVec.ofInt 16 3), (BitVec.ofInt 16 2), (BitVec.ofInt 16 5), (BitVec.ofInt 16 2)]).bind fun (r6 : List (BitVec 16) × Int) =>
  if ((((((r1.2 == (0 : Int)) && (r2.2 == (0 : Int))) && (r3.2 == (0 : Int))) && (r4.1 == (0 : Int))) && (r5.2 == (0 : Int))) && (r6.2 == (0 : Int))) = true then (
  (f18 r1.1 [(BitVec.ofInt 16 11), (BitVec.ofInt 16 13), (BitVec.ofInt 16 14)]).bind fun (r7 : Bool) =>
  if r7 = true then (
  (f18 r2.1 [(BitVec.ofInt 16 8), (BitVec.ofInt 16 3), (BitVec.ofInt 16 5), (BitVec.ofInt 16 6)]).bind fun (r8 : Bool) =>
  if r8 = true then (
  (f18 r3.1 [(BitVec.ofInt 16 2), (BitVec.ofInt 16 4)]).bind fun (r9 : Bool) =>
  if r9 = true then (
  (f18 r4.2 [(BitVec.ofInt 16 6)]).bind fun (r10 : Bool) =>
  if r10 = true then (
  (f18 r5.1 [(BitVec.ofInt 16 2), (BitVec.ofInt 16 5)]).bind fun (r11 : Bool) =>
  if r11 = true then (
  (f18 r6.1 [(BitVec.ofInt 16 3), (BitVec.ofInt 16 5)]).bind fun (r12 : Bool) =>
  optc (r12 == true) (f37 r1.1) fun (r13 : List UInt8) =>
  some (r12 && (r13 == cs4))
  ) else (
  some false
  )
  ) else (
  some false
  )
  ) else (
  some false
  )
  ) else (
  some false
  )
  ) else (
  some false
  )
  ) else (
  some false
  )
end Go.Abs
