import Derived.Test.YtncjecbhohcfoaaDoorTry4P1
namespace Go.Abs
open Go Go.Proofs
set_option maxHeartbeats 4000000
set_option maxRecDepth 100000 in
theorem f101_ok  (x1 : Int) (x2 : Int) (x3 : List (BitVec 16)) (r : Bool × List (BitVec 16)) (h : f101 x1 x2 x3 = some r)  : Spec1 Tryd.prog 101 [] [2000] [(2000, bL 28 1 eW 0#16 x3)] [.own 2000, .int .i64 x1, .int .i64 x2, .fn (.func 38) []] (.bool r.1) [(2000, bL 28 1 eW 0#16 r.2)] := by
  unfold f101 at h
  refine Spec1.body 0 _ _ Tryd.func101 rfl Tryd.ntmps101 rfl rfl ?_
  refine AWp.seq ?_
  refine AWp.regC [] [] [0, 1, 2, 3] [2000] ⟨141, [(0, .own 2000), (1, .int .i64 x1), (2, .int .i64 x2), (3, .fn (.func 38) [])], [(2000, bL 28 1 eW 0#16 x3)], [2000], 0⟩ (True) Tryd_mixed (by kernel_rfl) trivial ?_
  refine thenQ_normal ?_
  refine AWp.seq ?_
  obtain ⟨ob0, h⟩ := chk_some h
  refine AWp.regC [] [] [0, 1, 2, 3, 9] [2000] ⟨141, [(0, .own 2000), (1, .int .i64 x1), (2, .int .i64 x2), (3, .fn (.func 38) []), (9, .int .i64 (x1 + (1 : Int)))], [(2000, bL 28 1 eW 0#16 x3)], [2000], 0⟩ ((-9223372036854775808 ≤ (x1 + (1 : Int)) ∧ (x1 + (1 : Int)) ≤ 9223372036854775807) ∧ True) Tryd_mixed (by kernel_rfl) ⟨ob0, trivial⟩ ?_
  refine thenQ_normal ?_
  obtain ⟨K1, hK1, h⟩ := jn_some h
  refine AWp.join (α := List (BitVec 16)) (fun (l19 : List (BitVec 16)) => ⟨141, [], [(2000, bL 28 1 eW 0#16 l19)], [2000], 0⟩) (fun x => K1 x = some r) ?_ ?_
  ·
    refine AWp.seq ?_
    refine AWp.regC [] [] [0, 1, 2, 3, 9, 10] [2000] ⟨141, [(0, .own 2000), (1, .int .i64 x1), (2, .int .i64 x2), (3, .fn (.func 38) []), (9, .int .i64 (x1 + (1 : Int))), (10, .int .i64 (0 : Int))], [(2000, bL 28 1 eW 0#16 x3)], [2000], 0⟩ (True) Tryd_mixed (by kernel_rfl) trivial ?_
    refine thenQ_normal ?_
    refine AWp.block ?_
    refine AWp.loopL (α := Nat × (Int × Nat × List (BitVec 16))) (fun x => match x with | (_, i4, n5, l6) => ⟨141, [(0, .own 2000), (1, .int .i64 x1), (2, .int .i64 x2), (3, .fn (.func 38) []), (9, .int .i64 i4), (10, .int .i64 ((n5 : Nat) : Int))], [(2000, bL 28 1 eW 0#16 l6)], [2000], 0⟩) (fun x => f101_L0 x1 x2 K1 x.1 x.2 = some r) (fun x => x.1) (FUEL, (x1 + (1 : Int)), 0, x3) (Le.mk (s := ⟨141, [(0, .own 2000), (1, .int .i64 x1), (2, .int .i64 x2), (3, .fn (.func 38) []), (9, .int .i64 (x1 + (1 : Int))), (10, .int .i64 (0 : Int))], [(2000, bL 28 1 eW 0#16 x3)], [2000], 0⟩) (s' := ⟨141, [(0, .own 2000), (1, .int .i64 x1), (2, .int .i64 x2), (3, .fn (.func 38) []), (9, .int .i64 (x1 + (1 : Int))), (10, .int .i64 (0 : Int))], [(2000, bL 28 1 eW 0#16 x3)], [2000], 0⟩) rfl rfl ⟨.refl _, .refl _, .refl _, .refl _, .refl _, .refl _, trivial⟩ ⟨⟨_, rfl, .refl _⟩, trivial⟩) h ?_
    rintro ⟨k0, i4, n5, l6⟩ h
    cases k0 with
    | zero => exact nomatch (show (none : Option (Bool × List (BitVec 16))) = some r from h)
    | succ k0 =>
    obtain ⟨C0, hC0⟩ : ∃ C, C = f101_L0 x1 x2 K1 k0 := ⟨_, rfl⟩
    replace h := (f101_L0.eq_2 ..).symm.trans h
    try rw [← hC0] at h
    refine AWp.seq ?_
    refine AWp.seq ?_
    refine AWp.regC [] [] [0, 1, 2, 3, 9, 10, 16] [2000] ⟨141, [(0, .own 2000), (1, .int .i64 x1), (2, .int .i64 x2), (3, .fn (.func 38) []), (9, .int .i64 i4), (10, .int .i64 ((n5 : Nat) : Int)), (16, .bool (decide (((n5 : Nat) : Int) < (5 : Int))))], [(2000, bL 28 1 eW 0#16 l6)], [2000], 0⟩ (True) Tryd_mixed (by kernel_rfl) trivial ?_
    refine thenQ_normal ?_
    refine AWp.cond (b := (decide (((n5 : Nat) : Int) < (5 : Int)))) (by kernel_rfl) (fun hc1 => ?_) (fun hc1 => ?_)
    ·
      replace h := ite_tb hc1 h
      refine AWp.skip ?_
      refine thenQ_normal ?_
      obtain ⟨K2, hK2, h⟩ := jn_some h
      refine AWp.join (α := Int × List (BitVec 16)) (fun (x : Int × List (BitVec 16)) => match x with | (i17, l18) => ⟨141, [(0, .own 2000), (1, .int .i64 x1), (2, .int .i64 x2), (3, .fn (.func 38) []), (9, .int .i64 i17), (10, .int .i64 ((n5 : Nat) : Int))], [(2000, bL 28 1 eW 0#16 l18)], [2000], 0⟩) (fun x => K2 x = some r) ?_ ?_
      ·
        refine AWp.block ?_
        obtain ⟨K3, hK3, h⟩ := jn_some h
        refine AWp.join (α := Int) (fun (i9 : Int) => ⟨141, [(0, .own 2000), (1, .int .i64 x1), (2, .int .i64 x2), (3, .fn (.func 38) []), (9, .int .i64 i9), (10, .int .i64 ((n5 : Nat) : Int))], [(2000, bL 28 1 eW 0#16 l6)], [2000], 0⟩) (fun x => K3 x = some r) ?_ ?_
        ·
          refine AWp.block ?_
          refine AWp.loopL (α := Nat × Int) (fun x => match x with | (_, i7) => ⟨141, [(0, .own 2000), (1, .int .i64 x1), (2, .int .i64 x2), (3, .fn (.func 38) []), (9, .int .i64 i7), (10, .int .i64 ((n5 : Nat) : Int))], [(2000, bL 28 1 eW 0#16 l6)], [2000], 0⟩) (fun x => f101_L1 x2 l6 K3 x.1 x.2 = some r) (fun x => x.1) (FUEL, i4) (Le.mk (s := ⟨141, [(0, .own 2000), (1, .int .i64 x1), (2, .int .i64 x2), (3, .fn (.func 38) []), (9, .int .i64 i4), (10, .int .i64 ((n5 : Nat) : Int)), (16, .bool (decide (((n5 : Nat) : Int) < (5 : Int))))], [(2000, bL 28 1 eW 0#16 l6)], [2000], 0⟩) (s' := ⟨141, [(0, .own 2000), (1, .int .i64 x1), (2, .int .i64 x2), (3, .fn (.func 38) []), (9, .int .i64 i4), (10, .int .i64 ((n5 : Nat) : Int))], [(2000, bL 28 1 eW 0#16 l6)], [2000], 0⟩) rfl rfl ⟨.refl _, .refl _, .refl _, .refl _, .refl _, .refl _, trivial⟩ ⟨⟨_, rfl, .refl _⟩, trivial⟩) h ?_
          rintro ⟨k1, i7⟩ h
          cases k1 with
          | zero => exact nomatch (show (none : Option (Bool × List (BitVec 16))) = some r from h)
          | succ k1 =>
          obtain ⟨C1, hC1⟩ : ∃ C, C = f101_L1 x2 l6 K3 k1 := ⟨_, rfl⟩
          replace h := (f101_L1.eq_2 ..).symm.trans h
          try rw [← hC1] at h
          refine AWp.seq ?_
          refine AWp.seq ?_
          obtain ⟨r8, hr8, h⟩ := optc_some h
          obtain ⟨ob1, h⟩ := chk_some h
          have ob2 : ((decide (i7 < x2)) == true) = true → ((decide (i7 < x2)) == true) = true := fun h => h
          have ob3 : ((decide (i7 < x2)) == true) = true → ((decide (i7 < x2)) == true) = true := fun h => h
          obtain ⟨ob4, h⟩ := chk_some h
          have ob5 : ((decide (i7 < x2)) == true) = true → ((decide (i7 < x2)) == true) = true := fun h => h
          obtain ⟨ob6, h⟩ := chk_some h
          have ob7 : ((decide (i7 < x2)) == true) = true → ((decide (i7 < x2)) == true) = true := fun h => h
          obtain ⟨ob8, h⟩ := chk_some h
          have ob9 : ((decide (i7 < x2)) == true) = true → ((decide (i7 < x2)) == true) = true := fun h => h
          have ob10 : ((decide (i7 < x2)) == true) = true → ((decide (i7 < x2)) == true) = true := fun h => h
          obtain ⟨ob11, h⟩ := chk_some h
          have ob12 : ((decide (i7 < x2)) == true) = true → ((decide (i7 < x2)) == true) = true := fun h => h
          have ob13 : ((decide (i7 < x2)) == true) = true → ((decide (i7 < x2)) == true) = true := fun h => h
          have ob14 : ((decide (i7 < x2)) == true) = true → ((decide (i7 < x2)) == true) = true := fun h => h
          have ob15 : ((decide (i7 < x2)) == true) = true → ((decide (i7 < x2)) == true) = true := fun h => h
          have ob16 : ((decide (i7 < x2)) == true) = true → ((decide (i7 < x2)) == true) = true := fun h => h
          have ob17 : ((decide (i7 < x2)) == true) = true → ((decide (i7 < x2)) == true) = true := fun h => h
          have ob18 : true = true → (decide (i7 < x2)) = true → ((decide (i7 < x2)) == true) = true := fun _ h => beq_iff_eq.2 h
          refine AWp.regC [] [(14, ⟨[.b16 (l6.getD ((i7).toNat) 0#16), .b16 (l6.getD (((i7 - (1 : Int))).toNat) 0#16)], [], [], [], .int .i64 r8, [], [], []⟩)] [0, 1, 2, 3, 9, 10, 36] [2000] ⟨141, [(0, .own 2000), (1, .int .i64 x1), (2, .int .i64 x2), (3, .fn (.func 38) []), (9, .int .i64 i7), (10, .int .i64 ((n5 : Nat) : Int)), (36, .bool ((decide (i7 < x2)) && (!(decide (r8 < (0 : Int))))))], [(2000, bL 28 1 eW 0#16 l6)], [2000], 0⟩ (((((decide (i7 < x2)) == true) = true → 0 ≤ i7 ∧ i7 < (((l6).length : Nat) : Int)) ∧ (((decide (i7 < x2)) == true) = true → ((decide (i7 < x2)) == true) = true) ∧ (((decide (i7 < x2)) == true) = true → ((decide (i7 < x2)) == true) = true) ∧ True) ∧ ((((decide (i7 < x2)) == true) = true → ((i7).toNat) < (l6).length) ∧ (((decide (i7 < x2)) == true) = true → ((decide (i7 < x2)) == true) = true) ∧ True) ∧ ((((decide (i7 < x2)) == true) = true → -9223372036854775808 ≤ (i7 - (1 : Int)) ∧ (i7 - (1 : Int)) ≤ 9223372036854775807) ∧ (((decide (i7 < x2)) == true) = true → ((decide (i7 < x2)) == true) = true) ∧ True) ∧ ((((decide (i7 < x2)) == true) = true → 0 ≤ (i7 - (1 : Int)) ∧ (i7 - (1 : Int)) < (((l6).length : Nat) : Int)) ∧ (((decide (i7 < x2)) == true) = true → ((decide (i7 < x2)) == true) = true) ∧ (((decide (i7 < x2)) == true) = true → ((decide (i7 < x2)) == true) = true) ∧ True) ∧ ((((decide (i7 < x2)) == true) = true → (((i7 - (1 : Int))).toNat) < (l6).length) ∧ (((decide (i7 < x2)) == true) = true → ((decide (i7 < x2)) == true) = true) ∧ True) ∧ ((callP Tryd.prog ((decide (i7 < x2)) == true) 38 [] [] [] [] [] [.b16 (l6.getD ((i7).toNat) 0#16), .b16 (l6.getD (((i7 - (1 : Int))).toNat) 0#16)] [.b16 (l6.getD ((i7).toNat) 0#16), .b16 (l6.getD (((i7 - (1 : Int))).toNat) 0#16)] (.int .i64 r8) []) ∧ (((decide (i7 < x2)) == true) = true → ((decide (i7 < x2)) == true) = true) ∧ (((decide (i7 < x2)) == true) = true → ((decide (i7 < x2)) == true) = true) ∧ (((decide (i7 < x2)) == true) = true → ((decide (i7 < x2)) == true) = true) ∧ True) ∧ ((((decide (i7 < x2)) == true) = true → ((decide (i7 < x2)) == true) = true) ∧ True) ∧ ((((decide (i7 < x2)) == true) = true → ((decide (i7 < x2)) == true) = true) ∧ True) ∧ (true = true → (decide (i7 < x2)) = true → ((decide (i7 < x2)) == true) = true) ∧ True) Tryd_mixed (by kernel_rfl) ⟨⟨ob1, ob2, ob3, trivial⟩, ⟨ob4, ob5, trivial⟩, ⟨ob6, ob7, trivial⟩, ⟨ob8, ob9, ob10, trivial⟩, ⟨ob11, ob12, trivial⟩, ⟨⟨fun hc => (f38_ok (l6.getD ((i7).toNat) 0#16) (l6.getD (((i7 - (1 : Int))).toNat) 0#16) r8 (hr8 hc)), fun _ => ⟨.refl _, .refl _, trivial⟩, .inl rfl⟩, ob13, ob14, ob15, trivial⟩, ⟨ob16, trivial⟩, ⟨ob17, trivial⟩, ob18, trivial⟩ ?_
          refine thenQ_normal ?_
          refine AWp.cond (b := ((decide (i7 < x2)) && (!(decide (r8 < (0 : Int)))))) (by kernel_rfl) (fun hc2 => ?_) (fun hc2 => ?_)
          ·
            replace h := ite_tb hc2 h
            refine AWp.skip ?_
            refine thenQ_normal ?_
            refine AWp.block ?_
            obtain ⟨ob19, h⟩ := chk_some h
            refine AWp.regC [] [] [0, 1, 2, 3, 9, 10] [2000] ⟨141, [(0, .own 2000), (1, .int .i64 x1), (2, .int .i64 x2), (3, .fn (.func 38) []), (9, .int .i64 (i7 + (1 : Int))), (10, .int .i64 ((n5 : Nat) : Int))], [(2000, bL 28 1 eW 0#16 l6)], [2000], 0⟩ ((-9223372036854775808 ≤ (i7 + (1 : Int)) ∧ (i7 + (1 : Int)) ≤ 9223372036854775807) ∧ True) Tryd_mixed (by kernel_rfl) ⟨ob19, trivial⟩ ?_
            refine blockQ_normal ?_
            rw [hC1] at h
            exact loopQ_normal (_, (i7 + (1 : Int))) (Le.mk (s := ⟨141, [(0, .own 2000), (1, .int .i64 x1), (2, .int .i64 x2), (3, .fn (.func 38) []), (9, .int .i64 (i7 + (1 : Int))), (10, .int .i64 ((n5 : Nat) : Int))], [(2000, bL 28 1 eW 0#16 l6)], [2000], 0⟩) (s' := ⟨141, [(0, .own 2000), (1, .int .i64 x1), (2, .int .i64 x2), (3, .fn (.func 38) []), (9, .int .i64 (i7 + (1 : Int))), (10, .int .i64 ((n5 : Nat) : Int))], [(2000, bL 28 1 eW 0#16 l6)], [2000], 0⟩) rfl rfl ⟨.refl _, .refl _, .refl _, .refl _, .refl _, .refl _, trivial⟩ ⟨⟨_, rfl, .refl _⟩, trivial⟩) h (Nat.lt_succ_self _)
          ·
            replace h := ite_fb hc2 h
            refine AWp.exit ?_
            refine thenQ_exit ?_
            refine thenQ_exit ?_
            refine blockQ_same ?_
            exact joinQ_normal (i7) (Le.mk (s := ⟨141, [(0, .own 2000), (1, .int .i64 x1), (2, .int .i64 x2), (3, .fn (.func 38) []), (9, .int .i64 i7), (10, .int .i64 ((n5 : Nat) : Int)), (36, .bool ((decide (i7 < x2)) && (!(decide (r8 < (0 : Int))))))], [(2000, bL 28 1 eW 0#16 l6)], [2000], 0⟩) (s' := ⟨141, [(0, .own 2000), (1, .int .i64 x1), (2, .int .i64 x2), (3, .fn (.func 38) []), (9, .int .i64 i7), (10, .int .i64 ((n5 : Nat) : Int))], [(2000, bL 28 1 eW 0#16 l6)], [2000], 0⟩) rfl rfl ⟨.refl _, .refl _, .refl _, .refl _, .refl _, .refl _, trivial⟩ ⟨⟨_, rfl, .refl _⟩, trivial⟩) h
        ·
          rintro i9 h
          replace h := (congrFun hK3 _).symm.trans h
          refine AWp.seq ?_
          refine AWp.seq ?_
          refine AWp.regC [] [] [0, 1, 2, 3, 9, 10, 41] [2000] ⟨141, [(0, .own 2000), (1, .int .i64 x1), (2, .int .i64 x2), (3, .fn (.func 38) []), (9, .int .i64 i9), (10, .int .i64 ((n5 : Nat) : Int)), (41, .bool (i9 == x2))], [(2000, bL 28 1 eW 0#16 l6)], [2000], 0⟩ (True) Tryd_mixed (by kernel_rfl) trivial ?_
          refine thenQ_normal ?_
          refine AWp.cond (b := (i9 == x2)) (by kernel_rfl) (fun hc3 => ?_) (fun hc3 => ?_)
          ·
            replace h := ite_tb hc3 h
            refine AWp.seq ?_
            refine AWp.regC [] [] [8] [2000] ⟨141, [(8, .bool true)], [(2000, bL 28 1 eW 0#16 l6)], [2000], 0⟩ (True) Tryd_mixed (by kernel_rfl) trivial ?_
            refine thenQ_normal ?_
            have hret := Option.some.inj h
            subst hret
            refine AWp.le (Le.mk (s := ⟨141, [(8, .bool true)], [(2000, bL 28 1 eW 0#16 l6)], [2000], 0⟩) (s' := ⟨141, [(8, .bool true)], [(2000, bL 28 1 eW 0#16 l6)], [2000], 0⟩) rfl rfl ⟨.refl _, trivial⟩ ⟨⟨_, rfl, .refl _⟩, trivial⟩) ?_
            refine AWp.ret ?_
            refine thenQ_ret ?_
            refine blockQ_ret ?_
            refine joinQ_ret ?_
            refine thenQ_ret ?_
            refine blockQ_ret ?_
            refine joinQ_ret ?_
            exact bodyQ_ret _ rfl ⟨rfl, rfl⟩ rfl
          ·
            replace h := ite_fb hc3 h
            refine AWp.skip ?_
            refine thenQ_normal ?_
            refine AWp.seq ?_
            refine AWp.seq ?_
            obtain ⟨ob20, h⟩ := chk_some h
            refine AWp.regC [] [] [0, 1, 2, 3, 9, 10, 45] [2000] ⟨141, [(0, .own 2000), (1, .int .i64 x1), (2, .int .i64 x2), (3, .fn (.func 38) []), (9, .int .i64 i9), (10, .int .i64 ((n5 : Nat) : Int)), (45, .bool (decide ((x2 - x1) < (50 : Int))))], [(2000, bL 28 1 eW 0#16 l6)], [2000], 0⟩ ((-9223372036854775808 ≤ (x2 - x1) ∧ (x2 - x1) ≤ 9223372036854775807) ∧ True) Tryd_mixed (by kernel_rfl) ⟨ob20, trivial⟩ ?_
            refine thenQ_normal ?_
            refine AWp.cond (b := (decide ((x2 - x1) < (50 : Int)))) (by kernel_rfl) (fun hc4 => ?_) (fun hc4 => ?_)
            ·
              replace h := ite_tb hc4 h
              refine AWp.seq ?_
              refine AWp.regC [] [] [8] [2000] ⟨141, [(8, .bool false)], [(2000, bL 28 1 eW 0#16 l6)], [2000], 0⟩ (True) Tryd_mixed (by kernel_rfl) trivial ?_
              refine thenQ_normal ?_
              have hret := Option.some.inj h
              subst hret
              refine AWp.le (Le.mk (s := ⟨141, [(8, .bool false)], [(2000, bL 28 1 eW 0#16 l6)], [2000], 0⟩) (s' := ⟨141, [(8, .bool false)], [(2000, bL 28 1 eW 0#16 l6)], [2000], 0⟩) rfl rfl ⟨.refl _, trivial⟩ ⟨⟨_, rfl, .refl _⟩, trivial⟩) ?_
              refine AWp.ret ?_
              refine thenQ_ret ?_
              refine blockQ_ret ?_
              refine joinQ_ret ?_
              refine thenQ_ret ?_
              refine blockQ_ret ?_
              refine joinQ_ret ?_
              exact bodyQ_ret _ rfl ⟨rfl, rfl⟩ rfl
            ·
              replace h := ite_fb hc4 h
              refine AWp.skip ?_
              refine thenQ_normal ?_
              refine AWp.seq ?_
              obtain ⟨ob21, h⟩ := chk_some h
              obtain ⟨ob22, h⟩ := chk_some h
              obtain ⟨ob23, h⟩ := chk_some h
              obtain ⟨ob24, h⟩ := chk_some h
              obtain ⟨ob25, h⟩ := chk_some h
              obtain ⟨ob26, h⟩ := chk_some h
              obtain ⟨ob27, h⟩ := chk_some h
              obtain ⟨ob28, h⟩ := chk_some h
              obtain ⟨ob29, h⟩ := chk_some h
              obtain ⟨ob30, h⟩ := chk_some h
              refine AWp.regC [] [] [0, 1, 2, 3, 9, 10] [2000] ⟨141, [(0, .own 2000), (1, .int .i64 x1), (2, .int .i64 x2), (3, .fn (.func 38) []), (9, .int .i64 i9), (10, .int .i64 ((n5 : Nat) : Int))], [(2000, .rows 28 1 (l6).length (updF (updF (encF eW 0#16 l6) ((i9).toNat) 0 [.b16 (l6.getD (((i9 - (1 : Int))).toNat) 0#16)]) (((i9 - (1 : Int))).toNat) 0 [.b16 (l6.getD ((i9).toNat) 0#16)]))], [2000], 0⟩ ((-9223372036854775808 ≤ (i9 - (1 : Int)) ∧ (i9 - (1 : Int)) ≤ 9223372036854775807) ∧ (-9223372036854775808 ≤ (i9 - (1 : Int)) ∧ (i9 - (1 : Int)) ≤ 9223372036854775807) ∧ (0 ≤ (i9 - (1 : Int)) ∧ (i9 - (1 : Int)) < (((l6).length : Nat) : Int)) ∧ ((((i9 - (1 : Int))).toNat) < (l6).length) ∧ (0 ≤ i9 ∧ i9 < (((l6).length : Nat) : Int)) ∧ (((i9).toNat) < (l6).length) ∧ (0 ≤ i9 ∧ i9 < (((l6).length : Nat) : Int)) ∧ (((i9).toNat) < (l6).length) ∧ (0 ≤ (i9 - (1 : Int)) ∧ (i9 - (1 : Int)) < (((l6).length : Nat) : Int)) ∧ ((((i9 - (1 : Int))).toNat) < (l6).length) ∧ True) Tryd_mixed (by kernel_rfl) ⟨ob21, ob22, ob23, ob24, ob25, ob26, ob27, ob28, ob29, ob30, trivial⟩ ?_
              refine thenQ_normal ?_
              refine AWp.le (Le.mk (s := ⟨141, [(0, .own 2000), (1, .int .i64 x1), (2, .int .i64 x2), (3, .fn (.func 38) []), (9, .int .i64 i9), (10, .int .i64 ((n5 : Nat) : Int))], [(2000, .rows 28 1 (l6).length (updF (updF (encF eW 0#16 l6) ((i9).toNat) 0 [.b16 (l6.getD (((i9 - (1 : Int))).toNat) 0#16)]) (((i9 - (1 : Int))).toNat) 0 [.b16 (l6.getD ((i9).toNat) 0#16)]))], [2000], 0⟩) (s' := ⟨141, [(0, .own 2000), (1, .int .i64 x1), (2, .int .i64 x2), (3, .fn (.func 38) []), (9, .int .i64 i9), (10, .int .i64 ((n5 : Nat) : Int))], [(2000, bL 28 1 eW 0#16 ((l6.set ((i9).toNat) (l6.getD (((i9 - (1 : Int))).toNat) 0#16)).set (((i9 - (1 : Int))).toNat) (l6.getD ((i9).toNat) 0#16)))], [2000], 0⟩) rfl rfl ⟨.refl _, .refl _, .refl _, .refl _, .refl _, .refl _, trivial⟩ ⟨⟨_, rfl, (BLe.of (RL.set (l6.getD ((i9).toNat) 0#16) (RL.set (l6.getD (((i9 - (1 : Int))).toNat) 0#16) (RL.self _) (by intro j hj; match j, hj with | 0, _ => rfl)) (by intro j hj; match j, hj with | 0, _ => rfl)))⟩, trivial⟩) ?_
              obtain ⟨K4, hK4, h⟩ := jn_some h
              refine AWp.join (α := List (BitVec 16)) (fun (l13 : List (BitVec 16)) => ⟨141, [(0, .own 2000), (1, .int .i64 x1), (2, .int .i64 x2), (3, .fn (.func 38) []), (9, .int .i64 i9), (10, .int .i64 ((n5 : Nat) : Int))], [(2000, bL 28 1 eW 0#16 l13)], [2000], 0⟩) (fun x => K4 x = some r) ?_ ?_
              ·
                refine AWp.seq ?_
                obtain ⟨ob31, h⟩ := chk_some h
                refine AWp.regC [] [] [0, 1, 2, 3, 9, 10, 65] [2000] ⟨141, [(0, .own 2000), (1, .int .i64 x1), (2, .int .i64 x2), (3, .fn (.func 38) []), (9, .int .i64 i9), (10, .int .i64 ((n5 : Nat) : Int)), (65, .bool (decide ((i9 - x1) ≥ (2 : Int))))], [(2000, bL 28 1 eW 0#16 ((l6.set ((i9).toNat) (l6.getD (((i9 - (1 : Int))).toNat) 0#16)).set (((i9 - (1 : Int))).toNat) (l6.getD ((i9).toNat) 0#16)))], [2000], 0⟩ ((-9223372036854775808 ≤ (i9 - x1) ∧ (i9 - x1) ≤ 9223372036854775807) ∧ True) Tryd_mixed (by kernel_rfl) ⟨ob31, trivial⟩ ?_
                refine thenQ_normal ?_
                refine AWp.cond (b := (decide ((i9 - x1) ≥ (2 : Int)))) (by kernel_rfl) (fun hc5 => ?_) (fun hc5 => ?_)
                ·
                  replace h := ite_tb hc5 h
                  refine AWp.seq ?_
                  obtain ⟨ob32, h⟩ := chk_some h
                  refine AWp.regC [] [] [0, 1, 2, 3, 9, 10, 11] [2000] ⟨141, [(0, .own 2000), (1, .int .i64 x1), (2, .int .i64 x2), (3, .fn (.func 38) []), (9, .int .i64 i9), (10, .int .i64 ((n5 : Nat) : Int)), (11, .int .i64 (i9 - (1 : Int)))], [(2000, bL 28 1 eW 0#16 ((l6.set ((i9).toNat) (l6.getD (((i9 - (1 : Int))).toNat) 0#16)).set (((i9 - (1 : Int))).toNat) (l6.getD ((i9).toNat) 0#16)))], [2000], 0⟩ ((-9223372036854775808 ≤ (i9 - (1 : Int)) ∧ (i9 - (1 : Int)) ≤ 9223372036854775807) ∧ True) Tryd_mixed (by kernel_rfl) ⟨ob32, trivial⟩ ?_
                  refine thenQ_normal ?_
                  refine AWp.block ?_
                  refine AWp.loopL (α := Nat × (Int × List (BitVec 16))) (fun x => match x with | (_, i10, l11) => ⟨141, [(0, .own 2000), (1, .int .i64 x1), (2, .int .i64 x2), (3, .fn (.func 38) []), (9, .int .i64 i9), (10, .int .i64 ((n5 : Nat) : Int)), (11, .int .i64 i10)], [(2000, bL 28 1 eW 0#16 l11)], [2000], 0⟩) (fun x => f101_L2 K4 x.1 x.2 = some r) (fun x => x.1) (FUEL, (i9 - (1 : Int)), ((l6.set ((i9).toNat) (l6.getD (((i9 - (1 : Int))).toNat) 0#16)).set (((i9 - (1 : Int))).toNat) (l6.getD ((i9).toNat) 0#16))) (Le.mk (s := ⟨141, [(0, .own 2000), (1, .int .i64 x1), (2, .int .i64 x2), (3, .fn (.func 38) []), (9, .int .i64 i9), (10, .int .i64 ((n5 : Nat) : Int)), (11, .int .i64 (i9 - (1 : Int)))], [(2000, bL 28 1 eW 0#16 ((l6.set ((i9).toNat) (l6.getD (((i9 - (1 : Int))).toNat) 0#16)).set (((i9 - (1 : Int))).toNat) (l6.getD ((i9).toNat) 0#16)))], [2000], 0⟩) (s' := ⟨141, [(0, .own 2000), (1, .int .i64 x1), (2, .int .i64 x2), (3, .fn (.func 38) []), (9, .int .i64 i9), (10, .int .i64 ((n5 : Nat) : Int)), (11, .int .i64 (i9 - (1 : Int)))], [(2000, bL 28 1 eW 0#16 ((l6.set ((i9).toNat) (l6.getD (((i9 - (1 : Int))).toNat) 0#16)).set (((i9 - (1 : Int))).toNat) (l6.getD ((i9).toNat) 0#16)))], [2000], 0⟩) rfl rfl ⟨.refl _, .refl _, .refl _, .refl _, .refl _, .refl _, .refl _, trivial⟩ ⟨⟨_, rfl, .refl _⟩, trivial⟩) h ?_
                  rintro ⟨k2, i10, l11⟩ h
                  cases k2 with
                  | zero => exact nomatch (show (none : Option (Bool × List (BitVec 16))) = some r from h)
                  | succ k2 =>
                  obtain ⟨C2, hC2⟩ : ∃ C, C = f101_L2 K4 k2 := ⟨_, rfl⟩
                  replace h := (f101_L2.eq_2 ..).symm.trans h
                  try rw [← hC2] at h
                  refine AWp.seq ?_
                  refine AWp.seq ?_
                  refine AWp.regC [] [] [0, 1, 2, 3, 9, 10, 11, 69] [2000] ⟨141, [(0, .own 2000), (1, .int .i64 x1), (2, .int .i64 x2), (3, .fn (.func 38) []), (9, .int .i64 i9), (10, .int .i64 ((n5 : Nat) : Int)), (11, .int .i64 i10), (69, .bool (decide (i10 ≥ (1 : Int))))], [(2000, bL 28 1 eW 0#16 l11)], [2000], 0⟩ (True) Tryd_mixed (by kernel_rfl) trivial ?_
                  refine thenQ_normal ?_
                  refine AWp.cond (b := (decide (i10 ≥ (1 : Int)))) (by kernel_rfl) (fun hc6 => ?_) (fun hc6 => ?_)
                  ·
                    replace h := ite_tb hc6 h
                    refine AWp.skip ?_
                    refine thenQ_normal ?_
                    refine AWp.seq ?_
                    refine AWp.block ?_
                    refine AWp.seq ?_
                    refine AWp.seq ?_
                    obtain ⟨r12, hr12, h⟩ := bind_ok h
                    obtain ⟨ob33, h⟩ := chk_some h
                    obtain ⟨ob34, h⟩ := chk_some h
                    obtain ⟨ob35, h⟩ := chk_some h
                    obtain ⟨ob36, h⟩ := chk_some h
                    obtain ⟨ob37, h⟩ := chk_some h
                    refine AWp.regC [] [(10, ⟨[.b16 (l11.getD ((i10).toNat) 0#16), .b16 (l11.getD (((i10 - (1 : Int))).toNat) 0#16)], [], [], [], .int .i64 r12, [], [], []⟩)] [0, 1, 2, 3, 9, 10, 11, 84] [2000] ⟨141, [(0, .own 2000), (1, .int .i64 x1), (2, .int .i64 x2), (3, .fn (.func 38) []), (9, .int .i64 i9), (10, .int .i64 ((n5 : Nat) : Int)), (11, .int .i64 i10), (84, .bool (!(decide (r12 < (0 : Int)))))], [(2000, bL 28 1 eW 0#16 l11)], [2000], 0⟩ ((0 ≤ i10 ∧ i10 < (((l11).length : Nat) : Int)) ∧ (((i10).toNat) < (l11).length) ∧ (-9223372036854775808 ≤ (i10 - (1 : Int)) ∧ (i10 - (1 : Int)) ≤ 9223372036854775807) ∧ (0 ≤ (i10 - (1 : Int)) ∧ (i10 - (1 : Int)) < (((l11).length : Nat) : Int)) ∧ ((((i10 - (1 : Int))).toNat) < (l11).length) ∧ (callP Tryd.prog true 38 [] [] [] [] [] [.b16 (l11.getD ((i10).toNat) 0#16), .b16 (l11.getD (((i10 - (1 : Int))).toNat) 0#16)] [.b16 (l11.getD ((i10).toNat) 0#16), .b16 (l11.getD (((i10 - (1 : Int))).toNat) 0#16)] (.int .i64 r12) []) ∧ True) Tryd_mixed (by kernel_rfl) ⟨ob33, ob34, ob35, ob36, ob37, ⟨fun _ => (f38_ok (l11.getD ((i10).toNat) 0#16) (l11.getD (((i10 - (1 : Int))).toNat) 0#16) r12 hr12), fun _ => ⟨.refl _, .refl _, trivial⟩, .inl rfl⟩, trivial⟩ ?_
                    refine thenQ_normal ?_
                    refine AWp.cond (b := (!(decide (r12 < (0 : Int))))) (by kernel_rfl) (fun hc7 => ?_) (fun hc7 => ?_)
                    ·
                      replace h := ite_tb hc7 h
                      refine AWp.exit ?_
                      refine thenQ_exit ?_
                      refine blockQ_other (by decide) ?_
                      refine thenQ_exit ?_
                      refine thenQ_exit ?_
                      refine blockQ_same ?_
                      exact joinQ_normal (l11) (Le.mk (s := ⟨141, [(0, .own 2000), (1, .int .i64 x1), (2, .int .i64 x2), (3, .fn (.func 38) []), (9, .int .i64 i9), (10, .int .i64 ((n5 : Nat) : Int)), (11, .int .i64 i10), (84, .bool (!(decide (r12 < (0 : Int)))))], [(2000, bL 28 1 eW 0#16 l11)], [2000], 0⟩) (s' := ⟨141, [(0, .own 2000), (1, .int .i64 x1), (2, .int .i64 x2), (3, .fn (.func 38) []), (9, .int .i64 i9), (10, .int .i64 ((n5 : Nat) : Int))], [(2000, bL 28 1 eW 0#16 l11)], [2000], 0⟩) rfl rfl ⟨.refl _, .refl _, .refl _, .refl _, .refl _, .refl _, trivial⟩ ⟨⟨_, rfl, .refl _⟩, trivial⟩) h
                    ·
                      replace h := ite_fb hc7 h
                      refine AWp.skip ?_
                      refine thenQ_normal ?_
                      obtain ⟨ob38, h⟩ := chk_some h
                      obtain ⟨ob39, h⟩ := chk_some h
                      obtain ⟨ob40, h⟩ := chk_some h
                      obtain ⟨ob41, h⟩ := chk_some h
                      obtain ⟨ob42, h⟩ := chk_some h
                      obtain ⟨ob43, h⟩ := chk_some h
                      obtain ⟨ob44, h⟩ := chk_some h
                      obtain ⟨ob45, h⟩ := chk_some h
                      obtain ⟨ob46, h⟩ := chk_some h
                      obtain ⟨ob47, h⟩ := chk_some h
                      refine AWp.regC [] [] [0, 1, 2, 3, 9, 10, 11] [2000] ⟨141, [(0, .own 2000), (1, .int .i64 x1), (2, .int .i64 x2), (3, .fn (.func 38) []), (9, .int .i64 i9), (10, .int .i64 ((n5 : Nat) : Int)), (11, .int .i64 i10)], [(2000, .rows 28 1 (l11).length (updF (updF (encF eW 0#16 l11) ((i10).toNat) 0 [.b16 (l11.getD (((i10 - (1 : Int))).toNat) 0#16)]) (((i10 - (1 : Int))).toNat) 0 [.b16 (l11.getD ((i10).toNat) 0#16)]))], [2000], 0⟩ ((-9223372036854775808 ≤ (i10 - (1 : Int)) ∧ (i10 - (1 : Int)) ≤ 9223372036854775807) ∧ (-9223372036854775808 ≤ (i10 - (1 : Int)) ∧ (i10 - (1 : Int)) ≤ 9223372036854775807) ∧ (0 ≤ (i10 - (1 : Int)) ∧ (i10 - (1 : Int)) < (((l11).length : Nat) : Int)) ∧ ((((i10 - (1 : Int))).toNat) < (l11).length) ∧ (0 ≤ i10 ∧ i10 < (((l11).length : Nat) : Int)) ∧ (((i10).toNat) < (l11).length) ∧ (0 ≤ i10 ∧ i10 < (((l11).length : Nat) : Int)) ∧ (((i10).toNat) < (l11).length) ∧ (0 ≤ (i10 - (1 : Int)) ∧ (i10 - (1 : Int)) < (((l11).length : Nat) : Int)) ∧ ((((i10 - (1 : Int))).toNat) < (l11).length) ∧ True) Tryd_mixed (by kernel_rfl) ⟨ob38, ob39, ob40, ob41, ob42, ob43, ob44, ob45, ob46, ob47, trivial⟩ ?_
                      refine blockQ_normal ?_
                      refine thenQ_normal ?_
                      refine AWp.le (Le.mk (s := ⟨141, [(0, .own 2000), (1, .int .i64 x1), (2, .int .i64 x2), (3, .fn (.func 38) []), (9, .int .i64 i9), (10, .int .i64 ((n5 : Nat) : Int)), (11, .int .i64 i10)], [(2000, .rows 28 1 (l11).length (updF (updF (encF eW 0#16 l11) ((i10).toNat) 0 [.b16 (l11.getD (((i10 - (1 : Int))).toNat) 0#16)]) (((i10 - (1 : Int))).toNat) 0 [.b16 (l11.getD ((i10).toNat) 0#16)]))], [2000], 0⟩) (s' := ⟨141, [(0, .own 2000), (1, .int .i64 x1), (2, .int .i64 x2), (3, .fn (.func 38) []), (9, .int .i64 i9), (10, .int .i64 ((n5 : Nat) : Int)), (11, .int .i64 i10)], [(2000, bL 28 1 eW 0#16 ((l11.set ((i10).toNat) (l11.getD (((i10 - (1 : Int))).toNat) 0#16)).set (((i10 - (1 : Int))).toNat) (l11.getD ((i10).toNat) 0#16)))], [2000], 0⟩) rfl rfl ⟨.refl _, .refl _, .refl _, .refl _, .refl _, .refl _, .refl _, trivial⟩ ⟨⟨_, rfl, (BLe.of (RL.set (l11.getD ((i10).toNat) 0#16) (RL.set (l11.getD (((i10 - (1 : Int))).toNat) 0#16) (RL.self _) (by intro j hj; match j, hj with | 0, _ => rfl)) (by intro j hj; match j, hj with | 0, _ => rfl)))⟩, trivial⟩) ?_
                      obtain ⟨ob48, h⟩ := chk_some h
                      refine AWp.regC [] [] [0, 1, 2, 3, 9, 10, 11] [2000] ⟨141, [(0, .own 2000), (1, .int .i64 x1), (2, .int .i64 x2), (3, .fn (.func 38) []), (9, .int .i64 i9), (10, .int .i64 ((n5 : Nat) : Int)), (11, .int .i64 (i10 - (1 : Int)))], [(2000, bL 28 1 eW 0#16 ((l11.set ((i10).toNat) (l11.getD (((i10 - (1 : Int))).toNat) 0#16)).set (((i10 - (1 : Int))).toNat) (l11.getD ((i10).toNat) 0#16)))], [2000], 0⟩ ((-9223372036854775808 ≤ (i10 - (1 : Int)) ∧ (i10 - (1 : Int)) ≤ 9223372036854775807) ∧ True) Tryd_mixed (by kernel_rfl) ⟨ob48, trivial⟩ ?_
                      rw [hC2] at h
                      exact loopQ_normal (_, (i10 - (1 : Int)), ((l11.set ((i10).toNat) (l11.getD (((i10 - (1 : Int))).toNat) 0#16)).set (((i10 - (1 : Int))).toNat) (l11.getD ((i10).toNat) 0#16))) (Le.mk (s := ⟨141, [(0, .own 2000), (1, .int .i64 x1), (2, .int .i64 x2), (3, .fn (.func 38) []), (9, .int .i64 i9), (10, .int .i64 ((n5 : Nat) : Int)), (11, .int .i64 (i10 - (1 : Int)))], [(2000, bL 28 1 eW 0#16 ((l11.set ((i10).toNat) (l11.getD (((i10 - (1 : Int))).toNat) 0#16)).set (((i10 - (1 : Int))).toNat) (l11.getD ((i10).toNat) 0#16)))], [2000], 0⟩) (s' := ⟨141, [(0, .own 2000), (1, .int .i64 x1), (2, .int .i64 x2), (3, .fn (.func 38) []), (9, .int .i64 i9), (10, .int .i64 ((n5 : Nat) : Int)), (11, .int .i64 (i10 - (1 : Int)))], [(2000, bL 28 1 eW 0#16 ((l11.set ((i10).toNat) (l11.getD (((i10 - (1 : Int))).toNat) 0#16)).set (((i10 - (1 : Int))).toNat) (l11.getD ((i10).toNat) 0#16)))], [2000], 0⟩) rfl rfl ⟨.refl _, .refl _, .refl _, .refl _, .refl _, .refl _, .refl _, trivial⟩ ⟨⟨_, rfl, .refl _⟩, trivial⟩) h (Nat.lt_succ_self _)
                  ·
                    replace h := ite_fb hc6 h
                    refine AWp.exit ?_
                    refine thenQ_exit ?_
                    refine thenQ_exit ?_
                    refine blockQ_same ?_
                    exact joinQ_normal (l11) (Le.mk (s := ⟨141, [(0, .own 2000), (1, .int .i64 x1), (2, .int .i64 x2), (3, .fn (.func 38) []), (9, .int .i64 i9), (10, .int .i64 ((n5 : Nat) : Int)), (11, .int .i64 i10), (69, .bool (decide (i10 ≥ (1 : Int))))], [(2000, bL 28 1 eW 0#16 l11)], [2000], 0⟩) (s' := ⟨141, [(0, .own 2000), (1, .int .i64 x1), (2, .int .i64 x2), (3, .fn (.func 38) []), (9, .int .i64 i9), (10, .int .i64 ((n5 : Nat) : Int))], [(2000, bL 28 1 eW 0#16 l11)], [2000], 0⟩) rfl rfl ⟨.refl _, .refl _, .refl _, .refl _, .refl _, .refl _, trivial⟩ ⟨⟨_, rfl, .refl _⟩, trivial⟩) h
                ·
                  replace h := ite_fb hc5 h
                  refine AWp.skip ?_
                  exact joinQ_normal (((l6.set ((i9).toNat) (l6.getD (((i9 - (1 : Int))).toNat) 0#16)).set (((i9 - (1 : Int))).toNat) (l6.getD ((i9).toNat) 0#16))) (Le.mk (s := ⟨141, [(0, .own 2000), (1, .int .i64 x1), (2, .int .i64 x2), (3, .fn (.func 38) []), (9, .int .i64 i9), (10, .int .i64 ((n5 : Nat) : Int)), (65, .bool (decide ((i9 - x1) ≥ (2 : Int))))], [(2000, bL 28 1 eW 0#16 ((l6.set ((i9).toNat) (l6.getD (((i9 - (1 : Int))).toNat) 0#16)).set (((i9 - (1 : Int))).toNat) (l6.getD ((i9).toNat) 0#16)))], [2000], 0⟩) (s' := ⟨141, [(0, .own 2000), (1, .int .i64 x1), (2, .int .i64 x2), (3, .fn (.func 38) []), (9, .int .i64 i9), (10, .int .i64 ((n5 : Nat) : Int))], [(2000, bL 28 1 eW 0#16 ((l6.set ((i9).toNat) (l6.getD (((i9 - (1 : Int))).toNat) 0#16)).set (((i9 - (1 : Int))).toNat) (l6.getD ((i9).toNat) 0#16)))], [2000], 0⟩) rfl rfl ⟨.refl _, .refl _, .refl _, .refl _, .refl _, .refl _, trivial⟩ ⟨⟨_, rfl, .refl _⟩, trivial⟩) h
              ·
                rintro l13 h
                replace h := (congrFun hK4 _).symm.trans h
                refine AWp.seq ?_
                obtain ⟨ob49, h⟩ := chk_some h
                refine AWp.regC [] [] [0, 1, 2, 3, 9, 10, 104] [2000] ⟨141, [(0, .own 2000), (1, .int .i64 x1), (2, .int .i64 x2), (3, .fn (.func 38) []), (9, .int .i64 i9), (10, .int .i64 ((n5 : Nat) : Int)), (104, .bool (decide ((x2 - i9) ≥ (2 : Int))))], [(2000, bL 28 1 eW 0#16 l13)], [2000], 0⟩ ((-9223372036854775808 ≤ (x2 - i9) ∧ (x2 - i9) ≤ 9223372036854775807) ∧ True) Tryd_mixed (by kernel_rfl) ⟨ob49, trivial⟩ ?_
                refine thenQ_normal ?_
                refine AWp.cond (b := (decide ((x2 - i9) ≥ (2 : Int)))) (by kernel_rfl) (fun hc8 => ?_) (fun hc8 => ?_)
                ·
                  replace h := ite_tb hc8 h
                  refine AWp.seq ?_
                  obtain ⟨ob50, h⟩ := chk_some h
                  refine AWp.regC [] [] [0, 1, 2, 3, 9, 10, 12] [2000] ⟨141, [(0, .own 2000), (1, .int .i64 x1), (2, .int .i64 x2), (3, .fn (.func 38) []), (9, .int .i64 i9), (10, .int .i64 ((n5 : Nat) : Int)), (12, .int .i64 (i9 + (1 : Int)))], [(2000, bL 28 1 eW 0#16 l13)], [2000], 0⟩ ((-9223372036854775808 ≤ (i9 + (1 : Int)) ∧ (i9 + (1 : Int)) ≤ 9223372036854775807) ∧ True) Tryd_mixed (by kernel_rfl) ⟨ob50, trivial⟩ ?_
                  refine thenQ_normal ?_
                  refine AWp.block ?_
                  refine AWp.loopL (α := Nat × (Int × List (BitVec 16))) (fun x => match x with | (_, i14, l15) => ⟨141, [(0, .own 2000), (1, .int .i64 x1), (2, .int .i64 x2), (3, .fn (.func 38) []), (9, .int .i64 i9), (10, .int .i64 ((n5 : Nat) : Int)), (12, .int .i64 i14)], [(2000, bL 28 1 eW 0#16 l15)], [2000], 0⟩) (fun x => f101_L3 x2 K2 i9 x.1 x.2 = some r) (fun x => x.1) (FUEL, (i9 + (1 : Int)), l13) (Le.mk (s := ⟨141, [(0, .own 2000), (1, .int .i64 x1), (2, .int .i64 x2), (3, .fn (.func 38) []), (9, .int .i64 i9), (10, .int .i64 ((n5 : Nat) : Int)), (12, .int .i64 (i9 + (1 : Int)))], [(2000, bL 28 1 eW 0#16 l13)], [2000], 0⟩) (s' := ⟨141, [(0, .own 2000), (1, .int .i64 x1), (2, .int .i64 x2), (3, .fn (.func 38) []), (9, .int .i64 i9), (10, .int .i64 ((n5 : Nat) : Int)), (12, .int .i64 (i9 + (1 : Int)))], [(2000, bL 28 1 eW 0#16 l13)], [2000], 0⟩) rfl rfl ⟨.refl _, .refl _, .refl _, .refl _, .refl _, .refl _, .refl _, trivial⟩ ⟨⟨_, rfl, .refl _⟩, trivial⟩) h ?_
                  rintro ⟨k3, i14, l15⟩ h
                  cases k3 with
                  | zero => exact nomatch (show (none : Option (Bool × List (BitVec 16))) = some r from h)
                  | succ k3 =>
                  obtain ⟨C3, hC3⟩ : ∃ C, C = f101_L3 x2 K2 i9 k3 := ⟨_, rfl⟩
                  replace h := (f101_L3.eq_2 ..).symm.trans h
                  try rw [← hC3] at h
                  refine AWp.seq ?_
                  refine AWp.seq ?_
                  refine AWp.regC [] [] [0, 1, 2, 3, 9, 10, 12, 109] [2000] ⟨141, [(0, .own 2000), (1, .int .i64 x1), (2, .int .i64 x2), (3, .fn (.func 38) []), (9, .int .i64 i9), (10, .int .i64 ((n5 : Nat) : Int)), (12, .int .i64 i14), (109, .bool (decide (i14 < x2)))], [(2000, bL 28 1 eW 0#16 l15)], [2000], 0⟩ (True) Tryd_mixed (by kernel_rfl) trivial ?_
                  refine thenQ_normal ?_
                  refine AWp.cond (b := (decide (i14 < x2))) (by kernel_rfl) (fun hc9 => ?_) (fun hc9 => ?_)
                  ·
                    replace h := ite_tb hc9 h
                    refine AWp.skip ?_
                    refine thenQ_normal ?_
                    refine AWp.seq ?_
                    refine AWp.block ?_
                    refine AWp.seq ?_
                    refine AWp.seq ?_
                    obtain ⟨r16, hr16, h⟩ := bind_ok h
                    obtain ⟨ob51, h⟩ := chk_some h
                    obtain ⟨ob52, h⟩ := chk_some h
                    obtain ⟨ob53, h⟩ := chk_some h
                    obtain ⟨ob54, h⟩ := chk_some h
                    obtain ⟨ob55, h⟩ := chk_some h
                    refine AWp.regC [] [(10, ⟨[.b16 (l15.getD ((i14).toNat) 0#16), .b16 (l15.getD (((i14 - (1 : Int))).toNat) 0#16)], [], [], [], .int .i64 r16, [], [], []⟩)] [0, 1, 2, 3, 9, 10, 12, 124] [2000] ⟨141, [(0, .own 2000), (1, .int .i64 x1), (2, .int .i64 x2), (3, .fn (.func 38) []), (9, .int .i64 i9), (10, .int .i64 ((n5 : Nat) : Int)), (12, .int .i64 i14), (124, .bool (!(decide (r16 < (0 : Int)))))], [(2000, bL 28 1 eW 0#16 l15)], [2000], 0⟩ ((0 ≤ i14 ∧ i14 < (((l15).length : Nat) : Int)) ∧ (((i14).toNat) < (l15).length) ∧ (-9223372036854775808 ≤ (i14 - (1 : Int)) ∧ (i14 - (1 : Int)) ≤ 9223372036854775807) ∧ (0 ≤ (i14 - (1 : Int)) ∧ (i14 - (1 : Int)) < (((l15).length : Nat) : Int)) ∧ ((((i14 - (1 : Int))).toNat) < (l15).length) ∧ (callP Tryd.prog true 38 [] [] [] [] [] [.b16 (l15.getD ((i14).toNat) 0#16), .b16 (l15.getD (((i14 - (1 : Int))).toNat) 0#16)] [.b16 (l15.getD ((i14).toNat) 0#16), .b16 (l15.getD (((i14 - (1 : Int))).toNat) 0#16)] (.int .i64 r16) []) ∧ True) Tryd_mixed (by kernel_rfl) ⟨ob51, ob52, ob53, ob54, ob55, ⟨fun _ => (f38_ok (l15.getD ((i14).toNat) 0#16) (l15.getD (((i14 - (1 : Int))).toNat) 0#16) r16 hr16), fun _ => ⟨.refl _, .refl _, trivial⟩, .inl rfl⟩, trivial⟩ ?_
                    refine thenQ_normal ?_
                    refine AWp.cond (b := (!(decide (r16 < (0 : Int))))) (by kernel_rfl) (fun hc10 => ?_) (fun hc10 => ?_)
                    ·
                      replace h := ite_tb hc10 h
                      refine AWp.exit ?_
                      refine thenQ_exit ?_
                      refine blockQ_other (by decide) ?_
                      refine thenQ_exit ?_
                      refine thenQ_exit ?_
                      refine blockQ_same ?_
                      refine blockQ_normal ?_
                      exact joinQ_normal (i9, l15) (Le.mk (s := ⟨141, [(0, .own 2000), (1, .int .i64 x1), (2, .int .i64 x2), (3, .fn (.func 38) []), (9, .int .i64 i9), (10, .int .i64 ((n5 : Nat) : Int)), (12, .int .i64 i14), (124, .bool (!(decide (r16 < (0 : Int)))))], [(2000, bL 28 1 eW 0#16 l15)], [2000], 0⟩) (s' := ⟨141, [(0, .own 2000), (1, .int .i64 x1), (2, .int .i64 x2), (3, .fn (.func 38) []), (9, .int .i64 i9), (10, .int .i64 ((n5 : Nat) : Int))], [(2000, bL 28 1 eW 0#16 l15)], [2000], 0⟩) rfl rfl ⟨.refl _, .refl _, .refl _, .refl _, .refl _, .refl _, trivial⟩ ⟨⟨_, rfl, .refl _⟩, trivial⟩) h
                    ·
                      replace h := ite_fb hc10 h
                      refine AWp.skip ?_
                      refine thenQ_normal ?_
                      obtain ⟨ob56, h⟩ := chk_some h
                      obtain ⟨ob57, h⟩ := chk_some h
                      obtain ⟨ob58, h⟩ := chk_some h
                      obtain ⟨ob59, h⟩ := chk_some h
                      obtain ⟨ob60, h⟩ := chk_some h
                      obtain ⟨ob61, h⟩ := chk_some h
                      obtain ⟨ob62, h⟩ := chk_some h
                      obtain ⟨ob63, h⟩ := chk_some h
                      obtain ⟨ob64, h⟩ := chk_some h
                      obtain ⟨ob65, h⟩ := chk_some h
                      refine AWp.regC [] [] [0, 1, 2, 3, 9, 10, 12] [2000] ⟨141, [(0, .own 2000), (1, .int .i64 x1), (2, .int .i64 x2), (3, .fn (.func 38) []), (9, .int .i64 i9), (10, .int .i64 ((n5 : Nat) : Int)), (12, .int .i64 i14)], [(2000, .rows 28 1 (l15).length (updF (updF (encF eW 0#16 l15) ((i14).toNat) 0 [.b16 (l15.getD (((i14 - (1 : Int))).toNat) 0#16)]) (((i14 - (1 : Int))).toNat) 0 [.b16 (l15.getD ((i14).toNat) 0#16)]))], [2000], 0⟩ ((-9223372036854775808 ≤ (i14 - (1 : Int)) ∧ (i14 - (1 : Int)) ≤ 9223372036854775807) ∧ (-9223372036854775808 ≤ (i14 - (1 : Int)) ∧ (i14 - (1 : Int)) ≤ 9223372036854775807) ∧ (0 ≤ (i14 - (1 : Int)) ∧ (i14 - (1 : Int)) < (((l15).length : Nat) : Int)) ∧ ((((i14 - (1 : Int))).toNat) < (l15).length) ∧ (0 ≤ i14 ∧ i14 < (((l15).length : Nat) : Int)) ∧ (((i14).toNat) < (l15).length) ∧ (0 ≤ i14 ∧ i14 < (((l15).length : Nat) : Int)) ∧ (((i14).toNat) < (l15).length) ∧ (0 ≤ (i14 - (1 : Int)) ∧ (i14 - (1 : Int)) < (((l15).length : Nat) : Int)) ∧ ((((i14 - (1 : Int))).toNat) < (l15).length) ∧ True) Tryd_mixed (by kernel_rfl) ⟨ob56, ob57, ob58, ob59, ob60, ob61, ob62, ob63, ob64, ob65, trivial⟩ ?_
                      refine blockQ_normal ?_
                      refine thenQ_normal ?_
                      refine AWp.le (Le.mk (s := ⟨141, [(0, .own 2000), (1, .int .i64 x1), (2, .int .i64 x2), (3, .fn (.func 38) []), (9, .int .i64 i9), (10, .int .i64 ((n5 : Nat) : Int)), (12, .int .i64 i14)], [(2000, .rows 28 1 (l15).length (updF (updF (encF eW 0#16 l15) ((i14).toNat) 0 [.b16 (l15.getD (((i14 - (1 : Int))).toNat) 0#16)]) (((i14 - (1 : Int))).toNat) 0 [.b16 (l15.getD ((i14).toNat) 0#16)]))], [2000], 0⟩) (s' := ⟨141, [(0, .own 2000), (1, .int .i64 x1), (2, .int .i64 x2), (3, .fn (.func 38) []), (9, .int .i64 i9), (10, .int .i64 ((n5 : Nat) : Int)), (12, .int .i64 i14)], [(2000, bL 28 1 eW 0#16 ((l15.set ((i14).toNat) (l15.getD (((i14 - (1 : Int))).toNat) 0#16)).set (((i14 - (1 : Int))).toNat) (l15.getD ((i14).toNat) 0#16)))], [2000], 0⟩) rfl rfl ⟨.refl _, .refl _, .refl _, .refl _, .refl _, .refl _, .refl _, trivial⟩ ⟨⟨_, rfl, (BLe.of (RL.set (l15.getD ((i14).toNat) 0#16) (RL.set (l15.getD (((i14 - (1 : Int))).toNat) 0#16) (RL.self _) (by intro j hj; match j, hj with | 0, _ => rfl)) (by intro j hj; match j, hj with | 0, _ => rfl)))⟩, trivial⟩) ?_
                      obtain ⟨ob66, h⟩ := chk_some h
                      refine AWp.regC [] [] [0, 1, 2, 3, 9, 10, 12] [2000] ⟨141, [(0, .own 2000), (1, .int .i64 x1), (2, .int .i64 x2), (3, .fn (.func 38) []), (9, .int .i64 i9), (10, .int .i64 ((n5 : Nat) : Int)), (12, .int .i64 (i14 + (1 : Int)))], [(2000, bL 28 1 eW 0#16 ((l15.set ((i14).toNat) (l15.getD (((i14 - (1 : Int))).toNat) 0#16)).set (((i14 - (1 : Int))).toNat) (l15.getD ((i14).toNat) 0#16)))], [2000], 0⟩ ((-9223372036854775808 ≤ (i14 + (1 : Int)) ∧ (i14 + (1 : Int)) ≤ 9223372036854775807) ∧ True) Tryd_mixed (by kernel_rfl) ⟨ob66, trivial⟩ ?_
                      rw [hC3] at h
                      exact loopQ_normal (_, (i14 + (1 : Int)), ((l15.set ((i14).toNat) (l15.getD (((i14 - (1 : Int))).toNat) 0#16)).set (((i14 - (1 : Int))).toNat) (l15.getD ((i14).toNat) 0#16))) (Le.mk (s := ⟨141, [(0, .own 2000), (1, .int .i64 x1), (2, .int .i64 x2), (3, .fn (.func 38) []), (9, .int .i64 i9), (10, .int .i64 ((n5 : Nat) : Int)), (12, .int .i64 (i14 + (1 : Int)))], [(2000, bL 28 1 eW 0#16 ((l15.set ((i14).toNat) (l15.getD (((i14 - (1 : Int))).toNat) 0#16)).set (((i14 - (1 : Int))).toNat) (l15.getD ((i14).toNat) 0#16)))], [2000], 0⟩) (s' := ⟨141, [(0, .own 2000), (1, .int .i64 x1), (2, .int .i64 x2), (3, .fn (.func 38) []), (9, .int .i64 i9), (10, .int .i64 ((n5 : Nat) : Int)), (12, .int .i64 (i14 + (1 : Int)))], [(2000, bL 28 1 eW 0#16 ((l15.set ((i14).toNat) (l15.getD (((i14 - (1 : Int))).toNat) 0#16)).set (((i14 - (1 : Int))).toNat) (l15.getD ((i14).toNat) 0#16)))], [2000], 0⟩) rfl rfl ⟨.refl _, .refl _, .refl _, .refl _, .refl _, .refl _, .refl _, trivial⟩ ⟨⟨_, rfl, .refl _⟩, trivial⟩) h (Nat.lt_succ_self _)
                  ·
                    replace h := ite_fb hc9 h
                    refine AWp.exit ?_
                    refine thenQ_exit ?_
                    refine thenQ_exit ?_
                    refine blockQ_same ?_
                    refine blockQ_normal ?_
                    exact joinQ_normal (i9, l15) (Le.mk (s := ⟨141, [(0, .own 2000), (1, .int .i64 x1), (2, .int .i64 x2), (3, .fn (.func 38) []), (9, .int .i64 i9), (10, .int .i64 ((n5 : Nat) : Int)), (12, .int .i64 i14), (109, .bool (decide (i14 < x2)))], [(2000, bL 28 1 eW 0#16 l15)], [2000], 0⟩) (s' := ⟨141, [(0, .own 2000), (1, .int .i64 x1), (2, .int .i64 x2), (3, .fn (.func 38) []), (9, .int .i64 i9), (10, .int .i64 ((n5 : Nat) : Int))], [(2000, bL 28 1 eW 0#16 l15)], [2000], 0⟩) rfl rfl ⟨.refl _, .refl _, .refl _, .refl _, .refl _, .refl _, trivial⟩ ⟨⟨_, rfl, .refl _⟩, trivial⟩) h
                ·
                  replace h := ite_fb hc8 h
                  refine AWp.skip ?_
                  refine blockQ_normal ?_
                  exact joinQ_normal (i9, l13) (Le.mk (s := ⟨141, [(0, .own 2000), (1, .int .i64 x1), (2, .int .i64 x2), (3, .fn (.func 38) []), (9, .int .i64 i9), (10, .int .i64 ((n5 : Nat) : Int)), (104, .bool (decide ((x2 - i9) ≥ (2 : Int))))], [(2000, bL 28 1 eW 0#16 l13)], [2000], 0⟩) (s' := ⟨141, [(0, .own 2000), (1, .int .i64 x1), (2, .int .i64 x2), (3, .fn (.func 38) []), (9, .int .i64 i9), (10, .int .i64 ((n5 : Nat) : Int))], [(2000, bL 28 1 eW 0#16 l13)], [2000], 0⟩) rfl rfl ⟨.refl _, .refl _, .refl _, .refl _, .refl _, .refl _, trivial⟩ ⟨⟨_, rfl, .refl _⟩, trivial⟩) h
      ·
        rintro ⟨i17, l18⟩ h
        replace h := (congrFun hK2 _).symm.trans h
        obtain ⟨ob67p, h⟩ := chk_some h
        have ob67 : -9223372036854775808 ≤ (((n5 : Nat) : Int) + (1 : Int)) ∧ (((n5 : Nat) : Int) + (1 : Int)) ≤ 9223372036854775807 := ⟨by omega, ob67p⟩
        refine AWp.regC [] [] [0, 1, 2, 3, 9, 10] [2000] ⟨141, [(0, .own 2000), (1, .int .i64 x1), (2, .int .i64 x2), (3, .fn (.func 38) []), (9, .int .i64 i17), (10, .int .i64 (((n5 + 1) : Nat) : Int))], [(2000, bL 28 1 eW 0#16 l18)], [2000], 0⟩ ((-9223372036854775808 ≤ (((n5 : Nat) : Int) + (1 : Int)) ∧ (((n5 : Nat) : Int) + (1 : Int)) ≤ 9223372036854775807) ∧ True) Tryd_mixed (by kernel_rfl) ⟨ob67, trivial⟩ ?_
        rw [hC0] at h
        exact loopQ_normal (_, i17, (n5 + 1), l18) (Le.mk (s := ⟨141, [(0, .own 2000), (1, .int .i64 x1), (2, .int .i64 x2), (3, .fn (.func 38) []), (9, .int .i64 i17), (10, .int .i64 (((n5 + 1) : Nat) : Int))], [(2000, bL 28 1 eW 0#16 l18)], [2000], 0⟩) (s' := ⟨141, [(0, .own 2000), (1, .int .i64 x1), (2, .int .i64 x2), (3, .fn (.func 38) []), (9, .int .i64 i17), (10, .int .i64 (((n5 + 1) : Nat) : Int))], [(2000, bL 28 1 eW 0#16 l18)], [2000], 0⟩) rfl rfl ⟨.refl _, .refl _, .refl _, .refl _, .refl _, .refl _, trivial⟩ ⟨⟨_, rfl, .refl _⟩, trivial⟩) h (Nat.lt_succ_self _)
    ·
      replace h := ite_fb hc1 h
      refine AWp.exit ?_
      refine thenQ_exit ?_
      refine thenQ_exit ?_
      refine blockQ_same ?_
      exact joinQ_normal (l6) (Le.mk (s := ⟨141, [(0, .own 2000), (1, .int .i64 x1), (2, .int .i64 x2), (3, .fn (.func 38) []), (9, .int .i64 i4), (10, .int .i64 ((n5 : Nat) : Int)), (16, .bool (decide (((n5 : Nat) : Int) < (5 : Int))))], [(2000, bL 28 1 eW 0#16 l6)], [2000], 0⟩) (s' := ⟨141, [], [(2000, bL 28 1 eW 0#16 l6)], [2000], 0⟩) rfl rfl trivial ⟨⟨_, rfl, .refl _⟩, trivial⟩) h
  ·
    rintro l19 h
    replace h := (congrFun hK1 _).symm.trans h
    refine AWp.seq ?_
    refine AWp.regC [] [] [8] [2000] ⟨141, [(8, .bool false)], [(2000, bL 28 1 eW 0#16 l19)], [2000], 0⟩ (True) Tryd_mixed (by kernel_rfl) trivial ?_
    refine thenQ_normal ?_
    have hret := Option.some.inj h
    subst hret
    refine AWp.le (Le.mk (s := ⟨141, [(8, .bool false)], [(2000, bL 28 1 eW 0#16 l19)], [2000], 0⟩) (s' := ⟨141, [(8, .bool false)], [(2000, bL 28 1 eW 0#16 l19)], [2000], 0⟩) rfl rfl ⟨.refl _, trivial⟩ ⟨⟨_, rfl, .refl _⟩, trivial⟩) ?_
    refine AWp.ret ?_
    exact bodyQ_ret _ rfl ⟨rfl, rfl⟩ rfl
def f102_L1 (x1 : Int) (i6 : Int) (l7 : List (BitVec 16)) (K2 : Int → Option (Int × List (BitVec 16))) : Nat → Int → Option (Int × List (BitVec 16))
  | 0, _ => none
  | k + 1, i8 =>
    optc ((decide (i8 ≤ i6)) == true) (f38 (l7.getD ((x1).toNat) 0#16) (l7.getD ((i8).toNat) 0#16)) fun (r9 : Int) =>
    chk (((decide (i8 ≤ i6)) == true) = true → 0 ≤ x1 ∧ x1 < (((l7).length : Nat) : Int)) <|
    chk (((decide (i8 ≤ i6)) == true) = true → ((x1).toNat) < (l7).length) <|
    chk (((decide (i8 ≤ i6)) == true) = true → 0 ≤ i8 ∧ i8 < (((l7).length : Nat) : Int)) <|
    chk (((decide (i8 ≤ i6)) == true) = true → ((i8).toNat) < (l7).length) <|
    if ((decide (i8 ≤ i6)) && (!(decide (r9 < (0 : Int))))) then (
    chk (-9223372036854775808 ≤ (i8 + (1 : Int)) ∧ (i8 + (1 : Int)) ≤ 9223372036854775807) <|
    (f102_L1 x1 i6 l7 K2 k) (i8 + (1 : Int))
    ) else (
    K2 i8
    )
def f102_L2 (x1 : Int) (l7 : List (BitVec 16)) (i10 : Int) (K3 : Int → Option (Int × List (BitVec 16))) : Nat → Int → Option (Int × List (BitVec 16))
  | 0, _ => none
  | k + 1, i11 =>
    optc ((decide (i10 ≤ i11)) == true) (f38 (l7.getD ((x1).toNat) 0#16) (l7.getD ((i11).toNat) 0#16)) fun (r12 : Int) =>
    chk (((decide (i10 ≤ i11)) == true) = true → 0 ≤ x1 ∧ x1 < (((l7).length : Nat) : Int)) <|
    chk (((decide (i10 ≤ i11)) == true) = true → ((x1).toNat) < (l7).length) <|
    chk (((decide (i10 ≤ i11)) == true) = true → 0 ≤ i11 ∧ i11 < (((l7).length : Nat) : Int)) <|
    chk (((decide (i10 ≤ i11)) == true) = true → ((i11).toNat) < (l7).length) <|
    if ((decide (i10 ≤ i11)) && (decide (r12 < (0 : Int)))) then (
    chk (-9223372036854775808 ≤ (i11 - (1 : Int)) ∧ (i11 - (1 : Int)) ≤ 9223372036854775807) <|
    (f102_L2 x1 l7 i10 K3 k) (i11 - (1 : Int))
    ) else (
    K3 i11
    )
def f102_L0 (x1 : Int) (K1 : (Int × List (BitVec 16)) → Option (Int × List (BitVec 16))) : Nat → (Int × Int × List (BitVec 16)) → Option (Int × List (BitVec 16))
  | 0, _ => none
  | k + 1, (i5, i6, l7) =>
    jn (fun (i10 : Int) =>
    jn (fun (i13 : Int) =>
    if (decide (i10 > i13)) then (
    K1 (i10, l7)
    ) else (
    chk (0 ≤ i13 ∧ i13 < (((l7).length : Nat) : Int)) <|
    chk (((i13).toNat) < (l7).length) <|
    chk (0 ≤ i10 ∧ i10 < (((l7).length : Nat) : Int)) <|
    chk (((i10).toNat) < (l7).length) <|
    chk (0 ≤ i10 ∧ i10 < (((l7).length : Nat) : Int)) <|
    chk (((i10).toNat) < (l7).length) <|
    chk (0 ≤ i13 ∧ i13 < (((l7).length : Nat) : Int)) <|
    chk (((i13).toNat) < (l7).length) <|
    chk (-9223372036854775808 ≤ (i10 + (1 : Int)) ∧ (i10 + (1 : Int)) ≤ 9223372036854775807) <|
    chk (-9223372036854775808 ≤ (i13 - (1 : Int)) ∧ (i13 - (1 : Int)) ≤ 9223372036854775807) <|
    (f102_L0 x1 K1 k) ((i10 + (1 : Int)), (i13 - (1 : Int)), ((l7.set ((i10).toNat) (l7.getD ((i13).toNat) 0#16)).set ((i13).toNat) (l7.getD ((i10).toNat) 0#16)))
    )
    ) fun (K3 : Int → Option (Int × List (BitVec 16))) =>
    f102_L2 x1 l7 i10 K3 FUEL i6
    ) fun (K2 : Int → Option (Int × List (BitVec 16))) =>
    f102_L1 x1 i6 l7 K2 FUEL i5
def f102 (x1 : Int) (x2 : Int) (x3 : Int) (x4 : List (BitVec 16)) : Option (Int × List (BitVec 16)) :=
  chk (0 ≤ x3 ∧ x3 < (((x4).length : Nat) : Int)) <|
  chk (((x3).toNat) < (x4).length) <|
  chk (0 ≤ x1 ∧ x1 < (((x4).length : Nat) : Int)) <|
  chk (((x1).toNat) < (x4).length) <|
  chk (0 ≤ x1 ∧ x1 < (((x4).length : Nat) : Int)) <|
  chk (((x1).toNat) < (x4).length) <|
  chk (0 ≤ x3 ∧ x3 < (((x4).length : Nat) : Int)) <|
  chk (((x3).toNat) < (x4).length) <|
  chk (-9223372036854775808 ≤ (x1 + (1 : Int)) ∧ (x1 + (1 : Int)) ≤ 9223372036854775807) <|
  chk (-9223372036854775808 ≤ (x2 - (1 : Int)) ∧ (x2 - (1 : Int)) ≤ 9223372036854775807) <|
  jn (fun ((i14, l15) : Int × List (BitVec 16)) =>
  some (i14, l15)
  ) fun (K1 : (Int × List (BitVec 16)) → Option (Int × List (BitVec 16))) =>
  f102_L0 x1 K1 FUEL ((x1 + (1 : Int)), (x2 - (1 : Int)), ((x4.set ((x1).toNat) (x4.getD ((x3).toNat) 0#16)).set ((x3).toNat) (x4.getD ((x1).toNat) 0#16)))
set_option maxRecDepth 100000 in
theorem f102_ok  (x1 : Int) (x2 : Int) (x3 : Int) (x4 : List (BitVec 16)) (r : Int × List (BitVec 16)) (h : f102 x1 x2 x3 x4 = some r)  : Spec1 Tryd.prog 102 [] [2000] [(2000, bL 28 1 eW 0#16 x4)] [.own 2000, .int .i64 x1, .int .i64 x2, .int .i64 x3, .fn (.func 38) []] (.int .i64 r.1) [(2000, bL 28 1 eW 0#16 r.2)] := by
  unfold f102 at h
  refine Spec1.body 0 _ _ Tryd.func102 rfl Tryd.ntmps102 rfl rfl ?_
  refine AWp.seq ?_
  refine AWp.regC [] [] [0, 1, 2, 3, 4] [2000] ⟨90, [(0, .own 2000), (1, .int .i64 x1), (2, .int .i64 x2), (3, .int .i64 x3), (4, .fn (.func 38) [])], [(2000, bL 28 1 eW 0#16 x4)], [2000], 0⟩ (True) Tryd_mixed (by kernel_rfl) trivial ?_
  refine thenQ_normal ?_
  refine AWp.seq ?_
  obtain ⟨ob0, h⟩ := chk_some h
  obtain ⟨ob1, h⟩ := chk_some h
  obtain ⟨ob2, h⟩ := chk_some h
  obtain ⟨ob3, h⟩ := chk_some h
  obtain ⟨ob4, h⟩ := chk_some h
  obtain ⟨ob5, h⟩ := chk_some h
  obtain ⟨ob6, h⟩ := chk_some h
  obtain ⟨ob7, h⟩ := chk_some h
  refine AWp.regC [] [] [0, 1, 2, 4] [2000] ⟨90, [(0, .own 2000), (1, .int .i64 x1), (2, .int .i64 x2), (4, .fn (.func 38) [])], [(2000, .rows 28 1 (x4).length (updF (updF (encF eW 0#16 x4) ((x1).toNat) 0 [.b16 (x4.getD ((x3).toNat) 0#16)]) ((x3).toNat) 0 [.b16 (x4.getD ((x1).toNat) 0#16)]))], [2000], 0⟩ ((0 ≤ x3 ∧ x3 < (((x4).length : Nat) : Int)) ∧ (((x3).toNat) < (x4).length) ∧ (0 ≤ x1 ∧ x1 < (((x4).length : Nat) : Int)) ∧ (((x1).toNat) < (x4).length) ∧ (0 ≤ x1 ∧ x1 < (((x4).length : Nat) : Int)) ∧ (((x1).toNat) < (x4).length) ∧ (0 ≤ x3 ∧ x3 < (((x4).length : Nat) : Int)) ∧ (((x3).toNat) < (x4).length) ∧ True) Tryd_mixed (by kernel_rfl) ⟨ob0, ob1, ob2, ob3, ob4, ob5, ob6, ob7, trivial⟩ ?_
  refine thenQ_normal ?_
  refine AWp.le (Le.mk (s := ⟨90, [(0, .own 2000), (1, .int .i64 x1), (2, .int .i64 x2), (4, .fn (.func 38) [])], [(2000, .rows 28 1 (x4).length (updF (updF (encF eW 0#16 x4) ((x1).toNat) 0 [.b16 (x4.getD ((x3).toNat) 0#16)]) ((x3).toNat) 0 [.b16 (x4.getD ((x1).toNat) 0#16)]))], [2000], 0⟩) (s' := ⟨90, [(0, .own 2000), (1, .int .i64 x1), (2, .int .i64 x2), (4, .fn (.func 38) [])], [(2000, bL 28 1 eW 0#16 ((x4.set ((x1).toNat) (x4.getD ((x3).toNat) 0#16)).set ((x3).toNat) (x4.getD ((x1).toNat) 0#16)))], [2000], 0⟩) rfl rfl ⟨.refl _, .refl _, .refl _, .refl _, trivial⟩ ⟨⟨_, rfl, (BLe.of (RL.set (x4.getD ((x1).toNat) 0#16) (RL.set (x4.getD ((x3).toNat) 0#16) (RL.self _) (by intro j hj; match j, hj with | 0, _ => rfl)) (by intro j hj; match j, hj with | 0, _ => rfl)))⟩, trivial⟩) ?_
  refine AWp.seq ?_
  obtain ⟨ob8, h⟩ := chk_some h
  obtain ⟨ob9, h⟩ := chk_some h
  refine AWp.regC [] [] [0, 1, 4, 11, 12] [2000] ⟨90, [(0, .own 2000), (1, .int .i64 x1), (4, .fn (.func 38) []), (11, .int .i64 (x1 + (1 : Int))), (12, .int .i64 (x2 - (1 : Int)))], [(2000, bL 28 1 eW 0#16 ((x4.set ((x1).toNat) (x4.getD ((x3).toNat) 0#16)).set ((x3).toNat) (x4.getD ((x1).toNat) 0#16)))], [2000], 0⟩ ((-9223372036854775808 ≤ (x1 + (1 : Int)) ∧ (x1 + (1 : Int)) ≤ 9223372036854775807) ∧ (-9223372036854775808 ≤ (x2 - (1 : Int)) ∧ (x2 - (1 : Int)) ≤ 9223372036854775807) ∧ True) Tryd_mixed (by kernel_rfl) ⟨ob8, ob9, trivial⟩ ?_
  refine thenQ_normal ?_
  obtain ⟨K1, hK1, h⟩ := jn_some h
  refine AWp.join (α := Int × List (BitVec 16)) (fun (x : Int × List (BitVec 16)) => match x with | (i14, l15) => ⟨90, [(11, .int .i64 i14)], [(2000, bL 28 1 eW 0#16 l15)], [2000], 0⟩) (fun x => K1 x = some r) ?_ ?_
  ·
    refine AWp.block ?_
    refine AWp.loopL (α := Nat × (Int × Int × List (BitVec 16))) (fun x => match x with | (_, i5, i6, l7) => ⟨90, [(0, .own 2000), (1, .int .i64 x1), (4, .fn (.func 38) []), (11, .int .i64 i5), (12, .int .i64 i6)], [(2000, bL 28 1 eW 0#16 l7)], [2000], 0⟩) (fun x => f102_L0 x1 K1 x.1 x.2 = some r) (fun x => x.1) (FUEL, (x1 + (1 : Int)), (x2 - (1 : Int)), ((x4.set ((x1).toNat) (x4.getD ((x3).toNat) 0#16)).set ((x3).toNat) (x4.getD ((x1).toNat) 0#16))) (Le.mk (s := ⟨90, [(0, .own 2000), (1, .int .i64 x1), (4, .fn (.func 38) []), (11, .int .i64 (x1 + (1 : Int))), (12, .int .i64 (x2 - (1 : Int)))], [(2000, bL 28 1 eW 0#16 ((x4.set ((x1).toNat) (x4.getD ((x3).toNat) 0#16)).set ((x3).toNat) (x4.getD ((x1).toNat) 0#16)))], [2000], 0⟩) (s' := ⟨90, [(0, .own 2000), (1, .int .i64 x1), (4, .fn (.func 38) []), (11, .int .i64 (x1 + (1 : Int))), (12, .int .i64 (x2 - (1 : Int)))], [(2000, bL 28 1 eW 0#16 ((x4.set ((x1).toNat) (x4.getD ((x3).toNat) 0#16)).set ((x3).toNat) (x4.getD ((x1).toNat) 0#16)))], [2000], 0⟩) rfl rfl ⟨.refl _, .refl _, .refl _, .refl _, .refl _, trivial⟩ ⟨⟨_, rfl, .refl _⟩, trivial⟩) h ?_
    rintro ⟨k0, i5, i6, l7⟩ h
    cases k0 with
    | zero => exact nomatch (show (none : Option (Int × List (BitVec 16))) = some r from h)
    | succ k0 =>
    obtain ⟨C0, hC0⟩ : ∃ C, C = f102_L0 x1 K1 k0 := ⟨_, rfl⟩
    replace h := (f102_L0.eq_2 ..).symm.trans h
    try rw [← hC0] at h
    refine AWp.block ?_
    obtain ⟨K2, hK2, h⟩ := jn_some h
    refine AWp.join (α := Int) (fun (i10 : Int) => ⟨90, [(0, .own 2000), (1, .int .i64 x1), (4, .fn (.func 38) []), (11, .int .i64 i10), (12, .int .i64 i6)], [(2000, bL 28 1 eW 0#16 l7)], [2000], 0⟩) (fun x => K2 x = some r) ?_ ?_
    ·
      refine AWp.block ?_
      refine AWp.loopL (α := Nat × Int) (fun x => match x with | (_, i8) => ⟨90, [(0, .own 2000), (1, .int .i64 x1), (4, .fn (.func 38) []), (11, .int .i64 i8), (12, .int .i64 i6)], [(2000, bL 28 1 eW 0#16 l7)], [2000], 0⟩) (fun x => f102_L1 x1 i6 l7 K2 x.1 x.2 = some r) (fun x => x.1) (FUEL, i5) (Le.mk (s := ⟨90, [(0, .own 2000), (1, .int .i64 x1), (4, .fn (.func 38) []), (11, .int .i64 i5), (12, .int .i64 i6)], [(2000, bL 28 1 eW 0#16 l7)], [2000], 0⟩) (s' := ⟨90, [(0, .own 2000), (1, .int .i64 x1), (4, .fn (.func 38) []), (11, .int .i64 i5), (12, .int .i64 i6)], [(2000, bL 28 1 eW 0#16 l7)], [2000], 0⟩) rfl rfl ⟨.refl _, .refl _, .refl _, .refl _, .refl _, trivial⟩ ⟨⟨_, rfl, .refl _⟩, trivial⟩) h ?_
      rintro ⟨k1, i8⟩ h
      cases k1 with
      | zero => exact nomatch (show (none : Option (Int × List (BitVec 16))) = some r from h)
      | succ k1 =>
      obtain ⟨C1, hC1⟩ : ∃ C, C = f102_L1 x1 i6 l7 K2 k1 := ⟨_, rfl⟩
      replace h := (f102_L1.eq_2 ..).symm.trans h
      try rw [← hC1] at h
      refine AWp.seq ?_
      refine AWp.seq ?_
      obtain ⟨r9, hr9, h⟩ := optc_some h
      obtain ⟨ob10, h⟩ := chk_some h
      have ob11 : ((decide (i8 ≤ i6)) == true) = true → ((decide (i8 ≤ i6)) == true) = true := fun h => h
      have ob12 : ((decide (i8 ≤ i6)) == true) = true → ((decide (i8 ≤ i6)) == true) = true := fun h => h
      obtain ⟨ob13, h⟩ := chk_some h
      have ob14 : ((decide (i8 ≤ i6)) == true) = true → ((decide (i8 ≤ i6)) == true) = true := fun h => h
      obtain ⟨ob15, h⟩ := chk_some h
      have ob16 : ((decide (i8 ≤ i6)) == true) = true → ((decide (i8 ≤ i6)) == true) = true := fun h => h
      have ob17 : ((decide (i8 ≤ i6)) == true) = true → ((decide (i8 ≤ i6)) == true) = true := fun h => h
      obtain ⟨ob18, h⟩ := chk_some h
      have ob19 : ((decide (i8 ≤ i6)) == true) = true → ((decide (i8 ≤ i6)) == true) = true := fun h => h
      have ob20 : ((decide (i8 ≤ i6)) == true) = true → ((decide (i8 ≤ i6)) == true) = true := fun h => h
      have ob21 : ((decide (i8 ≤ i6)) == true) = true → ((decide (i8 ≤ i6)) == true) = true := fun h => h
      have ob22 : ((decide (i8 ≤ i6)) == true) = true → ((decide (i8 ≤ i6)) == true) = true := fun h => h
      have ob23 : ((decide (i8 ≤ i6)) == true) = true → ((decide (i8 ≤ i6)) == true) = true := fun h => h
      have ob24 : ((decide (i8 ≤ i6)) == true) = true → ((decide (i8 ≤ i6)) == true) = true := fun h => h
      have ob25 : true = true → (decide (i8 ≤ i6)) = true → ((decide (i8 ≤ i6)) == true) = true := fun _ h => beq_iff_eq.2 h
      refine AWp.regC [] [(13, ⟨[.b16 (l7.getD ((x1).toNat) 0#16), .b16 (l7.getD ((i8).toNat) 0#16)], [], [], [], .int .i64 r9, [], [], []⟩)] [0, 1, 4, 11, 12, 47] [2000] ⟨90, [(0, .own 2000), (1, .int .i64 x1), (4, .fn (.func 38) []), (11, .int .i64 i8), (12, .int .i64 i6), (47, .bool ((decide (i8 ≤ i6)) && (!(decide (r9 < (0 : Int))))))], [(2000, bL 28 1 eW 0#16 l7)], [2000], 0⟩ (((((decide (i8 ≤ i6)) == true) = true → 0 ≤ x1 ∧ x1 < (((l7).length : Nat) : Int)) ∧ (((decide (i8 ≤ i6)) == true) = true → ((decide (i8 ≤ i6)) == true) = true) ∧ (((decide (i8 ≤ i6)) == true) = true → ((decide (i8 ≤ i6)) == true) = true) ∧ True) ∧ ((((decide (i8 ≤ i6)) == true) = true → ((x1).toNat) < (l7).length) ∧ (((decide (i8 ≤ i6)) == true) = true → ((decide (i8 ≤ i6)) == true) = true) ∧ True) ∧ ((((decide (i8 ≤ i6)) == true) = true → 0 ≤ i8 ∧ i8 < (((l7).length : Nat) : Int)) ∧ (((decide (i8 ≤ i6)) == true) = true → ((decide (i8 ≤ i6)) == true) = true) ∧ (((decide (i8 ≤ i6)) == true) = true → ((decide (i8 ≤ i6)) == true) = true) ∧ True) ∧ ((((decide (i8 ≤ i6)) == true) = true → ((i8).toNat) < (l7).length) ∧ (((decide (i8 ≤ i6)) == true) = true → ((decide (i8 ≤ i6)) == true) = true) ∧ True) ∧ ((callP Tryd.prog ((decide (i8 ≤ i6)) == true) 38 [] [] [] [] [] [.b16 (l7.getD ((x1).toNat) 0#16), .b16 (l7.getD ((i8).toNat) 0#16)] [.b16 (l7.getD ((x1).toNat) 0#16), .b16 (l7.getD ((i8).toNat) 0#16)] (.int .i64 r9) []) ∧ (((decide (i8 ≤ i6)) == true) = true → ((decide (i8 ≤ i6)) == true) = true) ∧ (((decide (i8 ≤ i6)) == true) = true → ((decide (i8 ≤ i6)) == true) = true) ∧ (((decide (i8 ≤ i6)) == true) = true → ((decide (i8 ≤ i6)) == true) = true) ∧ True) ∧ ((((decide (i8 ≤ i6)) == true) = true → ((decide (i8 ≤ i6)) == true) = true) ∧ True) ∧ ((((decide (i8 ≤ i6)) == true) = true → ((decide (i8 ≤ i6)) == true) = true) ∧ True) ∧ (true = true → (decide (i8 ≤ i6)) = true → ((decide (i8 ≤ i6)) == true) = true) ∧ True) Tryd_mixed (by kernel_rfl) ⟨⟨ob10, ob11, ob12, trivial⟩, ⟨ob13, ob14, trivial⟩, ⟨ob15, ob16, ob17, trivial⟩, ⟨ob18, ob19, trivial⟩, ⟨⟨fun hc => (f38_ok (l7.getD ((x1).toNat) 0#16) (l7.getD ((i8).toNat) 0#16) r9 (hr9 hc)), fun _ => ⟨.refl _, .refl _, trivial⟩, .inl rfl⟩, ob20, ob21, ob22, trivial⟩, ⟨ob23, trivial⟩, ⟨ob24, trivial⟩, ob25, trivial⟩ ?_
      refine thenQ_normal ?_
      refine AWp.cond (b := ((decide (i8 ≤ i6)) && (!(decide (r9 < (0 : Int)))))) (by kernel_rfl) (fun hc1 => ?_) (fun hc1 => ?_)
      ·
        replace h := ite_tb hc1 h
        refine AWp.skip ?_
        refine thenQ_normal ?_
        refine AWp.block ?_
        obtain ⟨ob26, h⟩ := chk_some h
        refine AWp.regC [] [] [0, 1, 4, 11, 12] [2000] ⟨90, [(0, .own 2000), (1, .int .i64 x1), (4, .fn (.func 38) []), (11, .int .i64 (i8 + (1 : Int))), (12, .int .i64 i6)], [(2000, bL 28 1 eW 0#16 l7)], [2000], 0⟩ ((-9223372036854775808 ≤ (i8 + (1 : Int)) ∧ (i8 + (1 : Int)) ≤ 9223372036854775807) ∧ True) Tryd_mixed (by kernel_rfl) ⟨ob26, trivial⟩ ?_
        refine blockQ_normal ?_
        rw [hC1] at h
        exact loopQ_normal (_, (i8 + (1 : Int))) (Le.mk (s := ⟨90, [(0, .own 2000), (1, .int .i64 x1), (4, .fn (.func 38) []), (11, .int .i64 (i8 + (1 : Int))), (12, .int .i64 i6)], [(2000, bL 28 1 eW 0#16 l7)], [2000], 0⟩) (s' := ⟨90, [(0, .own 2000), (1, .int .i64 x1), (4, .fn (.func 38) []), (11, .int .i64 (i8 + (1 : Int))), (12, .int .i64 i6)], [(2000, bL 28 1 eW 0#16 l7)], [2000], 0⟩) rfl rfl ⟨.refl _, .refl _, .refl _, .refl _, .refl _, trivial⟩ ⟨⟨_, rfl, .refl _⟩, trivial⟩) h (Nat.lt_succ_self _)
      ·
        replace h := ite_fb hc1 h
        refine AWp.exit ?_
        refine thenQ_exit ?_
        refine thenQ_exit ?_
        refine blockQ_same ?_
        exact joinQ_normal (i8) (Le.mk (s := ⟨90, [(0, .own 2000), (1, .int .i64 x1), (4, .fn (.func 38) []), (11, .int .i64 i8), (12, .int .i64 i6), (47, .bool ((decide (i8 ≤ i6)) && (!(decide (r9 < (0 : Int))))))], [(2000, bL 28 1 eW 0#16 l7)], [2000], 0⟩) (s' := ⟨90, [(0, .own 2000), (1, .int .i64 x1), (4, .fn (.func 38) []), (11, .int .i64 i8), (12, .int .i64 i6)], [(2000, bL 28 1 eW 0#16 l7)], [2000], 0⟩) rfl rfl ⟨.refl _, .refl _, .refl _, .refl _, .refl _, trivial⟩ ⟨⟨_, rfl, .refl _⟩, trivial⟩) h
    ·
      rintro i10 h
      replace h := (congrFun hK2 _).symm.trans h
      obtain ⟨K3, hK3, h⟩ := jn_some h
      refine AWp.join (α := Int) (fun (i13 : Int) => ⟨90, [(0, .own 2000), (1, .int .i64 x1), (4, .fn (.func 38) []), (11, .int .i64 i10), (12, .int .i64 i13)], [(2000, bL 28 1 eW 0#16 l7)], [2000], 0⟩) (fun x => K3 x = some r) ?_ ?_
      ·
        refine AWp.block ?_
        refine AWp.loopL (α := Nat × Int) (fun x => match x with | (_, i11) => ⟨90, [(0, .own 2000), (1, .int .i64 x1), (4, .fn (.func 38) []), (11, .int .i64 i10), (12, .int .i64 i11)], [(2000, bL 28 1 eW 0#16 l7)], [2000], 0⟩) (fun x => f102_L2 x1 l7 i10 K3 x.1 x.2 = some r) (fun x => x.1) (FUEL, i6) (Le.mk (s := ⟨90, [(0, .own 2000), (1, .int .i64 x1), (4, .fn (.func 38) []), (11, .int .i64 i10), (12, .int .i64 i6)], [(2000, bL 28 1 eW 0#16 l7)], [2000], 0⟩) (s' := ⟨90, [(0, .own 2000), (1, .int .i64 x1), (4, .fn (.func 38) []), (11, .int .i64 i10), (12, .int .i64 i6)], [(2000, bL 28 1 eW 0#16 l7)], [2000], 0⟩) rfl rfl ⟨.refl _, .refl _, .refl _, .refl _, .refl _, trivial⟩ ⟨⟨_, rfl, .refl _⟩, trivial⟩) h ?_
        rintro ⟨k2, i11⟩ h
        cases k2 with
        | zero => exact nomatch (show (none : Option (Int × List (BitVec 16))) = some r from h)
        | succ k2 =>
        obtain ⟨C2, hC2⟩ : ∃ C, C = f102_L2 x1 l7 i10 K3 k2 := ⟨_, rfl⟩
        replace h := (f102_L2.eq_2 ..).symm.trans h
        try rw [← hC2] at h
        refine AWp.seq ?_
        refine AWp.seq ?_
        obtain ⟨r12, hr12, h⟩ := optc_some h
        obtain ⟨ob27, h⟩ := chk_some h
        have ob28 : ((decide (i10 ≤ i11)) == true) = true → ((decide (i10 ≤ i11)) == true) = true := fun h => h
        have ob29 : ((decide (i10 ≤ i11)) == true) = true → ((decide (i10 ≤ i11)) == true) = true := fun h => h
        obtain ⟨ob30, h⟩ := chk_some h
        have ob31 : ((decide (i10 ≤ i11)) == true) = true → ((decide (i10 ≤ i11)) == true) = true := fun h => h
        obtain ⟨ob32, h⟩ := chk_some h
        have ob33 : ((decide (i10 ≤ i11)) == true) = true → ((decide (i10 ≤ i11)) == true) = true := fun h => h
        have ob34 : ((decide (i10 ≤ i11)) == true) = true → ((decide (i10 ≤ i11)) == true) = true := fun h => h
        obtain ⟨ob35, h⟩ := chk_some h
        have ob36 : ((decide (i10 ≤ i11)) == true) = true → ((decide (i10 ≤ i11)) == true) = true := fun h => h
        have ob37 : ((decide (i10 ≤ i11)) == true) = true → ((decide (i10 ≤ i11)) == true) = true := fun h => h
        have ob38 : ((decide (i10 ≤ i11)) == true) = true → ((decide (i10 ≤ i11)) == true) = true := fun h => h
        have ob39 : ((decide (i10 ≤ i11)) == true) = true → ((decide (i10 ≤ i11)) == true) = true := fun h => h
        have ob40 : ((decide (i10 ≤ i11)) == true) = true → ((decide (i10 ≤ i11)) == true) = true := fun h => h
        have ob41 : true = true → (decide (i10 ≤ i11)) = true → ((decide (i10 ≤ i11)) == true) = true := fun _ h => beq_iff_eq.2 h
        refine AWp.regC [] [(13, ⟨[.b16 (l7.getD ((x1).toNat) 0#16), .b16 (l7.getD ((i11).toNat) 0#16)], [], [], [], .int .i64 r12, [], [], []⟩)] [0, 1, 4, 11, 12, 65] [2000] ⟨90, [(0, .own 2000), (1, .int .i64 x1), (4, .fn (.func 38) []), (11, .int .i64 i10), (12, .int .i64 i11), (65, .bool ((decide (i10 ≤ i11)) && (decide (r12 < (0 : Int)))))], [(2000, bL 28 1 eW 0#16 l7)], [2000], 0⟩ (((((decide (i10 ≤ i11)) == true) = true → 0 ≤ x1 ∧ x1 < (((l7).length : Nat) : Int)) ∧ (((decide (i10 ≤ i11)) == true) = true → ((decide (i10 ≤ i11)) == true) = true) ∧ (((decide (i10 ≤ i11)) == true) = true → ((decide (i10 ≤ i11)) == true) = true) ∧ True) ∧ ((((decide (i10 ≤ i11)) == true) = true → ((x1).toNat) < (l7).length) ∧ (((decide (i10 ≤ i11)) == true) = true → ((decide (i10 ≤ i11)) == true) = true) ∧ True) ∧ ((((decide (i10 ≤ i11)) == true) = true → 0 ≤ i11 ∧ i11 < (((l7).length : Nat) : Int)) ∧ (((decide (i10 ≤ i11)) == true) = true → ((decide (i10 ≤ i11)) == true) = true) ∧ (((decide (i10 ≤ i11)) == true) = true → ((decide (i10 ≤ i11)) == true) = true) ∧ True) ∧ ((((decide (i10 ≤ i11)) == true) = true → ((i11).toNat) < (l7).length) ∧ (((decide (i10 ≤ i11)) == true) = true → ((decide (i10 ≤ i11)) == true) = true) ∧ True) ∧ ((callP Tryd.prog ((decide (i10 ≤ i11)) == true) 38 [] [] [] [] [] [.b16 (l7.getD ((x1).toNat) 0#16), .b16 (l7.getD ((i11).toNat) 0#16)] [.b16 (l7.getD ((x1).toNat) 0#16), .b16 (l7.getD ((i11).toNat) 0#16)] (.int .i64 r12) []) ∧ (((decide (i10 ≤ i11)) == true) = true → ((decide (i10 ≤ i11)) == true) = true) ∧ (((decide (i10 ≤ i11)) == true) = true → ((decide (i10 ≤ i11)) == true) = true) ∧ (((decide (i10 ≤ i11)) == true) = true → ((decide (i10 ≤ i11)) == true) = true) ∧ True) ∧ ((((decide (i10 ≤ i11)) == true) = true → ((decide (i10 ≤ i11)) == true) = true) ∧ True) ∧ (true = true → (decide (i10 ≤ i11)) = true → ((decide (i10 ≤ i11)) == true) = true) ∧ True) Tryd_mixed (by kernel_rfl) ⟨⟨ob27, ob28, ob29, trivial⟩, ⟨ob30, ob31, trivial⟩, ⟨ob32, ob33, ob34, trivial⟩, ⟨ob35, ob36, trivial⟩, ⟨⟨fun hc => (f38_ok (l7.getD ((x1).toNat) 0#16) (l7.getD ((i11).toNat) 0#16) r12 (hr12 hc)), fun _ => ⟨.refl _, .refl _, trivial⟩, .inl rfl⟩, ob37, ob38, ob39, trivial⟩, ⟨ob40, trivial⟩, ob41, trivial⟩ ?_
        refine thenQ_normal ?_
        refine AWp.cond (b := ((decide (i10 ≤ i11)) && (decide (r12 < (0 : Int))))) (by kernel_rfl) (fun hc2 => ?_) (fun hc2 => ?_)
        ·
          replace h := ite_tb hc2 h
          refine AWp.skip ?_
          refine thenQ_normal ?_
          refine AWp.block ?_
          obtain ⟨ob42, h⟩ := chk_some h
          refine AWp.regC [] [] [0, 1, 4, 11, 12] [2000] ⟨90, [(0, .own 2000), (1, .int .i64 x1), (4, .fn (.func 38) []), (11, .int .i64 i10), (12, .int .i64 (i11 - (1 : Int)))], [(2000, bL 28 1 eW 0#16 l7)], [2000], 0⟩ ((-9223372036854775808 ≤ (i11 - (1 : Int)) ∧ (i11 - (1 : Int)) ≤ 9223372036854775807) ∧ True) Tryd_mixed (by kernel_rfl) ⟨ob42, trivial⟩ ?_
          refine blockQ_normal ?_
          rw [hC2] at h
          exact loopQ_normal (_, (i11 - (1 : Int))) (Le.mk (s := ⟨90, [(0, .own 2000), (1, .int .i64 x1), (4, .fn (.func 38) []), (11, .int .i64 i10), (12, .int .i64 (i11 - (1 : Int)))], [(2000, bL 28 1 eW 0#16 l7)], [2000], 0⟩) (s' := ⟨90, [(0, .own 2000), (1, .int .i64 x1), (4, .fn (.func 38) []), (11, .int .i64 i10), (12, .int .i64 (i11 - (1 : Int)))], [(2000, bL 28 1 eW 0#16 l7)], [2000], 0⟩) rfl rfl ⟨.refl _, .refl _, .refl _, .refl _, .refl _, trivial⟩ ⟨⟨_, rfl, .refl _⟩, trivial⟩) h (Nat.lt_succ_self _)
        ·
          replace h := ite_fb hc2 h
          refine AWp.exit ?_
          refine thenQ_exit ?_
          refine thenQ_exit ?_
          refine blockQ_same ?_
          exact joinQ_normal (i11) (Le.mk (s := ⟨90, [(0, .own 2000), (1, .int .i64 x1), (4, .fn (.func 38) []), (11, .int .i64 i10), (12, .int .i64 i11), (65, .bool ((decide (i10 ≤ i11)) && (decide (r12 < (0 : Int)))))], [(2000, bL 28 1 eW 0#16 l7)], [2000], 0⟩) (s' := ⟨90, [(0, .own 2000), (1, .int .i64 x1), (4, .fn (.func 38) []), (11, .int .i64 i10), (12, .int .i64 i11)], [(2000, bL 28 1 eW 0#16 l7)], [2000], 0⟩) rfl rfl ⟨.refl _, .refl _, .refl _, .refl _, .refl _, trivial⟩ ⟨⟨_, rfl, .refl _⟩, trivial⟩) h
      ·
        rintro i13 h
        replace h := (congrFun hK3 _).symm.trans h
        refine AWp.seq ?_
        refine AWp.seq ?_
        refine AWp.regC [] [] [0, 1, 4, 11, 12, 70] [2000] ⟨90, [(0, .own 2000), (1, .int .i64 x1), (4, .fn (.func 38) []), (11, .int .i64 i10), (12, .int .i64 i13), (70, .bool (decide (i10 > i13)))], [(2000, bL 28 1 eW 0#16 l7)], [2000], 0⟩ (True) Tryd_mixed (by kernel_rfl) trivial ?_
        refine thenQ_normal ?_
        refine AWp.cond (b := (decide (i10 > i13))) (by kernel_rfl) (fun hc3 => ?_) (fun hc3 => ?_)
        ·
          replace h := ite_tb hc3 h
          refine AWp.exit ?_
          refine thenQ_exit ?_
          refine blockQ_other (by decide) ?_
          refine thenQ_exit ?_
          refine blockQ_same ?_
          exact joinQ_normal (i10, l7) (Le.mk (s := ⟨90, [(0, .own 2000), (1, .int .i64 x1), (4, .fn (.func 38) []), (11, .int .i64 i10), (12, .int .i64 i13), (70, .bool (decide (i10 > i13)))], [(2000, bL 28 1 eW 0#16 l7)], [2000], 0⟩) (s' := ⟨90, [(11, .int .i64 i10)], [(2000, bL 28 1 eW 0#16 l7)], [2000], 0⟩) rfl rfl ⟨.refl _, trivial⟩ ⟨⟨_, rfl, .refl _⟩, trivial⟩) h
        ·
          replace h := ite_fb hc3 h
          refine AWp.skip ?_
          refine thenQ_normal ?_
          refine AWp.seq ?_
          obtain ⟨ob43, h⟩ := chk_some h
          obtain ⟨ob44, h⟩ := chk_some h
          obtain ⟨ob45, h⟩ := chk_some h
          obtain ⟨ob46, h⟩ := chk_some h
          obtain ⟨ob47, h⟩ := chk_some h
          obtain ⟨ob48, h⟩ := chk_some h
          obtain ⟨ob49, h⟩ := chk_some h
          obtain ⟨ob50, h⟩ := chk_some h
          refine AWp.regC [] [] [0, 1, 4, 11, 12] [2000] ⟨90, [(0, .own 2000), (1, .int .i64 x1), (4, .fn (.func 38) []), (11, .int .i64 i10), (12, .int .i64 i13)], [(2000, .rows 28 1 (l7).length (updF (updF (encF eW 0#16 l7) ((i10).toNat) 0 [.b16 (l7.getD ((i13).toNat) 0#16)]) ((i13).toNat) 0 [.b16 (l7.getD ((i10).toNat) 0#16)]))], [2000], 0⟩ ((0 ≤ i13 ∧ i13 < (((l7).length : Nat) : Int)) ∧ (((i13).toNat) < (l7).length) ∧ (0 ≤ i10 ∧ i10 < (((l7).length : Nat) : Int)) ∧ (((i10).toNat) < (l7).length) ∧ (0 ≤ i10 ∧ i10 < (((l7).length : Nat) : Int)) ∧ (((i10).toNat) < (l7).length) ∧ (0 ≤ i13 ∧ i13 < (((l7).length : Nat) : Int)) ∧ (((i13).toNat) < (l7).length) ∧ True) Tryd_mixed (by kernel_rfl) ⟨ob43, ob44, ob45, ob46, ob47, ob48, ob49, ob50, trivial⟩ ?_
          refine thenQ_normal ?_
          refine AWp.le (Le.mk (s := ⟨90, [(0, .own 2000), (1, .int .i64 x1), (4, .fn (.func 38) []), (11, .int .i64 i10), (12, .int .i64 i13)], [(2000, .rows 28 1 (l7).length (updF (updF (encF eW 0#16 l7) ((i10).toNat) 0 [.b16 (l7.getD ((i13).toNat) 0#16)]) ((i13).toNat) 0 [.b16 (l7.getD ((i10).toNat) 0#16)]))], [2000], 0⟩) (s' := ⟨90, [(0, .own 2000), (1, .int .i64 x1), (4, .fn (.func 38) []), (11, .int .i64 i10), (12, .int .i64 i13)], [(2000, bL 28 1 eW 0#16 ((l7.set ((i10).toNat) (l7.getD ((i13).toNat) 0#16)).set ((i13).toNat) (l7.getD ((i10).toNat) 0#16)))], [2000], 0⟩) rfl rfl ⟨.refl _, .refl _, .refl _, .refl _, .refl _, trivial⟩ ⟨⟨_, rfl, (BLe.of (RL.set (l7.getD ((i10).toNat) 0#16) (RL.set (l7.getD ((i13).toNat) 0#16) (RL.self _) (by intro j hj; match j, hj with | 0, _ => rfl)) (by intro j hj; match j, hj with | 0, _ => rfl)))⟩, trivial⟩) ?_
          refine AWp.seq ?_
          obtain ⟨ob51, h⟩ := chk_some h
          refine AWp.regC [] [] [0, 1, 4, 11, 12] [2000] ⟨90, [(0, .own 2000), (1, .int .i64 x1), (4, .fn (.func 38) []), (11, .int .i64 (i10 + (1 : Int))), (12, .int .i64 i13)], [(2000, bL 28 1 eW 0#16 ((l7.set ((i10).toNat) (l7.getD ((i13).toNat) 0#16)).set ((i13).toNat) (l7.getD ((i10).toNat) 0#16)))], [2000], 0⟩ ((-9223372036854775808 ≤ (i10 + (1 : Int)) ∧ (i10 + (1 : Int)) ≤ 9223372036854775807) ∧ True) Tryd_mixed (by kernel_rfl) ⟨ob51, trivial⟩ ?_
          refine thenQ_normal ?_
          obtain ⟨ob52, h⟩ := chk_some h
          refine AWp.regC [] [] [0, 1, 4, 11, 12] [2000] ⟨90, [(0, .own 2000), (1, .int .i64 x1), (4, .fn (.func 38) []), (11, .int .i64 (i10 + (1 : Int))), (12, .int .i64 (i13 - (1 : Int)))], [(2000, bL 28 1 eW 0#16 ((l7.set ((i10).toNat) (l7.getD ((i13).toNat) 0#16)).set ((i13).toNat) (l7.getD ((i10).toNat) 0#16)))], [2000], 0⟩ ((-9223372036854775808 ≤ (i13 - (1 : Int)) ∧ (i13 - (1 : Int)) ≤ 9223372036854775807) ∧ True) Tryd_mixed (by kernel_rfl) ⟨ob52, trivial⟩ ?_
          refine blockQ_normal ?_
          rw [hC0] at h
          exact loopQ_normal (_, (i10 + (1 : Int)), (i13 - (1 : Int)), ((l7.set ((i10).toNat) (l7.getD ((i13).toNat) 0#16)).set ((i13).toNat) (l7.getD ((i10).toNat) 0#16))) (Le.mk (s := ⟨90, [(0, .own 2000), (1, .int .i64 x1), (4, .fn (.func 38) []), (11, .int .i64 (i10 + (1 : Int))), (12, .int .i64 (i13 - (1 : Int)))], [(2000, bL 28 1 eW 0#16 ((l7.set ((i10).toNat) (l7.getD ((i13).toNat) 0#16)).set ((i13).toNat) (l7.getD ((i10).toNat) 0#16)))], [2000], 0⟩) (s' := ⟨90, [(0, .own 2000), (1, .int .i64 x1), (4, .fn (.func 38) []), (11, .int .i64 (i10 + (1 : Int))), (12, .int .i64 (i13 - (1 : Int)))], [(2000, bL 28 1 eW 0#16 ((l7.set ((i10).toNat) (l7.getD ((i13).toNat) 0#16)).set ((i13).toNat) (l7.getD ((i10).toNat) 0#16)))], [2000], 0⟩) rfl rfl ⟨.refl _, .refl _, .refl _, .refl _, .refl _, trivial⟩ ⟨⟨_, rfl, .refl _⟩, trivial⟩) h (Nat.lt_succ_self _)
  ·
    rintro ⟨i14, l15⟩ h
    replace h := (congrFun hK1 _).symm.trans h
    refine AWp.seq ?_
    refine AWp.regC [] [] [10] [2000] ⟨90, [(10, .int .i64 i14)], [(2000, bL 28 1 eW 0#16 l15)], [2000], 0⟩ (True) Tryd_mixed (by kernel_rfl) trivial ?_
    refine thenQ_normal ?_
    have hret := Option.some.inj h
    subst hret
    refine AWp.le (Le.mk (s := ⟨90, [(10, .int .i64 i14)], [(2000, bL 28 1 eW 0#16 l15)], [2000], 0⟩) (s' := ⟨90, [(10, .int .i64 i14)], [(2000, bL 28 1 eW 0#16 l15)], [2000], 0⟩) rfl rfl ⟨.refl _, trivial⟩ ⟨⟨_, rfl, .refl _⟩, trivial⟩) ?_
    refine AWp.ret ?_
    exact bodyQ_ret _ rfl ⟨rfl, rfl⟩ rfl
def f103_L0 (x1 : Int) (x2 : Int) (x3 : Int) (x4 : List (BitVec 16)) (K1 : Int → Option (Int × Bool × List (BitVec 16))) : Nat → Int → Option (Int × Bool × List (BitVec 16))
  | 0, _ => none
  | k + 1, i5 =>
    optc ((decide (i5 ≤ (x2 - (1 : Int)))) == true) (f38 (((x4.set ((x1).toNat) (x4.getD ((x3).toNat) 0#16)).set ((x3).toNat) (x4.getD ((x1).toNat) 0#16)).getD ((i5).toNat) 0#16) (((x4.set ((x1).toNat) (x4.getD ((x3).toNat) 0#16)).set ((x3).toNat) (x4.getD ((x1).toNat) 0#16)).getD ((x1).toNat) 0#16)) fun (r6 : Int) =>
    chk (((decide (i5 ≤ (x2 - (1 : Int)))) == true) = true → 0 ≤ i5 ∧ i5 < (((((x4.set ((x1).toNat) (x4.getD ((x3).toNat) 0#16)).set ((x3).toNat) (x4.getD ((x1).toNat) 0#16))).length : Nat) : Int)) <|
    chk (((decide (i5 ≤ (x2 - (1 : Int)))) == true) = true → ((i5).toNat) < (((x4.set ((x1).toNat) (x4.getD ((x3).toNat) 0#16)).set ((x3).toNat) (x4.getD ((x1).toNat) 0#16))).length) <|
    chk (((decide (i5 ≤ (x2 - (1 : Int)))) == true) = true → 0 ≤ x1 ∧ x1 < (((((x4.set ((x1).toNat) (x4.getD ((x3).toNat) 0#16)).set ((x3).toNat) (x4.getD ((x1).toNat) 0#16))).length : Nat) : Int)) <|
    chk (((decide (i5 ≤ (x2 - (1 : Int)))) == true) = true → ((x1).toNat) < (((x4.set ((x1).toNat) (x4.getD ((x3).toNat) 0#16)).set ((x3).toNat) (x4.getD ((x1).toNat) 0#16))).length) <|
    if ((decide (i5 ≤ (x2 - (1 : Int)))) && (decide (r6 < (0 : Int)))) then (
    chk (-9223372036854775808 ≤ (i5 + (1 : Int)) ∧ (i5 + (1 : Int)) ≤ 9223372036854775807) <|
    (f103_L0 x1 x2 x3 x4 K1 k) (i5 + (1 : Int))
    ) else (
    K1 i5
    )
def f103_L1 (x1 : Int) (x3 : Int) (x4 : List (BitVec 16)) (i7 : Int) (K2 : Int → Option (Int × Bool × List (BitVec 16))) : Nat → Int → Option (Int × Bool × List (BitVec 16))
  | 0, _ => none
  | k + 1, i8 =>
    optc ((decide (i7 ≤ i8)) == true) (f38 (((x4.set ((x1).toNat) (x4.getD ((x3).toNat) 0#16)).set ((x3).toNat) (x4.getD ((x1).toNat) 0#16)).getD ((i8).toNat) 0#16) (((x4.set ((x1).toNat) (x4.getD ((x3).toNat) 0#16)).set ((x3).toNat) (x4.getD ((x1).toNat) 0#16)).getD ((x1).toNat) 0#16)) fun (r9 : Int) =>
    chk (((decide (i7 ≤ i8)) == true) = true → 0 ≤ i8 ∧ i8 < (((((x4.set ((x1).toNat) (x4.getD ((x3).toNat) 0#16)).set ((x3).toNat) (x4.getD ((x1).toNat) 0#16))).length : Nat) : Int)) <|
    chk (((decide (i7 ≤ i8)) == true) = true → ((i8).toNat) < (((x4.set ((x1).toNat) (x4.getD ((x3).toNat) 0#16)).set ((x3).toNat) (x4.getD ((x1).toNat) 0#16))).length) <|
    chk (((decide (i7 ≤ i8)) == true) = true → 0 ≤ x1 ∧ x1 < (((((x4.set ((x1).toNat) (x4.getD ((x3).toNat) 0#16)).set ((x3).toNat) (x4.getD ((x1).toNat) 0#16))).length : Nat) : Int)) <|
    chk (((decide (i7 ≤ i8)) == true) = true → ((x1).toNat) < (((x4.set ((x1).toNat) (x4.getD ((x3).toNat) 0#16)).set ((x3).toNat) (x4.getD ((x1).toNat) 0#16))).length) <|
    if ((decide (i7 ≤ i8)) && (!(decide (r9 < (0 : Int))))) then (
    chk (-9223372036854775808 ≤ (i8 - (1 : Int)) ∧ (i8 - (1 : Int)) ≤ 9223372036854775807) <|
    (f103_L1 x1 x3 x4 i7 K2 k) (i8 - (1 : Int))
    ) else (
    K2 i8
    )
def f103_L3 (x1 : Int) (i12 : Int) (l13 : List (BitVec 16)) (K4 : Int → Option (Int × Bool × List (BitVec 16))) : Nat → Int → Option (Int × Bool × List (BitVec 16))
  | 0, _ => none
  | k + 1, i14 =>
    optc ((decide (i14 ≤ i12)) == true) (f38 (l13.getD ((i14).toNat) 0#16) (l13.getD ((x1).toNat) 0#16)) fun (r15 : Int) =>
    chk (((decide (i14 ≤ i12)) == true) = true → 0 ≤ i14 ∧ i14 < (((l13).length : Nat) : Int)) <|
    chk (((decide (i14 ≤ i12)) == true) = true → ((i14).toNat) < (l13).length) <|
    chk (((decide (i14 ≤ i12)) == true) = true → 0 ≤ x1 ∧ x1 < (((l13).length : Nat) : Int)) <|
    chk (((decide (i14 ≤ i12)) == true) = true → ((x1).toNat) < (l13).length) <|
    if ((decide (i14 ≤ i12)) && (decide (r15 < (0 : Int)))) then (
    chk (-9223372036854775808 ≤ (i14 + (1 : Int)) ∧ (i14 + (1 : Int)) ≤ 9223372036854775807) <|
    (f103_L3 x1 i12 l13 K4 k) (i14 + (1 : Int))
    ) else (
    K4 i14
    )
def f103_L4 (x1 : Int) (l13 : List (BitVec 16)) (i16 : Int) (K5 : Int → Option (Int × Bool × List (BitVec 16))) : Nat → Int → Option (Int × Bool × List (BitVec 16))
  | 0, _ => none
  | k + 1, i17 =>
    optc ((decide (i16 ≤ i17)) == true) (f38 (l13.getD ((i17).toNat) 0#16) (l13.getD ((x1).toNat) 0#16)) fun (r18 : Int) =>
    chk (((decide (i16 ≤ i17)) == true) = true → 0 ≤ i17 ∧ i17 < (((l13).length : Nat) : Int)) <|
    chk (((decide (i16 ≤ i17)) == true) = true → ((i17).toNat) < (l13).length) <|
    chk (((decide (i16 ≤ i17)) == true) = true → 0 ≤ x1 ∧ x1 < (((l13).length : Nat) : Int)) <|
    chk (((decide (i16 ≤ i17)) == true) = true → ((x1).toNat) < (l13).length) <|
    if ((decide (i16 ≤ i17)) && (!(decide (r18 < (0 : Int))))) then (
    chk (-9223372036854775808 ≤ (i17 - (1 : Int)) ∧ (i17 - (1 : Int)) ≤ 9223372036854775807) <|
    (f103_L4 x1 l13 i16 K5 k) (i17 - (1 : Int))
    ) else (
    K5 i17
    )
def f103_L2 (x1 : Int) (K3 : (Int × List (BitVec 16)) → Option (Int × Bool × List (BitVec 16))) : Nat → (Int × Int × List (BitVec 16)) → Option (Int × Bool × List (BitVec 16))
  | 0, _ => none
  | k + 1, (i11, i12, l13) =>
    jn (fun (i16 : Int) =>
    jn (fun (i19 : Int) =>
    if (decide (i16 > i19)) then (
    K3 (i19, l13)
    ) else (
    chk (0 ≤ i19 ∧ i19 < (((l13).length : Nat) : Int)) <|
    chk (((i19).toNat) < (l13).length) <|
    chk (0 ≤ i16 ∧ i16 < (((l13).length : Nat) : Int)) <|
    chk (((i16).toNat) < (l13).length) <|
    chk (0 ≤ i16 ∧ i16 < (((l13).length : Nat) : Int)) <|
    chk (((i16).toNat) < (l13).length) <|
    chk (0 ≤ i19 ∧ i19 < (((l13).length : Nat) : Int)) <|
    chk (((i19).toNat) < (l13).length) <|
    chk (-9223372036854775808 ≤ (i16 + (1 : Int)) ∧ (i16 + (1 : Int)) ≤ 9223372036854775807) <|
    chk (-9223372036854775808 ≤ (i19 - (1 : Int)) ∧ (i19 - (1 : Int)) ≤ 9223372036854775807) <|
    (f103_L2 x1 K3 k) ((i16 + (1 : Int)), (i19 - (1 : Int)), ((l13.set ((i16).toNat) (l13.getD ((i19).toNat) 0#16)).set ((i19).toNat) (l13.getD ((i16).toNat) 0#16)))
    )
    ) fun (K5 : Int → Option (Int × Bool × List (BitVec 16))) =>
    f103_L4 x1 l13 i16 K5 FUEL i12
    ) fun (K4 : Int → Option (Int × Bool × List (BitVec 16))) =>
    f103_L3 x1 i12 l13 K4 FUEL i11
def f103 (x1 : Int) (x2 : Int) (x3 : Int) (x4 : List (BitVec 16)) : Option (Int × Bool × List (BitVec 16)) :=
  chk (0 ≤ x3 ∧ x3 < (((x4).length : Nat) : Int)) <|
  chk (((x3).toNat) < (x4).length) <|
  chk (0 ≤ x1 ∧ x1 < (((x4).length : Nat) : Int)) <|
  chk (((x1).toNat) < (x4).length) <|
  chk (0 ≤ x1 ∧ x1 < (((x4).length : Nat) : Int)) <|
  chk (((x1).toNat) < (x4).length) <|
  chk (0 ≤ x3 ∧ x3 < (((x4).length : Nat) : Int)) <|
  chk (((x3).toNat) < (x4).length) <|
  chk (-9223372036854775808 ≤ (x1 + (1 : Int)) ∧ (x1 + (1 : Int)) ≤ 9223372036854775807) <|
  chk (-9223372036854775808 ≤ (x2 - (1 : Int)) ∧ (x2 - (1 : Int)) ≤ 9223372036854775807) <|
  jn (fun (i7 : Int) =>
  jn (fun (i10 : Int) =>
  if (decide (i7 > i10)) then (
  chk (0 ≤ x1 ∧ x1 < (((((x4.set ((x1).toNat) (x4.getD ((x3).toNat) 0#16)).set ((x3).toNat) (x4.getD ((x1).toNat) 0#16))).length : Nat) : Int)) <|
  chk (((x1).toNat) < (((x4.set ((x1).toNat) (x4.getD ((x3).toNat) 0#16)).set ((x3).toNat) (x4.getD ((x1).toNat) 0#16))).length) <|
  chk (0 ≤ i10 ∧ i10 < (((((x4.set ((x1).toNat) (x4.getD ((x3).toNat) 0#16)).set ((x3).toNat) (x4.getD ((x1).toNat) 0#16))).length : Nat) : Int)) <|
  chk (((i10).toNat) < (((x4.set ((x1).toNat) (x4.getD ((x3).toNat) 0#16)).set ((x3).toNat) (x4.getD ((x1).toNat) 0#16))).length) <|
  chk (0 ≤ i10 ∧ i10 < (((((x4.set ((x1).toNat) (x4.getD ((x3).toNat) 0#16)).set ((x3).toNat) (x4.getD ((x1).toNat) 0#16))).length : Nat) : Int)) <|
  chk (((i10).toNat) < (((x4.set ((x1).toNat) (x4.getD ((x3).toNat) 0#16)).set ((x3).toNat) (x4.getD ((x1).toNat) 0#16))).length) <|
  chk (0 ≤ x1 ∧ x1 < (((((x4.set ((x1).toNat) (x4.getD ((x3).toNat) 0#16)).set ((x3).toNat) (x4.getD ((x1).toNat) 0#16))).length : Nat) : Int)) <|
  chk (((x1).toNat) < (((x4.set ((x1).toNat) (x4.getD ((x3).toNat) 0#16)).set ((x3).toNat) (x4.getD ((x1).toNat) 0#16))).length) <|
  some (i10, true, ((((x4.set ((x1).toNat) (x4.getD ((x3).toNat) 0#16)).set ((x3).toNat) (x4.getD ((x1).toNat) 0#16)).set ((i10).toNat) (((x4.set ((x1).toNat) (x4.getD ((x3).toNat) 0#16)).set ((x3).toNat) (x4.getD ((x1).toNat) 0#16)).getD ((x1).toNat) 0#16)).set ((x1).toNat) (((x4.set ((x1).toNat) (x4.getD ((x3).toNat) 0#16)).set ((x3).toNat) (x4.getD ((x1).toNat) 0#16)).getD ((i10).toNat) 0#16)))
  ) else (
  chk (0 ≤ i10 ∧ i10 < (((((x4.set ((x1).toNat) (x4.getD ((x3).toNat) 0#16)).set ((x3).toNat) (x4.getD ((x1).toNat) 0#16))).length : Nat) : Int)) <|
  chk (((i10).toNat) < (((x4.set ((x1).toNat) (x4.getD ((x3).toNat) 0#16)).set ((x3).toNat) (x4.getD ((x1).toNat) 0#16))).length) <|
  chk (0 ≤ i7 ∧ i7 < (((((x4.set ((x1).toNat) (x4.getD ((x3).toNat) 0#16)).set ((x3).toNat) (x4.getD ((x1).toNat) 0#16))).length : Nat) : Int)) <|
  chk (((i7).toNat) < (((x4.set ((x1).toNat) (x4.getD ((x3).toNat) 0#16)).set ((x3).toNat) (x4.getD ((x1).toNat) 0#16))).length) <|
  chk (0 ≤ i7 ∧ i7 < (((((x4.set ((x1).toNat) (x4.getD ((x3).toNat) 0#16)).set ((x3).toNat) (x4.getD ((x1).toNat) 0#16))).length : Nat) : Int)) <|
  chk (((i7).toNat) < (((x4.set ((x1).toNat) (x4.getD ((x3).toNat) 0#16)).set ((x3).toNat) (x4.getD ((x1).toNat) 0#16))).length) <|
  chk (0 ≤ i10 ∧ i10 < (((((x4.set ((x1).toNat) (x4.getD ((x3).toNat) 0#16)).set ((x3).toNat) (x4.getD ((x1).toNat) 0#16))).length : Nat) : Int)) <|
  chk (((i10).toNat) < (((x4.set ((x1).toNat) (x4.getD ((x3).toNat) 0#16)).set ((x3).toNat) (x4.getD ((x1).toNat) 0#16))).length) <|
  chk (-9223372036854775808 ≤ (i7 + (1 : Int)) ∧ (i7 + (1 : Int)) ≤ 9223372036854775807) <|
  chk (-9223372036854775808 ≤ (i10 - (1 : Int)) ∧ (i10 - (1 : Int)) ≤ 9223372036854775807) <|
  jn (fun ((i20, l21) : Int × List (BitVec 16)) =>
  chk (0 ≤ x1 ∧ x1 < (((l21).length : Nat) : Int)) <|
  chk (((x1).toNat) < (l21).length) <|
  chk (0 ≤ i20 ∧ i20 < (((l21).length : Nat) : Int)) <|
  chk (((i20).toNat) < (l21).length) <|
  chk (0 ≤ i20 ∧ i20 < (((l21).length : Nat) : Int)) <|
  chk (((i20).toNat) < (l21).length) <|
  chk (0 ≤ x1 ∧ x1 < (((l21).length : Nat) : Int)) <|
  chk (((x1).toNat) < (l21).length) <|
  some (i20, false, ((l21.set ((i20).toNat) (l21.getD ((x1).toNat) 0#16)).set ((x1).toNat) (l21.getD ((i20).toNat) 0#16)))
  ) fun (K3 : (Int × List (BitVec 16)) → Option (Int × Bool × List (BitVec 16))) =>
  f103_L2 x1 K3 FUEL ((i7 + (1 : Int)), (i10 - (1 : Int)), ((((x4.set ((x1).toNat) (x4.getD ((x3).toNat) 0#16)).set ((x3).toNat) (x4.getD ((x1).toNat) 0#16)).set ((i7).toNat) (((x4.set ((x1).toNat) (x4.getD ((x3).toNat) 0#16)).set ((x3).toNat) (x4.getD ((x1).toNat) 0#16)).getD ((i10).toNat) 0#16)).set ((i10).toNat) (((x4.set ((x1).toNat) (x4.getD ((x3).toNat) 0#16)).set ((x3).toNat) (x4.getD ((x1).toNat) 0#16)).getD ((i7).toNat) 0#16)))
  )
  ) fun (K2 : Int → Option (Int × Bool × List (BitVec 16))) =>
  f103_L1 x1 x3 x4 i7 K2 FUEL (x2 - (1 : Int))
  ) fun (K1 : Int → Option (Int × Bool × List (BitVec 16))) =>
  f103_L0 x1 x2 x3 x4 K1 FUEL (x1 + (1 : Int))
set_option maxRecDepth 100000 in
theorem f103_ok  (x1 : Int) (x2 : Int) (x3 : Int) (x4 : List (BitVec 16)) (r : Int × Bool × List (BitVec 16)) (h : f103 x1 x2 x3 x4 = some r)  : Spec1 Tryd.prog 103 [] [2000] [(2000, bL 28 1 eW 0#16 x4)] [.own 2000, .int .i64 x1, .int .i64 x2, .int .i64 x3, .fn (.func 38) []] (.tup [.int .i64 r.1, .bool r.2.1]) [(2000, bL 28 1 eW 0#16 r.2.2)] := by
  unfold f103 at h
  refine Spec1.body 0 _ _ Tryd.func103 rfl Tryd.ntmps103 rfl rfl ?_
  refine AWp.seq ?_
  refine AWp.regC [] [] [0, 1, 2, 3, 4] [2000] ⟨178, [(0, .own 2000), (1, .int .i64 x1), (2, .int .i64 x2), (3, .int .i64 x3), (4, .fn (.func 38) [])], [(2000, bL 28 1 eW 0#16 x4)], [2000], 0⟩ (True) Tryd_mixed (by kernel_rfl) trivial ?_
  refine thenQ_normal ?_
  refine AWp.seq ?_
  obtain ⟨ob0, h⟩ := chk_some h
  obtain ⟨ob1, h⟩ := chk_some h
  obtain ⟨ob2, h⟩ := chk_some h
  obtain ⟨ob3, h⟩ := chk_some h
  obtain ⟨ob4, h⟩ := chk_some h
  obtain ⟨ob5, h⟩ := chk_some h
  obtain ⟨ob6, h⟩ := chk_some h
  obtain ⟨ob7, h⟩ := chk_some h
  refine AWp.regC [] [] [0, 1, 2, 4] [2000] ⟨178, [(0, .own 2000), (1, .int .i64 x1), (2, .int .i64 x2), (4, .fn (.func 38) [])], [(2000, .rows 28 1 (x4).length (updF (updF (encF eW 0#16 x4) ((x1).toNat) 0 [.b16 (x4.getD ((x3).toNat) 0#16)]) ((x3).toNat) 0 [.b16 (x4.getD ((x1).toNat) 0#16)]))], [2000], 0⟩ ((0 ≤ x3 ∧ x3 < (((x4).length : Nat) : Int)) ∧ (((x3).toNat) < (x4).length) ∧ (0 ≤ x1 ∧ x1 < (((x4).length : Nat) : Int)) ∧ (((x1).toNat) < (x4).length) ∧ (0 ≤ x1 ∧ x1 < (((x4).length : Nat) : Int)) ∧ (((x1).toNat) < (x4).length) ∧ (0 ≤ x3 ∧ x3 < (((x4).length : Nat) : Int)) ∧ (((x3).toNat) < (x4).length) ∧ True) Tryd_mixed (by kernel_rfl) ⟨ob0, ob1, ob2, ob3, ob4, ob5, ob6, ob7, trivial⟩ ?_
  refine thenQ_normal ?_
  refine AWp.le (Le.mk (s := ⟨178, [(0, .own 2000), (1, .int .i64 x1), (2, .int .i64 x2), (4, .fn (.func 38) [])], [(2000, .rows 28 1 (x4).length (updF (updF (encF eW 0#16 x4) ((x1).toNat) 0 [.b16 (x4.getD ((x3).toNat) 0#16)]) ((x3).toNat) 0 [.b16 (x4.getD ((x1).toNat) 0#16)]))], [2000], 0⟩) (s' := ⟨178, [(0, .own 2000), (1, .int .i64 x1), (2, .int .i64 x2), (4, .fn (.func 38) [])], [(2000, bL 28 1 eW 0#16 ((x4.set ((x1).toNat) (x4.getD ((x3).toNat) 0#16)).set ((x3).toNat) (x4.getD ((x1).toNat) 0#16)))], [2000], 0⟩) rfl rfl ⟨.refl _, .refl _, .refl _, .refl _, trivial⟩ ⟨⟨_, rfl, (BLe.of (RL.set (x4.getD ((x1).toNat) 0#16) (RL.set (x4.getD ((x3).toNat) 0#16) (RL.self _) (by intro j hj; match j, hj with | 0, _ => rfl)) (by intro j hj; match j, hj with | 0, _ => rfl)))⟩, trivial⟩) ?_
  refine AWp.seq ?_
  obtain ⟨ob8, h⟩ := chk_some h
  obtain ⟨ob9, h⟩ := chk_some h
  refine AWp.regC [] [] [0, 1, 4, 12, 13] [2000] ⟨178, [(0, .own 2000), (1, .int .i64 x1), (4, .fn (.func 38) []), (12, .int .i64 (x1 + (1 : Int))), (13, .int .i64 (x2 - (1 : Int)))], [(2000, bL 28 1 eW 0#16 ((x4.set ((x1).toNat) (x4.getD ((x3).toNat) 0#16)).set ((x3).toNat) (x4.getD ((x1).toNat) 0#16)))], [2000], 0⟩ ((-9223372036854775808 ≤ (x1 + (1 : Int)) ∧ (x1 + (1 : Int)) ≤ 9223372036854775807) ∧ (-9223372036854775808 ≤ (x2 - (1 : Int)) ∧ (x2 - (1 : Int)) ≤ 9223372036854775807) ∧ True) Tryd_mixed (by kernel_rfl) ⟨ob8, ob9, trivial⟩ ?_
  refine thenQ_normal ?_
  obtain ⟨K1, hK1, h⟩ := jn_some h
  refine AWp.join (α := Int) (fun (i7 : Int) => ⟨178, [(0, .own 2000), (1, .int .i64 x1), (4, .fn (.func 38) []), (12, .int .i64 i7), (13, .int .i64 (x2 - (1 : Int)))], [(2000, bL 28 1 eW 0#16 ((x4.set ((x1).toNat) (x4.getD ((x3).toNat) 0#16)).set ((x3).toNat) (x4.getD ((x1).toNat) 0#16)))], [2000], 0⟩) (fun x => K1 x = some r) ?_ ?_
  ·
    refine AWp.block ?_
    refine AWp.loopL (α := Nat × Int) (fun x => match x with | (_, i5) => ⟨178, [(0, .own 2000), (1, .int .i64 x1), (4, .fn (.func 38) []), (12, .int .i64 i5), (13, .int .i64 (x2 - (1 : Int)))], [(2000, bL 28 1 eW 0#16 ((x4.set ((x1).toNat) (x4.getD ((x3).toNat) 0#16)).set ((x3).toNat) (x4.getD ((x1).toNat) 0#16)))], [2000], 0⟩) (fun x => f103_L0 x1 x2 x3 x4 K1 x.1 x.2 = some r) (fun x => x.1) (FUEL, (x1 + (1 : Int))) (Le.mk (s := ⟨178, [(0, .own 2000), (1, .int .i64 x1), (4, .fn (.func 38) []), (12, .int .i64 (x1 + (1 : Int))), (13, .int .i64 (x2 - (1 : Int)))], [(2000, bL 28 1 eW 0#16 ((x4.set ((x1).toNat) (x4.getD ((x3).toNat) 0#16)).set ((x3).toNat) (x4.getD ((x1).toNat) 0#16)))], [2000], 0⟩) (s' := ⟨178, [(0, .own 2000), (1, .int .i64 x1), (4, .fn (.func 38) []), (12, .int .i64 (x1 + (1 : Int))), (13, .int .i64 (x2 - (1 : Int)))], [(2000, bL 28 1 eW 0#16 ((x4.set ((x1).toNat) (x4.getD ((x3).toNat) 0#16)).set ((x3).toNat) (x4.getD ((x1).toNat) 0#16)))], [2000], 0⟩) rfl rfl ⟨.refl _, .refl _, .refl _, .refl _, .refl _, trivial⟩ ⟨⟨_, rfl, .refl _⟩, trivial⟩) h ?_
    rintro ⟨k0, i5⟩ h
    cases k0 with
    | zero => exact nomatch (show (none : Option (Int × Bool × List (BitVec 16))) = some r from h)
    | succ k0 =>
    obtain ⟨C0, hC0⟩ : ∃ C, C = f103_L0 x1 x2 x3 x4 K1 k0 := ⟨_, rfl⟩
    replace h := (f103_L0.eq_2 ..).symm.trans h
    try rw [← hC0] at h
    refine AWp.seq ?_
    refine AWp.seq ?_
    obtain ⟨r6, hr6, h⟩ := optc_some h
    obtain ⟨ob10, h⟩ := chk_some h
    have ob11 : ((decide (i5 ≤ (x2 - (1 : Int)))) == true) = true → ((decide (i5 ≤ (x2 - (1 : Int)))) == true) = true := fun h => h
    have ob12 : ((decide (i5 ≤ (x2 - (1 : Int)))) == true) = true → ((decide (i5 ≤ (x2 - (1 : Int)))) == true) = true := fun h => h
    obtain ⟨ob13, h⟩ := chk_some h
    have ob14 : ((decide (i5 ≤ (x2 - (1 : Int)))) == true) = true → ((decide (i5 ≤ (x2 - (1 : Int)))) == true) = true := fun h => h
    obtain ⟨ob15, h⟩ := chk_some h
    have ob16 : ((decide (i5 ≤ (x2 - (1 : Int)))) == true) = true → ((decide (i5 ≤ (x2 - (1 : Int)))) == true) = true := fun h => h
    have ob17 : ((decide (i5 ≤ (x2 - (1 : Int)))) == true) = true → ((decide (i5 ≤ (x2 - (1 : Int)))) == true) = true := fun h => h
    obtain ⟨ob18, h⟩ := chk_some h
    have ob19 : ((decide (i5 ≤ (x2 - (1 : Int)))) == true) = true → ((decide (i5 ≤ (x2 - (1 : Int)))) == true) = true := fun h => h
    have ob20 : ((decide (i5 ≤ (x2 - (1 : Int)))) == true) = true → ((decide (i5 ≤ (x2 - (1 : Int)))) == true) = true := fun h => h
    have ob21 : ((decide (i5 ≤ (x2 - (1 : Int)))) == true) = true → ((decide (i5 ≤ (x2 - (1 : Int)))) == true) = true := fun h => h
    have ob22 : ((decide (i5 ≤ (x2 - (1 : Int)))) == true) = true → ((decide (i5 ≤ (x2 - (1 : Int)))) == true) = true := fun h => h
    have ob23 : ((decide (i5 ≤ (x2 - (1 : Int)))) == true) = true → ((decide (i5 ≤ (x2 - (1 : Int)))) == true) = true := fun h => h
    have ob24 : true = true → (decide (i5 ≤ (x2 - (1 : Int)))) = true → ((decide (i5 ≤ (x2 - (1 : Int)))) == true) = true := fun _ h => beq_iff_eq.2 h
    refine AWp.regC [] [(13, ⟨[.b16 (((x4.set ((x1).toNat) (x4.getD ((x3).toNat) 0#16)).set ((x3).toNat) (x4.getD ((x1).toNat) 0#16)).getD ((i5).toNat) 0#16), .b16 (((x4.set ((x1).toNat) (x4.getD ((x3).toNat) 0#16)).set ((x3).toNat) (x4.getD ((x1).toNat) 0#16)).getD ((x1).toNat) 0#16)], [], [], [], .int .i64 r6, [], [], []⟩)] [0, 1, 4, 12, 13, 47] [2000] ⟨178, [(0, .own 2000), (1, .int .i64 x1), (4, .fn (.func 38) []), (12, .int .i64 i5), (13, .int .i64 (x2 - (1 : Int))), (47, .bool ((decide (i5 ≤ (x2 - (1 : Int)))) && (decide (r6 < (0 : Int)))))], [(2000, bL 28 1 eW 0#16 ((x4.set ((x1).toNat) (x4.getD ((x3).toNat) 0#16)).set ((x3).toNat) (x4.getD ((x1).toNat) 0#16)))], [2000], 0⟩ (((((decide (i5 ≤ (x2 - (1 : Int)))) == true) = true → 0 ≤ i5 ∧ i5 < (((((x4.set ((x1).toNat) (x4.getD ((x3).toNat) 0#16)).set ((x3).toNat) (x4.getD ((x1).toNat) 0#16))).length : Nat) : Int)) ∧ (((decide (i5 ≤ (x2 - (1 : Int)))) == true) = true → ((decide (i5 ≤ (x2 - (1 : Int)))) == true) = true) ∧ (((decide (i5 ≤ (x2 - (1 : Int)))) == true) = true → ((decide (i5 ≤ (x2 - (1 : Int)))) == true) = true) ∧ True) ∧ ((((decide (i5 ≤ (x2 - (1 : Int)))) == true) = true → ((i5).toNat) < (((x4.set ((x1).toNat) (x4.getD ((x3).toNat) 0#16)).set ((x3).toNat) (x4.getD ((x1).toNat) 0#16))).length) ∧ (((decide (i5 ≤ (x2 - (1 : Int)))) == true) = true → ((decide (i5 ≤ (x2 - (1 : Int)))) == true) = true) ∧ True) ∧ ((((decide (i5 ≤ (x2 - (1 : Int)))) == true) = true → 0 ≤ x1 ∧ x1 < (((((x4.set ((x1).toNat) (x4.getD ((x3).toNat) 0#16)).set ((x3).toNat) (x4.getD ((x1).toNat) 0#16))).length : Nat) : Int)) ∧ (((decide (i5 ≤ (x2 - (1 : Int)))) == true) = true → ((decide (i5 ≤ (x2 - (1 : Int)))) == true) = true) ∧ (((decide (i5 ≤ (x2 - (1 : Int)))) == true) = true → ((decide (i5 ≤ (x2 - (1 : Int)))) == true) = true) ∧ True) ∧ ((((decide (i5 ≤ (x2 - (1 : Int)))) == true) = true → ((x1).toNat) < (((x4.set ((x1).toNat) (x4.getD ((x3).toNat) 0#16)).set ((x3).toNat) (x4.getD ((x1).toNat) 0#16))).length) ∧ (((decide (i5 ≤ (x2 - (1 : Int)))) == true) = true → ((decide (i5 ≤ (x2 - (1 : Int)))) == true) = true) ∧ True) ∧ ((callP Tryd.prog ((decide (i5 ≤ (x2 - (1 : Int)))) == true) 38 [] [] [] [] [] [.b16 (((x4.set ((x1).toNat) (x4.getD ((x3).toNat) 0#16)).set ((x3).toNat) (x4.getD ((x1).toNat) 0#16)).getD ((i5).toNat) 0#16), .b16 (((x4.set ((x1).toNat) (x4.getD ((x3).toNat) 0#16)).set ((x3).toNat) (x4.getD ((x1).toNat) 0#16)).getD ((x1).toNat) 0#16)] [.b16 (((x4.set ((x1).toNat) (x4.getD ((x3).toNat) 0#16)).set ((x3).toNat) (x4.getD ((x1).toNat) 0#16)).getD ((i5).toNat) 0#16), .b16 (((x4.set ((x1).toNat) (x4.getD ((x3).toNat) 0#16)).set ((x3).toNat) (x4.getD ((x1).toNat) 0#16)).getD ((x1).toNat) 0#16)] (.int .i64 r6) []) ∧ (((decide (i5 ≤ (x2 - (1 : Int)))) == true) = true → ((decide (i5 ≤ (x2 - (1 : Int)))) == true) = true) ∧ (((decide (i5 ≤ (x2 - (1 : Int)))) == true) = true → ((decide (i5 ≤ (x2 - (1 : Int)))) == true) = true) ∧ (((decide (i5 ≤ (x2 - (1 : Int)))) == true) = true → ((decide (i5 ≤ (x2 - (1 : Int)))) == true) = true) ∧ True) ∧ ((((decide (i5 ≤ (x2 - (1 : Int)))) == true) = true → ((decide (i5 ≤ (x2 - (1 : Int)))) == true) = true) ∧ True) ∧ (true = true → (decide (i5 ≤ (x2 - (1 : Int)))) = true → ((decide (i5 ≤ (x2 - (1 : Int)))) == true) = true) ∧ True) Tryd_mixed (by kernel_rfl) ⟨⟨ob10, ob11, ob12, trivial⟩, ⟨ob13, ob14, trivial⟩, ⟨ob15, ob16, ob17, trivial⟩, ⟨ob18, ob19, trivial⟩, ⟨⟨fun hc => (f38_ok (((x4.set ((x1).toNat) (x4.getD ((x3).toNat) 0#16)).set ((x3).toNat) (x4.getD ((x1).toNat) 0#16)).getD ((i5).toNat) 0#16) (((x4.set ((x1).toNat) (x4.getD ((x3).toNat) 0#16)).set ((x3).toNat) (x4.getD ((x1).toNat) 0#16)).getD ((x1).toNat) 0#16) r6 (hr6 hc)), fun _ => ⟨.refl _, .refl _, trivial⟩, .inl rfl⟩, ob20, ob21, ob22, trivial⟩, ⟨ob23, trivial⟩, ob24, trivial⟩ ?_
    refine thenQ_normal ?_
    refine AWp.cond (b := ((decide (i5 ≤ (x2 - (1 : Int)))) && (decide (r6 < (0 : Int))))) (by kernel_rfl) (fun hc1 => ?_) (fun hc1 => ?_)
    ·
      replace h := ite_tb hc1 h
      refine AWp.skip ?_
      refine thenQ_normal ?_
      refine AWp.block ?_
      obtain ⟨ob25, h⟩ := chk_some h
      refine AWp.regC [] [] [0, 1, 4, 12, 13] [2000] ⟨178, [(0, .own 2000), (1, .int .i64 x1), (4, .fn (.func 38) []), (12, .int .i64 (i5 + (1 : Int))), (13, .int .i64 (x2 - (1 : Int)))], [(2000, bL 28 1 eW 0#16 ((x4.set ((x1).toNat) (x4.getD ((x3).toNat) 0#16)).set ((x3).toNat) (x4.getD ((x1).toNat) 0#16)))], [2000], 0⟩ ((-9223372036854775808 ≤ (i5 + (1 : Int)) ∧ (i5 + (1 : Int)) ≤ 9223372036854775807) ∧ True) Tryd_mixed (by kernel_rfl) ⟨ob25, trivial⟩ ?_
      refine blockQ_normal ?_
      rw [hC0] at h
      exact loopQ_normal (_, (i5 + (1 : Int))) (Le.mk (s := ⟨178, [(0, .own 2000), (1, .int .i64 x1), (4, .fn (.func 38) []), (12, .int .i64 (i5 + (1 : Int))), (13, .int .i64 (x2 - (1 : Int)))], [(2000, bL 28 1 eW 0#16 ((x4.set ((x1).toNat) (x4.getD ((x3).toNat) 0#16)).set ((x3).toNat) (x4.getD ((x1).toNat) 0#16)))], [2000], 0⟩) (s' := ⟨178, [(0, .own 2000), (1, .int .i64 x1), (4, .fn (.func 38) []), (12, .int .i64 (i5 + (1 : Int))), (13, .int .i64 (x2 - (1 : Int)))], [(2000, bL 28 1 eW 0#16 ((x4.set ((x1).toNat) (x4.getD ((x3).toNat) 0#16)).set ((x3).toNat) (x4.getD ((x1).toNat) 0#16)))], [2000], 0⟩) rfl rfl ⟨.refl _, .refl _, .refl _, .refl _, .refl _, trivial⟩ ⟨⟨_, rfl, .refl _⟩, trivial⟩) h (Nat.lt_succ_self _)
    ·
      replace h := ite_fb hc1 h
      refine AWp.exit ?_
      refine thenQ_exit ?_
      refine thenQ_exit ?_
      refine blockQ_same ?_
      exact joinQ_normal (i5) (Le.mk (s := ⟨178, [(0, .own 2000), (1, .int .i64 x1), (4, .fn (.func 38) []), (12, .int .i64 i5), (13, .int .i64 (x2 - (1 : Int))), (47, .bool ((decide (i5 ≤ (x2 - (1 : Int)))) && (decide (r6 < (0 : Int)))))], [(2000, bL 28 1 eW 0#16 ((x4.set ((x1).toNat) (x4.getD ((x3).toNat) 0#16)).set ((x3).toNat) (x4.getD ((x1).toNat) 0#16)))], [2000], 0⟩) (s' := ⟨178, [(0, .own 2000), (1, .int .i64 x1), (4, .fn (.func 38) []), (12, .int .i64 i5), (13, .int .i64 (x2 - (1 : Int)))], [(2000, bL 28 1 eW 0#16 ((x4.set ((x1).toNat) (x4.getD ((x3).toNat) 0#16)).set ((x3).toNat) (x4.getD ((x1).toNat) 0#16)))], [2000], 0⟩) rfl rfl ⟨.refl _, .refl _, .refl _, .refl _, .refl _, trivial⟩ ⟨⟨_, rfl, .refl _⟩, trivial⟩) h
  ·
    rintro i7 h
    replace h := (congrFun hK1 _).symm.trans h
    obtain ⟨K2, hK2, h⟩ := jn_some h
    refine AWp.join (α := Int) (fun (i10 : Int) => ⟨178, [(0, .own 2000), (1, .int .i64 x1), (4, .fn (.func 38) []), (12, .int .i64 i7), (13, .int .i64 i10)], [(2000, bL 28 1 eW 0#16 ((x4.set ((x1).toNat) (x4.getD ((x3).toNat) 0#16)).set ((x3).toNat) (x4.getD ((x1).toNat) 0#16)))], [2000], 0⟩) (fun x => K2 x = some r) ?_ ?_
    ·
      refine AWp.block ?_
      refine AWp.loopL (α := Nat × Int) (fun x => match x with | (_, i8) => ⟨178, [(0, .own 2000), (1, .int .i64 x1), (4, .fn (.func 38) []), (12, .int .i64 i7), (13, .int .i64 i8)], [(2000, bL 28 1 eW 0#16 ((x4.set ((x1).toNat) (x4.getD ((x3).toNat) 0#16)).set ((x3).toNat) (x4.getD ((x1).toNat) 0#16)))], [2000], 0⟩) (fun x => f103_L1 x1 x3 x4 i7 K2 x.1 x.2 = some r) (fun x => x.1) (FUEL, (x2 - (1 : Int))) (Le.mk (s := ⟨178, [(0, .own 2000), (1, .int .i64 x1), (4, .fn (.func 38) []), (12, .int .i64 i7), (13, .int .i64 (x2 - (1 : Int)))], [(2000, bL 28 1 eW 0#16 ((x4.set ((x1).toNat) (x4.getD ((x3).toNat) 0#16)).set ((x3).toNat) (x4.getD ((x1).toNat) 0#16)))], [2000], 0⟩) (s' := ⟨178, [(0, .own 2000), (1, .int .i64 x1), (4, .fn (.func 38) []), (12, .int .i64 i7), (13, .int .i64 (x2 - (1 : Int)))], [(2000, bL 28 1 eW 0#16 ((x4.set ((x1).toNat) (x4.getD ((x3).toNat) 0#16)).set ((x3).toNat) (x4.getD ((x1).toNat) 0#16)))], [2000], 0⟩) rfl rfl ⟨.refl _, .refl _, .refl _, .refl _, .refl _, trivial⟩ ⟨⟨_, rfl, .refl _⟩, trivial⟩) h ?_
      rintro ⟨k1, i8⟩ h
      cases k1 with
      | zero => exact nomatch (show (none : Option (Int × Bool × List (BitVec 16))) = some r from h)
      | succ k1 =>
      obtain ⟨C1, hC1⟩ : ∃ C, C = f103_L1 x1 x3 x4 i7 K2 k1 := ⟨_, rfl⟩
      replace h := (f103_L1.eq_2 ..).symm.trans h
      try rw [← hC1] at h
      refine AWp.seq ?_
      refine AWp.seq ?_
      obtain ⟨r9, hr9, h⟩ := optc_some h
      obtain ⟨ob26, h⟩ := chk_some h
      have ob27 : ((decide (i7 ≤ i8)) == true) = true → ((decide (i7 ≤ i8)) == true) = true := fun h => h
      have ob28 : ((decide (i7 ≤ i8)) == true) = true → ((decide (i7 ≤ i8)) == true) = true := fun h => h
      obtain ⟨ob29, h⟩ := chk_some h
      have ob30 : ((decide (i7 ≤ i8)) == true) = true → ((decide (i7 ≤ i8)) == true) = true := fun h => h
      obtain ⟨ob31, h⟩ := chk_some h
      have ob32 : ((decide (i7 ≤ i8)) == true) = true → ((decide (i7 ≤ i8)) == true) = true := fun h => h
      have ob33 : ((decide (i7 ≤ i8)) == true) = true → ((decide (i7 ≤ i8)) == true) = true := fun h => h
      obtain ⟨ob34, h⟩ := chk_some h
      have ob35 : ((decide (i7 ≤ i8)) == true) = true → ((decide (i7 ≤ i8)) == true) = true := fun h => h
      have ob36 : ((decide (i7 ≤ i8)) == true) = true → ((decide (i7 ≤ i8)) == true) = true := fun h => h
      have ob37 : ((decide (i7 ≤ i8)) == true) = true → ((decide (i7 ≤ i8)) == true) = true := fun h => h
      have ob38 : ((decide (i7 ≤ i8)) == true) = true → ((decide (i7 ≤ i8)) == true) = true := fun h => h
      have ob39 : ((decide (i7 ≤ i8)) == true) = true → ((decide (i7 ≤ i8)) == true) = true := fun h => h
      have ob40 : ((decide (i7 ≤ i8)) == true) = true → ((decide (i7 ≤ i8)) == true) = true := fun h => h
      have ob41 : true = true → (decide (i7 ≤ i8)) = true → ((decide (i7 ≤ i8)) == true) = true := fun _ h => beq_iff_eq.2 h
      refine AWp.regC [] [(13, ⟨[.b16 (((x4.set ((x1).toNat) (x4.getD ((x3).toNat) 0#16)).set ((x3).toNat) (x4.getD ((x1).toNat) 0#16)).getD ((i8).toNat) 0#16), .b16 (((x4.set ((x1).toNat) (x4.getD ((x3).toNat) 0#16)).set ((x3).toNat) (x4.getD ((x1).toNat) 0#16)).getD ((x1).toNat) 0#16)], [], [], [], .int .i64 r9, [], [], []⟩)] [0, 1, 4, 12, 13, 66] [2000] ⟨178, [(0, .own 2000), (1, .int .i64 x1), (4, .fn (.func 38) []), (12, .int .i64 i7), (13, .int .i64 i8), (66, .bool ((decide (i7 ≤ i8)) && (!(decide (r9 < (0 : Int))))))], [(2000, bL 28 1 eW 0#16 ((x4.set ((x1).toNat) (x4.getD ((x3).toNat) 0#16)).set ((x3).toNat) (x4.getD ((x1).toNat) 0#16)))], [2000], 0⟩ (((((decide (i7 ≤ i8)) == true) = true → 0 ≤ i8 ∧ i8 < (((((x4.set ((x1).toNat) (x4.getD ((x3).toNat) 0#16)).set ((x3).toNat) (x4.getD ((x1).toNat) 0#16))).length : Nat) : Int)) ∧ (((decide (i7 ≤ i8)) == true) = true → ((decide (i7 ≤ i8)) == true) = true) ∧ (((decide (i7 ≤ i8)) == true) = true → ((decide (i7 ≤ i8)) == true) = true) ∧ True) ∧ ((((decide (i7 ≤ i8)) == true) = true → ((i8).toNat) < (((x4.set ((x1).toNat) (x4.getD ((x3).toNat) 0#16)).set ((x3).toNat) (x4.getD ((x1).toNat) 0#16))).length) ∧ (((decide (i7 ≤ i8)) == true) = true → ((decide (i7 ≤ i8)) == true) = true) ∧ True) ∧ ((((decide (i7 ≤ i8)) == true) = true → 0 ≤ x1 ∧ x1 < (((((x4.set ((x1).toNat) (x4.getD ((x3).toNat) 0#16)).set ((x3).toNat) (x4.getD ((x1).toNat) 0#16))).length : Nat) : Int)) ∧ (((decide (i7 ≤ i8)) == true) = true → ((decide (i7 ≤ i8)) == true) = true) ∧ (((decide (i7 ≤ i8)) == true) = true → ((decide (i7 ≤ i8)) == true) = true) ∧ True) ∧ ((((decide (i7 ≤ i8)) == true) = true → ((x1).toNat) < (((x4.set ((x1).toNat) (x4.getD ((x3).toNat) 0#16)).set ((x3).toNat) (x4.getD ((x1).toNat) 0#16))).length) ∧ (((decide (i7 ≤ i8)) == true) = true → ((decide (i7 ≤ i8)) == true) = true) ∧ True) ∧ ((callP Tryd.prog ((decide (i7 ≤ i8)) == true) 38 [] [] [] [] [] [.b16 (((x4.set ((x1).toNat) (x4.getD ((x3).toNat) 0#16)).set ((x3).toNat) (x4.getD ((x1).toNat) 0#16)).getD ((i8).toNat) 0#16), .b16 (((x4.set ((x1).toNat) (x4.getD ((x3).toNat) 0#16)).set ((x3).toNat) (x4.getD ((x1).toNat) 0#16)).getD ((x1).toNat) 0#16)] [.b16 (((x4.set ((x1).toNat) (x4.getD ((x3).toNat) 0#16)).set ((x3).toNat) (x4.getD ((x1).toNat) 0#16)).getD ((i8).toNat) 0#16), .b16 (((x4.set ((x1).toNat) (x4.getD ((x3).toNat) 0#16)).set ((x3).toNat) (x4.getD ((x1).toNat) 0#16)).getD ((x1).toNat) 0#16)] (.int .i64 r9) []) ∧ (((decide (i7 ≤ i8)) == true) = true → ((decide (i7 ≤ i8)) == true) = true) ∧ (((decide (i7 ≤ i8)) == true) = true → ((decide (i7 ≤ i8)) == true) = true) ∧ (((decide (i7 ≤ i8)) == true) = true → ((decide (i7 ≤ i8)) == true) = true) ∧ True) ∧ ((((decide (i7 ≤ i8)) == true) = true → ((decide (i7 ≤ i8)) == true) = true) ∧ True) ∧ ((((decide (i7 ≤ i8)) == true) = true → ((decide (i7 ≤ i8)) == true) = true) ∧ True) ∧ (true = true → (decide (i7 ≤ i8)) = true → ((decide (i7 ≤ i8)) == true) = true) ∧ True) Tryd_mixed (by kernel_rfl) ⟨⟨ob26, ob27, ob28, trivial⟩, ⟨ob29, ob30, trivial⟩, ⟨ob31, ob32, ob33, trivial⟩, ⟨ob34, ob35, trivial⟩, ⟨⟨fun hc => (f38_ok (((x4.set ((x1).toNat) (x4.getD ((x3).toNat) 0#16)).set ((x3).toNat) (x4.getD ((x1).toNat) 0#16)).getD ((i8).toNat) 0#16) (((x4.set ((x1).toNat) (x4.getD ((x3).toNat) 0#16)).set ((x3).toNat) (x4.getD ((x1).toNat) 0#16)).getD ((x1).toNat) 0#16) r9 (hr9 hc)), fun _ => ⟨.refl _, .refl _, trivial⟩, .inl rfl⟩, ob36, ob37, ob38, trivial⟩, ⟨ob39, trivial⟩, ⟨ob40, trivial⟩, ob41, trivial⟩ ?_
      refine thenQ_normal ?_
      refine AWp.cond (b := ((decide (i7 ≤ i8)) && (!(decide (r9 < (0 : Int)))))) (by kernel_rfl) (fun hc2 => ?_) (fun hc2 => ?_)
      ·
        replace h := ite_tb hc2 h
        refine AWp.skip ?_
        refine thenQ_normal ?_
        refine AWp.block ?_
        obtain ⟨ob42, h⟩ := chk_some h
        refine AWp.regC [] [] [0, 1, 4, 12, 13] [2000] ⟨178, [(0, .own 2000), (1, .int .i64 x1), (4, .fn (.func 38) []), (12, .int .i64 i7), (13, .int .i64 (i8 - (1 : Int)))], [(2000, bL 28 1 eW 0#16 ((x4.set ((x1).toNat) (x4.getD ((x3).toNat) 0#16)).set ((x3).toNat) (x4.getD ((x1).toNat) 0#16)))], [2000], 0⟩ ((-9223372036854775808 ≤ (i8 - (1 : Int)) ∧ (i8 - (1 : Int)) ≤ 9223372036854775807) ∧ True) Tryd_mixed (by kernel_rfl) ⟨ob42, trivial⟩ ?_
        refine blockQ_normal ?_
        rw [hC1] at h
        exact loopQ_normal (_, (i8 - (1 : Int))) (Le.mk (s := ⟨178, [(0, .own 2000), (1, .int .i64 x1), (4, .fn (.func 38) []), (12, .int .i64 i7), (13, .int .i64 (i8 - (1 : Int)))], [(2000, bL 28 1 eW 0#16 ((x4.set ((x1).toNat) (x4.getD ((x3).toNat) 0#16)).set ((x3).toNat) (x4.getD ((x1).toNat) 0#16)))], [2000], 0⟩) (s' := ⟨178, [(0, .own 2000), (1, .int .i64 x1), (4, .fn (.func 38) []), (12, .int .i64 i7), (13, .int .i64 (i8 - (1 : Int)))], [(2000, bL 28 1 eW 0#16 ((x4.set ((x1).toNat) (x4.getD ((x3).toNat) 0#16)).set ((x3).toNat) (x4.getD ((x1).toNat) 0#16)))], [2000], 0⟩) rfl rfl ⟨.refl _, .refl _, .refl _, .refl _, .refl _, trivial⟩ ⟨⟨_, rfl, .refl _⟩, trivial⟩) h (Nat.lt_succ_self _)
      ·
        replace h := ite_fb hc2 h
        refine AWp.exit ?_
        refine thenQ_exit ?_
        refine thenQ_exit ?_
        refine blockQ_same ?_
        exact joinQ_normal (i8) (Le.mk (s := ⟨178, [(0, .own 2000), (1, .int .i64 x1), (4, .fn (.func 38) []), (12, .int .i64 i7), (13, .int .i64 i8), (66, .bool ((decide (i7 ≤ i8)) && (!(decide (r9 < (0 : Int))))))], [(2000, bL 28 1 eW 0#16 ((x4.set ((x1).toNat) (x4.getD ((x3).toNat) 0#16)).set ((x3).toNat) (x4.getD ((x1).toNat) 0#16)))], [2000], 0⟩) (s' := ⟨178, [(0, .own 2000), (1, .int .i64 x1), (4, .fn (.func 38) []), (12, .int .i64 i7), (13, .int .i64 i8)], [(2000, bL 28 1 eW 0#16 ((x4.set ((x1).toNat) (x4.getD ((x3).toNat) 0#16)).set ((x3).toNat) (x4.getD ((x1).toNat) 0#16)))], [2000], 0⟩) rfl rfl ⟨.refl _, .refl _, .refl _, .refl _, .refl _, trivial⟩ ⟨⟨_, rfl, .refl _⟩, trivial⟩) h
    ·
      rintro i10 h
      replace h := (congrFun hK2 _).symm.trans h
      refine AWp.seq ?_
      refine AWp.seq ?_
      refine AWp.regC [] [] [0, 1, 4, 12, 13, 71] [2000] ⟨178, [(0, .own 2000), (1, .int .i64 x1), (4, .fn (.func 38) []), (12, .int .i64 i7), (13, .int .i64 i10), (71, .bool (decide (i7 > i10)))], [(2000, bL 28 1 eW 0#16 ((x4.set ((x1).toNat) (x4.getD ((x3).toNat) 0#16)).set ((x3).toNat) (x4.getD ((x1).toNat) 0#16)))], [2000], 0⟩ (True) Tryd_mixed (by kernel_rfl) trivial ?_
      refine thenQ_normal ?_
      refine AWp.cond (b := (decide (i7 > i10))) (by kernel_rfl) (fun hc3 => ?_) (fun hc3 => ?_)
      ·
        replace h := ite_tb hc3 h
        refine AWp.seq ?_
        obtain ⟨ob43, h⟩ := chk_some h
        obtain ⟨ob44, h⟩ := chk_some h
        obtain ⟨ob45, h⟩ := chk_some h
        obtain ⟨ob46, h⟩ := chk_some h
        obtain ⟨ob47, h⟩ := chk_some h
        obtain ⟨ob48, h⟩ := chk_some h
        obtain ⟨ob49, h⟩ := chk_some h
        obtain ⟨ob50, h⟩ := chk_some h
        refine AWp.regC [] [] [13] [2000] ⟨178, [(13, .int .i64 i10)], [(2000, .rows 28 1 (((x4.set ((x1).toNat) (x4.getD ((x3).toNat) 0#16)).set ((x3).toNat) (x4.getD ((x1).toNat) 0#16))).length (updF (updF (encF eW 0#16 ((x4.set ((x1).toNat) (x4.getD ((x3).toNat) 0#16)).set ((x3).toNat) (x4.getD ((x1).toNat) 0#16))) ((i10).toNat) 0 [.b16 (((x4.set ((x1).toNat) (x4.getD ((x3).toNat) 0#16)).set ((x3).toNat) (x4.getD ((x1).toNat) 0#16)).getD ((x1).toNat) 0#16)]) ((x1).toNat) 0 [.b16 (((x4.set ((x1).toNat) (x4.getD ((x3).toNat) 0#16)).set ((x3).toNat) (x4.getD ((x1).toNat) 0#16)).getD ((i10).toNat) 0#16)]))], [2000], 0⟩ ((0 ≤ x1 ∧ x1 < (((((x4.set ((x1).toNat) (x4.getD ((x3).toNat) 0#16)).set ((x3).toNat) (x4.getD ((x1).toNat) 0#16))).length : Nat) : Int)) ∧ (((x1).toNat) < (((x4.set ((x1).toNat) (x4.getD ((x3).toNat) 0#16)).set ((x3).toNat) (x4.getD ((x1).toNat) 0#16))).length) ∧ (0 ≤ i10 ∧ i10 < (((((x4.set ((x1).toNat) (x4.getD ((x3).toNat) 0#16)).set ((x3).toNat) (x4.getD ((x1).toNat) 0#16))).length : Nat) : Int)) ∧ (((i10).toNat) < (((x4.set ((x1).toNat) (x4.getD ((x3).toNat) 0#16)).set ((x3).toNat) (x4.getD ((x1).toNat) 0#16))).length) ∧ (0 ≤ i10 ∧ i10 < (((((x4.set ((x1).toNat) (x4.getD ((x3).toNat) 0#16)).set ((x3).toNat) (x4.getD ((x1).toNat) 0#16))).length : Nat) : Int)) ∧ (((i10).toNat) < (((x4.set ((x1).toNat) (x4.getD ((x3).toNat) 0#16)).set ((x3).toNat) (x4.getD ((x1).toNat) 0#16))).length) ∧ (0 ≤ x1 ∧ x1 < (((((x4.set ((x1).toNat) (x4.getD ((x3).toNat) 0#16)).set ((x3).toNat) (x4.getD ((x1).toNat) 0#16))).length : Nat) : Int)) ∧ (((x1).toNat) < (((x4.set ((x1).toNat) (x4.getD ((x3).toNat) 0#16)).set ((x3).toNat) (x4.getD ((x1).toNat) 0#16))).length) ∧ True) Tryd_mixed (by kernel_rfl) ⟨ob43, ob44, ob45, ob46, ob47, ob48, ob49, ob50, trivial⟩ ?_
        refine thenQ_normal ?_
        refine AWp.le (Le.mk (s := ⟨178, [(13, .int .i64 i10)], [(2000, .rows 28 1 (((x4.set ((x1).toNat) (x4.getD ((x3).toNat) 0#16)).set ((x3).toNat) (x4.getD ((x1).toNat) 0#16))).length (updF (updF (encF eW 0#16 ((x4.set ((x1).toNat) (x4.getD ((x3).toNat) 0#16)).set ((x3).toNat) (x4.getD ((x1).toNat) 0#16))) ((i10).toNat) 0 [.b16 (((x4.set ((x1).toNat) (x4.getD ((x3).toNat) 0#16)).set ((x3).toNat) (x4.getD ((x1).toNat) 0#16)).getD ((x1).toNat) 0#16)]) ((x1).toNat) 0 [.b16 (((x4.set ((x1).toNat) (x4.getD ((x3).toNat) 0#16)).set ((x3).toNat) (x4.getD ((x1).toNat) 0#16)).getD ((i10).toNat) 0#16)]))], [2000], 0⟩) (s' := ⟨178, [(13, .int .i64 i10)], [(2000, bL 28 1 eW 0#16 ((((x4.set ((x1).toNat) (x4.getD ((x3).toNat) 0#16)).set ((x3).toNat) (x4.getD ((x1).toNat) 0#16)).set ((i10).toNat) (((x4.set ((x1).toNat) (x4.getD ((x3).toNat) 0#16)).set ((x3).toNat) (x4.getD ((x1).toNat) 0#16)).getD ((x1).toNat) 0#16)).set ((x1).toNat) (((x4.set ((x1).toNat) (x4.getD ((x3).toNat) 0#16)).set ((x3).toNat) (x4.getD ((x1).toNat) 0#16)).getD ((i10).toNat) 0#16)))], [2000], 0⟩) rfl rfl ⟨.refl _, trivial⟩ ⟨⟨_, rfl, (BLe.of (RL.set (((x4.set ((x1).toNat) (x4.getD ((x3).toNat) 0#16)).set ((x3).toNat) (x4.getD ((x1).toNat) 0#16)).getD ((i10).toNat) 0#16) (RL.set (((x4.set ((x1).toNat) (x4.getD ((x3).toNat) 0#16)).set ((x3).toNat) (x4.getD ((x1).toNat) 0#16)).getD ((x1).toNat) 0#16) (RL.self _) (by intro j hj; match j, hj with | 0, _ => rfl)) (by intro j hj; match j, hj with | 0, _ => rfl)))⟩, trivial⟩) ?_
        refine AWp.seq ?_
        refine AWp.regC [] [] [10, 11] [2000] ⟨178, [(10, .int .i64 i10), (11, .bool true)], [(2000, bL 28 1 eW 0#16 ((((x4.set ((x1).toNat) (x4.getD ((x3).toNat) 0#16)).set ((x3).toNat) (x4.getD ((x1).toNat) 0#16)).set ((i10).toNat) (((x4.set ((x1).toNat) (x4.getD ((x3).toNat) 0#16)).set ((x3).toNat) (x4.getD ((x1).toNat) 0#16)).getD ((x1).toNat) 0#16)).set ((x1).toNat) (((x4.set ((x1).toNat) (x4.getD ((x3).toNat) 0#16)).set ((x3).toNat) (x4.getD ((x1).toNat) 0#16)).getD ((i10).toNat) 0#16)))], [2000], 0⟩ (True) Tryd_mixed (by kernel_rfl) trivial ?_
        refine thenQ_normal ?_
        have hret := Option.some.inj h
        subst hret
        refine AWp.le (Le.mk (s := ⟨178, [(10, .int .i64 i10), (11, .bool true)], [(2000, bL 28 1 eW 0#16 ((((x4.set ((x1).toNat) (x4.getD ((x3).toNat) 0#16)).set ((x3).toNat) (x4.getD ((x1).toNat) 0#16)).set ((i10).toNat) (((x4.set ((x1).toNat) (x4.getD ((x3).toNat) 0#16)).set ((x3).toNat) (x4.getD ((x1).toNat) 0#16)).getD ((x1).toNat) 0#16)).set ((x1).toNat) (((x4.set ((x1).toNat) (x4.getD ((x3).toNat) 0#16)).set ((x3).toNat) (x4.getD ((x1).toNat) 0#16)).getD ((i10).toNat) 0#16)))], [2000], 0⟩) (s' := ⟨178, [(10, .int .i64 i10), (11, .bool true)], [(2000, bL 28 1 eW 0#16 ((((x4.set ((x1).toNat) (x4.getD ((x3).toNat) 0#16)).set ((x3).toNat) (x4.getD ((x1).toNat) 0#16)).set ((i10).toNat) (((x4.set ((x1).toNat) (x4.getD ((x3).toNat) 0#16)).set ((x3).toNat) (x4.getD ((x1).toNat) 0#16)).getD ((x1).toNat) 0#16)).set ((x1).toNat) (((x4.set ((x1).toNat) (x4.getD ((x3).toNat) 0#16)).set ((x3).toNat) (x4.getD ((x1).toNat) 0#16)).getD ((i10).toNat) 0#16)))], [2000], 0⟩) rfl rfl ⟨.refl _, .refl _, trivial⟩ ⟨⟨_, rfl, .refl _⟩, trivial⟩) ?_
        refine AWp.ret ?_
        refine thenQ_ret ?_
        exact bodyQ_ret _ rfl ⟨rfl, rfl⟩ rfl
      ·
        replace h := ite_fb hc3 h
        refine AWp.skip ?_
        refine thenQ_normal ?_
        refine AWp.seq ?_
        obtain ⟨ob51, h⟩ := chk_some h
        obtain ⟨ob52, h⟩ := chk_some h
        obtain ⟨ob53, h⟩ := chk_some h
        obtain ⟨ob54, h⟩ := chk_some h
        obtain ⟨ob55, h⟩ := chk_some h
        obtain ⟨ob56, h⟩ := chk_some h
        obtain ⟨ob57, h⟩ := chk_some h
        obtain ⟨ob58, h⟩ := chk_some h
        refine AWp.regC [] [] [0, 1, 4, 12, 13] [2000] ⟨178, [(0, .own 2000), (1, .int .i64 x1), (4, .fn (.func 38) []), (12, .int .i64 i7), (13, .int .i64 i10)], [(2000, .rows 28 1 (((x4.set ((x1).toNat) (x4.getD ((x3).toNat) 0#16)).set ((x3).toNat) (x4.getD ((x1).toNat) 0#16))).length (updF (updF (encF eW 0#16 ((x4.set ((x1).toNat) (x4.getD ((x3).toNat) 0#16)).set ((x3).toNat) (x4.getD ((x1).toNat) 0#16))) ((i7).toNat) 0 [.b16 (((x4.set ((x1).toNat) (x4.getD ((x3).toNat) 0#16)).set ((x3).toNat) (x4.getD ((x1).toNat) 0#16)).getD ((i10).toNat) 0#16)]) ((i10).toNat) 0 [.b16 (((x4.set ((x1).toNat) (x4.getD ((x3).toNat) 0#16)).set ((x3).toNat) (x4.getD ((x1).toNat) 0#16)).getD ((i7).toNat) 0#16)]))], [2000], 0⟩ ((0 ≤ i10 ∧ i10 < (((((x4.set ((x1).toNat) (x4.getD ((x3).toNat) 0#16)).set ((x3).toNat) (x4.getD ((x1).toNat) 0#16))).length : Nat) : Int)) ∧ (((i10).toNat) < (((x4.set ((x1).toNat) (x4.getD ((x3).toNat) 0#16)).set ((x3).toNat) (x4.getD ((x1).toNat) 0#16))).length) ∧ (0 ≤ i7 ∧ i7 < (((((x4.set ((x1).toNat) (x4.getD ((x3).toNat) 0#16)).set ((x3).toNat) (x4.getD ((x1).toNat) 0#16))).length : Nat) : Int)) ∧ (((i7).toNat) < (((x4.set ((x1).toNat) (x4.getD ((x3).toNat) 0#16)).set ((x3).toNat) (x4.getD ((x1).toNat) 0#16))).length) ∧ (0 ≤ i7 ∧ i7 < (((((x4.set ((x1).toNat) (x4.getD ((x3).toNat) 0#16)).set ((x3).toNat) (x4.getD ((x1).toNat) 0#16))).length : Nat) : Int)) ∧ (((i7).toNat) < (((x4.set ((x1).toNat) (x4.getD ((x3).toNat) 0#16)).set ((x3).toNat) (x4.getD ((x1).toNat) 0#16))).length) ∧ (0 ≤ i10 ∧ i10 < (((((x4.set ((x1).toNat) (x4.getD ((x3).toNat) 0#16)).set ((x3).toNat) (x4.getD ((x1).toNat) 0#16))).length : Nat) : Int)) ∧ (((i10).toNat) < (((x4.set ((x1).toNat) (x4.getD ((x3).toNat) 0#16)).set ((x3).toNat) (x4.getD ((x1).toNat) 0#16))).length) ∧ True) Tryd_mixed (by kernel_rfl) ⟨ob51, ob52, ob53, ob54, ob55, ob56, ob57, ob58, trivial⟩ ?_
        refine thenQ_normal ?_
        refine AWp.le (Le.mk (s := ⟨178, [(0, .own 2000), (1, .int .i64 x1), (4, .fn (.func 38) []), (12, .int .i64 i7), (13, .int .i64 i10)], [(2000, .rows 28 1 (((x4.set ((x1).toNat) (x4.getD ((x3).toNat) 0#16)).set ((x3).toNat) (x4.getD ((x1).toNat) 0#16))).length (updF (updF (encF eW 0#16 ((x4.set ((x1).toNat) (x4.getD ((x3).toNat) 0#16)).set ((x3).toNat) (x4.getD ((x1).toNat) 0#16))) ((i7).toNat) 0 [.b16 (((x4.set ((x1).toNat) (x4.getD ((x3).toNat) 0#16)).set ((x3).toNat) (x4.getD ((x1).toNat) 0#16)).getD ((i10).toNat) 0#16)]) ((i10).toNat) 0 [.b16 (((x4.set ((x1).toNat) (x4.getD ((x3).toNat) 0#16)).set ((x3).toNat) (x4.getD ((x1).toNat) 0#16)).getD ((i7).toNat) 0#16)]))], [2000], 0⟩) (s' := ⟨178, [(0, .own 2000), (1, .int .i64 x1), (4, .fn (.func 38) []), (12, .int .i64 i7), (13, .int .i64 i10)], [(2000, bL 28 1 eW 0#16 ((((x4.set ((x1).toNat) (x4.getD ((x3).toNat) 0#16)).set ((x3).toNat) (x4.getD ((x1).toNat) 0#16)).set ((i7).toNat) (((x4.set ((x1).toNat) (x4.getD ((x3).toNat) 0#16)).set ((x3).toNat) (x4.getD ((x1).toNat) 0#16)).getD ((i10).toNat) 0#16)).set ((i10).toNat) (((x4.set ((x1).toNat) (x4.getD ((x3).toNat) 0#16)).set ((x3).toNat) (x4.getD ((x1).toNat) 0#16)).getD ((i7).toNat) 0#16)))], [2000], 0⟩) rfl rfl ⟨.refl _, .refl _, .refl _, .refl _, .refl _, trivial⟩ ⟨⟨_, rfl, (BLe.of (RL.set (((x4.set ((x1).toNat) (x4.getD ((x3).toNat) 0#16)).set ((x3).toNat) (x4.getD ((x1).toNat) 0#16)).getD ((i7).toNat) 0#16) (RL.set (((x4.set ((x1).toNat) (x4.getD ((x3).toNat) 0#16)).set ((x3).toNat) (x4.getD ((x1).toNat) 0#16)).getD ((i10).toNat) 0#16) (RL.self _) (by intro j hj; match j, hj with | 0, _ => rfl)) (by intro j hj; match j, hj with | 0, _ => rfl)))⟩, trivial⟩) ?_
        refine AWp.seq ?_
        obtain ⟨ob59, h⟩ := chk_some h
        refine AWp.regC [] [] [0, 1, 4, 12, 13] [2000] ⟨178, [(0, .own 2000), (1, .int .i64 x1), (4, .fn (.func 38) []), (12, .int .i64 (i7 + (1 : Int))), (13, .int .i64 i10)], [(2000, bL 28 1 eW 0#16 ((((x4.set ((x1).toNat) (x4.getD ((x3).toNat) 0#16)).set ((x3).toNat) (x4.getD ((x1).toNat) 0#16)).set ((i7).toNat) (((x4.set ((x1).toNat) (x4.getD ((x3).toNat) 0#16)).set ((x3).toNat) (x4.getD ((x1).toNat) 0#16)).getD ((i10).toNat) 0#16)).set ((i10).toNat) (((x4.set ((x1).toNat) (x4.getD ((x3).toNat) 0#16)).set ((x3).toNat) (x4.getD ((x1).toNat) 0#16)).getD ((i7).toNat) 0#16)))], [2000], 0⟩ ((-9223372036854775808 ≤ (i7 + (1 : Int)) ∧ (i7 + (1 : Int)) ≤ 9223372036854775807) ∧ True) Tryd_mixed (by kernel_rfl) ⟨ob59, trivial⟩ ?_
        refine thenQ_normal ?_
        refine AWp.seq ?_
        obtain ⟨ob60, h⟩ := chk_some h
        refine AWp.regC [] [] [0, 1, 4, 12, 13] [2000] ⟨178, [(0, .own 2000), (1, .int .i64 x1), (4, .fn (.func 38) []), (12, .int .i64 (i7 + (1 : Int))), (13, .int .i64 (i10 - (1 : Int)))], [(2000, bL 28 1 eW 0#16 ((((x4.set ((x1).toNat) (x4.getD ((x3).toNat) 0#16)).set ((x3).toNat) (x4.getD ((x1).toNat) 0#16)).set ((i7).toNat) (((x4.set ((x1).toNat) (x4.getD ((x3).toNat) 0#16)).set ((x3).toNat) (x4.getD ((x1).toNat) 0#16)).getD ((i10).toNat) 0#16)).set ((i10).toNat) (((x4.set ((x1).toNat) (x4.getD ((x3).toNat) 0#16)).set ((x3).toNat) (x4.getD ((x1).toNat) 0#16)).getD ((i7).toNat) 0#16)))], [2000], 0⟩ ((-9223372036854775808 ≤ (i10 - (1 : Int)) ∧ (i10 - (1 : Int)) ≤ 9223372036854775807) ∧ True) Tryd_mixed (by kernel_rfl) ⟨ob60, trivial⟩ ?_
        refine thenQ_normal ?_
        obtain ⟨K3, hK3, h⟩ := jn_some h
        refine AWp.join (α := Int × List (BitVec 16)) (fun (x : Int × List (BitVec 16)) => match x with | (i20, l21) => ⟨178, [(0, .own 2000), (1, .int .i64 x1), (13, .int .i64 i20)], [(2000, bL 28 1 eW 0#16 l21)], [2000], 0⟩) (fun x => K3 x = some r) ?_ ?_
        ·
          refine AWp.block ?_
          refine AWp.loopL (α := Nat × (Int × Int × List (BitVec 16))) (fun x => match x with | (_, i11, i12, l13) => ⟨178, [(0, .own 2000), (1, .int .i64 x1), (4, .fn (.func 38) []), (12, .int .i64 i11), (13, .int .i64 i12)], [(2000, bL 28 1 eW 0#16 l13)], [2000], 0⟩) (fun x => f103_L2 x1 K3 x.1 x.2 = some r) (fun x => x.1) (FUEL, (i7 + (1 : Int)), (i10 - (1 : Int)), ((((x4.set ((x1).toNat) (x4.getD ((x3).toNat) 0#16)).set ((x3).toNat) (x4.getD ((x1).toNat) 0#16)).set ((i7).toNat) (((x4.set ((x1).toNat) (x4.getD ((x3).toNat) 0#16)).set ((x3).toNat) (x4.getD ((x1).toNat) 0#16)).getD ((i10).toNat) 0#16)).set ((i10).toNat) (((x4.set ((x1).toNat) (x4.getD ((x3).toNat) 0#16)).set ((x3).toNat) (x4.getD ((x1).toNat) 0#16)).getD ((i7).toNat) 0#16))) (Le.mk (s := ⟨178, [(0, .own 2000), (1, .int .i64 x1), (4, .fn (.func 38) []), (12, .int .i64 (i7 + (1 : Int))), (13, .int .i64 (i10 - (1 : Int)))], [(2000, bL 28 1 eW 0#16 ((((x4.set ((x1).toNat) (x4.getD ((x3).toNat) 0#16)).set ((x3).toNat) (x4.getD ((x1).toNat) 0#16)).set ((i7).toNat) (((x4.set ((x1).toNat) (x4.getD ((x3).toNat) 0#16)).set ((x3).toNat) (x4.getD ((x1).toNat) 0#16)).getD ((i10).toNat) 0#16)).set ((i10).toNat) (((x4.set ((x1).toNat) (x4.getD ((x3).toNat) 0#16)).set ((x3).toNat) (x4.getD ((x1).toNat) 0#16)).getD ((i7).toNat) 0#16)))], [2000], 0⟩) (s' := ⟨178, [(0, .own 2000), (1, .int .i64 x1), (4, .fn (.func 38) []), (12, .int .i64 (i7 + (1 : Int))), (13, .int .i64 (i10 - (1 : Int)))], [(2000, bL 28 1 eW 0#16 ((((x4.set ((x1).toNat) (x4.getD ((x3).toNat) 0#16)).set ((x3).toNat) (x4.getD ((x1).toNat) 0#16)).set ((i7).toNat) (((x4.set ((x1).toNat) (x4.getD ((x3).toNat) 0#16)).set ((x3).toNat) (x4.getD ((x1).toNat) 0#16)).getD ((i10).toNat) 0#16)).set ((i10).toNat) (((x4.set ((x1).toNat) (x4.getD ((x3).toNat) 0#16)).set ((x3).toNat) (x4.getD ((x1).toNat) 0#16)).getD ((i7).toNat) 0#16)))], [2000], 0⟩) rfl rfl ⟨.refl _, .refl _, .refl _, .refl _, .refl _, trivial⟩ ⟨⟨_, rfl, .refl _⟩, trivial⟩) h ?_
          rintro ⟨k2, i11, i12, l13⟩ h
          cases k2 with
          | zero => exact nomatch (show (none : Option (Int × Bool × List (BitVec 16))) = some r from h)
          | succ k2 =>
          obtain ⟨C2, hC2⟩ : ∃ C, C = f103_L2 x1 K3 k2 := ⟨_, rfl⟩
          replace h := (f103_L2.eq_2 ..).symm.trans h
          try rw [← hC2] at h
          refine AWp.block ?_
          obtain ⟨K4, hK4, h⟩ := jn_some h
          refine AWp.join (α := Int) (fun (i16 : Int) => ⟨178, [(0, .own 2000), (1, .int .i64 x1), (4, .fn (.func 38) []), (12, .int .i64 i16), (13, .int .i64 i12)], [(2000, bL 28 1 eW 0#16 l13)], [2000], 0⟩) (fun x => K4 x = some r) ?_ ?_
          ·
            refine AWp.block ?_
            refine AWp.loopL (α := Nat × Int) (fun x => match x with | (_, i14) => ⟨178, [(0, .own 2000), (1, .int .i64 x1), (4, .fn (.func 38) []), (12, .int .i64 i14), (13, .int .i64 i12)], [(2000, bL 28 1 eW 0#16 l13)], [2000], 0⟩) (fun x => f103_L3 x1 i12 l13 K4 x.1 x.2 = some r) (fun x => x.1) (FUEL, i11) (Le.mk (s := ⟨178, [(0, .own 2000), (1, .int .i64 x1), (4, .fn (.func 38) []), (12, .int .i64 i11), (13, .int .i64 i12)], [(2000, bL 28 1 eW 0#16 l13)], [2000], 0⟩) (s' := ⟨178, [(0, .own 2000), (1, .int .i64 x1), (4, .fn (.func 38) []), (12, .int .i64 i11), (13, .int .i64 i12)], [(2000, bL 28 1 eW 0#16 l13)], [2000], 0⟩) rfl rfl ⟨.refl _, .refl _, .refl _, .refl _, .refl _, trivial⟩ ⟨⟨_, rfl, .refl _⟩, trivial⟩) h ?_
            rintro ⟨k3, i14⟩ h
            cases k3 with
            | zero => exact nomatch (show (none : Option (Int × Bool × List (BitVec 16))) = some r from h)
            | succ k3 =>
            obtain ⟨C3, hC3⟩ : ∃ C, C = f103_L3 x1 i12 l13 K4 k3 := ⟨_, rfl⟩
            replace h := (f103_L3.eq_2 ..).symm.trans h
            try rw [← hC3] at h
            refine AWp.seq ?_
            refine AWp.seq ?_
            obtain ⟨r15, hr15, h⟩ := optc_some h
            obtain ⟨ob61, h⟩ := chk_some h
            have ob62 : ((decide (i14 ≤ i12)) == true) = true → ((decide (i14 ≤ i12)) == true) = true := fun h => h
            have ob63 : ((decide (i14 ≤ i12)) == true) = true → ((decide (i14 ≤ i12)) == true) = true := fun h => h
            obtain ⟨ob64, h⟩ := chk_some h
            have ob65 : ((decide (i14 ≤ i12)) == true) = true → ((decide (i14 ≤ i12)) == true) = true := fun h => h
            obtain ⟨ob66, h⟩ := chk_some h
            have ob67 : ((decide (i14 ≤ i12)) == true) = true → ((decide (i14 ≤ i12)) == true) = true := fun h => h
            have ob68 : ((decide (i14 ≤ i12)) == true) = true → ((decide (i14 ≤ i12)) == true) = true := fun h => h
            obtain ⟨ob69, h⟩ := chk_some h
            have ob70 : ((decide (i14 ≤ i12)) == true) = true → ((decide (i14 ≤ i12)) == true) = true := fun h => h
            have ob71 : ((decide (i14 ≤ i12)) == true) = true → ((decide (i14 ≤ i12)) == true) = true := fun h => h
            have ob72 : ((decide (i14 ≤ i12)) == true) = true → ((decide (i14 ≤ i12)) == true) = true := fun h => h
            have ob73 : ((decide (i14 ≤ i12)) == true) = true → ((decide (i14 ≤ i12)) == true) = true := fun h => h
            have ob74 : ((decide (i14 ≤ i12)) == true) = true → ((decide (i14 ≤ i12)) == true) = true := fun h => h
            have ob75 : true = true → (decide (i14 ≤ i12)) = true → ((decide (i14 ≤ i12)) == true) = true := fun _ h => beq_iff_eq.2 h
            refine AWp.regC [] [(13, ⟨[.b16 (l13.getD ((i14).toNat) 0#16), .b16 (l13.getD ((x1).toNat) 0#16)], [], [], [], .int .i64 r15, [], [], []⟩)] [0, 1, 4, 12, 13, 120] [2000] ⟨178, [(0, .own 2000), (1, .int .i64 x1), (4, .fn (.func 38) []), (12, .int .i64 i14), (13, .int .i64 i12), (120, .bool ((decide (i14 ≤ i12)) && (decide (r15 < (0 : Int)))))], [(2000, bL 28 1 eW 0#16 l13)], [2000], 0⟩ (((((decide (i14 ≤ i12)) == true) = true → 0 ≤ i14 ∧ i14 < (((l13).length : Nat) : Int)) ∧ (((decide (i14 ≤ i12)) == true) = true → ((decide (i14 ≤ i12)) == true) = true) ∧ (((decide (i14 ≤ i12)) == true) = true → ((decide (i14 ≤ i12)) == true) = true) ∧ True) ∧ ((((decide (i14 ≤ i12)) == true) = true → ((i14).toNat) < (l13).length) ∧ (((decide (i14 ≤ i12)) == true) = true → ((decide (i14 ≤ i12)) == true) = true) ∧ True) ∧ ((((decide (i14 ≤ i12)) == true) = true → 0 ≤ x1 ∧ x1 < (((l13).length : Nat) : Int)) ∧ (((decide (i14 ≤ i12)) == true) = true → ((decide (i14 ≤ i12)) == true) = true) ∧ (((decide (i14 ≤ i12)) == true) = true → ((decide (i14 ≤ i12)) == true) = true) ∧ True) ∧ ((((decide (i14 ≤ i12)) == true) = true → ((x1).toNat) < (l13).length) ∧ (((decide (i14 ≤ i12)) == true) = true → ((decide (i14 ≤ i12)) == true) = true) ∧ True) ∧ ((callP Tryd.prog ((decide (i14 ≤ i12)) == true) 38 [] [] [] [] [] [.b16 (l13.getD ((i14).toNat) 0#16), .b16 (l13.getD ((x1).toNat) 0#16)] [.b16 (l13.getD ((i14).toNat) 0#16), .b16 (l13.getD ((x1).toNat) 0#16)] (.int .i64 r15) []) ∧ (((decide (i14 ≤ i12)) == true) = true → ((decide (i14 ≤ i12)) == true) = true) ∧ (((decide (i14 ≤ i12)) == true) = true → ((decide (i14 ≤ i12)) == true) = true) ∧ (((decide (i14 ≤ i12)) == true) = true → ((decide (i14 ≤ i12)) == true) = true) ∧ True) ∧ ((((decide (i14 ≤ i12)) == true) = true → ((decide (i14 ≤ i12)) == true) = true) ∧ True) ∧ (true = true → (decide (i14 ≤ i12)) = true → ((decide (i14 ≤ i12)) == true) = true) ∧ True) Tryd_mixed (by kernel_rfl) ⟨⟨ob61, ob62, ob63, trivial⟩, ⟨ob64, ob65, trivial⟩, ⟨ob66, ob67, ob68, trivial⟩, ⟨ob69, ob70, trivial⟩, ⟨⟨fun hc => (f38_ok (l13.getD ((i14).toNat) 0#16) (l13.getD ((x1).toNat) 0#16) r15 (hr15 hc)), fun _ => ⟨.refl _, .refl _, trivial⟩, .inl rfl⟩, ob71, ob72, ob73, trivial⟩, ⟨ob74, trivial⟩, ob75, trivial⟩ ?_
            refine thenQ_normal ?_
            refine AWp.cond (b := ((decide (i14 ≤ i12)) && (decide (r15 < (0 : Int))))) (by kernel_rfl) (fun hc4 => ?_) (fun hc4 => ?_)
            ·
              replace h := ite_tb hc4 h
              refine AWp.skip ?_
              refine thenQ_normal ?_
              refine AWp.block ?_
              obtain ⟨ob76, h⟩ := chk_some h
              refine AWp.regC [] [] [0, 1, 4, 12, 13] [2000] ⟨178, [(0, .own 2000), (1, .int .i64 x1), (4, .fn (.func 38) []), (12, .int .i64 (i14 + (1 : Int))), (13, .int .i64 i12)], [(2000, bL 28 1 eW 0#16 l13)], [2000], 0⟩ ((-9223372036854775808 ≤ (i14 + (1 : Int)) ∧ (i14 + (1 : Int)) ≤ 9223372036854775807) ∧ True) Tryd_mixed (by kernel_rfl) ⟨ob76, trivial⟩ ?_
              refine blockQ_normal ?_
              rw [hC3] at h
              exact loopQ_normal (_, (i14 + (1 : Int))) (Le.mk (s := ⟨178, [(0, .own 2000), (1, .int .i64 x1), (4, .fn (.func 38) []), (12, .int .i64 (i14 + (1 : Int))), (13, .int .i64 i12)], [(2000, bL 28 1 eW 0#16 l13)], [2000], 0⟩) (s' := ⟨178, [(0, .own 2000), (1, .int .i64 x1), (4, .fn (.func 38) []), (12, .int .i64 (i14 + (1 : Int))), (13, .int .i64 i12)], [(2000, bL 28 1 eW 0#16 l13)], [2000], 0⟩) rfl rfl ⟨.refl _, .refl _, .refl _, .refl _, .refl _, trivial⟩ ⟨⟨_, rfl, .refl _⟩, trivial⟩) h (Nat.lt_succ_self _)
            ·
              replace h := ite_fb hc4 h
              refine AWp.exit ?_
              refine thenQ_exit ?_
              refine thenQ_exit ?_
              refine blockQ_same ?_
              exact joinQ_normal (i14) (Le.mk (s := ⟨178, [(0, .own 2000), (1, .int .i64 x1), (4, .fn (.func 38) []), (12, .int .i64 i14), (13, .int .i64 i12), (120, .bool ((decide (i14 ≤ i12)) && (decide (r15 < (0 : Int)))))], [(2000, bL 28 1 eW 0#16 l13)], [2000], 0⟩) (s' := ⟨178, [(0, .own 2000), (1, .int .i64 x1), (4, .fn (.func 38) []), (12, .int .i64 i14), (13, .int .i64 i12)], [(2000, bL 28 1 eW 0#16 l13)], [2000], 0⟩) rfl rfl ⟨.refl _, .refl _, .refl _, .refl _, .refl _, trivial⟩ ⟨⟨_, rfl, .refl _⟩, trivial⟩) h
          ·
            rintro i16 h
            replace h := (congrFun hK4 _).symm.trans h
            obtain ⟨K5, hK5, h⟩ := jn_some h
            refine AWp.join (α := Int) (fun (i19 : Int) => ⟨178, [(0, .own 2000), (1, .int .i64 x1), (4, .fn (.func 38) []), (12, .int .i64 i16), (13, .int .i64 i19)], [(2000, bL 28 1 eW 0#16 l13)], [2000], 0⟩) (fun x => K5 x = some r) ?_ ?_
            ·
              refine AWp.block ?_
              refine AWp.loopL (α := Nat × Int) (fun x => match x with | (_, i17) => ⟨178, [(0, .own 2000), (1, .int .i64 x1), (4, .fn (.func 38) []), (12, .int .i64 i16), (13, .int .i64 i17)], [(2000, bL 28 1 eW 0#16 l13)], [2000], 0⟩) (fun x => f103_L4 x1 l13 i16 K5 x.1 x.2 = some r) (fun x => x.1) (FUEL, i12) (Le.mk (s := ⟨178, [(0, .own 2000), (1, .int .i64 x1), (4, .fn (.func 38) []), (12, .int .i64 i16), (13, .int .i64 i12)], [(2000, bL 28 1 eW 0#16 l13)], [2000], 0⟩) (s' := ⟨178, [(0, .own 2000), (1, .int .i64 x1), (4, .fn (.func 38) []), (12, .int .i64 i16), (13, .int .i64 i12)], [(2000, bL 28 1 eW 0#16 l13)], [2000], 0⟩) rfl rfl ⟨.refl _, .refl _, .refl _, .refl _, .refl _, trivial⟩ ⟨⟨_, rfl, .refl _⟩, trivial⟩) h ?_
              rintro ⟨k4, i17⟩ h
              cases k4 with
              | zero => exact nomatch (show (none : Option (Int × Bool × List (BitVec 16))) = some r from h)
              | succ k4 =>
              obtain ⟨C4, hC4⟩ : ∃ C, C = f103_L4 x1 l13 i16 K5 k4 := ⟨_, rfl⟩
              replace h := (f103_L4.eq_2 ..).symm.trans h
              try rw [← hC4] at h
              refine AWp.seq ?_
              refine AWp.seq ?_
              obtain ⟨r18, hr18, h⟩ := optc_some h
              obtain ⟨ob77, h⟩ := chk_some h
              have ob78 : ((decide (i16 ≤ i17)) == true) = true → ((decide (i16 ≤ i17)) == true) = true := fun h => h
              have ob79 : ((decide (i16 ≤ i17)) == true) = true → ((decide (i16 ≤ i17)) == true) = true := fun h => h
              obtain ⟨ob80, h⟩ := chk_some h
              have ob81 : ((decide (i16 ≤ i17)) == true) = true → ((decide (i16 ≤ i17)) == true) = true := fun h => h
              obtain ⟨ob82, h⟩ := chk_some h
              have ob83 : ((decide (i16 ≤ i17)) == true) = true → ((decide (i16 ≤ i17)) == true) = true := fun h => h
              have ob84 : ((decide (i16 ≤ i17)) == true) = true → ((decide (i16 ≤ i17)) == true) = true := fun h => h
              obtain ⟨ob85, h⟩ := chk_some h
              have ob86 : ((decide (i16 ≤ i17)) == true) = true → ((decide (i16 ≤ i17)) == true) = true := fun h => h
              have ob87 : ((decide (i16 ≤ i17)) == true) = true → ((decide (i16 ≤ i17)) == true) = true := fun h => h
              have ob88 : ((decide (i16 ≤ i17)) == true) = true → ((decide (i16 ≤ i17)) == true) = true := fun h => h
              have ob89 : ((decide (i16 ≤ i17)) == true) = true → ((decide (i16 ≤ i17)) == true) = true := fun h => h
              have ob90 : ((decide (i16 ≤ i17)) == true) = true → ((decide (i16 ≤ i17)) == true) = true := fun h => h
              have ob91 : ((decide (i16 ≤ i17)) == true) = true → ((decide (i16 ≤ i17)) == true) = true := fun h => h
              have ob92 : true = true → (decide (i16 ≤ i17)) = true → ((decide (i16 ≤ i17)) == true) = true := fun _ h => beq_iff_eq.2 h
              refine AWp.regC [] [(13, ⟨[.b16 (l13.getD ((i17).toNat) 0#16), .b16 (l13.getD ((x1).toNat) 0#16)], [], [], [], .int .i64 r18, [], [], []⟩)] [0, 1, 4, 12, 13, 139] [2000] ⟨178, [(0, .own 2000), (1, .int .i64 x1), (4, .fn (.func 38) []), (12, .int .i64 i16), (13, .int .i64 i17), (139, .bool ((decide (i16 ≤ i17)) && (!(decide (r18 < (0 : Int))))))], [(2000, bL 28 1 eW 0#16 l13)], [2000], 0⟩ (((((decide (i16 ≤ i17)) == true) = true → 0 ≤ i17 ∧ i17 < (((l13).length : Nat) : Int)) ∧ (((decide (i16 ≤ i17)) == true) = true → ((decide (i16 ≤ i17)) == true) = true) ∧ (((decide (i16 ≤ i17)) == true) = true → ((decide (i16 ≤ i17)) == true) = true) ∧ True) ∧ ((((decide (i16 ≤ i17)) == true) = true → ((i17).toNat) < (l13).length) ∧ (((decide (i16 ≤ i17)) == true) = true → ((decide (i16 ≤ i17)) == true) = true) ∧ True) ∧ ((((decide (i16 ≤ i17)) == true) = true → 0 ≤ x1 ∧ x1 < (((l13).length : Nat) : Int)) ∧ (((decide (i16 ≤ i17)) == true) = true → ((decide (i16 ≤ i17)) == true) = true) ∧ (((decide (i16 ≤ i17)) == true) = true → ((decide (i16 ≤ i17)) == true) = true) ∧ True) ∧ ((((decide (i16 ≤ i17)) == true) = true → ((x1).toNat) < (l13).length) ∧ (((decide (i16 ≤ i17)) == true) = true → ((decide (i16 ≤ i17)) == true) = true) ∧ True) ∧ ((callP Tryd.prog ((decide (i16 ≤ i17)) == true) 38 [] [] [] [] [] [.b16 (l13.getD ((i17).toNat) 0#16), .b16 (l13.getD ((x1).toNat) 0#16)] [.b16 (l13.getD ((i17).toNat) 0#16), .b16 (l13.getD ((x1).toNat) 0#16)] (.int .i64 r18) []) ∧ (((decide (i16 ≤ i17)) == true) = true → ((decide (i16 ≤ i17)) == true) = true) ∧ (((decide (i16 ≤ i17)) == true) = true → ((decide (i16 ≤ i17)) == true) = true) ∧ (((decide (i16 ≤ i17)) == true) = true → ((decide (i16 ≤ i17)) == true) = true) ∧ True) ∧ ((((decide (i16 ≤ i17)) == true) = true → ((decide (i16 ≤ i17)) == true) = true) ∧ True) ∧ ((((decide (i16 ≤ i17)) == true) = true → ((decide (i16 ≤ i17)) == true) = true) ∧ True) ∧ (true = true → (decide (i16 ≤ i17)) = true → ((decide (i16 ≤ i17)) == true) = true) ∧ True) Tryd_mixed (by kernel_rfl) ⟨⟨ob77, ob78, ob79, trivial⟩, ⟨ob80, ob81, trivial⟩, ⟨ob82, ob83, ob84, trivial⟩, ⟨ob85, ob86, trivial⟩, ⟨⟨fun hc => (f38_ok (l13.getD ((i17).toNat) 0#16) (l13.getD ((x1).toNat) 0#16) r18 (hr18 hc)), fun _ => ⟨.refl _, .refl _, trivial⟩, .inl rfl⟩, ob87, ob88, ob89, trivial⟩, ⟨ob90, trivial⟩, ⟨ob91, trivial⟩, ob92, trivial⟩ ?_
              refine thenQ_normal ?_
              refine AWp.cond (b := ((decide (i16 ≤ i17)) && (!(decide (r18 < (0 : Int)))))) (by kernel_rfl) (fun hc5 => ?_) (fun hc5 => ?_)
              ·
                replace h := ite_tb hc5 h
                refine AWp.skip ?_
                refine thenQ_normal ?_
                refine AWp.block ?_
                obtain ⟨ob93, h⟩ := chk_some h
                refine AWp.regC [] [] [0, 1, 4, 12, 13] [2000] ⟨178, [(0, .own 2000), (1, .int .i64 x1), (4, .fn (.func 38) []), (12, .int .i64 i16), (13, .int .i64 (i17 - (1 : Int)))], [(2000, bL 28 1 eW 0#16 l13)], [2000], 0⟩ ((-9223372036854775808 ≤ (i17 - (1 : Int)) ∧ (i17 - (1 : Int)) ≤ 9223372036854775807) ∧ True) Tryd_mixed (by kernel_rfl) ⟨ob93, trivial⟩ ?_
                refine blockQ_normal ?_
                rw [hC4] at h
                exact loopQ_normal (_, (i17 - (1 : Int))) (Le.mk (s := ⟨178, [(0, .own 2000), (1, .int .i64 x1), (4, .fn (.func 38) []), (12, .int .i64 i16), (13, .int .i64 (i17 - (1 : Int)))], [(2000, bL 28 1 eW 0#16 l13)], [2000], 0⟩) (s' := ⟨178, [(0, .own 2000), (1, .int .i64 x1), (4, .fn (.func 38) []), (12, .int .i64 i16), (13, .int .i64 (i17 - (1 : Int)))], [(2000, bL 28 1 eW 0#16 l13)], [2000], 0⟩) rfl rfl ⟨.refl _, .refl _, .refl _, .refl _, .refl _, trivial⟩ ⟨⟨_, rfl, .refl _⟩, trivial⟩) h (Nat.lt_succ_self _)
              ·
                replace h := ite_fb hc5 h
                refine AWp.exit ?_
                refine thenQ_exit ?_
                refine thenQ_exit ?_
                refine blockQ_same ?_
                exact joinQ_normal (i17) (Le.mk (s := ⟨178, [(0, .own 2000), (1, .int .i64 x1), (4, .fn (.func 38) []), (12, .int .i64 i16), (13, .int .i64 i17), (139, .bool ((decide (i16 ≤ i17)) && (!(decide (r18 < (0 : Int))))))], [(2000, bL 28 1 eW 0#16 l13)], [2000], 0⟩) (s' := ⟨178, [(0, .own 2000), (1, .int .i64 x1), (4, .fn (.func 38) []), (12, .int .i64 i16), (13, .int .i64 i17)], [(2000, bL 28 1 eW 0#16 l13)], [2000], 0⟩) rfl rfl ⟨.refl _, .refl _, .refl _, .refl _, .refl _, trivial⟩ ⟨⟨_, rfl, .refl _⟩, trivial⟩) h
            ·
              rintro i19 h
              replace h := (congrFun hK5 _).symm.trans h
              refine AWp.seq ?_
              refine AWp.seq ?_
              refine AWp.regC [] [] [0, 1, 4, 12, 13, 144] [2000] ⟨178, [(0, .own 2000), (1, .int .i64 x1), (4, .fn (.func 38) []), (12, .int .i64 i16), (13, .int .i64 i19), (144, .bool (decide (i16 > i19)))], [(2000, bL 28 1 eW 0#16 l13)], [2000], 0⟩ (True) Tryd_mixed (by kernel_rfl) trivial ?_
              refine thenQ_normal ?_
              refine AWp.cond (b := (decide (i16 > i19))) (by kernel_rfl) (fun hc6 => ?_) (fun hc6 => ?_)
              ·
                replace h := ite_tb hc6 h
                refine AWp.exit ?_
                refine thenQ_exit ?_
                refine blockQ_other (by decide) ?_
                refine thenQ_exit ?_
                refine blockQ_same ?_
                exact joinQ_normal (i19, l13) (Le.mk (s := ⟨178, [(0, .own 2000), (1, .int .i64 x1), (4, .fn (.func 38) []), (12, .int .i64 i16), (13, .int .i64 i19), (144, .bool (decide (i16 > i19)))], [(2000, bL 28 1 eW 0#16 l13)], [2000], 0⟩) (s' := ⟨178, [(0, .own 2000), (1, .int .i64 x1), (13, .int .i64 i19)], [(2000, bL 28 1 eW 0#16 l13)], [2000], 0⟩) rfl rfl ⟨.refl _, .refl _, .refl _, trivial⟩ ⟨⟨_, rfl, .refl _⟩, trivial⟩) h
              ·
                replace h := ite_fb hc6 h
                refine AWp.skip ?_
                refine thenQ_normal ?_
                refine AWp.seq ?_
                obtain ⟨ob94, h⟩ := chk_some h
                obtain ⟨ob95, h⟩ := chk_some h
                obtain ⟨ob96, h⟩ := chk_some h
                obtain ⟨ob97, h⟩ := chk_some h
                obtain ⟨ob98, h⟩ := chk_some h
                obtain ⟨ob99, h⟩ := chk_some h
                obtain ⟨ob100, h⟩ := chk_some h
                obtain ⟨ob101, h⟩ := chk_some h
                refine AWp.regC [] [] [0, 1, 4, 12, 13] [2000] ⟨178, [(0, .own 2000), (1, .int .i64 x1), (4, .fn (.func 38) []), (12, .int .i64 i16), (13, .int .i64 i19)], [(2000, .rows 28 1 (l13).length (updF (updF (encF eW 0#16 l13) ((i16).toNat) 0 [.b16 (l13.getD ((i19).toNat) 0#16)]) ((i19).toNat) 0 [.b16 (l13.getD ((i16).toNat) 0#16)]))], [2000], 0⟩ ((0 ≤ i19 ∧ i19 < (((l13).length : Nat) : Int)) ∧ (((i19).toNat) < (l13).length) ∧ (0 ≤ i16 ∧ i16 < (((l13).length : Nat) : Int)) ∧ (((i16).toNat) < (l13).length) ∧ (0 ≤ i16 ∧ i16 < (((l13).length : Nat) : Int)) ∧ (((i16).toNat) < (l13).length) ∧ (0 ≤ i19 ∧ i19 < (((l13).length : Nat) : Int)) ∧ (((i19).toNat) < (l13).length) ∧ True) Tryd_mixed (by kernel_rfl) ⟨ob94, ob95, ob96, ob97, ob98, ob99, ob100, ob101, trivial⟩ ?_
                refine thenQ_normal ?_
                refine AWp.le (Le.mk (s := ⟨178, [(0, .own 2000), (1, .int .i64 x1), (4, .fn (.func 38) []), (12, .int .i64 i16), (13, .int .i64 i19)], [(2000, .rows 28 1 (l13).length (updF (updF (encF eW 0#16 l13) ((i16).toNat) 0 [.b16 (l13.getD ((i19).toNat) 0#16)]) ((i19).toNat) 0 [.b16 (l13.getD ((i16).toNat) 0#16)]))], [2000], 0⟩) (s' := ⟨178, [(0, .own 2000), (1, .int .i64 x1), (4, .fn (.func 38) []), (12, .int .i64 i16), (13, .int .i64 i19)], [(2000, bL 28 1 eW 0#16 ((l13.set ((i16).toNat) (l13.getD ((i19).toNat) 0#16)).set ((i19).toNat) (l13.getD ((i16).toNat) 0#16)))], [2000], 0⟩) rfl rfl ⟨.refl _, .refl _, .refl _, .refl _, .refl _, trivial⟩ ⟨⟨_, rfl, (BLe.of (RL.set (l13.getD ((i16).toNat) 0#16) (RL.set (l13.getD ((i19).toNat) 0#16) (RL.self _) (by intro j hj; match j, hj with | 0, _ => rfl)) (by intro j hj; match j, hj with | 0, _ => rfl)))⟩, trivial⟩) ?_
                refine AWp.seq ?_
                obtain ⟨ob102, h⟩ := chk_some h
                refine AWp.regC [] [] [0, 1, 4, 12, 13] [2000] ⟨178, [(0, .own 2000), (1, .int .i64 x1), (4, .fn (.func 38) []), (12, .int .i64 (i16 + (1 : Int))), (13, .int .i64 i19)], [(2000, bL 28 1 eW 0#16 ((l13.set ((i16).toNat) (l13.getD ((i19).toNat) 0#16)).set ((i19).toNat) (l13.getD ((i16).toNat) 0#16)))], [2000], 0⟩ ((-9223372036854775808 ≤ (i16 + (1 : Int)) ∧ (i16 + (1 : Int)) ≤ 9223372036854775807) ∧ True) Tryd_mixed (by kernel_rfl) ⟨ob102, trivial⟩ ?_
                refine thenQ_normal ?_
                obtain ⟨ob103, h⟩ := chk_some h
                refine AWp.regC [] [] [0, 1, 4, 12, 13] [2000] ⟨178, [(0, .own 2000), (1, .int .i64 x1), (4, .fn (.func 38) []), (12, .int .i64 (i16 + (1 : Int))), (13, .int .i64 (i19 - (1 : Int)))], [(2000, bL 28 1 eW 0#16 ((l13.set ((i16).toNat) (l13.getD ((i19).toNat) 0#16)).set ((i19).toNat) (l13.getD ((i16).toNat) 0#16)))], [2000], 0⟩ ((-9223372036854775808 ≤ (i19 - (1 : Int)) ∧ (i19 - (1 : Int)) ≤ 9223372036854775807) ∧ True) Tryd_mixed (by kernel_rfl) ⟨ob103, trivial⟩ ?_
                refine blockQ_normal ?_
                rw [hC2] at h
                exact loopQ_normal (_, (i16 + (1 : Int)), (i19 - (1 : Int)), ((l13.set ((i16).toNat) (l13.getD ((i19).toNat) 0#16)).set ((i19).toNat) (l13.getD ((i16).toNat) 0#16))) (Le.mk (s := ⟨178, [(0, .own 2000), (1, .int .i64 x1), (4, .fn (.func 38) []), (12, .int .i64 (i16 + (1 : Int))), (13, .int .i64 (i19 - (1 : Int)))], [(2000, bL 28 1 eW 0#16 ((l13.set ((i16).toNat) (l13.getD ((i19).toNat) 0#16)).set ((i19).toNat) (l13.getD ((i16).toNat) 0#16)))], [2000], 0⟩) (s' := ⟨178, [(0, .own 2000), (1, .int .i64 x1), (4, .fn (.func 38) []), (12, .int .i64 (i16 + (1 : Int))), (13, .int .i64 (i19 - (1 : Int)))], [(2000, bL 28 1 eW 0#16 ((l13.set ((i16).toNat) (l13.getD ((i19).toNat) 0#16)).set ((i19).toNat) (l13.getD ((i16).toNat) 0#16)))], [2000], 0⟩) rfl rfl ⟨.refl _, .refl _, .refl _, .refl _, .refl _, trivial⟩ ⟨⟨_, rfl, .refl _⟩, trivial⟩) h (Nat.lt_succ_self _)
        ·
          rintro ⟨i20, l21⟩ h
          replace h := (congrFun hK3 _).symm.trans h
          refine AWp.seq ?_
          obtain ⟨ob104, h⟩ := chk_some h
          obtain ⟨ob105, h⟩ := chk_some h
          obtain ⟨ob106, h⟩ := chk_some h
          obtain ⟨ob107, h⟩ := chk_some h
          obtain ⟨ob108, h⟩ := chk_some h
          obtain ⟨ob109, h⟩ := chk_some h
          obtain ⟨ob110, h⟩ := chk_some h
          obtain ⟨ob111, h⟩ := chk_some h
          refine AWp.regC [] [] [13] [2000] ⟨178, [(13, .int .i64 i20)], [(2000, .rows 28 1 (l21).length (updF (updF (encF eW 0#16 l21) ((i20).toNat) 0 [.b16 (l21.getD ((x1).toNat) 0#16)]) ((x1).toNat) 0 [.b16 (l21.getD ((i20).toNat) 0#16)]))], [2000], 0⟩ ((0 ≤ x1 ∧ x1 < (((l21).length : Nat) : Int)) ∧ (((x1).toNat) < (l21).length) ∧ (0 ≤ i20 ∧ i20 < (((l21).length : Nat) : Int)) ∧ (((i20).toNat) < (l21).length) ∧ (0 ≤ i20 ∧ i20 < (((l21).length : Nat) : Int)) ∧ (((i20).toNat) < (l21).length) ∧ (0 ≤ x1 ∧ x1 < (((l21).length : Nat) : Int)) ∧ (((x1).toNat) < (l21).length) ∧ True) Tryd_mixed (by kernel_rfl) ⟨ob104, ob105, ob106, ob107, ob108, ob109, ob110, ob111, trivial⟩ ?_
          refine thenQ_normal ?_
          refine AWp.le (Le.mk (s := ⟨178, [(13, .int .i64 i20)], [(2000, .rows 28 1 (l21).length (updF (updF (encF eW 0#16 l21) ((i20).toNat) 0 [.b16 (l21.getD ((x1).toNat) 0#16)]) ((x1).toNat) 0 [.b16 (l21.getD ((i20).toNat) 0#16)]))], [2000], 0⟩) (s' := ⟨178, [(13, .int .i64 i20)], [(2000, bL 28 1 eW 0#16 ((l21.set ((i20).toNat) (l21.getD ((x1).toNat) 0#16)).set ((x1).toNat) (l21.getD ((i20).toNat) 0#16)))], [2000], 0⟩) rfl rfl ⟨.refl _, trivial⟩ ⟨⟨_, rfl, (BLe.of (RL.set (l21.getD ((i20).toNat) 0#16) (RL.set (l21.getD ((x1).toNat) 0#16) (RL.self _) (by intro j hj; match j, hj with | 0, _ => rfl)) (by intro j hj; match j, hj with | 0, _ => rfl)))⟩, trivial⟩) ?_
          refine AWp.seq ?_
          refine AWp.regC [] [] [10, 11] [2000] ⟨178, [(10, .int .i64 i20), (11, .bool false)], [(2000, bL 28 1 eW 0#16 ((l21.set ((i20).toNat) (l21.getD ((x1).toNat) 0#16)).set ((x1).toNat) (l21.getD ((i20).toNat) 0#16)))], [2000], 0⟩ (True) Tryd_mixed (by kernel_rfl) trivial ?_
          refine thenQ_normal ?_
          have hret := Option.some.inj h
          subst hret
          refine AWp.le (Le.mk (s := ⟨178, [(10, .int .i64 i20), (11, .bool false)], [(2000, bL 28 1 eW 0#16 ((l21.set ((i20).toNat) (l21.getD ((x1).toNat) 0#16)).set ((x1).toNat) (l21.getD ((i20).toNat) 0#16)))], [2000], 0⟩) (s' := ⟨178, [(10, .int .i64 i20), (11, .bool false)], [(2000, bL 28 1 eW 0#16 ((l21.set ((i20).toNat) (l21.getD ((x1).toNat) 0#16)).set ((x1).toNat) (l21.getD ((i20).toNat) 0#16)))], [2000], 0⟩) rfl rfl ⟨.refl _, .refl _, trivial⟩ ⟨⟨_, rfl, .refl _⟩, trivial⟩) ?_
          refine AWp.ret ?_
          exact bodyQ_ret _ rfl ⟨rfl, rfl⟩ rfl
def f91_L0 (Frec : Int → Int → Int → (List (BitVec 16)) → Option (List (BitVec 16))) : Nat → (Int × Int × Int × Bool × Bool × List (BitVec 16)) → Option (List (BitVec 16))
  | 0, _ => none
  | k + 1, (i5, i6, i7, b8, b9, l10) =>
    chk (-9223372036854775808 ≤ (i6 - i5) ∧ (i6 - i5) ≤ 9223372036854775807) <|
    if (decide ((i6 - i5) ≤ (12 : Int))) then (
    (f96 i5 i6 l10).bind fun (r11 : List (BitVec 16)) =>
    some r11
    ) else (
    if (i7 == (0 : Int)) then (
    (f97 i5 i6 l10).bind fun (r12 : List (BitVec 16)) =>
    some r12
    ) else (
    jn (fun ((i14, l15) : Int × List (BitVec 16)) =>
    (f99 i5 i6 l15).bind fun (r16 : Int × Int × List (BitVec 16)) =>
    jn (fun ((i18, i19, l20) : Int × Int × List (BitVec 16)) =>
    jn (fun (l22 : List (BitVec 16)) =>
    optc ((decide (i5 > (0 : Int))) == true) (f38 (l22.getD (((i5 - (1 : Int))).toNat) 0#16) (l22.getD ((i18).toNat) 0#16)) fun (r23 : Int) =>
    chk (((decide (i5 > (0 : Int))) == true) = true → -9223372036854775808 ≤ (i5 - (1 : Int)) ∧ (i5 - (1 : Int)) ≤ 9223372036854775807) <|
    chk (((decide (i5 > (0 : Int))) == true) = true → 0 ≤ (i5 - (1 : Int)) ∧ (i5 - (1 : Int)) < (((l22).length : Nat) : Int)) <|
    chk (((decide (i5 > (0 : Int))) == true) = true → (((i5 - (1 : Int))).toNat) < (l22).length) <|
    chk (((decide (i5 > (0 : Int))) == true) = true → 0 ≤ i18 ∧ i18 < (((l22).length : Nat) : Int)) <|
    chk (((decide (i5 > (0 : Int))) == true) = true → ((i18).toNat) < (l22).length) <|
    if ((decide (i5 > (0 : Int))) && (!(decide (r23 < (0 : Int))))) then (
    (f102 i5 i6 i18 l22).bind fun (r24 : Int × List (BitVec 16)) =>
    (f91_L0 Frec k) (r24.1, i6, i14, b8, b9, r24.2)
    ) else (
    (f103 i5 i6 i18 l22).bind fun (r25 : Int × Bool × List (BitVec 16)) =>
    chk (-9223372036854775808 ≤ (r25.1 - i5) ∧ (r25.1 - i5) ≤ 9223372036854775807) <|
    chk (-9223372036854775808 ≤ (i6 - r25.1) ∧ (i6 - r25.1) ≤ 9223372036854775807) <|
    chk (0 ≤ (i6 - i5) ∧ 1 ≤ (8 : Int) ∧ -9223372036854775808 ≤ ((i6 - i5) / (8 : Int)) ∧ ((i6 - i5) / (8 : Int)) ≤ 9223372036854775807) <|
    if (decide ((r25.1 - i5) < (i6 - r25.1))) then (
    (Frec i5 r25.1 i14 r25.2.2).bind fun (r26 : List (BitVec 16)) =>
    chk (-9223372036854775808 ≤ (r25.1 + (1 : Int)) ∧ (r25.1 + (1 : Int)) ≤ 9223372036854775807) <|
    (f91_L0 Frec k) ((r25.1 + (1 : Int)), i6, i14, (decide ((r25.1 - i5) ≥ ((i6 - i5) / (8 : Int)))), r25.2.1, r26)
    ) else (
    (Frec (r25.1 + (1 : Int)) i6 i14 r25.2.2).bind fun (r27 : List (BitVec 16)) =>
    chk (-9223372036854775808 ≤ (r25.1 + (1 : Int)) ∧ (r25.1 + (1 : Int)) ≤ 9223372036854775807) <|
    (f91_L0 Frec k) (i5, r25.1, i14, (decide ((i6 - r25.1) ≥ ((i6 - i5) / (8 : Int)))), r25.2.1, r27)
    )
    )
    ) fun (K3 : (List (BitVec 16)) → Option (List (BitVec 16))) =>
    if ((b8 && b9) && (i19 == (1 : Int))) then (
    (f101 i5 i6 l20).bind fun (r21 : Bool × List (BitVec 16)) =>
    if r21.1 then (
    some r21.2
    ) else (
    K3 r21.2
    )
    ) else (
    K3 l20
    )
    ) fun (K2 : (Int × Int × List (BitVec 16)) → Option (List (BitVec 16))) =>
    if (r16.2.1 == (2 : Int)) then (
    (f100 i5 i6 r16.2.2).bind fun (r17 : List (BitVec 16)) =>
    chk (-9223372036854775808 ≤ (i6 - (1 : Int)) ∧ (i6 - (1 : Int)) ≤ 9223372036854775807) <|
    chk (-9223372036854775808 ≤ (r16.1 - i5) ∧ (r16.1 - i5) ≤ 9223372036854775807) <|
    chk (-9223372036854775808 ≤ ((i6 - (1 : Int)) - (r16.1 - i5)) ∧ ((i6 - (1 : Int)) - (r16.1 - i5)) ≤ 9223372036854775807) <|
    K2 (((i6 - (1 : Int)) - (r16.1 - i5)), (1 : Int), r17)
    ) else (
    K2 (r16.1, r16.2.1, r16.2.2)
    )
    ) fun (K1 : (Int × List (BitVec 16)) → Option (List (BitVec 16))) =>
    if (!b8) then (
    (f98 i5 i6 l10).bind fun (r13 : List (BitVec 16)) =>
    chk (-9223372036854775808 ≤ (i7 - (1 : Int)) ∧ (i7 - (1 : Int)) ≤ 9223372036854775807) <|
    K1 ((i7 - (1 : Int)), r13)
    ) else (
    K1 (i7, l10)
    )
    )
    )
def f91 : Nat → Int → Int → Int → (List (BitVec 16)) → Option (List (BitVec 16))
  | 0, _, _, _, _ => none
  | k + 1, x1, x2, x3, x4 =>
    f91_L0 (f91 k) FUEL (x1, x2, x3, true, true, x4)
set_option maxRecDepth 100000 in
theorem f91_ok : ∀ (k : Nat) (x1 : Int) (x2 : Int) (x3 : Int) (x4 : List (BitVec 16)) (r : List (BitVec 16)), f91 k x1 x2 x3 x4 = some r → Spec1 Tryd.prog 91 [] [2000] [(2000, bL 28 1 eW 0#16 x4)] [.own 2000, .int .i64 x1, .int .i64 x2, .int .i64 x3, .fn (.func 38) []] (.tup []) [(2000, bL 28 1 eW 0#16 r)] := by
  intro k
  induction k with
  | zero => intro x1 x2 x3 x4 r h; exact nomatch (show (none : Option (List (BitVec 16))) = some r from h)
  | succ k ih =>
  intro x1 x2 x3 x4 r h
  obtain ⟨Frec, hFrec⟩ : ∃ C, C = f91 k := ⟨_, rfl⟩
  rw [f91.eq_2] at h
  rw [← hFrec] at h ih
  refine Spec1.body 0 _ _ Tryd.func91 rfl Tryd.ntmps91 rfl rfl ?_
  refine AWp.seq ?_
  refine AWp.regC [] [] [0, 1, 2, 3, 4, 10] [2000] ⟨148, [(0, .own 2000), (1, .int .i64 x1), (2, .int .i64 x2), (3, .int .i64 x3), (4, .fn (.func 38) []), (10, .bool true)], [(2000, bL 28 1 eW 0#16 x4)], [2000], 0⟩ (True) Tryd_mixed (by kernel_rfl) trivial ?_
  refine thenQ_normal ?_
  refine AWp.seq ?_
  refine AWp.regC [] [] [0, 1, 2, 3, 4, 10, 11] [2000] ⟨148, [(0, .own 2000), (1, .int .i64 x1), (2, .int .i64 x2), (3, .int .i64 x3), (4, .fn (.func 38) []), (10, .bool true), (11, .bool true)], [(2000, bL 28 1 eW 0#16 x4)], [2000], 0⟩ (True) Tryd_mixed (by kernel_rfl) trivial ?_
  refine thenQ_normal ?_
  refine AWp.block ?_
  refine AWp.loopL (α := Nat × (Int × Int × Int × Bool × Bool × List (BitVec 16))) (fun x => match x with | (_, i5, i6, i7, b8, b9, l10) => ⟨148, [(0, .own 2000), (1, .int .i64 i5), (2, .int .i64 i6), (3, .int .i64 i7), (4, .fn (.func 38) []), (10, .bool b8), (11, .bool b9)], [(2000, bL 28 1 eW 0#16 l10)], [2000], 0⟩) (fun x => f91_L0 Frec x.1 x.2 = some r) (fun x => x.1) (FUEL, x1, x2, x3, true, true, x4) (Le.mk (s := ⟨148, [(0, .own 2000), (1, .int .i64 x1), (2, .int .i64 x2), (3, .int .i64 x3), (4, .fn (.func 38) []), (10, .bool true), (11, .bool true)], [(2000, bL 28 1 eW 0#16 x4)], [2000], 0⟩) (s' := ⟨148, [(0, .own 2000), (1, .int .i64 x1), (2, .int .i64 x2), (3, .int .i64 x3), (4, .fn (.func 38) []), (10, .bool true), (11, .bool true)], [(2000, bL 28 1 eW 0#16 x4)], [2000], 0⟩) rfl rfl ⟨.refl _, .refl _, .refl _, .refl _, .refl _, .refl _, .refl _, trivial⟩ ⟨⟨_, rfl, .refl _⟩, trivial⟩) h ?_
  rintro ⟨k0, i5, i6, i7, b8, b9, l10⟩ h
  cases k0 with
  | zero => exact nomatch (show (none : Option (List (BitVec 16))) = some r from h)
  | succ k0 =>
  obtain ⟨C0, hC0⟩ : ∃ C, C = f91_L0 Frec k0 := ⟨_, rfl⟩
  replace h := (f91_L0.eq_2 ..).symm.trans h
  try rw [← hC0] at h
  refine AWp.block ?_
  refine AWp.seq ?_
  obtain ⟨ob0, h⟩ := chk_some h
  refine AWp.regC [] [] [0, 1, 2, 3, 4, 10, 11, 12] [2000] ⟨148, [(0, .own 2000), (1, .int .i64 i5), (2, .int .i64 i6), (3, .int .i64 i7), (4, .fn (.func 38) []), (10, .bool b8), (11, .bool b9), (12, .int .i64 (i6 - i5))], [(2000, bL 28 1 eW 0#16 l10)], [2000], 0⟩ ((-9223372036854775808 ≤ (i6 - i5) ∧ (i6 - i5) ≤ 9223372036854775807) ∧ True) Tryd_mixed (by kernel_rfl) ⟨ob0, trivial⟩ ?_
  refine thenQ_normal ?_
  refine AWp.seq ?_
  refine AWp.seq ?_
  refine AWp.regC [] [] [0, 1, 2, 3, 4, 10, 11, 12, 25] [2000] ⟨148, [(0, .own 2000), (1, .int .i64 i5), (2, .int .i64 i6), (3, .int .i64 i7), (4, .fn (.func 38) []), (10, .bool b8), (11, .bool b9), (12, .int .i64 (i6 - i5)), (25, .bool (decide ((i6 - i5) ≤ (12 : Int))))], [(2000, bL 28 1 eW 0#16 l10)], [2000], 0⟩ (True) Tryd_mixed (by kernel_rfl) trivial ?_
  refine thenQ_normal ?_
  refine AWp.cond (b := (decide ((i6 - i5) ≤ (12 : Int)))) (by kernel_rfl) (fun hc1 => ?_) (fun hc1 => ?_)
  ·
    replace h := ite_tb hc1 h
    refine AWp.seq ?_
    obtain ⟨r11, hr11, h⟩ := bind_ok h
    refine AWp.regC [] [(4, ⟨[.own 2000, .int .i64 i5, .int .i64 i6, .fn (.func 38) []], [2000], [2000], [(2000, bL 28 1 eW 0#16 r11)], .tup [], [], [], []⟩)] [] [2000] ⟨148, [], [(2000, bL 28 1 eW 0#16 r11)], [2000], 0⟩ ((callP Tryd.prog true 96 [] [2000] [(2000, bL 28 1 eW 0#16 l10)] [] [] [.own 2000, .int .i64 i5, .int .i64 i6, .fn (.func 38) []] [.own 2000, .int .i64 i5, .int .i64 i6, .fn (.func 38) []] (.tup []) [(2000, bL 28 1 eW 0#16 r11)]) ∧ True) Tryd_mixed (by kernel_rfl) ⟨⟨fun _ => (f96_ok i5 i6 l10 r11 hr11), fun _ => ⟨.refl _, .refl _, .refl _, .refl _, trivial⟩, .inl rfl⟩, trivial⟩ ?_
    refine thenQ_normal ?_
    have hret := Option.some.inj h
    subst hret
    refine AWp.le (Le.mk (s := ⟨148, [], [(2000, bL 28 1 eW 0#16 r11)], [2000], 0⟩) (s' := ⟨148, [], [(2000, bL 28 1 eW 0#16 r11)], [2000], 0⟩) rfl rfl trivial ⟨⟨_, rfl, .refl _⟩, trivial⟩) ?_
    refine AWp.ret ?_
    refine thenQ_ret ?_
    refine blockQ_ret ?_
    refine thenQ_ret ?_
    refine blockQ_ret ?_
    exact bodyQ_ret _ rfl ⟨rfl, rfl⟩ rfl
  ·
    replace h := ite_fb hc1 h
    refine AWp.skip ?_
    refine thenQ_normal ?_
    refine AWp.seq ?_
    refine AWp.seq ?_
    refine AWp.regC [] [] [0, 1, 2, 3, 4, 10, 11, 12, 32] [2000] ⟨148, [(0, .own 2000), (1, .int .i64 i5), (2, .int .i64 i6), (3, .int .i64 i7), (4, .fn (.func 38) []), (10, .bool b8), (11, .bool b9), (12, .int .i64 (i6 - i5)), (32, .bool (i7 == (0 : Int)))], [(2000, bL 28 1 eW 0#16 l10)], [2000], 0⟩ (True) Tryd_mixed (by kernel_rfl) trivial ?_
    refine thenQ_normal ?_
    refine AWp.cond (b := (i7 == (0 : Int))) (by kernel_rfl) (fun hc2 => ?_) (fun hc2 => ?_)
    ·
      replace h := ite_tb hc2 h
      refine AWp.seq ?_
      obtain ⟨r12, hr12, h⟩ := bind_ok h
      refine AWp.regC [] [(4, ⟨[.own 2000, .int .i64 i5, .int .i64 i6, .fn (.func 38) []], [2000], [2000], [(2000, bL 28 1 eW 0#16 r12)], .tup [], [], [], []⟩)] [] [2000] ⟨148, [], [(2000, bL 28 1 eW 0#16 r12)], [2000], 0⟩ ((callP Tryd.prog true 97 [] [2000] [(2000, bL 28 1 eW 0#16 l10)] [] [] [.own 2000, .int .i64 i5, .int .i64 i6, .fn (.func 38) []] [.own 2000, .int .i64 i5, .int .i64 i6, .fn (.func 38) []] (.tup []) [(2000, bL 28 1 eW 0#16 r12)]) ∧ True) Tryd_mixed (by kernel_rfl) ⟨⟨fun _ => (f97_ok i5 i6 l10 r12 hr12), fun _ => ⟨.refl _, .refl _, .refl _, .refl _, trivial⟩, .inl rfl⟩, trivial⟩ ?_
      refine thenQ_normal ?_
      have hret := Option.some.inj h
      subst hret
      refine AWp.le (Le.mk (s := ⟨148, [], [(2000, bL 28 1 eW 0#16 r12)], [2000], 0⟩) (s' := ⟨148, [], [(2000, bL 28 1 eW 0#16 r12)], [2000], 0⟩) rfl rfl trivial ⟨⟨_, rfl, .refl _⟩, trivial⟩) ?_
      refine AWp.ret ?_
      refine thenQ_ret ?_
      refine blockQ_ret ?_
      refine thenQ_ret ?_
      refine blockQ_ret ?_
      exact bodyQ_ret _ rfl ⟨rfl, rfl⟩ rfl
    ·
      replace h := ite_fb hc2 h
      refine AWp.skip ?_
      refine thenQ_normal ?_
      obtain ⟨K1, hK1, h⟩ := jn_some h
      refine AWp.join (α := Int × List (BitVec 16)) (fun (x : Int × List (BitVec 16)) => match x with | (i14, l15) => ⟨148, [(0, .own 2000), (1, .int .i64 i5), (2, .int .i64 i6), (3, .int .i64 i14), (4, .fn (.func 38) []), (10, .bool b8), (11, .bool b9), (12, .int .i64 (i6 - i5))], [(2000, bL 28 1 eW 0#16 l15)], [2000], 0⟩) (fun x => K1 x = some r) ?_ ?_
      ·
        refine AWp.seq ?_
        refine AWp.regC [] [] [0, 1, 2, 3, 4, 10, 11, 12, 39] [2000] ⟨148, [(0, .own 2000), (1, .int .i64 i5), (2, .int .i64 i6), (3, .int .i64 i7), (4, .fn (.func 38) []), (10, .bool b8), (11, .bool b9), (12, .int .i64 (i6 - i5)), (39, .bool (!b8))], [(2000, bL 28 1 eW 0#16 l10)], [2000], 0⟩ (True) Tryd_mixed (by kernel_rfl) trivial ?_
        refine thenQ_normal ?_
        refine AWp.cond (b := (!b8)) (by kernel_rfl) (fun hc3 => ?_) (fun hc3 => ?_)
        ·
          replace h := ite_tb hc3 h
          refine AWp.seq ?_
          obtain ⟨r13, hr13, h⟩ := bind_ok h
          refine AWp.regC [] [(4, ⟨[.own 2000, .int .i64 i5, .int .i64 i6, .fn (.func 38) []], [2000], [2000], [(2000, bL 28 1 eW 0#16 r13)], .tup [], [], [], []⟩)] [0, 1, 2, 3, 4, 10, 11, 12] [2000] ⟨148, [(0, .own 2000), (1, .int .i64 i5), (2, .int .i64 i6), (3, .int .i64 i7), (4, .fn (.func 38) []), (10, .bool b8), (11, .bool b9), (12, .int .i64 (i6 - i5))], [(2000, bL 28 1 eW 0#16 r13)], [2000], 0⟩ ((callP Tryd.prog true 98 [] [2000] [(2000, bL 28 1 eW 0#16 l10)] [] [] [.own 2000, .int .i64 i5, .int .i64 i6, .fn (.func 38) []] [.own 2000, .int .i64 i5, .int .i64 i6, .fn (.func 38) []] (.tup []) [(2000, bL 28 1 eW 0#16 r13)]) ∧ True) Tryd_mixed (by kernel_rfl) ⟨⟨fun _ => (f98_ok i5 i6 l10 r13 hr13), fun _ => ⟨.refl _, .refl _, .refl _, .refl _, trivial⟩, .inl rfl⟩, trivial⟩ ?_
          refine thenQ_normal ?_
          obtain ⟨ob1, h⟩ := chk_some h
          refine AWp.regC [] [] [0, 1, 2, 3, 4, 10, 11, 12] [2000] ⟨148, [(0, .own 2000), (1, .int .i64 i5), (2, .int .i64 i6), (3, .int .i64 (i7 - (1 : Int))), (4, .fn (.func 38) []), (10, .bool b8), (11, .bool b9), (12, .int .i64 (i6 - i5))], [(2000, bL 28 1 eW 0#16 r13)], [2000], 0⟩ ((-9223372036854775808 ≤ (i7 - (1 : Int)) ∧ (i7 - (1 : Int)) ≤ 9223372036854775807) ∧ True) Tryd_mixed (by kernel_rfl) ⟨ob1, trivial⟩ ?_
          exact joinQ_normal ((i7 - (1 : Int)), r13) (Le.mk (s := ⟨148, [(0, .own 2000), (1, .int .i64 i5), (2, .int .i64 i6), (3, .int .i64 (i7 - (1 : Int))), (4, .fn (.func 38) []), (10, .bool b8), (11, .bool b9), (12, .int .i64 (i6 - i5))], [(2000, bL 28 1 eW 0#16 r13)], [2000], 0⟩) (s' := ⟨148, [(0, .own 2000), (1, .int .i64 i5), (2, .int .i64 i6), (3, .int .i64 (i7 - (1 : Int))), (4, .fn (.func 38) []), (10, .bool b8), (11, .bool b9), (12, .int .i64 (i6 - i5))], [(2000, bL 28 1 eW 0#16 r13)], [2000], 0⟩) rfl rfl ⟨.refl _, .refl _, .refl _, .refl _, .refl _, .refl _, .refl _, .refl _, trivial⟩ ⟨⟨_, rfl, .refl _⟩, trivial⟩) h
        ·
          replace h := ite_fb hc3 h
          refine AWp.skip ?_
          exact joinQ_normal (i7, l10) (Le.mk (s := ⟨148, [(0, .own 2000), (1, .int .i64 i5), (2, .int .i64 i6), (3, .int .i64 i7), (4, .fn (.func 38) []), (10, .bool b8), (11, .bool b9), (12, .int .i64 (i6 - i5)), (39, .bool (!b8))], [(2000, bL 28 1 eW 0#16 l10)], [2000], 0⟩) (s' := ⟨148, [(0, .own 2000), (1, .int .i64 i5), (2, .int .i64 i6), (3, .int .i64 i7), (4, .fn (.func 38) []), (10, .bool b8), (11, .bool b9), (12, .int .i64 (i6 - i5))], [(2000, bL 28 1 eW 0#16 l10)], [2000], 0⟩) rfl rfl ⟨.refl _, .refl _, .refl _, .refl _, .refl _, .refl _, .refl _, .refl _, trivial⟩ ⟨⟨_, rfl, .refl _⟩, trivial⟩) h
      ·
        rintro ⟨i14, l15⟩ h
        replace h := (congrFun hK1 _).symm.trans h
        refine AWp.seq ?_
        obtain ⟨r16, hr16, h⟩ := bind_ok h
        refine AWp.regC [] [(4, ⟨[.own 2000, .int .i64 i5, .int .i64 i6, .fn (.func 38) []], [2000], [2000], [(2000, bL 28 1 eW 0#16 r16.2.2)], .tup [.int .i64 r16.1, .int .i64 r16.2.1], [], [], []⟩)] [0, 1, 2, 3, 4, 10, 11, 12, 13, 14] [2000] ⟨148, [(0, .own 2000), (1, .int .i64 i5), (2, .int .i64 i6), (3, .int .i64 i14), (4, .fn (.func 38) []), (10, .bool b8), (11, .bool b9), (12, .int .i64 (i6 - i5)), (13, .int .i64 r16.1), (14, .int .i64 r16.2.1)], [(2000, bL 28 1 eW 0#16 r16.2.2)], [2000], 0⟩ ((callP Tryd.prog true 99 [] [2000] [(2000, bL 28 1 eW 0#16 l15)] [] [] [.own 2000, .int .i64 i5, .int .i64 i6, .fn (.func 38) []] [.own 2000, .int .i64 i5, .int .i64 i6, .fn (.func 38) []] (.tup [.int .i64 r16.1, .int .i64 r16.2.1]) [(2000, bL 28 1 eW 0#16 r16.2.2)]) ∧ True) Tryd_mixed (by kernel_rfl) ⟨⟨fun _ => (f99_ok i5 i6 l15 r16 hr16), fun _ => ⟨.refl _, .refl _, .refl _, .refl _, trivial⟩, .inl rfl⟩, trivial⟩ ?_
        refine thenQ_normal ?_
        obtain ⟨K2, hK2, h⟩ := jn_some h
        refine AWp.join (α := Int × Int × List (BitVec 16)) (fun (x : Int × Int × List (BitVec 16)) => match x with | (i18, i19, l20) => ⟨148, [(0, .own 2000), (1, .int .i64 i5), (2, .int .i64 i6), (3, .int .i64 i14), (4, .fn (.func 38) []), (10, .bool b8), (11, .bool b9), (12, .int .i64 (i6 - i5)), (13, .int .i64 i18), (14, .int .i64 i19)], [(2000, bL 28 1 eW 0#16 l20)], [2000], 0⟩) (fun x => K2 x = some r) ?_ ?_
        ·
          refine AWp.seq ?_
          refine AWp.regC [] [] [0, 1, 2, 3, 4, 10, 11, 12, 13, 14, 56] [2000] ⟨148, [(0, .own 2000), (1, .int .i64 i5), (2, .int .i64 i6), (3, .int .i64 i14), (4, .fn (.func 38) []), (10, .bool b8), (11, .bool b9), (12, .int .i64 (i6 - i5)), (13, .int .i64 r16.1), (14, .int .i64 r16.2.1), (56, .bool (r16.2.1 == (2 : Int)))], [(2000, bL 28 1 eW 0#16 r16.2.2)], [2000], 0⟩ (True) Tryd_mixed (by kernel_rfl) trivial ?_
          refine thenQ_normal ?_
          refine AWp.cond (b := (r16.2.1 == (2 : Int))) (by kernel_rfl) (fun hc4 => ?_) (fun hc4 => ?_)
          ·
            replace h := ite_tb hc4 h
            refine AWp.seq ?_
            obtain ⟨r17, hr17, h⟩ := bind_ok h
            refine AWp.regC [] [(4, ⟨[.own 2000, .int .i64 i5, .int .i64 i6, .fn (.func 38) []], [2000], [2000], [(2000, bL 28 1 eW 0#16 r17)], .tup [], [], [], []⟩)] [0, 1, 2, 3, 4, 10, 11, 12, 13] [2000] ⟨148, [(0, .own 2000), (1, .int .i64 i5), (2, .int .i64 i6), (3, .int .i64 i14), (4, .fn (.func 38) []), (10, .bool b8), (11, .bool b9), (12, .int .i64 (i6 - i5)), (13, .int .i64 r16.1)], [(2000, bL 28 1 eW 0#16 r17)], [2000], 0⟩ ((callP Tryd.prog true 100 [] [2000] [(2000, bL 28 1 eW 0#16 r16.2.2)] [] [] [.own 2000, .int .i64 i5, .int .i64 i6, .fn (.func 38) []] [.own 2000, .int .i64 i5, .int .i64 i6, .fn (.func 38) []] (.tup []) [(2000, bL 28 1 eW 0#16 r17)]) ∧ True) Tryd_mixed (by kernel_rfl) ⟨⟨fun _ => (f100_ok i5 i6 r16.2.2 r17 hr17), fun _ => ⟨.refl _, .refl _, .refl _, .refl _, trivial⟩, .inl rfl⟩, trivial⟩ ?_
            refine thenQ_normal ?_
            refine AWp.seq ?_
            obtain ⟨ob2, h⟩ := chk_some h
            obtain ⟨ob3, h⟩ := chk_some h
            obtain ⟨ob4, h⟩ := chk_some h
            refine AWp.regC [] [] [0, 1, 2, 3, 4, 10, 11, 12, 13] [2000] ⟨148, [(0, .own 2000), (1, .int .i64 i5), (2, .int .i64 i6), (3, .int .i64 i14), (4, .fn (.func 38) []), (10, .bool b8), (11, .bool b9), (12, .int .i64 (i6 - i5)), (13, .int .i64 ((i6 - (1 : Int)) - (r16.1 - i5)))], [(2000, bL 28 1 eW 0#16 r17)], [2000], 0⟩ ((-9223372036854775808 ≤ (i6 - (1 : Int)) ∧ (i6 - (1 : Int)) ≤ 9223372036854775807) ∧ (-9223372036854775808 ≤ (r16.1 - i5) ∧ (r16.1 - i5) ≤ 9223372036854775807) ∧ (-9223372036854775808 ≤ ((i6 - (1 : Int)) - (r16.1 - i5)) ∧ ((i6 - (1 : Int)) - (r16.1 - i5)) ≤ 9223372036854775807) ∧ True) Tryd_mixed (by kernel_rfl) ⟨ob2, ob3, ob4, trivial⟩ ?_
            refine thenQ_normal ?_
            refine AWp.regC [] [] [0, 1, 2, 3, 4, 10, 11, 12, 13, 14] [2000] ⟨148, [(0, .own 2000), (1, .int .i64 i5), (2, .int .i64 i6), (3, .int .i64 i14), (4, .fn (.func 38) []), (10, .bool b8), (11, .bool b9), (12, .int .i64 (i6 - i5)), (13, .int .i64 ((i6 - (1 : Int)) - (r16.1 - i5))), (14, .int .i64 (1 : Int))], [(2000, bL 28 1 eW 0#16 r17)], [2000], 0⟩ (True) Tryd_mixed (by kernel_rfl) trivial ?_
            exact joinQ_normal (((i6 - (1 : Int)) - (r16.1 - i5)), (1 : Int), r17) (Le.mk (s := ⟨148, [(0, .own 2000), (1, .int .i64 i5), (2, .int .i64 i6), (3, .int .i64 i14), (4, .fn (.func 38) []), (10, .bool b8), (11, .bool b9), (12, .int .i64 (i6 - i5)), (13, .int .i64 ((i6 - (1 : Int)) - (r16.1 - i5))), (14, .int .i64 (1 : Int))], [(2000, bL 28 1 eW 0#16 r17)], [2000], 0⟩) (s' := ⟨148, [(0, .own 2000), (1, .int .i64 i5), (2, .int .i64 i6), (3, .int .i64 i14), (4, .fn (.func 38) []), (10, .bool b8), (11, .bool b9), (12, .int .i64 (i6 - i5)), (13, .int .i64 ((i6 - (1 : Int)) - (r16.1 - i5))), (14, .int .i64 (1 : Int))], [(2000, bL 28 1 eW 0#16 r17)], [2000], 0⟩) rfl rfl ⟨.refl _, .refl _, .refl _, .refl _, .refl _, .refl _, .refl _, .refl _, .refl _, .refl _, trivial⟩ ⟨⟨_, rfl, .refl _⟩, trivial⟩) h
          ·
            replace h := ite_fb hc4 h
            refine AWp.skip ?_
            exact joinQ_normal (r16.1, r16.2.1, r16.2.2) (Le.mk (s := ⟨148, [(0, .own 2000), (1, .int .i64 i5), (2, .int .i64 i6), (3, .int .i64 i14), (4, .fn (.func 38) []), (10, .bool b8), (11, .bool b9), (12, .int .i64 (i6 - i5)), (13, .int .i64 r16.1), (14, .int .i64 r16.2.1), (56, .bool (r16.2.1 == (2 : Int)))], [(2000, bL 28 1 eW 0#16 r16.2.2)], [2000], 0⟩) (s' := ⟨148, [(0, .own 2000), (1, .int .i64 i5), (2, .int .i64 i6), (3, .int .i64 i14), (4, .fn (.func 38) []), (10, .bool b8), (11, .bool b9), (12, .int .i64 (i6 - i5)), (13, .int .i64 r16.1), (14, .int .i64 r16.2.1)], [(2000, bL 28 1 eW 0#16 r16.2.2)], [2000], 0⟩) rfl rfl ⟨.refl _, .refl _, .refl _, .refl _, .refl _, .refl _, .refl _, .refl _, .refl _, .refl _, trivial⟩ ⟨⟨_, rfl, .refl _⟩, trivial⟩) h
        ·
          rintro ⟨i18, i19, l20⟩ h
          replace h := (congrFun hK2 _).symm.trans h
          obtain ⟨K3, hK3, h⟩ := jn_some h
          refine AWp.join (α := List (BitVec 16)) (fun (l22 : List (BitVec 16)) => ⟨148, [(0, .own 2000), (1, .int .i64 i5), (2, .int .i64 i6), (3, .int .i64 i14), (4, .fn (.func 38) []), (10, .bool b8), (11, .bool b9), (12, .int .i64 (i6 - i5)), (13, .int .i64 i18)], [(2000, bL 28 1 eW 0#16 l22)], [2000], 0⟩) (fun x => K3 x = some r) ?_ ?_
          ·
            refine AWp.seq ?_
            have ob5 : true = true → b8 = true → (b8 == true) = true := fun _ h => beq_iff_eq.2 h
            have ob6 : ((b8 && b9) == true) = true → ((b8 && b9) == true) = true := fun h => h
            have ob7 : true = true → (b8 && b9) = true → ((b8 && b9) == true) = true := fun _ h => beq_iff_eq.2 h
            refine AWp.regC [] [] [0, 1, 2, 3, 4, 10, 11, 12, 13, 75] [2000] ⟨148, [(0, .own 2000), (1, .int .i64 i5), (2, .int .i64 i6), (3, .int .i64 i14), (4, .fn (.func 38) []), (10, .bool b8), (11, .bool b9), (12, .int .i64 (i6 - i5)), (13, .int .i64 i18), (75, .bool ((b8 && b9) && (i19 == (1 : Int))))], [(2000, bL 28 1 eW 0#16 l20)], [2000], 0⟩ ((true = true → b8 = true → (b8 == true) = true) ∧ ((((b8 && b9) == true) = true → ((b8 && b9) == true) = true) ∧ True) ∧ (true = true → (b8 && b9) = true → ((b8 && b9) == true) = true) ∧ True) Tryd_mixed (by kernel_rfl) ⟨ob5, ⟨ob6, trivial⟩, ob7, trivial⟩ ?_
            refine thenQ_normal ?_
            refine AWp.cond (b := ((b8 && b9) && (i19 == (1 : Int)))) (by kernel_rfl) (fun hc5 => ?_) (fun hc5 => ?_)
            ·
              replace h := ite_tb hc5 h
              refine AWp.seq ?_
              obtain ⟨r21, hr21, h⟩ := bind_ok h
              refine AWp.regC [] [(4, ⟨[.own 2000, .int .i64 i5, .int .i64 i6, .fn (.func 38) []], [2000], [2000], [(2000, bL 28 1 eW 0#16 r21.2)], .bool r21.1, [], [], []⟩)] [0, 1, 2, 3, 4, 10, 11, 12, 13, 80] [2000] ⟨148, [(0, .own 2000), (1, .int .i64 i5), (2, .int .i64 i6), (3, .int .i64 i14), (4, .fn (.func 38) []), (10, .bool b8), (11, .bool b9), (12, .int .i64 (i6 - i5)), (13, .int .i64 i18), (80, .bool r21.1)], [(2000, bL 28 1 eW 0#16 r21.2)], [2000], 0⟩ ((callP Tryd.prog true 101 [] [2000] [(2000, bL 28 1 eW 0#16 l20)] [] [] [.own 2000, .int .i64 i5, .int .i64 i6, .fn (.func 38) []] [.own 2000, .int .i64 i5, .int .i64 i6, .fn (.func 38) []] (.bool r21.1) [(2000, bL 28 1 eW 0#16 r21.2)]) ∧ True) Tryd_mixed (by kernel_rfl) ⟨⟨fun _ => (f101_ok i5 i6 l20 r21 hr21), fun _ => ⟨.refl _, .refl _, .refl _, .refl _, trivial⟩, .inl rfl⟩, trivial⟩ ?_
              refine thenQ_normal ?_
              refine AWp.cond (b := r21.1) (by kernel_rfl) (fun hc6 => ?_) (fun hc6 => ?_)
              ·
                replace h := ite_tb hc6 h
                have hret := Option.some.inj h
                subst hret
                refine AWp.le (Le.mk (s := ⟨148, [(0, .own 2000), (1, .int .i64 i5), (2, .int .i64 i6), (3, .int .i64 i14), (4, .fn (.func 38) []), (10, .bool b8), (11, .bool b9), (12, .int .i64 (i6 - i5)), (13, .int .i64 i18), (80, .bool r21.1)], [(2000, bL 28 1 eW 0#16 r21.2)], [2000], 0⟩) (s' := ⟨148, [], [(2000, bL 28 1 eW 0#16 r21.2)], [2000], 0⟩) rfl rfl trivial ⟨⟨_, rfl, .refl _⟩, trivial⟩) ?_
                refine AWp.ret ?_
                refine joinQ_ret ?_
                refine blockQ_ret ?_
                refine thenQ_ret ?_
                refine blockQ_ret ?_
                exact bodyQ_ret _ rfl ⟨rfl, rfl⟩ rfl
              ·
                replace h := ite_fb hc6 h
                refine AWp.skip ?_
                exact joinQ_normal (r21.2) (Le.mk (s := ⟨148, [(0, .own 2000), (1, .int .i64 i5), (2, .int .i64 i6), (3, .int .i64 i14), (4, .fn (.func 38) []), (10, .bool b8), (11, .bool b9), (12, .int .i64 (i6 - i5)), (13, .int .i64 i18), (80, .bool r21.1)], [(2000, bL 28 1 eW 0#16 r21.2)], [2000], 0⟩) (s' := ⟨148, [(0, .own 2000), (1, .int .i64 i5), (2, .int .i64 i6), (3, .int .i64 i14), (4, .fn (.func 38) []), (10, .bool b8), (11, .bool b9), (12, .int .i64 (i6 - i5)), (13, .int .i64 i18)], [(2000, bL 28 1 eW 0#16 r21.2)], [2000], 0⟩) rfl rfl ⟨.refl _, .refl _, .refl _, .refl _, .refl _, .refl _, .refl _, .refl _, .refl _, trivial⟩ ⟨⟨_, rfl, .refl _⟩, trivial⟩) h
            ·
              replace h := ite_fb hc5 h
              refine AWp.skip ?_
              exact joinQ_normal (l20) (Le.mk (s := ⟨148, [(0, .own 2000), (1, .int .i64 i5), (2, .int .i64 i6), (3, .int .i64 i14), (4, .fn (.func 38) []), (10, .bool b8), (11, .bool b9), (12, .int .i64 (i6 - i5)), (13, .int .i64 i18), (75, .bool ((b8 && b9) && (i19 == (1 : Int))))], [(2000, bL 28 1 eW 0#16 l20)], [2000], 0⟩) (s' := ⟨148, [(0, .own 2000), (1, .int .i64 i5), (2, .int .i64 i6), (3, .int .i64 i14), (4, .fn (.func 38) []), (10, .bool b8), (11, .bool b9), (12, .int .i64 (i6 - i5)), (13, .int .i64 i18)], [(2000, bL 28 1 eW 0#16 l20)], [2000], 0⟩) rfl rfl ⟨.refl _, .refl _, .refl _, .refl _, .refl _, .refl _, .refl _, .refl _, .refl _, trivial⟩ ⟨⟨_, rfl, .refl _⟩, trivial⟩) h
          ·
            rintro l22 h
            replace h := (congrFun hK3 _).symm.trans h
            refine AWp.seq ?_
            refine AWp.seq ?_
            obtain ⟨r23, hr23, h⟩ := optc_some h
            obtain ⟨ob8, h⟩ := chk_some h
            have ob9 : ((decide (i5 > (0 : Int))) == true) = true → ((decide (i5 > (0 : Int))) == true) = true := fun h => h
            obtain ⟨ob10, h⟩ := chk_some h
            have ob11 : ((decide (i5 > (0 : Int))) == true) = true → ((decide (i5 > (0 : Int))) == true) = true := fun h => h
            have ob12 : ((decide (i5 > (0 : Int))) == true) = true → ((decide (i5 > (0 : Int))) == true) = true := fun h => h
            obtain ⟨ob13, h⟩ := chk_some h
            have ob14 : ((decide (i5 > (0 : Int))) == true) = true → ((decide (i5 > (0 : Int))) == true) = true := fun h => h
            obtain ⟨ob15, h⟩ := chk_some h
            have ob16 : ((decide (i5 > (0 : Int))) == true) = true → ((decide (i5 > (0 : Int))) == true) = true := fun h => h
            have ob17 : ((decide (i5 > (0 : Int))) == true) = true → ((decide (i5 > (0 : Int))) == true) = true := fun h => h
            obtain ⟨ob18, h⟩ := chk_some h
            have ob19 : ((decide (i5 > (0 : Int))) == true) = true → ((decide (i5 > (0 : Int))) == true) = true := fun h => h
            have ob20 : ((decide (i5 > (0 : Int))) == true) = true → ((decide (i5 > (0 : Int))) == true) = true := fun h => h
            have ob21 : ((decide (i5 > (0 : Int))) == true) = true → ((decide (i5 > (0 : Int))) == true) = true := fun h => h
            have ob22 : ((decide (i5 > (0 : Int))) == true) = true → ((decide (i5 > (0 : Int))) == true) = true := fun h => h
            have ob23 : ((decide (i5 > (0 : Int))) == true) = true → ((decide (i5 > (0 : Int))) == true) = true := fun h => h
            have ob24 : ((decide (i5 > (0 : Int))) == true) = true → ((decide (i5 > (0 : Int))) == true) = true := fun h => h
            have ob25 : true = true → (decide (i5 > (0 : Int))) = true → ((decide (i5 > (0 : Int))) == true) = true := fun _ h => beq_iff_eq.2 h
            refine AWp.regC [] [(13, ⟨[.b16 (l22.getD (((i5 - (1 : Int))).toNat) 0#16), .b16 (l22.getD ((i18).toNat) 0#16)], [], [], [], .int .i64 r23, [], [], []⟩)] [0, 1, 2, 3, 4, 10, 11, 12, 13, 97] [2000] ⟨148, [(0, .own 2000), (1, .int .i64 i5), (2, .int .i64 i6), (3, .int .i64 i14), (4, .fn (.func 38) []), (10, .bool b8), (11, .bool b9), (12, .int .i64 (i6 - i5)), (13, .int .i64 i18), (97, .bool ((decide (i5 > (0 : Int))) && (!(decide (r23 < (0 : Int))))))], [(2000, bL 28 1 eW 0#16 l22)], [2000], 0⟩ (((((decide (i5 > (0 : Int))) == true) = true → -9223372036854775808 ≤ (i5 - (1 : Int)) ∧ (i5 - (1 : Int)) ≤ 9223372036854775807) ∧ (((decide (i5 > (0 : Int))) == true) = true → ((decide (i5 > (0 : Int))) == true) = true) ∧ True) ∧ ((((decide (i5 > (0 : Int))) == true) = true → 0 ≤ (i5 - (1 : Int)) ∧ (i5 - (1 : Int)) < (((l22).length : Nat) : Int)) ∧ (((decide (i5 > (0 : Int))) == true) = true → ((decide (i5 > (0 : Int))) == true) = true) ∧ (((decide (i5 > (0 : Int))) == true) = true → ((decide (i5 > (0 : Int))) == true) = true) ∧ True) ∧ ((((decide (i5 > (0 : Int))) == true) = true → (((i5 - (1 : Int))).toNat) < (l22).length) ∧ (((decide (i5 > (0 : Int))) == true) = true → ((decide (i5 > (0 : Int))) == true) = true) ∧ True) ∧ ((((decide (i5 > (0 : Int))) == true) = true → 0 ≤ i18 ∧ i18 < (((l22).length : Nat) : Int)) ∧ (((decide (i5 > (0 : Int))) == true) = true → ((decide (i5 > (0 : Int))) == true) = true) ∧ (((decide (i5 > (0 : Int))) == true) = true → ((decide (i5 > (0 : Int))) == true) = true) ∧ True) ∧ ((((decide (i5 > (0 : Int))) == true) = true → ((i18).toNat) < (l22).length) ∧ (((decide (i5 > (0 : Int))) == true) = true → ((decide (i5 > (0 : Int))) == true) = true) ∧ True) ∧ ((callP Tryd.prog ((decide (i5 > (0 : Int))) == true) 38 [] [] [] [] [] [.b16 (l22.getD (((i5 - (1 : Int))).toNat) 0#16), .b16 (l22.getD ((i18).toNat) 0#16)] [.b16 (l22.getD (((i5 - (1 : Int))).toNat) 0#16), .b16 (l22.getD ((i18).toNat) 0#16)] (.int .i64 r23) []) ∧ (((decide (i5 > (0 : Int))) == true) = true → ((decide (i5 > (0 : Int))) == true) = true) ∧ (((decide (i5 > (0 : Int))) == true) = true → ((decide (i5 > (0 : Int))) == true) = true) ∧ (((decide (i5 > (0 : Int))) == true) = true → ((decide (i5 > (0 : Int))) == true) = true) ∧ True) ∧ ((((decide (i5 > (0 : Int))) == true) = true → ((decide (i5 > (0 : Int))) == true) = true) ∧ True) ∧ ((((decide (i5 > (0 : Int))) == true) = true → ((decide (i5 > (0 : Int))) == true) = true) ∧ True) ∧ (true = true → (decide (i5 > (0 : Int))) = true → ((decide (i5 > (0 : Int))) == true) = true) ∧ True) Tryd_mixed (by kernel_rfl) ⟨⟨ob8, ob9, trivial⟩, ⟨ob10, ob11, ob12, trivial⟩, ⟨ob13, ob14, trivial⟩, ⟨ob15, ob16, ob17, trivial⟩, ⟨ob18, ob19, trivial⟩, ⟨⟨fun hc => (f38_ok (l22.getD (((i5 - (1 : Int))).toNat) 0#16) (l22.getD ((i18).toNat) 0#16) r23 (hr23 hc)), fun _ => ⟨.refl _, .refl _, trivial⟩, .inl rfl⟩, ob20, ob21, ob22, trivial⟩, ⟨ob23, trivial⟩, ⟨ob24, trivial⟩, ob25, trivial⟩ ?_
            refine thenQ_normal ?_
            refine AWp.cond (b := ((decide (i5 > (0 : Int))) && (!(decide (r23 < (0 : Int)))))) (by kernel_rfl) (fun hc7 => ?_) (fun hc7 => ?_)
            ·
              replace h := ite_tb hc7 h
              refine AWp.seq ?_
              obtain ⟨r24, hr24, h⟩ := bind_ok h
              refine AWp.regC [] [(5, ⟨[.own 2000, .int .i64 i5, .int .i64 i6, .int .i64 i18, .fn (.func 38) []], [2000], [2000], [(2000, bL 28 1 eW 0#16 r24.2)], .int .i64 r24.1, [], [], []⟩)] [0, 2, 3, 4, 10, 11, 15] [2000] ⟨148, [(0, .own 2000), (2, .int .i64 i6), (3, .int .i64 i14), (4, .fn (.func 38) []), (10, .bool b8), (11, .bool b9), (15, .int .i64 r24.1)], [(2000, bL 28 1 eW 0#16 r24.2)], [2000], 0⟩ ((callP Tryd.prog true 102 [] [2000] [(2000, bL 28 1 eW 0#16 l22)] [] [] [.own 2000, .int .i64 i5, .int .i64 i6, .int .i64 i18, .fn (.func 38) []] [.own 2000, .int .i64 i5, .int .i64 i6, .int .i64 i18, .fn (.func 38) []] (.int .i64 r24.1) [(2000, bL 28 1 eW 0#16 r24.2)]) ∧ True) Tryd_mixed (by kernel_rfl) ⟨⟨fun _ => (f102_ok i5 i6 i18 l22 r24 hr24), fun _ => ⟨.refl _, .refl _, .refl _, .refl _, .refl _, trivial⟩, .inl rfl⟩, trivial⟩ ?_
              refine thenQ_normal ?_
              refine AWp.seq ?_
              refine AWp.regC [] [] [0, 1, 2, 3, 4, 10, 11] [2000] ⟨148, [(0, .own 2000), (1, .int .i64 r24.1), (2, .int .i64 i6), (3, .int .i64 i14), (4, .fn (.func 38) []), (10, .bool b8), (11, .bool b9)], [(2000, bL 28 1 eW 0#16 r24.2)], [2000], 0⟩ (True) Tryd_mixed (by kernel_rfl) trivial ?_
              refine thenQ_normal ?_
              refine AWp.exit ?_
              refine thenQ_exit ?_
              refine blockQ_same ?_
              rw [hC0] at h
              exact loopQ_normal (_, r24.1, i6, i14, b8, b9, r24.2) (Le.mk (s := ⟨148, [(0, .own 2000), (1, .int .i64 r24.1), (2, .int .i64 i6), (3, .int .i64 i14), (4, .fn (.func 38) []), (10, .bool b8), (11, .bool b9)], [(2000, bL 28 1 eW 0#16 r24.2)], [2000], 0⟩) (s' := ⟨148, [(0, .own 2000), (1, .int .i64 r24.1), (2, .int .i64 i6), (3, .int .i64 i14), (4, .fn (.func 38) []), (10, .bool b8), (11, .bool b9)], [(2000, bL 28 1 eW 0#16 r24.2)], [2000], 0⟩) rfl rfl ⟨.refl _, .refl _, .refl _, .refl _, .refl _, .refl _, .refl _, trivial⟩ ⟨⟨_, rfl, .refl _⟩, trivial⟩) h (Nat.lt_succ_self _)
            ·
              replace h := ite_fb hc7 h
              refine AWp.skip ?_
              refine thenQ_normal ?_
              refine AWp.seq ?_
              obtain ⟨r25, hr25, h⟩ := bind_ok h
              refine AWp.regC [] [(5, ⟨[.own 2000, .int .i64 i5, .int .i64 i6, .int .i64 i18, .fn (.func 38) []], [2000], [2000], [(2000, bL 28 1 eW 0#16 r25.2.2)], .tup [.int .i64 r25.1, .bool r25.2.1], [], [], []⟩)] [0, 1, 2, 3, 4, 12, 16, 17] [2000] ⟨148, [(0, .own 2000), (1, .int .i64 i5), (2, .int .i64 i6), (3, .int .i64 i14), (4, .fn (.func 38) []), (12, .int .i64 (i6 - i5)), (16, .int .i64 r25.1), (17, .bool r25.2.1)], [(2000, bL 28 1 eW 0#16 r25.2.2)], [2000], 0⟩ ((callP Tryd.prog true 103 [] [2000] [(2000, bL 28 1 eW 0#16 l22)] [] [] [.own 2000, .int .i64 i5, .int .i64 i6, .int .i64 i18, .fn (.func 38) []] [.own 2000, .int .i64 i5, .int .i64 i6, .int .i64 i18, .fn (.func 38) []] (.tup [.int .i64 r25.1, .bool r25.2.1]) [(2000, bL 28 1 eW 0#16 r25.2.2)]) ∧ True) Tryd_mixed (by kernel_rfl) ⟨⟨fun _ => (f103_ok i5 i6 i18 l22 r25 hr25), fun _ => ⟨.refl _, .refl _, .refl _, .refl _, .refl _, trivial⟩, .inl rfl⟩, trivial⟩ ?_
              refine thenQ_normal ?_
              refine AWp.seq ?_
              refine AWp.regC [] [] [0, 1, 2, 3, 4, 11, 12, 16] [2000] ⟨148, [(0, .own 2000), (1, .int .i64 i5), (2, .int .i64 i6), (3, .int .i64 i14), (4, .fn (.func 38) []), (11, .bool r25.2.1), (12, .int .i64 (i6 - i5)), (16, .int .i64 r25.1)], [(2000, bL 28 1 eW 0#16 r25.2.2)], [2000], 0⟩ (True) Tryd_mixed (by kernel_rfl) trivial ?_
              refine thenQ_normal ?_
              refine AWp.seq ?_
              obtain ⟨ob26, h⟩ := chk_some h
              obtain ⟨ob27, h⟩ := chk_some h
              refine AWp.regC [] [] [0, 1, 2, 3, 4, 11, 12, 16, 18, 19] [2000] ⟨148, [(0, .own 2000), (1, .int .i64 i5), (2, .int .i64 i6), (3, .int .i64 i14), (4, .fn (.func 38) []), (11, .bool r25.2.1), (12, .int .i64 (i6 - i5)), (16, .int .i64 r25.1), (18, .int .i64 (r25.1 - i5)), (19, .int .i64 (i6 - r25.1))], [(2000, bL 28 1 eW 0#16 r25.2.2)], [2000], 0⟩ ((-9223372036854775808 ≤ (r25.1 - i5) ∧ (r25.1 - i5) ≤ 9223372036854775807) ∧ (-9223372036854775808 ≤ (i6 - r25.1) ∧ (i6 - r25.1) ≤ 9223372036854775807) ∧ True) Tryd_mixed (by kernel_rfl) ⟨ob26, ob27, trivial⟩ ?_
              refine thenQ_normal ?_
              refine AWp.seq ?_
              obtain ⟨ob28, h⟩ := chk_some h
              refine AWp.regC [] [] [0, 1, 2, 3, 4, 11, 16, 18, 19, 20] [2000] ⟨148, [(0, .own 2000), (1, .int .i64 i5), (2, .int .i64 i6), (3, .int .i64 i14), (4, .fn (.func 38) []), (11, .bool r25.2.1), (16, .int .i64 r25.1), (18, .int .i64 (r25.1 - i5)), (19, .int .i64 (i6 - r25.1)), (20, .int .i64 ((i6 - i5) / (8 : Int)))], [(2000, bL 28 1 eW 0#16 r25.2.2)], [2000], 0⟩ ((0 ≤ (i6 - i5) ∧ 1 ≤ (8 : Int) ∧ -9223372036854775808 ≤ ((i6 - i5) / (8 : Int)) ∧ ((i6 - i5) / (8 : Int)) ≤ 9223372036854775807) ∧ True) Tryd_mixed (by kernel_rfl) ⟨ob28, trivial⟩ ?_
              refine thenQ_normal ?_
              refine AWp.seq ?_
              refine AWp.regC [] [] [0, 1, 2, 3, 4, 11, 16, 18, 19, 20, 125] [2000] ⟨148, [(0, .own 2000), (1, .int .i64 i5), (2, .int .i64 i6), (3, .int .i64 i14), (4, .fn (.func 38) []), (11, .bool r25.2.1), (16, .int .i64 r25.1), (18, .int .i64 (r25.1 - i5)), (19, .int .i64 (i6 - r25.1)), (20, .int .i64 ((i6 - i5) / (8 : Int))), (125, .bool (decide ((r25.1 - i5) < (i6 - r25.1))))], [(2000, bL 28 1 eW 0#16 r25.2.2)], [2000], 0⟩ (True) Tryd_mixed (by kernel_rfl) trivial ?_
              refine thenQ_normal ?_
              refine AWp.cond (b := (decide ((r25.1 - i5) < (i6 - r25.1)))) (by kernel_rfl) (fun hc8 => ?_) (fun hc8 => ?_)
              ·
                replace h := ite_tb hc8 h
                refine AWp.seq ?_
                refine AWp.regC [] [] [0, 1, 2, 3, 4, 10, 11, 16] [2000] ⟨148, [(0, .own 2000), (1, .int .i64 i5), (2, .int .i64 i6), (3, .int .i64 i14), (4, .fn (.func 38) []), (10, .bool (decide ((r25.1 - i5) ≥ ((i6 - i5) / (8 : Int))))), (11, .bool r25.2.1), (16, .int .i64 r25.1)], [(2000, bL 28 1 eW 0#16 r25.2.2)], [2000], 0⟩ (True) Tryd_mixed (by kernel_rfl) trivial ?_
                refine thenQ_normal ?_
                refine AWp.seq ?_
                obtain ⟨r26, hr26, h⟩ := bind_ok h
                refine AWp.regC [] [(5, ⟨[.own 2000, .int .i64 i5, .int .i64 r25.1, .int .i64 i14, .fn (.func 38) []], [2000], [2000], [(2000, bL 28 1 eW 0#16 r26)], .tup [], [], [], []⟩)] [0, 2, 3, 4, 10, 11, 16] [2000] ⟨148, [(0, .own 2000), (2, .int .i64 i6), (3, .int .i64 i14), (4, .fn (.func 38) []), (10, .bool (decide ((r25.1 - i5) ≥ ((i6 - i5) / (8 : Int))))), (11, .bool r25.2.1), (16, .int .i64 r25.1)], [(2000, bL 28 1 eW 0#16 r26)], [2000], 0⟩ ((callP Tryd.prog true 91 [] [2000] [(2000, bL 28 1 eW 0#16 r25.2.2)] [] [] [.own 2000, .int .i64 i5, .int .i64 r25.1, .int .i64 i14, .fn (.func 38) []] [.own 2000, .int .i64 i5, .int .i64 r25.1, .int .i64 i14, .fn (.func 38) []] (.tup []) [(2000, bL 28 1 eW 0#16 r26)]) ∧ True) Tryd_mixed (by kernel_rfl) ⟨⟨fun _ => (ih i5 r25.1 i14 r25.2.2 r26 hr26), fun _ => ⟨.refl _, .refl _, .refl _, .refl _, .refl _, trivial⟩, .inl rfl⟩, trivial⟩ ?_
                refine thenQ_normal ?_
                obtain ⟨ob29, h⟩ := chk_some h
                refine AWp.regC [] [] [0, 1, 2, 3, 4, 10, 11] [2000] ⟨148, [(0, .own 2000), (1, .int .i64 (r25.1 + (1 : Int))), (2, .int .i64 i6), (3, .int .i64 i14), (4, .fn (.func 38) []), (10, .bool (decide ((r25.1 - i5) ≥ ((i6 - i5) / (8 : Int))))), (11, .bool r25.2.1)], [(2000, bL 28 1 eW 0#16 r26)], [2000], 0⟩ ((-9223372036854775808 ≤ (r25.1 + (1 : Int)) ∧ (r25.1 + (1 : Int)) ≤ 9223372036854775807) ∧ True) Tryd_mixed (by kernel_rfl) ⟨ob29, trivial⟩ ?_
                refine blockQ_normal ?_
                rw [hC0] at h
                exact loopQ_normal (_, (r25.1 + (1 : Int)), i6, i14, (decide ((r25.1 - i5) ≥ ((i6 - i5) / (8 : Int)))), r25.2.1, r26) (Le.mk (s := ⟨148, [(0, .own 2000), (1, .int .i64 (r25.1 + (1 : Int))), (2, .int .i64 i6), (3, .int .i64 i14), (4, .fn (.func 38) []), (10, .bool (decide ((r25.1 - i5) ≥ ((i6 - i5) / (8 : Int))))), (11, .bool r25.2.1)], [(2000, bL 28 1 eW 0#16 r26)], [2000], 0⟩) (s' := ⟨148, [(0, .own 2000), (1, .int .i64 (r25.1 + (1 : Int))), (2, .int .i64 i6), (3, .int .i64 i14), (4, .fn (.func 38) []), (10, .bool (decide ((r25.1 - i5) ≥ ((i6 - i5) / (8 : Int))))), (11, .bool r25.2.1)], [(2000, bL 28 1 eW 0#16 r26)], [2000], 0⟩) rfl rfl ⟨.refl _, .refl _, .refl _, .refl _, .refl _, .refl _, .refl _, trivial⟩ ⟨⟨_, rfl, .refl _⟩, trivial⟩) h (Nat.lt_succ_self _)
              ·
                replace h := ite_fb hc8 h
                refine AWp.seq ?_
                refine AWp.regC [] [] [0, 1, 2, 3, 4, 10, 11, 16] [2000] ⟨148, [(0, .own 2000), (1, .int .i64 i5), (2, .int .i64 i6), (3, .int .i64 i14), (4, .fn (.func 38) []), (10, .bool (decide ((i6 - r25.1) ≥ ((i6 - i5) / (8 : Int))))), (11, .bool r25.2.1), (16, .int .i64 r25.1)], [(2000, bL 28 1 eW 0#16 r25.2.2)], [2000], 0⟩ (True) Tryd_mixed (by kernel_rfl) trivial ?_
                refine thenQ_normal ?_
                refine AWp.seq ?_
                obtain ⟨r27, hr27, h⟩ := bind_ok h
                obtain ⟨ob30, h⟩ := chk_some h
                refine AWp.regC [] [(6, ⟨[.own 2000, .int .i64 (r25.1 + (1 : Int)), .int .i64 i6, .int .i64 i14, .fn (.func 38) []], [2000], [2000], [(2000, bL 28 1 eW 0#16 r27)], .tup [], [], [], []⟩)] [0, 1, 3, 4, 10, 11, 16] [2000] ⟨148, [(0, .own 2000), (1, .int .i64 i5), (3, .int .i64 i14), (4, .fn (.func 38) []), (10, .bool (decide ((i6 - r25.1) ≥ ((i6 - i5) / (8 : Int))))), (11, .bool r25.2.1), (16, .int .i64 r25.1)], [(2000, bL 28 1 eW 0#16 r27)], [2000], 0⟩ ((-9223372036854775808 ≤ (r25.1 + (1 : Int)) ∧ (r25.1 + (1 : Int)) ≤ 9223372036854775807) ∧ (callP Tryd.prog true 91 [] [2000] [(2000, bL 28 1 eW 0#16 r25.2.2)] [] [] [.own 2000, .int .i64 (r25.1 + (1 : Int)), .int .i64 i6, .int .i64 i14, .fn (.func 38) []] [.own 2000, .int .i64 (r25.1 + (1 : Int)), .int .i64 i6, .int .i64 i14, .fn (.func 38) []] (.tup []) [(2000, bL 28 1 eW 0#16 r27)]) ∧ True) Tryd_mixed (by kernel_rfl) ⟨ob30, ⟨fun _ => (ih (r25.1 + (1 : Int)) i6 i14 r25.2.2 r27 hr27), fun _ => ⟨.refl _, .refl _, .refl _, .refl _, .refl _, trivial⟩, .inl rfl⟩, trivial⟩ ?_
                refine thenQ_normal ?_
                refine AWp.regC [] [] [0, 1, 2, 3, 4, 10, 11] [2000] ⟨148, [(0, .own 2000), (1, .int .i64 i5), (2, .int .i64 r25.1), (3, .int .i64 i14), (4, .fn (.func 38) []), (10, .bool (decide ((i6 - r25.1) ≥ ((i6 - i5) / (8 : Int))))), (11, .bool r25.2.1)], [(2000, bL 28 1 eW 0#16 r27)], [2000], 0⟩ (True) Tryd_mixed (by kernel_rfl) trivial ?_
                refine blockQ_normal ?_
                rw [hC0] at h
                exact loopQ_normal (_, i5, r25.1, i14, (decide ((i6 - r25.1) ≥ ((i6 - i5) / (8 : Int)))), r25.2.1, r27) (Le.mk (s := ⟨148, [(0, .own 2000), (1, .int .i64 i5), (2, .int .i64 r25.1), (3, .int .i64 i14), (4, .fn (.func 38) []), (10, .bool (decide ((i6 - r25.1) ≥ ((i6 - i5) / (8 : Int))))), (11, .bool r25.2.1)], [(2000, bL 28 1 eW 0#16 r27)], [2000], 0⟩) (s' := ⟨148, [(0, .own 2000), (1, .int .i64 i5), (2, .int .i64 r25.1), (3, .int .i64 i14), (4, .fn (.func 38) []), (10, .bool (decide ((i6 - r25.1) ≥ ((i6 - i5) / (8 : Int))))), (11, .bool r25.2.1)], [(2000, bL 28 1 eW 0#16 r27)], [2000], 0⟩) rfl rfl ⟨.refl _, .refl _, .refl _, .refl _, .refl _, .refl _, .refl _, trivial⟩ ⟨⟨_, rfl, .refl _⟩, trivial⟩) h (Nat.lt_succ_self _)
def f84 (x1 : List (BitVec 16)) : Option (List (BitVec 16)) :=
  (f92 (((x1).length : Nat) : Int)).bind fun (r2 : Int) =>
  (f91 FUEL (0 : Int) (((x1).length : Nat) : Int) r2 x1).bind fun (r3 : List (BitVec 16)) =>
  chk ((((x1).length : Nat) : Int) ≤ 18446744073709551615) <|
  some r3
set_option maxRecDepth 100000 in
theorem f84_ok  (x1 : List (BitVec 16)) (r : List (BitVec 16)) (h : f84 x1 = some r)  : Spec1 Tryd.prog 84 [] [2000] [(2000, bL 28 1 eW 0#16 x1)] [.own 2000, .fn (.func 38) []] (.tup []) [(2000, bL 28 1 eW 0#16 r)] := by
  unfold f84 at h
  refine Spec1.body 0 _ _ Tryd.func84 rfl Tryd.ntmps84 rfl rfl ?_
  refine AWp.seq ?_
  refine AWp.regC [] [] [0, 1, 4] [2000] ⟨14, [(0, .own 2000), (1, .fn (.func 38) []), (4, .int .i64 (((x1).length : Nat) : Int))], [(2000, bL 28 1 eW 0#16 x1)], [2000], 0⟩ (True) Tryd_mixed (by kernel_rfl) trivial ?_
  refine thenQ_normal ?_
  obtain ⟨r2, hr2, h⟩ := bind_ok h
  obtain ⟨r3, hr3, h⟩ := bind_ok h
  obtain ⟨ob0p, h⟩ := chk_some h
  have ob0 : 0 ≤ (((x1).length : Nat) : Int) ∧ (((x1).length : Nat) : Int) ≤ 18446744073709551615 := ⟨by omega, ob0p⟩
  refine AWp.regC [] [(4, ⟨[.int .u64 (((x1).length : Nat) : Int)], [], [], [], .int .i64 r2, [], [], []⟩), (6, ⟨[.own 2000, .int .i64 (0 : Int), .int .i64 (((x1).length : Nat) : Int), .int .i64 r2, .fn (.func 38) []], [2000], [2000], [(2000, bL 28 1 eW 0#16 r3)], .tup [], [], [], []⟩)] [] [2000] ⟨14, [], [(2000, bL 28 1 eW 0#16 r3)], [2000], 0⟩ ((0 ≤ (((x1).length : Nat) : Int) ∧ (((x1).length : Nat) : Int) ≤ 18446744073709551615) ∧ (callP Tryd.prog true 92 [] [] [] [] [] [.int .u64 (((x1).length : Nat) : Int)] [.int .u64 (((x1).length : Nat) : Int)] (.int .i64 r2) []) ∧ (callP Tryd.prog true 91 [] [2000] [(2000, bL 28 1 eW 0#16 x1)] [] [] [.own 2000, .int .i64 (0 : Int), .int .i64 (((x1).length : Nat) : Int), .int .i64 r2, .fn (.func 38) []] [.own 2000, .int .i64 (0 : Int), .int .i64 (((x1).length : Nat) : Int), .int .i64 r2, .fn (.func 38) []] (.tup []) [(2000, bL 28 1 eW 0#16 r3)]) ∧ True) Tryd_mixed (by kernel_rfl) ⟨ob0, ⟨fun _ => (f92_ok (((x1).length : Nat) : Int) r2 hr2), fun _ => ⟨.refl _, trivial⟩, .inl rfl⟩, ⟨fun _ => (f91_ok FUEL (0 : Int) (((x1).length : Nat) : Int) r2 x1 r3 hr3), fun _ => ⟨.refl _, .refl _, .refl _, .refl _, .refl _, trivial⟩, .inl rfl⟩, trivial⟩ ?_
  have hret := Option.some.inj h
  subst hret
  exact bodyQ_le (Le.mk (s := ⟨14, [], [(2000, bL 28 1 eW 0#16 r3)], [2000], 0⟩) (s' := ⟨14, [], [(2000, bL 28 1 eW 0#16 r3)], [2000], 0⟩) rfl rfl trivial ⟨⟨_, rfl, .refl _⟩, trivial⟩) (bodyQ_normal _ rfl ⟨rfl, rfl⟩ rfl)
def f85_L1 (x1 : List (BitVec 16)) (n2 : Nat) (K2 : (Nat × List (BitVec 16)) → Option (List (BitVec 16))) : Nat → (Nat × Nat × List (BitVec 16)) → Option (List (BitVec 16))
  | 0, _ => none
  | k + 1, (n3, n4, l5) =>
    if (decide (((n4 : Nat) : Int) < ((((x1).length - n2) : Nat) : Int))) then (
    jn (fun ((n6, l7) : Nat × List (BitVec 16)) =>
    chk ((((n4 : Nat) : Int) + (1 : Int)) ≤ 9223372036854775807) <|
    (f85_L1 x1 n2 K2 k) (n6, (n4 + 1), l7)
    ) fun (K3 : (Nat × List (BitVec 16)) → Option (List (BitVec 16))) =>
    chk (((n4 : Nat) : Int) < ((((x1).length - n2) : Nat) : Int)) <|
    chk ((n2 + n4) < (l5).length) <|
    chk (-9223372036854775808 ≤ (((n4 : Nat) : Int) - (1 : Int)) ∧ (((n4 : Nat) : Int) - (1 : Int)) ≤ 9223372036854775807) <|
    chk (0 ≤ (((n4 : Nat) : Int) - (1 : Int)) ∧ (((n4 : Nat) : Int) - (1 : Int)) < ((((x1).length - n2) : Nat) : Int)) <|
    chk ((n2 + (((((n4 : Nat) : Int) - (1 : Int))).toNat)) < (l5).length) <|
    if (!((l5.getD (n2 + n4) 0#16) == (l5.getD (n2 + (((((n4 : Nat) : Int) - (1 : Int))).toNat)) 0#16))) then (
    chk (((n4 : Nat) : Int) < ((((x1).length - n2) : Nat) : Int)) <|
    chk ((n2 + n4) < (l5).length) <|
    chk (((n3 : Nat) : Int) < (((l5).length : Nat) : Int)) <|
    chk (n3 < (l5).length) <|
    chk ((((n3 : Nat) : Int) + (1 : Int)) ≤ 9223372036854775807) <|
    K3 ((n3 + 1), (l5.set n3 (l5.getD (n2 + n4) 0#16)))
    ) else (
    K3 (n3, l5)
    )
    ) else (
    K2 (n3, l5)
    )
def f85_L0 (x1 : List (BitVec 16)) (K1 : Unit → Option (List (BitVec 16))) : Nat → Nat → Option (List (BitVec 16))
  | 0, _ => none
  | k + 1, n2 =>
    if (decide (((n2 : Nat) : Int) < (((x1).length : Nat) : Int))) then (
    chk (((n2 : Nat) : Int) < (((x1).length : Nat) : Int)) <|
    chk (n2 < (x1).length) <|
    chk (-9223372036854775808 ≤ (((n2 : Nat) : Int) - (1 : Int)) ∧ (((n2 : Nat) : Int) - (1 : Int)) ≤ 9223372036854775807) <|
    chk (0 ≤ (((n2 : Nat) : Int) - (1 : Int)) ∧ (((n2 : Nat) : Int) - (1 : Int)) < (((x1).length : Nat) : Int)) <|
    chk ((((((n2 : Nat) : Int) - (1 : Int))).toNat) < (x1).length) <|
    if ((x1.getD n2 0#16) == (x1.getD (((((n2 : Nat) : Int) - (1 : Int))).toNat) 0#16)) then (
    chk (((n2 : Nat) : Int) ≤ (((x1).length : Nat) : Int)) <|
    jn (fun ((n8, l9) : Nat × List (BitVec 16)) =>
    chk (((n8 : Nat) : Int) ≤ (((l9).length : Nat) : Int)) <|
    chk (n8 + ((l9).length - n8) ≤ (l9).length ∧ 0 < ((l9).length - n8)) <|
    chk (((n8 : Nat) : Int) ≤ ((((l9.take n8 ++ List.replicate ((l9).length - n8) (BitVec.ofInt 16 0))).length : Nat) : Int)) <|
    chk (n8 ≤ (l9.take n8 ++ List.replicate ((l9).length - n8) (BitVec.ofInt 16 0)).length) <|
    some ((l9.take n8 ++ List.replicate ((l9).length - n8) (BitVec.ofInt 16 0)).take n8)
    ) fun (K2 : (Nat × List (BitVec 16)) → Option (List (BitVec 16))) =>
    f85_L1 x1 n2 K2 FUEL (n2, 1, x1)
    ) else (
    chk ((((n2 : Nat) : Int) + (1 : Int)) ≤ 9223372036854775807) <|
    (f85_L0 x1 K1 k) (n2 + 1)
    )
    ) else (
    K1 ()
    )
def f85 (x1 : List (BitVec 16)) : Option (List (BitVec 16)) :=
  if (decide ((((x1).length : Nat) : Int) < (2 : Int))) then (
  some x1
  ) else (
  jn (fun (_ : Unit) =>
  some x1
  ) fun (K1 : Unit → Option (List (BitVec 16))) =>
  f85_L0 x1 K1 FUEL 1
  )
set_option maxRecDepth 100000 in
theorem f85_ok  (x1 : List (BitVec 16)) (r : List (BitVec 16)) (h : f85 x1 = some r)  : Spec1 Tryd.prog 85 [] [] [(2000, bL 28 1 eW 0#16 x1)] [.own 2000] (.own 2000) [(2000, bL 28 1 eW 0#16 r)] := by
  unfold f85 at h
  refine Spec1.body 0 _ _ Tryd.func85 rfl Tryd.ntmps85 rfl rfl ?_
  refine AWp.seq ?_
  refine AWp.regC [] [] [0] [2000] ⟨61, [(0, .own 2000)], [(2000, bL 28 1 eW 0#16 x1)], [], 0⟩ (True) Tryd_mixed (by kernel_rfl) trivial ?_
  refine thenQ_normal ?_
  refine AWp.seq ?_
  refine AWp.seq ?_
  refine AWp.regC [] [] [0, 8] [2000] ⟨61, [(0, .own 2000), (8, .bool (decide ((((x1).length : Nat) : Int) < (2 : Int))))], [(2000, bL 28 1 eW 0#16 x1)], [], 0⟩ (True) Tryd_mixed (by kernel_rfl) trivial ?_
  refine thenQ_normal ?_
  refine AWp.cond (b := (decide ((((x1).length : Nat) : Int) < (2 : Int)))) (by kernel_rfl) (fun hc1 => ?_) (fun hc1 => ?_)
  ·
    replace h := ite_tb hc1 h
    refine AWp.seq ?_
    refine AWp.regC [] [] [2] [2000] ⟨61, [(2, .own 2000)], [(2000, bL 28 1 eW 0#16 x1)], [], 0⟩ (True) Tryd_mixed (by kernel_rfl) trivial ?_
    refine thenQ_normal ?_
    have hret := Option.some.inj h
    subst hret
    refine AWp.le (Le.mk (s := ⟨61, [(2, .own 2000)], [(2000, bL 28 1 eW 0#16 x1)], [], 0⟩) (s' := ⟨61, [(2, .own 2000)], [(2000, bL 28 1 eW 0#16 x1)], [], 0⟩) rfl rfl ⟨.refl _, trivial⟩ ⟨⟨_, rfl, .refl _⟩, trivial⟩) ?_
    refine AWp.ret ?_
    refine thenQ_ret ?_
    exact bodyQ_ret _ rfl ⟨rfl, rfl⟩ rfl
  ·
    replace h := ite_fb hc1 h
    refine AWp.skip ?_
    refine thenQ_normal ?_
    obtain ⟨K1, hK1, h⟩ := jn_some h
    refine AWp.join (α := Unit) (fun (x : Unit) => match x with | () => ⟨61, [(0, .own 2000)], [(2000, bL 28 1 eW 0#16 x1)], [], 0⟩) (fun x => K1 x = some r) ?_ ?_
    ·
      refine AWp.seq ?_
      refine AWp.regC [] [] [0, 3] [2000] ⟨61, [(0, .own 2000), (3, .int .i64 (1 : Int))], [(2000, bL 28 1 eW 0#16 x1)], [], 0⟩ (True) Tryd_mixed (by kernel_rfl) trivial ?_
      refine thenQ_normal ?_
      refine AWp.block ?_
      refine AWp.loopL (α := Nat × Nat) (fun x => match x with | (_, n2) => ⟨61, [(0, .own 2000), (3, .int .i64 ((n2 : Nat) : Int))], [(2000, bL 28 1 eW 0#16 x1)], [], 0⟩) (fun x => f85_L0 x1 K1 x.1 x.2 = some r) (fun x => x.1) (FUEL, 1) (Le.mk (s := ⟨61, [(0, .own 2000), (3, .int .i64 (1 : Int))], [(2000, bL 28 1 eW 0#16 x1)], [], 0⟩) (s' := ⟨61, [(0, .own 2000), (3, .int .i64 (1 : Int))], [(2000, bL 28 1 eW 0#16 x1)], [], 0⟩) rfl rfl ⟨.refl _, .refl _, trivial⟩ ⟨⟨_, rfl, .refl _⟩, trivial⟩) h ?_
      rintro ⟨k0, n2⟩ h
      cases k0 with
      | zero => exact nomatch (show (none : Option (List (BitVec 16))) = some r from h)
      | succ k0 =>
      obtain ⟨C0, hC0⟩ : ∃ C, C = f85_L0 x1 K1 k0 := ⟨_, rfl⟩
      replace h := (f85_L0.eq_2 ..).symm.trans h
      try rw [← hC0] at h
      refine AWp.seq ?_
      refine AWp.seq ?_
      refine AWp.regC [] [] [0, 3, 13] [2000] ⟨61, [(0, .own 2000), (3, .int .i64 ((n2 : Nat) : Int)), (13, .bool (decide (((n2 : Nat) : Int) < (((x1).length : Nat) : Int))))], [(2000, bL 28 1 eW 0#16 x1)], [], 0⟩ (True) Tryd_mixed (by kernel_rfl) trivial ?_
      refine thenQ_normal ?_
      refine AWp.cond (b := (decide (((n2 : Nat) : Int) < (((x1).length : Nat) : Int)))) (by kernel_rfl) (fun hc2 => ?_) (fun hc2 => ?_)
      ·
        replace h := ite_tb hc2 h
        refine AWp.skip ?_
        refine thenQ_normal ?_
        refine AWp.seq ?_
        refine AWp.block ?_
        refine AWp.seq ?_
        obtain ⟨ob0p, h⟩ := chk_some h
        have ob0 : 0 ≤ ((n2 : Nat) : Int) ∧ ((n2 : Nat) : Int) < (((x1).length : Nat) : Int) := ⟨by omega, ob0p⟩
        obtain ⟨ob1, h⟩ := chk_some h
        obtain ⟨ob2, h⟩ := chk_some h
        obtain ⟨ob3, h⟩ := chk_some h
        obtain ⟨ob4, h⟩ := chk_some h
        refine AWp.regC [] [] [0, 3, 25] [2000] ⟨61, [(0, .own 2000), (3, .int .i64 ((n2 : Nat) : Int)), (25, .bool ((x1.getD n2 0#16) == (x1.getD (((((n2 : Nat) : Int) - (1 : Int))).toNat) 0#16)))], [(2000, bL 28 1 eW 0#16 x1)], [], 0⟩ ((0 ≤ ((n2 : Nat) : Int) ∧ ((n2 : Nat) : Int) < (((x1).length : Nat) : Int)) ∧ (n2 < (x1).length) ∧ (-9223372036854775808 ≤ (((n2 : Nat) : Int) - (1 : Int)) ∧ (((n2 : Nat) : Int) - (1 : Int)) ≤ 9223372036854775807) ∧ (0 ≤ (((n2 : Nat) : Int) - (1 : Int)) ∧ (((n2 : Nat) : Int) - (1 : Int)) < (((x1).length : Nat) : Int)) ∧ ((((((n2 : Nat) : Int) - (1 : Int))).toNat) < (x1).length) ∧ True) Tryd_mixed (by kernel_rfl) ⟨ob0, ob1, ob2, ob3, ob4, trivial⟩ ?_
        refine thenQ_normal ?_
        refine AWp.cond (b := ((x1.getD n2 0#16) == (x1.getD (((((n2 : Nat) : Int) - (1 : Int))).toNat) 0#16))) (by kernel_rfl) (fun hc3 => ?_) (fun hc3 => ?_)
        ·
          replace h := ite_tb hc3 h
          refine AWp.seq ?_
          obtain ⟨ob5p, h⟩ := chk_some h
          have ob5 : 0 ≤ ((n2 : Nat) : Int) ∧ ((n2 : Nat) : Int) ≤ (((x1).length : Nat) : Int) := ⟨by omega, ob5p⟩
          refine AWp.regC [] [] [0, 3, 4] [2000] ⟨61, [(0, .own 2000), (3, .int .i64 ((n2 : Nat) : Int)), (4, .osl 2000 1 n2 ((x1).length - n2))], [(2000, bL 28 1 eW 0#16 x1)], [], 0⟩ ((0 ≤ ((n2 : Nat) : Int) ∧ ((n2 : Nat) : Int) ≤ (((x1).length : Nat) : Int)) ∧ True) Tryd_mixed (by kernel_rfl) ⟨ob5, trivial⟩ ?_
          refine thenQ_normal ?_
          obtain ⟨K2, hK2, h⟩ := jn_some h
          refine AWp.join (α := Nat × List (BitVec 16)) (fun (x : Nat × List (BitVec 16)) => match x with | (n8, l9) => ⟨61, [(0, .own 2000), (3, .int .i64 ((n8 : Nat) : Int))], [(2000, bL 28 1 eW 0#16 l9)], [], 0⟩) (fun x => K2 x = some r) ?_ ?_
          ·
            refine AWp.seq ?_
            refine AWp.regC [] [] [0, 3, 4, 5] [2000] ⟨61, [(0, .own 2000), (3, .int .i64 ((n2 : Nat) : Int)), (4, .osl 2000 1 n2 ((x1).length - n2)), (5, .int .i64 (1 : Int))], [(2000, bL 28 1 eW 0#16 x1)], [], 0⟩ (True) Tryd_mixed (by kernel_rfl) trivial ?_
            refine thenQ_normal ?_
            refine AWp.block ?_
            refine AWp.loopL (α := Nat × (Nat × Nat × List (BitVec 16))) (fun x => match x with | (_, n3, n4, l5) => ⟨61, [(0, .own 2000), (3, .int .i64 ((n3 : Nat) : Int)), (4, .osl 2000 1 n2 ((x1).length - n2)), (5, .int .i64 ((n4 : Nat) : Int))], [(2000, bL 28 1 eW 0#16 l5)], [], 0⟩) (fun x => f85_L1 x1 n2 K2 x.1 x.2 = some r) (fun x => x.1) (FUEL, n2, 1, x1) (Le.mk (s := ⟨61, [(0, .own 2000), (3, .int .i64 ((n2 : Nat) : Int)), (4, .osl 2000 1 n2 ((x1).length - n2)), (5, .int .i64 (1 : Int))], [(2000, bL 28 1 eW 0#16 x1)], [], 0⟩) (s' := ⟨61, [(0, .own 2000), (3, .int .i64 ((n2 : Nat) : Int)), (4, .osl 2000 1 n2 ((x1).length - n2)), (5, .int .i64 (1 : Int))], [(2000, bL 28 1 eW 0#16 x1)], [], 0⟩) rfl rfl ⟨.refl _, .refl _, .refl _, .refl _, trivial⟩ ⟨⟨_, rfl, .refl _⟩, trivial⟩) h ?_
            rintro ⟨k1, n3, n4, l5⟩ h
            cases k1 with
            | zero => exact nomatch (show (none : Option (List (BitVec 16))) = some r from h)
            | succ k1 =>
            obtain ⟨C1, hC1⟩ : ∃ C, C = f85_L1 x1 n2 K2 k1 := ⟨_, rfl⟩
            replace h := (f85_L1.eq_2 ..).symm.trans h
            try rw [← hC1] at h
            refine AWp.seq ?_
            refine AWp.seq ?_
            refine AWp.regC [] [] [0, 3, 4, 5, 32] [2000] ⟨61, [(0, .own 2000), (3, .int .i64 ((n3 : Nat) : Int)), (4, .osl 2000 1 n2 ((x1).length - n2)), (5, .int .i64 ((n4 : Nat) : Int)), (32, .bool (decide (((n4 : Nat) : Int) < ((((x1).length - n2) : Nat) : Int))))], [(2000, bL 28 1 eW 0#16 l5)], [], 0⟩ (True) Tryd_mixed (by kernel_rfl) trivial ?_
            refine thenQ_normal ?_
            refine AWp.cond (b := (decide (((n4 : Nat) : Int) < ((((x1).length - n2) : Nat) : Int)))) (by kernel_rfl) (fun hc4 => ?_) (fun hc4 => ?_)
            ·
              replace h := ite_tb hc4 h
              refine AWp.skip ?_
              refine thenQ_normal ?_
              obtain ⟨K3, hK3, h⟩ := jn_some h
              refine AWp.join (α := Nat × List (BitVec 16)) (fun (x : Nat × List (BitVec 16)) => match x with | (n6, l7) => ⟨61, [(0, .own 2000), (3, .int .i64 ((n6 : Nat) : Int)), (4, .osl 2000 1 n2 ((x1).length - n2)), (5, .int .i64 ((n4 : Nat) : Int))], [(2000, bL 28 1 eW 0#16 l7)], [], 0⟩) (fun x => K3 x = some r) ?_ ?_
              ·
                refine AWp.block ?_
                refine AWp.seq ?_
                obtain ⟨ob6p, h⟩ := chk_some h
                have ob6 : 0 ≤ ((n4 : Nat) : Int) ∧ ((n4 : Nat) : Int) < ((((x1).length - n2) : Nat) : Int) := ⟨by omega, ob6p⟩
                obtain ⟨ob7, h⟩ := chk_some h
                obtain ⟨ob8, h⟩ := chk_some h
                obtain ⟨ob9, h⟩ := chk_some h
                obtain ⟨ob10, h⟩ := chk_some h
                refine AWp.regC [] [] [0, 3, 4, 5, 44] [2000] ⟨61, [(0, .own 2000), (3, .int .i64 ((n3 : Nat) : Int)), (4, .osl 2000 1 n2 ((x1).length - n2)), (5, .int .i64 ((n4 : Nat) : Int)), (44, .bool (!((l5.getD (n2 + n4) 0#16) == (l5.getD (n2 + (((((n4 : Nat) : Int) - (1 : Int))).toNat)) 0#16))))], [(2000, bL 28 1 eW 0#16 l5)], [], 0⟩ ((0 ≤ ((n4 : Nat) : Int) ∧ ((n4 : Nat) : Int) < ((((x1).length - n2) : Nat) : Int)) ∧ ((n2 + n4) < (l5).length) ∧ (-9223372036854775808 ≤ (((n4 : Nat) : Int) - (1 : Int)) ∧ (((n4 : Nat) : Int) - (1 : Int)) ≤ 9223372036854775807) ∧ (0 ≤ (((n4 : Nat) : Int) - (1 : Int)) ∧ (((n4 : Nat) : Int) - (1 : Int)) < ((((x1).length - n2) : Nat) : Int)) ∧ ((n2 + (((((n4 : Nat) : Int) - (1 : Int))).toNat)) < (l5).length) ∧ True) Tryd_mixed (by kernel_rfl) ⟨ob6, ob7, ob8, ob9, ob10, trivial⟩ ?_
                refine thenQ_normal ?_
                refine AWp.cond (b := (!((l5.getD (n2 + n4) 0#16) == (l5.getD (n2 + (((((n4 : Nat) : Int) - (1 : Int))).toNat)) 0#16)))) (by kernel_rfl) (fun hc5 => ?_) (fun hc5 => ?_)
                ·
                  replace h := ite_tb hc5 h
                  refine AWp.seq ?_
                  obtain ⟨ob11p, h⟩ := chk_some h
                  have ob11 : 0 ≤ ((n4 : Nat) : Int) ∧ ((n4 : Nat) : Int) < ((((x1).length - n2) : Nat) : Int) := ⟨by omega, ob11p⟩
                  obtain ⟨ob12, h⟩ := chk_some h
                  obtain ⟨ob13p, h⟩ := chk_some h
                  have ob13 : 0 ≤ ((n3 : Nat) : Int) ∧ ((n3 : Nat) : Int) < (((l5).length : Nat) : Int) := ⟨by omega, ob13p⟩
                  obtain ⟨ob14, h⟩ := chk_some h
                  refine AWp.regC [] [] [0, 3, 4, 5] [2000] ⟨61, [(0, .own 2000), (3, .int .i64 ((n3 : Nat) : Int)), (4, .osl 2000 1 n2 ((x1).length - n2)), (5, .int .i64 ((n4 : Nat) : Int))], [(2000, .rows 28 1 (l5).length (updF (encF eW 0#16 l5) n3 0 [.b16 (l5.getD (n2 + n4) 0#16)]))], [], 0⟩ ((0 ≤ ((n4 : Nat) : Int) ∧ ((n4 : Nat) : Int) < ((((x1).length - n2) : Nat) : Int)) ∧ ((n2 + n4) < (l5).length) ∧ (0 ≤ ((n3 : Nat) : Int) ∧ ((n3 : Nat) : Int) < (((l5).length : Nat) : Int)) ∧ (n3 < (l5).length) ∧ True) Tryd_mixed (by kernel_rfl) ⟨ob11, ob12, ob13, ob14, trivial⟩ ?_
                  refine thenQ_normal ?_
                  refine AWp.le (Le.mk (s := ⟨61, [(0, .own 2000), (3, .int .i64 ((n3 : Nat) : Int)), (4, .osl 2000 1 n2 ((x1).length - n2)), (5, .int .i64 ((n4 : Nat) : Int))], [(2000, .rows 28 1 (l5).length (updF (encF eW 0#16 l5) n3 0 [.b16 (l5.getD (n2 + n4) 0#16)]))], [], 0⟩) (s' := ⟨61, [(0, .own 2000), (3, .int .i64 ((n3 : Nat) : Int)), (4, .osl 2000 1 n2 ((x1).length - n2)), (5, .int .i64 ((n4 : Nat) : Int))], [(2000, bL 28 1 eW 0#16 (l5.set n3 (l5.getD (n2 + n4) 0#16)))], [], 0⟩) rfl rfl ⟨.refl _, .refl _, .refl _, .refl _, trivial⟩ ⟨⟨_, rfl, (BLe.of (RL.set (l5.getD (n2 + n4) 0#16) (RL.self _) (by intro j hj; match j, hj with | 0, _ => rfl)))⟩, trivial⟩) ?_
                  obtain ⟨ob15p, h⟩ := chk_some h
                  have ob15 : -9223372036854775808 ≤ (((n3 : Nat) : Int) + (1 : Int)) ∧ (((n3 : Nat) : Int) + (1 : Int)) ≤ 9223372036854775807 := ⟨by omega, ob15p⟩
                  refine AWp.regC [] [] [0, 3, 4, 5] [2000] ⟨61, [(0, .own 2000), (3, .int .i64 (((n3 + 1) : Nat) : Int)), (4, .osl 2000 1 n2 ((x1).length - n2)), (5, .int .i64 ((n4 : Nat) : Int))], [(2000, bL 28 1 eW 0#16 (l5.set n3 (l5.getD (n2 + n4) 0#16)))], [], 0⟩ ((-9223372036854775808 ≤ (((n3 : Nat) : Int) + (1 : Int)) ∧ (((n3 : Nat) : Int) + (1 : Int)) ≤ 9223372036854775807) ∧ True) Tryd_mixed (by kernel_rfl) ⟨ob15, trivial⟩ ?_
                  refine blockQ_normal ?_
                  exact joinQ_normal ((n3 + 1), (l5.set n3 (l5.getD (n2 + n4) 0#16))) (Le.mk (s := ⟨61, [(0, .own 2000), (3, .int .i64 (((n3 + 1) : Nat) : Int)), (4, .osl 2000 1 n2 ((x1).length - n2)), (5, .int .i64 ((n4 : Nat) : Int))], [(2000, bL 28 1 eW 0#16 (l5.set n3 (l5.getD (n2 + n4) 0#16)))], [], 0⟩) (s' := ⟨61, [(0, .own 2000), (3, .int .i64 (((n3 + 1) : Nat) : Int)), (4, .osl 2000 1 n2 ((x1).length - n2)), (5, .int .i64 ((n4 : Nat) : Int))], [(2000, bL 28 1 eW 0#16 (l5.set n3 (l5.getD (n2 + n4) 0#16)))], [], 0⟩) rfl rfl ⟨.refl _, .refl _, .refl _, .refl _, trivial⟩ ⟨⟨_, rfl, .refl _⟩, trivial⟩) h
                ·
                  replace h := ite_fb hc5 h
                  refine AWp.skip ?_
                  refine blockQ_normal ?_
                  exact joinQ_normal (n3, l5) (Le.mk (s := ⟨61, [(0, .own 2000), (3, .int .i64 ((n3 : Nat) : Int)), (4, .osl 2000 1 n2 ((x1).length - n2)), (5, .int .i64 ((n4 : Nat) : Int)), (44, .bool (!((l5.getD (n2 + n4) 0#16) == (l5.getD (n2 + (((((n4 : Nat) : Int) - (1 : Int))).toNat)) 0#16))))], [(2000, bL 28 1 eW 0#16 l5)], [], 0⟩) (s' := ⟨61, [(0, .own 2000), (3, .int .i64 ((n3 : Nat) : Int)), (4, .osl 2000 1 n2 ((x1).length - n2)), (5, .int .i64 ((n4 : Nat) : Int))], [(2000, bL 28 1 eW 0#16 l5)], [], 0⟩) rfl rfl ⟨.refl _, .refl _, .refl _, .refl _, trivial⟩ ⟨⟨_, rfl, .refl _⟩, trivial⟩) h
              ·
                rintro ⟨n6, l7⟩ h
                replace h := (congrFun hK3 _).symm.trans h
                obtain ⟨ob16p, h⟩ := chk_some h
                have ob16 : -9223372036854775808 ≤ (((n4 : Nat) : Int) + (1 : Int)) ∧ (((n4 : Nat) : Int) + (1 : Int)) ≤ 9223372036854775807 := ⟨by omega, ob16p⟩
                refine AWp.regC [] [] [0, 3, 4, 5] [2000] ⟨61, [(0, .own 2000), (3, .int .i64 ((n6 : Nat) : Int)), (4, .osl 2000 1 n2 ((x1).length - n2)), (5, .int .i64 (((n4 + 1) : Nat) : Int))], [(2000, bL 28 1 eW 0#16 l7)], [], 0⟩ ((-9223372036854775808 ≤ (((n4 : Nat) : Int) + (1 : Int)) ∧ (((n4 : Nat) : Int) + (1 : Int)) ≤ 9223372036854775807) ∧ True) Tryd_mixed (by kernel_rfl) ⟨ob16, trivial⟩ ?_
                rw [hC1] at h
                exact loopQ_normal (_, n6, (n4 + 1), l7) (Le.mk (s := ⟨61, [(0, .own 2000), (3, .int .i64 ((n6 : Nat) : Int)), (4, .osl 2000 1 n2 ((x1).length - n2)), (5, .int .i64 (((n4 + 1) : Nat) : Int))], [(2000, bL 28 1 eW 0#16 l7)], [], 0⟩) (s' := ⟨61, [(0, .own 2000), (3, .int .i64 ((n6 : Nat) : Int)), (4, .osl 2000 1 n2 ((x1).length - n2)), (5, .int .i64 (((n4 + 1) : Nat) : Int))], [(2000, bL 28 1 eW 0#16 l7)], [], 0⟩) rfl rfl ⟨.refl _, .refl _, .refl _, .refl _, trivial⟩ ⟨⟨_, rfl, .refl _⟩, trivial⟩) h (Nat.lt_succ_self _)
            ·
              replace h := ite_fb hc4 h
              refine AWp.exit ?_
              refine thenQ_exit ?_
              refine thenQ_exit ?_
              refine blockQ_same ?_
              exact joinQ_normal (n3, l5) (Le.mk (s := ⟨61, [(0, .own 2000), (3, .int .i64 ((n3 : Nat) : Int)), (4, .osl 2000 1 n2 ((x1).length - n2)), (5, .int .i64 ((n4 : Nat) : Int)), (32, .bool (decide (((n4 : Nat) : Int) < ((((x1).length - n2) : Nat) : Int))))], [(2000, bL 28 1 eW 0#16 l5)], [], 0⟩) (s' := ⟨61, [(0, .own 2000), (3, .int .i64 ((n3 : Nat) : Int))], [(2000, bL 28 1 eW 0#16 l5)], [], 0⟩) rfl rfl ⟨.refl _, .refl _, trivial⟩ ⟨⟨_, rfl, .refl _⟩, trivial⟩) h
          ·
            rintro ⟨n8, l9⟩ h
            replace h := (congrFun hK2 _).symm.trans h
            refine AWp.seq ?_
            obtain ⟨ob17p, h⟩ := chk_some h
            have ob17 : 0 ≤ ((n8 : Nat) : Int) ∧ ((n8 : Nat) : Int) ≤ (((l9).length : Nat) : Int) := ⟨by omega, ob17p⟩
            obtain ⟨ob18, h⟩ := chk_some h
            refine AWp.regC [] [] [0, 3] [2000] ⟨61, [(0, .own 2000), (3, .int .i64 ((n8 : Nat) : Int))], [(2000, .rows 28 1 (l9).length (clrF (encF eW 0#16 l9) n8 ((l9).length - n8) [.b16 (BitVec.ofInt 16 0)]))], [], 0⟩ ((0 ≤ ((n8 : Nat) : Int) ∧ ((n8 : Nat) : Int) ≤ (((l9).length : Nat) : Int)) ∧ (n8 + ((l9).length - n8) ≤ (l9).length ∧ 0 < ((l9).length - n8)) ∧ True) Tryd_mixed (by kernel_rfl) ⟨ob17, ob18, trivial⟩ ?_
            refine thenQ_normal ?_
            refine AWp.le (Le.mk (s := ⟨61, [(0, .own 2000), (3, .int .i64 ((n8 : Nat) : Int))], [(2000, .rows 28 1 (l9).length (clrF (encF eW 0#16 l9) n8 ((l9).length - n8) [.b16 (BitVec.ofInt 16 0)]))], [], 0⟩) (s' := ⟨61, [(0, .own 2000), (3, .int .i64 ((n8 : Nat) : Int))], [(2000, bL 28 1 eW 0#16 (l9.take n8 ++ List.replicate ((l9).length - n8) (BitVec.ofInt 16 0)))], [], 0⟩) rfl rfl ⟨.refl _, .refl _, trivial⟩ ⟨⟨_, rfl, (BLe.of (RL.clr (BitVec.ofInt 16 0) (RL.self _) (by first | omega | (simp only [List.length_append, List.length_cons, List.length_nil, List.length_take, List.length_drop] at *; omega) | (simp; done) | (simp_all; done) | (simp_all; omega) | rfl) rfl))⟩, trivial⟩) ?_
            refine AWp.seq ?_
            obtain ⟨ob19p, h⟩ := chk_some h
            have ob19 : 0 ≤ ((n8 : Nat) : Int) ∧ ((n8 : Nat) : Int) ≤ ((((l9.take n8 ++ List.replicate ((l9).length - n8) (BitVec.ofInt 16 0))).length : Nat) : Int) := ⟨by omega, ob19p⟩
            refine AWp.regC [] [] [2] [2000] ⟨61, [(2, .osl 2000 1 0 n8)], [(2000, bL 28 1 eW 0#16 (l9.take n8 ++ List.replicate ((l9).length - n8) (BitVec.ofInt 16 0)))], [], 0⟩ ((0 ≤ ((n8 : Nat) : Int) ∧ ((n8 : Nat) : Int) ≤ ((((l9.take n8 ++ List.replicate ((l9).length - n8) (BitVec.ofInt 16 0))).length : Nat) : Int)) ∧ True) Tryd_mixed (by kernel_rfl) ⟨ob19, trivial⟩ ?_
            refine thenQ_normal ?_
            obtain ⟨hk6, h⟩ := chk_some h
            refine AWp.le (Le.trans (Le.cutOwn (s := ⟨61, [(2, .osl 2000 1 0 n8)], [(2000, bL 28 1 eW 0#16 (l9.take n8 ++ List.replicate ((l9).length - n8) (BitVec.ofInt 16 0)))], [], 0⟩) 2 2000 n8 hk6 rfl rfl rfl) (Le.mk (s' := ⟨61, [(2, .own 2000)], [(2000, bL 28 1 eW 0#16 ((l9.take n8 ++ List.replicate ((l9).length - n8) (BitVec.ofInt 16 0)).take n8))], [], 0⟩) rfl rfl ⟨.refl _, trivial⟩ ⟨⟨_, rfl, (BLe.of (RL.take (RL.self _) hk6))⟩, trivial⟩)) ?_
            have hret := Option.some.inj h
            subst hret
            refine AWp.le (Le.mk (s := ⟨61, [(2, .own 2000)], [(2000, bL 28 1 eW 0#16 ((l9.take n8 ++ List.replicate ((l9).length - n8) (BitVec.ofInt 16 0)).take n8))], [], 0⟩) (s' := ⟨61, [(2, .own 2000)], [(2000, bL 28 1 eW 0#16 ((l9.take n8 ++ List.replicate ((l9).length - n8) (BitVec.ofInt 16 0)).take n8))], [], 0⟩) rfl rfl ⟨.refl _, trivial⟩ ⟨⟨_, rfl, .refl _⟩, trivial⟩) ?_
            refine AWp.ret ?_
            refine blockQ_ret ?_
            refine thenQ_ret ?_
            refine thenQ_ret ?_
            refine blockQ_ret ?_
            refine joinQ_ret ?_
            exact bodyQ_ret _ rfl ⟨rfl, rfl⟩ rfl
        ·
          replace h := ite_fb hc3 h
          refine AWp.skip ?_
          refine blockQ_normal ?_
          refine thenQ_normal ?_
          obtain ⟨ob20p, h⟩ := chk_some h
          have ob20 : -9223372036854775808 ≤ (((n2 : Nat) : Int) + (1 : Int)) ∧ (((n2 : Nat) : Int) + (1 : Int)) ≤ 9223372036854775807 := ⟨by omega, ob20p⟩
          refine AWp.regC [] [] [0, 3] [2000] ⟨61, [(0, .own 2000), (3, .int .i64 (((n2 + 1) : Nat) : Int))], [(2000, bL 28 1 eW 0#16 x1)], [], 0⟩ ((-9223372036854775808 ≤ (((n2 : Nat) : Int) + (1 : Int)) ∧ (((n2 : Nat) : Int) + (1 : Int)) ≤ 9223372036854775807) ∧ True) Tryd_mixed (by kernel_rfl) ⟨ob20, trivial⟩ ?_
          rw [hC0] at h
          exact loopQ_normal (_, (n2 + 1)) (Le.mk (s := ⟨61, [(0, .own 2000), (3, .int .i64 (((n2 + 1) : Nat) : Int))], [(2000, bL 28 1 eW 0#16 x1)], [], 0⟩) (s' := ⟨61, [(0, .own 2000), (3, .int .i64 (((n2 + 1) : Nat) : Int))], [(2000, bL 28 1 eW 0#16 x1)], [], 0⟩) rfl rfl ⟨.refl _, .refl _, trivial⟩ ⟨⟨_, rfl, .refl _⟩, trivial⟩) h (Nat.lt_succ_self _)
      ·
        replace h := ite_fb hc2 h
        refine AWp.exit ?_
        refine thenQ_exit ?_
        refine thenQ_exit ?_
        refine blockQ_same ?_
        exact joinQ_normal () (Le.mk (s := ⟨61, [(0, .own 2000), (3, .int .i64 ((n2 : Nat) : Int)), (13, .bool (decide (((n2 : Nat) : Int) < (((x1).length : Nat) : Int))))], [(2000, bL 28 1 eW 0#16 x1)], [], 0⟩) (s' := ⟨61, [(0, .own 2000)], [(2000, bL 28 1 eW 0#16 x1)], [], 0⟩) rfl rfl ⟨.refl _, trivial⟩ ⟨⟨_, rfl, .refl _⟩, trivial⟩) h
    ·
      rintro ⟨⟩ h
      replace h := (congrFun hK1 _).symm.trans h
      refine AWp.seq ?_
      refine AWp.regC [] [] [2] [2000] ⟨61, [(2, .own 2000)], [(2000, bL 28 1 eW 0#16 x1)], [], 0⟩ (True) Tryd_mixed (by kernel_rfl) trivial ?_
      refine thenQ_normal ?_
      have hret := Option.some.inj h
      subst hret
      refine AWp.le (Le.mk (s := ⟨61, [(2, .own 2000)], [(2000, bL 28 1 eW 0#16 x1)], [], 0⟩) (s' := ⟨61, [(2, .own 2000)], [(2000, bL 28 1 eW 0#16 x1)], [], 0⟩) rfl rfl ⟨.refl _, trivial⟩ ⟨⟨_, rfl, .refl _⟩, trivial⟩) ?_
      refine AWp.ret ?_
      exact bodyQ_ret _ rfl ⟨rfl, rfl⟩ rfl
def f67 (x1 : List (BitVec 16)) : Option (List (BitVec 16)) :=
  (f12 x1).bind fun (r2 : List (BitVec 16)) =>
  (f84 r2).bind fun (r3 : List (BitVec 16)) =>
  (f85 r3).bind fun (r4 : List (BitVec 16)) =>
  some r4
set_option maxRecDepth 100000 in
theorem f67_ok  (x1 : List (BitVec 16)) (r : List (BitVec 16)) (h : f67 x1 = some r)  : Spec1 Tryd.prog 67 [] [] [] [vL 1 eW 0#16 x1] (.own 3000) [(3000, bL 28 1 eW 0#16 r)] := by
  unfold f67 at h
  refine Spec1.body 0 _ _ Tryd.func67 rfl Tryd.ntmps67 rfl rfl ?_
  refine AWp.seq ?_
  refine AWp.regC [] [] [0] [] ⟨10, [(0, vL 1 eW 0#16 x1)], [], [], 0⟩ (True) Tryd_mixed (by kernel_rfl) trivial ?_
  refine thenQ_normal ?_
  refine AWp.seq ?_
  obtain ⟨r2, hr2, h⟩ := bind_ok h
  refine AWp.regC [] [(1, ⟨[vL 1 eW 0#16 x1], [], [], [(6001, bL 28 1 eW 0#16 r2)], .own 6001, [6001], [], []⟩)] [3] [6001] ⟨10, [(3, .own 6001)], [(6001, bL 28 1 eW 0#16 r2)], [], 0⟩ ((callP Tryd.prog true 12 [] [] [] [] [] [vL 1 eW 0#16 x1] [vL 1 eW 0#16 x1] (.own 6001) [(6001, bL 28 1 eW 0#16 r2)]) ∧ True) Tryd_mixed (by kernel_rfl) ⟨⟨fun _ => (Spec1.ren (swapN 3000 6001) (swapN_inv 3000 6001) rfl (f12_ok x1 r2 hr2)), fun _ => ⟨.refl _, trivial⟩, .inl rfl⟩, trivial⟩ ?_
  refine thenQ_normal ?_
  refine AWp.seq ?_
  obtain ⟨r3, hr3, h⟩ := bind_ok h
  refine AWp.regC [] [(1, ⟨[.own 6001, .fn (.func 38) []], [6001], [6001], [(6001, bL 28 1 eW 0#16 r3)], .tup [], [], [], []⟩)] [3] [6001] ⟨10, [(3, .own 6001)], [(6001, bL 28 1 eW 0#16 r3)], [], 0⟩ ((callP Tryd.prog true 84 [] [6001] [(6001, bL 28 1 eW 0#16 r2)] [] [] [.own 6001, .fn (.func 38) []] [.own 6001, .fn (.func 38) []] (.tup []) [(6001, bL 28 1 eW 0#16 r3)]) ∧ True) Tryd_mixed (by kernel_rfl) ⟨⟨fun _ => (Spec1.ren (swapN 2000 6001) (swapN_inv 2000 6001) rfl (f84_ok r2 r3 hr3)), fun _ => ⟨.refl _, .refl _, trivial⟩, .inl rfl⟩, trivial⟩ ?_
  refine thenQ_normal ?_
  refine AWp.seq ?_
  obtain ⟨r4, hr4, h⟩ := bind_ok h
  refine AWp.regC [] [(1, ⟨[.own 6001], [6001], [], [(6001, bL 28 1 eW 0#16 r4)], .own 6001, [6001], [], []⟩)] [2] [6001] ⟨10, [(2, .own 6001)], [(6001, bL 28 1 eW 0#16 r4)], [], 0⟩ ((callP Tryd.prog true 85 [] [] [(6001, bL 28 1 eW 0#16 r3)] [] [] [.own 6001] [.own 6001] (.own 6001) [(6001, bL 28 1 eW 0#16 r4)]) ∧ True) Tryd_mixed (by kernel_rfl) ⟨⟨fun _ => (Spec1.ren (swapN 2000 6001) (swapN_inv 2000 6001) rfl (f85_ok r3 r4 hr4)), fun _ => ⟨.refl _, trivial⟩, .inl rfl⟩, trivial⟩ ?_
  refine thenQ_normal ?_
  refine AWp.le (Le.trans (Le.ren (s := ⟨10, [(2, .own 6001)], [(6001, bL 28 1 eW 0#16 r4)], [], 0⟩) (swapN 6001 3000) (swapN_inv 6001 3000) rfl) (Le.mk (s' := ⟨10, [(2, .own 3000)], [(3000, bL 28 1 eW 0#16 r4)], [], 0⟩) rfl rfl ⟨.refl _, trivial⟩ ⟨⟨_, rfl, .refl _⟩, trivial⟩)) ?_
  have hret := Option.some.inj h
  subst hret
  refine AWp.le (Le.mk (s := ⟨10, [(2, .own 3000)], [(3000, bL 28 1 eW 0#16 r4)], [], 0⟩) (s' := ⟨10, [(2, .own 3000)], [(3000, bL 28 1 eW 0#16 r4)], [], 0⟩) rfl rfl ⟨.refl _, trivial⟩ ⟨⟨_, rfl, .refl _⟩, trivial⟩) ?_
  refine AWp.ret ?_
  exact bodyQ_ret _ rfl ⟨rfl, rfl⟩ rfl
def f43_L0 (K1 : (List (BitVec 16)) → Option (List (BitVec 16))) (r2 : List (BitVec 16)) : Nat → (Nat × List (BitVec 16)) → Option (List (BitVec 16))
  | 0, _ => none
  | k + 1, (n3, l4) =>
    if (decide (((n3 : Nat) : Int) < (((r2).length : Nat) : Int))) then (
    jn (fun (l6 : List (BitVec 16)) =>
    chk ((((n3 : Nat) : Int) + (1 : Int)) ≤ 9223372036854775807) <|
    (f43_L0 K1 r2 k) ((n3 + 1), l6)
    ) fun (K2 : (List (BitVec 16)) → Option (List (BitVec 16))) =>
    chk (((n3 : Nat) : Int) < (((r2).length : Nat) : Int)) <|
    chk (n3 < (r2).length) <|
    (f27 l4 (r2.getD n3 0#16)).bind fun (r5 : Bool) =>
    if (!r5) then (
    chk (((l4).length + 1) * 2 ≤ 140737488355328) <|
    K2 (l4 ++ [(r2.getD n3 0#16)])
    ) else (
    K2 l4
    )
    ) else (
    K1 l4
    )
def f43 (x1 : List (BitVec 16)) : Option (List (BitVec 16)) :=
  jn (fun (l7 : List (BitVec 16)) =>
  some l7
  ) fun (K1 : (List (BitVec 16)) → Option (List (BitVec 16))) =>
  (f67 x1).bind fun (r2 : List (BitVec 16)) =>
  f43_L0 K1 r2 FUEL (0, [])
set_option maxRecDepth 100000 in
theorem f43_ok  (x1 : List (BitVec 16)) (r : List (BitVec 16)) (h : f43 x1 = some r)  : Spec1 Tryd.prog 43 [] [] [] [vL 1 eW 0#16 x1] (.own 3000) [(3000, bL 28 1 eW 0#16 r)] := by
  unfold f43 at h
  refine Spec1.body 0 _ _ Tryd.func43 rfl Tryd.ntmps43 rfl rfl ?_
  refine AWp.seq ?_
  refine AWp.regC [] [] [0] [] ⟨23, [(0, vL 1 eW 0#16 x1)], [], [], 0⟩ (True) Tryd_mixed (by kernel_rfl) trivial ?_
  refine thenQ_normal ?_
  refine AWp.seq ?_
  refine AWp.regC [] [] [0, 3] [] ⟨23, [(0, vL 1 eW 0#16 x1), (3, .nils)], [], [], 0⟩ (True) Tryd_mixed (by kernel_rfl) trivial ?_
  refine thenQ_normal ?_
  obtain ⟨K1, hK1, h⟩ := jn_some h
  refine AWp.join (α := List (BitVec 16)) (fun (l7 : List (BitVec 16)) => ⟨23, [(3, .own 5003)], [(5003, bL 28 1 eW 0#16 l7)], [], 0⟩) (fun x => K1 x = some r) ?_ ?_
  ·
    refine AWp.seq ?_
    obtain ⟨r2, hr2, h⟩ := bind_ok h
    refine AWp.regC [] [(1, ⟨[vL 1 eW 0#16 x1], [], [], [(6001, bL 28 1 eW 0#16 r2)], .own 6001, [6001], [], []⟩)] [3, 7, 8, 9] [6001] ⟨23, [(3, .nils), (7, .own 6001), (8, .int .i64 (((r2).length : Nat) : Int)), (9, .int .i64 (0 : Int))], [(6001, bL 28 1 eW 0#16 r2)], [], 0⟩ ((callP Tryd.prog true 67 [] [] [] [] [] [vL 1 eW 0#16 x1] [vL 1 eW 0#16 x1] (.own 6001) [(6001, bL 28 1 eW 0#16 r2)]) ∧ True) Tryd_mixed (by kernel_rfl) ⟨⟨fun _ => (Spec1.ren (swapN 3000 6001) (swapN_inv 3000 6001) rfl (f67_ok x1 r2 hr2)), fun _ => ⟨.refl _, trivial⟩, .inl rfl⟩, trivial⟩ ?_
    refine thenQ_normal ?_
    refine AWp.block ?_
    refine AWp.loopL (α := Nat × (Nat × List (BitVec 16))) (fun x => match x with | (_, n3, l4) => ⟨23, [(3, .own 5003), (7, .own 6001), (8, .int .i64 (((r2).length : Nat) : Int)), (9, .int .i64 ((n3 : Nat) : Int))], [(5003, bL 28 1 eW 0#16 l4), (6001, bL 28 1 eW 0#16 r2)], [], 0⟩) (fun x => f43_L0 K1 r2 x.1 x.2 = some r) (fun x => x.1) (FUEL, 0, []) (Le.trans (Le.trans (Le.nilOwn (s := ⟨23, [(3, .nils), (7, .own 6001), (8, .int .i64 (((r2).length : Nat) : Int)), (9, .int .i64 (0 : Int))], [(6001, bL 28 1 eW 0#16 r2)], [], 0⟩) 3 5003 28 1 (encF eW 0#16 []) rfl rfl (Nat.le_of_ble_eq_true rfl)) (Le.mk (s' := ⟨23, [(3, .own 5003), (7, .own 6001), (8, .int .i64 (((r2).length : Nat) : Int)), (9, .int .i64 (0 : Int))], [(6001, bL 28 1 eW 0#16 r2), (5003, bL 28 1 eW 0#16 [])], [], 0⟩) rfl rfl ⟨.refl _, .refl _, .refl _, .refl _, trivial⟩ ⟨⟨_, rfl, .refl _⟩, ⟨_, rfl, .refl _⟩, trivial⟩)) (Le.mk (s := ⟨23, [(3, .own 5003), (7, .own 6001), (8, .int .i64 (((r2).length : Nat) : Int)), (9, .int .i64 (0 : Int))], [(6001, bL 28 1 eW 0#16 r2), (5003, bL 28 1 eW 0#16 [])], [], 0⟩) (s' := ⟨23, [(3, .own 5003), (7, .own 6001), (8, .int .i64 (((r2).length : Nat) : Int)), (9, .int .i64 (0 : Int))], [(5003, bL 28 1 eW 0#16 []), (6001, bL 28 1 eW 0#16 r2)], [], 0⟩) rfl rfl ⟨.refl _, .refl _, .refl _, .refl _, trivial⟩ ⟨⟨_, rfl, .refl _⟩, ⟨_, rfl, .refl _⟩, trivial⟩)) h ?_
    rintro ⟨k0, n3, l4⟩ h
    cases k0 with
    | zero => exact nomatch (show (none : Option (List (BitVec 16))) = some r from h)
    | succ k0 =>
    obtain ⟨C0, hC0⟩ : ∃ C, C = f43_L0 K1 r2 k0 := ⟨_, rfl⟩
    replace h := (f43_L0.eq_2 ..).symm.trans h
    try rw [← hC0] at h
    refine AWp.seq ?_
    refine AWp.regC [] [] [3, 7, 8, 9, 10] [5003, 6001] ⟨23, [(3, .own 5003), (7, .own 6001), (8, .int .i64 (((r2).length : Nat) : Int)), (9, .int .i64 ((n3 : Nat) : Int)), (10, .bool (decide (((n3 : Nat) : Int) < (((r2).length : Nat) : Int))))], [(5003, bL 28 1 eW 0#16 l4), (6001, bL 28 1 eW 0#16 r2)], [], 0⟩ (True) Tryd_mixed (by kernel_rfl) trivial ?_
    refine thenQ_normal ?_
    refine AWp.seq ?_
    refine AWp.cond (b := (decide (((n3 : Nat) : Int) < (((r2).length : Nat) : Int)))) (by kernel_rfl) (fun hc1 => ?_) (fun hc1 => ?_)
    ·
      replace h := ite_tb hc1 h
      refine AWp.skip ?_
      refine thenQ_normal ?_
      obtain ⟨K2, hK2, h⟩ := jn_some h
      refine AWp.join (α := List (BitVec 16)) (fun (l6 : List (BitVec 16)) => ⟨23, [(3, .own 20), (7, .own 6001), (8, .int .i64 (((r2).length : Nat) : Int)), (9, .int .i64 ((n3 : Nat) : Int))], [(20, bL 28 1 eW 0#16 l6), (6001, bL 28 1 eW 0#16 r2)], [], 0⟩) (fun x => K2 x = some r) ?_ ?_
      ·
        refine AWp.block ?_
        refine AWp.seq ?_
        obtain ⟨ob0p, h⟩ := chk_some h
        have ob0 : 0 ≤ ((n3 : Nat) : Int) ∧ ((n3 : Nat) : Int) < (((r2).length : Nat) : Int) := ⟨by omega, ob0p⟩
        obtain ⟨ob1, h⟩ := chk_some h
        refine AWp.regC [] [] [3, 5, 7, 8, 9] [5003, 6001] ⟨23, [(3, .own 5003), (5, .b16 (r2.getD n3 0#16)), (7, .own 6001), (8, .int .i64 (((r2).length : Nat) : Int)), (9, .int .i64 ((n3 : Nat) : Int))], [(5003, bL 28 1 eW 0#16 l4), (6001, bL 28 1 eW 0#16 r2)], [], 0⟩ ((0 ≤ ((n3 : Nat) : Int) ∧ ((n3 : Nat) : Int) < (((r2).length : Nat) : Int)) ∧ (n3 < (r2).length) ∧ True) Tryd_mixed (by kernel_rfl) ⟨ob0, ob1, trivial⟩ ?_
        refine thenQ_normal ?_
        refine AWp.seq ?_
        obtain ⟨r5, hr5, h⟩ := bind_ok h
        refine AWp.regC [] [(2, ⟨[vL 1 eW 0#16 l4, .b16 (r2.getD n3 0#16)], [], [], [], .bool r5, [], [5003], []⟩)] [3, 5, 7, 8, 9, 16] [5003, 6001] ⟨23, [(3, .own 5003), (5, .b16 (r2.getD n3 0#16)), (7, .own 6001), (8, .int .i64 (((r2).length : Nat) : Int)), (9, .int .i64 ((n3 : Nat) : Int)), (16, .bool (!r5))], [(5003, bL 28 1 eW 0#16 l4), (6001, bL 28 1 eW 0#16 r2)], [], 0⟩ ((callP Tryd.prog true 27 [] [] [] [(5003, bL 28 1 eW 0#16 l4)] [5003] [.own 5003, .b16 (r2.getD n3 0#16)] [vL 1 eW 0#16 l4, .b16 (r2.getD n3 0#16)] (.bool r5) []) ∧ True) Tryd_mixed (by kernel_rfl) ⟨⟨fun _ => (f27_ok l4 (r2.getD n3 0#16) r5 hr5), fun _ => ⟨.refl _, .refl _, trivial⟩, .inr ⟨rfl, trivial⟩⟩, trivial⟩ ?_
        refine thenQ_normal ?_
        refine AWp.cond (b := (!r5)) (by kernel_rfl) (fun hc2 => ?_) (fun hc2 => ?_)
        ·
          replace h := ite_tb hc2 h
          obtain ⟨ob2, h⟩ := chk_some h
          refine AWp.regC [] [] [3, 7, 8, 9] [5003, 6001] ⟨23, [(3, .own 5003), (7, .own 6001), (8, .int .i64 (((r2).length : Nat) : Int)), (9, .int .i64 ((n3 : Nat) : Int))], [(5003, .rows 28 1 ((l4).length + 1) (appF (l4).length (encF eW 0#16 l4) (lstF 1 [.b16 (r2.getD n3 0#16)]))), (6001, bL 28 1 eW 0#16 r2)], [], 0⟩ ((((l4).length + 1) * 2 ≤ 140737488355328) ∧ True) Tryd_mixed (by kernel_rfl) ⟨ob2, trivial⟩ ?_
          refine blockQ_normal ?_
          exact joinQ_normal ((l4 ++ [(r2.getD n3 0#16)])) (Le.trans (Le.mk (s := ⟨23, [(3, .own 5003), (7, .own 6001), (8, .int .i64 (((r2).length : Nat) : Int)), (9, .int .i64 ((n3 : Nat) : Int))], [(5003, .rows 28 1 ((l4).length + 1) (appF (l4).length (encF eW 0#16 l4) (lstF 1 [.b16 (r2.getD n3 0#16)]))), (6001, bL 28 1 eW 0#16 r2)], [], 0⟩) (s' := ⟨23, [(3, .own 5003), (7, .own 6001), (8, .int .i64 (((r2).length : Nat) : Int)), (9, .int .i64 ((n3 : Nat) : Int))], [(5003, bL 28 1 eW 0#16 (l4 ++ [(r2.getD n3 0#16)])), (6001, bL 28 1 eW 0#16 r2)], [], 0⟩) rfl rfl ⟨.refl _, .refl _, .refl _, .refl _, trivial⟩ ⟨⟨_, rfl, (BLe.of (RL.app (RL.self _) (RL.lst (enc := eW) [(r2.getD n3 0#16)] rfl rfl (fun _ => rfl))))⟩, ⟨_, rfl, .refl _⟩, trivial⟩) (Le.trans (Le.trans (Le.ren (s := ⟨23, [(3, .own 5003), (7, .own 6001), (8, .int .i64 (((r2).length : Nat) : Int)), (9, .int .i64 ((n3 : Nat) : Int))], [(5003, bL 28 1 eW 0#16 (l4 ++ [(r2.getD n3 0#16)])), (6001, bL 28 1 eW 0#16 r2)], [], 0⟩) (swapN 5003 20) (swapN_inv 5003 20) rfl) (Le.mk (s' := ⟨23, [(3, .own 20), (7, .own 6001), (8, .int .i64 (((r2).length : Nat) : Int)), (9, .int .i64 ((n3 : Nat) : Int))], [(20, bL 28 1 eW 0#16 (l4 ++ [(r2.getD n3 0#16)])), (6001, bL 28 1 eW 0#16 r2)], [], 0⟩) rfl rfl ⟨.refl _, .refl _, .refl _, .refl _, trivial⟩ ⟨⟨_, rfl, .refl _⟩, ⟨_, rfl, .refl _⟩, trivial⟩)) (Le.mk (s := ⟨23, [(3, .own 20), (7, .own 6001), (8, .int .i64 (((r2).length : Nat) : Int)), (9, .int .i64 ((n3 : Nat) : Int))], [(20, bL 28 1 eW 0#16 (l4 ++ [(r2.getD n3 0#16)])), (6001, bL 28 1 eW 0#16 r2)], [], 0⟩) (s' := ⟨23, [(3, .own 20), (7, .own 6001), (8, .int .i64 (((r2).length : Nat) : Int)), (9, .int .i64 ((n3 : Nat) : Int))], [(20, bL 28 1 eW 0#16 (l4 ++ [(r2.getD n3 0#16)])), (6001, bL 28 1 eW 0#16 r2)], [], 0⟩) rfl rfl ⟨.refl _, .refl _, .refl _, .refl _, trivial⟩ ⟨⟨_, rfl, .refl _⟩, ⟨_, rfl, .refl _⟩, trivial⟩))) h
        ·
          replace h := ite_fb hc2 h
          refine AWp.skip ?_
          refine blockQ_normal ?_
          exact joinQ_normal (l4) (Le.trans (Le.trans (Le.ren (s := ⟨23, [(3, .own 5003), (5, .b16 (r2.getD n3 0#16)), (7, .own 6001), (8, .int .i64 (((r2).length : Nat) : Int)), (9, .int .i64 ((n3 : Nat) : Int)), (16, .bool (!r5))], [(5003, bL 28 1 eW 0#16 l4), (6001, bL 28 1 eW 0#16 r2)], [], 0⟩) (swapN 5003 20) (swapN_inv 5003 20) rfl) (Le.mk (s' := ⟨23, [(3, .own 20), (5, .b16 (r2.getD n3 0#16)), (7, .own 6001), (8, .int .i64 (((r2).length : Nat) : Int)), (9, .int .i64 ((n3 : Nat) : Int)), (16, .bool (!r5))], [(20, bL 28 1 eW 0#16 l4), (6001, bL 28 1 eW 0#16 r2)], [], 0⟩) rfl rfl ⟨.refl _, .refl _, .refl _, .refl _, .refl _, .refl _, trivial⟩ ⟨⟨_, rfl, .refl _⟩, ⟨_, rfl, .refl _⟩, trivial⟩)) (Le.mk (s := ⟨23, [(3, .own 20), (5, .b16 (r2.getD n3 0#16)), (7, .own 6001), (8, .int .i64 (((r2).length : Nat) : Int)), (9, .int .i64 ((n3 : Nat) : Int)), (16, .bool (!r5))], [(20, bL 28 1 eW 0#16 l4), (6001, bL 28 1 eW 0#16 r2)], [], 0⟩) (s' := ⟨23, [(3, .own 20), (7, .own 6001), (8, .int .i64 (((r2).length : Nat) : Int)), (9, .int .i64 ((n3 : Nat) : Int))], [(20, bL 28 1 eW 0#16 l4), (6001, bL 28 1 eW 0#16 r2)], [], 0⟩) rfl rfl ⟨.refl _, .refl _, .refl _, .refl _, trivial⟩ ⟨⟨_, rfl, .refl _⟩, ⟨_, rfl, .refl _⟩, trivial⟩)) h
      ·
        rintro l6 h
        replace h := (congrFun hK2 _).symm.trans h
        obtain ⟨ob3p, h⟩ := chk_some h
        have ob3 : -9223372036854775808 ≤ (((n3 : Nat) : Int) + (1 : Int)) ∧ (((n3 : Nat) : Int) + (1 : Int)) ≤ 9223372036854775807 := ⟨by omega, ob3p⟩
        refine AWp.regC [] [] [3, 7, 8, 9] [20, 6001] ⟨23, [(3, .own 20), (7, .own 6001), (8, .int .i64 (((r2).length : Nat) : Int)), (9, .int .i64 (((n3 + 1) : Nat) : Int))], [(20, bL 28 1 eW 0#16 l6), (6001, bL 28 1 eW 0#16 r2)], [], 0⟩ ((-9223372036854775808 ≤ (((n3 : Nat) : Int) + (1 : Int)) ∧ (((n3 : Nat) : Int) + (1 : Int)) ≤ 9223372036854775807) ∧ True) Tryd_mixed (by kernel_rfl) ⟨ob3, trivial⟩ ?_
        rw [hC0] at h
        exact loopQ_normal (_, (n3 + 1), l6) (Le.trans (Le.trans (Le.ren (s := ⟨23, [(3, .own 20), (7, .own 6001), (8, .int .i64 (((r2).length : Nat) : Int)), (9, .int .i64 (((n3 + 1) : Nat) : Int))], [(20, bL 28 1 eW 0#16 l6), (6001, bL 28 1 eW 0#16 r2)], [], 0⟩) (swapN 20 5003) (swapN_inv 20 5003) rfl) (Le.mk (s' := ⟨23, [(3, .own 5003), (7, .own 6001), (8, .int .i64 (((r2).length : Nat) : Int)), (9, .int .i64 (((n3 + 1) : Nat) : Int))], [(5003, bL 28 1 eW 0#16 l6), (6001, bL 28 1 eW 0#16 r2)], [], 0⟩) rfl rfl ⟨.refl _, .refl _, .refl _, .refl _, trivial⟩ ⟨⟨_, rfl, .refl _⟩, ⟨_, rfl, .refl _⟩, trivial⟩)) (Le.mk (s := ⟨23, [(3, .own 5003), (7, .own 6001), (8, .int .i64 (((r2).length : Nat) : Int)), (9, .int .i64 (((n3 + 1) : Nat) : Int))], [(5003, bL 28 1 eW 0#16 l6), (6001, bL 28 1 eW 0#16 r2)], [], 0⟩) (s' := ⟨23, [(3, .own 5003), (7, .own 6001), (8, .int .i64 (((r2).length : Nat) : Int)), (9, .int .i64 (((n3 + 1) : Nat) : Int))], [(5003, bL 28 1 eW 0#16 l6), (6001, bL 28 1 eW 0#16 r2)], [], 0⟩) rfl rfl ⟨.refl _, .refl _, .refl _, .refl _, trivial⟩ ⟨⟨_, rfl, .refl _⟩, ⟨_, rfl, .refl _⟩, trivial⟩)) h (Nat.lt_succ_self _)
    ·
      replace h := ite_fb hc1 h
      refine AWp.exit ?_
      refine thenQ_exit ?_
      refine thenQ_exit ?_
      refine blockQ_same ?_
      exact joinQ_normal (l4) (Le.mk (s := ⟨23, [(3, .own 5003), (7, .own 6001), (8, .int .i64 (((r2).length : Nat) : Int)), (9, .int .i64 ((n3 : Nat) : Int)), (10, .bool (decide (((n3 : Nat) : Int) < (((r2).length : Nat) : Int))))], [(5003, bL 28 1 eW 0#16 l4), (6001, bL 28 1 eW 0#16 r2)], [], 0⟩) (s' := ⟨23, [(3, .own 5003)], [(5003, bL 28 1 eW 0#16 l4)], [], 0⟩) rfl rfl ⟨.refl _, trivial⟩ ⟨⟨_, rfl, .refl _⟩, trivial⟩) h
  ·
    rintro l7 h
    replace h := (congrFun hK1 _).symm.trans h
    refine AWp.seq ?_
    refine AWp.regC [] [] [2] [5003] ⟨23, [(2, .own 5003)], [(5003, bL 28 1 eW 0#16 l7)], [], 0⟩ (True) Tryd_mixed (by kernel_rfl) trivial ?_
    refine thenQ_normal ?_
    refine AWp.le (Le.trans (Le.ren (s := ⟨23, [(2, .own 5003)], [(5003, bL 28 1 eW 0#16 l7)], [], 0⟩) (swapN 5003 3000) (swapN_inv 5003 3000) rfl) (Le.mk (s' := ⟨23, [(2, .own 3000)], [(3000, bL 28 1 eW 0#16 l7)], [], 0⟩) rfl rfl ⟨.refl _, trivial⟩ ⟨⟨_, rfl, .refl _⟩, trivial⟩)) ?_
    have hret := Option.some.inj h
    subst hret
    refine AWp.le (Le.mk (s := ⟨23, [(2, .own 3000)], [(3000, bL 28 1 eW 0#16 l7)], [], 0⟩) (s' := ⟨23, [(2, .own 3000)], [(3000, bL 28 1 eW 0#16 l7)], [], 0⟩) rfl rfl ⟨.refl _, trivial⟩ ⟨⟨_, rfl, .refl _⟩, trivial⟩) ?_
    refine AWp.ret ?_
    exact bodyQ_ret _ rfl ⟨rfl, rfl⟩ rfl
def f49 (x1 : List (BitVec 16)) : Option (List (BitVec 16) × Int) :=
  if (decide ((((x1).length : Nat) : Int) > (400 : Int))) then (
  some ([], (3 : Int))
  ) else (
  some (x1, (0 : Int))
  )
set_option maxRecDepth 100000 in
theorem f49_ok  (x1 : List (BitVec 16)) (r : List (BitVec 16) × Int) (h : f49 x1 = some r)  : Spec1 Tryd.prog 49 [] [] [] [vL 1 eW 0#16 x1] (.tup [vL 1 eW 0#16 r.1, .int .i64 r.2]) [] := by
  unfold f49 at h
  refine Spec1.body 0 _ _ Tryd.func49 rfl Tryd.ntmps49 rfl rfl ?_
  refine AWp.seq ?_
  refine AWp.regC [] [] [0] [] ⟨8, [(0, vL 1 eW 0#16 x1)], [], [], 0⟩ (True) Tryd_mixed (by kernel_rfl) trivial ?_
  refine thenQ_normal ?_
  refine AWp.seq ?_
  refine AWp.seq ?_
  refine AWp.regC [] [] [0, 6] [] ⟨8, [(0, vL 1 eW 0#16 x1), (6, .bool (decide ((((x1).length : Nat) : Int) > (400 : Int))))], [], [], 0⟩ (True) Tryd_mixed (by kernel_rfl) trivial ?_
  refine thenQ_normal ?_
  refine AWp.cond (b := (decide ((((x1).length : Nat) : Int) > (400 : Int)))) (by kernel_rfl) (fun hc1 => ?_) (fun hc1 => ?_)
  ·
    replace h := ite_tb hc1 h
    refine AWp.seq ?_
    refine AWp.regC [] [] [2, 3] [] ⟨8, [(2, .nils), (3, .int .i64 (3 : Int))], [], [], 0⟩ (True) Tryd_mixed (by kernel_rfl) trivial ?_
    refine thenQ_normal ?_
    have hret := Option.some.inj h
    subst hret
    refine AWp.le (Le.mk (s := ⟨8, [(2, .nils), (3, .int .i64 (3 : Int))], [], [], 0⟩) (s' := ⟨8, [(2, vL 1 eW 0#16 []), (3, .int .i64 (3 : Int))], [], [], 0⟩) rfl rfl ⟨.nilL, .refl _, trivial⟩ trivial) ?_
    refine AWp.ret ?_
    refine thenQ_ret ?_
    exact bodyQ_ret _ rfl ⟨rfl, rfl⟩ rfl
  ·
    replace h := ite_fb hc1 h
    refine AWp.skip ?_
    refine thenQ_normal ?_
    refine AWp.seq ?_
    refine AWp.regC [] [] [2, 3] [] ⟨8, [(2, vL 1 eW 0#16 x1), (3, .int .i64 (0 : Int))], [], [], 0⟩ (True) Tryd_mixed (by kernel_rfl) trivial ?_
    refine thenQ_normal ?_
    have hret := Option.some.inj h
    subst hret
    refine AWp.le (Le.mk (s := ⟨8, [(2, vL 1 eW 0#16 x1), (3, .int .i64 (0 : Int))], [], [], 0⟩) (s' := ⟨8, [(2, vL 1 eW 0#16 x1), (3, .int .i64 (0 : Int))], [], [], 0⟩) rfl rfl ⟨.refl _, .refl _, trivial⟩ trivial) ?_
    refine AWp.ret ?_
    exact bodyQ_ret _ rfl ⟨rfl, rfl⟩ rfl
def f21_L1 (x1 : List (BitVec 16)) (x2 : List (BitVec 16)) (n4 : Nat) (K2 : (List Bool) → Option (List (BitVec 16) × Int)) : Nat → (Nat × List Bool) → Option (List (BitVec 16) × Int)
  | 0, _ => none
  | k + 1, (n6, l7) =>
    if (decide (((n6 : Nat) : Int) < (((x2).length : Nat) : Int))) then (
    chk (((n6 : Nat) : Int) < (((x2).length : Nat) : Int)) <|
    chk (((((x1.getD n4 0#16) ||| (x2.getD n6 0#16)).toNat : Nat) : Int) < (((l7).length : Nat) : Int)) <|
    chk ((((x1.getD n4 0#16) ||| (x2.getD n6 0#16)).toNat) < (l7).length) <|
    chk ((((n6 : Nat) : Int) + (1 : Int)) ≤ 9223372036854775807) <|
    (f21_L1 x1 x2 n4 K2 k) ((n6 + 1), (l7.set (((x1.getD n4 0#16) ||| (x2.getD n6 0#16)).toNat) true))
    ) else (
    K2 l7
    )
def f21_L0 (x1 : List (BitVec 16)) (x2 : List (BitVec 16)) (K1 : (List Bool) → Option (List (BitVec 16) × Int)) : Nat → (Nat × List Bool) → Option (List (BitVec 16) × Int)
  | 0, _ => none
  | k + 1, (n4, l5) =>
    if (decide (((n4 : Nat) : Int) < (((x1).length : Nat) : Int))) then (
    jn (fun (l8 : List Bool) =>
    chk ((((n4 : Nat) : Int) + (1 : Int)) ≤ 9223372036854775807) <|
    (f21_L0 x1 x2 K1 k) ((n4 + 1), l8)
    ) fun (K2 : (List Bool) → Option (List (BitVec 16) × Int)) =>
    chk (((n4 : Nat) : Int) < (((x1).length : Nat) : Int)) <|
    f21_L1 x1 x2 n4 K2 FUEL (0, l5)
    ) else (
    K1 l5
    )
def f21_L2 (l9 : List Bool) (K3 : (List (BitVec 16)) → Option (List (BitVec 16) × Int)) : Nat → (Nat × List (BitVec 16)) → Option (List (BitVec 16) × Int)
  | 0, _ => none
  | k + 1, (n10, l11) =>
    if (decide (((n10 : Nat) : Int) < (((l9).length : Nat) : Int))) then (
    jn (fun (l12 : List (BitVec 16)) =>
    chk ((((n10 : Nat) : Int) + (1 : Int)) ≤ 9223372036854775807) <|
    (f21_L2 l9 K3 k) ((n10 + 1), l12)
    ) fun (K4 : (List (BitVec 16)) → Option (List (BitVec 16) × Int)) =>
    chk (((n10 : Nat) : Int) < (((l9).length : Nat) : Int)) <|
    chk (n10 < (l9).length) <|
    if (l9.getD n10 false) then (
    chk (((l11).length + 1) * 2 ≤ 140737488355328) <|
    K4 (l11 ++ [(BitVec.ofInt 16 ((n10 : Nat) : Int))])
    ) else (
    K4 l11
    )
    ) else (
    K3 l11
    )
def f21 (x1 : List (BitVec 16)) (x2 : List (BitVec 16)) : Option (List (BitVec 16) × Int) :=
  (f48 x1 x2).bind fun (r3 : Int) =>
  if (r3 != (0 : Int)) then (
  some ([], r3)
  ) else (
  jn (fun (l9 : List Bool) =>
  jn (fun (l13 : List (BitVec 16)) =>
  (f43 l13).bind fun (r14 : List (BitVec 16)) =>
  (f49 r14).bind fun (r15 : List (BitVec 16) × Int) =>
  some (r15.1, r15.2)
  ) fun (K3 : (List (BitVec 16)) → Option (List (BitVec 16) × Int)) =>
  f21_L2 l9 K3 FUEL (0, [])
  ) fun (K1 : (List Bool) → Option (List (BitVec 16) × Int)) =>
  f21_L0 x1 x2 K1 FUEL (0, (List.replicate 4096 false))
  )
end Go.Abs
