/- Part 23 of the proof: X57, Pl. -/
import Derived.Test.YtkeioaggjaeicaaGreatDoorHchkZ22
namespace Go.Abs
open Go Go.Proofs
set_option maxHeartbeats 4000000
set_option maxRecDepth 100000 in
theorem f24_ok  (x1 : List (Int × Int × Int × List UInt8 × List UInt8)) (x2 : List Int) (r : Bool) (h : f24 x1 x2 = some r)  : Spec1 Tryz.prog 24 [(3, .tab .u64 Lib.pow10Tab)] [] [] [vL 5 eT31 (default : Int × Int × Int × List UInt8 × List UInt8) x1, vL 1 eI 0 x2] (.bool r) [] := by
  unfold f24 at h
  refine Spec1.body 0 _ _ Tryz.func24 rfl Tryz.ntmps24 rfl rfl ?_
  refine q1rq [] [] ⟨104, [(0, q1aT31 x1), (1, q1aI x2), (1000003, .tab .u64 Lib.pow10Tab)], [], [], 0⟩ trivial ?_
  refine AWp.seq ?_
  refine AWp.seq ?_
  obtain ⟨r3, hr3, h⟩ := bind_ok h
  have ob0 := idA ((f24z4 r3) = true)
  have ob1 := idA ((f24z4 r3) = true)
  have ob2 := idA ((f24z4 r3) = true)
  have ob3 := idA ((f24z4 r3) = true)
  have ob4 : true = true → (r3 != (0 : Int)) = false → (f24z4 r3) = true := fun _ h => beq_iff_eq.2 h
  refine q1rr [] [(1, ⟨[q1aT31 x1], [], [], [], .i r3, [], [], []⟩)] ⟨104, [(0, q1aT31 x1), (1, q1aI x2), (22, .bool ((r3 != (0 : Int)) || (decide ((lZ x2) > (lZ x1))))), (1000003, .tab .u64 Lib.pow10Tab)], [], [], 0⟩ (an5 (cpT (f17_ok _ _ hr3)) (an1 ob0) (an1 ob1) (an2 ob2 ob3) ob4) ?_
  refine thenQ_normal ?_
  refine AWp.cond (b := ((r3 != (0 : Int)) || (decide ((lZ x2) > (lZ x1))))) (by kernel_rfl) (fun hc1 => ?_) (fun hc1 => ?_)
  ·
    replace h := ite_tb hc1 h
    refine q1rq [] [] ⟨104, (f24z3), [], [], 0⟩ trivial ?_
    have hret := Option.some.inj h
    subst hret
    refine AWp.le (Le.mk (s' := ⟨104, [(4, .bool false)], [], [], 0⟩) rfl rfl ⟨.refl _, trivial⟩ trivial) ?_
    refine AWp.ret ?_
    refine thenQ_ret ?_
    exact bodyQ_ret _ rfl ⟨rfl, rfl⟩ rfl
  ·
    replace h := ite_fb hc1 h
    refine AWp.skip ?_
    refine thenQ_normal ?_
    refine q1rq [] [] ⟨104, [(0, q1aT31 x1), (1, q1aI x2), (5, .ptr 25 0), (1000003, .tab .u64 Lib.pow10Tab)], [(25, .cells 64 [q1aT31 x1, .fn (.func 31) [], .int .u64 (0 : Int), .lit (.map none)])], [], 0⟩ trivial ?_
    refine q1rq [] [] ⟨104, [(0, q1aT31 x1), (1, q1aI x2), (5, .ptr 25 0), (6, .int .u64 (0 : Int)), (1000003, .tab .u64 Lib.pow10Tab)], [(25, .cells 64 [q1aT31 x1, .fn (.func 31) [], .int .u64 (0 : Int), .lit (.map none)])], [], 0⟩ trivial ?_
    refine q1rq [] [] ⟨104, [(0, q1aT31 x1), (1, q1aI x2), (5, .ptr 25 0), (6, .int .u64 (0 : Int)), (7, .nils), (1000003, .tab .u64 Lib.pow10Tab)], [(25, .cells 64 [q1aT31 x1, .fn (.func 31) [], .int .u64 (0 : Int), .lit (.map none)])], [], 0⟩ trivial ?_
    obtain ⟨K1, hK1, h⟩ := jn_some h
    refine AWp.join (α := Int) (fun (i13 : Int) => ⟨104, [(0, q1aT31 x1), (6, .int .u64 i13), (1000003, .tab .u64 Lib.pow10Tab)], [], [], 0⟩) (fun x => K1 x = some r) ?_ ?_
    ·
      refine q1rq [] [] ⟨104, [(0, q1aT31 x1), (5, .ptr 25 0), (6, .int .u64 (0 : Int)), (7, .nils), (26, q1aI x2), (27, .i (lZ x2)), (28, .i (0 : Int)), (1000003, .tab .u64 Lib.pow10Tab)], [(25, .cells 64 [q1aT31 x1, .fn (.func 31) [], .int .u64 (0 : Int), .lit (.map none)])], [], 0⟩ trivial ?_
      refine AWp.block ?_
      refine AWp.loopL (α := Nat × (Int × (List (List UInt8 × List UInt8 × Int)) × Nat × (List (Int × Int × Int × List UInt8 × List UInt8)) × Int)) (fun x => match x with | (_, i4, l5, n6, l7, i9) => ⟨104, [(0, q1aT31 x1), (5, .ptr 25 0), (6, .int .u64 i4), (7, q1aSSI l5), (26, q1aI x2), (27, .i (lZ x2)), (28, .i (n6 : Int)), (1000003, .tab .u64 Lib.pow10Tab)], [(25, .cells 64 [q1aT31 l7, .fn (.func 31) [], .int .u64 i9, .lit (.map none)])], [], 0⟩) (fun x => f24_L0 x1 x2 K1 x.1 x.2 = some r) (fun x => x.1) (FUEL, (0 : Int), [], 0, x1, (0 : Int)) (Le.mk (s' := ⟨104, [(0, q1aT31 x1), (5, .ptr 25 0), (6, .int .u64 (0 : Int)), (7, q1aSSI []), (26, q1aI x2), (27, .i (lZ x2)), (28, .i (0 : Int)), (1000003, .tab .u64 Lib.pow10Tab)], [(25, .cells 64 [q1aT31 x1, .fn (.func 31) [], .int .u64 (0 : Int), .lit (.map none)])], [], 0⟩) rfl rfl ⟨.refl _, .refl _, .refl _, .nilL, .refl _, .refl _, .refl _, .refl _, trivial⟩ ⟨⟨_, rfl, .refl _⟩, trivial⟩) h ?_
      rintro ⟨k0, i4, l5, n6, l7, i9⟩ h
      cases k0 with
      | zero => exact nomatch (show (none : Option Bool) = some r from h)
      | succ k0 =>
      obtain ⟨C0, hC0⟩ : ∃ C, C = f24_L0 x1 x2 K1 k0 := ⟨_, rfl⟩
      replace h := (f24_L0.eq_2 ..).symm.trans h
      try rw [← hC0] at h
      refine q1rq [] [] ⟨104, [(0, q1aT31 x1), (5, .ptr 25 0), (6, .int .u64 i4), (7, q1aSSI l5), (26, q1aI x2), (27, .i (lZ x2)), (28, .i (n6 : Int)), (29, .bool (decide ((n6 : Int) < (lZ x2)))), (1000003, .tab .u64 Lib.pow10Tab)], [(25, .cells 64 [q1aT31 l7, .fn (.func 31) [], .int .u64 i9, .lit (.map none)])], [], 0⟩ trivial ?_
      refine AWp.seq ?_
      refine AWp.cond (b := (decide ((n6 : Int) < (lZ x2)))) (by kernel_rfl) (fun hc2 => ?_) (fun hc2 => ?_)
      ·
        replace h := ite_tb hc2 h
        refine AWp.skip ?_
        refine thenQ_normal ?_
        refine AWp.seq ?_
        refine AWp.block ?_
        refine AWp.seq ?_
        obtain ⟨ob5p, h⟩ := chk_some h
        have ob5 : 0 ≤ (n6 : Int) ∧ (n6 : Int) < (((x2).length : Nat) : Int) := ⟨by omega, ob5p⟩
        refine q1rr [] [] ⟨104, [(0, q1aT31 x1), (5, .ptr 25 0), (6, .int .u64 i4), (7, q1aSSI l5), (9, .i (x2.getD n6 0)), (26, q1aI x2), (27, .i (lZ x2)), (28, .i (n6 : Int)), (1000003, .tab .u64 Lib.pow10Tab)], [(25, .cells 64 [q1aT31 l7, .fn (.func 31) [], .int .u64 i9, .lit (.map none)])], [], 0⟩ (an1 ob5) ?_
        refine thenQ_normal ?_
        refine AWp.seq ?_
        refine AWp.seq ?_
        by_cases hg9_15 : (((decide ((x2.getD n6 0) < (0 : Int))) || (decide ((x2.getD n6 0) ≥ (((x1).length : Nat) : Int)))) || ((bitsI .and .u64 (i4 / 2 ^ (((x2.getD n6 0)).toNat)) (1 : Int)) == (1 : Int))) = true
        ·
          replace h := ite_t hg9_15 h
          have ob6 := idA ((f24z5 x2 n6) = true)
          have ob7 := idA ((f24z5 x2 n6) = true)
          have ob8 := idA ((f24z5 x2 n6) = true)
          have ob9 : true = true → (f24z1 x2 n6) = false → (f24z5 x2 n6) = true := fun _ h => beq_iff_eq.2 h
          obtain ⟨ob10, h⟩ := chk_some h
          have ob11 := idA ((((f24z1 x2 n6) || (decide ((x2.getD n6 0) ≥ (lZ x1)))) == false) = true)
          have ob12 := idA ((((f24z1 x2 n6) || (decide ((x2.getD n6 0) ≥ (lZ x1)))) == false) = true)
          have ob13 := idA ((((f24z1 x2 n6) || (decide ((x2.getD n6 0) ≥ (lZ x1)))) == false) = true)
          have ob14 := idA ((((f24z1 x2 n6) || (decide ((x2.getD n6 0) ≥ (lZ x1)))) == false) = true)
          have ob15 := bqA ((f24z1 x2 n6) || (decide ((x2.getD n6 0) ≥ (lZ x1)))) false
          obtain ⟨ob16, h⟩ := chk_some h
          have ob17 := idA (false = true)
          have ob18 := idA (false = true)
          have ob19 := idA (false = true)
          have ob20 := idA (false = true)
          have ob21 := idA (false = true)
          have ob22 := idA (false = true)
          have ob23 := idA (false = true)
          have ob24 : true = true → true = false → false = true := by first | decide | omega | simp | (intro h; cases h)
          refine q1rr [] [(15, ⟨[], [], [], [], (.bool true), [], [0], []⟩), (22, ⟨[], [], [], [], .bool false, [], [], []⟩)] ⟨104, [(0, q1aT31 x1), (5, .ptr 25 0), (6, .int .u64 i4), (7, q1aSSI l5), (9, .i (x2.getD n6 0)), (26, q1aI x2), (27, .i (lZ x2)), (28, .i (n6 : Int)), (56, .bool true), (1000003, .tab .u64 Lib.pow10Tab)], [(25, .cells 64 [q1aT31 l7, .fn (.func 31) [], .int .u64 i9, .lit (.map none)])], [], 0⟩ (ac6 (an1 ob6) (an2 ob7 ob8) ob9 (And.intro ob10 (an2 ob11 ob12)) (an1 ob13) (an1 ob14) (ac6 ob15 (show ((.bool (((f24z1 x2 n6) || (decide ((x2.getD n6 0) ≥ (lZ x1)))) || ((bitsI .and .u64 (i4 / 2 ^ (((x2.getD n6 0)).toNat)) (1 : Int)) == (1 : Int)))) : V) = (.bool true) from (congrArg (fun x => ((.bool x) : V)) hg9_15)) (And.intro ob16 (an2 ob17 ob18)) (an1 ob19) (And.intro (show (callP Tryz.prog false 41 [] [] [] [] [] [.ptr 25 0, .int .u64 i4, .agg (f24z0 x1 x2 n6)] [] (.bool false) []) from ⟨nofun, nofun, .inl rfl⟩) (an3 ob20 ob21 ob22)) (an1 ob23) (an1 ob24))) ?_
          refine thenQ_normal ?_
          refine AWp.cond (b := true) (by kernel_rfl) (fun hc => ?_) (fun hc => ?_)
          ·
            clear hc
            refine q1rq [] [] ⟨104, (f24z3), [], [], 0⟩ trivial ?_
            have hret := Option.some.inj h
            subst hret
            refine AWp.le (Le.mk (s' := ⟨104, [(4, .bool false)], [], [], 0⟩) rfl rfl ⟨.refl _, trivial⟩ trivial) ?_
            refine AWp.ret ?_
            refine thenQ_ret ?_
            refine blockQ_ret ?_
            refine thenQ_ret ?_
            refine thenQ_ret ?_
            refine blockQ_ret ?_
            refine joinQ_ret ?_
            exact bodyQ_ret _ rfl ⟨rfl, rfl⟩ rfl
          ·
            cases hc
        ·
          replace h := ite_f hg9_15 h
          obtain ⟨r10, hr10, h⟩ := bind_ok h
          have ob6 := idA ((f24z5 x2 n6) = true)
          have ob7 := idA ((f24z5 x2 n6) = true)
          have ob8 := idA ((f24z5 x2 n6) = true)
          have ob9 : true = true → (f24z1 x2 n6) = false → (f24z5 x2 n6) = true := fun _ h => beq_iff_eq.2 h
          obtain ⟨ob10, h⟩ := chk_some h
          have ob11 := idA ((((f24z1 x2 n6) || (decide ((x2.getD n6 0) ≥ (lZ x1)))) == false) = true)
          have ob12 := idA ((((f24z1 x2 n6) || (decide ((x2.getD n6 0) ≥ (lZ x1)))) == false) = true)
          have ob13 := idA ((((f24z1 x2 n6) || (decide ((x2.getD n6 0) ≥ (lZ x1)))) == false) = true)
          have ob14 := idA ((((f24z1 x2 n6) || (decide ((x2.getD n6 0) ≥ (lZ x1)))) == false) = true)
          have ob15 := bqA ((f24z1 x2 n6) || (decide ((x2.getD n6 0) ≥ (lZ x1)))) false
          obtain ⟨ob16, h⟩ := chk_some h
          have ob17 := idA (true = true)
          have ob18 := idA (true = true)
          have ob19 := idA (true = true)
          have ob20 := idA (true = true)
          have ob21 := idA (true = true)
          have ob22 := idA (true = true)
          have ob23 : true = true → false = false → true = true := by first | decide | omega | simp | (intro h; cases h)
          refine q1rr [] [(15, ⟨[], [], [], [], (.bool false), [], [0], []⟩), (22, ⟨[.ptr 25 0, .int .u64 i4, .agg (f24z0 x1 x2 n6)], [25], [25], [(25, .cells 64 [q1aT31 r10.2.1, .fn (.func 31) [], .int .u64 r10.2.2, .lit (.map none)])], .bool r10.1, [], [], []⟩)] ⟨104, [(0, q1aT31 x1), (5, .ptr 25 0), (6, .int .u64 i4), (7, q1aSSI l5), (9, .i (x2.getD n6 0)), (26, q1aI x2), (27, .i (lZ x2)), (28, .i (n6 : Int)), (56, .bool (!r10.1)), (1000003, .tab .u64 Lib.pow10Tab)], [(25, .cells 64 [q1aT31 r10.2.1, .fn (.func 31) [], .int .u64 r10.2.2, .lit (.map none)])], [], 0⟩ (ac6 (an1 ob6) (an2 ob7 ob8) ob9 (And.intro ob10 (an2 ob11 ob12)) (an1 ob13) (an1 ob14) (an6 ob15 (show ((.bool (((f24z1 x2 n6) || (decide ((x2.getD n6 0) ≥ (lZ x1)))) || ((bitsI .and .u64 (i4 / 2 ^ (((x2.getD n6 0)).toNat)) (1 : Int)) == (1 : Int)))) : V) = (.bool false) from (congrArg (fun x => ((.bool x) : V)) (Bool.eq_false_iff.2 hg9_15))) (And.intro ob16 (an2 ob17 ob18)) (an1 ob19) (And.intro (cpT (Spec1.ren (swapN 2000 25) (swapN_inv 2000 25) rfl (f41b_ok _ _ _ _ _ _ _ _ _ hr10))) (an3 ob20 ob21 ob22)) ob23)) ?_
          refine thenQ_normal ?_
          refine AWp.cond (b := (!r10.1)) (by kernel_rfl) (fun hc4 => ?_) (fun hc4 => ?_)
          ·
            replace h := ite_tb hc4 h
            refine q1rq [] [] ⟨104, (f24z3), [], [], 0⟩ trivial ?_
            have hret := Option.some.inj h
            subst hret
            refine AWp.le (Le.mk (s' := ⟨104, [(4, .bool false)], [], [], 0⟩) rfl rfl ⟨.refl _, trivial⟩ trivial) ?_
            refine AWp.ret ?_
            refine thenQ_ret ?_
            refine blockQ_ret ?_
            refine thenQ_ret ?_
            refine thenQ_ret ?_
            refine blockQ_ret ?_
            refine joinQ_ret ?_
            exact bodyQ_ret _ rfl ⟨rfl, rfl⟩ rfl
          ·
            replace h := ite_fb hc4 h
            refine AWp.skip ?_
            refine thenQ_normal ?_
            refine AWp.seq ?_
            obtain ⟨ob25, h⟩ := chk_some h
            refine q1rr [] [] ⟨104, [(0, q1aT31 x1), (5, .ptr 25 0), (6, .int .u64 (bitsI .or .u64 i4 ((1 : Int) * 2 ^ (((x2.getD n6 0)).toNat)))), (7, q1aSSI l5), (9, .i (x2.getD n6 0)), (26, q1aI x2), (27, .i (lZ x2)), (28, .i (n6 : Int)), (1000003, .tab .u64 Lib.pow10Tab)], [(25, .cells 64 [q1aT31 r10.2.1, .fn (.func 31) [], .int .u64 r10.2.2, .lit (.map none)])], [], 0⟩ (an1 ob25) ?_
            refine thenQ_normal ?_
            refine q1rq [] [] ⟨104, [(0, q1aT31 x1), (5, .ptr 25 0), (6, .int .u64 (bitsI .or .u64 i4 ((1 : Int) * 2 ^ (((x2.getD n6 0)).toNat)))), (7, q1aSSI l5), (9, .i (x2.getD n6 0)), (26, q1aI x2), (27, .i (lZ x2)), (28, .i (n6 : Int)), (1000003, .tab .u64 Lib.pow10Tab)], [(25, .cells 64 [q1aT31 r10.2.1, .fn (.func 31) [], .int .u64 r10.2.2, .lit (.map none)])], [], 0⟩ trivial ?_
            refine AWp.seq ?_
            obtain ⟨r11, hr11, h⟩ := bind_ok h
            obtain ⟨ob26, h⟩ := chk_some h
            refine q1rr [] [(5, ⟨[q1aSSI l5, .agg (f24z0 x1 x2 n6)], [], [], [], .tup [q1aSSI r11.1, .str r11.2], [], [], [3]⟩)] ⟨104, [(0, q1aT31 x1), (5, .ptr 25 0), (6, .int .u64 (bitsI .or .u64 i4 ((1 : Int) * 2 ^ (((x2.getD n6 0)).toNat)))), (7, q1aSSI r11.1), (9, .i (x2.getD n6 0)), (10, .str r11.2), (26, q1aI x2), (27, .i (lZ x2)), (28, .i (n6 : Int)), (1000003, .tab .u64 Lib.pow10Tab)], [(25, .cells 64 [q1aT31 r10.2.1, .fn (.func 31) [], .int .u64 r10.2.2, .lit (.map none)])], [], 0⟩ (an2 ob26 (cpT (f40_ok _ _ _ _ _ _ _ hr11))) ?_
            refine thenQ_normal ?_
            refine AWp.seq ?_
            obtain ⟨r12, hr12, h⟩ := bind_ok h
            obtain ⟨ob27, ob28, h⟩ := ck2 h
            have ob29 := idA (((!r12) == true) = true)
            have ob30 := idA (((!r12) == true) = true)
            have ob31 := idA (((!r12) == true) = true)
            have ob32 := idA (((!r12) == true) = true)
            have ob33 := idA (((!r12) == true) = true)
            have ob34 := idA (((!r12) == true) = true)
            have ob35 := bqA (!r12) true
            refine q1rr [] [(4, ⟨[.agg (f24z0 x1 x2 n6)], [], [], [], .bool r12, [], [], []⟩)] ⟨104, [(0, q1aT31 x1), (5, .ptr 25 0), (6, .int .u64 (bitsI .or .u64 i4 ((1 : Int) * 2 ^ (((x2.getD n6 0)).toNat)))), (7, q1aSSI r11.1), (26, q1aI x2), (27, .i (lZ x2)), (28, .i (n6 : Int)), (84, .bool ((!r12) && (!(r11.2 == ((x1.getD (((x2.getD n6 0)).toNat) q1dT31).2.2.2.2))))), (1000003, .tab .u64 Lib.pow10Tab)], [(25, .cells 64 [q1aT31 r10.2.1, .fn (.func 31) [], .int .u64 r10.2.2, .lit (.map none)])], [], 0⟩ (ac6 ob27 (cpT (f36_ok _ _ _ _ _ _ hr12)) (And.intro ob28 (an2 ob29 ob30)) (an1 ob31) (an1 ob32) (an2 ob33 ob34) (an1 ob35)) ?_
            refine thenQ_normal ?_
            refine AWp.cond (b := ((!r12) && (!(r11.2 == ((x1.getD (((x2.getD n6 0)).toNat) q1dT31).2.2.2.2))))) (by kernel_rfl) (fun hc5 => ?_) (fun hc5 => ?_)
            ·
              replace h := ite_tb hc5 h
              refine q1rq [] [] ⟨104, (f24z3), [], [], 0⟩ trivial ?_
              have hret := Option.some.inj h
              subst hret
              refine AWp.le (Le.mk (s' := ⟨104, [(4, .bool false)], [], [], 0⟩) rfl rfl ⟨.refl _, trivial⟩ trivial) ?_
              refine AWp.ret ?_
              refine blockQ_ret ?_
              refine thenQ_ret ?_
              refine thenQ_ret ?_
              refine blockQ_ret ?_
              refine joinQ_ret ?_
              exact bodyQ_ret _ rfl ⟨rfl, rfl⟩ rfl
            ·
              replace h := ite_fb hc5 h
              refine AWp.skip ?_
              refine blockQ_normal ?_
              refine thenQ_normal ?_
              obtain ⟨ob36p, h⟩ := chk_some h
              have ob36 : -9223372036854775808 ≤ ((n6 : Int) + (1 : Int)) ∧ ((n6 : Int) + (1 : Int)) ≤ 9223372036854775807 := ⟨by omega, ob36p⟩
              refine q1rr [] [] ⟨104, [(0, q1aT31 x1), (5, .ptr 25 0), (6, .int .u64 (bitsI .or .u64 i4 ((1 : Int) * 2 ^ (((x2.getD n6 0)).toNat)))), (7, q1aSSI r11.1), (26, q1aI x2), (27, .i (lZ x2)), (28, .i (((n6 + 1) : Nat) : Int)), (1000003, .tab .u64 Lib.pow10Tab)], [(25, .cells 64 [q1aT31 r10.2.1, .fn (.func 31) [], .int .u64 r10.2.2, .lit (.map none)])], [], 0⟩ (an1 ob36) ?_
              rw [hC0] at h
              exact loopQ_normal (_, (bitsI .or .u64 i4 ((1 : Int) * 2 ^ (((x2.getD n6 0)).toNat))), r11.1, (n6 + 1), r10.2.1, r10.2.2) (Le.mk rfl rfl ⟨.refl _, .refl _, .refl _, .refl _, .refl _, .refl _, .refl _, .refl _, trivial⟩ ⟨⟨_, rfl, .refl _⟩, trivial⟩) h (Nat.lt_succ_self _)
      ·
        replace h := ite_fb hc2 h
        refine AWp.exit ?_
        refine thenQ_exit ?_
        refine thenQ_exit ?_
        refine blockQ_same ?_
        exact joinQ_normal (i4) (Le.mk rfl rfl ⟨.refl _, .refl _, .refl _, trivial⟩ trivial) h
    ·
      rintro i13 h
      replace h := (congrFun hK1 _).symm.trans h
      obtain ⟨K2, hK2, h⟩ := jn_some h
      refine AWp.join (α := Unit) (fun (x : Unit) => match x with | () => ⟨104, [(1000003, .tab .u64 Lib.pow10Tab)], [], [], 0⟩) (fun x => K2 x = some r) ?_ ?_
      ·
        refine q1rq [] [] ⟨104, [(6, .int .u64 i13), (86, q1aT31 x1), (87, .i (lZ x1)), (88, .i (0 : Int)), (1000003, .tab .u64 Lib.pow10Tab)], [], [], 0⟩ trivial ?_
        refine AWp.block ?_
        refine AWp.loopL (α := Nat × Nat) (fun x => match x with | (_, n14) => ⟨104, [(6, .int .u64 i13), (86, q1aT31 x1), (87, .i (lZ x1)), (88, .i (n14 : Int)), (1000003, .tab .u64 Lib.pow10Tab)], [], [], 0⟩) (fun x => f24_L1 x1 i13 K2 x.1 x.2 = some r) (fun x => x.1) (FUEL, 0) (Le.mk (s' := ⟨104, [(6, .int .u64 i13), (86, q1aT31 x1), (87, .i (lZ x1)), (88, .i (0 : Int)), (1000003, .tab .u64 Lib.pow10Tab)], [], [], 0⟩) rfl rfl ⟨.refl _, .refl _, .refl _, .refl _, .refl _, trivial⟩ trivial) h ?_
        rintro ⟨k1, n14⟩ h
        cases k1 with
        | zero => exact nomatch (show (none : Option Bool) = some r from h)
        | succ k1 =>
        obtain ⟨C1, hC1⟩ : ∃ C, C = f24_L1 x1 i13 K2 k1 := ⟨_, rfl⟩
        replace h := (f24_L1.eq_2 ..).symm.trans h
        try rw [← hC1] at h
        refine q1rq [] [] ⟨104, [(6, .int .u64 i13), (86, q1aT31 x1), (87, .i (lZ x1)), (88, .i (n14 : Int)), (89, .bool (decide ((n14 : Int) < (lZ x1)))), (1000003, .tab .u64 Lib.pow10Tab)], [], [], 0⟩ trivial ?_
        refine AWp.seq ?_
        refine AWp.cond (b := (decide ((n14 : Int) < (lZ x1)))) (by kernel_rfl) (fun hc6 => ?_) (fun hc6 => ?_)
        ·
          replace h := ite_tb hc6 h
          refine AWp.skip ?_
          refine thenQ_normal ?_
          refine AWp.seq ?_
          refine AWp.block ?_
          refine AWp.seq ?_
          obtain ⟨ob37p, h⟩ := chk_some h
          have ob37 : 0 ≤ (n14 : Int) ∧ (n14 : Int) < (((x1).length : Nat) : Int) := ⟨by omega, ob37p⟩
          refine q1rr [] [] ⟨104, [(6, .int .u64 i13), (11, .i (n14 : Int)), (12, .ptr 12 0), (86, q1aT31 x1), (87, .i (lZ x1)), (88, .i (n14 : Int)), (1000003, .tab .u64 Lib.pow10Tab)], [(12, .cells 31 [.i (f24z2 x1 n14).1, .i (f24z2 x1 n14).2.1, .i (f24z2 x1 n14).2.2.1, .str (f24z2 x1 n14).2.2.2.1, .str (f24z2 x1 n14).2.2.2.2])], [], 0⟩ (an2 ob37 trivial) ?_
          refine thenQ_normal ?_
          refine AWp.seq ?_
          obtain ⟨r15, hr15, h⟩ := bind_ok h
          obtain ⟨ob38, h⟩ := chk_some h
          have ob39 := idA (((!r15) == true) = true)
          have ob40 := idA (((!r15) == true) = true)
          have ob41 := idA (((!r15) == true) = true)
          have ob42 := idA (((!r15) == true) = true)
          have ob43 := bqA (!r15) true
          refine q1rr [] [(1, ⟨[.agg [.i (f24z2 x1 n14).1, .i (f24z2 x1 n14).2.1, .i (f24z2 x1 n14).2.2.1, .str (f24z2 x1 n14).2.2.2.1, .str (f24z2 x1 n14).2.2.2.2]], [], [], [], .bool r15, [], [], []⟩)] ⟨104, [(6, .int .u64 i13), (86, q1aT31 x1), (87, .i (lZ x1)), (88, .i (n14 : Int)), (102, .bool ((!r15) && ((bitsI .and .u64 (i13 / 2 ^ n14) (1 : Int)) == (0 : Int)))), (1000003, .tab .u64 Lib.pow10Tab)], [], [], 0⟩ (an5 (cpT (f36_ok _ _ _ _ _ _ hr15)) (And.intro ob38 (an2 ob39 ob40)) (an1 ob41) (an1 ob42) ob43) ?_
          refine thenQ_normal ?_
          refine AWp.cond (b := ((!r15) && ((bitsI .and .u64 (i13 / 2 ^ n14) (1 : Int)) == (0 : Int)))) (by kernel_rfl) (fun hc7 => ?_) (fun hc7 => ?_)
          ·
            replace h := ite_tb hc7 h
            refine q1rq [] [] ⟨104, (f24z3), [], [], 0⟩ trivial ?_
            have hret := Option.some.inj h
            subst hret
            refine AWp.le (Le.mk (s' := ⟨104, [(4, .bool false)], [], [], 0⟩) rfl rfl ⟨.refl _, trivial⟩ trivial) ?_
            refine AWp.ret ?_
            refine blockQ_ret ?_
            refine thenQ_ret ?_
            refine thenQ_ret ?_
            refine blockQ_ret ?_
            refine joinQ_ret ?_
            exact bodyQ_ret _ rfl ⟨rfl, rfl⟩ rfl
          ·
            replace h := ite_fb hc7 h
            refine AWp.skip ?_
            refine blockQ_normal ?_
            refine thenQ_normal ?_
            obtain ⟨ob44p, h⟩ := chk_some h
            have ob44 : -9223372036854775808 ≤ ((n14 : Int) + (1 : Int)) ∧ ((n14 : Int) + (1 : Int)) ≤ 9223372036854775807 := ⟨by omega, ob44p⟩
            refine q1rr [] [] ⟨104, [(6, .int .u64 i13), (86, q1aT31 x1), (87, .i (lZ x1)), (88, .i (((n14 + 1) : Nat) : Int)), (1000003, .tab .u64 Lib.pow10Tab)], [], [], 0⟩ (an1 ob44) ?_
            rw [hC1] at h
            exact loopQ_normal (_, (n14 + 1)) (Le.mk rfl rfl ⟨.refl _, .refl _, .refl _, .refl _, .refl _, trivial⟩ trivial) h (Nat.lt_succ_self _)
        ·
          replace h := ite_fb hc6 h
          refine AWp.exit ?_
          refine thenQ_exit ?_
          refine thenQ_exit ?_
          refine blockQ_same ?_
          exact joinQ_normal () (Le.mk rfl rfl ⟨.refl _, trivial⟩ trivial) h
      ·
        rintro ⟨⟩ h
        replace h := (congrFun hK2 _).symm.trans h
        refine q1rq [] [] ⟨104, [(4, .bool true), (1000003, .tab .u64 Lib.pow10Tab)], [], [], 0⟩ trivial ?_
        have hret := Option.some.inj h
        subst hret
        refine AWp.le (Le.mk (s' := ⟨104, [(4, .bool true)], [], [], 0⟩) rfl rfl ⟨.refl _, trivial⟩ trivial) ?_
        refine AWp.ret ?_
        exact bodyQ_ret _ rfl ⟨rfl, rfl⟩ rfl
def f25_L1 (x1 : List (Int × Int × Int × List UInt8 × List UInt8)) (x2 : List Int) (x3 : Bool) (n4 : Nat) (K2 : Unit → Option Bool) : Nat → Nat → Option Bool
  | 0, _ => none
  | k + 1, n6 =>
    if (decide ((n6 : Int) < (n4 : Int))) then (
    (f43 ((x1.getD (((x2.getD n4 0)).toNat) (default : Int × Int × Int × List UInt8 × List UInt8)).1) ((x1.getD (((x2.getD n4 0)).toNat) (default : Int × Int × Int × List UInt8 × List UInt8)).2.1) ((x1.getD (((x2.getD n4 0)).toNat) (default : Int × Int × Int × List UInt8 × List UInt8)).2.2.1) ((x1.getD (((x2.getD n4 0)).toNat) (default : Int × Int × Int × List UInt8 × List UInt8)).2.2.2.1) ((x1.getD (((x2.getD n4 0)).toNat) (default : Int × Int × Int × List UInt8 × List UInt8)).2.2.2.2) ((x1.getD (((x2.getD n6 0)).toNat) (default : Int × Int × Int × List UInt8 × List UInt8)).1) ((x1.getD (((x2.getD n6 0)).toNat) (default : Int × Int × Int × List UInt8 × List UInt8)).2.1) ((x1.getD (((x2.getD n6 0)).toNat) (default : Int × Int × Int × List UInt8 × List UInt8)).2.2.1) ((x1.getD (((x2.getD n6 0)).toNat) (default : Int × Int × Int × List UInt8 × List UInt8)).2.2.2.1) ((x1.getD (((x2.getD n6 0)).toNat) (default : Int × Int × Int × List UInt8 × List UInt8)).2.2.2.2) x3).bind fun (r7 : Bool) =>
    chk ((n4 : Int) < (((x2).length : Nat) : Int)) <|
    chk (0 ≤ (x2.getD n4 0) ∧ (x2.getD n4 0) < (((x1).length : Nat) : Int)) <|
    chk ((n6 : Int) < (((x2).length : Nat) : Int)) <|
    chk (0 ≤ (x2.getD n6 0) ∧ (x2.getD n6 0) < (((x1).length : Nat) : Int)) <|
    if r7 then (
    some false
    ) else (
    chk (((n6 : Int) + (1 : Int)) ≤ 9223372036854775807) <|
    (f25_L1 x1 x2 x3 n4 K2 k) (n6 + 1)
    )
    ) else (
    K2 ()
    )
def f25_L0 (x1 : List (Int × Int × Int × List UInt8 × List UInt8)) (x2 : List Int) (x3 : Bool) (K1 : Unit → Option Bool) : Nat → Nat → Option Bool
  | 0, _ => none
  | k + 1, n4 =>
    if (decide ((n4 : Int) < (((x2).length : Nat) : Int))) then (
    jn (fun (_ : Unit) =>
    chk (((n4 : Int) + (1 : Int)) ≤ 9223372036854775807) <|
    (f25_L0 x1 x2 x3 K1 k) (n4 + 1)
    ) fun (K2 : Unit → Option Bool) =>
    optc (((decide ((x2.getD n4 0) < (0 : Int))) || (decide ((x2.getD n4 0) ≥ (((x1).length : Nat) : Int)))) == false) (f42 (x2.take n4) (x2.getD n4 0)) fun (r5 : Bool) =>
    chk ((n4 : Int) < (((x2).length : Nat) : Int)) <|
    chk (((decide ((x2.getD n4 0) < (0 : Int))) == false) = true → 0 ≤ (n4 : Int) ∧ (n4 : Int) < (((x2).length : Nat) : Int)) <|
    chk ((((decide ((x2.getD n4 0) < (0 : Int))) || (decide ((x2.getD n4 0) ≥ (((x1).length : Nat) : Int)))) == false) = true → 0 ≤ (n4 : Int) ∧ (n4 : Int) ≤ (((x2).length : Nat) : Int)) <|
    chk ((((decide ((x2.getD n4 0) < (0 : Int))) || (decide ((x2.getD n4 0) ≥ (((x1).length : Nat) : Int)))) == false) = true → 0 ≤ (n4 : Int) ∧ (n4 : Int) < (((x2).length : Nat) : Int)) <|
    if (((decide ((x2.getD n4 0) < (0 : Int))) || (decide ((x2.getD n4 0) ≥ (((x1).length : Nat) : Int)))) || r5) then (
    some false
    ) else (
    f25_L1 x1 x2 x3 n4 K2 FUEL 0
    )
    ) else (
    K1 ()
    )
def f25_L2 (x1 : List (Int × Int × Int × List UInt8 × List UInt8)) (x2 : List Int) (K3 : Unit → Option Bool) : Nat → Nat → Option Bool
  | 0, _ => none
  | k + 1, n8 =>
    if (decide ((n8 : Int) < (((x1).length : Nat) : Int))) then (
    optc (((x1.getD n8 (default : Int × Int × Int × List UInt8 × List UInt8)).2.2.1 != (-1 : Int)) == true) (f42 x2 (n8 : Int)) fun (r9 : Bool) =>
    chk ((n8 : Int) < (((x1).length : Nat) : Int)) <|
    if (((x1.getD n8 (default : Int × Int × Int × List UInt8 × List UInt8)).2.2.1 != (-1 : Int)) && (!r9)) then (
    some false
    ) else (
    chk (((n8 : Int) + (1 : Int)) ≤ 9223372036854775807) <|
    (f25_L2 x1 x2 K3 k) (n8 + 1)
    )
    ) else (
    K3 ()
    )
def f25_L3 (x1 : List (Int × Int × Int × List UInt8 × List UInt8)) (x2 : List Int) (r10 : List (List UInt8)) (K4 : Unit → Option Bool) : Nat → Nat → Option Bool
  | 0, _ => none
  | k + 1, n11 =>
    if (decide ((n11 : Int) < (((x2).length : Nat) : Int))) then (
    chk ((n11 : Int) < (((x2).length : Nat) : Int)) <|
    chk (0 ≤ (x2.getD n11 0) ∧ (x2.getD n11 0) < (((x1).length : Nat) : Int)) <|
    chk ((((x1.getD (((x2.getD n11 0)).toNat) (default : Int × Int × Int × List UInt8 × List UInt8)).2.2.1 != (-1 : Int)) == true) = true → 0 ≤ (n11 : Int) ∧ (n11 : Int) < (((r10).length : Nat) : Int)) <|
    chk ((((x1.getD (((x2.getD n11 0)).toNat) (default : Int × Int × Int × List UInt8 × List UInt8)).2.2.1 != (-1 : Int)) == true) = true → n11 < (r10).length) <|
    chk ((((x1.getD (((x2.getD n11 0)).toNat) (default : Int × Int × Int × List UInt8 × List UInt8)).2.2.1 != (-1 : Int)) == true) = true → 0 ≤ (n11 : Int) ∧ (n11 : Int) < (((x2).length : Nat) : Int)) <|
    chk ((((x1.getD (((x2.getD n11 0)).toNat) (default : Int × Int × Int × List UInt8 × List UInt8)).2.2.1 != (-1 : Int)) == true) = true → 0 ≤ (x2.getD n11 0) ∧ (x2.getD n11 0) < (((x1).length : Nat) : Int)) <|
    if (((x1.getD (((x2.getD n11 0)).toNat) (default : Int × Int × Int × List UInt8 × List UInt8)).2.2.1 != (-1 : Int)) && (!((r10.getD n11 []) == ((x1.getD (((x2.getD n11 0)).toNat) (default : Int × Int × Int × List UInt8 × List UInt8)).2.2.2.2)))) then (
    some false
    ) else (
    chk (((n11 : Int) + (1 : Int)) ≤ 9223372036854775807) <|
    (f25_L3 x1 x2 r10 K4 k) (n11 + 1)
    )
    ) else (
    K4 ()
    )
abbrev f25z0 (x2 : List Int) (n4 : Nat) := (decide ((x2.getD n4 0) < (0 : Int)))
abbrev f25z1 (x1 : List (Int × Int × Int × List UInt8 × List UInt8)) (n8 : Nat) := ((x1.getD n8 (default : Int × Int × Int × List UInt8 × List UInt8)).2.2.1 != (-1 : Int))
abbrev f25z2 (x1 : List (Int × Int × Int × List UInt8 × List UInt8)) (x2 : List Int) : List (Nat × V) := [(0, vL 5 eT31 (default : Int × Int × Int × List UInt8 × List UInt8) x1), (1, vL 1 eI 0 x2)]
abbrev f25z3 (x1 : List (Int × Int × Int × List UInt8 × List UInt8)) (x2 : List Int) (x3 : Bool) (n4 : Nat) : List (Nat × V) := [(0, vL 5 eT31 (default : Int × Int × Int × List UInt8 × List UInt8) x1), (1, vL 1 eI 0 x2), (2, .bool x3), (7, .int .i64 (n4 : Int))]
abbrev f25z4 (x2 : List Int) (n4 : Nat) := ((f25z0 x2 n4) == false)
abbrev f25z5 (r10 : List (List UInt8)) : Heap := [(6001, bL 9 1 eS [] r10)]
def f25 (x1 : List (Int × Int × Int × List UInt8 × List UInt8)) (x2 : List Int) (x3 : Bool) : Option Bool :=
  jn (fun (_ : Unit) =>
  jn (fun (_ : Unit) =>
  (f22 x1 x2).bind fun (r10 : List (List UInt8)) =>
  jn (fun (_ : Unit) =>
  some true
  ) fun (K4 : Unit → Option Bool) =>
  f25_L3 x1 x2 r10 K4 FUEL 0
  ) fun (K3 : Unit → Option Bool) =>
  f25_L2 x1 x2 K3 FUEL 0
  ) fun (K1 : Unit → Option Bool) =>
  f25_L0 x1 x2 x3 K1 FUEL 0
set_option maxRecDepth 100000 in
theorem f25_ok  (x1 : List (Int × Int × Int × List UInt8 × List UInt8)) (x2 : List Int) (x3 : Bool) (r : Bool) (h : f25 x1 x2 x3 = some r)  : Spec1 Tryz.prog 25 [] [] [] [vL 5 eT31 (default : Int × Int × Int × List UInt8 × List UInt8) x1, vL 1 eI 0 x2, .bool x3] (.bool r) [] := by
  unfold f25 at h
  refine Spec1.body 0 _ _ Tryz.func25 rfl Tryz.ntmps25 rfl rfl ?_
  refine q1rq [] [] ⟨114, [(0, q1aT31 x1), (1, q1aI x2), (2, .bool x3)], [], [], 0⟩ trivial ?_
  obtain ⟨K1, hK1, h⟩ := jn_some h
  refine AWp.join (α := Unit) (fun (x : Unit) => match x with | () => ⟨114, (f25z2 x1 x2), [], [], 0⟩) (fun x => K1 x = some r) ?_ ?_
  ·
    refine q1rq [] [] ⟨114, [(0, q1aT31 x1), (1, q1aI x2), (2, .bool x3), (7, .i (0 : Int))], [], [], 0⟩ trivial ?_
    refine AWp.block ?_
    refine AWp.loopL (α := Nat × Nat) (fun x => match x with | (_, n4) => ⟨114, (f25z3 x1 x2 x3 n4), [], [], 0⟩) (fun x => f25_L0 x1 x2 x3 K1 x.1 x.2 = some r) (fun x => x.1) (FUEL, 0) (Le.mk (s' := ⟨114, [(0, q1aT31 x1), (1, q1aI x2), (2, .bool x3), (7, .i (0 : Int))], [], [], 0⟩) rfl rfl ⟨.refl _, .refl _, .refl _, .refl _, trivial⟩ trivial) h ?_
    rintro ⟨k0, n4⟩ h
    cases k0 with
    | zero => exact nomatch (show (none : Option Bool) = some r from h)
    | succ k0 =>
    obtain ⟨C0, hC0⟩ : ∃ C, C = f25_L0 x1 x2 x3 K1 k0 := ⟨_, rfl⟩
    replace h := (f25_L0.eq_2 ..).symm.trans h
    try rw [← hC0] at h
    refine AWp.seq ?_
    refine q1rq [] [] ⟨114, [(0, q1aT31 x1), (1, q1aI x2), (2, .bool x3), (7, .i (n4 : Int)), (15, .bool (decide ((n4 : Int) < (lZ x2))))], [], [], 0⟩ trivial ?_
    refine AWp.cond (b := (decide ((n4 : Int) < (lZ x2)))) (by kernel_rfl) (fun hc1 => ?_) (fun hc1 => ?_)
    ·
      replace h := ite_tb hc1 h
      refine AWp.skip ?_
      refine thenQ_normal ?_
      obtain ⟨K2, hK2, h⟩ := jn_some h
      refine AWp.join (α := Unit) (fun (x : Unit) => match x with | () => ⟨114, (f25z3 x1 x2 x3 n4), [], [], 0⟩) (fun x => K2 x = some r) ?_ ?_
      ·
        refine AWp.block ?_
        refine AWp.seq ?_
        refine AWp.seq ?_
        obtain ⟨r5, hr5, h⟩ := optc_some h
        obtain ⟨ob0p, h⟩ := chk_some h
        have ob0 : 0 ≤ (n4 : Int) ∧ (n4 : Int) < (((x2).length : Nat) : Int) := ⟨by omega, ob0p⟩
        obtain ⟨ob1, h⟩ := chk_some h
        have ob2 := idA ((f25z4 x2 n4) = true)
        have ob3 := idA ((f25z4 x2 n4) = true)
        have ob4 := idA ((f25z4 x2 n4) = true)
        have ob5 := idA ((f25z4 x2 n4) = true)
        have ob6 := idA ((f25z4 x2 n4) = true)
        have ob7 := idA ((f25z4 x2 n4) = true)
        have ob8 : true = true → (f25z0 x2 n4) = false → (f25z4 x2 n4) = true := fun _ h => beq_iff_eq.2 h
        obtain ⟨ob9, h⟩ := chk_some h
        have ob10 := idA ((((f25z0 x2 n4) || (decide ((x2.getD n4 0) ≥ (lZ x1)))) == false) = true)
        have ob11 := idA ((((f25z0 x2 n4) || (decide ((x2.getD n4 0) ≥ (lZ x1)))) == false) = true)
        obtain ⟨ob12, h⟩ := chk_some h
        have ob13 := idA ((((f25z0 x2 n4) || (decide ((x2.getD n4 0) ≥ (lZ x1)))) == false) = true)
        have ob14 := idA ((((f25z0 x2 n4) || (decide ((x2.getD n4 0) ≥ (lZ x1)))) == false) = true)
        have ob15 := idA ((((f25z0 x2 n4) || (decide ((x2.getD n4 0) ≥ (lZ x1)))) == false) = true)
        have ob16 := idA ((((f25z0 x2 n4) || (decide ((x2.getD n4 0) ≥ (lZ x1)))) == false) = true)
        have ob17 := idA ((((f25z0 x2 n4) || (decide ((x2.getD n4 0) ≥ (lZ x1)))) == false) = true)
        have ob18 := bqA ((f25z0 x2 n4) || (decide ((x2.getD n4 0) ≥ (lZ x1)))) false
        refine q1rr [] [(22, ⟨[q1aI (x2.take n4), .i (x2.getD n4 0)], [], [], [], .bool r5, [], [], []⟩)] ⟨114, [(0, q1aT31 x1), (1, q1aI x2), (2, .bool x3), (7, .i (n4 : Int)), (41, .bool (((f25z0 x2 n4) || (decide ((x2.getD n4 0) ≥ (lZ x1)))) || r5))], [], [], 0⟩ (ac6 ob0 (And.intro ob1 (an2 ob2 ob3)) (an1 ob4) (an1 ob5) (an2 ob6 ob7) ob8 (an5 (And.intro ob9 (an2 ob10 ob11)) (And.intro ob12 (an2 ob13 ob14)) (an1 ob15) (And.intro (cpL [] [] [.arr 1 n4 (encF eI 0 x2), .i (x2.getD n4 0)] (fun hc => (f42_ok _ _ _ (hr5 hc))) (fun _ => ⟨(VLe.takeL (by first | omega | (simp only [List.length_append, List.length_cons, List.length_nil, List.length_take, List.length_drop] at *; omega) | (simp; done) | (simp_all; done) | (simp_all; omega) | rfl)), .refl _, trivial⟩) (.inl rfl)) (an2 ob16 ob17)) ob18)) ?_
        refine thenQ_normal ?_
        refine AWp.cond (b := (((f25z0 x2 n4) || (decide ((x2.getD n4 0) ≥ (lZ x1)))) || r5)) (by kernel_rfl) (fun hc2 => ?_) (fun hc2 => ?_)
        ·
          replace h := ite_tb hc2 h
          refine q1rq [] [] ⟨114, [(6, .bool false)], [], [], 0⟩ trivial ?_
          have hret := Option.some.inj h
          subst hret
          refine AWp.le (Le.mk (s' := ⟨114, [(6, .bool false)], [], [], 0⟩) rfl rfl ⟨.refl _, trivial⟩ trivial) ?_
          refine AWp.ret ?_
          refine thenQ_ret ?_
          refine blockQ_ret ?_
          refine joinQ_ret ?_
          refine thenQ_ret ?_
          refine blockQ_ret ?_
          refine joinQ_ret ?_
          exact bodyQ_ret _ rfl ⟨rfl, rfl⟩ rfl
        ·
          replace h := ite_fb hc2 h
          refine AWp.skip ?_
          refine thenQ_normal ?_
          refine q1rq [] [] ⟨114, [(0, q1aT31 x1), (1, q1aI x2), (2, .bool x3), (7, .i (n4 : Int)), (8, .i (0 : Int))], [], [], 0⟩ trivial ?_
          refine AWp.block ?_
          refine AWp.loopL (α := Nat × Nat) (fun x => match x with | (_, n6) => ⟨114, [(0, q1aT31 x1), (1, q1aI x2), (2, .bool x3), (7, .i (n4 : Int)), (8, .i (n6 : Int))], [], [], 0⟩) (fun x => f25_L1 x1 x2 x3 n4 K2 x.1 x.2 = some r) (fun x => x.1) (FUEL, 0) (Le.mk (s' := ⟨114, [(0, q1aT31 x1), (1, q1aI x2), (2, .bool x3), (7, .i (n4 : Int)), (8, .i (0 : Int))], [], [], 0⟩) rfl rfl ⟨.refl _, .refl _, .refl _, .refl _, .refl _, trivial⟩ trivial) h ?_
          rintro ⟨k1, n6⟩ h
          cases k1 with
          | zero => exact nomatch (show (none : Option Bool) = some r from h)
          | succ k1 =>
          obtain ⟨C1, hC1⟩ : ∃ C, C = f25_L1 x1 x2 x3 n4 K2 k1 := ⟨_, rfl⟩
          replace h := (f25_L1.eq_2 ..).symm.trans h
          try rw [← hC1] at h
          refine AWp.seq ?_
          refine q1rq [] [] ⟨114, [(0, q1aT31 x1), (1, q1aI x2), (2, .bool x3), (7, .i (n4 : Int)), (8, .i (n6 : Int)), (44, .bool (decide ((n6 : Int) < (n4 : Int))))], [], [], 0⟩ trivial ?_
          refine AWp.cond (b := (decide ((n6 : Int) < (n4 : Int)))) (by kernel_rfl) (fun hc3 => ?_) (fun hc3 => ?_)
          ·
            replace h := ite_tb hc3 h
            refine AWp.skip ?_
            refine thenQ_normal ?_
            refine AWp.seq ?_
            refine AWp.block ?_
            refine AWp.seq ?_
            obtain ⟨r7, hr7, h⟩ := bind_ok h
            obtain ⟨ob19p, h⟩ := chk_some h
            have ob19 : 0 ≤ (n4 : Int) ∧ (n4 : Int) < (((x2).length : Nat) : Int) := ⟨by omega, ob19p⟩
            obtain ⟨ob20, ob21p, h⟩ := ck2 h
            have ob21 : 0 ≤ (n6 : Int) ∧ (n6 : Int) < (((x2).length : Nat) : Int) := ⟨by omega, ob21p⟩
            obtain ⟨ob22, h⟩ := chk_some h
            refine q1rr [] [(15, ⟨[.agg [.i (x1.getD (((x2.getD n4 0)).toNat) q1dT31).1, .i (x1.getD (((x2.getD n4 0)).toNat) q1dT31).2.1, .i (x1.getD (((x2.getD n4 0)).toNat) q1dT31).2.2.1, .str (x1.getD (((x2.getD n4 0)).toNat) q1dT31).2.2.2.1, .str (x1.getD (((x2.getD n4 0)).toNat) q1dT31).2.2.2.2], .agg [.i (x1.getD (((x2.getD n6 0)).toNat) q1dT31).1, .i (x1.getD (((x2.getD n6 0)).toNat) q1dT31).2.1, .i (x1.getD (((x2.getD n6 0)).toNat) q1dT31).2.2.1, .str (x1.getD (((x2.getD n6 0)).toNat) q1dT31).2.2.2.1, .str (x1.getD (((x2.getD n6 0)).toNat) q1dT31).2.2.2.2], .bool x3], [], [], [], .bool r7, [], [], []⟩)] ⟨114, [(0, q1aT31 x1), (1, q1aI x2), (2, .bool x3), (7, .i (n4 : Int)), (8, .i (n6 : Int)), (62, .bool r7)], [], [], 0⟩ (an5 ob19 ob20 ob21 ob22 (cpT (f43_ok _ _ _ _ _ _ _ _ _ _ _ _ hr7))) ?_
            refine thenQ_normal ?_
            refine AWp.cond (b := r7) (by kernel_rfl) (fun hc4 => ?_) (fun hc4 => ?_)
            ·
              replace h := ite_tb hc4 h
              refine q1rq [] [] ⟨114, [(6, .bool false)], [], [], 0⟩ trivial ?_
              have hret := Option.some.inj h
              subst hret
              refine AWp.le (Le.mk (s' := ⟨114, [(6, .bool false)], [], [], 0⟩) rfl rfl ⟨.refl _, trivial⟩ trivial) ?_
              refine AWp.ret ?_
              refine blockQ_ret ?_
              refine thenQ_ret ?_
              refine thenQ_ret ?_
              refine blockQ_ret ?_
              refine blockQ_ret ?_
              refine joinQ_ret ?_
              refine thenQ_ret ?_
              refine blockQ_ret ?_
              refine joinQ_ret ?_
              exact bodyQ_ret _ rfl ⟨rfl, rfl⟩ rfl
            ·
              replace h := ite_fb hc4 h
              refine AWp.skip ?_
              refine blockQ_normal ?_
              refine thenQ_normal ?_
              obtain ⟨ob23p, h⟩ := chk_some h
              have ob23 : -9223372036854775808 ≤ ((n6 : Int) + (1 : Int)) ∧ ((n6 : Int) + (1 : Int)) ≤ 9223372036854775807 := ⟨by omega, ob23p⟩
              refine q1rr [] [] ⟨114, [(0, q1aT31 x1), (1, q1aI x2), (2, .bool x3), (7, .i (n4 : Int)), (8, .i (((n6 + 1) : Nat) : Int))], [], [], 0⟩ (an1 ob23) ?_
              rw [hC1] at h
              exact loopQ_normal (_, (n6 + 1)) (Le.mk rfl rfl ⟨.refl _, .refl _, .refl _, .refl _, .refl _, trivial⟩ trivial) h (Nat.lt_succ_self _)
          ·
            replace h := ite_fb hc3 h
            refine AWp.exit ?_
            refine thenQ_exit ?_
            refine thenQ_exit ?_
            refine blockQ_same ?_
            refine blockQ_normal ?_
            exact joinQ_normal () (Le.mk rfl rfl ⟨.refl _, .refl _, .refl _, .refl _, trivial⟩ trivial) h
      ·
        rintro ⟨⟩ h
        replace h := (congrFun hK2 _).symm.trans h
        obtain ⟨ob24p, h⟩ := chk_some h
        have ob24 : -9223372036854775808 ≤ ((n4 : Int) + (1 : Int)) ∧ ((n4 : Int) + (1 : Int)) ≤ 9223372036854775807 := ⟨by omega, ob24p⟩
        refine q1rr [] [] ⟨114, [(0, q1aT31 x1), (1, q1aI x2), (2, .bool x3), (7, .i (((n4 + 1) : Nat) : Int))], [], [], 0⟩ (an1 ob24) ?_
        rw [hC0] at h
        exact loopQ_normal (_, (n4 + 1)) (Le.mk rfl rfl ⟨.refl _, .refl _, .refl _, .refl _, trivial⟩ trivial) h (Nat.lt_succ_self _)
    ·
      replace h := ite_fb hc1 h
      refine AWp.exit ?_
      refine thenQ_exit ?_
      refine thenQ_exit ?_
      refine blockQ_same ?_
      exact joinQ_normal () (Le.mk rfl rfl ⟨.refl _, .refl _, trivial⟩ trivial) h
  ·
    rintro ⟨⟩ h
    replace h := (congrFun hK1 _).symm.trans h
    obtain ⟨K3, hK3, h⟩ := jn_some h
    refine AWp.join (α := Unit) (fun (x : Unit) => match x with | () => ⟨114, (f25z2 x1 x2), [], [], 0⟩) (fun x => K3 x = some r) ?_ ?_
    ·
      refine q1rq [] [] ⟨114, [(0, q1aT31 x1), (1, q1aI x2), (9, .i (0 : Int))], [], [], 0⟩ trivial ?_
      refine AWp.block ?_
      refine AWp.loopL (α := Nat × Nat) (fun x => match x with | (_, n8) => ⟨114, [(0, q1aT31 x1), (1, q1aI x2), (9, .i (n8 : Int))], [], [], 0⟩) (fun x => f25_L2 x1 x2 K3 x.1 x.2 = some r) (fun x => x.1) (FUEL, 0) (Le.mk (s' := ⟨114, [(0, q1aT31 x1), (1, q1aI x2), (9, .i (0 : Int))], [], [], 0⟩) rfl rfl ⟨.refl _, .refl _, .refl _, trivial⟩ trivial) h ?_
      rintro ⟨k2, n8⟩ h
      cases k2 with
      | zero => exact nomatch (show (none : Option Bool) = some r from h)
      | succ k2 =>
      obtain ⟨C2, hC2⟩ : ∃ C, C = f25_L2 x1 x2 K3 k2 := ⟨_, rfl⟩
      replace h := (f25_L2.eq_2 ..).symm.trans h
      try rw [← hC2] at h
      refine AWp.seq ?_
      refine q1rq [] [] ⟨114, [(0, q1aT31 x1), (1, q1aI x2), (9, .i (n8 : Int)), (66, .bool (decide ((n8 : Int) < (lZ x1))))], [], [], 0⟩ trivial ?_
      refine AWp.cond (b := (decide ((n8 : Int) < (lZ x1)))) (by kernel_rfl) (fun hc5 => ?_) (fun hc5 => ?_)
      ·
        replace h := ite_tb hc5 h
        refine AWp.skip ?_
        refine thenQ_normal ?_
        refine AWp.seq ?_
        refine AWp.block ?_
        refine AWp.seq ?_
        obtain ⟨r9, hr9, h⟩ := optc_some h
        obtain ⟨ob25p, h⟩ := chk_some h
        have ob25 : 0 ≤ (n8 : Int) ∧ (n8 : Int) < (((x1).length : Nat) : Int) := ⟨by omega, ob25p⟩
        have ob26 := idA (((f25z1 x1 n8) == true) = true)
        have ob27 := idA (((f25z1 x1 n8) == true) = true)
        have ob28 := idA (((f25z1 x1 n8) == true) = true)
        have ob29 := bqA (f25z1 x1 n8) true
        refine q1rr [] [(9, ⟨[q1aI x2, .i (n8 : Int)], [], [], [], .bool r9, [], [], []⟩)] ⟨114, [(0, q1aT31 x1), (1, q1aI x2), (9, .i (n8 : Int)), (80, .bool ((f25z1 x1 n8) && (!r9)))], [], [], 0⟩ (an4 ob25 (And.intro (cpC fun hc => (f42_ok _ _ _ (hr9 hc))) (an2 ob26 ob27)) (an1 ob28) ob29) ?_
        refine thenQ_normal ?_
        refine AWp.cond (b := ((f25z1 x1 n8) && (!r9))) (by kernel_rfl) (fun hc6 => ?_) (fun hc6 => ?_)
        ·
          replace h := ite_tb hc6 h
          refine q1rq [] [] ⟨114, [(6, .bool false)], [], [], 0⟩ trivial ?_
          have hret := Option.some.inj h
          subst hret
          refine AWp.le (Le.mk (s' := ⟨114, [(6, .bool false)], [], [], 0⟩) rfl rfl ⟨.refl _, trivial⟩ trivial) ?_
          refine AWp.ret ?_
          refine blockQ_ret ?_
          refine thenQ_ret ?_
          refine thenQ_ret ?_
          refine blockQ_ret ?_
          refine joinQ_ret ?_
          exact bodyQ_ret _ rfl ⟨rfl, rfl⟩ rfl
        ·
          replace h := ite_fb hc6 h
          refine AWp.skip ?_
          refine blockQ_normal ?_
          refine thenQ_normal ?_
          obtain ⟨ob30p, h⟩ := chk_some h
          have ob30 : -9223372036854775808 ≤ ((n8 : Int) + (1 : Int)) ∧ ((n8 : Int) + (1 : Int)) ≤ 9223372036854775807 := ⟨by omega, ob30p⟩
          refine q1rr [] [] ⟨114, [(0, q1aT31 x1), (1, q1aI x2), (9, .i (((n8 + 1) : Nat) : Int))], [], [], 0⟩ (an1 ob30) ?_
          rw [hC2] at h
          exact loopQ_normal (_, (n8 + 1)) (Le.mk rfl rfl ⟨.refl _, .refl _, .refl _, trivial⟩ trivial) h (Nat.lt_succ_self _)
      ·
        replace h := ite_fb hc5 h
        refine AWp.exit ?_
        refine thenQ_exit ?_
        refine thenQ_exit ?_
        refine blockQ_same ?_
        exact joinQ_normal () (Le.mk rfl rfl ⟨.refl _, .refl _, trivial⟩ trivial) h
    ·
      rintro ⟨⟩ h
      replace h := (congrFun hK3 _).symm.trans h
      refine AWp.seq ?_
      obtain ⟨r10, hr10, h⟩ := bind_ok h
      refine q1rr [] [(2, ⟨[q1aT31 x1, q1aI x2], [], [], (f25z5 r10), .own 6001, [6001], [], []⟩)] ⟨114, [(0, q1aT31 x1), (1, q1aI x2), (10, .own 6001)], (f25z5 r10), [], 0⟩ (an1 (cpT (Spec1.ren (swapN 3000 6001) (swapN_inv 3000 6001) rfl (f22_ok _ _ _ hr10)))) ?_
      refine thenQ_normal ?_
      obtain ⟨K4, hK4, h⟩ := jn_some h
      refine AWp.join (α := Unit) (fun (x : Unit) => match x with | () => ⟨114, [], [], [], 0⟩) (fun x => K4 x = some r) ?_ ?_
      ·
        refine q1rq [] [] ⟨114, [(0, q1aT31 x1), (1, q1aI x2), (10, .own 6001), (11, .i (0 : Int))], (f25z5 r10), [], 0⟩ trivial ?_
        refine AWp.block ?_
        refine AWp.loopL (α := Nat × Nat) (fun x => match x with | (_, n11) => ⟨114, [(0, q1aT31 x1), (1, q1aI x2), (10, .own 6001), (11, .i (n11 : Int))], (f25z5 r10), [], 0⟩) (fun x => f25_L3 x1 x2 r10 K4 x.1 x.2 = some r) (fun x => x.1) (FUEL, 0) (Le.mk (s' := ⟨114, [(0, q1aT31 x1), (1, q1aI x2), (10, .own 6001), (11, .i (0 : Int))], (f25z5 r10), [], 0⟩) rfl rfl ⟨.refl _, .refl _, .refl _, .refl _, trivial⟩ ⟨⟨_, rfl, .refl _⟩, trivial⟩) h ?_
        rintro ⟨k3, n11⟩ h
        cases k3 with
        | zero => exact nomatch (show (none : Option Bool) = some r from h)
        | succ k3 =>
        obtain ⟨C3, hC3⟩ : ∃ C, C = f25_L3 x1 x2 r10 K4 k3 := ⟨_, rfl⟩
        replace h := (f25_L3.eq_2 ..).symm.trans h
        try rw [← hC3] at h
        refine AWp.seq ?_
        refine q1rq [] [] ⟨114, [(0, q1aT31 x1), (1, q1aI x2), (10, .own 6001), (11, .i (n11 : Int)), (87, .bool (decide ((n11 : Int) < (lZ x2))))], (f25z5 r10), [], 0⟩ trivial ?_
        refine AWp.cond (b := (decide ((n11 : Int) < (lZ x2)))) (by kernel_rfl) (fun hc7 => ?_) (fun hc7 => ?_)
        ·
          replace h := ite_tb hc7 h
          refine AWp.skip ?_
          refine thenQ_normal ?_
          refine AWp.seq ?_
          refine AWp.block ?_
          refine AWp.seq ?_
          obtain ⟨ob31p, h⟩ := chk_some h
          have ob31 : 0 ≤ (n11 : Int) ∧ (n11 : Int) < (((x2).length : Nat) : Int) := ⟨by omega, ob31p⟩
          obtain ⟨ob32, ob33, h⟩ := ck2 h
          have ob34 := idA ((((x1.getD (((x2.getD n11 0)).toNat) q1dT31).2.2.1 != (-1 : Int)) == true) = true)
          have ob35 := idA ((((x1.getD (((x2.getD n11 0)).toNat) q1dT31).2.2.1 != (-1 : Int)) == true) = true)
          obtain ⟨ob36, h⟩ := chk_some h
          have ob37 := idA ((((x1.getD (((x2.getD n11 0)).toNat) q1dT31).2.2.1 != (-1 : Int)) == true) = true)
          obtain ⟨ob38, h⟩ := chk_some h
          have ob39 := idA ((((x1.getD (((x2.getD n11 0)).toNat) q1dT31).2.2.1 != (-1 : Int)) == true) = true)
          have ob40 := idA ((((x1.getD (((x2.getD n11 0)).toNat) q1dT31).2.2.1 != (-1 : Int)) == true) = true)
          have ob41 := idA ((((x1.getD (((x2.getD n11 0)).toNat) q1dT31).2.2.1 != (-1 : Int)) == true) = true)
          obtain ⟨ob42, h⟩ := chk_some h
          have ob43 := idA ((((x1.getD (((x2.getD n11 0)).toNat) q1dT31).2.2.1 != (-1 : Int)) == true) = true)
          have ob44 := idA ((((x1.getD (((x2.getD n11 0)).toNat) q1dT31).2.2.1 != (-1 : Int)) == true) = true)
          have ob45 := idA ((((x1.getD (((x2.getD n11 0)).toNat) q1dT31).2.2.1 != (-1 : Int)) == true) = true)
          have ob46 := idA ((((x1.getD (((x2.getD n11 0)).toNat) q1dT31).2.2.1 != (-1 : Int)) == true) = true)
          have ob47 := idA ((((x1.getD (((x2.getD n11 0)).toNat) q1dT31).2.2.1 != (-1 : Int)) == true) = true)
          have ob48 := idA ((((x1.getD (((x2.getD n11 0)).toNat) q1dT31).2.2.1 != (-1 : Int)) == true) = true)
          have ob49 := bqA ((x1.getD (((x2.getD n11 0)).toNat) q1dT31).2.2.1 != (-1 : Int)) true
          refine q1rr [] [] ⟨114, [(0, q1aT31 x1), (1, q1aI x2), (10, .own 6001), (11, .i (n11 : Int)), (113, .bool (((x1.getD (((x2.getD n11 0)).toNat) q1dT31).2.2.1 != (-1 : Int)) && (!((r10.getD n11 []) == ((x1.getD (((x2.getD n11 0)).toNat) q1dT31).2.2.2.2)))))], (f25z5 r10), [], 0⟩ (ac6 ob31 ob32 (And.intro ob33 (an2 ob34 ob35)) (And.intro ob36 (an1 ob37)) (And.intro ob38 (an2 ob39 ob40)) (an1 ob41) (an5 (And.intro ob42 (an2 ob43 ob44)) (an1 ob45) (an1 ob46) (an2 ob47 ob48) ob49)) ?_
          refine thenQ_normal ?_
          refine AWp.cond (b := (((x1.getD (((x2.getD n11 0)).toNat) q1dT31).2.2.1 != (-1 : Int)) && (!((r10.getD n11 []) == ((x1.getD (((x2.getD n11 0)).toNat) q1dT31).2.2.2.2))))) (by kernel_rfl) (fun hc8 => ?_) (fun hc8 => ?_)
          ·
            replace h := ite_tb hc8 h
            refine q1rq [] [] ⟨114, [(6, .bool false)], [], [], 0⟩ trivial ?_
            have hret := Option.some.inj h
            subst hret
            refine AWp.le (Le.mk (s' := ⟨114, [(6, .bool false)], [], [], 0⟩) rfl rfl ⟨.refl _, trivial⟩ trivial) ?_
            refine AWp.ret ?_
            refine blockQ_ret ?_
            refine thenQ_ret ?_
            refine thenQ_ret ?_
            refine blockQ_ret ?_
            refine joinQ_ret ?_
            exact bodyQ_ret _ rfl ⟨rfl, rfl⟩ rfl
          ·
            replace h := ite_fb hc8 h
            refine AWp.skip ?_
            refine blockQ_normal ?_
            refine thenQ_normal ?_
            obtain ⟨ob50p, h⟩ := chk_some h
            have ob50 : -9223372036854775808 ≤ ((n11 : Int) + (1 : Int)) ∧ ((n11 : Int) + (1 : Int)) ≤ 9223372036854775807 := ⟨by omega, ob50p⟩
            refine q1rr [] [] ⟨114, [(0, q1aT31 x1), (1, q1aI x2), (10, .own 6001), (11, .i (((n11 + 1) : Nat) : Int))], (f25z5 r10), [], 0⟩ (an1 ob50) ?_
            rw [hC3] at h
            exact loopQ_normal (_, (n11 + 1)) (Le.mk rfl rfl ⟨.refl _, .refl _, .refl _, .refl _, trivial⟩ ⟨⟨_, rfl, .refl _⟩, trivial⟩) h (Nat.lt_succ_self _)
        ·
          replace h := ite_fb hc7 h
          refine AWp.exit ?_
          refine thenQ_exit ?_
          refine thenQ_exit ?_
          refine blockQ_same ?_
          exact joinQ_normal () (Le.mk rfl rfl trivial trivial) h
      ·
        rintro ⟨⟩ h
        replace h := (congrFun hK4 _).symm.trans h
        refine q1rq [] [] ⟨114, [(6, .bool true)], [], [], 0⟩ trivial ?_
        have hret := Option.some.inj h
        subst hret
        refine AWp.le (Le.mk (s' := ⟨114, [(6, .bool true)], [], [], 0⟩) rfl rfl ⟨.refl _, trivial⟩ trivial) ?_
        refine AWp.ret ?_
        exact bodyQ_ret _ rfl ⟨rfl, rfl⟩ rfl
def f27 (x1 : List (Int × Int × Int × List UInt8 × List UInt8)) (x2 : List Int) : Option Bool :=
  (f18 x1).bind fun (r3 : Int) =>
  optc ((r3 == (0 : Int)) == true) (f25 x1 x2 false) fun (r4 : Bool) =>
  some ((r3 == (0 : Int)) && r4)
set_option maxRecDepth 100000 in
theorem f27_ok  (x1 : List (Int × Int × Int × List UInt8 × List UInt8)) (x2 : List Int) (r : Bool) (h : f27 x1 x2 = some r)  : Spec1 Tryz.prog 27 [] [] [] [vL 5 eT31 (default : Int × Int × Int × List UInt8 × List UInt8) x1, vL 1 eI 0 x2] (.bool r) [] := by
  unfold f27 at h
  refine Spec1.body 0 _ _ Tryz.func27 rfl Tryz.ntmps27 rfl rfl ?_
  refine q1rq [] [] ⟨13, [(0, q1aT31 x1), (1, q1aI x2)], [], [], 0⟩ trivial ?_
  refine AWp.seq ?_
  obtain ⟨r3, hr3, h⟩ := bind_ok h
  obtain ⟨r4, hr4, h⟩ := optc_some h
  have ob0 := idA (((r3 == (0 : Int)) == true) = true)
  have ob1 := idA (((r3 == (0 : Int)) == true) = true)
  have ob2 := bqA (r3 == (0 : Int)) true
  refine q1rr [] [(1, ⟨[q1aT31 x1], [], [], [], .i r3, [], [], []⟩), (6, ⟨[q1aT31 x1, q1aI x2, .bool false], [], [], [], .bool r4, [], [], []⟩)] ⟨13, [(4, .bool ((r3 == (0 : Int)) && r4))], [], [], 0⟩ (an3 (cpT (f18_ok _ _ hr3)) (And.intro (cpC fun hc => (f25_ok _ _ _ _ (hr4 hc))) (an2 ob0 ob1)) ob2) ?_
  refine thenQ_normal ?_
  have hret := Option.some.inj h
  subst hret
  refine AWp.le (Le.mk (s' := ⟨13, [(4, .bool ((r3 == (0 : Int)) && r4))], [], [], 0⟩) rfl rfl ⟨.refl _, trivial⟩ trivial) ?_
  refine AWp.ret ?_
  exact bodyQ_ret _ rfl ⟨rfl, rfl⟩ rfl
def f28_L0 (x1 : List (List UInt8)) (x2 : List (List UInt8)) (K1 : Unit → Option Bool) : Nat → Nat → Option Bool
  | 0, _ => none
  | k + 1, n3 =>
    if (decide ((n3 : Int) < (((x1).length : Nat) : Int))) then (
    chk ((n3 : Int) < (((x1).length : Nat) : Int)) <|
    chk ((n3 : Int) < (((x2).length : Nat) : Int)) <|
    if (!((x1.getD n3 []) == (x2.getD n3 []))) then (
    some false
    ) else (
    chk (((n3 : Int) + (1 : Int)) ≤ 9223372036854775807) <|
    (f28_L0 x1 x2 K1 k) (n3 + 1)
    )
    ) else (
    K1 ()
    )
def f28 (x1 : List (List UInt8)) (x2 : List (List UInt8)) : Option Bool :=
  if ((((x1).length : Nat) : Int) != (((x2).length : Nat) : Int)) then (
  some false
  ) else (
  jn (fun (_ : Unit) =>
  some true
  ) fun (K1 : Unit → Option Bool) =>
  f28_L0 x1 x2 K1 FUEL 0
  )
set_option maxRecDepth 100000 in
theorem f28_ok  (x1 : List (List UInt8)) (x2 : List (List UInt8)) (r : Bool) (h : f28 x1 x2 = some r)  : Spec1 Tryz.prog 28 [] [] [] [vL 1 eS [] x1, vL 1 eS [] x2] (.bool r) [] := by
  unfold f28 at h
  refine Spec1.body 0 _ _ Tryz.func28 rfl Tryz.ntmps28 rfl rfl ?_
  refine q1rq [] [] ⟨26, [(0, q1aS x1), (1, q1aS x2)], [], [], 0⟩ trivial ?_
  refine AWp.seq ?_
  refine q1rq [] [] ⟨26, [(0, q1aS x1), (1, q1aS x2), (10, .bool ((lZ x1) != (lZ x2)))], [], [], 0⟩ trivial ?_
  refine AWp.cond (b := ((lZ x1) != (lZ x2))) (by kernel_rfl) (fun hc1 => ?_) (fun hc1 => ?_)
  ·
    replace h := ite_tb hc1 h
    refine q1rq [] [] ⟨26, [(4, .bool false)], [], [], 0⟩ trivial ?_
    have hret := Option.some.inj h
    subst hret
    refine AWp.le (Le.mk (s' := ⟨26, [(4, .bool false)], [], [], 0⟩) rfl rfl ⟨.refl _, trivial⟩ trivial) ?_
    refine AWp.ret ?_
    refine thenQ_ret ?_
    exact bodyQ_ret _ rfl ⟨rfl, rfl⟩ rfl
  ·
    replace h := ite_fb hc1 h
    refine AWp.skip ?_
    refine thenQ_normal ?_
    obtain ⟨K1, hK1, h⟩ := jn_some h
    refine AWp.join (α := Unit) (fun (x : Unit) => match x with | () => ⟨26, [], [], [], 0⟩) (fun x => K1 x = some r) ?_ ?_
    ·
      refine q1rq [] [] ⟨26, [(0, q1aS x1), (1, q1aS x2), (5, .i (0 : Int))], [], [], 0⟩ trivial ?_
      refine AWp.block ?_
      refine AWp.loopL (α := Nat × Nat) (fun x => match x with | (_, n3) => ⟨26, [(0, q1aS x1), (1, q1aS x2), (5, .i (n3 : Int))], [], [], 0⟩) (fun x => f28_L0 x1 x2 K1 x.1 x.2 = some r) (fun x => x.1) (FUEL, 0) (Le.mk (s' := ⟨26, [(0, q1aS x1), (1, q1aS x2), (5, .i (0 : Int))], [], [], 0⟩) rfl rfl ⟨.refl _, .refl _, .refl _, trivial⟩ trivial) h ?_
      rintro ⟨k0, n3⟩ h
      cases k0 with
      | zero => exact nomatch (show (none : Option Bool) = some r from h)
      | succ k0 =>
      obtain ⟨C0, hC0⟩ : ∃ C, C = f28_L0 x1 x2 K1 k0 := ⟨_, rfl⟩
      replace h := (f28_L0.eq_2 ..).symm.trans h
      try rw [← hC0] at h
      refine AWp.seq ?_
      refine q1rq [] [] ⟨26, [(0, q1aS x1), (1, q1aS x2), (5, .i (n3 : Int)), (14, .bool (decide ((n3 : Int) < (lZ x1))))], [], [], 0⟩ trivial ?_
      refine AWp.cond (b := (decide ((n3 : Int) < (lZ x1)))) (by kernel_rfl) (fun hc2 => ?_) (fun hc2 => ?_)
      ·
        replace h := ite_tb hc2 h
        refine AWp.skip ?_
        refine thenQ_normal ?_
        refine AWp.seq ?_
        refine AWp.block ?_
        refine AWp.seq ?_
        obtain ⟨ob0p, h⟩ := chk_some h
        have ob0 : 0 ≤ (n3 : Int) ∧ (n3 : Int) < (((x1).length : Nat) : Int) := ⟨by omega, ob0p⟩
        obtain ⟨ob1p, h⟩ := chk_some h
        have ob1 : 0 ≤ (n3 : Int) ∧ (n3 : Int) < (((x2).length : Nat) : Int) := ⟨by omega, ob1p⟩
        refine q1rr [] [] ⟨26, [(0, q1aS x1), (1, q1aS x2), (5, .i (n3 : Int)), (25, .bool (!((x1.getD n3 []) == (x2.getD n3 []))))], [], [], 0⟩ (an2 ob0 ob1) ?_
        refine thenQ_normal ?_
        refine AWp.cond (b := (!((x1.getD n3 []) == (x2.getD n3 [])))) (by kernel_rfl) (fun hc3 => ?_) (fun hc3 => ?_)
        ·
          replace h := ite_tb hc3 h
          refine q1rq [] [] ⟨26, [(4, .bool false)], [], [], 0⟩ trivial ?_
          have hret := Option.some.inj h
          subst hret
          refine AWp.le (Le.mk (s' := ⟨26, [(4, .bool false)], [], [], 0⟩) rfl rfl ⟨.refl _, trivial⟩ trivial) ?_
          refine AWp.ret ?_
          refine blockQ_ret ?_
          refine thenQ_ret ?_
          refine thenQ_ret ?_
          refine blockQ_ret ?_
          refine joinQ_ret ?_
          exact bodyQ_ret _ rfl ⟨rfl, rfl⟩ rfl
        ·
          replace h := ite_fb hc3 h
          refine AWp.skip ?_
          refine blockQ_normal ?_
          refine thenQ_normal ?_
          obtain ⟨ob2p, h⟩ := chk_some h
          have ob2 : -9223372036854775808 ≤ ((n3 : Int) + (1 : Int)) ∧ ((n3 : Int) + (1 : Int)) ≤ 9223372036854775807 := ⟨by omega, ob2p⟩
          refine q1rr [] [] ⟨26, [(0, q1aS x1), (1, q1aS x2), (5, .i (((n3 + 1) : Nat) : Int))], [], [], 0⟩ (an1 ob2) ?_
          rw [hC0] at h
          exact loopQ_normal (_, (n3 + 1)) (Le.mk rfl rfl ⟨.refl _, .refl _, .refl _, trivial⟩ trivial) h (Nat.lt_succ_self _)
      ·
        replace h := ite_fb hc2 h
        refine AWp.exit ?_
        refine thenQ_exit ?_
        refine thenQ_exit ?_
        refine blockQ_same ?_
        exact joinQ_normal () (Le.mk rfl rfl trivial trivial) h
    ·
      rintro ⟨⟩ h
      replace h := (congrFun hK1 _).symm.trans h
      refine q1rq [] [] ⟨26, [(4, .bool true)], [], [], 0⟩ trivial ?_
      have hret := Option.some.inj h
      subst hret
      refine AWp.le (Le.mk (s' := ⟨26, [(4, .bool true)], [], [], 0⟩) rfl rfl ⟨.refl _, trivial⟩ trivial) ?_
      refine AWp.ret ?_
      exact bodyQ_ret _ rfl ⟨rfl, rfl⟩ rfl
abbrev f7z0 (x1 : List (Int × Int × Int × List UInt8 × List UInt8)) (x2 : List Int) : List V := [vL 5 eT31 (default : Int × Int × Int × List UInt8 × List UInt8) x1, vL 1 eI 0 x2]
abbrev f7z1 (x1 : List (Int × Int × Int × List UInt8 × List UInt8)) : List V := [vL 5 eT31 (default : Int × Int × Int × List UInt8 × List UInt8) x1]
def f7 (x1 : List (Int × Int × Int × List UInt8 × List UInt8)) (x2 : List Int) : Option Bool :=
  (f9 ).bind fun (r3 : Bool) =>
  optc ((!r3) == false) (f10 x1 (10 : Int)) fun (r4 : Bool) =>
  if (((!r3) || (!r4)) || (decide ((((x2).length : Nat) : Int) > (12 : Int)))) then (
  (f9 ).bind fun (r5 : Bool) =>
  some r5
  ) else (
  (f12 x1).bind fun (r6 : List (Int × Int × Int × List UInt8 × List UInt8)) =>
  (f26 x2).bind fun (r7 : List Int) =>
  (f24 r6 r7).bind fun (r8 : Bool) =>
  (f27 x1 x2).bind fun (r9 : Bool) =>
  if (r8 == r9) = true then (
  (f12 x1).bind fun (r10 : List (Int × Int × Int × List UInt8 × List UInt8)) =>
  (f26 x2).bind fun (r11 : List Int) =>
  (f23 r10 r11).bind fun (r12 : List (List UInt8)) =>
  (f22 x1 x2).bind fun (r13 : List (List UInt8)) =>
  (f28 r12 r13).bind fun (r14 : Bool) =>
  some r14
  ) else (
  some false
  )
  )
set_option maxRecDepth 100000 in
theorem f7_ok  (x1 : List (Int × Int × Int × List UInt8 × List UInt8)) (x2 : List Int) (r : Bool) (h : f7 x1 x2 = some r)  : Spec1 Tryz.prog 7 [(3, .tab .u64 Lib.pow10Tab)] [] [] [vL 5 eT31 (default : Int × Int × Int × List UInt8 × List UInt8) x1, vL 1 eI 0 x2] (.bool r) [] := by
  unfold f7 at h
  refine Spec1.body 0 _ _ Tryz.func7 rfl Tryz.ntmps7 rfl rfl ?_
  refine q1rq [] [] ⟨38, [(0, q1aT31 x1), (1, q1aI x2), (1000003, .tab .u64 Lib.pow10Tab)], [], [], 0⟩ trivial ?_
  refine AWp.seq ?_
  refine AWp.seq ?_
  obtain ⟨r3, hr3, h⟩ := bind_ok h
  obtain ⟨r4, hr4, h⟩ := optc_some h
  have ob0 := idA (((!r3) == false) = true)
  have ob1 := idA (((!r3) == false) = true)
  have ob2 := bqA (!r3) false
  have ob3 := idA ((((!r3) || (!r4)) == false) = true)
  have ob4 := idA ((((!r3) || (!r4)) == false) = true)
  have ob5 := bqA ((!r3) || (!r4)) false
  refine q1rr [] [(0, ⟨[], [], [], [], .bool r3, [], [], [3]⟩), (4, ⟨[q1aT31 x1, .i (10 : Int)], [], [], [], .bool r4, [], [], []⟩)] ⟨38, [(0, q1aT31 x1), (1, q1aI x2), (16, .bool (((!r3) || (!r4)) || (decide ((lZ x2) > (12 : Int))))), (1000003, .tab .u64 Lib.pow10Tab)], [], [], 0⟩ (ac6 (cpT (f9_ok _ hr3)) (And.intro (cpC fun hc => (f10_ok _ _ _ (hr4 hc))) (an1 ob0)) (an1 ob1) ob2 (an1 ob3) (an1 ob4) (an1 ob5)) ?_
  refine thenQ_normal ?_
  refine AWp.cond (b := (((!r3) || (!r4)) || (decide ((lZ x2) > (12 : Int))))) (by kernel_rfl) (fun hc1 => ?_) (fun hc1 => ?_)
  ·
    replace h := ite_tb hc1 h
    refine AWp.seq ?_
    obtain ⟨r5, hr5, h⟩ := bind_ok h
    refine q1rr [] [(0, ⟨[], [], [], [], .bool r5, [], [], [3]⟩)] ⟨38, [(4, .bool r5), (1000003, .tab .u64 Lib.pow10Tab)], [], [], 0⟩ (an1 (cpT (f9_ok _ hr5))) ?_
    refine thenQ_normal ?_
    have hret := Option.some.inj h
    subst hret
    refine AWp.le (Le.mk (s' := ⟨38, [(4, .bool r5)], [], [], 0⟩) rfl rfl ⟨.refl _, trivial⟩ trivial) ?_
    refine AWp.ret ?_
    refine thenQ_ret ?_
    exact bodyQ_ret _ rfl ⟨rfl, rfl⟩ rfl
  ·
    replace h := ite_fb hc1 h
    refine AWp.skip ?_
    refine thenQ_normal ?_
    refine AWp.seq ?_
    obtain ⟨r6, hr6, h⟩ := bind_ok h
    obtain ⟨r7, hr7, h⟩ := bind_ok h
    obtain ⟨r8, hr8, h⟩ := bind_ok h
    obtain ⟨r9, hr9, h⟩ := bind_ok h
    by_cases hg3_9 : (r8 == r9) = true
    ·
      replace h := ite_t hg3_9 h
      obtain ⟨r10, hr10, h⟩ := bind_ok h
      obtain ⟨r11, hr11, h⟩ := bind_ok h
      obtain ⟨r12, hr12, h⟩ := bind_ok h
      obtain ⟨r13, hr13, h⟩ := bind_ok h
      obtain ⟨r14, hr14, h⟩ := bind_ok h
      have ob6 := idA (true = true)
      have ob7 := idA (true = true)
      have ob8 := idA (true = true)
      have ob9 := idA (true = true)
      have ob10 : true = true → true = true → true = true := fun _ h => h
      refine q1rr [] [(1, ⟨(f7z1 x1), [], [], [(6001, q1bT31_31 r6)], .own 6001, [6001], [], []⟩), (3, ⟨[q1aI x2], [], [], [(6002, q1bI_3 r7)], .own 6002, [6002], [], []⟩), (4, ⟨[q1aT31 r6, q1aI r7], [], [], [], .bool r8, [], [6001, 6002], [3]⟩), (7, ⟨(f7z0 x1 x2), [], [], [], .bool r9, [], [], []⟩), (9, ⟨[], [], [], [], (.bool true), [], [0], []⟩), (11, ⟨(f7z1 x1), [], [], [(6003, q1bT31_31 r10)], .own 6003, [6003], [], []⟩), (13, ⟨[q1aI x2], [], [], [(6004, q1bI_3 r11)], .own 6004, [6004], [], []⟩), (14, ⟨[q1aT31 r10, q1aI r11], [], [], [(6005, q1bS_9 r12)], .own 6005, [6005], [6003, 6004], [3]⟩), (17, ⟨(f7z0 x1 x2), [], [], [(6006, q1bS_9 r13)], .own 6006, [6006], [], []⟩), (18, ⟨[q1aS r12, q1aS r13], [], [], [], .bool r14, [], [6005, 6006], []⟩)] ⟨38, [(4, .bool r14), (1000003, .tab .u64 Lib.pow10Tab)], [], [], 0⟩ (ac6 (cpT (Spec1.ren (swapN 3000 6001) (swapN_inv 3000 6001) rfl (f12_ok _ _ hr6))) (cpT (Spec1.ren (swapN 3000 6002) (swapN_inv 3000 6002) rfl (f26_ok _ _ hr7))) (cpL (c := true) [(6001, q1bT31_31 r6), (6002, q1bI_3 r7)] [6001, 6002] [.own 6001, .own 6002] (fun _ => (f24_ok _ _ _ hr8)) (fun _ => ⟨.refl _, .refl _, trivial⟩) (.inr ⟨rfl, trivial⟩)) (cpT (f27_ok _ _ _ hr9)) (show ((.bool (r8 == r9)) : V) = (.bool true) from (congrArg (fun x => ((.bool x) : V)) hg3_9)) (And.intro (cpT (Spec1.ren (swapN 3000 6003) (swapN_inv 3000 6003) rfl (f12_ok _ _ hr10))) (an1 ob6)) (an5 (And.intro (cpT (Spec1.ren (swapN 3000 6004) (swapN_inv 3000 6004) rfl (f26_ok _ _ hr11))) (an1 ob7)) (cpL (c := true) [(6003, q1bT31_31 r10), (6004, q1bI_3 r11)] [6003, 6004] [.own 6003, .own 6004] (fun _ => (Spec1.ren (swapN 3000 6005) (swapN_inv 3000 6005) rfl (f23_ok _ _ _ hr12))) (fun _ => ⟨.refl _, .refl _, trivial⟩) (.inr ⟨rfl, ⟨(fun _ _ _ _ => eS_flat _ _), trivial⟩⟩)) (And.intro (cpT (Spec1.ren (swapN 3000 6006) (swapN_inv 3000 6006) rfl (f22_ok _ _ _ hr13))) (an2 ob8 ob9)) (cpL (c := true) [(6005, q1bS_9 r12), (6006, q1bS_9 r13)] [6005, 6006] [.own 6005, .own 6006] (fun _ => (f28_ok _ _ _ hr14)) (fun _ => ⟨.refl _, .refl _, trivial⟩) (.inr ⟨rfl, trivial⟩)) ob10)) ?_
      refine thenQ_normal ?_
      have hret := Option.some.inj h
      subst hret
      refine AWp.le (Le.mk (s' := ⟨38, [(4, .bool r14)], [], [], 0⟩) rfl rfl ⟨.refl _, trivial⟩ trivial) ?_
      refine AWp.ret ?_
      exact bodyQ_ret _ rfl ⟨rfl, rfl⟩ rfl
    ·
      replace h := ite_f hg3_9 h
      have ob6 := idA (false = true)
      have ob7 := idA (false = true)
      have ob8 := idA (false = true)
      have ob9 := idA (false = true)
      have ob10 := idA (false = true)
      have ob11 := idA (false = true)
      have ob12 := idA (false = true)
      have ob13 := idA (false = true)
      have ob14 : true = true → false = true → false = true := fun _ h => h
      refine q1rr [] [(1, ⟨(f7z1 x1), [], [], [(6001, q1bT31_31 r6)], .own 6001, [6001], [], []⟩), (3, ⟨[q1aI x2], [], [], [(6002, q1bI_3 r7)], .own 6002, [6002], [], []⟩), (4, ⟨[q1aT31 r6, q1aI r7], [], [], [], .bool r8, [], [6001, 6002], [3]⟩), (7, ⟨(f7z0 x1 x2), [], [], [], .bool r9, [], [], []⟩), (9, ⟨[], [], [], [], (.bool false), [], [0], []⟩), (11, ⟨[], [], [], [], .any, [], [], []⟩), (13, ⟨[], [], [], [], .any, [], [], []⟩), (14, ⟨[], [], [], [], .any, [], [], []⟩), (17, ⟨[], [], [], [], .any, [], [], []⟩), (18, ⟨[], [], [], [], .bool false, [], [], []⟩)] ⟨38, [(4, .bool false), (1000003, .tab .u64 Lib.pow10Tab)], [], [], 0⟩ (ac6 (cpT (Spec1.ren (swapN 3000 6001) (swapN_inv 3000 6001) rfl (f12_ok _ _ hr6))) (cpT (Spec1.ren (swapN 3000 6002) (swapN_inv 3000 6002) rfl (f26_ok _ _ hr7))) (cpL (c := true) [(6001, q1bT31_31 r6), (6002, q1bI_3 r7)] [6001, 6002] [.own 6001, .own 6002] (fun _ => (f24_ok _ _ _ hr8)) (fun _ => ⟨.refl _, .refl _, trivial⟩) (.inr ⟨rfl, trivial⟩)) (cpT (f27_ok _ _ _ hr9)) (show ((.bool (r8 == r9)) : V) = (.bool false) from (congrArg (fun x => ((.bool x) : V)) (Bool.eq_false_iff.2 hg3_9))) (And.intro (show (callP Tryz.prog false 12 [] [] [] [] [] (f7z1 x1) [] (.any) []) from ⟨nofun, nofun, .inl rfl⟩) (an1 ob6)) (an5 (And.intro (show (callP Tryz.prog false 26 [] [] [] [] [] [q1aI x2] [] (.any) []) from ⟨nofun, nofun, .inl rfl⟩) (an1 ob7)) (And.intro (show (callP Tryz.prog false 23 [] [] [] [] [] [.any, .any] [] (.any) []) from ⟨nofun, nofun, .inl rfl⟩) (an2 ob8 ob9)) (And.intro (show (callP Tryz.prog false 22 [] [] [] [] [] (f7z0 x1 x2) [] (.any) []) from ⟨nofun, nofun, .inl rfl⟩) (an2 ob10 ob11)) (And.intro (show (callP Tryz.prog false 28 [] [] [] [] [] [.any, .any] [] (.bool false) []) from ⟨nofun, nofun, .inl rfl⟩) (an2 ob12 ob13)) ob14)) ?_
      refine thenQ_normal ?_
      have hret := Option.some.inj h
      subst hret
      refine AWp.le (Le.mk (s' := ⟨38, [(4, .bool false)], [], [], 0⟩) rfl rfl ⟨.refl _, trivial⟩ trivial) ?_
      refine AWp.ret ?_
      exact bodyQ_ret _ rfl ⟨rfl, rfl⟩ rfl
end Go.Abs
namespace Go.Abs
theorem chk_pos {p : Prop} [Decidable p] {α : Type} {x : Option α} (h : p) : chk p x = x := if_pos h
theorem ifd_pos {p : Prop} [Decidable p] {α : Type} {x y : α} (h : p) : (if decide p = true then x else y) = x := if_pos (decide_eq_true h)
theorem ifd_neg {p : Prop} [Decidable p] {α : Type} {x y : α} (h : ¬ p) : (if decide p = true then x else y) = y := if_neg (by simpa using h)
theorem jn_eq {α β : Type} (K : α → Option β) (x : (α → Option β) → Option β) : jn K x = x K := rfl
theorem optc_t {α β : Type} [Inhabited α] {x : Option α} {k : α → Option β} : optc true x k = x.bind k := rfl
theorem optc_f {α β : Type} [Inhabited α] {x : Option α} {k : α → Option β} : optc false x k = k default := rfl
theorem some_bind {α β : Type} (a : α) (f : α → Option β) : (some a).bind f = f a := rfl
theorem abc_eq {α : Type} [DecidableEq α] {q : Prop} [Decidable q] {x y : Option α} (h : q → x = y) : abc q x y = y := by
  unfold abc both
  split
  · rename_i hq; rw [h hq]; simp
  · rfl
theorem fuel_lt {n : Nat} (h : n ≤ 18446744073709551615) : n < FUEL := by unfold FUEL; omega
theorem getD_drop {α : Type} (x : List α) (n : Nat) (d : α) (h : n < x.length) : x.drop n = x.getD n d :: x.drop (n + 1) := by
  rw [List.drop_eq_getElem_cons h]
  simp [List.getD_eq_getElem?_getD, h]
/-- .. without ways out. -/
theorem fold_up {α S R : Type} (L : Nat → Nat × S → Option R) (x : List α) (d : α) (Inv : Nat → S → Prop) (g : S → α → S) (K : S → Option R)
    (h : ∀ k n s, n < x.length → Inv n s → L (k + 1) (n, s) = L k (n + 1, g s (x.getD n d)))
    (hI : ∀ n s, n < x.length → Inv n s → Inv (n + 1) (g s (x.getD n d)))
    (he : ∀ k s, Inv x.length s → L (k + 1) (x.length, s) = K s) : ∀ c k n s, n + c = x.length → c < k → Inv n s → L k (n, s) = K ((x.drop n).foldl g s)
  | 0, k, n, s, hn, hk, hi => by
    obtain ⟨k, rfl⟩ : ∃ q, k = q + 1 := ⟨k - 1, by omega⟩
    obtain rfl : n = x.length := by omega
    rw [he k s hi, List.drop_eq_nil_of_le (Nat.le_refl _)]; rfl
  | c + 1, k, n, s, hn, hk, hi => by
    obtain ⟨k, rfl⟩ : ∃ q, k = q + 1 := ⟨k - 1, by omega⟩
    have hlt : n < x.length := by omega
    rw [h k n s hlt hi, getD_drop x n d hlt]
    exact fold_up L x d Inv g K h hI he c k (n + 1) _ (by omega) (by omega) (hI n s hlt hi)
theorem foldl_inv {α S : Type} (Inv : Nat → S → Prop) (g : S → α → S) (d : α) (x : List α) (hI : ∀ n s, n < x.length → Inv n s → Inv (n + 1) (g s (x.getD n d))) (s : S) (h0 : Inv 0 s) : Inv x.length (x.foldl g s) := by
  suffices H : ∀ c n s, n + c = x.length → Inv n s → Inv x.length ((x.drop n).foldl g s) by simpa using H x.length 0 s (by omega) h0
  intro c
  induction c with
  | zero =>
    intro n s hn hi
    obtain rfl : n = x.length := by omega
    rw [List.drop_eq_nil_of_le (Nat.le_refl _)]; exact hi
  | succ c ih =>
    intro n s hn hi
    have hlt : n < x.length := by omega
    rw [getD_drop x n d hlt]
    exact ih (n + 1) _ (by omega) (hI n s hlt hi)
/-- A search: the first element of which p holds. -/
theorem find_up {α R : Type} (L : Nat → Nat → Option R) (x : List α) (d : α) (p : α → Bool) (r : Nat → Option R) (K : Option R)
    (h : ∀ k n, n < x.length → L (k + 1) n = if p (x.getD n d) = true then r n else L k (n + 1))
    (he : ∀ k, L (k + 1) x.length = K) : ∀ c k n, n + c = x.length → c < k →
      (∃ m, n ≤ m ∧ m < x.length ∧ p (x.getD m d) = true ∧ L k n = r m ∧ (x.drop n).any p = true) ∨ (L k n = K ∧ (x.drop n).any p = false)
  | 0, k, n, hn, hk => by
    obtain ⟨k, rfl⟩ : ∃ q, k = q + 1 := ⟨k - 1, by omega⟩
    obtain rfl : n = x.length := by omega
    exact .inr ⟨he k, by rw [List.drop_eq_nil_of_le (Nat.le_refl _)]; rfl⟩
  | c + 1, k, n, hn, hk => by
    obtain ⟨k, rfl⟩ : ∃ q, k = q + 1 := ⟨k - 1, by omega⟩
    have hlt : n < x.length := by omega
    rw [h k n hlt, getD_drop x n d hlt]
    by_cases hp : p (x.getD n d) = true
    · rw [if_pos hp]; exact .inl ⟨n, Nat.le_refl _, hlt, hp, rfl, by rw [List.any_cons, hp]; rfl⟩
    · rw [if_neg hp]
      have hp' : p (x.getD n d) = false := by simpa using hp
      rw [List.any_cons, hp', Bool.false_or]
      rcases find_up L x d p r K h he c k (n + 1) (by omega) (by omega) with ⟨m, h1, h2⟩ | h2
      · exact .inl ⟨m, by omega, h2⟩
      · exact .inr h2
/-- .. of which only is asked whether there is one. -/
theorem any_up {α R : Type} (L : Nat → Nat → Option R) (x : List α) (d : α) (p : α → Bool) (r : Option R) (K : Option R)
    (h : ∀ k n, n < x.length → L (k + 1) n = if p (x.getD n d) = true then r else L k (n + 1))
    (he : ∀ k, L (k + 1) x.length = K) (k : Nat) (hk : x.length < k) : L k 0 = if x.any p = true then r else K := by
  rcases find_up L x d p (fun _ => r) K h he x.length k 0 (by omega) hk with ⟨m, _, _, _, h1, h2⟩ | ⟨h1, h2⟩
  · rw [h1, if_pos (by simpa using h2)]
  · rw [h1, if_neg (by simpa using h2)]
end Go.Abs
