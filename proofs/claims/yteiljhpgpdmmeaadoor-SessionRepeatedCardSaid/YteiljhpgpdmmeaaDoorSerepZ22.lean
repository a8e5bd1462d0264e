/- Part 22 of the proof: X49, Pl. -/
import Derived.Test.YteiljhpgpdmmeaaDoorSerepZ21
namespace Go.Abs
open Go Go.Proofs
set_option maxHeartbeats 4000000
def f3_L2 (x1 : List (Int × Int × List UInt8)) (x2 : Int) (x3 : Int) (x4 : Int) (n16 : Nat) (K3 : ((List (List UInt8 × List UInt8 × Int)) × (List (Int × Int × List UInt8))) → Option Bool) : Nat → (Nat × (List (List UInt8 × List UInt8 × Int)) × (List (Int × Int × List UInt8))) → Option Bool
  | 0, _ => none
  | k + 1, (n20, l21, l22) =>
    if (decide ((n20 : Int) < (3 : Int))) then (
    jn (fun ((l24, l25) : (List (List UInt8 × List UInt8 × Int)) × (List (Int × Int × List UInt8))) =>
    chk (((n20 : Int) + (1 : Int)) ≤ 9223372036854775807) <|
    (f3_L2 x1 x2 x3 x4 n16 K3 k) ((n20 + 1), l24, l25)
    ) fun (K4 : ((List (List UInt8 × List UInt8 × Int)) × (List (Int × Int × List UInt8))) → Option Bool) =>
    chk (n20 < 3) <|
    chk (-9223372036854775808 ≤ (([x2, x3, x4] : List Int).getD n20 0) ∧ (([x2, x3, x4] : List Int).getD n20 0) ≤ 9223372036854775807) <|
    chk (0 ≤ (([x2, x3, x4] : List Int).getD n20 0) ∧ 1 ≤ (((x1).length : Nat) : Int)) <|
    if (decide (((([x2, x3, x4] : List Int).getD n20 0) % (((x1).length : Nat) : Int)) ≤ (n16 : Int))) then (
    (f7 l21 l22 ((x1.getD ((((([x2, x3, x4] : List Int).getD n20 0) % (((x1).length : Nat) : Int))).toNat) (default : Int × Int × List UInt8)).1) ((x1.getD ((((([x2, x3, x4] : List Int).getD n20 0) % (((x1).length : Nat) : Int))).toNat) (default : Int × Int × List UInt8)).2.1) ((x1.getD ((((([x2, x3, x4] : List Int).getD n20 0) % (((x1).length : Nat) : Int))).toNat) (default : Int × Int × List UInt8)).2.2)).bind fun (r23 : (List (List UInt8 × List UInt8 × Int)) × (List (Int × Int × List UInt8)) × List UInt8) =>
    chk (-9223372036854775808 ≤ (([x2, x3, x4] : List Int).getD n20 0) ∧ (([x2, x3, x4] : List Int).getD n20 0) ≤ 9223372036854775807) <|
    chk (0 ≤ (([x2, x3, x4] : List Int).getD n20 0) ∧ 1 ≤ (((x1).length : Nat) : Int)) <|
    chk (0 ≤ ((([x2, x3, x4] : List Int).getD n20 0) % (((x1).length : Nat) : Int)) ∧ ((([x2, x3, x4] : List Int).getD n20 0) % (((x1).length : Nat) : Int)) < (((x1).length : Nat) : Int)) <|
    K4 (r23.1, r23.2.1)
    ) else (
    K4 (l21, l22)
    )
    ) else (
    K3 (l21, l22)
    )
def f3_L1 (x1 : List (Int × Int × List UInt8)) (x2 : Int) (x3 : Int) (x4 : Int) (K2 : ((List (List UInt8 × List UInt8 × Int)) × (List (Int × Int × List UInt8))) → Option Bool) : Nat → (Nat × (List (List UInt8 × List UInt8 × Int)) × (List (Int × Int × List UInt8))) → Option Bool
  | 0, _ => none
  | k + 1, (n16, l17, l18) =>
    if (decide ((n16 : Int) < (((x1).length : Nat) : Int))) then (
    jn (fun ((l26, l27) : (List (List UInt8 × List UInt8 × Int)) × (List (Int × Int × List UInt8))) =>
    chk (((n16 : Int) + (1 : Int)) ≤ 9223372036854775807) <|
    (f3_L1 x1 x2 x3 x4 K2 k) ((n16 + 1), l26, l27)
    ) fun (K3 : ((List (List UInt8 × List UInt8 × Int)) × (List (Int × Int × List UInt8))) → Option Bool) =>
    chk ((n16 : Int) < (((x1).length : Nat) : Int)) <|
    (f7 l17 l18 ((x1.getD n16 (default : Int × Int × List UInt8)).1) ((x1.getD n16 (default : Int × Int × List UInt8)).2.1) ((x1.getD n16 (default : Int × Int × List UInt8)).2.2)).bind fun (r19 : (List (List UInt8 × List UInt8 × Int)) × (List (Int × Int × List UInt8)) × List UInt8) =>
    f3_L2 x1 x2 x3 x4 n16 K3 FUEL (0, r19.1, r19.2.1)
    ) else (
    K2 (l17, l18)
    )
def f3 (x1 : List (Int × Int × List UInt8)) (x2 : Int) (x3 : Int) (x4 : Int) : Option Bool :=
  (f4 ).bind fun (r5 : Bool) =>
  optc ((!r5) == false) (f5 x1) fun (r6 : Bool) =>
  if (((!r5) || (!r6)) || ((((x1).length : Nat) : Int) == (0 : Int))) then (
  (f4 ).bind fun (r7 : Bool) =>
  some r7
  ) else (
  (f6 ).bind fun (r8 : (List (List UInt8 × List UInt8 × Int)) × (List (Int × Int × List UInt8))) =>
  jn (fun ((l13, l14) : (List (List UInt8 × List UInt8 × Int)) × (List (Int × Int × List UInt8))) =>
  (f6 ).bind fun (r15 : (List (List UInt8 × List UInt8 × Int)) × (List (Int × Int × List UInt8))) =>
  jn (fun ((l28, l29) : (List (List UInt8 × List UInt8 × Int)) × (List (Int × Int × List UInt8))) =>
  (f8 l28 l29 l13 l14).bind fun (r30 : Bool) =>
  optc (r30 == true) (f9 l28 l29 l13 l14) fun (r31 : Bool) =>
  some (r30 && r31)
  ) fun (K2 : ((List (List UInt8 × List UInt8 × Int)) × (List (Int × Int × List UInt8))) → Option Bool) =>
  f3_L1 x1 x2 x3 x4 K2 FUEL (0, r15.1, r15.2)
  ) fun (K1 : ((List (List UInt8 × List UInt8 × Int)) × (List (Int × Int × List UInt8))) → Option Bool) =>
  f3_L0 x1 K1 FUEL (0, r8.1, r8.2)
  )
set_option maxRecDepth 100000 in
theorem f3_ok  (x1 : List (Int × Int × List UInt8)) (x2 : Int) (x3 : Int) (x4 : Int) (r : Bool) (h : f3 x1 x2 x3 x4 = some r)  : Spec1 Tryd.prog 3 [(1, .tab .u64 Lib.pow10Tab)] [] [] [vL 3 eIIS (default : Int × Int × List UInt8) x1, .agg [.int .u8 x2, .int .u8 x3, .int .u8 x4]] (.bool r) [] := by
  unfold f3 at h
  refine Spec1.body 0 _ _ Tryd.func3 rfl Tryd.ntmps3 rfl rfl ?_
  refine q1rq [] [] [0, 3, 1000001] [3] ⟨88, [(0, q1aIIS x1), (3, .ptr 3 0), (1000001, .tab .u64 Lib.pow10Tab)], [(3, .cells 23 [.int .u8 x2, .int .u8 x3, .int .u8 x4])], [], 0⟩ trivial ?_
  refine AWp.seq ?_
  refine AWp.seq ?_
  obtain ⟨r5, hr5, h⟩ := bind_ok h
  obtain ⟨r6, hr6, h⟩ := optc_some h
  have ob0 : ((!r5) == false) = true → ((!r5) == false) = true := fun h => h
  have ob1 : ((!r5) == false) = true → ((!r5) == false) = true := fun h => h
  have ob2 : true = true → (!r5) = false → ((!r5) == false) = true := fun _ h => beq_iff_eq.2 h
  have ob3 : (((!r5) || (!r6)) == false) = true → (((!r5) || (!r6)) == false) = true := fun h => h
  have ob4 : (((!r5) || (!r6)) == false) = true → (((!r5) || (!r6)) == false) = true := fun h => h
  have ob5 : true = true → ((!r5) || (!r6)) = false → (((!r5) || (!r6)) == false) = true := fun _ h => beq_iff_eq.2 h
  refine q1rr [] [(0, ⟨[], [], [], [], .bool r5, [], [], [1]⟩), (4, ⟨[q1aIIS x1], [], [], [], .bool r6, [], [], []⟩)] [0, 3, 24, 1000001] [3] ⟨88, [(0, q1aIIS x1), (3, .ptr 3 0), (24, .bool (((!r5) || (!r6)) || ((((x1).length : Nat) : Int) == (0 : Int)))), (1000001, .tab .u64 Lib.pow10Tab)], [(3, .cells 23 [.int .u8 x2, .int .u8 x3, .int .u8 x4])], [], 0⟩ (ac6 (cpT (f4_ok _ hr5)) (And.intro (cpC fun hc => (f5_ok _ _ (hr6 hc))) (an1 ob0)) (an1 ob1) ob2 (an1 ob3) (an1 ob4) (an1 ob5)) ?_
  refine thenQ_normal ?_
  refine AWp.cond (b := (((!r5) || (!r6)) || ((((x1).length : Nat) : Int) == (0 : Int)))) (by kernel_rfl) (fun hc1 => ?_) (fun hc1 => ?_)
  ·
    replace h := ite_tb hc1 h
    refine AWp.seq ?_
    obtain ⟨r7, hr7, h⟩ := bind_ok h
    refine q1rr [] [(0, ⟨[], [], [], [], .bool r7, [], [], [1]⟩)] [4, 1000001] [] ⟨88, [(4, .bool r7), (1000001, .tab .u64 Lib.pow10Tab)], [], [], 0⟩ (an1 (cpT (f4_ok _ hr7))) ?_
    refine thenQ_normal ?_
    have hret := Option.some.inj h
    subst hret
    refine AWp.le (Le.mk (s' := ⟨88, [(4, .bool r7)], [], [], 0⟩) rfl rfl ⟨.refl _, trivial⟩ trivial) ?_
    refine AWp.ret ?_
    refine thenQ_ret ?_
    exact bodyQ_ret _ rfl ⟨rfl, rfl⟩ rfl
  ·
    replace h := ite_fb hc1 h
    refine AWp.skip ?_
    refine thenQ_normal ?_
    refine AWp.seq ?_
    obtain ⟨r8, hr8, h⟩ := bind_ok h
    refine q1rr [] [(0, ⟨[], [], [], [], .agg [q1aSSI r8.1, q1aIIS r8.2], [], [], []⟩)] [0, 3, 5, 1000001] [3, 5] ⟨88, [(0, q1aIIS x1), (3, .ptr 3 0), (5, .ptr 5 0), (1000001, .tab .u64 Lib.pow10Tab)], [(3, .cells 23 [.int .u8 x2, .int .u8 x3, .int .u8 x4]), (5, .cells 29 [q1aSSI r8.1, q1aIIS r8.2])], [], 0⟩ (an2 (cpT (f6_ok _ hr8)) trivial) ?_
    refine thenQ_normal ?_
    obtain ⟨K1, hK1, h⟩ := jn_some h
    refine AWp.join (α := (List (List UInt8 × List UInt8 × Int)) × (List (Int × Int × List UInt8))) (fun (x : (List (List UInt8 × List UInt8 × Int)) × (List (Int × Int × List UInt8))) => match x with | (l13, l14) => ⟨88, [(0, q1aIIS x1), (3, .ptr 3 0), (5, .ptr 5 0), (1000001, .tab .u64 Lib.pow10Tab)], [(3, .cells 23 [.int .u8 x2, .int .u8 x3, .int .u8 x4]), (5, .cells 29 [q1aSSI l13, q1aIIS l14])], [], 0⟩) (fun x => K1 x = some r) ?_ ?_
    ·
      refine q1rq [] [] [0, 3, 5, 27, 28, 29, 1000001] [3, 5] ⟨88, [(0, q1aIIS x1), (3, .ptr 3 0), (5, .ptr 5 0), (27, q1aIIS x1), (28, .int .i64 (((x1).length : Nat) : Int)), (29, .int .i64 (0 : Int)), (1000001, .tab .u64 Lib.pow10Tab)], [(3, .cells 23 [.int .u8 x2, .int .u8 x3, .int .u8 x4]), (5, .cells 29 [q1aSSI r8.1, q1aIIS r8.2])], [], 0⟩ trivial ?_
      refine AWp.block ?_
      refine AWp.loopL (α := Nat × (Nat × (List (List UInt8 × List UInt8 × Int)) × (List (Int × Int × List UInt8)))) (fun x => match x with | (_, n9, l10, l11) => ⟨88, [(0, q1aIIS x1), (3, .ptr 3 0), (5, .ptr 5 0), (27, q1aIIS x1), (28, .int .i64 (((x1).length : Nat) : Int)), (29, .int .i64 (n9 : Int)), (1000001, .tab .u64 Lib.pow10Tab)], [(3, .cells 23 [.int .u8 x2, .int .u8 x3, .int .u8 x4]), (5, .cells 29 [q1aSSI l10, q1aIIS l11])], [], 0⟩) (fun x => f3_L0 x1 K1 x.1 x.2 = some r) (fun x => x.1) (FUEL, 0, r8.1, r8.2) (Le.mk (s' := ⟨88, [(0, q1aIIS x1), (3, .ptr 3 0), (5, .ptr 5 0), (27, q1aIIS x1), (28, .int .i64 (((x1).length : Nat) : Int)), (29, .int .i64 (0 : Int)), (1000001, .tab .u64 Lib.pow10Tab)], [(3, .cells 23 [.int .u8 x2, .int .u8 x3, .int .u8 x4]), (5, .cells 29 [q1aSSI r8.1, q1aIIS r8.2])], [], 0⟩) rfl rfl ⟨.refl _, .refl _, .refl _, .refl _, .refl _, .refl _, .refl _, trivial⟩ ⟨⟨_, rfl, .refl _⟩, ⟨_, rfl, .refl _⟩, trivial⟩) h ?_
      rintro ⟨k0, n9, l10, l11⟩ h
      cases k0 with
      | zero => exact nomatch (show (none : Option Bool) = some r from h)
      | succ k0 =>
      obtain ⟨C0, hC0⟩ : ∃ C, C = f3_L0 x1 K1 k0 := ⟨_, rfl⟩
      replace h := (f3_L0.eq_2 ..).symm.trans h
      try rw [← hC0] at h
      refine q1rq [] [] [0, 3, 5, 27, 28, 29, 30, 1000001] [3, 5] ⟨88, [(0, q1aIIS x1), (3, .ptr 3 0), (5, .ptr 5 0), (27, q1aIIS x1), (28, .int .i64 (((x1).length : Nat) : Int)), (29, .int .i64 (n9 : Int)), (30, .bool (decide ((n9 : Int) < (((x1).length : Nat) : Int)))), (1000001, .tab .u64 Lib.pow10Tab)], [(3, .cells 23 [.int .u8 x2, .int .u8 x3, .int .u8 x4]), (5, .cells 29 [q1aSSI l10, q1aIIS l11])], [], 0⟩ trivial ?_
      refine AWp.seq ?_
      refine AWp.cond (b := (decide ((n9 : Int) < (((x1).length : Nat) : Int)))) (by kernel_rfl) (fun hc2 => ?_) (fun hc2 => ?_)
      ·
        replace h := ite_tb hc2 h
        refine AWp.skip ?_
        refine thenQ_normal ?_
        refine AWp.seq ?_
        refine AWp.block ?_
        refine AWp.seq ?_
        obtain ⟨ob6p, h⟩ := chk_some h
        have ob6 : 0 ≤ (n9 : Int) ∧ (n9 : Int) < (((x1).length : Nat) : Int) := ⟨by omega, ob6p⟩
        refine q1rr [] [] [0, 3, 5, 7, 27, 28, 29, 1000001] [3, 5, 7] ⟨88, [(0, q1aIIS x1), (3, .ptr 3 0), (5, .ptr 5 0), (7, .ptr 7 0), (27, q1aIIS x1), (28, .int .i64 (((x1).length : Nat) : Int)), (29, .int .i64 (n9 : Int)), (1000001, .tab .u64 Lib.pow10Tab)], [(3, .cells 23 [.int .u8 x2, .int .u8 x3, .int .u8 x4]), (5, .cells 29 [q1aSSI l10, q1aIIS l11]), (7, .cells 32 [.int .i64 (x1.getD n9 q1dIIS).1, .int .i64 (x1.getD n9 q1dIIS).2.1, .str (x1.getD n9 q1dIIS).2.2])], [], 0⟩ (an2 ob6 trivial) ?_
        refine thenQ_normal ?_
        obtain ⟨r12, hr12, h⟩ := bind_ok h
        refine q1rr [] [(2, ⟨[.agg [q1aSSI l10, q1aIIS l11], .agg [.int .i64 (x1.getD n9 q1dIIS).1, .int .i64 (x1.getD n9 q1dIIS).2.1, .str (x1.getD n9 q1dIIS).2.2]], [], [], [], .tup [.agg [q1aSSI r12.1, q1aIIS r12.2.1], .str r12.2.2], [], [], [1]⟩)] [0, 3, 5, 27, 28, 29, 1000001] [3, 5] ⟨88, [(0, q1aIIS x1), (3, .ptr 3 0), (5, .ptr 5 0), (27, q1aIIS x1), (28, .int .i64 (((x1).length : Nat) : Int)), (29, .int .i64 (n9 : Int)), (1000001, .tab .u64 Lib.pow10Tab)], [(3, .cells 23 [.int .u8 x2, .int .u8 x3, .int .u8 x4]), (5, .cells 29 [q1aSSI r12.1, q1aIIS r12.2.1])], [], 0⟩ (an2 (cpT (f7_ok _ _ _ _ _ _ hr12)) trivial) ?_
        refine blockQ_normal ?_
        refine thenQ_normal ?_
        obtain ⟨ob7p, h⟩ := chk_some h
        have ob7 : -9223372036854775808 ≤ ((n9 : Int) + (1 : Int)) ∧ ((n9 : Int) + (1 : Int)) ≤ 9223372036854775807 := ⟨by omega, ob7p⟩
        refine q1rr [] [] [0, 3, 5, 27, 28, 29, 1000001] [3, 5] ⟨88, [(0, q1aIIS x1), (3, .ptr 3 0), (5, .ptr 5 0), (27, q1aIIS x1), (28, .int .i64 (((x1).length : Nat) : Int)), (29, .int .i64 (((n9 + 1) : Nat) : Int)), (1000001, .tab .u64 Lib.pow10Tab)], [(3, .cells 23 [.int .u8 x2, .int .u8 x3, .int .u8 x4]), (5, .cells 29 [q1aSSI r12.1, q1aIIS r12.2.1])], [], 0⟩ (an1 ob7) ?_
        rw [hC0] at h
        exact loopQ_normal (_, (n9 + 1), r12.1, r12.2.1) (Le.mk rfl rfl ⟨.refl _, .refl _, .refl _, .refl _, .refl _, .refl _, .refl _, trivial⟩ ⟨⟨_, rfl, .refl _⟩, ⟨_, rfl, .refl _⟩, trivial⟩) h (Nat.lt_succ_self _)
      ·
        replace h := ite_fb hc2 h
        refine AWp.exit ?_
        refine thenQ_exit ?_
        refine thenQ_exit ?_
        refine blockQ_same ?_
        exact joinQ_normal (l10, l11) (Le.mk rfl rfl ⟨.refl _, .refl _, .refl _, .refl _, trivial⟩ ⟨⟨_, rfl, .refl _⟩, ⟨_, rfl, .refl _⟩, trivial⟩) h
    ·
      rintro ⟨l13, l14⟩ h
      replace h := (congrFun hK1 _).symm.trans h
      refine AWp.seq ?_
      obtain ⟨r15, hr15, h⟩ := bind_ok h
      refine q1rr [] [(0, ⟨[], [], [], [], .agg [q1aSSI r15.1, q1aIIS r15.2], [], [], []⟩)] [0, 3, 5, 8, 1000001] [3, 5, 8] ⟨88, [(0, q1aIIS x1), (3, .ptr 3 0), (5, .ptr 5 0), (8, .ptr 8 0), (1000001, .tab .u64 Lib.pow10Tab)], [(3, .cells 23 [.int .u8 x2, .int .u8 x3, .int .u8 x4]), (5, .cells 29 [q1aSSI l13, q1aIIS l14]), (8, .cells 29 [q1aSSI r15.1, q1aIIS r15.2])], [], 0⟩ (an2 (cpT (f6_ok _ hr15)) trivial) ?_
      refine thenQ_normal ?_
      obtain ⟨K2, hK2, h⟩ := jn_some h
      refine AWp.join (α := (List (List UInt8 × List UInt8 × Int)) × (List (Int × Int × List UInt8))) (fun (x : (List (List UInt8 × List UInt8 × Int)) × (List (Int × Int × List UInt8))) => match x with | (l28, l29) => ⟨88, [(5, .ptr 5 0), (8, .ptr 8 0), (1000001, .tab .u64 Lib.pow10Tab)], [(5, .cells 29 [q1aSSI l13, q1aIIS l14]), (8, .cells 29 [q1aSSI l28, q1aIIS l29])], [], 0⟩) (fun x => K2 x = some r) ?_ ?_
      ·
        refine q1rq [] [] [0, 3, 5, 8, 41, 42, 43, 1000001] [3, 5, 8] ⟨88, [(0, q1aIIS x1), (3, .ptr 3 0), (5, .ptr 5 0), (8, .ptr 8 0), (41, q1aIIS x1), (42, .int .i64 (((x1).length : Nat) : Int)), (43, .int .i64 (0 : Int)), (1000001, .tab .u64 Lib.pow10Tab)], [(3, .cells 23 [.int .u8 x2, .int .u8 x3, .int .u8 x4]), (5, .cells 29 [q1aSSI l13, q1aIIS l14]), (8, .cells 29 [q1aSSI r15.1, q1aIIS r15.2])], [], 0⟩ trivial ?_
        refine AWp.block ?_
        refine AWp.loopL (α := Nat × (Nat × (List (List UInt8 × List UInt8 × Int)) × (List (Int × Int × List UInt8)))) (fun x => match x with | (_, n16, l17, l18) => ⟨88, [(0, q1aIIS x1), (3, .ptr 3 0), (5, .ptr 5 0), (8, .ptr 8 0), (41, q1aIIS x1), (42, .int .i64 (((x1).length : Nat) : Int)), (43, .int .i64 (n16 : Int)), (1000001, .tab .u64 Lib.pow10Tab)], [(3, .cells 23 [.int .u8 x2, .int .u8 x3, .int .u8 x4]), (5, .cells 29 [q1aSSI l13, q1aIIS l14]), (8, .cells 29 [q1aSSI l17, q1aIIS l18])], [], 0⟩) (fun x => f3_L1 x1 x2 x3 x4 K2 x.1 x.2 = some r) (fun x => x.1) (FUEL, 0, r15.1, r15.2) (Le.mk (s' := ⟨88, [(0, q1aIIS x1), (3, .ptr 3 0), (5, .ptr 5 0), (8, .ptr 8 0), (41, q1aIIS x1), (42, .int .i64 (((x1).length : Nat) : Int)), (43, .int .i64 (0 : Int)), (1000001, .tab .u64 Lib.pow10Tab)], [(3, .cells 23 [.int .u8 x2, .int .u8 x3, .int .u8 x4]), (5, .cells 29 [q1aSSI l13, q1aIIS l14]), (8, .cells 29 [q1aSSI r15.1, q1aIIS r15.2])], [], 0⟩) rfl rfl ⟨.refl _, .refl _, .refl _, .refl _, .refl _, .refl _, .refl _, .refl _, trivial⟩ ⟨⟨_, rfl, .refl _⟩, ⟨_, rfl, .refl _⟩, ⟨_, rfl, .refl _⟩, trivial⟩) h ?_
        rintro ⟨k1, n16, l17, l18⟩ h
        cases k1 with
        | zero => exact nomatch (show (none : Option Bool) = some r from h)
        | succ k1 =>
        obtain ⟨C1, hC1⟩ : ∃ C, C = f3_L1 x1 x2 x3 x4 K2 k1 := ⟨_, rfl⟩
        replace h := (f3_L1.eq_2 ..).symm.trans h
        try rw [← hC1] at h
        refine q1rq [] [] [0, 3, 5, 8, 41, 42, 43, 44, 1000001] [3, 5, 8] ⟨88, [(0, q1aIIS x1), (3, .ptr 3 0), (5, .ptr 5 0), (8, .ptr 8 0), (41, q1aIIS x1), (42, .int .i64 (((x1).length : Nat) : Int)), (43, .int .i64 (n16 : Int)), (44, .bool (decide ((n16 : Int) < (((x1).length : Nat) : Int)))), (1000001, .tab .u64 Lib.pow10Tab)], [(3, .cells 23 [.int .u8 x2, .int .u8 x3, .int .u8 x4]), (5, .cells 29 [q1aSSI l13, q1aIIS l14]), (8, .cells 29 [q1aSSI l17, q1aIIS l18])], [], 0⟩ trivial ?_
        refine AWp.seq ?_
        refine AWp.cond (b := (decide ((n16 : Int) < (((x1).length : Nat) : Int)))) (by kernel_rfl) (fun hc3 => ?_) (fun hc3 => ?_)
        ·
          replace h := ite_tb hc3 h
          refine AWp.skip ?_
          refine thenQ_normal ?_
          obtain ⟨K3, hK3, h⟩ := jn_some h
          refine AWp.join (α := (List (List UInt8 × List UInt8 × Int)) × (List (Int × Int × List UInt8))) (fun (x : (List (List UInt8 × List UInt8 × Int)) × (List (Int × Int × List UInt8))) => match x with | (l26, l27) => ⟨88, [(0, q1aIIS x1), (3, .ptr 3 0), (5, .ptr 5 0), (8, .ptr 8 0), (41, q1aIIS x1), (42, .int .i64 (((x1).length : Nat) : Int)), (43, .int .i64 (n16 : Int)), (1000001, .tab .u64 Lib.pow10Tab)], [(3, .cells 23 [.int .u8 x2, .int .u8 x3, .int .u8 x4]), (5, .cells 29 [q1aSSI l13, q1aIIS l14]), (8, .cells 29 [q1aSSI l26, q1aIIS l27])], [], 0⟩) (fun x => K3 x = some r) ?_ ?_
          ·
            refine AWp.block ?_
            refine AWp.seq ?_
            obtain ⟨ob8p, h⟩ := chk_some h
            have ob8 : 0 ≤ (n16 : Int) ∧ (n16 : Int) < (((x1).length : Nat) : Int) := ⟨by omega, ob8p⟩
            refine q1rr [] [] [0, 3, 5, 8, 9, 10, 41, 42, 43, 1000001] [3, 5, 8, 10] ⟨88, [(0, q1aIIS x1), (3, .ptr 3 0), (5, .ptr 5 0), (8, .ptr 8 0), (9, .int .i64 (n16 : Int)), (10, .ptr 10 0), (41, q1aIIS x1), (42, .int .i64 (((x1).length : Nat) : Int)), (43, .int .i64 (n16 : Int)), (1000001, .tab .u64 Lib.pow10Tab)], [(3, .cells 23 [.int .u8 x2, .int .u8 x3, .int .u8 x4]), (5, .cells 29 [q1aSSI l13, q1aIIS l14]), (8, .cells 29 [q1aSSI l17, q1aIIS l18]), (10, .cells 32 [.int .i64 (x1.getD n16 q1dIIS).1, .int .i64 (x1.getD n16 q1dIIS).2.1, .str (x1.getD n16 q1dIIS).2.2])], [], 0⟩ (an2 ob8 trivial) ?_
            refine thenQ_normal ?_
            refine AWp.seq ?_
            obtain ⟨r19, hr19, h⟩ := bind_ok h
            refine q1rr [] [(2, ⟨[.agg [q1aSSI l17, q1aIIS l18], .agg [.int .i64 (x1.getD n16 q1dIIS).1, .int .i64 (x1.getD n16 q1dIIS).2.1, .str (x1.getD n16 q1dIIS).2.2]], [], [], [], .tup [.agg [q1aSSI r19.1, q1aIIS r19.2.1], .str r19.2.2], [], [], [1]⟩)] [0, 3, 5, 8, 9, 41, 42, 43, 1000001] [3, 5, 8] ⟨88, [(0, q1aIIS x1), (3, .ptr 3 0), (5, .ptr 5 0), (8, .ptr 8 0), (9, .int .i64 (n16 : Int)), (41, q1aIIS x1), (42, .int .i64 (((x1).length : Nat) : Int)), (43, .int .i64 (n16 : Int)), (1000001, .tab .u64 Lib.pow10Tab)], [(3, .cells 23 [.int .u8 x2, .int .u8 x3, .int .u8 x4]), (5, .cells 29 [q1aSSI l13, q1aIIS l14]), (8, .cells 29 [q1aSSI r19.1, q1aIIS r19.2.1])], [], 0⟩ (an2 (cpT (f7_ok _ _ _ _ _ _ hr19)) trivial) ?_
            refine thenQ_normal ?_
            refine q1rq [] [] [0, 3, 5, 8, 9, 41, 42, 43, 54, 55, 1000001] [3, 5, 8] ⟨88, [(0, q1aIIS x1), (3, .ptr 3 0), (5, .ptr 5 0), (8, .ptr 8 0), (9, .int .i64 (n16 : Int)), (41, q1aIIS x1), (42, .int .i64 (((x1).length : Nat) : Int)), (43, .int .i64 (n16 : Int)), (54, .agg [.int .u8 x2, .int .u8 x3, .int .u8 x4]), (55, .int .i64 (0 : Int)), (1000001, .tab .u64 Lib.pow10Tab)], [(3, .cells 23 [.int .u8 x2, .int .u8 x3, .int .u8 x4]), (5, .cells 29 [q1aSSI l13, q1aIIS l14]), (8, .cells 29 [q1aSSI r19.1, q1aIIS r19.2.1])], [], 0⟩ trivial ?_
            refine AWp.block ?_
            refine AWp.loopL (α := Nat × (Nat × (List (List UInt8 × List UInt8 × Int)) × (List (Int × Int × List UInt8)))) (fun x => match x with | (_, n20, l21, l22) => ⟨88, [(0, q1aIIS x1), (3, .ptr 3 0), (5, .ptr 5 0), (8, .ptr 8 0), (9, .int .i64 (n16 : Int)), (41, q1aIIS x1), (42, .int .i64 (((x1).length : Nat) : Int)), (43, .int .i64 (n16 : Int)), (54, .agg [.int .u8 x2, .int .u8 x3, .int .u8 x4]), (55, .int .i64 (n20 : Int)), (1000001, .tab .u64 Lib.pow10Tab)], [(3, .cells 23 [.int .u8 x2, .int .u8 x3, .int .u8 x4]), (5, .cells 29 [q1aSSI l13, q1aIIS l14]), (8, .cells 29 [q1aSSI l21, q1aIIS l22])], [], 0⟩) (fun x => f3_L2 x1 x2 x3 x4 n16 K3 x.1 x.2 = some r) (fun x => x.1) (FUEL, 0, r19.1, r19.2.1) (Le.mk (s' := ⟨88, [(0, q1aIIS x1), (3, .ptr 3 0), (5, .ptr 5 0), (8, .ptr 8 0), (9, .int .i64 (n16 : Int)), (41, q1aIIS x1), (42, .int .i64 (((x1).length : Nat) : Int)), (43, .int .i64 (n16 : Int)), (54, .agg [.int .u8 x2, .int .u8 x3, .int .u8 x4]), (55, .int .i64 (0 : Int)), (1000001, .tab .u64 Lib.pow10Tab)], [(3, .cells 23 [.int .u8 x2, .int .u8 x3, .int .u8 x4]), (5, .cells 29 [q1aSSI l13, q1aIIS l14]), (8, .cells 29 [q1aSSI r19.1, q1aIIS r19.2.1])], [], 0⟩) rfl rfl ⟨.refl _, .refl _, .refl _, .refl _, .refl _, .refl _, .refl _, .refl _, .refl _, .refl _, .refl _, trivial⟩ ⟨⟨_, rfl, .refl _⟩, ⟨_, rfl, .refl _⟩, ⟨_, rfl, .refl _⟩, trivial⟩) h ?_
            rintro ⟨k2, n20, l21, l22⟩ h
            cases k2 with
            | zero => exact nomatch (show (none : Option Bool) = some r from h)
            | succ k2 =>
            obtain ⟨C2, hC2⟩ : ∃ C, C = f3_L2 x1 x2 x3 x4 n16 K3 k2 := ⟨_, rfl⟩
            replace h := (f3_L2.eq_2 ..).symm.trans h
            try rw [← hC2] at h
            refine q1rq [] [] [0, 3, 5, 8, 9, 41, 42, 43, 54, 55, 56, 1000001] [3, 5, 8] ⟨88, [(0, q1aIIS x1), (3, .ptr 3 0), (5, .ptr 5 0), (8, .ptr 8 0), (9, .int .i64 (n16 : Int)), (41, q1aIIS x1), (42, .int .i64 (((x1).length : Nat) : Int)), (43, .int .i64 (n16 : Int)), (54, .agg [.int .u8 x2, .int .u8 x3, .int .u8 x4]), (55, .int .i64 (n20 : Int)), (56, .bool (decide ((n20 : Int) < (3 : Int)))), (1000001, .tab .u64 Lib.pow10Tab)], [(3, .cells 23 [.int .u8 x2, .int .u8 x3, .int .u8 x4]), (5, .cells 29 [q1aSSI l13, q1aIIS l14]), (8, .cells 29 [q1aSSI l21, q1aIIS l22])], [], 0⟩ trivial ?_
            refine AWp.seq ?_
            refine AWp.cond (b := (decide ((n20 : Int) < (3 : Int)))) (by kernel_rfl) (fun hc4 => ?_) (fun hc4 => ?_)
            ·
              replace h := ite_tb hc4 h
              refine AWp.skip ?_
              refine thenQ_normal ?_
              obtain ⟨K4, hK4, h⟩ := jn_some h
              refine AWp.join (α := (List (List UInt8 × List UInt8 × Int)) × (List (Int × Int × List UInt8))) (fun (x : (List (List UInt8 × List UInt8 × Int)) × (List (Int × Int × List UInt8))) => match x with | (l24, l25) => ⟨88, [(0, q1aIIS x1), (3, .ptr 3 0), (5, .ptr 5 0), (8, .ptr 8 0), (9, .int .i64 (n16 : Int)), (41, q1aIIS x1), (42, .int .i64 (((x1).length : Nat) : Int)), (43, .int .i64 (n16 : Int)), (54, .agg [.int .u8 x2, .int .u8 x3, .int .u8 x4]), (55, .int .i64 (n20 : Int)), (1000001, .tab .u64 Lib.pow10Tab)], [(3, .cells 23 [.int .u8 x2, .int .u8 x3, .int .u8 x4]), (5, .cells 29 [q1aSSI l13, q1aIIS l14]), (8, .cells 29 [q1aSSI l24, q1aIIS l25])], [], 0⟩) (fun x => K4 x = some r) ?_ ?_
              ·
                refine AWp.block ?_
                refine AWp.seq ?_
                obtain ⟨ob9, h⟩ := chk_some h
                refine q1rr [] [(0, ⟨[.agg [.int .u8 x2, .int .u8 x3, .int .u8 x4], .int .i64 (n20 : Int)], [], [], [], .int .u8 (([x2, x3, x4] : List Int).getD n20 0), [], [], []⟩)] [0, 3, 5, 8, 9, 12, 41, 42, 43, 54, 55, 1000001] [3, 5, 8] ⟨88, [(0, q1aIIS x1), (3, .ptr 3 0), (5, .ptr 5 0), (8, .ptr 8 0), (9, .int .i64 (n16 : Int)), (12, .int .u8 (([x2, x3, x4] : List Int).getD n20 0)), (41, q1aIIS x1), (42, .int .i64 (((x1).length : Nat) : Int)), (43, .int .i64 (n16 : Int)), (54, .agg [.int .u8 x2, .int .u8 x3, .int .u8 x4]), (55, .int .i64 (n20 : Int)), (1000001, .tab .u64 Lib.pow10Tab)], [(3, .cells 23 [.int .u8 x2, .int .u8 x3, .int .u8 x4]), (5, .cells 29 [q1aSSI l13, q1aIIS l14]), (8, .cells 29 [q1aSSI l21, q1aIIS l22])], [], 0⟩ (an1 (And.intro (indexI_spec (kx := .i64) (P := Tryd.prog) Tryd.underlying23 Tryd.underlying5 (by kernel_rfl) (.tmp 54) (.tmp 55) 5 ([x2, x3, x4] : List Int) n20 rfl ob9) (VLes.same [.agg [.int .u8 x2, .int .u8 x3, .int .u8 x4], .int .i64 (n20 : Int)]))) ?_
                refine thenQ_normal ?_
                refine AWp.seq ?_
                obtain ⟨ob10, h⟩ := chk_some h
                obtain ⟨ob11, h⟩ := chk_some h
                refine q1rr [] [] [0, 3, 5, 8, 9, 12, 41, 42, 43, 54, 55, 64, 1000001] [3, 5, 8] ⟨88, [(0, q1aIIS x1), (3, .ptr 3 0), (5, .ptr 5 0), (8, .ptr 8 0), (9, .int .i64 (n16 : Int)), (12, .int .u8 (([x2, x3, x4] : List Int).getD n20 0)), (41, q1aIIS x1), (42, .int .i64 (((x1).length : Nat) : Int)), (43, .int .i64 (n16 : Int)), (54, .agg [.int .u8 x2, .int .u8 x3, .int .u8 x4]), (55, .int .i64 (n20 : Int)), (64, .bool (decide (((([x2, x3, x4] : List Int).getD n20 0) % (((x1).length : Nat) : Int)) ≤ (n16 : Int)))), (1000001, .tab .u64 Lib.pow10Tab)], [(3, .cells 23 [.int .u8 x2, .int .u8 x3, .int .u8 x4]), (5, .cells 29 [q1aSSI l13, q1aIIS l14]), (8, .cells 29 [q1aSSI l21, q1aIIS l22])], [], 0⟩ (an2 ob10 ob11) ?_
                refine thenQ_normal ?_
                refine AWp.cond (b := (decide (((([x2, x3, x4] : List Int).getD n20 0) % (((x1).length : Nat) : Int)) ≤ (n16 : Int)))) (by kernel_rfl) (fun hc5 => ?_) (fun hc5 => ?_)
                ·
                  replace h := ite_tb hc5 h
                  obtain ⟨r23, hr23, h⟩ := bind_ok h
                  obtain ⟨ob12, h⟩ := chk_some h
                  obtain ⟨ob13, h⟩ := chk_some h
                  obtain ⟨ob14, h⟩ := chk_some h
                  refine q1rr [] [(9, ⟨[.agg [q1aSSI l21, q1aIIS l22], .agg [.int .i64 (x1.getD ((((([x2, x3, x4] : List Int).getD n20 0) % (((x1).length : Nat) : Int))).toNat) q1dIIS).1, .int .i64 (x1.getD ((((([x2, x3, x4] : List Int).getD n20 0) % (((x1).length : Nat) : Int))).toNat) q1dIIS).2.1, .str (x1.getD ((((([x2, x3, x4] : List Int).getD n20 0) % (((x1).length : Nat) : Int))).toNat) q1dIIS).2.2]], [], [], [], .tup [.agg [q1aSSI r23.1, q1aIIS r23.2.1], .str r23.2.2], [], [], [1]⟩)] [0, 3, 5, 8, 9, 41, 42, 43, 54, 55, 1000001] [3, 5, 8] ⟨88, [(0, q1aIIS x1), (3, .ptr 3 0), (5, .ptr 5 0), (8, .ptr 8 0), (9, .int .i64 (n16 : Int)), (41, q1aIIS x1), (42, .int .i64 (((x1).length : Nat) : Int)), (43, .int .i64 (n16 : Int)), (54, .agg [.int .u8 x2, .int .u8 x3, .int .u8 x4]), (55, .int .i64 (n20 : Int)), (1000001, .tab .u64 Lib.pow10Tab)], [(3, .cells 23 [.int .u8 x2, .int .u8 x3, .int .u8 x4]), (5, .cells 29 [q1aSSI l13, q1aIIS l14]), (8, .cells 29 [q1aSSI r23.1, q1aIIS r23.2.1])], [], 0⟩ (an5 ob12 ob13 ob14 (cpT (f7_ok _ _ _ _ _ _ hr23)) trivial) ?_
                  refine blockQ_normal ?_
                  exact joinQ_normal (r23.1, r23.2.1) (Le.mk rfl rfl ⟨.refl _, .refl _, .refl _, .refl _, .refl _, .refl _, .refl _, .refl _, .refl _, .refl _, .refl _, trivial⟩ ⟨⟨_, rfl, .refl _⟩, ⟨_, rfl, .refl _⟩, ⟨_, rfl, .refl _⟩, trivial⟩) h
                ·
                  replace h := ite_fb hc5 h
                  refine AWp.skip ?_
                  refine blockQ_normal ?_
                  exact joinQ_normal (l21, l22) (Le.mk rfl rfl ⟨.refl _, .refl _, .refl _, .refl _, .refl _, .refl _, .refl _, .refl _, .refl _, .refl _, .refl _, trivial⟩ ⟨⟨_, rfl, .refl _⟩, ⟨_, rfl, .refl _⟩, ⟨_, rfl, .refl _⟩, trivial⟩) h
              ·
                rintro ⟨l24, l25⟩ h
                replace h := (congrFun hK4 _).symm.trans h
                obtain ⟨ob15p, h⟩ := chk_some h
                have ob15 : -9223372036854775808 ≤ ((n20 : Int) + (1 : Int)) ∧ ((n20 : Int) + (1 : Int)) ≤ 9223372036854775807 := ⟨by omega, ob15p⟩
                refine q1rr [] [] [0, 3, 5, 8, 9, 41, 42, 43, 54, 55, 1000001] [3, 5, 8] ⟨88, [(0, q1aIIS x1), (3, .ptr 3 0), (5, .ptr 5 0), (8, .ptr 8 0), (9, .int .i64 (n16 : Int)), (41, q1aIIS x1), (42, .int .i64 (((x1).length : Nat) : Int)), (43, .int .i64 (n16 : Int)), (54, .agg [.int .u8 x2, .int .u8 x3, .int .u8 x4]), (55, .int .i64 (((n20 + 1) : Nat) : Int)), (1000001, .tab .u64 Lib.pow10Tab)], [(3, .cells 23 [.int .u8 x2, .int .u8 x3, .int .u8 x4]), (5, .cells 29 [q1aSSI l13, q1aIIS l14]), (8, .cells 29 [q1aSSI l24, q1aIIS l25])], [], 0⟩ (an1 ob15) ?_
                rw [hC2] at h
                exact loopQ_normal (_, (n20 + 1), l24, l25) (Le.mk rfl rfl ⟨.refl _, .refl _, .refl _, .refl _, .refl _, .refl _, .refl _, .refl _, .refl _, .refl _, .refl _, trivial⟩ ⟨⟨_, rfl, .refl _⟩, ⟨_, rfl, .refl _⟩, ⟨_, rfl, .refl _⟩, trivial⟩) h (Nat.lt_succ_self _)
            ·
              replace h := ite_fb hc4 h
              refine AWp.exit ?_
              refine thenQ_exit ?_
              refine thenQ_exit ?_
              refine blockQ_same ?_
              refine blockQ_normal ?_
              exact joinQ_normal (l21, l22) (Le.mk rfl rfl ⟨.refl _, .refl _, .refl _, .refl _, .refl _, .refl _, .refl _, .refl _, trivial⟩ ⟨⟨_, rfl, .refl _⟩, ⟨_, rfl, .refl _⟩, ⟨_, rfl, .refl _⟩, trivial⟩) h
          ·
            rintro ⟨l26, l27⟩ h
            replace h := (congrFun hK3 _).symm.trans h
            obtain ⟨ob16p, h⟩ := chk_some h
            have ob16 : -9223372036854775808 ≤ ((n16 : Int) + (1 : Int)) ∧ ((n16 : Int) + (1 : Int)) ≤ 9223372036854775807 := ⟨by omega, ob16p⟩
            refine q1rr [] [] [0, 3, 5, 8, 41, 42, 43, 1000001] [3, 5, 8] ⟨88, [(0, q1aIIS x1), (3, .ptr 3 0), (5, .ptr 5 0), (8, .ptr 8 0), (41, q1aIIS x1), (42, .int .i64 (((x1).length : Nat) : Int)), (43, .int .i64 (((n16 + 1) : Nat) : Int)), (1000001, .tab .u64 Lib.pow10Tab)], [(3, .cells 23 [.int .u8 x2, .int .u8 x3, .int .u8 x4]), (5, .cells 29 [q1aSSI l13, q1aIIS l14]), (8, .cells 29 [q1aSSI l26, q1aIIS l27])], [], 0⟩ (an1 ob16) ?_
            rw [hC1] at h
            exact loopQ_normal (_, (n16 + 1), l26, l27) (Le.mk rfl rfl ⟨.refl _, .refl _, .refl _, .refl _, .refl _, .refl _, .refl _, .refl _, trivial⟩ ⟨⟨_, rfl, .refl _⟩, ⟨_, rfl, .refl _⟩, ⟨_, rfl, .refl _⟩, trivial⟩) h (Nat.lt_succ_self _)
        ·
          replace h := ite_fb hc3 h
          refine AWp.exit ?_
          refine thenQ_exit ?_
          refine thenQ_exit ?_
          refine blockQ_same ?_
          exact joinQ_normal (l17, l18) (Le.mk rfl rfl ⟨.refl _, .refl _, .refl _, trivial⟩ ⟨⟨_, rfl, .refl _⟩, ⟨_, rfl, .refl _⟩, trivial⟩) h
      ·
        rintro ⟨l28, l29⟩ h
        replace h := (congrFun hK2 _).symm.trans h
        refine AWp.seq ?_
        obtain ⟨r30, hr30, h⟩ := bind_ok h
        obtain ⟨r31, hr31, h⟩ := optc_some h
        have ob17 : (r30 == true) = true → (r30 == true) = true := fun h => h
        have ob18 : (r30 == true) = true → (r30 == true) = true := fun h => h
        have ob19 : true = true → r30 = true → (r30 == true) = true := fun _ h => beq_iff_eq.2 h
        refine q1rr [] [(2, ⟨[.agg [q1aSSI l28, q1aIIS l29], .agg [q1aSSI l13, q1aIIS l14]], [], [], [], .bool r30, [], [], []⟩), (6, ⟨[.agg [q1aSSI l28, q1aIIS l29], .agg [q1aSSI l13, q1aIIS l14]], [], [], [], .bool r31, [], [], []⟩)] [4, 1000001] [] ⟨88, [(4, .bool (r30 && r31)), (1000001, .tab .u64 Lib.pow10Tab)], [], [], 0⟩ (an3 (cpT (f8_ok _ _ _ _ _ hr30)) (And.intro (cpC fun hc => (f9_ok _ _ _ _ _ (hr31 hc))) (an2 ob17 ob18)) ob19) ?_
        refine thenQ_normal ?_
        have hret := Option.some.inj h
        subst hret
        refine AWp.le (Le.mk (s' := ⟨88, [(4, .bool (r30 && r31))], [], [], 0⟩) rfl rfl ⟨.refl _, trivial⟩ trivial) ?_
        refine AWp.ret ?_
        exact bodyQ_ret _ rfl ⟨rfl, rfl⟩ rfl
end Go.Abs
namespace Go.Abs
theorem chk_pos {p : Prop} [Decidable p] {α : Type} {x : Option α} (h : p) : chk p x = x := if_pos h
theorem ifd_pos {p : Prop} [Decidable p] {α : Type} {x y : α} (h : p) : (if decide p = true then x else y) = x := if_pos (decide_eq_true h)
theorem ifd_neg {p : Prop} [Decidable p] {α : Type} {x y : α} (h : ¬ p) : (if decide p = true then x else y) = y := if_neg (by simpa using h)
theorem jn_eq {α β : Type} (K : α → Option β) (x : (α → Option β) → Option β) : jn K x = x K := rfl
theorem optc_t {α β : Type} [Inhabited α] {x : Option α} {k : α → Option β} : optc true x k = x.bind k := rfl
theorem some_bind {α β : Type} (a : α) (f : α → Option β) : (some a).bind f = f a := rfl
theorem abc_eq {α : Type} [DecidableEq α] {q : Prop} [Decidable q] {x y : Option α} (h : q → x = y) : abc q x y = y := by
  unfold abc both
  split
  · rename_i hq; rw [h hq]; simp
  · rfl
theorem fuel_lt {n : Nat} (h : n ≤ 18446744073709551615) : n < FUEL := by unfold FUEL; omega
theorem getD_drop {α : Type} (x : List α) (n : Nat) (d : α) (h : n < x.length) : x.drop n = x.getD n d :: x.drop (n + 1) := by
  rw [List.drop_eq_getElem_cons h]
  simp [List.getD_eq_getElem?_getD, h]
/-- A search: the first element of which p holds. -/
theorem find_up {α R : Type} (L : Nat → Nat → Option R) (x : List α) (d : α) (p : α → Bool) (r : Nat → Option R) (K : Option R)
    (h : ∀ k n, n < x.length → L (k + 1) n = if p (x.getD n d) = true then r n else L k (n + 1))
    (he : ∀ k, L (k + 1) x.length = K) : ∀ c k n, n + c = x.length → c < k →
      (∃ m, n ≤ m ∧ m < x.length ∧ p (x.getD m d) = true ∧ L k n = r m ∧ (x.drop n).any p = true) ∨ (L k n = K ∧ (x.drop n).any p = false)
  | 0, k, n, hn, hk => by
    obtain ⟨k, rfl⟩ : ∃ q, k = q + 1 := ⟨k - 1, by omega⟩
    obtain rfl : n = x.length := by omega
    exact .inr ⟨he k, by rw [List.drop_eq_nil_of_le (Nat.le_refl _)]; rfl⟩
  | c + 1, k, n, hn, hk => by
    obtain ⟨k, rfl⟩ : ∃ q, k = q + 1 := ⟨k - 1, by omega⟩
    have hlt : n < x.length := by omega
    rw [h k n hlt, getD_drop x n d hlt]
    by_cases hp : p (x.getD n d) = true
    · rw [if_pos hp]; exact .inl ⟨n, Nat.le_refl _, hlt, hp, rfl, by rw [List.any_cons, hp]; rfl⟩
    · rw [if_neg hp]
      have hp' : p (x.getD n d) = false := by simpa using hp
      rw [List.any_cons, hp', Bool.false_or]
      rcases find_up L x d p r K h he c k (n + 1) (by omega) (by omega) with ⟨m, h1, h2⟩ | h2
      · exact .inl ⟨m, by omega, h2⟩
      · exact .inr h2
/-- .. of which only is asked whether there is one. -/
theorem any_up {α R : Type} (L : Nat → Nat → Option R) (x : List α) (d : α) (p : α → Bool) (r : Option R) (K : Option R)
    (h : ∀ k n, n < x.length → L (k + 1) n = if p (x.getD n d) = true then r else L k (n + 1))
    (he : ∀ k, L (k + 1) x.length = K) (k : Nat) (hk : x.length < k) : L k 0 = if x.any p = true then r else K := by
  rcases find_up L x d p (fun _ => r) K h he x.length k 0 (by omega) hk with ⟨m, _, _, _, h1, h2⟩ | ⟨h1, h2⟩
  · rw [h1, if_pos (by simpa using h2)]
  · rw [h1, if_neg (by simpa using h2)]
end Go.Abs
