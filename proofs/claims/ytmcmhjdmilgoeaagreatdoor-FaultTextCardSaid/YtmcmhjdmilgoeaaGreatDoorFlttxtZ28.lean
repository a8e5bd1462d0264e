/- Part 28 of the proof: X19p. -/
import Derived.Test.YtmcmhjdmilgoeaaGreatDoorFlttxtZ27
namespace Go.Abs
open Go Go.Proofs
set_option maxHeartbeats 4000000
variable {mxl : Int}
set_option maxRecDepth 100000 in
theorem f37_ok  (x1 : List (BitVec 16)) (x2 : List (BitVec 16)) (r : Bool) (h : f37 x1 x2 = some r)  : Spec1 Tryz.prog 37 [] [] [] [vL 1 eW 0#16 x1, vL 1 eW 0#16 x2] (.bool r) [] := by
  unfold f37 at h
  refine Spec1.body 0 _ _ Tryz.func37 rfl Tryz.ntmps37 rfl rfl ?_
  refine q2rq [] [] ⟨26, [(0, q2aW x1), (1, q2aW x2)], [], [], 0⟩ trivial ?_
  refine AWp.seq ?_
  refine q2rq [] [] ⟨26, [(0, q2aW x1), (1, q2aW x2), (10, .bool ((lZ x1) != (lZ x2)))], [], [], 0⟩ trivial ?_
  refine AWp.cond (b := ((lZ x1) != (lZ x2))) (by kernel_rfl) (fun hc1 => ?_) (fun hc1 => ?_)
  ·
    replace h := ite_tb hc1 h
    refine q2rq [] [] ⟨26, [(4, .bool false)], [], [], 0⟩ trivial ?_
    have hret := Option.some.inj h
    subst hret
    refine AWp.le (Le.mk (s' := ⟨26, [(4, .bool false)], [], [], 0⟩) rfl rfl ⟨.refl _, trivial⟩ trivial) ?_
    refine AWp.ret ?_
    refine thenQ_ret ?_
    exact bodyQ_ret _ rfl ⟨rfl, rfl⟩ rfl
  ·
    replace h := ite_fb hc1 h
    refine AWp.skip ?_
    refine thenQ_normal ?_
    obtain ⟨K1, hK1, h⟩ := jn_some h
    refine AWp.join (α := Unit) (fun (x : Unit) => match x with | () => ⟨26, [], [], [], 0⟩) (fun x => K1 x = some r) ?_ ?_
    ·
      refine q2rq [] [] ⟨26, [(0, q2aW x1), (1, q2aW x2), (5, .i (0 : Int))], [], [], 0⟩ trivial ?_
      refine AWp.block ?_
      refine AWp.loopL (α := Nat × Nat) (fun x => match x with | (_, n3) => ⟨26, [(0, q2aW x1), (1, q2aW x2), (5, .i (n3 : Int))], [], [], 0⟩) (fun x => f37_L0 x1 x2 K1 x.1 x.2 = some r) (fun x => x.1) (FUEL, 0) (Le.mk (s' := ⟨26, [(0, q2aW x1), (1, q2aW x2), (5, .i (0 : Int))], [], [], 0⟩) rfl rfl ⟨.refl _, .refl _, .refl _, trivial⟩ trivial) h ?_
      rintro ⟨k0, n3⟩ h
      cases k0 with
      | zero => exact nomatch (show (none : Option Bool) = some r from h)
      | succ k0 =>
      obtain ⟨C0, hC0⟩ : ∃ C, C = f37_L0 x1 x2 K1 k0 := ⟨_, rfl⟩
      replace h := (f37_L0.eq_2 ..).symm.trans h
      try rw [← hC0] at h
      refine AWp.seq ?_
      refine q2rq [] [] ⟨26, [(0, q2aW x1), (1, q2aW x2), (5, .i (n3 : Int)), (14, .bool (decide ((n3 : Int) < (lZ x1))))], [], [], 0⟩ trivial ?_
      refine AWp.cond (b := (decide ((n3 : Int) < (lZ x1)))) (by kernel_rfl) (fun hc2 => ?_) (fun hc2 => ?_)
      ·
        replace h := ite_tb hc2 h
        refine AWp.skip ?_
        refine thenQ_normal ?_
        refine AWp.seq ?_
        refine AWp.block ?_
        refine AWp.seq ?_
        obtain ⟨ob0p, h⟩ := chk_some h
        have ob0 : 0 ≤ (n3 : Int) ∧ (n3 : Int) < (((x1).length : Nat) : Int) := ⟨by omega, ob0p⟩
        obtain ⟨ob1p, h⟩ := chk_some h
        have ob1 : 0 ≤ (n3 : Int) ∧ (n3 : Int) < (((x2).length : Nat) : Int) := ⟨by omega, ob1p⟩
        refine q2rr [] [] ⟨26, [(0, q2aW x1), (1, q2aW x2), (5, .i (n3 : Int)), (25, .bool (!((x1.getD n3 0#16) == (x2.getD n3 0#16))))], [], [], 0⟩ (an2 ob0 ob1) ?_
        refine thenQ_normal ?_
        refine AWp.cond (b := (!((x1.getD n3 0#16) == (x2.getD n3 0#16)))) (by kernel_rfl) (fun hc3 => ?_) (fun hc3 => ?_)
        ·
          replace h := ite_tb hc3 h
          refine q2rq [] [] ⟨26, [(4, .bool false)], [], [], 0⟩ trivial ?_
          have hret := Option.some.inj h
          subst hret
          refine AWp.le (Le.mk (s' := ⟨26, [(4, .bool false)], [], [], 0⟩) rfl rfl ⟨.refl _, trivial⟩ trivial) ?_
          refine AWp.ret ?_
          refine blockQ_ret ?_
          refine thenQ_ret ?_
          refine thenQ_ret ?_
          refine blockQ_ret ?_
          refine joinQ_ret ?_
          exact bodyQ_ret _ rfl ⟨rfl, rfl⟩ rfl
        ·
          replace h := ite_fb hc3 h
          refine AWp.skip ?_
          refine blockQ_normal ?_
          refine thenQ_normal ?_
          obtain ⟨ob2p, h⟩ := chk_some h
          have ob2 : -9223372036854775808 ≤ ((n3 : Int) + (1 : Int)) ∧ ((n3 : Int) + (1 : Int)) ≤ 9223372036854775807 := ⟨by omega, ob2p⟩
          refine q2rr [] [] ⟨26, [(0, q2aW x1), (1, q2aW x2), (5, .i (((n3 + 1) : Nat) : Int))], [], [], 0⟩ (an1 ob2) ?_
          rw [hC0] at h
          exact loopQ_normal (_, (n3 + 1)) (Le.mk rfl rfl ⟨.refl _, .refl _, .refl _, trivial⟩ trivial) h (Nat.lt_succ_self _)
      ·
        replace h := ite_fb hc2 h
        refine AWp.exit ?_
        refine thenQ_exit ?_
        refine thenQ_exit ?_
        refine blockQ_same ?_
        exact joinQ_normal () (Le.mk rfl rfl trivial trivial) h
    ·
      rintro ⟨⟩ h
      replace h := (congrFun hK1 _).symm.trans h
      refine q2rq [] [] ⟨26, [(4, .bool true)], [], [], 0⟩ trivial ?_
      have hret := Option.some.inj h
      subst hret
      refine AWp.le (Le.mk (s' := ⟨26, [(4, .bool true)], [], [], 0⟩) rfl rfl ⟨.refl _, trivial⟩ trivial) ?_
      refine AWp.ret ?_
      exact bodyQ_ret _ rfl ⟨rfl, rfl⟩ rfl
abbrev f12z0 (r1 : (List (BitVec 16 × BitVec 16)) × Int) (r2 : Int × (List (BitVec 16 × BitVec 16))) := ((r1.2 == (0 : Int)) && (r2.1 == (0 : Int)))
abbrev f12z1 : List V := [.agg [.b16 ([((BitVec.ofInt 16 1), (BitVec.ofInt 16 6))].getD 0 (default : BitVec 16 × BitVec 16)).1, .b16 ([((BitVec.ofInt 16 1), (BitVec.ofInt 16 6))].getD 0 (default : BitVec 16 × BitVec 16)).2], .agg [.b16 ([((BitVec.ofInt 16 3), (BitVec.ofInt 16 0))].getD 0 (default : BitVec 16 × BitVec 16)).1, .b16 ([((BitVec.ofInt 16 3), (BitVec.ofInt 16 0))].getD 0 (default : BitVec 16 × BitVec 16)).2]]
abbrev f12z2 (r1 : (List (BitVec 16 × BitVec 16)) × Int) := ((((r1.1.getD 1 (default : BitVec 16 × BitVec 16)).1) == (BitVec.ofInt 16 1)) && ((((r1.1.getD 1 (default : BitVec 16 × BitVec 16)).2) == (BitVec.ofInt 16 4)) && true))
abbrev f12z3 (r1 : (List (BitVec 16 × BitVec 16)) × Int) := ((r1.2 == (0 : Int)) == true)
def f12  : Option Bool :=
  (f20 (3 : Int) (1 : Int) (1 : Int)).bind fun (r1 : (List (BitVec 16 × BitVec 16)) × Int) =>
  (f27 [((BitVec.ofInt 16 3), (BitVec.ofInt 16 0))] [((BitVec.ofInt 16 1), (BitVec.ofInt 16 6))]).bind fun (r2 : Int × (List (BitVec 16 × BitVec 16))) =>
  if ((((r1.2 == (0 : Int)) && (r2.1 == (0 : Int))) && ((((r1.1).length : Nat) : Int) == (6 : Int))) && ((((r1.1.getD 1 (default : BitVec 16 × BitVec 16)).1) == (BitVec.ofInt 16 1)) && ((((r1.1.getD 1 (default : BitVec 16 × BitVec 16)).2) == (BitVec.ofInt 16 4)) && true))) = true then (
  (f22 r2.2 [((BitVec.ofInt 16 1), (BitVec.ofInt 16 2))]).bind fun (r3 : Bool) =>
  optc (r3 == true) (f16 (([((BitVec.ofInt 16 1), (BitVec.ofInt 16 6))].getD 0 (default : BitVec 16 × BitVec 16)).1) (([((BitVec.ofInt 16 1), (BitVec.ofInt 16 6))].getD 0 (default : BitVec 16 × BitVec 16)).2) (([((BitVec.ofInt 16 3), (BitVec.ofInt 16 0))].getD 0 (default : BitVec 16 × BitVec 16)).1) (([((BitVec.ofInt 16 3), (BitVec.ofInt 16 0))].getD 0 (default : BitVec 16 × BitVec 16)).2)) fun (r4 : Bool) =>
  optc ((r3 && (!r4)) == true) (f35 r2.2) fun (r5 : List UInt8) =>
  if ((r3 && (!r4)) && (r5 == cs2)) = true then (
  (f38 ([((BitVec.ofInt 16 1), (BitVec.ofInt 16 6))] ++ [((BitVec.ofInt 16 3), (BitVec.ofInt 16 0))])).bind fun (r6 : List (BitVec 16)) =>
  (f37 r6 [(BitVec.ofInt 16 3)]).bind fun (r7 : Bool) =>
  chk (((((r1.2 == (0 : Int)) && (r2.1 == (0 : Int))) && ((((r1.1).length : Nat) : Int) == (6 : Int))) == true) = true → 0 ≤ (1 : Int) ∧ (1 : Int) < (((r1.1).length : Nat) : Int)) <|
  chk ((r3 == true) = true → 0 ≤ (0 : Int) ∧ (0 : Int) < ((([((BitVec.ofInt 16 1), (BitVec.ofInt 16 6))]).length : Nat) : Int)) <|
  chk ((r3 == true) = true → 0 < ([((BitVec.ofInt 16 1), (BitVec.ofInt 16 6))]).length) <|
  chk ((r3 == true) = true → 0 ≤ (0 : Int) ∧ (0 : Int) < ((([((BitVec.ofInt 16 3), (BitVec.ofInt 16 0))]).length : Nat) : Int)) <|
  chk ((r3 == true) = true → 0 < ([((BitVec.ofInt 16 3), (BitVec.ofInt 16 0))]).length) <|
  chk ((([((BitVec.ofInt 16 1), (BitVec.ofInt 16 6))]).length + ([((BitVec.ofInt 16 3), (BitVec.ofInt 16 0))]).length) * 4 ≤ 140737488355328) <|
  some r7
  ) else (
  chk (((((r1.2 == (0 : Int)) && (r2.1 == (0 : Int))) && ((((r1.1).length : Nat) : Int) == (6 : Int))) == true) = true → 0 ≤ (1 : Int) ∧ (1 : Int) < (((r1.1).length : Nat) : Int)) <|
  chk ((r3 == true) = true → 0 ≤ (0 : Int) ∧ (0 : Int) < ((([((BitVec.ofInt 16 1), (BitVec.ofInt 16 6))]).length : Nat) : Int)) <|
  chk ((r3 == true) = true → 0 < ([((BitVec.ofInt 16 1), (BitVec.ofInt 16 6))]).length) <|
  chk ((r3 == true) = true → 0 ≤ (0 : Int) ∧ (0 : Int) < ((([((BitVec.ofInt 16 3), (BitVec.ofInt 16 0))]).length : Nat) : Int)) <|
  chk ((r3 == true) = true → 0 < ([((BitVec.ofInt 16 3), (BitVec.ofInt 16 0))]).length) <|
  some false
  )
  ) else (
  chk (((((r1.2 == (0 : Int)) && (r2.1 == (0 : Int))) && ((((r1.1).length : Nat) : Int) == (6 : Int))) == true) = true → 0 ≤ (1 : Int) ∧ (1 : Int) < (((r1.1).length : Nat) : Int)) <|
  chk (false = true → 0 ≤ (0 : Int) ∧ (0 : Int) < ((([((BitVec.ofInt 16 1), (BitVec.ofInt 16 6))]).length : Nat) : Int)) <|
  chk (false = true → 0 < ([((BitVec.ofInt 16 1), (BitVec.ofInt 16 6))]).length) <|
  chk (false = true → 0 ≤ (0 : Int) ∧ (0 : Int) < ((([((BitVec.ofInt 16 3), (BitVec.ofInt 16 0))]).length : Nat) : Int)) <|
  chk (false = true → 0 < ([((BitVec.ofInt 16 3), (BitVec.ofInt 16 0))]).length) <|
  some false
  )
set_option maxRecDepth 100000 in
theorem f12_ok   (r : Bool) (h : f12 = some r)  : Spec1 Tryz.prog 12 [(0, .elem 32 1 T0F 0 0), (6, .tab .u64 Lib.pow10Tab)] [] [] [] (.bool r) [] := by
  unfold f12 at h
  refine Spec1.body 0 _ _ Tryz.func12 rfl Tryz.ntmps12 rfl rfl ?_
  refine q2rq [] [] ⟨68, [(1000000, .elem 32 1 T0F 0 0), (1000006, .tab .u64 Lib.pow10Tab)], [], [], 0⟩ trivial ?_
  refine AWp.seq ?_
  obtain ⟨r1, hr1, h⟩ := bind_ok h
  refine q2rr [] [(0, ⟨[.i (3 : Int), .i (1 : Int), .i (1 : Int)], [], [], [], .tup [q2aWW r1.1, .i r1.2], [], [], [0]⟩)] ⟨68, [(1, q2aWW r1.1), (2, .i r1.2), (1000000, .elem 32 1 T0F 0 0), (1000006, .tab .u64 Lib.pow10Tab)], [], [], 0⟩ (an1 (cpT (f20_ok _ _ _ _ hr1))) ?_
  refine thenQ_normal ?_
  refine q2rq [] [] ⟨68, [(1, q2aWW r1.1), (2, .i r1.2), (3, .own 12), (4, .own 14), (1000000, .elem 32 1 T0F 0 0), (1000006, .tab .u64 Lib.pow10Tab)], [(12, .rows 30 2 1 (lstF 2 [.b16 (q2w16 3), .b16 (q2w16 0)])), (14, .rows 30 2 1 (lstF 2 [.b16 (q2w16 1), .b16 (q2w16 6)]))], [], 0⟩ trivial ?_
  refine AWp.le (Le.mk (s' := ⟨68, [(1, q2aWW r1.1), (2, .i r1.2), (3, .own 12), (4, .own 14), (1000000, .elem 32 1 T0F 0 0), (1000006, .tab .u64 Lib.pow10Tab)], [(12, q2bWW_30 [((q2w16 3), (q2w16 0))]), (14, q2bWW_30 [((q2w16 1), (q2w16 6))])], [], 0⟩) rfl rfl ⟨.refl _, .refl _, .refl _, .refl _, .refl _, .refl _, trivial⟩ ⟨⟨_, rfl, (BLe.of (RL.lst (enc := eWW) [((q2w16 3), (q2w16 0))] rfl rfl (fun _ => rfl)))⟩, ⟨_, rfl, (BLe.of (RL.lst (enc := eWW) [((q2w16 1), (q2w16 6))] rfl rfl (fun _ => rfl)))⟩, trivial⟩) ?_
  refine AWp.seq ?_
  obtain ⟨r2, hr2, h⟩ := bind_ok h
  refine q2rr [] [(2, ⟨[q2aWW [((q2w16 3), (q2w16 0))], q2aWW [((q2w16 1), (q2w16 6))]], [], [], [(6001, q2bWW_30 r2.2)], .tup [.own 6001, .i r2.1], [6001], [12, 14], []⟩)] ⟨68, [(1, q2aWW r1.1), (2, .i r1.2), (3, .own 12), (4, .own 14), (5, .own 6001), (6, .i r2.1), (1000000, .elem 32 1 T0F 0 0), (1000006, .tab .u64 Lib.pow10Tab)], [(12, q2bWW_30 [((q2w16 3), (q2w16 0))]), (14, q2bWW_30 [((q2w16 1), (q2w16 6))]), (6001, q2bWW_30 r2.2)], [], 0⟩ (an1 (cpL (c := true) [(12, q2bWW_30 [((q2w16 3), (q2w16 0))]), (14, q2bWW_30 [((q2w16 1), (q2w16 6))])] [12, 14] [.own 12, .own 14] (fun _ => (Spec1.ren (swapN 3000 6001) (swapN_inv 3000 6001) rfl (f27_ok _ _ _ hr2))) (fun _ => ⟨.refl _, .refl _, trivial⟩) (.inr ⟨rfl, ⟨(fun _ _ _ _ => eWW_flat _ _), trivial⟩⟩))) ?_
  refine thenQ_normal ?_
  refine AWp.seq ?_
  by_cases hg4_18 : ((((r1.2 == (0 : Int)) && (r2.1 == (0 : Int))) && ((((r1.1).length : Nat) : Int) == (6 : Int))) && ((((r1.1.getD 1 q2dWW).1) == (q2w16 1)) && ((((r1.1.getD 1 q2dWW).2) == (q2w16 4)) && true))) = true
  ·
    replace h := ite_t hg4_18 h
    obtain ⟨r3, hr3, h⟩ := bind_ok h
    obtain ⟨r4, hr4, h⟩ := optc_some h
    obtain ⟨r5, hr5, h⟩ := optc_some h
    by_cases hg4_39 : ((r3 && (!r4)) && (r5 == cs2)) = true
    ·
      replace h := ite_t hg4_39 h
      obtain ⟨r6, hr6, h⟩ := bind_ok h
      obtain ⟨r7, hr7, h⟩ := bind_ok h
      have ob0 := idA ((f12z3 r1) = true)
      have ob1 : true = true → (r1.2 == (0 : Int)) = true → (f12z3 r1) = true := fun _ h => beq_iff_eq.2 h
      have ob2 := idA (((f12z0 r1 r2) == true) = true)
      have ob3 := idA (((f12z0 r1 r2) == true) = true)
      have ob4 := bqA (f12z0 r1 r2) true
      obtain ⟨ob5, h⟩ := chk_some h
      have ob6 := idA ((((f12z0 r1 r2) && ((lZ r1.1) == (6 : Int))) == true) = true)
      have ob7 := idA ((((f12z0 r1 r2) && ((lZ r1.1) == (6 : Int))) == true) = true)
      have ob8 := idA ((((f12z0 r1 r2) && ((lZ r1.1) == (6 : Int))) == true) = true)
      have ob9 := idA ((((f12z0 r1 r2) && ((lZ r1.1) == (6 : Int))) == true) = true)
      have ob10 := bqA ((f12z0 r1 r2) && ((lZ r1.1) == (6 : Int))) true
      have ob11 := idA (true = true)
      have ob12 := idA (true = true)
      have ob13 : true = true → true = true → true = true := fun _ h => h
      obtain ⟨ob14, h⟩ := chk_some h
      have ob15 := idA ((r3 == true) = true)
      obtain ⟨ob16, h⟩ := chk_some h
      have ob17 := idA ((r3 == true) = true)
      obtain ⟨ob18, h⟩ := chk_some h
      have ob19 := idA ((r3 == true) = true)
      obtain ⟨ob20, h⟩ := chk_some h
      have ob21 := idA ((r3 == true) = true)
      have ob22 := idA ((r3 == true) = true)
      have ob23 := idA ((r3 == true) = true)
      have ob24 := idA ((r3 == true) = true)
      have ob25 := bqA r3 true
      have ob26 := idA (((r3 && (!r4)) == true) = true)
      have ob27 := idA (((r3 && (!r4)) == true) = true)
      have ob28 := bqA (r3 && (!r4)) true
      obtain ⟨ob29, h⟩ := chk_some h
      have ob30 := idA (true = true)
      have ob31 := idA (true = true)
      have ob32 : true = true → true = true → true = true := fun _ h => h
      refine q2rr [] [(18, ⟨[], [], [], [], (.bool true), [], [0], []⟩), (22, ⟨[q2aWW r2.2, q2aWW [((q2w16 1), (q2w16 2))]], [], [], [], .bool r3, [], [6001, 42], []⟩), (31, ⟨(f12z1), [], [], [], .bool r4, [], [], []⟩), (36, ⟨[q2aWW r2.2], [], [], [], .str r5, [], [6001], [0, 6]⟩), (39, ⟨[], [], [], [], (.bool true), [], [0], []⟩), (43, ⟨[q2aWW ([((q2w16 1), (q2w16 6))] ++ [((q2w16 3), (q2w16 0))])], [], [], [(6002, q2bW_28 r6)], .own 6002, [6002], [14], []⟩), (45, ⟨[q2aW r6, q2aW [(q2w16 3)]], [], [], [], .bool r7, [], [6002, 65], []⟩)] ⟨68, [(0, .bool r7), (1000000, .elem 32 1 T0F 0 0), (1000006, .tab .u64 Lib.pow10Tab)], [], [], 0⟩ (ac6 (an1 ob0) ob1 (an1 ob2) (an1 ob3) ob4 (And.intro ob5 (an1 ob6)) (ac6 (an1 ob7) (an2 ob8 ob9) ob10 (show ((.bool (((f12z0 r1 r2) && ((lZ r1.1) == (6 : Int))) && (f12z2 r1))) : V) = (.bool true) from (congrArg (fun x => ((.bool x) : V)) hg4_18)) (an1 ob11) (And.intro (cpL (c := true) [(6001, q2bWW_30 r2.2), (42, .rows 30 2 1 (lstF 2 [.b16 (q2w16 1), .b16 (q2w16 2)]))] [6001, 42] [.own 6001, .own 42] (fun _ => (f22_ok _ _ _ hr3)) (fun _ => ⟨.refl _, (VLe.of (RL.lst (enc := eWW) [((q2w16 1), (q2w16 2))] rfl rfl (fun _ => rfl))), trivial⟩) (.inr ⟨rfl, trivial⟩)) (an1 ob12)) (ac6 ob13 (And.intro ob14 (an1 ob15)) (And.intro ob16 (an1 ob17)) (And.intro ob18 (an1 ob19)) (And.intro ob20 (an1 ob21)) (And.intro (cpC fun hc => (f16_ok _ _ _ _ _ (hr4 hc))) (an2 ob22 ob23)) (ac6 (an1 ob24) ob25 (And.intro (cpL [(6001, q2bWW_30 r2.2)] [6001] [.own 6001] (fun hc => (f35_ok _ _ (hr5 hc))) (fun _ => ⟨.refl _, trivial⟩) (.inr ⟨rfl, trivial⟩)) (an1 ob26)) (an1 ob27) ob28 (show ((.bool ((r3 && (!r4)) && (r5 == cs2))) : V) = (.bool true) from (congrArg (fun x => ((.bool x) : V)) hg4_39)) (an4 (And.intro ob29 (an2 ob30 ob31)) (cpL (c := true) [(14, .rows 30 2 (([((q2w16 1), (q2w16 6))]).length + ([((q2w16 3), (q2w16 0))]).length) (appF ([((q2w16 1), (q2w16 6))]).length (encF eWW q2dWW [((q2w16 1), (q2w16 6))]) (encF eWW q2dWW [((q2w16 3), (q2w16 0))])))] [14] [.own 14] (fun _ => (Spec1.ren (swapN 3000 6002) (swapN_inv 3000 6002) rfl (f38_ok _ _ hr6))) (fun _ => ⟨(VLe.of (RL.app (RL.self _) (RL.self _))), trivial⟩) (.inr ⟨rfl, ⟨(fun _ _ _ _ => eW_flat _ _), trivial⟩⟩)) (cpL (c := true) [(6002, q2bW_28 r6), (65, .rows 28 1 1 (lstF 1 [.b16 (q2w16 3)]))] [6002, 65] [.own 6002, .own 65] (fun _ => (f37_ok _ _ _ hr7)) (fun _ => ⟨.refl _, (VLe.of (RL.lst (enc := eW) [(q2w16 3)] rfl rfl (fun _ => rfl))), trivial⟩) (.inr ⟨rfl, trivial⟩)) ob32))))) ?_
      refine thenQ_normal ?_
      have hret := Option.some.inj h
      subst hret
      refine AWp.le (Le.mk (s' := ⟨68, [(0, .bool r7)], [], [], 0⟩) rfl rfl ⟨.refl _, trivial⟩ trivial) ?_
      refine AWp.ret ?_
      exact bodyQ_ret _ rfl ⟨rfl, rfl⟩ rfl
    ·
      replace h := ite_f hg4_39 h
      have ob0 := idA ((f12z3 r1) = true)
      have ob1 : true = true → (r1.2 == (0 : Int)) = true → (f12z3 r1) = true := fun _ h => beq_iff_eq.2 h
      have ob2 := idA (((f12z0 r1 r2) == true) = true)
      have ob3 := idA (((f12z0 r1 r2) == true) = true)
      have ob4 := bqA (f12z0 r1 r2) true
      obtain ⟨ob5, h⟩ := chk_some h
      have ob6 := idA ((((f12z0 r1 r2) && ((lZ r1.1) == (6 : Int))) == true) = true)
      have ob7 := idA ((((f12z0 r1 r2) && ((lZ r1.1) == (6 : Int))) == true) = true)
      have ob8 := idA ((((f12z0 r1 r2) && ((lZ r1.1) == (6 : Int))) == true) = true)
      have ob9 := idA ((((f12z0 r1 r2) && ((lZ r1.1) == (6 : Int))) == true) = true)
      have ob10 := bqA ((f12z0 r1 r2) && ((lZ r1.1) == (6 : Int))) true
      have ob11 := idA (true = true)
      have ob12 := idA (true = true)
      have ob13 : true = true → true = true → true = true := fun _ h => h
      obtain ⟨ob14, h⟩ := chk_some h
      have ob15 := idA ((r3 == true) = true)
      obtain ⟨ob16, h⟩ := chk_some h
      have ob17 := idA ((r3 == true) = true)
      obtain ⟨ob18, h⟩ := chk_some h
      have ob19 := idA ((r3 == true) = true)
      obtain ⟨ob20, h⟩ := chk_some h
      have ob21 := idA ((r3 == true) = true)
      have ob22 := idA ((r3 == true) = true)
      have ob23 := idA ((r3 == true) = true)
      have ob24 := idA ((r3 == true) = true)
      have ob25 := bqA r3 true
      have ob26 := idA (((r3 && (!r4)) == true) = true)
      have ob27 := idA (((r3 && (!r4)) == true) = true)
      have ob28 := bqA (r3 && (!r4)) true
      have ob29 := idA (false = true)
      have ob30 := idA (false = true)
      have ob31 := idA (false = true)
      have ob32 : true = true → false = true → false = true := fun _ h => h
      refine q2rr [] [(18, ⟨[], [], [], [], (.bool true), [], [0], []⟩), (22, ⟨[q2aWW r2.2, q2aWW [((q2w16 1), (q2w16 2))]], [], [], [], .bool r3, [], [6001, 42], []⟩), (31, ⟨(f12z1), [], [], [], .bool r4, [], [], []⟩), (36, ⟨[q2aWW r2.2], [], [], [], .str r5, [], [6001], [0, 6]⟩), (39, ⟨[], [], [], [], (.bool false), [], [0], []⟩), (43, ⟨[], [], [], [], .any, [], [], []⟩), (45, ⟨[], [], [], [], .bool false, [], [], []⟩)] ⟨68, [(0, .bool false), (1000000, .elem 32 1 T0F 0 0), (1000006, .tab .u64 Lib.pow10Tab)], [], [], 0⟩ (ac6 (an1 ob0) ob1 (an1 ob2) (an1 ob3) ob4 (And.intro ob5 (an1 ob6)) (ac6 (an1 ob7) (an2 ob8 ob9) ob10 (show ((.bool (((f12z0 r1 r2) && ((lZ r1.1) == (6 : Int))) && (f12z2 r1))) : V) = (.bool true) from (congrArg (fun x => ((.bool x) : V)) hg4_18)) (an1 ob11) (And.intro (cpL (c := true) [(6001, q2bWW_30 r2.2), (42, .rows 30 2 1 (lstF 2 [.b16 (q2w16 1), .b16 (q2w16 2)]))] [6001, 42] [.own 6001, .own 42] (fun _ => (f22_ok _ _ _ hr3)) (fun _ => ⟨.refl _, (VLe.of (RL.lst (enc := eWW) [((q2w16 1), (q2w16 2))] rfl rfl (fun _ => rfl))), trivial⟩) (.inr ⟨rfl, trivial⟩)) (an1 ob12)) (ac6 ob13 (And.intro ob14 (an1 ob15)) (And.intro ob16 (an1 ob17)) (And.intro ob18 (an1 ob19)) (And.intro ob20 (an1 ob21)) (And.intro (cpC fun hc => (f16_ok _ _ _ _ _ (hr4 hc))) (an2 ob22 ob23)) (ac6 (an1 ob24) ob25 (And.intro (cpL [(6001, q2bWW_30 r2.2)] [6001] [.own 6001] (fun hc => (f35_ok _ _ (hr5 hc))) (fun _ => ⟨.refl _, trivial⟩) (.inr ⟨rfl, trivial⟩)) (an1 ob26)) (an1 ob27) ob28 (show ((.bool ((r3 && (!r4)) && (r5 == cs2))) : V) = (.bool false) from (congrArg (fun x => ((.bool x) : V)) (Bool.eq_false_iff.2 hg4_39))) (an3 (And.intro (show (callP Tryz.prog false 38 [] [] [] [] [] [.bool false] [] (.any) []) from ⟨nofun, nofun, .inl rfl⟩) (an1 ob29)) (And.intro (show (callP Tryz.prog false 37 [] [] [] [] [] [.any, .bool false] [] (.bool false) []) from ⟨nofun, nofun, .inl rfl⟩) (an2 ob30 ob31)) ob32))))) ?_
      refine thenQ_normal ?_
      have hret := Option.some.inj h
      subst hret
      refine AWp.le (Le.mk (s' := ⟨68, [(0, .bool false)], [], [], 0⟩) rfl rfl ⟨.refl _, trivial⟩ trivial) ?_
      refine AWp.ret ?_
      exact bodyQ_ret _ rfl ⟨rfl, rfl⟩ rfl
  ·
    replace h := ite_f hg4_18 h
    have ob0 := idA ((f12z3 r1) = true)
    have ob1 : true = true → (r1.2 == (0 : Int)) = true → (f12z3 r1) = true := fun _ h => beq_iff_eq.2 h
    have ob2 := idA (((f12z0 r1 r2) == true) = true)
    have ob3 := idA (((f12z0 r1 r2) == true) = true)
    have ob4 := bqA (f12z0 r1 r2) true
    obtain ⟨ob5, h⟩ := chk_some h
    have ob6 := idA ((((f12z0 r1 r2) && ((lZ r1.1) == (6 : Int))) == true) = true)
    have ob7 := idA ((((f12z0 r1 r2) && ((lZ r1.1) == (6 : Int))) == true) = true)
    have ob8 := idA ((((f12z0 r1 r2) && ((lZ r1.1) == (6 : Int))) == true) = true)
    have ob9 := idA ((((f12z0 r1 r2) && ((lZ r1.1) == (6 : Int))) == true) = true)
    have ob10 := bqA ((f12z0 r1 r2) && ((lZ r1.1) == (6 : Int))) true
    have ob11 := idA (false = true)
    have ob12 := idA (false = true)
    have ob13 : true = true → false = true → false = true := fun _ h => h
    obtain ⟨ob14, h⟩ := chk_some h
    have ob15 := idA (false = true)
    obtain ⟨ob16, h⟩ := chk_some h
    have ob17 := idA (false = true)
    obtain ⟨ob18, h⟩ := chk_some h
    have ob19 := idA (false = true)
    obtain ⟨ob20, h⟩ := chk_some h
    have ob21 := idA (false = true)
    have ob22 := idA (false = true)
    have ob23 := idA (false = true)
    have ob24 := idA (false = true)
    have ob25 : true = true → false = true → false = true := fun _ h => h
    have ob26 := idA (false = true)
    have ob27 : true = true → false = true → false = true := fun _ h => h
    have ob28 := idA (false = true)
    have ob29 := idA (false = true)
    have ob30 := idA (false = true)
    have ob31 : true = true → false = true → false = true := fun _ h => h
    refine q2rr [] [(18, ⟨[], [], [], [], (.bool false), [], [0], []⟩), (22, ⟨[], [], [], [], .bool false, [], [], []⟩), (31, ⟨[], [], [], [], .bool false, [], [], []⟩), (36, ⟨[], [], [], [], .any, [], [], []⟩), (43, ⟨[], [], [], [], .any, [], [], []⟩), (45, ⟨[], [], [], [], .bool false, [], [], []⟩)] ⟨68, [(0, .bool false), (1000000, .elem 32 1 T0F 0 0), (1000006, .tab .u64 Lib.pow10Tab)], [], [], 0⟩ (ac6 (an1 ob0) ob1 (an1 ob2) (an1 ob3) ob4 (And.intro ob5 (an1 ob6)) (ac6 (an1 ob7) (an2 ob8 ob9) ob10 (show ((.bool (((f12z0 r1 r2) && ((lZ r1.1) == (6 : Int))) && (f12z2 r1))) : V) = (.bool false) from (congrArg (fun x => ((.bool x) : V)) (Bool.eq_false_iff.2 hg4_18))) (And.intro (show (callP Tryz.prog false 22 [] [] [] [] [] [.own 6001, .bool false] [] (.bool false) []) from ⟨nofun, nofun, .inl rfl⟩) (an2 ob11 ob12)) ob13 (ac6 (And.intro ob14 (an1 ob15)) (And.intro ob16 (an1 ob17)) (And.intro ob18 (an1 ob19)) (And.intro ob20 (an1 ob21)) (And.intro (show (callP Tryz.prog false 16 [] [] [] [] [] (f12z1) [] (.bool false) []) from ⟨nofun, nofun, .inl rfl⟩) (an2 ob22 ob23)) (an1 ob24) (an6 ob25 (And.intro (show (callP Tryz.prog false 35 [] [] [] [] [] [.own 6001] [] (.any) []) from ⟨nofun, nofun, .inl rfl⟩) (an1 ob26)) ob27 (And.intro (show (callP Tryz.prog false 38 [] [] [] [] [] [.bool false] [] (.any) []) from ⟨nofun, nofun, .inl rfl⟩) (an1 ob28)) (And.intro (show (callP Tryz.prog false 37 [] [] [] [] [] [.any, .bool false] [] (.bool false) []) from ⟨nofun, nofun, .inl rfl⟩) (an2 ob29 ob30)) ob31)))) ?_
    refine thenQ_normal ?_
    have hret := Option.some.inj h
    subst hret
    refine AWp.le (Le.mk (s' := ⟨68, [(0, .bool false)], [], [], 0⟩) rfl rfl ⟨.refl _, trivial⟩ trivial) ?_
    refine AWp.ret ?_
    exact bodyQ_ret _ rfl ⟨rfl, rfl⟩ rfl
def f23 (x1 : BitVec 16) (x2 : BitVec 16) : Option (BitVec 16) :=
  some (x1 ||| x2)
set_option maxRecDepth 100000 in
theorem f23_ok  (x1 : BitVec 16) (x2 : BitVec 16) (r : BitVec 16) (h : f23 x1 x2 = some r)  : Spec1 Tryz.prog 23 [] [] [] [.agg [.b16 x1, .b16 x2]] (.b16 r) [] := by
  unfold f23 at h
  refine Spec1.body 0 _ _ Tryz.func23 rfl Tryz.ntmps23 rfl rfl ?_
  refine q2rq [] [] ⟨8, [(1, .ptr 1 0)], [(1, .cells 30 [.b16 x1, .b16 x2])], [], 0⟩ trivial ?_
  refine q2rq [] [] ⟨8, [(2, .b16 (x1 ||| x2))], [], [], 0⟩ trivial ?_
  have hret := Option.some.inj h
  subst hret
  refine AWp.le (Le.mk (s' := ⟨8, [(2, .b16 (x1 ||| x2))], [], [], 0⟩) rfl rfl ⟨.refl _, trivial⟩ trivial) ?_
  refine AWp.ret ?_
  exact bodyQ_ret _ rfl ⟨rfl, rfl⟩ rfl
abbrev f78z0 (x2 : Int) := ((decide (x2 ≥ (0 : Int))) && (decide (x2 < (16 : Int))))
def f78 (x1 : BitVec 16) (x2 : Int) : Option Bool :=
  chk ((((decide (x2 ≥ (0 : Int))) && (decide (x2 < (16 : Int)))) == true) = true → 0 ≤ x2) <|
  some (((decide (x2 ≥ (0 : Int))) && (decide (x2 < (16 : Int)))) && (((x1 >>> ((x2).toNat)) &&& (BitVec.ofInt 16 1)) == (BitVec.ofInt 16 1)))
set_option maxRecDepth 100000 in
theorem f78_ok  (x1 : BitVec 16) (x2 : Int) (r : Bool) (h : f78 x1 x2 = some r)  : Spec1 Tryz.prog 78 [] [] [] [.b16 x1, .int .i64 x2] (.bool r) [] := by
  unfold f78 at h
  refine Spec1.body 0 _ _ Tryz.func78 rfl Tryz.ntmps78 rfl rfl ?_
  refine q2rq [] [] ⟨18, [(0, .b16 x1), (1, .i x2)], [], [], 0⟩ trivial ?_
  refine AWp.seq ?_
  have ob0 := idA (((decide (x2 ≥ (0 : Int))) == true) = true)
  have ob1 := bqA (decide (x2 ≥ (0 : Int))) true
  obtain ⟨ob2, h⟩ := chk_some h
  have ob3 := idA (((f78z0 x2) == true) = true)
  have ob4 := idA (((f78z0 x2) == true) = true)
  have ob5 := idA (((f78z0 x2) == true) = true)
  have ob6 := idA (((f78z0 x2) == true) = true)
  have ob7 := bqA (f78z0 x2) true
  refine q2rr [] [] ⟨18, [(4, .bool ((f78z0 x2) && (((x1 >>> ((x2).toNat)) &&& (q2w16 1)) == (q2w16 1))))], [], [], 0⟩ (an6 (an1 ob0) ob1 (And.intro ob2 (an2 ob3 ob4)) (an1 ob5) (an1 ob6) ob7) ?_
  refine thenQ_normal ?_
  have hret := Option.some.inj h
  subst hret
  refine AWp.le (Le.mk (s' := ⟨18, [(4, .bool ((f78z0 x2) && (((x1 >>> ((x2).toNat)) &&& (q2w16 1)) == (q2w16 1))))], [], [], 0⟩) rfl rfl ⟨.refl _, trivial⟩ trivial) ?_
  refine AWp.ret ?_
  exact bodyQ_ret _ rfl ⟨rfl, rfl⟩ rfl
def f53_L0 (x1 : BitVec 16) (K1 : (List Int) → Option (List Int)) : Nat → (Nat × List Int) → Option (List Int)
  | 0, _ => none
  | k + 1, (n2, l3) =>
    if (decide ((n2 : Int) < (16 : Int))) then (
    jn (fun (l5 : List Int) =>
    chk (((n2 : Int) + (1 : Int)) ≤ 9223372036854775807) <|
    (f53_L0 x1 K1 k) ((n2 + 1), l5)
    ) fun (K2 : (List Int) → Option (List Int)) =>
    (f78 x1 (n2 : Int)).bind fun (r4 : Bool) =>
    if r4 then (
    chk (((l3).length + 1) * 8 ≤ 140737488355328) <|
    K2 (l3 ++ [(n2 : Int)])
    ) else (
    K2 l3
    )
    ) else (
    K1 l3
    )
abbrev f53z0 (x1 : BitVec 16) (n2 : Nat) : List (Nat × V) := [(0, .b16 x1), (3, .own 5003), (4, .int .i64 (n2 : Int))]
abbrev f53z1 (x1 : BitVec 16) (n2 : Nat) : List (Nat × V) := [(0, .b16 x1), (3, .own 15), (4, .int .i64 (n2 : Int))]
def f53 (x1 : BitVec 16) : Option (List Int) :=
  jn (fun (l6 : List Int) =>
  some l6
  ) fun (K1 : (List Int) → Option (List Int)) =>
  f53_L0 x1 K1 FUEL (0, [])
set_option maxRecDepth 100000 in
theorem f53_ok  (x1 : BitVec 16) (r : List Int) (h : f53 x1 = some r)  : Spec1 Tryz.prog 53 [] [] [] [.b16 x1] (.own 3000) [(3000, bL 3 1 eI 0 r)] := by
  unfold f53 at h
  refine Spec1.body 0 _ _ Tryz.func53 rfl Tryz.ntmps53 rfl rfl ?_
  refine q2rq [] [] ⟨17, [(0, .b16 x1)], [], [], 0⟩ trivial ?_
  refine q2rq [] [] ⟨17, [(0, .b16 x1), (3, .nils)], [], [], 0⟩ trivial ?_
  obtain ⟨K1, hK1, h⟩ := jn_some h
  refine AWp.join (α := List Int) (fun (l6 : List Int) => ⟨17, [(3, .own 5003)], [(5003, q2bI_3 l6)], [], 0⟩) (fun x => K1 x = some r) ?_ ?_
  ·
    refine q2rq [] [] ⟨17, [(0, .b16 x1), (3, .nils), (4, .i (0 : Int))], [], [], 0⟩ trivial ?_
    refine AWp.block ?_
    refine AWp.loopL (α := Nat × (Nat × List Int)) (fun x => match x with | (_, n2, l3) => ⟨17, (f53z0 x1 n2), [(5003, q2bI_3 l3)], [], 0⟩) (fun x => f53_L0 x1 K1 x.1 x.2 = some r) (fun x => x.1) (FUEL, 0, []) (Le.trans (Le.trans (Le.nilOwn 3 5003 3 1 (encF eI 0 []) rfl rfl (Nat.le_of_ble_eq_true rfl)) (Le.mk (s' := ⟨17, [(0, .b16 x1), (3, .own 5003), (4, .i (0 : Int))], [(5003, q2bI_3 [])], [], 0⟩) rfl rfl ⟨.refl _, .refl _, .refl _, trivial⟩ ⟨⟨_, rfl, .refl _⟩, trivial⟩)) (Le.mk (s' := ⟨17, [(0, .b16 x1), (3, .own 5003), (4, .i (0 : Int))], [(5003, q2bI_3 [])], [], 0⟩) rfl rfl ⟨.refl _, .refl _, .refl _, trivial⟩ ⟨⟨_, rfl, .refl _⟩, trivial⟩)) h ?_
    rintro ⟨k0, n2, l3⟩ h
    cases k0 with
    | zero => exact nomatch (show (none : Option (List Int)) = some r from h)
    | succ k0 =>
    obtain ⟨C0, hC0⟩ : ∃ C, C = f53_L0 x1 K1 k0 := ⟨_, rfl⟩
    replace h := (f53_L0.eq_2 ..).symm.trans h
    try rw [← hC0] at h
    refine AWp.seq ?_
    refine q2rq [] [] ⟨17, [(0, .b16 x1), (3, .own 5003), (4, .i (n2 : Int)), (6, .bool (decide ((n2 : Int) < (16 : Int))))], [(5003, q2bI_3 l3)], [], 0⟩ trivial ?_
    refine AWp.cond (b := (decide ((n2 : Int) < (16 : Int)))) (by kernel_rfl) (fun hc1 => ?_) (fun hc1 => ?_)
    ·
      replace h := ite_tb hc1 h
      refine AWp.skip ?_
      refine thenQ_normal ?_
      obtain ⟨K2, hK2, h⟩ := jn_some h
      refine AWp.join (α := List Int) (fun (l5 : List Int) => ⟨17, (f53z1 x1 n2), [(15, q2bI_3 l5)], [], 0⟩) (fun x => K2 x = some r) ?_ ?_
      ·
        refine AWp.block ?_
        refine AWp.seq ?_
        obtain ⟨r4, hr4, h⟩ := bind_ok h
        refine q2rr [] [(2, ⟨[.b16 x1, .i (n2 : Int)], [], [], [], .bool r4, [], [], []⟩)] ⟨17, [(0, .b16 x1), (3, .own 5003), (4, .i (n2 : Int)), (11, .bool r4)], [(5003, q2bI_3 l3)], [], 0⟩ (an1 (cpT (f78_ok _ _ _ hr4))) ?_
        refine thenQ_normal ?_
        refine AWp.cond (b := r4) (by kernel_rfl) (fun hc2 => ?_) (fun hc2 => ?_)
        ·
          replace h := ite_tb hc2 h
          obtain ⟨ob0, h⟩ := chk_some h
          refine q2rr [] [] ⟨17, (f53z0 x1 n2), [(5003, .rows 3 1 ((l3).length + 1) (appF (l3).length (encF eI 0 l3) (lstF 1 [.i (n2 : Int)])))], [], 0⟩ (an1 ob0) ?_
          refine blockQ_normal ?_
          exact joinQ_normal ((l3 ++ [(n2 : Int)])) (Le.trans (Le.mk (s' := ⟨17, (f53z0 x1 n2), [(5003, q2bI_3 (l3 ++ [(n2 : Int)]))], [], 0⟩) rfl rfl ⟨.refl _, .refl _, .refl _, trivial⟩ ⟨⟨_, rfl, (BLe.of (RL.app (RL.self _) (RL.lst (enc := eI) [(n2 : Int)] rfl rfl (fun _ => rfl))))⟩, trivial⟩) (Le.trans (Le.trans (Le.ren (swapN 5003 15) (swapN_inv 5003 15) rfl) (Le.mk (s' := ⟨17, (f53z1 x1 n2), [(15, q2bI_3 (l3 ++ [(n2 : Int)]))], [], 0⟩) rfl rfl ⟨.refl _, .refl _, .refl _, trivial⟩ ⟨⟨_, rfl, .refl _⟩, trivial⟩)) (Le.mk rfl rfl ⟨.refl _, .refl _, .refl _, trivial⟩ ⟨⟨_, rfl, .refl _⟩, trivial⟩))) h
        ·
          replace h := ite_fb hc2 h
          refine AWp.skip ?_
          refine blockQ_normal ?_
          exact joinQ_normal (l3) (Le.trans (Le.trans (Le.ren (swapN 5003 15) (swapN_inv 5003 15) rfl) (Le.mk (s' := ⟨17, [(0, .b16 x1), (3, .own 15), (4, .i (n2 : Int)), (11, .bool r4)], [(15, q2bI_3 l3)], [], 0⟩) rfl rfl ⟨.refl _, .refl _, .refl _, .refl _, trivial⟩ ⟨⟨_, rfl, .refl _⟩, trivial⟩)) (Le.mk rfl rfl ⟨.refl _, .refl _, .refl _, trivial⟩ ⟨⟨_, rfl, .refl _⟩, trivial⟩)) h
      ·
        rintro l5 h
        replace h := (congrFun hK2 _).symm.trans h
        obtain ⟨ob1p, h⟩ := chk_some h
        have ob1 : -9223372036854775808 ≤ ((n2 : Int) + (1 : Int)) ∧ ((n2 : Int) + (1 : Int)) ≤ 9223372036854775807 := ⟨by omega, ob1p⟩
        refine q2rr [] [] ⟨17, [(0, .b16 x1), (3, .own 15), (4, .i (((n2 + 1) : Nat) : Int))], [(15, q2bI_3 l5)], [], 0⟩ (an1 ob1) ?_
        rw [hC0] at h
        exact loopQ_normal (_, (n2 + 1), l5) (Le.trans (Le.trans (Le.ren (swapN 15 5003) (swapN_inv 15 5003) rfl) (Le.mk (s' := ⟨17, [(0, .b16 x1), (3, .own 5003), (4, .i (((n2 + 1) : Nat) : Int))], [(5003, q2bI_3 l5)], [], 0⟩) rfl rfl ⟨.refl _, .refl _, .refl _, trivial⟩ ⟨⟨_, rfl, .refl _⟩, trivial⟩)) (Le.mk rfl rfl ⟨.refl _, .refl _, .refl _, trivial⟩ ⟨⟨_, rfl, .refl _⟩, trivial⟩)) h (Nat.lt_succ_self _)
    ·
      replace h := ite_fb hc1 h
      refine AWp.exit ?_
      refine thenQ_exit ?_
      refine thenQ_exit ?_
      refine blockQ_same ?_
      exact joinQ_normal (l3) (Le.mk rfl rfl ⟨.refl _, trivial⟩ ⟨⟨_, rfl, .refl _⟩, trivial⟩) h
  ·
    rintro l6 h
    replace h := (congrFun hK1 _).symm.trans h
    refine q2rq [] [] ⟨17, [(2, .own 5003)], [(5003, q2bI_3 l6)], [], 0⟩ trivial ?_
    refine AWp.le (Le.trans (Le.ren (swapN 5003 3000) (swapN_inv 5003 3000) rfl) (Le.mk (s' := ⟨17, [(2, .own 3000)], [(3000, q2bI_3 l6)], [], 0⟩) rfl rfl ⟨.refl _, trivial⟩ ⟨⟨_, rfl, .refl _⟩, trivial⟩)) ?_
    have hret := Option.some.inj h
    subst hret
    refine AWp.le (Le.mk (s' := ⟨17, [(2, .own 3000)], [(3000, q2bI_3 l6)], [], 0⟩) rfl rfl ⟨.refl _, trivial⟩ ⟨⟨_, rfl, .refl _⟩, trivial⟩) ?_
    refine AWp.ret ?_
    exact bodyQ_ret _ rfl ⟨rfl, rfl⟩ rfl
def f87_L0 (r2 : List Int) (K1 : (List UInt8) → Option (List UInt8)) : Nat → (List UInt8 × Nat) → Option (List UInt8)
  | 0, _ => none
  | k + 1, (s3, n4) =>
    if (decide ((n4 : Int) < (((r2).length : Nat) : Int))) then (
    jn (fun (s5 : List UInt8) =>
    (f102 (r2.getD n4 0)).bind fun (r6 : List UInt8) =>
    chk ((n4 : Int) < (((r2).length : Nat) : Int)) <|
    chk (n4 < (r2).length) <|
    chk (s5.length + r6.length ≤ 9223372036854775807) <|
    chk (((n4 : Int) + (1 : Int)) ≤ 9223372036854775807) <|
    (f87_L0 r2 K1 k) ((s5 ++ r6), (n4 + 1))
    ) fun (K2 : (List UInt8) → Option (List UInt8)) =>
    if (decide ((n4 : Int) > (0 : Int))) then (
    chk (s3.length + ([32] : List UInt8).length ≤ 9223372036854775807) <|
    K2 (s3 ++ ([32] : List UInt8))
    ) else (
    K2 s3
    )
    ) else (
    K1 s3
    )
abbrev f87z0 (r2 : List Int) : Heap := [(6001, bL 3 1 eI 0 r2)]
def f87 (x1 : BitVec 16) : Option (List UInt8) :=
  (f53 x1).bind fun (r2 : List Int) =>
  jn (fun (s7 : List UInt8) =>
  chk (s7.length + ([125] : List UInt8).length ≤ 9223372036854775807) <|
  some (s7 ++ ([125] : List UInt8))
  ) fun (K1 : (List UInt8) → Option (List UInt8)) =>
  f87_L0 r2 K1 FUEL (([123] : List UInt8), 0)
set_option maxRecDepth 100000 in
theorem f87_ok  (x1 : BitVec 16) (r : List UInt8) (h : f87 x1 = some r)  : Spec1 Tryz.prog 87 [(6, .tab .u64 Lib.pow10Tab)] [] [] [.b16 x1] (.str r) [] := by
  unfold f87 at h
  refine Spec1.body 0 _ _ Tryz.func87 rfl Tryz.ntmps87 rfl rfl ?_
  refine q2rq [] [] ⟨27, [(0, .b16 x1), (1000006, .tab .u64 Lib.pow10Tab)], [], [], 0⟩ trivial ?_
  refine q2rq [] [] ⟨27, [(0, .b16 x1), (3, .str ([123] : List UInt8)), (1000006, .tab .u64 Lib.pow10Tab)], [], [], 0⟩ trivial ?_
  refine AWp.seq ?_
  obtain ⟨r2, hr2, h⟩ := bind_ok h
  refine q2rr [] [(1, ⟨[.b16 x1], [], [], (f87z0 r2), .own 6001, [6001], [], []⟩)] ⟨27, [(3, .str ([123] : List UInt8)), (4, .own 6001), (1000006, .tab .u64 Lib.pow10Tab)], (f87z0 r2), [], 0⟩ (an1 (cpT (Spec1.ren (swapN 3000 6001) (swapN_inv 3000 6001) rfl (f53_ok _ _ hr2)))) ?_
  refine thenQ_normal ?_
  obtain ⟨K1, hK1, h⟩ := jn_some h
  refine AWp.join (α := List UInt8) (fun (s7 : List UInt8) => ⟨27, [(3, .str s7), (1000006, .tab .u64 Lib.pow10Tab)], [], [], 0⟩) (fun x => K1 x = some r) ?_ ?_
  ·
    refine q2rq [] [] ⟨27, [(3, .str ([123] : List UInt8)), (4, .own 6001), (5, .i (0 : Int)), (1000006, .tab .u64 Lib.pow10Tab)], (f87z0 r2), [], 0⟩ trivial ?_
    refine AWp.block ?_
    refine AWp.loopL (α := Nat × (List UInt8 × Nat)) (fun x => match x with | (_, s3, n4) => ⟨27, [(3, .str s3), (4, .own 6001), (5, .i (n4 : Int)), (1000006, .tab .u64 Lib.pow10Tab)], (f87z0 r2), [], 0⟩) (fun x => f87_L0 r2 K1 x.1 x.2 = some r) (fun x => x.1) (FUEL, ([123] : List UInt8), 0) (Le.mk (s' := ⟨27, [(3, .str ([123] : List UInt8)), (4, .own 6001), (5, .i (0 : Int)), (1000006, .tab .u64 Lib.pow10Tab)], (f87z0 r2), [], 0⟩) rfl rfl ⟨.refl _, .refl _, .refl _, .refl _, trivial⟩ ⟨⟨_, rfl, .refl _⟩, trivial⟩) h ?_
    rintro ⟨k0, s3, n4⟩ h
    cases k0 with
    | zero => exact nomatch (show (none : Option (List UInt8)) = some r from h)
    | succ k0 =>
    obtain ⟨C0, hC0⟩ : ∃ C, C = f87_L0 r2 K1 k0 := ⟨_, rfl⟩
    replace h := (f87_L0.eq_2 ..).symm.trans h
    try rw [← hC0] at h
    refine AWp.seq ?_
    refine q2rq [] [] ⟨27, [(3, .str s3), (4, .own 6001), (5, .i (n4 : Int)), (11, .bool (decide ((n4 : Int) < (lZ r2)))), (1000006, .tab .u64 Lib.pow10Tab)], (f87z0 r2), [], 0⟩ trivial ?_
    refine AWp.cond (b := (decide ((n4 : Int) < (lZ r2)))) (by kernel_rfl) (fun hc1 => ?_) (fun hc1 => ?_)
    ·
      replace h := ite_tb hc1 h
      refine AWp.skip ?_
      refine thenQ_normal ?_
      refine AWp.seq ?_
      refine AWp.block ?_
      obtain ⟨K2, hK2, h⟩ := jn_some h
      refine AWp.join (α := List UInt8) (fun (s5 : List UInt8) => ⟨27, [(3, .str s5), (4, .own 6001), (5, .i (n4 : Int)), (1000006, .tab .u64 Lib.pow10Tab)], (f87z0 r2), [], 0⟩) (fun x => K2 x = some r) ?_ ?_
      ·
        refine q2rq [] [] ⟨27, [(3, .str s3), (4, .own 6001), (5, .i (n4 : Int)), (15, .bool (decide ((n4 : Int) > (0 : Int)))), (1000006, .tab .u64 Lib.pow10Tab)], (f87z0 r2), [], 0⟩ trivial ?_
        refine AWp.cond (b := (decide ((n4 : Int) > (0 : Int)))) (by kernel_rfl) (fun hc2 => ?_) (fun hc2 => ?_)
        ·
          replace h := ite_tb hc2 h
          obtain ⟨ob0, h⟩ := chk_some h
          refine q2rr [] [] ⟨27, [(3, .str (s3 ++ ([32] : List UInt8))), (4, .own 6001), (5, .i (n4 : Int)), (1000006, .tab .u64 Lib.pow10Tab)], (f87z0 r2), [], 0⟩ (an1 ob0) ?_
          exact joinQ_normal ((s3 ++ ([32] : List UInt8))) (Le.mk rfl rfl ⟨.refl _, .refl _, .refl _, .refl _, trivial⟩ ⟨⟨_, rfl, .refl _⟩, trivial⟩) h
        ·
          replace h := ite_fb hc2 h
          refine AWp.skip ?_
          exact joinQ_normal (s3) (Le.mk rfl rfl ⟨.refl _, .refl _, .refl _, .refl _, trivial⟩ ⟨⟨_, rfl, .refl _⟩, trivial⟩) h
      ·
        rintro s5 h
        replace h := (congrFun hK2 _).symm.trans h
        obtain ⟨r6, hr6, h⟩ := bind_ok h
        obtain ⟨ob1p, h⟩ := chk_some h
        have ob1 : 0 ≤ (n4 : Int) ∧ (n4 : Int) < (((r2).length : Nat) : Int) := ⟨by omega, ob1p⟩
        obtain ⟨ob2, ob3, h⟩ := ck2 h
        refine q2rr [] [(5, ⟨[.i (r2.getD n4 0)], [], [], [], .str r6, [], [], [6]⟩)] ⟨27, [(3, .str (s5 ++ r6)), (4, .own 6001), (5, .i (n4 : Int)), (1000006, .tab .u64 Lib.pow10Tab)], (f87z0 r2), [], 0⟩ (an4 ob1 ob2 (cpT (f102_ok _ _ hr6)) ob3) ?_
        refine blockQ_normal ?_
        refine thenQ_normal ?_
        obtain ⟨ob4p, h⟩ := chk_some h
        have ob4 : -9223372036854775808 ≤ ((n4 : Int) + (1 : Int)) ∧ ((n4 : Int) + (1 : Int)) ≤ 9223372036854775807 := ⟨by omega, ob4p⟩
        refine q2rr [] [] ⟨27, [(3, .str (s5 ++ r6)), (4, .own 6001), (5, .i (((n4 + 1) : Nat) : Int)), (1000006, .tab .u64 Lib.pow10Tab)], (f87z0 r2), [], 0⟩ (an1 ob4) ?_
        rw [hC0] at h
        exact loopQ_normal (_, (s5 ++ r6), (n4 + 1)) (Le.mk rfl rfl ⟨.refl _, .refl _, .refl _, .refl _, trivial⟩ ⟨⟨_, rfl, .refl _⟩, trivial⟩) h (Nat.lt_succ_self _)
    ·
      replace h := ite_fb hc1 h
      refine AWp.exit ?_
      refine thenQ_exit ?_
      refine thenQ_exit ?_
      refine blockQ_same ?_
      exact joinQ_normal (s3) (Le.mk rfl rfl ⟨.refl _, .refl _, trivial⟩ trivial) h
  ·
    rintro s7 h
    replace h := (congrFun hK1 _).symm.trans h
    refine AWp.seq ?_
    obtain ⟨ob5, h⟩ := chk_some h
    refine q2rr [] [] ⟨27, [(2, .str (s7 ++ ([125] : List UInt8))), (1000006, .tab .u64 Lib.pow10Tab)], [], [], 0⟩ (an1 ob5) ?_
    refine thenQ_normal ?_
    have hret := Option.some.inj h
    subst hret
    refine AWp.le (Le.mk (s' := ⟨27, [(2, .str (s7 ++ ([125] : List UInt8)))], [], [], 0⟩) rfl rfl ⟨.refl _, trivial⟩ trivial) ?_
    refine AWp.ret ?_
    exact bodyQ_ret _ rfl ⟨rfl, rfl⟩ rfl
abbrev f63z0 := ([98, 121, 122, 32] : List UInt8)
def f63 (x1 : BitVec 16) (x2 : BitVec 16) : Option (List UInt8) :=
  (f23 x1 x2).bind fun (r3 : BitVec 16) =>
  if (r3 == (BitVec.ofInt 16 0)) then (
  some ([110, 111, 110, 101] : List UInt8)
  ) else (
  if (x2 == (BitVec.ofInt 16 0)) then (
  (f87 x1).bind fun (r4 : List UInt8) =>
  chk (([98, 121, 122, 32] : List UInt8).length + r4.length ≤ 9223372036854775807) <|
  some (([98, 121, 122, 32] : List UInt8) ++ r4)
  ) else (
  if (x1 == (BitVec.ofInt 16 0)) then (
  (f87 x2).bind fun (r5 : List UInt8) =>
  chk (cs1.length + r5.length ≤ 9223372036854775807) <|
  some (cs1 ++ r5)
  ) else (
  (f87 x1).bind fun (r6 : List UInt8) =>
  (f87 x2).bind fun (r7 : List UInt8) =>
  chk (([98, 121, 122, 32] : List UInt8).length + r6.length ≤ 9223372036854775807) <|
  chk ((([98, 121, 122, 32] : List UInt8) ++ r6).length + cs3.length ≤ 9223372036854775807) <|
  chk (((([98, 121, 122, 32] : List UInt8) ++ r6) ++ cs3).length + r7.length ≤ 9223372036854775807) <|
  some (((([98, 121, 122, 32] : List UInt8) ++ r6) ++ cs3) ++ r7)
  )
  )
  )
set_option maxRecDepth 100000 in
theorem f63_ok  (x1 : BitVec 16) (x2 : BitVec 16) (r : List UInt8) (h : f63 x1 x2 = some r)  : Spec1 Tryz.prog 63 [(6, .tab .u64 Lib.pow10Tab)] [] [] [.agg [.b16 x1, .b16 x2]] (.str r) [] := by
  unfold f63 at h
  refine Spec1.body 0 _ _ Tryz.func63 rfl Tryz.ntmps63 rfl rfl ?_
  refine q2rq [] [] ⟨29, [(1, .ptr 1 0), (1000006, .tab .u64 Lib.pow10Tab)], [(1, .cells 30 [.b16 x1, .b16 x2])], [], 0⟩ trivial ?_
  refine AWp.seq ?_
  refine AWp.seq ?_
  obtain ⟨r3, hr3, h⟩ := bind_ok h
  refine q2rr [] [(1, ⟨[.agg [.b16 x1, .b16 x2]], [], [], [], .b16 r3, [], [], []⟩)] ⟨29, [(1, .ptr 1 0), (5, .bool (r3 == (q2w16 0))), (1000006, .tab .u64 Lib.pow10Tab)], [(1, .cells 30 [.b16 x1, .b16 x2])], [], 0⟩ (an1 (cpT (f23_ok _ _ _ hr3))) ?_
  refine thenQ_normal ?_
  refine AWp.cond (b := (r3 == (q2w16 0))) (by kernel_rfl) (fun hc1 => ?_) (fun hc1 => ?_)
  ·
    replace h := ite_tb hc1 h
    refine q2rq [] [] ⟨29, [(2, .str ([110, 111, 110, 101] : List UInt8)), (1000006, .tab .u64 Lib.pow10Tab)], [], [], 0⟩ trivial ?_
    have hret := Option.some.inj h
    subst hret
    refine AWp.le (Le.mk (s' := ⟨29, [(2, .str ([110, 111, 110, 101] : List UInt8))], [], [], 0⟩) rfl rfl ⟨.refl _, trivial⟩ trivial) ?_
    refine AWp.ret ?_
    refine thenQ_ret ?_
    exact bodyQ_ret _ rfl ⟨rfl, rfl⟩ rfl
  ·
    replace h := ite_fb hc1 h
    refine AWp.skip ?_
    refine thenQ_normal ?_
    refine AWp.seq ?_
    refine q2rq [] [] ⟨29, [(1, .ptr 1 0), (8, .bool (x2 == (q2w16 0))), (1000006, .tab .u64 Lib.pow10Tab)], [(1, .cells 30 [.b16 x1, .b16 x2])], [], 0⟩ trivial ?_
    refine AWp.cond (b := (x2 == (q2w16 0))) (by kernel_rfl) (fun hc2 => ?_) (fun hc2 => ?_)
    ·
      replace h := ite_tb hc2 h
      refine AWp.seq ?_
      obtain ⟨r4, hr4, h⟩ := bind_ok h
      obtain ⟨ob0, h⟩ := chk_some h
      refine q2rr [] [(2, ⟨[.b16 x1], [], [], [], .str r4, [], [], [6]⟩)] ⟨29, [(2, .str ((f63z0) ++ r4)), (1000006, .tab .u64 Lib.pow10Tab)], [], [], 0⟩ (an2 (cpT (f87_ok _ _ hr4)) ob0) ?_
      refine thenQ_normal ?_
      have hret := Option.some.inj h
      subst hret
      refine AWp.le (Le.mk (s' := ⟨29, [(2, .str ((f63z0) ++ r4))], [], [], 0⟩) rfl rfl ⟨.refl _, trivial⟩ trivial) ?_
      refine AWp.ret ?_
      refine thenQ_ret ?_
      exact bodyQ_ret _ rfl ⟨rfl, rfl⟩ rfl
    ·
      replace h := ite_fb hc2 h
      refine AWp.skip ?_
      refine thenQ_normal ?_
      refine AWp.seq ?_
      refine q2rq [] [] ⟨29, [(1, .ptr 1 0), (15, .bool (x1 == (q2w16 0))), (1000006, .tab .u64 Lib.pow10Tab)], [(1, .cells 30 [.b16 x1, .b16 x2])], [], 0⟩ trivial ?_
      refine AWp.cond (b := (x1 == (q2w16 0))) (by kernel_rfl) (fun hc3 => ?_) (fun hc3 => ?_)
      ·
        replace h := ite_tb hc3 h
        refine AWp.seq ?_
        obtain ⟨r5, hr5, h⟩ := bind_ok h
        obtain ⟨ob1, h⟩ := chk_some h
        refine q2rr [] [(2, ⟨[.b16 x2], [], [], [], .str r5, [], [], [6]⟩)] ⟨29, [(2, .str (cs1 ++ r5)), (1000006, .tab .u64 Lib.pow10Tab)], [], [], 0⟩ (an2 (cpT (f87_ok _ _ hr5)) ob1) ?_
        refine thenQ_normal ?_
        have hret := Option.some.inj h
        subst hret
        refine AWp.le (Le.mk (s' := ⟨29, [(2, .str (cs1 ++ r5))], [], [], 0⟩) rfl rfl ⟨.refl _, trivial⟩ trivial) ?_
        refine AWp.ret ?_
        refine thenQ_ret ?_
        exact bodyQ_ret _ rfl ⟨rfl, rfl⟩ rfl
      ·
        replace h := ite_fb hc3 h
        refine AWp.skip ?_
        refine thenQ_normal ?_
        refine AWp.seq ?_
        obtain ⟨r6, hr6, h⟩ := bind_ok h
        obtain ⟨r7, hr7, h⟩ := bind_ok h
        obtain ⟨ob2, ob3, ob4, h⟩ := ck3 h
        refine q2rr [] [(2, ⟨[.b16 x1], [], [], [], .str r6, [], [], [6]⟩), (7, ⟨[.b16 x2], [], [], [], .str r7, [], [], [6]⟩)] ⟨29, [(2, .str ((((f63z0) ++ r6) ++ cs3) ++ r7)), (1000006, .tab .u64 Lib.pow10Tab)], [], [], 0⟩ (an5 (cpT (f87_ok _ _ hr6)) ob2 ob3 (cpT (f87_ok _ _ hr7)) ob4) ?_
        refine thenQ_normal ?_
        have hret := Option.some.inj h
        subst hret
        refine AWp.le (Le.mk (s' := ⟨29, [(2, .str ((((f63z0) ++ r6) ++ cs3) ++ r7))], [], [], 0⟩) rfl rfl ⟨.refl _, trivial⟩ trivial) ?_
        refine AWp.ret ?_
        exact bodyQ_ret _ rfl ⟨rfl, rfl⟩ rfl
def f36_L0 (x1 : List (BitVec 16 × BitVec 16)) (K1 : (List UInt8) → Option (List UInt8)) : Nat → (List UInt8 × Nat) → Option (List UInt8)
  | 0, _ => none
  | k + 1, (s2, n3) =>
    if (decide ((n3 : Int) < (((x1).length : Nat) : Int))) then (
    jn (fun (s4 : List UInt8) =>
    (f63 ((x1.getD n3 (default : BitVec 16 × BitVec 16)).1) ((x1.getD n3 (default : BitVec 16 × BitVec 16)).2)).bind fun (r5 : List UInt8) =>
    chk ((n3 : Int) < (((x1).length : Nat) : Int)) <|
    chk (s4.length + r5.length ≤ 9223372036854775807) <|
    chk (((n3 : Int) + (1 : Int)) ≤ 9223372036854775807) <|
    (f36_L0 x1 K1 k) ((s4 ++ r5), (n3 + 1))
    ) fun (K2 : (List UInt8) → Option (List UInt8)) =>
    if (decide ((n3 : Int) > (0 : Int))) then (
    chk (s2.length + ([32, 124, 32] : List UInt8).length ≤ 9223372036854775807) <|
    K2 (s2 ++ ([32, 124, 32] : List UInt8))
    ) else (
    K2 s2
    )
    ) else (
    K1 s2
    )
def f36 (x1 : List (BitVec 16 × BitVec 16)) : Option (List UInt8) :=
  jn (fun (s6 : List UInt8) =>
  some s6
  ) fun (K1 : (List UInt8) → Option (List UInt8)) =>
  f36_L0 x1 K1 FUEL ([], 0)
set_option maxRecDepth 100000 in
theorem f36_ok  (x1 : List (BitVec 16 × BitVec 16)) (r : List UInt8) (h : f36 x1 = some r)  : Spec1 Tryz.prog 36 [(6, .tab .u64 Lib.pow10Tab)] [] [] [vL 2 eWW (default : BitVec 16 × BitVec 16) x1] (.str r) [] := by
  unfold f36 at h
  refine Spec1.body 0 _ _ Tryz.func36 rfl Tryz.ntmps36 rfl rfl ?_
  refine q2rq [] [] ⟨23, [(0, q2aWW x1), (1000006, .tab .u64 Lib.pow10Tab)], [], [], 0⟩ trivial ?_
  refine q2rq [] [] ⟨23, [(0, q2aWW x1), (3, .str []), (1000006, .tab .u64 Lib.pow10Tab)], [], [], 0⟩ trivial ?_
  obtain ⟨K1, hK1, h⟩ := jn_some h
  refine AWp.join (α := List UInt8) (fun (s6 : List UInt8) => ⟨23, [(3, .str s6), (1000006, .tab .u64 Lib.pow10Tab)], [], [], 0⟩) (fun x => K1 x = some r) ?_ ?_
  ·
    refine q2rq [] [] ⟨23, [(0, q2aWW x1), (3, .str []), (4, .i (0 : Int)), (1000006, .tab .u64 Lib.pow10Tab)], [], [], 0⟩ trivial ?_
    refine AWp.block ?_
    refine AWp.loopL (α := Nat × (List UInt8 × Nat)) (fun x => match x with | (_, s2, n3) => ⟨23, [(0, q2aWW x1), (3, .str s2), (4, .i (n3 : Int)), (1000006, .tab .u64 Lib.pow10Tab)], [], [], 0⟩) (fun x => f36_L0 x1 K1 x.1 x.2 = some r) (fun x => x.1) (FUEL, [], 0) (Le.mk (s' := ⟨23, [(0, q2aWW x1), (3, .str []), (4, .i (0 : Int)), (1000006, .tab .u64 Lib.pow10Tab)], [], [], 0⟩) rfl rfl ⟨.refl _, .refl _, .refl _, .refl _, trivial⟩ trivial) h ?_
    rintro ⟨k0, s2, n3⟩ h
    cases k0 with
    | zero => exact nomatch (show (none : Option (List UInt8)) = some r from h)
    | succ k0 =>
    obtain ⟨C0, hC0⟩ : ∃ C, C = f36_L0 x1 K1 k0 := ⟨_, rfl⟩
    replace h := (f36_L0.eq_2 ..).symm.trans h
    try rw [← hC0] at h
    refine AWp.seq ?_
    refine q2rq [] [] ⟨23, [(0, q2aWW x1), (3, .str s2), (4, .i (n3 : Int)), (8, .bool (decide ((n3 : Int) < (lZ x1)))), (1000006, .tab .u64 Lib.pow10Tab)], [], [], 0⟩ trivial ?_
    refine AWp.cond (b := (decide ((n3 : Int) < (lZ x1)))) (by kernel_rfl) (fun hc1 => ?_) (fun hc1 => ?_)
    ·
      replace h := ite_tb hc1 h
      refine AWp.skip ?_
      refine thenQ_normal ?_
      refine AWp.seq ?_
      refine AWp.block ?_
      obtain ⟨K2, hK2, h⟩ := jn_some h
      refine AWp.join (α := List UInt8) (fun (s4 : List UInt8) => ⟨23, [(0, q2aWW x1), (3, .str s4), (4, .i (n3 : Int)), (1000006, .tab .u64 Lib.pow10Tab)], [], [], 0⟩) (fun x => K2 x = some r) ?_ ?_
      ·
        refine q2rq [] [] ⟨23, [(0, q2aWW x1), (3, .str s2), (4, .i (n3 : Int)), (12, .bool (decide ((n3 : Int) > (0 : Int)))), (1000006, .tab .u64 Lib.pow10Tab)], [], [], 0⟩ trivial ?_
        refine AWp.cond (b := (decide ((n3 : Int) > (0 : Int)))) (by kernel_rfl) (fun hc2 => ?_) (fun hc2 => ?_)
        ·
          replace h := ite_tb hc2 h
          obtain ⟨ob0, h⟩ := chk_some h
          refine q2rr [] [] ⟨23, [(0, q2aWW x1), (3, .str (s2 ++ ([32, 124, 32] : List UInt8))), (4, .i (n3 : Int)), (1000006, .tab .u64 Lib.pow10Tab)], [], [], 0⟩ (an1 ob0) ?_
          exact joinQ_normal ((s2 ++ ([32, 124, 32] : List UInt8))) (Le.mk rfl rfl ⟨.refl _, .refl _, .refl _, .refl _, trivial⟩ trivial) h
        ·
          replace h := ite_fb hc2 h
          refine AWp.skip ?_
          exact joinQ_normal (s2) (Le.mk rfl rfl ⟨.refl _, .refl _, .refl _, .refl _, trivial⟩ trivial) h
      ·
        rintro s4 h
        replace h := (congrFun hK2 _).symm.trans h
        obtain ⟨r5, hr5, h⟩ := bind_ok h
        obtain ⟨ob1p, h⟩ := chk_some h
        have ob1 : 0 ≤ (n3 : Int) ∧ (n3 : Int) < (((x1).length : Nat) : Int) := ⟨by omega, ob1p⟩
        obtain ⟨ob2, h⟩ := chk_some h
        refine q2rr [] [(5, ⟨[.agg [.b16 (x1.getD n3 q2dWW).1, .b16 (x1.getD n3 q2dWW).2]], [], [], [], .str r5, [], [], [6]⟩)] ⟨23, [(0, q2aWW x1), (3, .str (s4 ++ r5)), (4, .i (n3 : Int)), (1000006, .tab .u64 Lib.pow10Tab)], [], [], 0⟩ (an3 ob1 (cpT (f63_ok _ _ _ hr5)) ob2) ?_
        refine blockQ_normal ?_
        refine thenQ_normal ?_
        obtain ⟨ob3p, h⟩ := chk_some h
        have ob3 : -9223372036854775808 ≤ ((n3 : Int) + (1 : Int)) ∧ ((n3 : Int) + (1 : Int)) ≤ 9223372036854775807 := ⟨by omega, ob3p⟩
        refine q2rr [] [] ⟨23, [(0, q2aWW x1), (3, .str (s4 ++ r5)), (4, .i (((n3 + 1) : Nat) : Int)), (1000006, .tab .u64 Lib.pow10Tab)], [], [], 0⟩ (an1 ob3) ?_
        rw [hC0] at h
        exact loopQ_normal (_, (s4 ++ r5), (n3 + 1)) (Le.mk rfl rfl ⟨.refl _, .refl _, .refl _, .refl _, trivial⟩ trivial) h (Nat.lt_succ_self _)
    ·
      replace h := ite_fb hc1 h
      refine AWp.exit ?_
      refine thenQ_exit ?_
      refine thenQ_exit ?_
      refine blockQ_same ?_
      exact joinQ_normal (s2) (Le.mk rfl rfl ⟨.refl _, .refl _, trivial⟩ trivial) h
  ·
    rintro s6 h
    replace h := (congrFun hK1 _).symm.trans h
    refine q2rq [] [] ⟨23, [(2, .str s6), (1000006, .tab .u64 Lib.pow10Tab)], [], [], 0⟩ trivial ?_
    have hret := Option.some.inj h
    subst hret
    refine AWp.le (Le.mk (s' := ⟨23, [(2, .str s6)], [], [], 0⟩) rfl rfl ⟨.refl _, trivial⟩ trivial) ?_
    refine AWp.ret ?_
    exact bodyQ_ret _ rfl ⟨rfl, rfl⟩ rfl
def f47 (x1 : BitVec 16) (x2 : BitVec 16) : Option Bool :=
  some ((x1 &&& ~~~x2) == (BitVec.ofInt 16 0))
set_option maxRecDepth 100000 in
theorem f47_ok  (x1 : BitVec 16) (x2 : BitVec 16) (r : Bool) (h : f47 x1 x2 = some r)  : Spec1 Tryz.prog 47 [] [] [] [.b16 x1, .b16 x2] (.bool r) [] := by
  unfold f47 at h
  refine Spec1.body 0 _ _ Tryz.func47 rfl Tryz.ntmps47 rfl rfl ?_
  refine q2rq [] [] ⟨9, [(0, .b16 x1), (1, .b16 x2)], [], [], 0⟩ trivial ?_
  refine q2rq [] [] ⟨9, [(4, .bool ((x1 &&& ~~~x2) == (q2w16 0)))], [], [], 0⟩ trivial ?_
  have hret := Option.some.inj h
  subst hret
  refine AWp.le (Le.mk (s' := ⟨9, [(4, .bool ((x1 &&& ~~~x2) == (q2w16 0)))], [], [], 0⟩) rfl rfl ⟨.refl _, trivial⟩ trivial) ?_
  refine AWp.ret ?_
  exact bodyQ_ret _ rfl ⟨rfl, rfl⟩ rfl
def f17 (x1 : BitVec 16) (x2 : BitVec 16) (x3 : BitVec 16) (x4 : BitVec 16) : Option Bool :=
  (f47 x3 x1).bind fun (r5 : Bool) =>
  optc (r5 == true) (f23 x3 x4) fun (r6 : BitVec 16) =>
  optc (r5 == true) (f23 x1 x2) fun (r7 : BitVec 16) =>
  optc (r5 == true) (f47 r6 r7) fun (r8 : Bool) =>
  some (r5 && r8)
set_option maxRecDepth 100000 in
theorem f17_ok  (x1 : BitVec 16) (x2 : BitVec 16) (x3 : BitVec 16) (x4 : BitVec 16) (r : Bool) (h : f17 x1 x2 x3 x4 = some r)  : Spec1 Tryz.prog 17 [] [] [] [.agg [.b16 x1, .b16 x2], .agg [.b16 x3, .b16 x4]] (.bool r) [] := by
  unfold f17 at h
  refine Spec1.body 0 _ _ Tryz.func17 rfl Tryz.ntmps17 rfl rfl ?_
  refine q2rq [] [] ⟨17, [(2, .ptr 2 0), (3, .ptr 3 0)], [(2, .cells 30 [.b16 x1, .b16 x2]), (3, .cells 30 [.b16 x3, .b16 x4])], [], 0⟩ trivial ?_
  refine AWp.seq ?_
  obtain ⟨r5, hr5, h⟩ := bind_ok h
  obtain ⟨r6, hr6, h⟩ := optc_some h
  obtain ⟨r7, hr7, h⟩ := optc_some h
  obtain ⟨r8, hr8, h⟩ := optc_some h
  have ob0 := idA ((r5 == true) = true)
  have ob1 := idA ((r5 == true) = true)
  have ob2 := idA ((r5 == true) = true)
  have ob3 := idA ((r5 == true) = true)
  have ob4 := bqA r5 true
  refine q2rr [] [(4, ⟨[.b16 x3, .b16 x1], [], [], [], .bool r5, [], [], []⟩), (7, ⟨[.agg [.b16 x3, .b16 x4]], [], [], [], .b16 r6, [], [], []⟩), (9, ⟨[.agg [.b16 x1, .b16 x2]], [], [], [], .b16 r7, [], [], []⟩), (10, ⟨[.b16 r6, .b16 r7], [], [], [], .bool r8, [], [], []⟩)] ⟨17, [(4, .bool (r5 && r8))], [], [], 0⟩ (an5 (cpT (f47_ok _ _ _ hr5)) (And.intro (cpC fun hc => (f23_ok _ _ _ (hr6 hc))) (an1 ob0)) (And.intro (cpC fun hc => (f23_ok _ _ _ (hr7 hc))) (an1 ob1)) (And.intro (cpC fun hc => (f47_ok _ _ _ (hr8 hc))) (an2 ob2 ob3)) ob4) ?_
  refine thenQ_normal ?_
  have hret := Option.some.inj h
  subst hret
  refine AWp.le (Le.mk (s' := ⟨17, [(4, .bool (r5 && r8))], [], [], 0⟩) rfl rfl ⟨.refl _, trivial⟩ trivial) ?_
  refine AWp.ret ?_
  exact bodyQ_ret _ rfl ⟨rfl, rfl⟩ rfl
def f24 (x1 : BitVec 16) : Option Int :=
  (f53 x1).bind fun (r2 : List Int) =>
  some (((r2).length : Nat) : Int)
set_option maxRecDepth 100000 in
theorem f24_ok  (x1 : BitVec 16) (r : Int) (h : f24 x1 = some r)  : Spec1 Tryz.prog 24 [] [] [] [.b16 x1] (.int .i64 r) [] := by
  unfold f24 at h
  refine Spec1.body 0 _ _ Tryz.func24 rfl Tryz.ntmps24 rfl rfl ?_
  refine q2rq [] [] ⟨6, [(0, .b16 x1)], [], [], 0⟩ trivial ?_
  refine AWp.seq ?_
  obtain ⟨r2, hr2, h⟩ := bind_ok h
  refine q2rr [] [(1, ⟨[.b16 x1], [], [], [(6001, q2bI_3 r2)], .own 6001, [6001], [], []⟩)] ⟨6, [(2, .i (lZ r2))], [], [], 0⟩ (an1 (cpT (Spec1.ren (swapN 3000 6001) (swapN_inv 3000 6001) rfl (f53_ok _ _ hr2)))) ?_
  refine thenQ_normal ?_
  have hret := Option.some.inj h
  subst hret
  refine AWp.le (Le.mk (s' := ⟨6, [(2, .i (lZ r2))], [], [], 0⟩) rfl rfl ⟨.refl _, trivial⟩ trivial) ?_
  refine AWp.ret ?_
  exact bodyQ_ret _ rfl ⟨rfl, rfl⟩ rfl
abbrev f74z0 (r3 : Int) (r4 : Int) := ((decide (r3 < r4)) == false)
def f74 (x1 : BitVec 16) (x2 : BitVec 16) : Option Int :=
  if (x1 == x2) then (
  some (0 : Int)
  ) else (
  (f24 x1).bind fun (r3 : Int) =>
  (f24 x2).bind fun (r4 : Int) =>
  optc ((decide (r3 < r4)) == false) (f24 x1) fun (r5 : Int) =>
  optc ((decide (r3 < r4)) == false) (f24 x2) fun (r6 : Int) =>
  chk (((decide (r3 < r4)) == false) = true → ((decide (r3 < r4)) == false) = true → (r5 == r6) = true → (((decide (r3 < r4)) == false) && ((r5 == r6) == true)) = true) <|
  if ((decide (r3 < r4)) || ((r5 == r6) && (decide (x1.toNat < x2.toNat)))) then (
  some (-1 : Int)
  ) else (
  some (1 : Int)
  )
  )
set_option maxRecDepth 100000 in
theorem f74_ok  (x1 : BitVec 16) (x2 : BitVec 16) (r : Int) (h : f74 x1 x2 = some r)  : Spec1 Tryz.prog 74 [] [] [] [.b16 x1, .b16 x2] (.int .i64 r) [] := by
  unfold f74 at h
  refine Spec1.body 0 _ _ Tryz.func74 rfl Tryz.ntmps74 rfl rfl ?_
  refine q2rq [] [] ⟨25, [(0, .b16 x1), (1, .b16 x2)], [], [], 0⟩ trivial ?_
  refine AWp.seq ?_
  refine q2rq [] [] ⟨25, [(0, .b16 x1), (1, .b16 x2), (7, .bool (x1 == x2))], [], [], 0⟩ trivial ?_
  refine AWp.cond (b := (x1 == x2)) (by kernel_rfl) (fun hc1 => ?_) (fun hc1 => ?_)
  ·
    replace h := ite_tb hc1 h
    refine q2rq [] [] ⟨25, [(4, .i (0 : Int))], [], [], 0⟩ trivial ?_
    have hret := Option.some.inj h
    subst hret
    refine AWp.le (Le.mk (s' := ⟨25, [(4, .i (0 : Int))], [], [], 0⟩) rfl rfl ⟨.refl _, trivial⟩ trivial) ?_
    refine AWp.ret ?_
    refine thenQ_ret ?_
    exact bodyQ_ret _ rfl ⟨rfl, rfl⟩ rfl
  ·
    replace h := ite_fb hc1 h
    refine AWp.skip ?_
    refine thenQ_normal ?_
    refine AWp.seq ?_
    refine AWp.seq ?_
    obtain ⟨r3, hr3, h⟩ := bind_ok h
    obtain ⟨r4, hr4, h⟩ := bind_ok h
    obtain ⟨r5, hr5, h⟩ := optc_some h
    obtain ⟨r6, hr6, h⟩ := optc_some h
    have ob0 := idA ((f74z0 r3 r4) = true)
    have ob1 := idA ((f74z0 r3 r4) = true)
    have ob2 := idA ((f74z0 r3 r4) = true)
    have ob3 := idA ((f74z0 r3 r4) = true)
    have ob4 := idA ((f74z0 r3 r4) = true)
    have ob5 := idA (((f74z0 r3 r4) && ((r5 == r6) == true)) = true)
    have ob6 := idA (((f74z0 r3 r4) && ((r5 == r6) == true)) = true)
    obtain ⟨ob7, h⟩ := chk_some h
    have ob8 := idA ((f74z0 r3 r4) = true)
    have ob9 : true = true → (decide (r3 < r4)) = false → (f74z0 r3 r4) = true := fun _ h => beq_iff_eq.2 h
    refine q2rr [] [(1, ⟨[.b16 x1], [], [], [], .i r3, [], [], []⟩), (3, ⟨[.b16 x2], [], [], [], .i r4, [], [], []⟩), (7, ⟨[.b16 x1], [], [], [], .i r5, [], [], []⟩), (9, ⟨[.b16 x2], [], [], [], .i r6, [], [], []⟩)] ⟨25, [(24, .bool ((decide (r3 < r4)) || ((r5 == r6) && (decide (x1.toNat < x2.toNat)))))], [], [], 0⟩ (ac6 (cpT (f24_ok _ _ hr3)) (cpT (f24_ok _ _ hr4)) (And.intro (cpC fun hc => (f24_ok _ _ (hr5 hc))) (an1 ob0)) (And.intro (cpC fun hc => (f24_ok _ _ (hr6 hc))) (an1 ob1)) (an2 ob2 ob3) (an1 ob4) (an3 (an2 ob5 ob6) (And.intro ob7 (an1 ob8)) ob9)) ?_
    refine thenQ_normal ?_
    refine AWp.cond (b := ((decide (r3 < r4)) || ((r5 == r6) && (decide (x1.toNat < x2.toNat))))) (by kernel_rfl) (fun hc2 => ?_) (fun hc2 => ?_)
    ·
      replace h := ite_tb hc2 h
      refine q2rq [] [] ⟨25, [(4, .i (-1 : Int))], [], [], 0⟩ trivial ?_
      have hret := Option.some.inj h
      subst hret
      refine AWp.le (Le.mk (s' := ⟨25, [(4, .i (-1 : Int))], [], [], 0⟩) rfl rfl ⟨.refl _, trivial⟩ trivial) ?_
      refine AWp.ret ?_
      refine thenQ_ret ?_
      exact bodyQ_ret _ rfl ⟨rfl, rfl⟩ rfl
    ·
      replace h := ite_fb hc2 h
      refine AWp.skip ?_
      refine thenQ_normal ?_
      refine q2rq [] [] ⟨25, [(4, .i (1 : Int))], [], [], 0⟩ trivial ?_
      have hret := Option.some.inj h
      subst hret
      refine AWp.le (Le.mk (s' := ⟨25, [(4, .i (1 : Int))], [], [], 0⟩) rfl rfl ⟨.refl _, trivial⟩ trivial) ?_
      refine AWp.ret ?_
      exact bodyQ_ret _ rfl ⟨rfl, rfl⟩ rfl
def f45 (x1 : BitVec 16) (x2 : BitVec 16) (x3 : BitVec 16) (x4 : BitVec 16) : Option Int :=
  (f74 x1 x3).bind fun (r5 : Int) =>
  if (r5 != (0 : Int)) then (
  some r5
  ) else (
  (f74 x2 x4).bind fun (r6 : Int) =>
  some r6
  )
set_option maxRecDepth 100000 in
theorem f45_ok  (x1 : BitVec 16) (x2 : BitVec 16) (x3 : BitVec 16) (x4 : BitVec 16) (r : Int) (h : f45 x1 x2 x3 x4 = some r)  : Spec1 Tryz.prog 45 [] [] [] [.agg [.b16 x1, .b16 x2], .agg [.b16 x3, .b16 x4]] (.int .i64 r) [] := by
  unfold f45 at h
  refine Spec1.body 0 _ _ Tryz.func45 rfl Tryz.ntmps45 rfl rfl ?_
  refine q2rq [] [] ⟨19, [(2, .ptr 2 0), (3, .ptr 3 0)], [(2, .cells 30 [.b16 x1, .b16 x2]), (3, .cells 30 [.b16 x3, .b16 x4])], [], 0⟩ trivial ?_
  refine AWp.seq ?_
  refine AWp.seq ?_
  obtain ⟨r5, hr5, h⟩ := bind_ok h
  refine q2rr [] [(4, ⟨[.b16 x1, .b16 x3], [], [], [], .i r5, [], [], []⟩)] ⟨19, [(2, .ptr 2 0), (3, .ptr 3 0), (5, .i r5)], [(2, .cells 30 [.b16 x1, .b16 x2]), (3, .cells 30 [.b16 x3, .b16 x4])], [], 0⟩ (an1 (cpT (f74_ok _ _ _ hr5))) ?_
  refine thenQ_normal ?_
  refine q2rq [] [] ⟨19, [(2, .ptr 2 0), (3, .ptr 3 0), (5, .i r5), (12, .bool (r5 != (0 : Int)))], [(2, .cells 30 [.b16 x1, .b16 x2]), (3, .cells 30 [.b16 x3, .b16 x4])], [], 0⟩ trivial ?_
  refine AWp.cond (b := (r5 != (0 : Int))) (by kernel_rfl) (fun hc1 => ?_) (fun hc1 => ?_)
  ·
    replace h := ite_tb hc1 h
    refine q2rq [] [] ⟨19, [(4, .i r5)], [], [], 0⟩ trivial ?_
    have hret := Option.some.inj h
    subst hret
    refine AWp.le (Le.mk (s' := ⟨19, [(4, .i r5)], [], [], 0⟩) rfl rfl ⟨.refl _, trivial⟩ trivial) ?_
    refine AWp.ret ?_
    refine thenQ_ret ?_
    exact bodyQ_ret _ rfl ⟨rfl, rfl⟩ rfl
  ·
    replace h := ite_fb hc1 h
    refine AWp.skip ?_
    refine thenQ_normal ?_
    refine AWp.seq ?_
    obtain ⟨r6, hr6, h⟩ := bind_ok h
    refine q2rr [] [(4, ⟨[.b16 x2, .b16 x4], [], [], [], .i r6, [], [], []⟩)] ⟨19, [(4, .i r6)], [], [], 0⟩ (an1 (cpT (f74_ok _ _ _ hr6))) ?_
    refine thenQ_normal ?_
    have hret := Option.some.inj h
    subst hret
    refine AWp.le (Le.mk (s' := ⟨19, [(4, .i r6)], [], [], 0⟩) rfl rfl ⟨.refl _, trivial⟩ trivial) ?_
    refine AWp.ret ?_
    exact bodyQ_ret _ rfl ⟨rfl, rfl⟩ rfl
def f55_L1 (x1 : List (BitVec 16 × BitVec 16)) (n2 : Nat) (K3 : Bool → Option (List (BitVec 16 × BitVec 16))) : Nat → (Bool × Nat) → Option (List (BitVec 16 × BitVec 16))
  | 0, _ => none
  | k + 1, (b4, n5) =>
    if (decide ((n5 : Int) < (((x1).length : Nat) : Int))) then (
    jn (fun (b7 : Bool) =>
    chk (((n5 : Int) + (1 : Int)) ≤ 9223372036854775807) <|
    (f55_L1 x1 n2 K3 k) (b7, (n5 + 1))
    ) fun (K4 : Bool → Option (List (BitVec 16 × BitVec 16))) =>
    (f17 ((x1.getD n5 (default : BitVec 16 × BitVec 16)).1) ((x1.getD n5 (default : BitVec 16 × BitVec 16)).2) ((x1.getD n2 (default : BitVec 16 × BitVec 16)).1) ((x1.getD n2 (default : BitVec 16 × BitVec 16)).2)).bind fun (r6 : Bool) =>
    chk ((n5 : Int) < (((x1).length : Nat) : Int)) <|
    chk ((n2 : Int) < (((x1).length : Nat) : Int)) <|
    chk ((r6 == true) = true → 0 ≤ (n5 : Int) ∧ (n5 : Int) < (((x1).length : Nat) : Int)) <|
    chk ((r6 == true) = true → 0 ≤ (n2 : Int) ∧ (n2 : Int) < (((x1).length : Nat) : Int)) <|
    chk ((r6 == true) = true → (r6 == true) = true → (!((((x1.getD n5 (default : BitVec 16 × BitVec 16)).1) == ((x1.getD n2 (default : BitVec 16 × BitVec 16)).1)) && ((((x1.getD n5 (default : BitVec 16 × BitVec 16)).2) == ((x1.getD n2 (default : BitVec 16 × BitVec 16)).2)) && true))) = false → ((r6 == true) && ((!((((x1.getD n5 (default : BitVec 16 × BitVec 16)).1) == ((x1.getD n2 (default : BitVec 16 × BitVec 16)).1)) && ((((x1.getD n5 (default : BitVec 16 × BitVec 16)).2) == ((x1.getD n2 (default : BitVec 16 × BitVec 16)).2)) && true))) == false)) = true) <|
    if (r6 && ((!((((x1.getD n5 (default : BitVec 16 × BitVec 16)).1) == ((x1.getD n2 (default : BitVec 16 × BitVec 16)).1)) && ((((x1.getD n5 (default : BitVec 16 × BitVec 16)).2) == ((x1.getD n2 (default : BitVec 16 × BitVec 16)).2)) && true))) || (decide ((n5 : Int) < (n2 : Int))))) then (
    K4 false
    ) else (
    K4 b4
    )
    ) else (
    K3 b4
    )
def f55_L2 (x1 : List (BitVec 16 × BitVec 16)) (n2 : Nat) (K5 : (Nat × (List (BitVec 16 × BitVec 16))) → Option (List (BitVec 16 × BitVec 16))) : Nat → (Nat × (List (BitVec 16 × BitVec 16))) → Option (List (BitVec 16 × BitVec 16))
  | 0, _ => none
  | k + 1, (n10, l11) =>
    optc ((decide ((n10 : Int) < (((l11).length : Nat) : Int))) == true) (f45 ((l11.getD n10 (default : BitVec 16 × BitVec 16)).1) ((l11.getD n10 (default : BitVec 16 × BitVec 16)).2) ((x1.getD n2 (default : BitVec 16 × BitVec 16)).1) ((x1.getD n2 (default : BitVec 16 × BitVec 16)).2)) fun (r12 : Int) =>
    chk (((decide ((n10 : Int) < (((l11).length : Nat) : Int))) == true) = true → 0 ≤ (n10 : Int) ∧ (n10 : Int) < (((l11).length : Nat) : Int)) <|
    chk (((decide ((n10 : Int) < (((l11).length : Nat) : Int))) == true) = true → n10 < (l11).length) <|
    chk (((decide ((n10 : Int) < (((l11).length : Nat) : Int))) == true) = true → 0 ≤ (n2 : Int) ∧ (n2 : Int) < (((x1).length : Nat) : Int)) <|
    if ((decide ((n10 : Int) < (((l11).length : Nat) : Int))) && (decide (r12 < (0 : Int)))) then (
    chk (((n10 : Int) + (1 : Int)) ≤ 9223372036854775807) <|
    (f55_L2 x1 n2 K5 k) ((n10 + 1), l11)
    ) else (
    K5 (n10, l11)
    )
def f55_L0 (x1 : List (BitVec 16 × BitVec 16)) (K1 : (List (BitVec 16 × BitVec 16)) → Option (List (BitVec 16 × BitVec 16))) : Nat → (Nat × (List (BitVec 16 × BitVec 16))) → Option (List (BitVec 16 × BitVec 16))
  | 0, _ => none
  | k + 1, (n2, l3) =>
    if (decide ((n2 : Int) < (((x1).length : Nat) : Int))) then (
    jn (fun (l9 : List (BitVec 16 × BitVec 16)) =>
    chk (((n2 : Int) + (1 : Int)) ≤ 9223372036854775807) <|
    (f55_L0 x1 K1 k) ((n2 + 1), l9)
    ) fun (K2 : (List (BitVec 16 × BitVec 16)) → Option (List (BitVec 16 × BitVec 16))) =>
    jn (fun (b8 : Bool) =>
    if (!b8) then (
    K2 l3
    ) else (
    jn (fun ((n13, l14) : Nat × (List (BitVec 16 × BitVec 16))) =>
    chk ((n13 : Int) ≤ (((l14).length : Nat) : Int)) <|
    chk ((0 + n13) * 4 ≤ 140737488355328) <|
    chk ((n2 : Int) < (((x1).length : Nat) : Int)) <|
    chk ((((l14.take n13)).length + 1) * 4 ≤ 140737488355328) <|
    chk ((n13 : Int) ≤ (((l14).length : Nat) : Int)) <|
    chk (((((l14.take n13) ++ [((x1.getD n2 (default : BitVec 16 × BitVec 16)).1, (x1.getD n2 (default : BitVec 16 × BitVec 16)).2)])).length + ((l14).length - n13)) * 4 ≤ 140737488355328) <|
    K2 (((l14.take n13) ++ [((x1.getD n2 (default : BitVec 16 × BitVec 16)).1, (x1.getD n2 (default : BitVec 16 × BitVec 16)).2)]) ++ (l14.drop n13))
    ) fun (K5 : (Nat × (List (BitVec 16 × BitVec 16))) → Option (List (BitVec 16 × BitVec 16))) =>
    f55_L2 x1 n2 K5 FUEL (0, l3)
    )
    ) fun (K3 : Bool → Option (List (BitVec 16 × BitVec 16))) =>
    f55_L1 x1 n2 K3 FUEL (true, 0)
    ) else (
    K1 l3
    )
abbrev f55z0 (x1 : List (BitVec 16 × BitVec 16)) (n2 : Nat) := (x1.getD n2 (default : BitVec 16 × BitVec 16))
abbrev f55z1 (l3 : List (BitVec 16 × BitVec 16)) : Heap := [(5003, bL 30 2 eWW (default : BitVec 16 × BitVec 16) l3)]
abbrev f55z2 (x1 : List (BitVec 16 × BitVec 16)) (n5 : Nat) (n2 : Nat) := (!((((x1.getD n5 (default : BitVec 16 × BitVec 16)).1) == ((f55z0 x1 n2).1)) && ((((x1.getD n5 (default : BitVec 16 × BitVec 16)).2) == ((f55z0 x1 n2).2)) && true)))
abbrev f55z3 (x1 : List (BitVec 16 × BitVec 16)) (l14 : List (BitVec 16 × BitVec 16)) (n2 : Nat) (n13 : Nat) : List (Nat × V) := [(0, vL 2 eWW (default : BitVec 16 × BitVec 16) x1), (3, vL 2 eWW (default : BitVec 16 × BitVec 16) l14), (4, .int .i64 (n2 : Int)), (7, .int .i64 (n13 : Int)), (8, .own 70)]
abbrev f55z4 (x1 : List (BitVec 16 × BitVec 16)) (n2 : Nat) : List (Nat × V) := [(0, vL 2 eWW (default : BitVec 16 × BitVec 16) x1), (3, .own 5003), (4, .int .i64 (n2 : Int))]
abbrev f55z5 (l11 : List (BitVec 16 × BitVec 16)) : Heap := [(5003, bL 30 2 eWW (default : BitVec 16 × BitVec 16) l11)]
abbrev f55z6 (x1 : List (BitVec 16 × BitVec 16)) (n2 : Nat) : List (Nat × V) := [(0, vL 2 eWW (default : BitVec 16 × BitVec 16) x1), (3, .own 70), (4, .int .i64 (n2 : Int))]
abbrev f55z7 := (BitVec 16 × BitVec 16)
def f55 (x1 : List (BitVec 16 × BitVec 16)) : Option (List (BitVec 16 × BitVec 16)) :=
  jn (fun (l15 : List (BitVec 16 × BitVec 16)) =>
  some l15
  ) fun (K1 : (List (BitVec 16 × BitVec 16)) → Option (List (BitVec 16 × BitVec 16))) =>
  f55_L0 x1 K1 FUEL (0, [])
set_option maxRecDepth 100000 in
theorem f55_ok  (x1 : List (BitVec 16 × BitVec 16)) (r : List (BitVec 16 × BitVec 16)) (h : f55 x1 = some r)  : Spec1 Tryz.prog 55 [] [] [] [vL 2 eWW (default : BitVec 16 × BitVec 16) x1] (.own 3000) [(3000, bL 30 2 eWW (default : BitVec 16 × BitVec 16) r)] := by
  unfold f55 at h
  refine Spec1.body 0 _ _ Tryz.func55 rfl Tryz.ntmps55 rfl rfl ?_
  refine q2rq [] [] ⟨84, [(0, q2aWW x1)], [], [], 0⟩ trivial ?_
  refine q2rq [] [] ⟨84, [(0, q2aWW x1), (3, .nils)], [], [], 0⟩ trivial ?_
  obtain ⟨K1, hK1, h⟩ := jn_some h
  refine AWp.join (α := List (f55z7)) (fun (l15 : List (f55z7)) => ⟨84, [(3, .own 5003)], [(5003, q2bWW_30 l15)], [], 0⟩) (fun x => K1 x = some r) ?_ ?_
  ·
    refine q2rq [] [] ⟨84, [(0, q2aWW x1), (3, .nils), (4, .i (0 : Int))], [], [], 0⟩ trivial ?_
    refine AWp.block ?_
    refine AWp.loopL (α := Nat × (Nat × (List (f55z7)))) (fun x => match x with | (_, n2, l3) => ⟨84, (f55z4 x1 n2), (f55z1 l3), [], 0⟩) (fun x => f55_L0 x1 K1 x.1 x.2 = some r) (fun x => x.1) (FUEL, 0, []) (Le.trans (Le.trans (Le.nilOwn 3 5003 30 2 (encF eWW q2dWW []) rfl rfl (Nat.le_of_ble_eq_true rfl)) (Le.mk (s' := ⟨84, [(0, q2aWW x1), (3, .own 5003), (4, .i (0 : Int))], [(5003, q2bWW_30 [])], [], 0⟩) rfl rfl ⟨.refl _, .refl _, .refl _, trivial⟩ ⟨⟨_, rfl, .refl _⟩, trivial⟩)) (Le.mk (s' := ⟨84, [(0, q2aWW x1), (3, .own 5003), (4, .i (0 : Int))], [(5003, q2bWW_30 [])], [], 0⟩) rfl rfl ⟨.refl _, .refl _, .refl _, trivial⟩ ⟨⟨_, rfl, .refl _⟩, trivial⟩)) h ?_
    rintro ⟨k0, n2, l3⟩ h
    cases k0 with
    | zero => exact nomatch (show (none : Option (List (BitVec 16 × BitVec 16))) = some r from h)
    | succ k0 =>
    obtain ⟨C0, hC0⟩ : ∃ C, C = f55_L0 x1 K1 k0 := ⟨_, rfl⟩
    replace h := (f55_L0.eq_2 ..).symm.trans h
    try rw [← hC0] at h
    refine AWp.seq ?_
    refine q2rq [] [] ⟨84, [(0, q2aWW x1), (3, .own 5003), (4, .i (n2 : Int)), (12, .bool (decide ((n2 : Int) < (lZ x1))))], (f55z1 l3), [], 0⟩ trivial ?_
    refine AWp.cond (b := (decide ((n2 : Int) < (lZ x1)))) (by kernel_rfl) (fun hc1 => ?_) (fun hc1 => ?_)
    ·
      replace h := ite_tb hc1 h
      refine AWp.skip ?_
      refine thenQ_normal ?_
      obtain ⟨K2, hK2, h⟩ := jn_some h
      refine AWp.join (α := List (f55z7)) (fun (l9 : List (f55z7)) => ⟨84, (f55z4 x1 n2), [(5003, q2bWW_30 l9)], [], 0⟩) (fun x => K2 x = some r) ?_ ?_
      ·
        refine AWp.block ?_
        refine q2rq [] [] ⟨84, [(0, q2aWW x1), (3, .own 5003), (4, .i (n2 : Int)), (5, .bool true)], (f55z1 l3), [], 0⟩ trivial ?_
        obtain ⟨K3, hK3, h⟩ := jn_some h
        refine AWp.join (α := Bool) (fun (b8 : Bool) => ⟨84, [(0, q2aWW x1), (3, .own 5003), (4, .i (n2 : Int)), (5, .bool b8)], (f55z1 l3), [], 0⟩) (fun x => K3 x = some r) ?_ ?_
        ·
          refine q2rq [] [] ⟨84, [(0, q2aWW x1), (3, .own 5003), (4, .i (n2 : Int)), (5, .bool true), (6, .i (0 : Int))], (f55z1 l3), [], 0⟩ trivial ?_
          refine AWp.block ?_
          refine AWp.loopL (α := Nat × (Bool × Nat)) (fun x => match x with | (_, b4, n5) => ⟨84, [(0, q2aWW x1), (3, .own 5003), (4, .i (n2 : Int)), (5, .bool b4), (6, .i (n5 : Int))], (f55z1 l3), [], 0⟩) (fun x => f55_L1 x1 n2 K3 x.1 x.2 = some r) (fun x => x.1) (FUEL, true, 0) (Le.mk (s' := ⟨84, [(0, q2aWW x1), (3, .own 5003), (4, .i (n2 : Int)), (5, .bool true), (6, .i (0 : Int))], (f55z1 l3), [], 0⟩) rfl rfl ⟨.refl _, .refl _, .refl _, .refl _, .refl _, trivial⟩ ⟨⟨_, rfl, .refl _⟩, trivial⟩) h ?_
          rintro ⟨k1, b4, n5⟩ h
          cases k1 with
          | zero => exact nomatch (show (none : Option (List (BitVec 16 × BitVec 16))) = some r from h)
          | succ k1 =>
          obtain ⟨C1, hC1⟩ : ∃ C, C = f55_L1 x1 n2 K3 k1 := ⟨_, rfl⟩
          replace h := (f55_L1.eq_2 ..).symm.trans h
          try rw [← hC1] at h
          refine AWp.seq ?_
          refine q2rq [] [] ⟨84, [(0, q2aWW x1), (3, .own 5003), (4, .i (n2 : Int)), (5, .bool b4), (6, .i (n5 : Int)), (18, .bool (decide ((n5 : Int) < (lZ x1))))], (f55z1 l3), [], 0⟩ trivial ?_
          refine AWp.cond (b := (decide ((n5 : Int) < (lZ x1)))) (by kernel_rfl) (fun hc2 => ?_) (fun hc2 => ?_)
          ·
            replace h := ite_tb hc2 h
            refine AWp.skip ?_
            refine thenQ_normal ?_
            obtain ⟨K4, hK4, h⟩ := jn_some h
            refine AWp.join (α := Bool) (fun (b7 : Bool) => ⟨84, [(0, q2aWW x1), (3, .own 5003), (4, .i (n2 : Int)), (5, .bool b7), (6, .i (n5 : Int))], (f55z1 l3), [], 0⟩) (fun x => K4 x = some r) ?_ ?_
            ·
              refine AWp.block ?_
              refine AWp.seq ?_
              obtain ⟨r6, hr6, h⟩ := bind_ok h
              obtain ⟨ob0p, h⟩ := chk_some h
              have ob0 : 0 ≤ (n5 : Int) ∧ (n5 : Int) < (((x1).length : Nat) : Int) := ⟨by omega, ob0p⟩
              obtain ⟨ob1p, h⟩ := chk_some h
              have ob1 : 0 ≤ (n2 : Int) ∧ (n2 : Int) < (((x1).length : Nat) : Int) := ⟨by omega, ob1p⟩
              obtain ⟨ob2, h⟩ := chk_some h
              have ob3 := idA ((r6 == true) = true)
              have ob4 := idA ((r6 == true) = true)
              have ob5 := idA ((r6 == true) = true)
              obtain ⟨ob6, h⟩ := chk_some h
              have ob7 := idA ((r6 == true) = true)
              have ob8 := idA ((r6 == true) = true)
              have ob9 := idA ((r6 == true) = true)
              have ob10 := idA ((r6 == true) = true)
              have ob11 := idA ((r6 == true) = true)
              have ob12 := idA ((r6 == true) = true)
              have ob13 := idA (((r6 == true) && ((f55z2 x1 n5 n2) == false)) = true)
              have ob14 := idA (((r6 == true) && ((f55z2 x1 n5 n2) == false)) = true)
              obtain ⟨ob15, h⟩ := chk_some h
              have ob16 := idA ((r6 == true) = true)
              have ob17 := bqA r6 true
              refine q2rr [] [(8, ⟨[.agg [.b16 (x1.getD n5 q2dWW).1, .b16 (x1.getD n5 q2dWW).2], .agg [.b16 (f55z0 x1 n2).1, .b16 (f55z0 x1 n2).2]], [], [], [], .bool r6, [], [], []⟩)] ⟨84, [(0, q2aWW x1), (3, .own 5003), (4, .i (n2 : Int)), (5, .bool b4), (6, .i (n5 : Int)), (45, .bool (r6 && ((f55z2 x1 n5 n2) || (decide ((n5 : Int) < (n2 : Int))))))], (f55z1 l3), [], 0⟩ (ac6 ob0 ob1 (cpT (f17_ok _ _ _ _ _ hr6)) (And.intro ob2 (an2 ob3 ob4)) (an1 ob5) (And.intro ob6 (an2 ob7 ob8)) (an6 (an1 ob9) (an2 ob10 ob11) (an1 ob12) (an2 ob13 ob14) (And.intro ob15 (an1 ob16)) ob17)) ?_
              refine thenQ_normal ?_
              refine AWp.cond (b := (r6 && ((f55z2 x1 n5 n2) || (decide ((n5 : Int) < (n2 : Int)))))) (by kernel_rfl) (fun hc3 => ?_) (fun hc3 => ?_)
              ·
                replace h := ite_tb hc3 h
                refine q2rr [] [] ⟨84, [(0, q2aWW x1), (3, .own 5003), (4, .i (n2 : Int)), (5, .bool false), (6, .i (n5 : Int))], (f55z1 l3), [], 0⟩ trivial ?_
                refine blockQ_normal ?_
                exact joinQ_normal (false) (Le.mk rfl rfl ⟨.refl _, .refl _, .refl _, .refl _, .refl _, trivial⟩ ⟨⟨_, rfl, .refl _⟩, trivial⟩) h
              ·
                replace h := ite_fb hc3 h
                refine AWp.skip ?_
                refine blockQ_normal ?_
                exact joinQ_normal (b4) (Le.mk rfl rfl ⟨.refl _, .refl _, .refl _, .refl _, .refl _, trivial⟩ ⟨⟨_, rfl, .refl _⟩, trivial⟩) h
            ·
              rintro b7 h
              replace h := (congrFun hK4 _).symm.trans h
              obtain ⟨ob18p, h⟩ := chk_some h
              have ob18 : -9223372036854775808 ≤ ((n5 : Int) + (1 : Int)) ∧ ((n5 : Int) + (1 : Int)) ≤ 9223372036854775807 := ⟨by omega, ob18p⟩
              refine q2rr [] [] ⟨84, [(0, q2aWW x1), (3, .own 5003), (4, .i (n2 : Int)), (5, .bool b7), (6, .i (((n5 + 1) : Nat) : Int))], (f55z1 l3), [], 0⟩ (an1 ob18) ?_
              rw [hC1] at h
              exact loopQ_normal (_, b7, (n5 + 1)) (Le.mk rfl rfl ⟨.refl _, .refl _, .refl _, .refl _, .refl _, trivial⟩ ⟨⟨_, rfl, .refl _⟩, trivial⟩) h (Nat.lt_succ_self _)
          ·
            replace h := ite_fb hc2 h
            refine AWp.exit ?_
            refine thenQ_exit ?_
            refine thenQ_exit ?_
            refine blockQ_same ?_
            exact joinQ_normal (b4) (Le.mk rfl rfl ⟨.refl _, .refl _, .refl _, .refl _, trivial⟩ ⟨⟨_, rfl, .refl _⟩, trivial⟩) h
        ·
          rintro b8 h
          replace h := (congrFun hK3 _).symm.trans h
          refine AWp.seq ?_
          refine q2rq [] [] ⟨84, [(0, q2aWW x1), (3, .own 5003), (4, .i (n2 : Int)), (47, .bool (!b8))], (f55z1 l3), [], 0⟩ trivial ?_
          refine AWp.cond (b := (!b8)) (by kernel_rfl) (fun hc4 => ?_) (fun hc4 => ?_)
          ·
            replace h := ite_tb hc4 h
            refine AWp.exit ?_
            refine thenQ_exit ?_
            refine blockQ_same ?_
            exact joinQ_normal (l3) (Le.mk rfl rfl ⟨.refl _, .refl _, .refl _, trivial⟩ ⟨⟨_, rfl, .refl _⟩, trivial⟩) h
          ·
            replace h := ite_fb hc4 h
            refine AWp.skip ?_
            refine thenQ_normal ?_
            refine q2rq [] [] ⟨84, [(0, q2aWW x1), (3, .own 5003), (4, .i (n2 : Int)), (7, .i (0 : Int))], (f55z1 l3), [], 0⟩ trivial ?_
            obtain ⟨K5, hK5, h⟩ := jn_some h
            refine AWp.join (α := Nat × (List (f55z7))) (fun (x : Nat × (List (f55z7))) => match x with | (n13, l14) => ⟨84, [(0, q2aWW x1), (3, .own 5003), (4, .i (n2 : Int)), (7, .i (n13 : Int))], [(5003, q2bWW_30 l14)], [], 0⟩) (fun x => K5 x = some r) ?_ ?_
            ·
              refine AWp.block ?_
              refine AWp.loopL (α := Nat × (Nat × (List (f55z7)))) (fun x => match x with | (_, n10, l11) => ⟨84, [(0, q2aWW x1), (3, .own 5003), (4, .i (n2 : Int)), (7, .i (n10 : Int))], (f55z5 l11), [], 0⟩) (fun x => f55_L2 x1 n2 K5 x.1 x.2 = some r) (fun x => x.1) (FUEL, 0, l3) (Le.mk (s' := ⟨84, [(0, q2aWW x1), (3, .own 5003), (4, .i (n2 : Int)), (7, .i (0 : Int))], (f55z1 l3), [], 0⟩) rfl rfl ⟨.refl _, .refl _, .refl _, .refl _, trivial⟩ ⟨⟨_, rfl, .refl _⟩, trivial⟩) h ?_
              rintro ⟨k2, n10, l11⟩ h
              cases k2 with
              | zero => exact nomatch (show (none : Option (List (BitVec 16 × BitVec 16))) = some r from h)
              | succ k2 =>
              obtain ⟨C2, hC2⟩ : ∃ C, C = f55_L2 x1 n2 K5 k2 := ⟨_, rfl⟩
              replace h := (f55_L2.eq_2 ..).symm.trans h
              try rw [← hC2] at h
              refine AWp.seq ?_
              refine AWp.seq ?_
              obtain ⟨r12, hr12, h⟩ := optc_some h
              obtain ⟨ob19, h⟩ := chk_some h
              have ob20 := idA (((decide ((n10 : Int) < (lZ l11))) == true) = true)
              have ob21 := idA (((decide ((n10 : Int) < (lZ l11))) == true) = true)
              obtain ⟨ob22, h⟩ := chk_some h
              have ob23 := idA (((decide ((n10 : Int) < (lZ l11))) == true) = true)
              obtain ⟨ob24, h⟩ := chk_some h
              have ob25 := idA (((decide ((n10 : Int) < (lZ l11))) == true) = true)
              have ob26 := idA (((decide ((n10 : Int) < (lZ l11))) == true) = true)
              have ob27 := idA (((decide ((n10 : Int) < (lZ l11))) == true) = true)
              have ob28 := idA (((decide ((n10 : Int) < (lZ l11))) == true) = true)
              have ob29 := idA (((decide ((n10 : Int) < (lZ l11))) == true) = true)
              have ob30 := idA (((decide ((n10 : Int) < (lZ l11))) == true) = true)
              have ob31 := bqA (decide ((n10 : Int) < (lZ l11))) true
              refine q2rr [] [(13, ⟨[.agg [.b16 (l11.getD n10 q2dWW).1, .b16 (l11.getD n10 q2dWW).2], .agg [.b16 (f55z0 x1 n2).1, .b16 (f55z0 x1 n2).2]], [], [], [], .i r12, [], [], []⟩)] ⟨84, [(0, q2aWW x1), (3, .own 5003), (4, .i (n2 : Int)), (7, .i (n10 : Int)), (63, .bool ((decide ((n10 : Int) < (lZ l11))) && (decide (r12 < (0 : Int)))))], (f55z5 l11), [], 0⟩ (ac6 (And.intro ob19 (an2 ob20 ob21)) (And.intro ob22 (an1 ob23)) (And.intro ob24 (an2 ob25 ob26)) (an1 ob27) (And.intro (cpC fun hc => (f45_ok _ _ _ _ _ (hr12 hc))) (an2 ob28 ob29)) (an1 ob30) (an1 ob31)) ?_
              refine thenQ_normal ?_
              refine AWp.cond (b := ((decide ((n10 : Int) < (lZ l11))) && (decide (r12 < (0 : Int))))) (by kernel_rfl) (fun hc5 => ?_) (fun hc5 => ?_)
              ·
                replace h := ite_tb hc5 h
                refine AWp.skip ?_
                refine thenQ_normal ?_
                refine AWp.block ?_
                obtain ⟨ob32p, h⟩ := chk_some h
                have ob32 : -9223372036854775808 ≤ ((n10 : Int) + (1 : Int)) ∧ ((n10 : Int) + (1 : Int)) ≤ 9223372036854775807 := ⟨by omega, ob32p⟩
                refine q2rr [] [] ⟨84, [(0, q2aWW x1), (3, .own 5003), (4, .i (n2 : Int)), (7, .i (((n10 + 1) : Nat) : Int))], (f55z5 l11), [], 0⟩ (an1 ob32) ?_
                refine blockQ_normal ?_
                rw [hC2] at h
                exact loopQ_normal (_, (n10 + 1), l11) (Le.mk rfl rfl ⟨.refl _, .refl _, .refl _, .refl _, trivial⟩ ⟨⟨_, rfl, .refl _⟩, trivial⟩) h (Nat.lt_succ_self _)
              ·
                replace h := ite_fb hc5 h
                refine AWp.exit ?_
                refine thenQ_exit ?_
                refine thenQ_exit ?_
                refine blockQ_same ?_
                exact joinQ_normal (n10, l11) (Le.mk rfl rfl ⟨.refl _, .refl _, .refl _, .refl _, trivial⟩ ⟨⟨_, rfl, .refl _⟩, trivial⟩) h
            ·
              rintro ⟨n13, l14⟩ h
              replace h := (congrFun hK5 _).symm.trans h
              refine q2rq [] [] ⟨84, [(0, q2aWW x1), (3, .own 5003), (4, .i (n2 : Int)), (7, .i (n13 : Int)), (8, .nils)], [(5003, q2bWW_30 l14)], [], 0⟩ trivial ?_
              refine AWp.seq ?_
              refine AWp.le (Le.trans (Le.freeze 5003 rfl rfl) (Le.mk (s' := ⟨84, [(0, q2aWW x1), (3, q2aWW l14), (4, .i (n2 : Int)), (7, .i (n13 : Int)), (8, .nils)], [], [], 0⟩) rfl rfl ⟨.refl _, .refl _, .refl _, .refl _, .refl _, trivial⟩ trivial)) ?_
              obtain ⟨ob33p, h⟩ := chk_some h
              have ob33 : 0 ≤ (n13 : Int) ∧ (n13 : Int) ≤ (((l14).length : Nat) : Int) := ⟨by omega, ob33p⟩
              obtain ⟨ob34, h⟩ := chk_some h
              refine q2rr [] [] ⟨84, (f55z3 x1 l14 n2 n13), [(70, .rows 30 2 (0 + n13) (encF eWW q2dWW l14))], [], 0⟩ (an2 ob33 ob34) ?_
              refine thenQ_normal ?_
              refine AWp.le (Le.mk (s' := ⟨84, (f55z3 x1 l14 n2 n13), [(70, q2bWW_30 (l14.take n13))], [], 0⟩) rfl rfl ⟨.refl _, .refl _, .refl _, .refl _, .refl _, trivial⟩ ⟨⟨_, rfl, (BLe.of (RL.app0 (RL.takeL (by first | omega | (simp only [List.length_append, List.length_cons, List.length_nil, List.length_take, List.length_drop] at *; omega) | (simp; done) | (simp_all; done) | (simp_all; omega) | rfl))))⟩, trivial⟩) ?_
              refine AWp.seq ?_
              obtain ⟨ob35p, h⟩ := chk_some h
              have ob35 : 0 ≤ (n2 : Int) ∧ (n2 : Int) < (((x1).length : Nat) : Int) := ⟨by omega, ob35p⟩
              obtain ⟨ob36, h⟩ := chk_some h
              refine q2rr [] [] ⟨84, (f55z3 x1 l14 n2 n13), [(70, .rows 30 2 (((l14.take n13)).length + 1) (appF ((l14.take n13)).length (encF eWW q2dWW (l14.take n13)) (lstF 2 [.b16 (f55z0 x1 n2).1, .b16 (f55z0 x1 n2).2])))], [], 0⟩ (an2 ob35 ob36) ?_
              refine thenQ_normal ?_
              refine AWp.le (Le.mk (s' := ⟨84, (f55z3 x1 l14 n2 n13), [(70, q2bWW_30 ((l14.take n13) ++ [((f55z0 x1 n2).1, (f55z0 x1 n2).2)]))], [], 0⟩) rfl rfl ⟨.refl _, .refl _, .refl _, .refl _, .refl _, trivial⟩ ⟨⟨_, rfl, (BLe.of (RL.app (RL.self _) (RL.lst (enc := eWW) [((f55z0 x1 n2).1, (f55z0 x1 n2).2)] rfl rfl (fun _ => rfl))))⟩, trivial⟩) ?_
              obtain ⟨ob37p, h⟩ := chk_some h
              have ob37 : 0 ≤ (n13 : Int) ∧ (n13 : Int) ≤ (((l14).length : Nat) : Int) := ⟨by omega, ob37p⟩
              obtain ⟨ob38, h⟩ := chk_some h
              refine q2rr [] [] ⟨84, (f55z6 x1 n2), [(70, .rows 30 2 ((((l14.take n13) ++ [((f55z0 x1 n2).1, (f55z0 x1 n2).2)])).length + ((l14).length - n13)) (appF (((l14.take n13) ++ [((f55z0 x1 n2).1, (f55z0 x1 n2).2)])).length (encF eWW q2dWW ((l14.take n13) ++ [((f55z0 x1 n2).1, (f55z0 x1 n2).2)])) (fun i j => (encF eWW q2dWW l14) (i + n13) j)))], [], 0⟩ (an2 ob37 ob38) ?_
              refine blockQ_normal ?_
              exact joinQ_normal ((((l14.take n13) ++ [((f55z0 x1 n2).1, (f55z0 x1 n2).2)]) ++ (l14.drop n13))) (Le.trans (Le.mk (s' := ⟨84, (f55z6 x1 n2), [(70, q2bWW_30 (((l14.take n13) ++ [((f55z0 x1 n2).1, (f55z0 x1 n2).2)]) ++ (l14.drop n13)))], [], 0⟩) rfl rfl ⟨.refl _, .refl _, .refl _, trivial⟩ ⟨⟨_, rfl, (BLe.of (RL.app (RL.self _) RL.dropL))⟩, trivial⟩) (Le.trans (Le.trans (Le.ren (swapN 70 5003) (swapN_inv 70 5003) rfl) (Le.mk (s' := ⟨84, (f55z4 x1 n2), [(5003, q2bWW_30 (((l14.take n13) ++ [((f55z0 x1 n2).1, (f55z0 x1 n2).2)]) ++ (l14.drop n13)))], [], 0⟩) rfl rfl ⟨.refl _, .refl _, .refl _, trivial⟩ ⟨⟨_, rfl, .refl _⟩, trivial⟩)) (Le.mk rfl rfl ⟨.refl _, .refl _, .refl _, trivial⟩ ⟨⟨_, rfl, .refl _⟩, trivial⟩))) h
      ·
        rintro l9 h
        replace h := (congrFun hK2 _).symm.trans h
        obtain ⟨ob39p, h⟩ := chk_some h
        have ob39 : -9223372036854775808 ≤ ((n2 : Int) + (1 : Int)) ∧ ((n2 : Int) + (1 : Int)) ≤ 9223372036854775807 := ⟨by omega, ob39p⟩
        refine q2rr [] [] ⟨84, [(0, q2aWW x1), (3, .own 5003), (4, .i (((n2 + 1) : Nat) : Int))], [(5003, q2bWW_30 l9)], [], 0⟩ (an1 ob39) ?_
        rw [hC0] at h
        exact loopQ_normal (_, (n2 + 1), l9) (Le.mk rfl rfl ⟨.refl _, .refl _, .refl _, trivial⟩ ⟨⟨_, rfl, .refl _⟩, trivial⟩) h (Nat.lt_succ_self _)
    ·
      replace h := ite_fb hc1 h
      refine AWp.exit ?_
      refine thenQ_exit ?_
      refine thenQ_exit ?_
      refine blockQ_same ?_
      exact joinQ_normal (l3) (Le.mk rfl rfl ⟨.refl _, trivial⟩ ⟨⟨_, rfl, .refl _⟩, trivial⟩) h
  ·
    rintro l15 h
    replace h := (congrFun hK1 _).symm.trans h
    refine q2rq [] [] ⟨84, [(2, .own 5003)], [(5003, q2bWW_30 l15)], [], 0⟩ trivial ?_
    refine AWp.le (Le.trans (Le.ren (swapN 5003 3000) (swapN_inv 5003 3000) rfl) (Le.mk (s' := ⟨84, [(2, .own 3000)], [(3000, q2bWW_30 l15)], [], 0⟩) rfl rfl ⟨.refl _, trivial⟩ ⟨⟨_, rfl, .refl _⟩, trivial⟩)) ?_
    have hret := Option.some.inj h
    subst hret
    refine AWp.le (Le.mk (s' := ⟨84, [(2, .own 3000)], [(3000, q2bWW_30 l15)], [], 0⟩) rfl rfl ⟨.refl _, trivial⟩ ⟨⟨_, rfl, .refl _⟩, trivial⟩) ?_
    refine AWp.ret ?_
    exact bodyQ_ret _ rfl ⟨rfl, rfl⟩ rfl
def f39_L0 (x1 : List (BitVec 16 × BitVec 16)) (K1 : (List (BitVec 16 × BitVec 16)) → Option (List (BitVec 16))) : Nat → (Nat × (List (BitVec 16 × BitVec 16))) → Option (List (BitVec 16))
  | 0, _ => none
  | k + 1, (n2, l3) =>
    if (decide ((n2 : Int) < (((x1).length : Nat) : Int))) then (
    chk ((n2 : Int) < (((x1).length : Nat) : Int)) <|
    chk (((l3).length + 1) * 4 ≤ 140737488355328) <|
    chk (((n2 : Int) + (1 : Int)) ≤ 9223372036854775807) <|
    (f39_L0 x1 K1 k) ((n2 + 1), (l3 ++ [((x1.getD n2 (default : BitVec 16 × BitVec 16)).1, (BitVec.ofInt 16 0))]))
    ) else (
    K1 l3
    )
def f39_L1 (r5 : List (BitVec 16 × BitVec 16)) (K2 : (List (BitVec 16)) → Option (List (BitVec 16))) : Nat → (Nat × List (BitVec 16)) → Option (List (BitVec 16))
  | 0, _ => none
  | k + 1, (n6, l7) =>
    if (decide ((n6 : Int) < (((r5).length : Nat) : Int))) then (
    chk ((n6 : Int) < (((r5).length : Nat) : Int)) <|
    chk (n6 < (r5).length) <|
    chk (((l7).length + 1) * 2 ≤ 140737488355328) <|
    chk (((n6 : Int) + (1 : Int)) ≤ 9223372036854775807) <|
    (f39_L1 r5 K2 k) ((n6 + 1), (l7 ++ [(r5.getD n6 (default : BitVec 16 × BitVec 16)).1]))
    ) else (
    K2 l7
    )
abbrev f39z0 (l7 : List (BitVec 16)) (r5 : List (BitVec 16 × BitVec 16)) (n6 : Nat) : Heap := [(5005, bL 28 1 eW 0#16 (l7 ++ [(r5.getD n6 (default : BitVec 16 × BitVec 16)).1])), (6001, bL 30 2 eWW (default : BitVec 16 × BitVec 16) r5)]
abbrev f39z1 (r5 : List (BitVec 16 × BitVec 16)) : Heap := [(6001, bL 30 2 eWW (default : BitVec 16 × BitVec 16) r5)]
abbrev f39z2 (l3 : List (BitVec 16 × BitVec 16)) (x1 : List (BitVec 16 × BitVec 16)) (n2 : Nat) : Heap := [(5003, bL 30 2 eWW (default : BitVec 16 × BitVec 16) (l3 ++ [((x1.getD n2 (default : BitVec 16 × BitVec 16)).1, (BitVec.ofInt 16 0))]))]
abbrev f39z3 (x1 : List (BitVec 16 × BitVec 16)) (n2 : Nat) : List (Nat × V) := [(0, vL 2 eWW (default : BitVec 16 × BitVec 16) x1), (3, .own 5003), (4, .int .i64 (n2 : Int))]
abbrev f39z4 (n6 : Nat) : List (Nat × V) := [(3, .own 6001), (5, .own 5005), (6, .int .i64 (n6 : Int))]
def f39 (x1 : List (BitVec 16 × BitVec 16)) : Option (List (BitVec 16)) :=
  jn (fun (l4 : List (BitVec 16 × BitVec 16)) =>
  (f55 l4).bind fun (r5 : List (BitVec 16 × BitVec 16)) =>
  jn (fun (l8 : List (BitVec 16)) =>
  some l8
  ) fun (K2 : (List (BitVec 16)) → Option (List (BitVec 16))) =>
  f39_L1 r5 K2 FUEL (0, [])
  ) fun (K1 : (List (BitVec 16 × BitVec 16)) → Option (List (BitVec 16))) =>
  f39_L0 x1 K1 FUEL (0, [])
set_option maxRecDepth 100000 in
theorem f39_ok  (x1 : List (BitVec 16 × BitVec 16)) (r : List (BitVec 16)) (h : f39 x1 = some r)  : Spec1 Tryz.prog 39 [] [] [] [vL 2 eWW (default : BitVec 16 × BitVec 16) x1] (.own 3000) [(3000, bL 28 1 eW 0#16 r)] := by
  unfold f39 at h
  refine Spec1.body 0 _ _ Tryz.func39 rfl Tryz.ntmps39 rfl rfl ?_
  refine q2rq [] [] ⟨39, [(0, q2aWW x1)], [], [], 0⟩ trivial ?_
  refine q2rq [] [] ⟨39, [(0, q2aWW x1), (3, .nils)], [], [], 0⟩ trivial ?_
  obtain ⟨K1, hK1, h⟩ := jn_some h
  refine AWp.join (α := List (BitVec 16 × BitVec 16)) (fun (l4 : List (BitVec 16 × BitVec 16)) => ⟨39, [(3, .own 5003)], [(5003, q2bWW_30 l4)], [], 0⟩) (fun x => K1 x = some r) ?_ ?_
  ·
    refine q2rq [] [] ⟨39, [(0, q2aWW x1), (3, .nils), (4, .i (0 : Int))], [], [], 0⟩ trivial ?_
    refine AWp.block ?_
    refine AWp.loopL (α := Nat × (Nat × (List (BitVec 16 × BitVec 16)))) (fun x => match x with | (_, n2, l3) => ⟨39, (f39z3 x1 n2), [(5003, q2bWW_30 l3)], [], 0⟩) (fun x => f39_L0 x1 K1 x.1 x.2 = some r) (fun x => x.1) (FUEL, 0, []) (Le.trans (Le.trans (Le.nilOwn 3 5003 30 2 (encF eWW q2dWW []) rfl rfl (Nat.le_of_ble_eq_true rfl)) (Le.mk (s' := ⟨39, [(0, q2aWW x1), (3, .own 5003), (4, .i (0 : Int))], [(5003, q2bWW_30 [])], [], 0⟩) rfl rfl ⟨.refl _, .refl _, .refl _, trivial⟩ ⟨⟨_, rfl, .refl _⟩, trivial⟩)) (Le.mk (s' := ⟨39, [(0, q2aWW x1), (3, .own 5003), (4, .i (0 : Int))], [(5003, q2bWW_30 [])], [], 0⟩) rfl rfl ⟨.refl _, .refl _, .refl _, trivial⟩ ⟨⟨_, rfl, .refl _⟩, trivial⟩)) h ?_
    rintro ⟨k0, n2, l3⟩ h
    cases k0 with
    | zero => exact nomatch (show (none : Option (List (BitVec 16))) = some r from h)
    | succ k0 =>
    obtain ⟨C0, hC0⟩ : ∃ C, C = f39_L0 x1 K1 k0 := ⟨_, rfl⟩
    replace h := (f39_L0.eq_2 ..).symm.trans h
    try rw [← hC0] at h
    refine AWp.seq ?_
    refine q2rq [] [] ⟨39, [(0, q2aWW x1), (3, .own 5003), (4, .i (n2 : Int)), (10, .bool (decide ((n2 : Int) < (lZ x1))))], [(5003, q2bWW_30 l3)], [], 0⟩ trivial ?_
    refine AWp.cond (b := (decide ((n2 : Int) < (lZ x1)))) (by kernel_rfl) (fun hc1 => ?_) (fun hc1 => ?_)
    ·
      replace h := ite_tb hc1 h
      refine AWp.skip ?_
      refine thenQ_normal ?_
      refine AWp.seq ?_
      refine AWp.block ?_
      obtain ⟨ob0p, h⟩ := chk_some h
      have ob0 : 0 ≤ (n2 : Int) ∧ (n2 : Int) < (((x1).length : Nat) : Int) := ⟨by omega, ob0p⟩
      obtain ⟨ob1, h⟩ := chk_some h
      refine q2rr [] [] ⟨39, (f39z3 x1 n2), [(5003, .rows 30 2 ((l3).length + 1) (appF (l3).length (encF eWW q2dWW l3) (lstF 2 [.b16 (x1.getD n2 q2dWW).1, .b16 (q2w16 0)])))], [], 0⟩ (an2 ob0 ob1) ?_
      refine blockQ_normal ?_
      refine thenQ_normal ?_
      refine AWp.le (Le.mk (s' := ⟨39, (f39z3 x1 n2), (f39z2 l3 x1 n2), [], 0⟩) rfl rfl ⟨.refl _, .refl _, .refl _, trivial⟩ ⟨⟨_, rfl, (BLe.of (RL.app (RL.self _) (RL.lst (enc := eWW) [((x1.getD n2 q2dWW).1, (q2w16 0))] rfl rfl (fun _ => rfl))))⟩, trivial⟩) ?_
      obtain ⟨ob2p, h⟩ := chk_some h
      have ob2 : -9223372036854775808 ≤ ((n2 : Int) + (1 : Int)) ∧ ((n2 : Int) + (1 : Int)) ≤ 9223372036854775807 := ⟨by omega, ob2p⟩
      refine q2rr [] [] ⟨39, [(0, q2aWW x1), (3, .own 5003), (4, .i (((n2 + 1) : Nat) : Int))], (f39z2 l3 x1 n2), [], 0⟩ (an1 ob2) ?_
      rw [hC0] at h
      exact loopQ_normal (_, (n2 + 1), (l3 ++ [((x1.getD n2 q2dWW).1, (q2w16 0))])) (Le.mk rfl rfl ⟨.refl _, .refl _, .refl _, trivial⟩ ⟨⟨_, rfl, .refl _⟩, trivial⟩) h (Nat.lt_succ_self _)
    ·
      replace h := ite_fb hc1 h
      refine AWp.exit ?_
      refine thenQ_exit ?_
      refine thenQ_exit ?_
      refine blockQ_same ?_
      exact joinQ_normal (l3) (Le.mk rfl rfl ⟨.refl _, trivial⟩ ⟨⟨_, rfl, .refl _⟩, trivial⟩) h
  ·
    rintro l4 h
    replace h := (congrFun hK1 _).symm.trans h
    refine AWp.seq ?_
    obtain ⟨r5, hr5, h⟩ := bind_ok h
    refine q2rr [] [(1, ⟨[q2aWW l4], [], [], (f39z1 r5), .own 6001, [6001], [5003], []⟩)] ⟨39, [(3, .own 6001)], (f39z1 r5), [], 0⟩ (an1 (cpL (c := true) [(5003, q2bWW_30 l4)] [5003] [.own 5003] (fun _ => (Spec1.ren (swapN 3000 6001) (swapN_inv 3000 6001) rfl (f55_ok _ _ hr5))) (fun _ => ⟨.refl _, trivial⟩) (.inr ⟨rfl, ⟨(fun _ _ _ _ => eWW_flat _ _), trivial⟩⟩))) ?_
    refine thenQ_normal ?_
    refine q2rq [] [] ⟨39, [(3, .own 6001), (5, .nils)], (f39z1 r5), [], 0⟩ trivial ?_
    obtain ⟨K2, hK2, h⟩ := jn_some h
    refine AWp.join (α := List (BitVec 16)) (fun (l8 : List (BitVec 16)) => ⟨39, [(5, .own 5005)], [(5005, q2bW_28 l8)], [], 0⟩) (fun x => K2 x = some r) ?_ ?_
    ·
      refine q2rq [] [] ⟨39, [(3, .own 6001), (5, .nils), (6, .i (0 : Int))], (f39z1 r5), [], 0⟩ trivial ?_
      refine AWp.block ?_
      refine AWp.loopL (α := Nat × (Nat × List (BitVec 16))) (fun x => match x with | (_, n6, l7) => ⟨39, (f39z4 n6), [(5005, q2bW_28 l7), (6001, q2bWW_30 r5)], [], 0⟩) (fun x => f39_L1 r5 K2 x.1 x.2 = some r) (fun x => x.1) (FUEL, 0, []) (Le.trans (Le.trans (Le.nilOwn 5 5005 28 1 (encF eW 0#16 []) rfl rfl (Nat.le_of_ble_eq_true rfl)) (Le.mk (s' := ⟨39, [(3, .own 6001), (5, .own 5005), (6, .i (0 : Int))], [(6001, q2bWW_30 r5), (5005, q2bW_28 [])], [], 0⟩) rfl rfl ⟨.refl _, .refl _, .refl _, trivial⟩ ⟨⟨_, rfl, .refl _⟩, ⟨_, rfl, .refl _⟩, trivial⟩)) (Le.mk (s' := ⟨39, [(3, .own 6001), (5, .own 5005), (6, .i (0 : Int))], [(5005, q2bW_28 []), (6001, q2bWW_30 r5)], [], 0⟩) rfl rfl ⟨.refl _, .refl _, .refl _, trivial⟩ ⟨⟨_, rfl, .refl _⟩, ⟨_, rfl, .refl _⟩, trivial⟩)) h ?_
      rintro ⟨k1, n6, l7⟩ h
      cases k1 with
      | zero => exact nomatch (show (none : Option (List (BitVec 16))) = some r from h)
      | succ k1 =>
      obtain ⟨C1, hC1⟩ : ∃ C, C = f39_L1 r5 K2 k1 := ⟨_, rfl⟩
      replace h := (f39_L1.eq_2 ..).symm.trans h
      try rw [← hC1] at h
      refine AWp.seq ?_
      refine q2rq [] [] ⟨39, [(3, .own 6001), (5, .own 5005), (6, .i (n6 : Int)), (27, .bool (decide ((n6 : Int) < (lZ r5))))], [(5005, q2bW_28 l7), (6001, q2bWW_30 r5)], [], 0⟩ trivial ?_
      refine AWp.cond (b := (decide ((n6 : Int) < (lZ r5)))) (by kernel_rfl) (fun hc2 => ?_) (fun hc2 => ?_)
      ·
        replace h := ite_tb hc2 h
        refine AWp.skip ?_
        refine thenQ_normal ?_
        refine AWp.seq ?_
        refine AWp.block ?_
        obtain ⟨ob3p, h⟩ := chk_some h
        have ob3 : 0 ≤ (n6 : Int) ∧ (n6 : Int) < (((r5).length : Nat) : Int) := ⟨by omega, ob3p⟩
        obtain ⟨ob4, ob5, h⟩ := ck2 h
        refine q2rr [] [] ⟨39, (f39z4 n6), [(5005, .rows 28 1 ((l7).length + 1) (appF (l7).length (encF eW 0#16 l7) (lstF 1 [.b16 (r5.getD n6 q2dWW).1]))), (6001, q2bWW_30 r5)], [], 0⟩ (an3 ob3 ob4 ob5) ?_
        refine blockQ_normal ?_
        refine thenQ_normal ?_
        refine AWp.le (Le.mk (s' := ⟨39, (f39z4 n6), (f39z0 l7 r5 n6), [], 0⟩) rfl rfl ⟨.refl _, .refl _, .refl _, trivial⟩ ⟨⟨_, rfl, (BLe.of (RL.app (RL.self _) (RL.lst (enc := eW) [(r5.getD n6 q2dWW).1] rfl rfl (fun _ => rfl))))⟩, ⟨_, rfl, .refl _⟩, trivial⟩) ?_
        obtain ⟨ob6p, h⟩ := chk_some h
        have ob6 : -9223372036854775808 ≤ ((n6 : Int) + (1 : Int)) ∧ ((n6 : Int) + (1 : Int)) ≤ 9223372036854775807 := ⟨by omega, ob6p⟩
        refine q2rr [] [] ⟨39, [(3, .own 6001), (5, .own 5005), (6, .i (((n6 + 1) : Nat) : Int))], (f39z0 l7 r5 n6), [], 0⟩ (an1 ob6) ?_
        rw [hC1] at h
        exact loopQ_normal (_, (n6 + 1), (l7 ++ [(r5.getD n6 q2dWW).1])) (Le.mk rfl rfl ⟨.refl _, .refl _, .refl _, trivial⟩ ⟨⟨_, rfl, .refl _⟩, ⟨_, rfl, .refl _⟩, trivial⟩) h (Nat.lt_succ_self _)
      ·
        replace h := ite_fb hc2 h
        refine AWp.exit ?_
        refine thenQ_exit ?_
        refine thenQ_exit ?_
        refine blockQ_same ?_
        exact joinQ_normal (l7) (Le.mk rfl rfl ⟨.refl _, trivial⟩ ⟨⟨_, rfl, .refl _⟩, trivial⟩) h
    ·
      rintro l8 h
      replace h := (congrFun hK2 _).symm.trans h
      refine q2rq [] [] ⟨39, [(2, .own 5005)], [(5005, q2bW_28 l8)], [], 0⟩ trivial ?_
      refine AWp.le (Le.trans (Le.ren (swapN 5005 3000) (swapN_inv 5005 3000) rfl) (Le.mk (s' := ⟨39, [(2, .own 3000)], [(3000, q2bW_28 l8)], [], 0⟩) rfl rfl ⟨.refl _, trivial⟩ ⟨⟨_, rfl, .refl _⟩, trivial⟩)) ?_
      have hret := Option.some.inj h
      subst hret
      refine AWp.le (Le.mk (s' := ⟨39, [(2, .own 3000)], [(3000, q2bW_28 l8)], [], 0⟩) rfl rfl ⟨.refl _, trivial⟩ ⟨⟨_, rfl, .refl _⟩, trivial⟩) ?_
      refine AWp.ret ?_
      exact bodyQ_ret _ rfl ⟨rfl, rfl⟩ rfl
def f44 (x1 : BitVec 16) (x2 : BitVec 16) : Option Int :=
  (f23 x1 x2).bind fun (r3 : BitVec 16) =>
  if (decide (r3.toNat ≥ (BitVec.ofInt 16 4096).toNat)) then (
  some (7 : Int)
  ) else (
  if (!((x1 &&& x2) == (BitVec.ofInt 16 0))) then (
  some (1 : Int)
  ) else (
  some (0 : Int)
  )
  )
set_option maxRecDepth 100000 in
theorem f44_ok  (x1 : BitVec 16) (x2 : BitVec 16) (r : Int) (h : f44 x1 x2 = some r)  : Spec1 Tryz.prog 44 [] [] [] [.agg [.b16 x1, .b16 x2]] (.int .i64 r) [] := by
  unfold f44 at h
  refine Spec1.body 0 _ _ Tryz.func44 rfl Tryz.ntmps44 rfl rfl ?_
  refine q2rq [] [] ⟨12, [(1, .ptr 1 0)], [(1, .cells 30 [.b16 x1, .b16 x2])], [], 0⟩ trivial ?_
  refine AWp.seq ?_
  refine AWp.seq ?_
  obtain ⟨r3, hr3, h⟩ := bind_ok h
  refine q2rr [] [(1, ⟨[.agg [.b16 x1, .b16 x2]], [], [], [], .b16 r3, [], [], []⟩)] ⟨12, [(1, .ptr 1 0), (5, .bool (decide (r3.toNat ≥ (q2w16 4096).toNat)))], [(1, .cells 30 [.b16 x1, .b16 x2])], [], 0⟩ (an1 (cpT (f23_ok _ _ _ hr3))) ?_
  refine thenQ_normal ?_
  refine AWp.cond (b := (decide (r3.toNat ≥ (q2w16 4096).toNat))) (by kernel_rfl) (fun hc1 => ?_) (fun hc1 => ?_)
  ·
    replace h := ite_tb hc1 h
    refine q2rq [] [] ⟨12, [(2, .i (7 : Int))], [], [], 0⟩ trivial ?_
    have hret := Option.some.inj h
    subst hret
    refine AWp.le (Le.mk (s' := ⟨12, [(2, .i (7 : Int))], [], [], 0⟩) rfl rfl ⟨.refl _, trivial⟩ trivial) ?_
    refine AWp.ret ?_
    refine thenQ_ret ?_
    exact bodyQ_ret _ rfl ⟨rfl, rfl⟩ rfl
  ·
    replace h := ite_fb hc1 h
    refine AWp.skip ?_
    refine thenQ_normal ?_
    refine AWp.seq ?_
    refine q2rq [] [] ⟨12, [(11, .bool (!((x1 &&& x2) == (q2w16 0))))], [], [], 0⟩ trivial ?_
    refine AWp.cond (b := (!((x1 &&& x2) == (q2w16 0)))) (by kernel_rfl) (fun hc2 => ?_) (fun hc2 => ?_)
    ·
      replace h := ite_tb hc2 h
      refine q2rq [] [] ⟨12, [(2, .i (1 : Int))], [], [], 0⟩ trivial ?_
      have hret := Option.some.inj h
      subst hret
      refine AWp.le (Le.mk (s' := ⟨12, [(2, .i (1 : Int))], [], [], 0⟩) rfl rfl ⟨.refl _, trivial⟩ trivial) ?_
      refine AWp.ret ?_
      refine thenQ_ret ?_
      exact bodyQ_ret _ rfl ⟨rfl, rfl⟩ rfl
    ·
      replace h := ite_fb hc2 h
      refine AWp.skip ?_
      refine thenQ_normal ?_
      refine q2rq [] [] ⟨12, [(2, .i (0 : Int))], [], [], 0⟩ trivial ?_
      have hret := Option.some.inj h
      subst hret
      refine AWp.le (Le.mk (s' := ⟨12, [(2, .i (0 : Int))], [], [], 0⟩) rfl rfl ⟨.refl _, trivial⟩ trivial) ?_
      refine AWp.ret ?_
      exact bodyQ_ret _ rfl ⟨rfl, rfl⟩ rfl
def f15_L1 (x1 : List (BitVec 16 × BitVec 16)) (n2 : Nat) (K2 : Unit → Option Int) : Nat → Nat → Option Int
  | 0, _ => none
  | k + 1, n4 =>
    if (decide ((n4 : Int) < (n2 : Int))) then (
    (f17 ((x1.getD n2 (default : BitVec 16 × BitVec 16)).1) ((x1.getD n2 (default : BitVec 16 × BitVec 16)).2) ((x1.getD n4 (default : BitVec 16 × BitVec 16)).1) ((x1.getD n4 (default : BitVec 16 × BitVec 16)).2)).bind fun (r5 : Bool) =>
    optc (r5 == false) (f17 ((x1.getD n4 (default : BitVec 16 × BitVec 16)).1) ((x1.getD n4 (default : BitVec 16 × BitVec 16)).2) ((x1.getD n2 (default : BitVec 16 × BitVec 16)).1) ((x1.getD n2 (default : BitVec 16 × BitVec 16)).2)) fun (r6 : Bool) =>
    chk ((n2 : Int) < (((x1).length : Nat) : Int)) <|
    chk ((n4 : Int) < (((x1).length : Nat) : Int)) <|
    chk ((r5 == false) = true → 0 ≤ (n4 : Int) ∧ (n4 : Int) < (((x1).length : Nat) : Int)) <|
    chk ((r5 == false) = true → 0 ≤ (n2 : Int) ∧ (n2 : Int) < (((x1).length : Nat) : Int)) <|
    if (r5 || r6) then (
    some (5 : Int)
    ) else (
    chk (((n4 : Int) + (1 : Int)) ≤ 9223372036854775807) <|
    (f15_L1 x1 n2 K2 k) (n4 + 1)
    )
    ) else (
    K2 ()
    )
def f15_L0 (x1 : List (BitVec 16 × BitVec 16)) (K1 : Unit → Option Int) : Nat → Nat → Option Int
  | 0, _ => none
  | k + 1, n2 =>
    if (decide ((n2 : Int) < (((x1).length : Nat) : Int))) then (
    (f44 ((x1.getD n2 (default : BitVec 16 × BitVec 16)).1) ((x1.getD n2 (default : BitVec 16 × BitVec 16)).2)).bind fun (r3 : Int) =>
    chk ((n2 : Int) < (((x1).length : Nat) : Int)) <|
    if (r3 != (0 : Int)) then (
    some r3
    ) else (
    jn (fun (_ : Unit) =>
    optc ((decide ((n2 : Int) > (0 : Int))) == true) (f45 ((x1.getD ((((n2 : Int) - (1 : Int))).toNat) (default : BitVec 16 × BitVec 16)).1) ((x1.getD ((((n2 : Int) - (1 : Int))).toNat) (default : BitVec 16 × BitVec 16)).2) ((x1.getD n2 (default : BitVec 16 × BitVec 16)).1) ((x1.getD n2 (default : BitVec 16 × BitVec 16)).2)) fun (r7 : Int) =>
    chk (((decide ((n2 : Int) > (0 : Int))) == true) = true → -9223372036854775808 ≤ ((n2 : Int) - (1 : Int)) ∧ ((n2 : Int) - (1 : Int)) ≤ 9223372036854775807) <|
    chk (((decide ((n2 : Int) > (0 : Int))) == true) = true → 0 ≤ ((n2 : Int) - (1 : Int)) ∧ ((n2 : Int) - (1 : Int)) < (((x1).length : Nat) : Int)) <|
    chk (((decide ((n2 : Int) > (0 : Int))) == true) = true → 0 ≤ (n2 : Int) ∧ (n2 : Int) < (((x1).length : Nat) : Int)) <|
    if ((decide ((n2 : Int) > (0 : Int))) && (decide (r7 ≥ (0 : Int)))) then (
    some (1 : Int)
    ) else (
    chk (((n2 : Int) + (1 : Int)) ≤ 9223372036854775807) <|
    (f15_L0 x1 K1 k) (n2 + 1)
    )
    ) fun (K2 : Unit → Option Int) =>
    f15_L1 x1 n2 K2 FUEL 0
    )
    ) else (
    K1 ()
    )
abbrev f15z0 (n2 : Nat) := ((decide ((n2 : Int) > (0 : Int))) == true)
abbrev f15z1 (x1 : List (BitVec 16 × BitVec 16)) (n2 : Nat) : List V := [.b16 (x1.getD n2 (default : BitVec 16 × BitVec 16)).1, .b16 (x1.getD n2 (default : BitVec 16 × BitVec 16)).2]
abbrev f15z2 (x1 : List (BitVec 16 × BitVec 16)) (n2 : Nat) : List (Nat × V) := [(0, vL 2 eWW (default : BitVec 16 × BitVec 16) x1), (3, .int .i64 (n2 : Int))]
def f15 (x1 : List (BitVec 16 × BitVec 16)) : Option Int :=
  if ((((x1).length : Nat) : Int) == (0 : Int)) then (
  some (9 : Int)
  ) else (
  if (decide ((((x1).length : Nat) : Int) > (100 : Int))) then (
  some (3 : Int)
  ) else (
  jn (fun (_ : Unit) =>
  some (0 : Int)
  ) fun (K1 : Unit → Option Int) =>
  f15_L0 x1 K1 FUEL 0
  )
  )
set_option maxRecDepth 100000 in
theorem f15_ok  (x1 : List (BitVec 16 × BitVec 16)) (r : Int) (h : f15 x1 = some r)  : Spec1 Tryz.prog 15 [] [] [] [vL 2 eWW (default : BitVec 16 × BitVec 16) x1] (.int .i64 r) [] := by
  unfold f15 at h
  refine Spec1.body 0 _ _ Tryz.func15 rfl Tryz.ntmps15 rfl rfl ?_
  refine q2rq [] [] ⟨66, [(0, q2aWW x1)], [], [], 0⟩ trivial ?_
  refine AWp.seq ?_
  refine q2rq [] [] ⟨66, [(0, q2aWW x1), (8, .bool ((lZ x1) == (0 : Int)))], [], [], 0⟩ trivial ?_
  refine AWp.cond (b := ((lZ x1) == (0 : Int))) (by kernel_rfl) (fun hc1 => ?_) (fun hc1 => ?_)
  ·
    replace h := ite_tb hc1 h
    refine q2rq [] [] ⟨66, [(2, .i (9 : Int))], [], [], 0⟩ trivial ?_
    have hret := Option.some.inj h
    subst hret
    refine AWp.le (Le.mk (s' := ⟨66, [(2, .i (9 : Int))], [], [], 0⟩) rfl rfl ⟨.refl _, trivial⟩ trivial) ?_
    refine AWp.ret ?_
    refine thenQ_ret ?_
    exact bodyQ_ret _ rfl ⟨rfl, rfl⟩ rfl
  ·
    replace h := ite_fb hc1 h
    refine AWp.skip ?_
    refine thenQ_normal ?_
    refine AWp.seq ?_
    refine q2rq [] [] ⟨66, [(0, q2aWW x1), (11, .bool (decide ((lZ x1) > (100 : Int))))], [], [], 0⟩ trivial ?_
    refine AWp.cond (b := (decide ((lZ x1) > (100 : Int)))) (by kernel_rfl) (fun hc2 => ?_) (fun hc2 => ?_)
    ·
      replace h := ite_tb hc2 h
      refine q2rq [] [] ⟨66, [(2, .i (3 : Int))], [], [], 0⟩ trivial ?_
      have hret := Option.some.inj h
      subst hret
      refine AWp.le (Le.mk (s' := ⟨66, [(2, .i (3 : Int))], [], [], 0⟩) rfl rfl ⟨.refl _, trivial⟩ trivial) ?_
      refine AWp.ret ?_
      refine thenQ_ret ?_
      exact bodyQ_ret _ rfl ⟨rfl, rfl⟩ rfl
    ·
      replace h := ite_fb hc2 h
      refine AWp.skip ?_
      refine thenQ_normal ?_
      obtain ⟨K1, hK1, h⟩ := jn_some h
      refine AWp.join (α := Unit) (fun (x : Unit) => match x with | () => ⟨66, [], [], [], 0⟩) (fun x => K1 x = some r) ?_ ?_
      ·
        refine q2rq [] [] ⟨66, [(0, q2aWW x1), (3, .i (0 : Int))], [], [], 0⟩ trivial ?_
        refine AWp.block ?_
        refine AWp.loopL (α := Nat × Nat) (fun x => match x with | (_, n2) => ⟨66, (f15z2 x1 n2), [], [], 0⟩) (fun x => f15_L0 x1 K1 x.1 x.2 = some r) (fun x => x.1) (FUEL, 0) (Le.mk (s' := ⟨66, [(0, q2aWW x1), (3, .i (0 : Int))], [], [], 0⟩) rfl rfl ⟨.refl _, .refl _, trivial⟩ trivial) h ?_
        rintro ⟨k0, n2⟩ h
        cases k0 with
        | zero => exact nomatch (show (none : Option Int) = some r from h)
        | succ k0 =>
        obtain ⟨C0, hC0⟩ : ∃ C, C = f15_L0 x1 K1 k0 := ⟨_, rfl⟩
        replace h := (f15_L0.eq_2 ..).symm.trans h
        try rw [← hC0] at h
        refine AWp.seq ?_
        refine q2rq [] [] ⟨66, [(0, q2aWW x1), (3, .i (n2 : Int)), (15, .bool (decide ((n2 : Int) < (lZ x1))))], [], [], 0⟩ trivial ?_
        refine AWp.cond (b := (decide ((n2 : Int) < (lZ x1)))) (by kernel_rfl) (fun hc3 => ?_) (fun hc3 => ?_)
        ·
          replace h := ite_tb hc3 h
          refine AWp.skip ?_
          refine thenQ_normal ?_
          refine AWp.seq ?_
          refine AWp.block ?_
          refine AWp.seq ?_
          refine AWp.seq ?_
          obtain ⟨r3, hr3, h⟩ := bind_ok h
          obtain ⟨ob0p, h⟩ := chk_some h
          have ob0 : 0 ≤ (n2 : Int) ∧ (n2 : Int) < (((x1).length : Nat) : Int) := ⟨by omega, ob0p⟩
          refine q2rr [] [(4, ⟨[.agg (f15z1 x1 n2)], [], [], [], .i r3, [], [], []⟩)] ⟨66, [(0, q2aWW x1), (3, .i (n2 : Int)), (4, .i r3)], [], [], 0⟩ (an2 ob0 (cpT (f44_ok _ _ _ hr3))) ?_
          refine thenQ_normal ?_
          refine q2rq [] [] ⟨66, [(0, q2aWW x1), (3, .i (n2 : Int)), (4, .i r3), (24, .bool (r3 != (0 : Int)))], [], [], 0⟩ trivial ?_
          refine AWp.cond (b := (r3 != (0 : Int))) (by kernel_rfl) (fun hc4 => ?_) (fun hc4 => ?_)
          ·
            replace h := ite_tb hc4 h
            refine q2rq [] [] ⟨66, [(2, .i r3)], [], [], 0⟩ trivial ?_
            have hret := Option.some.inj h
            subst hret
            refine AWp.le (Le.mk (s' := ⟨66, [(2, .i r3)], [], [], 0⟩) rfl rfl ⟨.refl _, trivial⟩ trivial) ?_
            refine AWp.ret ?_
            refine thenQ_ret ?_
            refine blockQ_ret ?_
            refine thenQ_ret ?_
            refine thenQ_ret ?_
            refine blockQ_ret ?_
            refine joinQ_ret ?_
            exact bodyQ_ret _ rfl ⟨rfl, rfl⟩ rfl
          ·
            replace h := ite_fb hc4 h
            refine AWp.skip ?_
            refine thenQ_normal ?_
            obtain ⟨K2, hK2, h⟩ := jn_some h
            refine AWp.join (α := Unit) (fun (x : Unit) => match x with | () => ⟨66, (f15z2 x1 n2), [], [], 0⟩) (fun x => K2 x = some r) ?_ ?_
            ·
              refine q2rq [] [] ⟨66, [(0, q2aWW x1), (3, .i (n2 : Int)), (5, .i (0 : Int))], [], [], 0⟩ trivial ?_
              refine AWp.block ?_
              refine AWp.loopL (α := Nat × Nat) (fun x => match x with | (_, n4) => ⟨66, [(0, q2aWW x1), (3, .i (n2 : Int)), (5, .i (n4 : Int))], [], [], 0⟩) (fun x => f15_L1 x1 n2 K2 x.1 x.2 = some r) (fun x => x.1) (FUEL, 0) (Le.mk (s' := ⟨66, [(0, q2aWW x1), (3, .i (n2 : Int)), (5, .i (0 : Int))], [], [], 0⟩) rfl rfl ⟨.refl _, .refl _, .refl _, trivial⟩ trivial) h ?_
              rintro ⟨k1, n4⟩ h
              cases k1 with
              | zero => exact nomatch (show (none : Option Int) = some r from h)
              | succ k1 =>
              obtain ⟨C1, hC1⟩ : ∃ C, C = f15_L1 x1 n2 K2 k1 := ⟨_, rfl⟩
              replace h := (f15_L1.eq_2 ..).symm.trans h
              try rw [← hC1] at h
              refine AWp.seq ?_
              refine q2rq [] [] ⟨66, [(0, q2aWW x1), (3, .i (n2 : Int)), (5, .i (n4 : Int)), (28, .bool (decide ((n4 : Int) < (n2 : Int))))], [], [], 0⟩ trivial ?_
              refine AWp.cond (b := (decide ((n4 : Int) < (n2 : Int)))) (by kernel_rfl) (fun hc5 => ?_) (fun hc5 => ?_)
              ·
                replace h := ite_tb hc5 h
                refine AWp.skip ?_
                refine thenQ_normal ?_
                refine AWp.seq ?_
                refine AWp.block ?_
                refine AWp.seq ?_
                obtain ⟨r5, hr5, h⟩ := bind_ok h
                obtain ⟨r6, hr6, h⟩ := optc_some h
                obtain ⟨ob1p, h⟩ := chk_some h
                have ob1 : 0 ≤ (n2 : Int) ∧ (n2 : Int) < (((x1).length : Nat) : Int) := ⟨by omega, ob1p⟩
                obtain ⟨ob2p, h⟩ := chk_some h
                have ob2 : 0 ≤ (n4 : Int) ∧ (n4 : Int) < (((x1).length : Nat) : Int) := ⟨by omega, ob2p⟩
                obtain ⟨ob3, h⟩ := chk_some h
                have ob4 := idA ((r5 == false) = true)
                have ob5 := idA ((r5 == false) = true)
                have ob6 := idA ((r5 == false) = true)
                obtain ⟨ob7, h⟩ := chk_some h
                have ob8 := idA ((r5 == false) = true)
                have ob9 := idA ((r5 == false) = true)
                have ob10 := idA ((r5 == false) = true)
                have ob11 := idA ((r5 == false) = true)
                have ob12 := idA ((r5 == false) = true)
                have ob13 := bqA r5 false
                refine q2rr [] [(8, ⟨[.agg (f15z1 x1 n2), .agg [.b16 (x1.getD n4 q2dWW).1, .b16 (x1.getD n4 q2dWW).2]], [], [], [], .bool r5, [], [], []⟩), (18, ⟨[.agg [.b16 (x1.getD n4 q2dWW).1, .b16 (x1.getD n4 q2dWW).2], .agg (f15z1 x1 n2)], [], [], [], .bool r6, [], [], []⟩)] ⟨66, [(0, q2aWW x1), (3, .i (n2 : Int)), (5, .i (n4 : Int)), (50, .bool (r5 || r6))], [], [], 0⟩ (ac6 ob1 ob2 (cpT (f17_ok _ _ _ _ _ hr5)) (And.intro ob3 (an2 ob4 ob5)) (an1 ob6) (And.intro ob7 (an2 ob8 ob9)) (an3 (an1 ob10) (And.intro (cpC fun hc => (f17_ok _ _ _ _ _ (hr6 hc))) (an2 ob11 ob12)) ob13)) ?_
                refine thenQ_normal ?_
                refine AWp.cond (b := (r5 || r6)) (by kernel_rfl) (fun hc6 => ?_) (fun hc6 => ?_)
                ·
                  replace h := ite_tb hc6 h
                  refine q2rq [] [] ⟨66, [(2, .i (5 : Int))], [], [], 0⟩ trivial ?_
                  have hret := Option.some.inj h
                  subst hret
                  refine AWp.le (Le.mk (s' := ⟨66, [(2, .i (5 : Int))], [], [], 0⟩) rfl rfl ⟨.refl _, trivial⟩ trivial) ?_
                  refine AWp.ret ?_
                  refine blockQ_ret ?_
                  refine thenQ_ret ?_
                  refine thenQ_ret ?_
                  refine blockQ_ret ?_
                  refine joinQ_ret ?_
                  refine blockQ_ret ?_
                  refine thenQ_ret ?_
                  refine thenQ_ret ?_
                  refine blockQ_ret ?_
                  refine joinQ_ret ?_
                  exact bodyQ_ret _ rfl ⟨rfl, rfl⟩ rfl
                ·
                  replace h := ite_fb hc6 h
                  refine AWp.skip ?_
                  refine blockQ_normal ?_
                  refine thenQ_normal ?_
                  obtain ⟨ob14p, h⟩ := chk_some h
                  have ob14 : -9223372036854775808 ≤ ((n4 : Int) + (1 : Int)) ∧ ((n4 : Int) + (1 : Int)) ≤ 9223372036854775807 := ⟨by omega, ob14p⟩
                  refine q2rr [] [] ⟨66, [(0, q2aWW x1), (3, .i (n2 : Int)), (5, .i (((n4 + 1) : Nat) : Int))], [], [], 0⟩ (an1 ob14) ?_
                  rw [hC1] at h
                  exact loopQ_normal (_, (n4 + 1)) (Le.mk rfl rfl ⟨.refl _, .refl _, .refl _, trivial⟩ trivial) h (Nat.lt_succ_self _)
              ·
                replace h := ite_fb hc5 h
                refine AWp.exit ?_
                refine thenQ_exit ?_
                refine thenQ_exit ?_
                refine blockQ_same ?_
                exact joinQ_normal () (Le.mk rfl rfl ⟨.refl _, .refl _, trivial⟩ trivial) h
            ·
              rintro ⟨⟩ h
              replace h := (congrFun hK2 _).symm.trans h
              refine AWp.seq ?_
              obtain ⟨r7, hr7, h⟩ := optc_some h
              obtain ⟨ob15, h⟩ := chk_some h
              have ob16 := idA ((f15z0 n2) = true)
              obtain ⟨ob17, h⟩ := chk_some h
              have ob18 := idA ((f15z0 n2) = true)
              have ob19 := idA ((f15z0 n2) = true)
              have ob20 := idA ((f15z0 n2) = true)
              obtain ⟨ob21, h⟩ := chk_some h
              have ob22 := idA ((f15z0 n2) = true)
              have ob23 := idA ((f15z0 n2) = true)
              have ob24 := idA ((f15z0 n2) = true)
              have ob25 := idA ((f15z0 n2) = true)
              have ob26 := idA ((f15z0 n2) = true)
              have ob27 := idA ((f15z0 n2) = true)
              have ob28 : true = true → (decide ((n2 : Int) > (0 : Int))) = true → (f15z0 n2) = true := fun _ h => beq_iff_eq.2 h
              refine q2rr [] [(12, ⟨[.agg [.b16 (x1.getD ((((n2 : Int) - (1 : Int))).toNat) q2dWW).1, .b16 (x1.getD ((((n2 : Int) - (1 : Int))).toNat) q2dWW).2], .agg (f15z1 x1 n2)], [], [], [], .i r7, [], [], []⟩)] ⟨66, [(0, q2aWW x1), (3, .i (n2 : Int)), (65, .bool ((decide ((n2 : Int) > (0 : Int))) && (decide (r7 ≥ (0 : Int)))))], [], [], 0⟩ (ac6 (And.intro ob15 (an1 ob16)) (And.intro ob17 (an2 ob18 ob19)) (an1 ob20) (And.intro ob21 (an2 ob22 ob23)) (an1 ob24) (And.intro (cpC fun hc => (f45_ok _ _ _ _ _ (hr7 hc))) (an2 ob25 ob26)) (an2 (an1 ob27) ob28)) ?_
              refine thenQ_normal ?_
              refine AWp.cond (b := ((decide ((n2 : Int) > (0 : Int))) && (decide (r7 ≥ (0 : Int))))) (by kernel_rfl) (fun hc7 => ?_) (fun hc7 => ?_)
              ·
                replace h := ite_tb hc7 h
                refine q2rq [] [] ⟨66, [(2, .i (1 : Int))], [], [], 0⟩ trivial ?_
                have hret := Option.some.inj h
                subst hret
                refine AWp.le (Le.mk (s' := ⟨66, [(2, .i (1 : Int))], [], [], 0⟩) rfl rfl ⟨.refl _, trivial⟩ trivial) ?_
                refine AWp.ret ?_
                refine blockQ_ret ?_
                refine thenQ_ret ?_
                refine thenQ_ret ?_
                refine blockQ_ret ?_
                refine joinQ_ret ?_
                exact bodyQ_ret _ rfl ⟨rfl, rfl⟩ rfl
              ·
                replace h := ite_fb hc7 h
                refine AWp.skip ?_
                refine blockQ_normal ?_
                refine thenQ_normal ?_
                obtain ⟨ob29p, h⟩ := chk_some h
                have ob29 : -9223372036854775808 ≤ ((n2 : Int) + (1 : Int)) ∧ ((n2 : Int) + (1 : Int)) ≤ 9223372036854775807 := ⟨by omega, ob29p⟩
                refine q2rr [] [] ⟨66, [(0, q2aWW x1), (3, .i (((n2 + 1) : Nat) : Int))], [], [], 0⟩ (an1 ob29) ?_
                rw [hC0] at h
                exact loopQ_normal (_, (n2 + 1)) (Le.mk rfl rfl ⟨.refl _, .refl _, trivial⟩ trivial) h (Nat.lt_succ_self _)
        ·
          replace h := ite_fb hc3 h
          refine AWp.exit ?_
          refine thenQ_exit ?_
          refine thenQ_exit ?_
          refine blockQ_same ?_
          exact joinQ_normal () (Le.mk rfl rfl trivial trivial) h
      ·
        rintro ⟨⟩ h
        replace h := (congrFun hK1 _).symm.trans h
        refine q2rq [] [] ⟨66, [(2, .i (0 : Int))], [], [], 0⟩ trivial ?_
        have hret := Option.some.inj h
        subst hret
        refine AWp.le (Le.mk (s' := ⟨66, [(2, .i (0 : Int))], [], [], 0⟩) rfl rfl ⟨.refl _, trivial⟩ trivial) ?_
        refine AWp.ret ?_
        exact bodyQ_ret _ rfl ⟨rfl, rfl⟩ rfl
def f69 (x1 x2 : List UInt8) : Option (List (List UInt8)) := splitMO x1 x2
theorem f69_ok (x1 x2 : List UInt8) (r : List (List UInt8)) (h : f69 x1 x2 = some r) : Spec1 Tryz.prog 69 [(1, intG mxl)] [] [] [.str x1, .str x2] (.own 3000) [(3000, bL 9 1 eS [] r)] :=
  splitM_spec 9 1 mxl (fun s sep w hs hm h1 => Any.strings_Split Tryz.lays146 (by kernel_rfl) s sep mxl w hs hm h1) x1 x2 r h
def f149 (x1 : List UInt8) (x2 : List UInt8) : Option Bool :=
  chk (((decide (((x1.length : Nat) : Int) ≥ ((x2.length : Nat) : Int))) == true) = true → 0 ≤ ((x2.length : Nat) : Int) ∧ ((x2.length : Nat) : Int) ≤ ((x1.length : Nat) : Int)) <|
  some ((decide (((x1.length : Nat) : Int) ≥ ((x2.length : Nat) : Int))) && ((x1.take x2.length) == x2))
set_option maxRecDepth 100000 in
theorem f149_ok  (x1 : List UInt8) (x2 : List UInt8) (r : Bool) (h : f149 x1 x2 = some r)  : Spec1 Tryz.prog 149 [] [] [] [.str x1, .str x2] (.bool r) [] := by
  unfold f149 at h
  refine Spec1.body 0 _ _ Tryz.func149 rfl Tryz.ntmps149 rfl rfl ?_
  refine q2rq [] [] ⟨18, [(0, .str x1), (1, .str x2)], [], [], 0⟩ trivial ?_
  refine AWp.seq ?_
  have ob0 := idA (((decide ((lZ x1) ≥ (lZ x2))) == true) = true)
  obtain ⟨ob1, h⟩ := chk_some h
  have ob2 := idA (((decide ((lZ x1) ≥ (lZ x2))) == true) = true)
  have ob3 := idA (((decide ((lZ x1) ≥ (lZ x2))) == true) = true)
  have ob4 := idA (((decide ((lZ x1) ≥ (lZ x2))) == true) = true)
  have ob5 := idA (((decide ((lZ x1) ≥ (lZ x2))) == true) = true)
  have ob6 := bqA (decide ((lZ x1) ≥ (lZ x2))) true
  refine q2rr [] [] ⟨18, [(4, .bool ((decide ((lZ x1) ≥ (lZ x2))) && ((x1.take x2.length) == x2)))], [], [], 0⟩ (an4 (an1 ob0) (And.intro ob1 (an2 ob2 ob3)) (an2 ob4 ob5) ob6) ?_
  refine thenQ_normal ?_
  have hret := Option.some.inj h
  subst hret
  refine AWp.le (Le.mk (s' := ⟨18, [(4, .bool ((decide ((lZ x1) ≥ (lZ x2))) && ((x1.take x2.length) == x2)))], [], [], 0⟩) rfl rfl ⟨.refl _, trivial⟩ trivial) ?_
  refine AWp.ret ?_
  exact bodyQ_ret _ rfl ⟨rfl, rfl⟩ rfl
def f121 (x1 : List UInt8) (x2 : List UInt8) : Option (List UInt8 × Bool) :=
  (f149 x1 x2).bind fun (r3 : Bool) =>
  if (!r3) then (
  some (x1, false)
  ) else (
  chk (((x2.length : Nat) : Int) ≤ ((x1.length : Nat) : Int)) <|
  some ((x1.drop x2.length), true)
  )
set_option maxRecDepth 100000 in
theorem f121_ok  (x1 : List UInt8) (x2 : List UInt8) (r : List UInt8 × Bool) (h : f121 x1 x2 = some r)  : Spec1 Tryz.prog 121 [] [] [] [.str x1, .str x2] (.tup [.str r.1, .bool r.2]) [] := by
  unfold f121 at h
  refine Spec1.body 0 _ _ Tryz.func121 rfl Tryz.ntmps121 rfl rfl ?_
  refine q2rq [] [] ⟨15, [(0, .str x1), (1, .str x2)], [], [], 0⟩ trivial ?_
  refine AWp.seq ?_
  refine AWp.seq ?_
  obtain ⟨r3, hr3, h⟩ := bind_ok h
  refine q2rr [] [(2, ⟨[.str x1, .str x2], [], [], [], .bool r3, [], [], []⟩)] ⟨15, [(0, .str x1), (1, .str x2), (9, .bool (!r3))], [], [], 0⟩ (an1 (cpT (f149_ok _ _ _ hr3))) ?_
  refine thenQ_normal ?_
  refine AWp.cond (b := (!r3)) (by kernel_rfl) (fun hc1 => ?_) (fun hc1 => ?_)
  ·
    replace h := ite_tb hc1 h
    refine q2rq [] [] ⟨15, [(4, .str x1), (5, .bool false)], [], [], 0⟩ trivial ?_
    have hret := Option.some.inj h
    subst hret
    refine AWp.le (Le.mk (s' := ⟨15, [(4, .str x1), (5, .bool false)], [], [], 0⟩) rfl rfl ⟨.refl _, .refl _, trivial⟩ trivial) ?_
    refine AWp.ret ?_
    refine thenQ_ret ?_
    exact bodyQ_ret _ rfl ⟨rfl, rfl⟩ rfl
  ·
    replace h := ite_fb hc1 h
    refine AWp.skip ?_
    refine thenQ_normal ?_
    refine AWp.seq ?_
    obtain ⟨ob0p, h⟩ := chk_some h
    have ob0 : 0 ≤ ((x2.length : Nat) : Int) ∧ ((x2.length : Nat) : Int) ≤ ((x1.length : Nat) : Int) := ⟨by omega, ob0p⟩
    refine q2rr [] [] ⟨15, [(4, .str (x1.drop x2.length)), (5, .bool true)], [], [], 0⟩ (an1 ob0) ?_
    refine thenQ_normal ?_
    have hret := Option.some.inj h
    subst hret
    refine AWp.le (Le.mk (s' := ⟨15, [(4, .str (x1.drop x2.length)), (5, .bool true)], [], [], 0⟩) rfl rfl ⟨.refl _, .refl _, trivial⟩ trivial) ?_
    refine AWp.ret ?_
    exact bodyQ_ret _ rfl ⟨rfl, rfl⟩ rfl
def f95 (x1 : List UInt8) (x2 : List UInt8) : Option (List UInt8 × Bool) :=
  (f121 x1 x2).bind fun (r3 : List UInt8 × Bool) =>
  some (r3.1, r3.2)
set_option maxRecDepth 100000 in
theorem f95_ok  (x1 : List UInt8) (x2 : List UInt8) (r : List UInt8 × Bool) (h : f95 x1 x2 = some r)  : Spec1 Tryz.prog 95 [] [] [] [.str x1, .str x2] (.tup [.str r.1, .bool r.2]) [] := by
  unfold f95 at h
  refine Spec1.body 0 _ _ Tryz.func95 rfl Tryz.ntmps95 rfl rfl ?_
  refine q2rq [] [] ⟨11, [(0, .str x1), (1, .str x2)], [], [], 0⟩ trivial ?_
  refine AWp.seq ?_
  obtain ⟨r3, hr3, h⟩ := bind_ok h
  refine q2rr [] [(2, ⟨[.str x1, .str x2], [], [], [], .tup [.str r3.1, .bool r3.2], [], [], []⟩)] ⟨11, [(4, .str r3.1), (5, .bool r3.2)], [], [], 0⟩ (an1 (cpT (f121_ok _ _ _ hr3))) ?_
  refine thenQ_normal ?_
  have hret := Option.some.inj h
  subst hret
  refine AWp.le (Le.mk (s' := ⟨11, [(4, .str r3.1), (5, .bool r3.2)], [], [], 0⟩) rfl rfl ⟨.refl _, .refl _, trivial⟩ trivial) ?_
  refine AWp.ret ?_
  exact bodyQ_ret _ rfl ⟨rfl, rfl⟩ rfl
def f96 (x1 : List UInt8) (x2 : Int) : Option Int := ixbO x1 x2
theorem f96_ok (x1 : List UInt8) (x2 r : Int) (h : f96 x1 x2 = some r) : Spec1 Tryz.prog 96 [] [] [] [.str x1, .int .u8 x2] (.int .i64 r) [] :=
  ixb_spec (fun s c w => Any.strings_IndexByte Tryz.lays137 s c w) x1 x2 r h
def f124 (x1 : Int) : Option Bool :=
  some ((decide (x1 < (48 : Int))) || (decide (x1 > (57 : Int))))
set_option maxRecDepth 100000 in
theorem f124_ok  (x1 : Int) (r : Bool) (h : f124 x1 = some r)  : Spec1 Tryz.prog 124 [] [] [] [.int .i32 x1] (.bool r) [] := by
  unfold f124 at h
  refine Spec1.body 0 _ _ Tryz.func124 rfl Tryz.ntmps124 rfl rfl ?_
  refine q2rq [] [] ⟨9, [(0, .int .i32 x1)], [], [], 0⟩ trivial ?_
  refine AWp.seq ?_
  have ob0 := idA (((decide (x1 < (48 : Int))) == false) = true)
  have ob1 := bqA (decide (x1 < (48 : Int))) false
  refine q2rr [] [] ⟨9, [(2, .bool ((decide (x1 < (48 : Int))) || (decide (x1 > (57 : Int)))))], [], [], 0⟩ (an2 (an1 ob0) ob1) ?_
  refine thenQ_normal ?_
  have hret := Option.some.inj h
  subst hret
  refine AWp.le (Le.mk (s' := ⟨9, [(2, .bool ((decide (x1 < (48 : Int))) || (decide (x1 > (57 : Int)))))], [], [], 0⟩) rfl rfl ⟨.refl _, trivial⟩ trivial) ?_
  refine AWp.ret ?_
  exact bodyQ_ret _ rfl ⟨rfl, rfl⟩ rfl
def f123 (x1 : List UInt8) : Option (List (List UInt8)) := fieldsO (fun x => (f124 (x : Int)).getD false) x1
theorem f123_ok (x1 : List UInt8) (r : List (List UInt8)) (h : f123 x1 = some r) : Spec1 Tryz.prog 123 [] [] [] [.str x1, .fn (.func 124) []] (.own 3000) [(3000, bL 9 1 eS [] r)] :=
  fields_spec 9 _ (fun s w hs hp => Any.strings_FieldsFunc_grows Tryz.lays229 124 #[] (Go.Proofs.enters_of Tryz.func124 (by kernel_rfl) rfl) _ s w hs hp (by kernel_rfl) (by kernel_rfl)) (fun x _ => f124_ok (x : Int) _ rfl) x1 r h
def f125 (x1 : List UInt8) : Option (Int × Bool) := atoiO x1
theorem f125_ok (x1 : List UInt8) (r : Int × Bool) (h : f125 x1 = some r) : Spec1 Tryz.prog 125 [(4, errG), (5, errG)] [] [] [.str x1] (.tup [.int .i64 r.1, .ifc r.2]) [] :=
  atoi_spec Tryz.lays172 rfl rfl rfl x1 r h
def f97_L0 (K1 : (BitVec 16) → Option (BitVec 16 × Int)) (r2 : List (List UInt8)) : Nat → (BitVec 16 × Nat) → Option (BitVec 16 × Int)
  | 0, _ => none
  | k + 1, (w3, n4) =>
    if (decide ((n4 : Int) < (((r2).length : Nat) : Int))) then (
    chk ((n4 : Int) < (((r2).length : Nat) : Int)) <|
    chk (n4 < (r2).length) <|
    (f125 (r2.getD n4 [])).bind fun (r5 : Int × Bool) =>
    if (r5.2 || (decide (r5.1 ≥ (12 : Int)))) then (
    some ((BitVec.ofInt 16 0), (2 : Int))
    ) else (
    chk (0 ≤ r5.1) <|
    chk (((n4 : Int) + (1 : Int)) ≤ 9223372036854775807) <|
    (f97_L0 K1 r2 k) ((w3 ||| ((BitVec.ofInt 16 1) <<< ((r5.1).toNat))), (n4 + 1))
    )
    ) else (
    K1 w3
    )
abbrev f97z0 (r2 : List (List UInt8)) : Heap := [(6001, bL 9 1 eS [] r2)]
def f97 (x1 : List UInt8) : Option (BitVec 16 × Int) :=
  jn (fun (w6 : BitVec 16) =>
  (f83 w6).bind fun (r7 : List UInt8) =>
  if (!(r7 == x1)) then (
  some ((BitVec.ofInt 16 0), (2 : Int))
  ) else (
  some (w6, (0 : Int))
  )
  ) fun (K1 : (BitVec 16) → Option (BitVec 16 × Int)) =>
  (f123 x1).bind fun (r2 : List (List UInt8)) =>
  f97_L0 K1 r2 FUEL ((BitVec.ofInt 16 0), 0)
set_option maxRecDepth 100000 in
theorem f97_ok  (x1 : List UInt8) (r : BitVec 16 × Int) (h : f97 x1 = some r)  : Spec1 Tryz.prog 97 [(0, .elem 32 1 T0F 0 0), (4, errG), (5, errG), (6, .tab .u64 Lib.pow10Tab)] [] [] [.str x1] (.tup [.b16 r.1, .int .i64 r.2]) [] := by
  unfold f97 at h
  refine Spec1.body 0 _ _ Tryz.func97 rfl Tryz.ntmps97 rfl rfl ?_
  refine q2rq [] [] ⟨37, [(0, .str x1), (1000000, .elem 32 1 T0F 0 0), (1000004, errG), (1000005, errG), (1000006, .tab .u64 Lib.pow10Tab)], [], [], 0⟩ trivial ?_
  refine q2rq [] [] ⟨37, [(0, .str x1), (4, .b16 (q2w16 0)), (1000000, .elem 32 1 T0F 0 0), (1000004, errG), (1000005, errG), (1000006, .tab .u64 Lib.pow10Tab)], [], [], 0⟩ trivial ?_
  obtain ⟨K1, hK1, h⟩ := jn_some h
  refine AWp.join (α := BitVec 16) (fun (w6 : BitVec 16) => ⟨37, [(0, .str x1), (4, .b16 w6), (1000000, .elem 32 1 T0F 0 0), (1000004, errG), (1000005, errG), (1000006, .tab .u64 Lib.pow10Tab)], [], [], 0⟩) (fun x => K1 x = some r) ?_ ?_
  ·
    refine AWp.seq ?_
    obtain ⟨r2, hr2, h⟩ := bind_ok h
    refine q2rr [] [(1, ⟨[.str x1, .fn (.func 124) []], [], [], (f97z0 r2), .own 6001, [6001], [], []⟩)] ⟨37, [(0, .str x1), (4, .b16 (q2w16 0)), (10, .own 6001), (11, .i (lZ r2)), (12, .i (0 : Int)), (1000000, .elem 32 1 T0F 0 0), (1000004, errG), (1000005, errG), (1000006, .tab .u64 Lib.pow10Tab)], (f97z0 r2), [], 0⟩ (an1 (cpT (Spec1.ren (swapN 3000 6001) (swapN_inv 3000 6001) rfl (f123_ok _ _ hr2)))) ?_
    refine thenQ_normal ?_
    refine AWp.block ?_
    refine AWp.loopL (α := Nat × (BitVec 16 × Nat)) (fun x => match x with | (_, w3, n4) => ⟨37, [(0, .str x1), (4, .b16 w3), (10, .own 6001), (11, .i (lZ r2)), (12, .i (n4 : Int)), (1000000, .elem 32 1 T0F 0 0), (1000004, errG), (1000005, errG), (1000006, .tab .u64 Lib.pow10Tab)], (f97z0 r2), [], 0⟩) (fun x => f97_L0 K1 r2 x.1 x.2 = some r) (fun x => x.1) (FUEL, (q2w16 0), 0) (Le.mk (s' := ⟨37, [(0, .str x1), (4, .b16 (q2w16 0)), (10, .own 6001), (11, .i (lZ r2)), (12, .i (0 : Int)), (1000000, .elem 32 1 T0F 0 0), (1000004, errG), (1000005, errG), (1000006, .tab .u64 Lib.pow10Tab)], (f97z0 r2), [], 0⟩) rfl rfl ⟨.refl _, .refl _, .refl _, .refl _, .refl _, .refl _, .refl _, .refl _, .refl _, trivial⟩ ⟨⟨_, rfl, .refl _⟩, trivial⟩) h ?_
    rintro ⟨k0, w3, n4⟩ h
    cases k0 with
    | zero => exact nomatch (show (none : Option (BitVec 16 × Int)) = some r from h)
    | succ k0 =>
    obtain ⟨C0, hC0⟩ : ∃ C, C = f97_L0 K1 r2 k0 := ⟨_, rfl⟩
    replace h := (f97_L0.eq_2 ..).symm.trans h
    try rw [← hC0] at h
    refine q2rq [] [] ⟨37, [(0, .str x1), (4, .b16 w3), (10, .own 6001), (11, .i (lZ r2)), (12, .i (n4 : Int)), (13, .bool (decide ((n4 : Int) < (lZ r2)))), (1000000, .elem 32 1 T0F 0 0), (1000004, errG), (1000005, errG), (1000006, .tab .u64 Lib.pow10Tab)], (f97z0 r2), [], 0⟩ trivial ?_
    refine AWp.seq ?_
    refine AWp.cond (b := (decide ((n4 : Int) < (lZ r2)))) (by kernel_rfl) (fun hc1 => ?_) (fun hc1 => ?_)
    ·
      replace h := ite_tb hc1 h
      refine AWp.skip ?_
      refine thenQ_normal ?_
      refine AWp.seq ?_
      refine AWp.block ?_
      refine AWp.seq ?_
      obtain ⟨ob0p, h⟩ := chk_some h
      have ob0 : 0 ≤ (n4 : Int) ∧ (n4 : Int) < (((r2).length : Nat) : Int) := ⟨by omega, ob0p⟩
      obtain ⟨ob1, h⟩ := chk_some h
      refine q2rr [] [] ⟨37, [(0, .str x1), (4, .b16 w3), (6, .str (r2.getD n4 [])), (10, .own 6001), (11, .i (lZ r2)), (12, .i (n4 : Int)), (1000000, .elem 32 1 T0F 0 0), (1000004, errG), (1000005, errG), (1000006, .tab .u64 Lib.pow10Tab)], (f97z0 r2), [], 0⟩ (an2 ob0 ob1) ?_
      refine thenQ_normal ?_
      refine AWp.seq ?_
      obtain ⟨r5, hr5, h⟩ := bind_ok h
      refine q2rr [] [(1, ⟨[.str (r2.getD n4 [])], [], [], [], .tup [.i r5.1, .ifc r5.2], [], [], [4, 5]⟩)] ⟨37, [(0, .str x1), (4, .b16 w3), (7, .i r5.1), (8, .ifc r5.2), (10, .own 6001), (11, .i (lZ r2)), (12, .i (n4 : Int)), (1000000, .elem 32 1 T0F 0 0), (1000004, errG), (1000005, errG), (1000006, .tab .u64 Lib.pow10Tab)], (f97z0 r2), [], 0⟩ (an1 (cpT (f125_ok _ _ hr5))) ?_
      refine thenQ_normal ?_
      refine AWp.seq ?_
      refine AWp.seq ?_
      have ob2 := idA ((r5.2 == false) = true)
      have ob3 := bqA (r5.2) false
      refine q2rr [] [(1, ⟨[.ifc r5.2, .lit (.nilIface)], [], [], [], .bool r5.2, [], [], []⟩)] ⟨37, [(0, .str x1), (4, .b16 w3), (7, .i r5.1), (10, .own 6001), (11, .i (lZ r2)), (12, .i (n4 : Int)), (26, .bool (r5.2 || (decide (r5.1 ≥ (12 : Int))))), (1000000, .elem 32 1 T0F 0 0), (1000004, errG), (1000005, errG), (1000006, .tab .u64 Lib.pow10Tab)], (f97z0 r2), [], 0⟩ (an3 (And.intro (ifcN_spec (P := Tryz.prog) Tryz.underlying98 (.tmp 21) 98 4 r5.2) (VLes.same [.ifc r5.2, .lit (.nilIface)])) (an1 ob2) ob3) ?_
      refine thenQ_normal ?_
      refine AWp.cond (b := (r5.2 || (decide (r5.1 ≥ (12 : Int))))) (by kernel_rfl) (fun hc2 => ?_) (fun hc2 => ?_)
      ·
        replace h := ite_tb hc2 h
        refine q2rq [] [] ⟨37, [(2, .b16 (q2w16 0)), (3, .i (2 : Int)), (1000000, .elem 32 1 T0F 0 0), (1000004, errG), (1000005, errG), (1000006, .tab .u64 Lib.pow10Tab)], [], [], 0⟩ trivial ?_
        have hret := Option.some.inj h
        subst hret
        refine AWp.le (Le.mk (s' := ⟨37, [(2, .b16 (q2w16 0)), (3, .i (2 : Int))], [], [], 0⟩) rfl rfl ⟨.refl _, .refl _, trivial⟩ trivial) ?_
        refine AWp.ret ?_
        refine thenQ_ret ?_
        refine blockQ_ret ?_
        refine thenQ_ret ?_
        refine thenQ_ret ?_
        refine blockQ_ret ?_
        refine joinQ_ret ?_
        exact bodyQ_ret _ rfl ⟨rfl, rfl⟩ rfl
      ·
        replace h := ite_fb hc2 h
        refine AWp.skip ?_
        refine thenQ_normal ?_
        obtain ⟨ob4, h⟩ := chk_some h
        refine q2rr [] [] ⟨37, [(0, .str x1), (4, .b16 (w3 ||| ((q2w16 1) <<< ((r5.1).toNat)))), (10, .own 6001), (11, .i (lZ r2)), (12, .i (n4 : Int)), (1000000, .elem 32 1 T0F 0 0), (1000004, errG), (1000005, errG), (1000006, .tab .u64 Lib.pow10Tab)], (f97z0 r2), [], 0⟩ (an1 ob4) ?_
        refine blockQ_normal ?_
        refine thenQ_normal ?_
        obtain ⟨ob5p, h⟩ := chk_some h
        have ob5 : -9223372036854775808 ≤ ((n4 : Int) + (1 : Int)) ∧ ((n4 : Int) + (1 : Int)) ≤ 9223372036854775807 := ⟨by omega, ob5p⟩
        refine q2rr [] [] ⟨37, [(0, .str x1), (4, .b16 (w3 ||| ((q2w16 1) <<< ((r5.1).toNat)))), (10, .own 6001), (11, .i (lZ r2)), (12, .i (((n4 + 1) : Nat) : Int)), (1000000, .elem 32 1 T0F 0 0), (1000004, errG), (1000005, errG), (1000006, .tab .u64 Lib.pow10Tab)], (f97z0 r2), [], 0⟩ (an1 ob5) ?_
        rw [hC0] at h
        exact loopQ_normal (_, (w3 ||| ((q2w16 1) <<< ((r5.1).toNat))), (n4 + 1)) (Le.mk rfl rfl ⟨.refl _, .refl _, .refl _, .refl _, .refl _, .refl _, .refl _, .refl _, .refl _, trivial⟩ ⟨⟨_, rfl, .refl _⟩, trivial⟩) h (Nat.lt_succ_self _)
    ·
      replace h := ite_fb hc1 h
      refine AWp.exit ?_
      refine thenQ_exit ?_
      refine thenQ_exit ?_
      refine blockQ_same ?_
      exact joinQ_normal (w3) (Le.mk rfl rfl ⟨.refl _, .refl _, .refl _, .refl _, .refl _, .refl _, trivial⟩ trivial) h
  ·
    rintro w6 h
    replace h := (congrFun hK1 _).symm.trans h
    refine AWp.seq ?_
    refine AWp.seq ?_
    obtain ⟨r7, hr7, h⟩ := bind_ok h
    refine q2rr [] [(1, ⟨[.b16 w6], [], [], [], .str r7, [], [], [0, 6]⟩)] ⟨37, [(4, .b16 w6), (35, .bool (!(r7 == x1))), (1000000, .elem 32 1 T0F 0 0), (1000004, errG), (1000005, errG), (1000006, .tab .u64 Lib.pow10Tab)], [], [], 0⟩ (an1 (cpT (f83_ok _ _ hr7))) ?_
    refine thenQ_normal ?_
    refine AWp.cond (b := (!(r7 == x1))) (by kernel_rfl) (fun hc3 => ?_) (fun hc3 => ?_)
    ·
      replace h := ite_tb hc3 h
      refine q2rq [] [] ⟨37, [(2, .b16 (q2w16 0)), (3, .i (2 : Int)), (1000000, .elem 32 1 T0F 0 0), (1000004, errG), (1000005, errG), (1000006, .tab .u64 Lib.pow10Tab)], [], [], 0⟩ trivial ?_
      have hret := Option.some.inj h
      subst hret
      refine AWp.le (Le.mk (s' := ⟨37, [(2, .b16 (q2w16 0)), (3, .i (2 : Int))], [], [], 0⟩) rfl rfl ⟨.refl _, .refl _, trivial⟩ trivial) ?_
      refine AWp.ret ?_
      refine thenQ_ret ?_
      exact bodyQ_ret _ rfl ⟨rfl, rfl⟩ rfl
    ·
      replace h := ite_fb hc3 h
      refine AWp.skip ?_
      refine thenQ_normal ?_
      refine q2rq [] [] ⟨37, [(2, .b16 w6), (3, .i (0 : Int)), (1000000, .elem 32 1 T0F 0 0), (1000004, errG), (1000005, errG), (1000006, .tab .u64 Lib.pow10Tab)], [], [], 0⟩ trivial ?_
      have hret := Option.some.inj h
      subst hret
      refine AWp.le (Le.mk (s' := ⟨37, [(2, .b16 w6), (3, .i (0 : Int))], [], [], 0⟩) rfl rfl ⟨.refl _, .refl _, trivial⟩ trivial) ?_
      refine AWp.ret ?_
      exact bodyQ_ret _ rfl ⟨rfl, rfl⟩ rfl
def f126 (x1 : List UInt8) (x2 : List UInt8) : Option (List UInt8) :=
  (f149 x1 x2).bind fun (r3 : Bool) =>
  if r3 then (
  chk (((x2.length : Nat) : Int) ≤ ((x1.length : Nat) : Int)) <|
  some (x1.drop x2.length)
  ) else (
  some x1
  )
set_option maxRecDepth 100000 in
theorem f126_ok  (x1 : List UInt8) (x2 : List UInt8) (r : List UInt8) (h : f126 x1 x2 = some r)  : Spec1 Tryz.prog 126 [] [] [] [.str x1, .str x2] (.str r) [] := by
  unfold f126 at h
  refine Spec1.body 0 _ _ Tryz.func126 rfl Tryz.ntmps126 rfl rfl ?_
  refine q2rq [] [] ⟨13, [(0, .str x1), (1, .str x2)], [], [], 0⟩ trivial ?_
  refine AWp.seq ?_
  refine AWp.seq ?_
  obtain ⟨r3, hr3, h⟩ := bind_ok h
  refine q2rr [] [(2, ⟨[.str x1, .str x2], [], [], [], .bool r3, [], [], []⟩)] ⟨13, [(0, .str x1), (1, .str x2), (7, .bool r3)], [], [], 0⟩ (an1 (cpT (f149_ok _ _ _ hr3))) ?_
  refine thenQ_normal ?_
  refine AWp.cond (b := r3) (by kernel_rfl) (fun hc1 => ?_) (fun hc1 => ?_)
  ·
    replace h := ite_tb hc1 h
    refine AWp.seq ?_
    obtain ⟨ob0p, h⟩ := chk_some h
    have ob0 : 0 ≤ ((x2.length : Nat) : Int) ∧ ((x2.length : Nat) : Int) ≤ ((x1.length : Nat) : Int) := ⟨by omega, ob0p⟩
    refine q2rr [] [] ⟨13, [(4, .str (x1.drop x2.length))], [], [], 0⟩ (an1 ob0) ?_
    refine thenQ_normal ?_
    have hret := Option.some.inj h
    subst hret
    refine AWp.le (Le.mk (s' := ⟨13, [(4, .str (x1.drop x2.length))], [], [], 0⟩) rfl rfl ⟨.refl _, trivial⟩ trivial) ?_
    refine AWp.ret ?_
    refine thenQ_ret ?_
    exact bodyQ_ret _ rfl ⟨rfl, rfl⟩ rfl
  ·
    replace h := ite_fb hc1 h
    refine AWp.skip ?_
    refine thenQ_normal ?_
    refine q2rq [] [] ⟨13, [(4, .str x1)], [], [], 0⟩ trivial ?_
    have hret := Option.some.inj h
    subst hret
    refine AWp.le (Le.mk (s' := ⟨13, [(4, .str x1)], [], [], 0⟩) rfl rfl ⟨.refl _, trivial⟩ trivial) ?_
    refine AWp.ret ?_
    exact bodyQ_ret _ rfl ⟨rfl, rfl⟩ rfl
def f98 (x1 : List UInt8) (x2 : List UInt8) : Option (List UInt8) :=
  (f126 x1 x2).bind fun (r3 : List UInt8) =>
  some r3
set_option maxRecDepth 100000 in
theorem f98_ok  (x1 : List UInt8) (x2 : List UInt8) (r : List UInt8) (h : f98 x1 x2 = some r)  : Spec1 Tryz.prog 98 [] [] [] [.str x1, .str x2] (.str r) [] := by
  unfold f98 at h
  refine Spec1.body 0 _ _ Tryz.func98 rfl Tryz.ntmps98 rfl rfl ?_
  refine q2rq [] [] ⟨8, [(0, .str x1), (1, .str x2)], [], [], 0⟩ trivial ?_
  refine AWp.seq ?_
  obtain ⟨r3, hr3, h⟩ := bind_ok h
  refine q2rr [] [(2, ⟨[.str x1, .str x2], [], [], [], .str r3, [], [], []⟩)] ⟨8, [(4, .str r3)], [], [], 0⟩ (an1 (cpT (f126_ok _ _ _ hr3))) ?_
  refine thenQ_normal ?_
  have hret := Option.some.inj h
  subst hret
  refine AWp.le (Le.mk (s' := ⟨8, [(4, .str r3)], [], [], 0⟩) rfl rfl ⟨.refl _, trivial⟩ trivial) ?_
  refine AWp.ret ?_
  exact bodyQ_ret _ rfl ⟨rfl, rfl⟩ rfl
def f70 (x1 : List UInt8) (x2 : List UInt8) : Option (BitVec 16 × List UInt8) :=
  (f95 x1 (x2 ++ ([32] : List UInt8))).bind fun (r3 : List UInt8 × Bool) =>
  chk (x2.length + ([32] : List UInt8).length ≤ 9223372036854775807) <|
  if (!r3.2) then (
  some ((BitVec.ofInt 16 0), x1)
  ) else (
  (f96 r3.1 (125 : Int)).bind fun (r4 : Int) =>
  chk (-9223372036854775808 ≤ (r4 + (1 : Int)) ∧ (r4 + (1 : Int)) ≤ 9223372036854775807) <|
  (f97 (r3.1.take (((r4 + (1 : Int))).toNat))).bind fun (r5 : BitVec 16 × Int) =>
  chk (0 ≤ (r4 + (1 : Int)) ∧ (r4 + (1 : Int)) ≤ ((r3.1.length : Nat) : Int)) <|
  if (r5.2 != (0 : Int)) then (
  some ((BitVec.ofInt 16 0), x1)
  ) else (
  (f98 (r3.1.drop (((r4 + (1 : Int))).toNat)) ([32] : List UInt8)).bind fun (r6 : List UInt8) =>
  chk (0 ≤ (r4 + (1 : Int)) ∧ (r4 + (1 : Int)) ≤ ((r3.1.length : Nat) : Int)) <|
  some (r5.1, r6)
  )
  )
set_option maxRecDepth 100000 in
theorem f70_ok  (x1 : List UInt8) (x2 : List UInt8) (r : BitVec 16 × List UInt8) (h : f70 x1 x2 = some r)  : Spec1 Tryz.prog 70 [(0, .elem 32 1 T0F 0 0), (4, errG), (5, errG), (6, .tab .u64 Lib.pow10Tab)] [] [] [.str x1, .str x2] (.tup [.b16 r.1, .str r.2]) [] := by
  unfold f70 at h
  refine Spec1.body 0 _ _ Tryz.func70 rfl Tryz.ntmps70 rfl rfl ?_
  refine q2rq [] [] ⟨39, [(0, .str x1), (1, .str x2), (1000000, .elem 32 1 T0F 0 0), (1000004, errG), (1000005, errG), (1000006, .tab .u64 Lib.pow10Tab)], [], [], 0⟩ trivial ?_
  refine AWp.seq ?_
  obtain ⟨r3, hr3, h⟩ := bind_ok h
  obtain ⟨ob0, h⟩ := chk_some h
  refine q2rr [] [(3, ⟨[.str x1, .str (x2 ++ ([32] : List UInt8))], [], [], [], .tup [.str r3.1, .bool r3.2], [], [], []⟩)] ⟨39, [(0, .str x1), (6, .str r3.1), (7, .bool r3.2), (1000000, .elem 32 1 T0F 0 0), (1000004, errG), (1000005, errG), (1000006, .tab .u64 Lib.pow10Tab)], [], [], 0⟩ (an2 ob0 (cpT (f95_ok _ _ _ hr3))) ?_
  refine thenQ_normal ?_
  refine AWp.seq ?_
  refine q2rq [] [] ⟨39, [(0, .str x1), (6, .str r3.1), (19, .bool (!r3.2)), (1000000, .elem 32 1 T0F 0 0), (1000004, errG), (1000005, errG), (1000006, .tab .u64 Lib.pow10Tab)], [], [], 0⟩ trivial ?_
  refine AWp.cond (b := (!r3.2)) (by kernel_rfl) (fun hc1 => ?_) (fun hc1 => ?_)
  ·
    replace h := ite_tb hc1 h
    refine q2rq [] [] ⟨39, [(4, .b16 (q2w16 0)), (5, .str x1), (1000000, .elem 32 1 T0F 0 0), (1000004, errG), (1000005, errG), (1000006, .tab .u64 Lib.pow10Tab)], [], [], 0⟩ trivial ?_
    have hret := Option.some.inj h
    subst hret
    refine AWp.le (Le.mk (s' := ⟨39, [(4, .b16 (q2w16 0)), (5, .str x1)], [], [], 0⟩) rfl rfl ⟨.refl _, .refl _, trivial⟩ trivial) ?_
    refine AWp.ret ?_
    refine thenQ_ret ?_
    exact bodyQ_ret _ rfl ⟨rfl, rfl⟩ rfl
  ·
    replace h := ite_fb hc1 h
    refine AWp.skip ?_
    refine thenQ_normal ?_
    refine AWp.seq ?_
    obtain ⟨r4, hr4, h⟩ := bind_ok h
    obtain ⟨ob1, h⟩ := chk_some h
    refine q2rr [] [(1, ⟨[.str r3.1, .int .u8 (125 : Int)], [], [], [], .i r4, [], [], []⟩)] ⟨39, [(0, .str x1), (6, .str r3.1), (8, .i (r4 + (1 : Int))), (1000000, .elem 32 1 T0F 0 0), (1000004, errG), (1000005, errG), (1000006, .tab .u64 Lib.pow10Tab)], [], [], 0⟩ (an2 (cpT (f96_ok _ _ _ hr4)) ob1) ?_
    refine thenQ_normal ?_
    refine AWp.seq ?_
    obtain ⟨r5, hr5, h⟩ := bind_ok h
    obtain ⟨ob2, h⟩ := chk_some h
    refine q2rr [] [(3, ⟨[.str (r3.1.take (((r4 + (1 : Int))).toNat))], [], [], [], .tup [.b16 r5.1, .i r5.2], [], [], [0, 4, 5, 6]⟩)] ⟨39, [(0, .str x1), (6, .str r3.1), (8, .i (r4 + (1 : Int))), (9, .b16 r5.1), (10, .i r5.2), (1000000, .elem 32 1 T0F 0 0), (1000004, errG), (1000005, errG), (1000006, .tab .u64 Lib.pow10Tab)], [], [], 0⟩ (an2 ob2 (cpT (f97_ok _ _ hr5))) ?_
    refine thenQ_normal ?_
    refine AWp.seq ?_
    refine q2rq [] [] ⟨39, [(0, .str x1), (6, .str r3.1), (8, .i (r4 + (1 : Int))), (9, .b16 r5.1), (32, .bool (r5.2 != (0 : Int))), (1000000, .elem 32 1 T0F 0 0), (1000004, errG), (1000005, errG), (1000006, .tab .u64 Lib.pow10Tab)], [], [], 0⟩ trivial ?_
    refine AWp.cond (b := (r5.2 != (0 : Int))) (by kernel_rfl) (fun hc2 => ?_) (fun hc2 => ?_)
    ·
      replace h := ite_tb hc2 h
      refine q2rq [] [] ⟨39, [(4, .b16 (q2w16 0)), (5, .str x1), (1000000, .elem 32 1 T0F 0 0), (1000004, errG), (1000005, errG), (1000006, .tab .u64 Lib.pow10Tab)], [], [], 0⟩ trivial ?_
      have hret := Option.some.inj h
      subst hret
      refine AWp.le (Le.mk (s' := ⟨39, [(4, .b16 (q2w16 0)), (5, .str x1)], [], [], 0⟩) rfl rfl ⟨.refl _, .refl _, trivial⟩ trivial) ?_
      refine AWp.ret ?_
      refine thenQ_ret ?_
      exact bodyQ_ret _ rfl ⟨rfl, rfl⟩ rfl
    ·
      replace h := ite_fb hc2 h
      refine AWp.skip ?_
      refine thenQ_normal ?_
      refine AWp.seq ?_
      obtain ⟨r6, hr6, h⟩ := bind_ok h
      obtain ⟨ob3, h⟩ := chk_some h
      refine q2rr [] [(4, ⟨[.str (r3.1.drop (((r4 + (1 : Int))).toNat)), .str ([32] : List UInt8)], [], [], [], .str r6, [], [], []⟩)] ⟨39, [(4, .b16 r5.1), (5, .str r6), (1000000, .elem 32 1 T0F 0 0), (1000004, errG), (1000005, errG), (1000006, .tab .u64 Lib.pow10Tab)], [], [], 0⟩ (an2 ob3 (cpT (f98_ok _ _ _ hr6))) ?_
      refine thenQ_normal ?_
      have hret := Option.some.inj h
      subst hret
      refine AWp.le (Le.mk (s' := ⟨39, [(4, .b16 r5.1), (5, .str r6)], [], [], 0⟩) rfl rfl ⟨.refl _, .refl _, trivial⟩ trivial) ?_
      refine AWp.ret ?_
      exact bodyQ_ret _ rfl ⟨rfl, rfl⟩ rfl
def f40_L0 (K1 : (List (BitVec 16 × BitVec 16)) → Option (Int × (List (BitVec 16 × BitVec 16)))) (r2 : List (List UInt8)) : Nat → (Nat × (List (BitVec 16 × BitVec 16))) → Option (Int × (List (BitVec 16 × BitVec 16)))
  | 0, _ => none
  | k + 1, (n3, l4) =>
    if (decide ((n3 : Int) < (((r2).length : Nat) : Int))) then (
    chk ((n3 : Int) < (((r2).length : Nat) : Int)) <|
    chk (n3 < (r2).length) <|
    (f70 (r2.getD n3 []) ([98, 121, 122] : List UInt8)).bind fun (r5 : BitVec 16 × List UInt8) =>
    (f70 r5.2 cs4).bind fun (r6 : BitVec 16 × List UInt8) =>
    chk (((l4).length + 1) * 4 ≤ 140737488355328) <|
    chk (((n3 : Int) + (1 : Int)) ≤ 9223372036854775807) <|
    (f40_L0 K1 r2 k) ((n3 + 1), (l4 ++ [(r5.1, r6.1)]))
    ) else (
    K1 l4
    )
abbrev f40z0 (l7 : List (BitVec 16 × BitVec 16)) : Heap := [(5004, bL 30 2 eWW (default : BitVec 16 × BitVec 16) l7)]
abbrev f40z1 : Heap := [(3000, bL 30 2 eWW (default : BitVec 16 × BitVec 16) [])]
def f40 (x1 : List UInt8) : Option (Int × (List (BitVec 16 × BitVec 16))) :=
  jn (fun (l7 : List (BitVec 16 × BitVec 16)) =>
  (f35 l7).bind fun (r8 : List UInt8) =>
  if (!(r8 == x1)) then (
  some ((2 : Int), [])
  ) else (
  (f13 l7).bind fun (r9 : Int) =>
  if (r9 != (0 : Int)) then (
  some (r9, [])
  ) else (
  some ((0 : Int), l7)
  )
  )
  ) fun (K1 : (List (BitVec 16 × BitVec 16)) → Option (Int × (List (BitVec 16 × BitVec 16)))) =>
  (f69 x1 ([32, 124, 32] : List UInt8)).bind fun (r2 : List (List UInt8)) =>
  f40_L0 K1 r2 FUEL (0, [])
set_option maxRecDepth 100000 in
theorem f40_ok  (x1 : List UInt8) (r : Int × (List (BitVec 16 × BitVec 16))) (h : f40 x1 = some r)  : Spec1 Tryz.prog 40 [(0, .elem 32 1 T0F 0 0), (1, intG mxl), (4, errG), (5, errG), (6, .tab .u64 Lib.pow10Tab)] [] [] [.str x1] (.tup [.own 3000, .int .i64 r.1]) [(3000, bL 30 2 eWW (default : BitVec 16 × BitVec 16) r.2)] := by
  unfold f40 at h
  refine Spec1.body 0 _ _ Tryz.func40 rfl Tryz.ntmps40 rfl rfl ?_
  refine q2rq [] [] ⟨43, [(0, .str x1), (1000000, .elem 32 1 T0F 0 0), (1000001, intG mxl), (1000004, errG), (1000005, errG), (1000006, .tab .u64 Lib.pow10Tab)], [], [], 0⟩ trivial ?_
  refine q2rq [] [] ⟨43, [(0, .str x1), (4, .nils), (1000000, .elem 32 1 T0F 0 0), (1000001, intG mxl), (1000004, errG), (1000005, errG), (1000006, .tab .u64 Lib.pow10Tab)], [], [], 0⟩ trivial ?_
  obtain ⟨K1, hK1, h⟩ := jn_some h
  refine AWp.join (α := List (BitVec 16 × BitVec 16)) (fun (l7 : List (BitVec 16 × BitVec 16)) => ⟨43, [(0, .str x1), (4, .own 5004), (1000000, .elem 32 1 T0F 0 0), (1000001, intG mxl), (1000004, errG), (1000005, errG), (1000006, .tab .u64 Lib.pow10Tab)], (f40z0 l7), [], 0⟩) (fun x => K1 x = some r) ?_ ?_
  ·
    refine AWp.seq ?_
    obtain ⟨r2, hr2, h⟩ := bind_ok h
    refine q2rr [] [(1, ⟨[.str x1, .str ([32, 124, 32] : List UInt8)], [], [], [(6001, q2bS_9 r2)], .own 6001, [6001], [], [1]⟩)] ⟨43, [(0, .str x1), (4, .nils), (10, .own 6001), (11, .i (lZ r2)), (12, .i (0 : Int)), (1000000, .elem 32 1 T0F 0 0), (1000001, intG mxl), (1000004, errG), (1000005, errG), (1000006, .tab .u64 Lib.pow10Tab)], [(6001, q2bS_9 r2)], [], 0⟩ (an1 (cpT (Spec1.ren (swapN 3000 6001) (swapN_inv 3000 6001) rfl (f69_ok (mxl := mxl) _ _ _ hr2)))) ?_
    refine thenQ_normal ?_
    refine AWp.block ?_
    refine AWp.loopL (α := Nat × (Nat × (List (BitVec 16 × BitVec 16)))) (fun x => match x with | (_, n3, l4) => ⟨43, [(0, .str x1), (4, .own 5004), (10, .own 6001), (11, .i (lZ r2)), (12, .i (n3 : Int)), (1000000, .elem 32 1 T0F 0 0), (1000001, intG mxl), (1000004, errG), (1000005, errG), (1000006, .tab .u64 Lib.pow10Tab)], [(5004, q2bWW_30 l4), (6001, q2bS_9 r2)], [], 0⟩) (fun x => f40_L0 K1 r2 x.1 x.2 = some r) (fun x => x.1) (FUEL, 0, []) (Le.trans (Le.trans (Le.nilOwn 4 5004 30 2 (encF eWW q2dWW []) rfl rfl (Nat.le_of_ble_eq_true rfl)) (Le.mk (s' := ⟨43, [(0, .str x1), (4, .own 5004), (10, .own 6001), (11, .i (lZ r2)), (12, .i (0 : Int)), (1000000, .elem 32 1 T0F 0 0), (1000001, intG mxl), (1000004, errG), (1000005, errG), (1000006, .tab .u64 Lib.pow10Tab)], [(6001, q2bS_9 r2), (5004, q2bWW_30 [])], [], 0⟩) rfl rfl ⟨.refl _, .refl _, .refl _, .refl _, .refl _, .refl _, .refl _, .refl _, .refl _, .refl _, trivial⟩ ⟨⟨_, rfl, .refl _⟩, ⟨_, rfl, .refl _⟩, trivial⟩)) (Le.mk (s' := ⟨43, [(0, .str x1), (4, .own 5004), (10, .own 6001), (11, .i (lZ r2)), (12, .i (0 : Int)), (1000000, .elem 32 1 T0F 0 0), (1000001, intG mxl), (1000004, errG), (1000005, errG), (1000006, .tab .u64 Lib.pow10Tab)], [(5004, q2bWW_30 []), (6001, q2bS_9 r2)], [], 0⟩) rfl rfl ⟨.refl _, .refl _, .refl _, .refl _, .refl _, .refl _, .refl _, .refl _, .refl _, .refl _, trivial⟩ ⟨⟨_, rfl, .refl _⟩, ⟨_, rfl, .refl _⟩, trivial⟩)) h ?_
    rintro ⟨k0, n3, l4⟩ h
    cases k0 with
    | zero => exact nomatch (show (none : Option (Int × (List (BitVec 16 × BitVec 16)))) = some r from h)
    | succ k0 =>
    obtain ⟨C0, hC0⟩ : ∃ C, C = f40_L0 K1 r2 k0 := ⟨_, rfl⟩
    replace h := (f40_L0.eq_2 ..).symm.trans h
    try rw [← hC0] at h
    refine q2rq [] [] ⟨43, [(0, .str x1), (4, .own 5004), (10, .own 6001), (11, .i (lZ r2)), (12, .i (n3 : Int)), (13, .bool (decide ((n3 : Int) < (lZ r2)))), (1000000, .elem 32 1 T0F 0 0), (1000001, intG mxl), (1000004, errG), (1000005, errG), (1000006, .tab .u64 Lib.pow10Tab)], [(5004, q2bWW_30 l4), (6001, q2bS_9 r2)], [], 0⟩ trivial ?_
    refine AWp.seq ?_
    refine AWp.cond (b := (decide ((n3 : Int) < (lZ r2)))) (by kernel_rfl) (fun hc1 => ?_) (fun hc1 => ?_)
    ·
      replace h := ite_tb hc1 h
      refine AWp.skip ?_
      refine thenQ_normal ?_
      refine AWp.seq ?_
      refine AWp.block ?_
      refine AWp.seq ?_
      obtain ⟨ob0p, h⟩ := chk_some h
      have ob0 : 0 ≤ (n3 : Int) ∧ (n3 : Int) < (((r2).length : Nat) : Int) := ⟨by omega, ob0p⟩
      obtain ⟨ob1, h⟩ := chk_some h
      refine q2rr [] [] ⟨43, [(0, .str x1), (4, .own 5004), (6, .str (r2.getD n3 [])), (10, .own 6001), (11, .i (lZ r2)), (12, .i (n3 : Int)), (1000000, .elem 32 1 T0F 0 0), (1000001, intG mxl), (1000004, errG), (1000005, errG), (1000006, .tab .u64 Lib.pow10Tab)], [(5004, q2bWW_30 l4), (6001, q2bS_9 r2)], [], 0⟩ (an2 ob0 ob1) ?_
      refine thenQ_normal ?_
      refine q2rq [] [] ⟨43, [(0, .str x1), (4, .own 5004), (6, .str (r2.getD n3 [])), (7, .ptr 7 0), (10, .own 6001), (11, .i (lZ r2)), (12, .i (n3 : Int)), (1000000, .elem 32 1 T0F 0 0), (1000001, intG mxl), (1000004, errG), (1000005, errG), (1000006, .tab .u64 Lib.pow10Tab)], [(7, .cells 30 [.b16 (q2w16 0), .b16 (q2w16 0)]), (5004, q2bWW_30 l4), (6001, q2bS_9 r2)], [], 0⟩ trivial ?_
      refine AWp.seq ?_
      obtain ⟨r5, hr5, h⟩ := bind_ok h
      refine q2rr [] [(1, ⟨[.str (r2.getD n3 []), .str ([98, 121, 122] : List UInt8)], [], [], [], .tup [.b16 r5.1, .str r5.2], [], [], [0, 4, 5, 6]⟩)] ⟨43, [(0, .str x1), (4, .own 5004), (6, .str r5.2), (7, .ptr 7 0), (10, .own 6001), (11, .i (lZ r2)), (12, .i (n3 : Int)), (1000000, .elem 32 1 T0F 0 0), (1000001, intG mxl), (1000004, errG), (1000005, errG), (1000006, .tab .u64 Lib.pow10Tab)], [(7, .cells 30 [.b16 r5.1, .b16 (q2w16 0)]), (5004, q2bWW_30 l4), (6001, q2bS_9 r2)], [], 0⟩ (an2 (cpT (f70_ok _ _ _ hr5)) trivial) ?_
      refine thenQ_normal ?_
      refine AWp.seq ?_
      obtain ⟨r6, hr6, h⟩ := bind_ok h
      refine q2rr [] [(1, ⟨[.str r5.2, .str cs4], [], [], [], .tup [.b16 r6.1, .str r6.2], [], [], [0, 4, 5, 6]⟩)] ⟨43, [(0, .str x1), (4, .own 5004), (7, .ptr 7 0), (10, .own 6001), (11, .i (lZ r2)), (12, .i (n3 : Int)), (1000000, .elem 32 1 T0F 0 0), (1000001, intG mxl), (1000004, errG), (1000005, errG), (1000006, .tab .u64 Lib.pow10Tab)], [(7, .cells 30 [.b16 r5.1, .b16 r6.1]), (5004, q2bWW_30 l4), (6001, q2bS_9 r2)], [], 0⟩ (an2 (cpT (f70_ok _ _ _ hr6)) trivial) ?_
      refine thenQ_normal ?_
      obtain ⟨ob2, h⟩ := chk_some h
      refine q2rr [] [] ⟨43, [(0, .str x1), (4, .own 5004), (10, .own 6001), (11, .i (lZ r2)), (12, .i (n3 : Int)), (1000000, .elem 32 1 T0F 0 0), (1000001, intG mxl), (1000004, errG), (1000005, errG), (1000006, .tab .u64 Lib.pow10Tab)], [(5004, .rows 30 2 ((l4).length + 1) (appF (l4).length (encF eWW q2dWW l4) (lstF 2 [.b16 r5.1, .b16 r6.1]))), (6001, q2bS_9 r2)], [], 0⟩ (an1 ob2) ?_
      refine blockQ_normal ?_
      refine thenQ_normal ?_
      refine AWp.le (Le.mk (s' := ⟨43, [(0, .str x1), (4, .own 5004), (10, .own 6001), (11, .i (lZ r2)), (12, .i (n3 : Int)), (1000000, .elem 32 1 T0F 0 0), (1000001, intG mxl), (1000004, errG), (1000005, errG), (1000006, .tab .u64 Lib.pow10Tab)], [(5004, q2bWW_30 (l4 ++ [(r5.1, r6.1)])), (6001, q2bS_9 r2)], [], 0⟩) rfl rfl ⟨.refl _, .refl _, .refl _, .refl _, .refl _, .refl _, .refl _, .refl _, .refl _, .refl _, trivial⟩ ⟨⟨_, rfl, (BLe.of (RL.app (RL.self _) (RL.lst (enc := eWW) [(r5.1, r6.1)] rfl rfl (fun _ => rfl))))⟩, ⟨_, rfl, .refl _⟩, trivial⟩) ?_
      obtain ⟨ob3p, h⟩ := chk_some h
      have ob3 : -9223372036854775808 ≤ ((n3 : Int) + (1 : Int)) ∧ ((n3 : Int) + (1 : Int)) ≤ 9223372036854775807 := ⟨by omega, ob3p⟩
      refine q2rr [] [] ⟨43, [(0, .str x1), (4, .own 5004), (10, .own 6001), (11, .i (lZ r2)), (12, .i (((n3 + 1) : Nat) : Int)), (1000000, .elem 32 1 T0F 0 0), (1000001, intG mxl), (1000004, errG), (1000005, errG), (1000006, .tab .u64 Lib.pow10Tab)], [(5004, q2bWW_30 (l4 ++ [(r5.1, r6.1)])), (6001, q2bS_9 r2)], [], 0⟩ (an1 ob3) ?_
      rw [hC0] at h
      exact loopQ_normal (_, (n3 + 1), (l4 ++ [(r5.1, r6.1)])) (Le.mk rfl rfl ⟨.refl _, .refl _, .refl _, .refl _, .refl _, .refl _, .refl _, .refl _, .refl _, .refl _, trivial⟩ ⟨⟨_, rfl, .refl _⟩, ⟨_, rfl, .refl _⟩, trivial⟩) h (Nat.lt_succ_self _)
    ·
      replace h := ite_fb hc1 h
      refine AWp.exit ?_
      refine thenQ_exit ?_
      refine thenQ_exit ?_
      refine blockQ_same ?_
      exact joinQ_normal (l4) (Le.mk rfl rfl ⟨.refl _, .refl _, .refl _, .refl _, .refl _, .refl _, .refl _, trivial⟩ ⟨⟨_, rfl, .refl _⟩, trivial⟩) h
  ·
    rintro l7 h
    replace h := (congrFun hK1 _).symm.trans h
    refine AWp.seq ?_
    refine AWp.seq ?_
    obtain ⟨r8, hr8, h⟩ := bind_ok h
    refine q2rr [] [(1, ⟨[q2aWW l7], [], [], [], .str r8, [], [5004], [0, 6]⟩)] ⟨43, [(4, .own 5004), (36, .bool (!(r8 == x1))), (1000000, .elem 32 1 T0F 0 0), (1000001, intG mxl), (1000004, errG), (1000005, errG), (1000006, .tab .u64 Lib.pow10Tab)], (f40z0 l7), [], 0⟩ (an1 (cpL (c := true) (f40z0 l7) [5004] [.own 5004] (fun _ => (f35_ok _ _ hr8)) (fun _ => ⟨.refl _, trivial⟩) (.inr ⟨rfl, trivial⟩))) ?_
    refine thenQ_normal ?_
    refine AWp.cond (b := (!(r8 == x1))) (by kernel_rfl) (fun hc2 => ?_) (fun hc2 => ?_)
    ·
      replace h := ite_tb hc2 h
      refine q2rq [] [] ⟨43, [(2, .nils), (3, .i (2 : Int)), (1000000, .elem 32 1 T0F 0 0), (1000001, intG mxl), (1000004, errG), (1000005, errG), (1000006, .tab .u64 Lib.pow10Tab)], [], [], 0⟩ trivial ?_
      refine AWp.le (Le.trans (Le.nilOwn 2 3000 30 2 (encF eWW q2dWW []) rfl rfl (Nat.le_of_ble_eq_true rfl)) (Le.mk (s' := ⟨43, [(2, .own 3000), (3, .i (2 : Int)), (1000000, .elem 32 1 T0F 0 0), (1000001, intG mxl), (1000004, errG), (1000005, errG), (1000006, .tab .u64 Lib.pow10Tab)], (f40z1), [], 0⟩) rfl rfl ⟨.refl _, .refl _, .refl _, .refl _, .refl _, .refl _, .refl _, trivial⟩ ⟨⟨_, rfl, .refl _⟩, trivial⟩)) ?_
      have hret := Option.some.inj h
      subst hret
      refine AWp.le (Le.mk (s' := ⟨43, [(2, .own 3000), (3, .i (2 : Int))], (f40z1), [], 0⟩) rfl rfl ⟨.refl _, .refl _, trivial⟩ ⟨⟨_, rfl, .refl _⟩, trivial⟩) ?_
      refine AWp.ret ?_
      refine thenQ_ret ?_
      exact bodyQ_ret _ rfl ⟨rfl, rfl⟩ rfl
    ·
      replace h := ite_fb hc2 h
      refine AWp.skip ?_
      refine thenQ_normal ?_
      refine AWp.seq ?_
      refine AWp.seq ?_
      obtain ⟨r9, hr9, h⟩ := bind_ok h
      refine q2rr [] [(1, ⟨[q2aWW l7], [], [], [], .i r9, [], [5004], []⟩)] ⟨43, [(4, .own 5004), (8, .i r9), (1000000, .elem 32 1 T0F 0 0), (1000001, intG mxl), (1000004, errG), (1000005, errG), (1000006, .tab .u64 Lib.pow10Tab)], (f40z0 l7), [], 0⟩ (an1 (cpL (c := true) (f40z0 l7) [5004] [.own 5004] (fun _ => (f13_ok _ _ hr9)) (fun _ => ⟨.refl _, trivial⟩) (.inr ⟨rfl, trivial⟩))) ?_
      refine thenQ_normal ?_
      refine q2rq [] [] ⟨43, [(4, .own 5004), (8, .i r9), (40, .bool (r9 != (0 : Int))), (1000000, .elem 32 1 T0F 0 0), (1000001, intG mxl), (1000004, errG), (1000005, errG), (1000006, .tab .u64 Lib.pow10Tab)], (f40z0 l7), [], 0⟩ trivial ?_
      refine AWp.cond (b := (r9 != (0 : Int))) (by kernel_rfl) (fun hc3 => ?_) (fun hc3 => ?_)
      ·
        replace h := ite_tb hc3 h
        refine q2rq [] [] ⟨43, [(2, .nils), (3, .i r9), (1000000, .elem 32 1 T0F 0 0), (1000001, intG mxl), (1000004, errG), (1000005, errG), (1000006, .tab .u64 Lib.pow10Tab)], [], [], 0⟩ trivial ?_
        refine AWp.le (Le.trans (Le.nilOwn 2 3000 30 2 (encF eWW q2dWW []) rfl rfl (Nat.le_of_ble_eq_true rfl)) (Le.mk (s' := ⟨43, [(2, .own 3000), (3, .i r9), (1000000, .elem 32 1 T0F 0 0), (1000001, intG mxl), (1000004, errG), (1000005, errG), (1000006, .tab .u64 Lib.pow10Tab)], (f40z1), [], 0⟩) rfl rfl ⟨.refl _, .refl _, .refl _, .refl _, .refl _, .refl _, .refl _, trivial⟩ ⟨⟨_, rfl, .refl _⟩, trivial⟩)) ?_
        have hret := Option.some.inj h
        subst hret
        refine AWp.le (Le.mk (s' := ⟨43, [(2, .own 3000), (3, .i r9)], (f40z1), [], 0⟩) rfl rfl ⟨.refl _, .refl _, trivial⟩ ⟨⟨_, rfl, .refl _⟩, trivial⟩) ?_
        refine AWp.ret ?_
        refine thenQ_ret ?_
        exact bodyQ_ret _ rfl ⟨rfl, rfl⟩ rfl
      ·
        replace h := ite_fb hc3 h
        refine AWp.skip ?_
        refine thenQ_normal ?_
        refine q2rq [] [] ⟨43, [(2, .own 5004), (3, .i (0 : Int)), (1000000, .elem 32 1 T0F 0 0), (1000001, intG mxl), (1000004, errG), (1000005, errG), (1000006, .tab .u64 Lib.pow10Tab)], (f40z0 l7), [], 0⟩ trivial ?_
        refine AWp.le (Le.trans (Le.ren (swapN 5004 3000) (swapN_inv 5004 3000) rfl) (Le.mk (s' := ⟨43, [(2, .own 3000), (3, .i (0 : Int)), (1000000, .elem 32 1 T0F 0 0), (1000001, intG mxl), (1000004, errG), (1000005, errG), (1000006, .tab .u64 Lib.pow10Tab)], [(3000, q2bWW_30 l7)], [], 0⟩) rfl rfl ⟨.refl _, .refl _, .refl _, .refl _, .refl _, .refl _, .refl _, trivial⟩ ⟨⟨_, rfl, .refl _⟩, trivial⟩)) ?_
        have hret := Option.some.inj h
        subst hret
        refine AWp.le (Le.mk (s' := ⟨43, [(2, .own 3000), (3, .i (0 : Int))], [(3000, q2bWW_30 l7)], [], 0⟩) rfl rfl ⟨.refl _, .refl _, trivial⟩ ⟨⟨_, rfl, .refl _⟩, trivial⟩) ?_
        refine AWp.ret ?_
        exact bodyQ_ret _ rfl ⟨rfl, rfl⟩ rfl
abbrev f10z0 (x1 : List (BitVec 16 × BitVec 16)) : List V := [vL 2 eWW (default : BitVec 16 × BitVec 16) x1]
def f10 (x1 : List (BitVec 16 × BitVec 16)) : Option Bool :=
  (f12 ).bind fun (r2 : Bool) =>
  if ((!r2) || (decide ((((x1).length : Nat) : Int) > (30 : Int)))) then (
  (f12 ).bind fun (r3 : Bool) =>
  some r3
  ) else (
  (f14 x1).bind fun (r4 : List (BitVec 16 × BitVec 16)) =>
  (f35 r4).bind fun (r5 : List UInt8) =>
  (f36 x1).bind fun (r6 : List UInt8) =>
  if (!(r5 == r6)) = true then (
  some false
  ) else (
  (f14 x1).bind fun (r7 : List (BitVec 16 × BitVec 16)) =>
  (f38 r7).bind fun (r8 : List (BitVec 16)) =>
  (f39 x1).bind fun (r9 : List (BitVec 16)) =>
  (f37 r8 r9).bind fun (r10 : Bool) =>
  if (!r10) then (
  some false
  ) else (
  (f15 x1).bind fun (r11 : Int) =>
  if (r11 != (0 : Int)) then (
  some true
  ) else (
  (f40 r5).bind fun (r12 : Int × (List (BitVec 16 × BitVec 16))) =>
  optc ((r12.1 == (0 : Int)) == true) (f22 r12.2 x1) fun (r13 : Bool) =>
  some ((r12.1 == (0 : Int)) && r13)
  )
  )
  )
  )
set_option maxRecDepth 100000 in
theorem f10_ok  (x1 : List (BitVec 16 × BitVec 16)) (r : Bool) (h : f10 x1 = some r)  : Spec1 Tryz.prog 10 [(0, .elem 32 1 T0F 0 0), (1, intG mxl), (4, errG), (5, errG), (6, .tab .u64 Lib.pow10Tab)] [] [] [vL 2 eWW (default : BitVec 16 × BitVec 16) x1] (.bool r) [] := by
  unfold f10 at h
  refine Spec1.body 0 _ _ Tryz.func10 rfl Tryz.ntmps10 rfl rfl ?_
  refine q2rq [] [] ⟨45, [(0, q2aWW x1), (1000000, .elem 32 1 T0F 0 0), (1000001, intG mxl), (1000004, errG), (1000005, errG), (1000006, .tab .u64 Lib.pow10Tab)], [], [], 0⟩ trivial ?_
  refine AWp.seq ?_
  refine AWp.seq ?_
  obtain ⟨r2, hr2, h⟩ := bind_ok h
  have ob0 := idA (((!r2) == false) = true)
  have ob1 := idA (((!r2) == false) = true)
  have ob2 := bqA (!r2) false
  refine q2rr [] [(0, ⟨[], [], [], [], .bool r2, [], [], [0, 6]⟩)] ⟨45, [(0, q2aWW x1), (12, .bool ((!r2) || (decide ((lZ x1) > (30 : Int))))), (1000000, .elem 32 1 T0F 0 0), (1000001, intG mxl), (1000004, errG), (1000005, errG), (1000006, .tab .u64 Lib.pow10Tab)], [], [], 0⟩ (an4 (cpT (f12_ok _ hr2)) (an1 ob0) (an1 ob1) ob2) ?_
  refine thenQ_normal ?_
  refine AWp.cond (b := ((!r2) || (decide ((lZ x1) > (30 : Int))))) (by kernel_rfl) (fun hc1 => ?_) (fun hc1 => ?_)
  ·
    replace h := ite_tb hc1 h
    refine AWp.seq ?_
    obtain ⟨r3, hr3, h⟩ := bind_ok h
    refine q2rr [] [(0, ⟨[], [], [], [], .bool r3, [], [], [0, 6]⟩)] ⟨45, [(2, .bool r3), (1000000, .elem 32 1 T0F 0 0), (1000001, intG mxl), (1000004, errG), (1000005, errG), (1000006, .tab .u64 Lib.pow10Tab)], [], [], 0⟩ (an1 (cpT (f12_ok _ hr3))) ?_
    refine thenQ_normal ?_
    have hret := Option.some.inj h
    subst hret
    refine AWp.le (Le.mk (s' := ⟨45, [(2, .bool r3)], [], [], 0⟩) rfl rfl ⟨.refl _, trivial⟩ trivial) ?_
    refine AWp.ret ?_
    refine thenQ_ret ?_
    exact bodyQ_ret _ rfl ⟨rfl, rfl⟩ rfl
  ·
    replace h := ite_fb hc1 h
    refine AWp.skip ?_
    refine thenQ_normal ?_
    refine AWp.seq ?_
    obtain ⟨r4, hr4, h⟩ := bind_ok h
    obtain ⟨r5, hr5, h⟩ := bind_ok h
    refine q2rr [] [(1, ⟨(f10z0 x1), [], [], [(6001, q2bWW_30 r4)], .own 6001, [6001], [], []⟩), (2, ⟨[q2aWW r4], [], [], [], .str r5, [], [6001], [0, 6]⟩)] ⟨45, [(0, q2aWW x1), (3, .str r5), (1000000, .elem 32 1 T0F 0 0), (1000001, intG mxl), (1000004, errG), (1000005, errG), (1000006, .tab .u64 Lib.pow10Tab)], [], [], 0⟩ (an2 (cpT (Spec1.ren (swapN 3000 6001) (swapN_inv 3000 6001) rfl (f14_ok _ _ hr4))) (cpL (c := true) [(6001, q2bWW_30 r4)] [6001] [.own 6001] (fun _ => (f35_ok _ _ hr5)) (fun _ => ⟨.refl _, trivial⟩) (.inr ⟨rfl, trivial⟩))) ?_
    refine thenQ_normal ?_
    refine AWp.seq ?_
    refine AWp.seq ?_
    obtain ⟨r6, hr6, h⟩ := bind_ok h
    by_cases hg4_4 : (!(r5 == r6)) = true
    ·
      replace h := ite_t hg4_4 h
      have ob3 := idA (false = true)
      have ob4 := idA (false = true)
      have ob5 := idA (false = true)
      have ob6 := idA (false = true)
      have ob7 := idA (false = true)
      have ob8 := idA (false = true)
      have ob9 : true = true → true = false → false = true := by first | decide | omega | simp | (intro h; cases h)
      refine q2rr [] [(2, ⟨(f10z0 x1), [], [], [], .str r6, [], [], [6]⟩), (4, ⟨[], [], [], [], (.bool true), [], [0], []⟩), (6, ⟨[], [], [], [], .any, [], [], []⟩), (7, ⟨[], [], [], [], .any, [], [], []⟩), (9, ⟨[], [], [], [], .any, [], [], []⟩), (10, ⟨[], [], [], [], .bool false, [], [], []⟩)] ⟨45, [(0, q2aWW x1), (3, .str r5), (29, .bool true), (1000000, .elem 32 1 T0F 0 0), (1000001, intG mxl), (1000004, errG), (1000005, errG), (1000006, .tab .u64 Lib.pow10Tab)], [], [], 0⟩ (ac6 (cpT (f36_ok _ _ hr6)) (show ((.bool (!(r5 == r6))) : V) = (.bool true) from (congrArg (fun x => ((.bool x) : V)) hg4_4)) (And.intro (show (callP Tryz.prog false 14 [] [] [] [] [] (f10z0 x1) [] (.any) []) from ⟨nofun, nofun, .inl rfl⟩) (an1 ob3)) (And.intro (show (callP Tryz.prog false 38 [] [] [] [] [] [.any] [] (.any) []) from ⟨nofun, nofun, .inl rfl⟩) (an1 ob4)) (And.intro (show (callP Tryz.prog false 39 [] [] [] [] [] (f10z0 x1) [] (.any) []) from ⟨nofun, nofun, .inl rfl⟩) (an1 ob5)) (And.intro (show (callP Tryz.prog false 37 [] [] [] [] [] [.any, .any] [] (.bool false) []) from ⟨nofun, nofun, .inl rfl⟩) (an2 ob6 ob7)) (an2 (an1 ob8) ob9)) ?_
      refine thenQ_normal ?_
      refine AWp.cond (b := true) (by kernel_rfl) (fun hc => ?_) (fun hc => ?_)
      ·
        clear hc
        refine q2rq [] [] ⟨45, [(2, .bool false), (1000000, .elem 32 1 T0F 0 0), (1000001, intG mxl), (1000004, errG), (1000005, errG), (1000006, .tab .u64 Lib.pow10Tab)], [], [], 0⟩ trivial ?_
        have hret := Option.some.inj h
        subst hret
        refine AWp.le (Le.mk (s' := ⟨45, [(2, .bool false)], [], [], 0⟩) rfl rfl ⟨.refl _, trivial⟩ trivial) ?_
        refine AWp.ret ?_
        refine thenQ_ret ?_
        exact bodyQ_ret _ rfl ⟨rfl, rfl⟩ rfl
      ·
        cases hc
    ·
      replace h := ite_f hg4_4 h
      obtain ⟨r7, hr7, h⟩ := bind_ok h
      obtain ⟨r8, hr8, h⟩ := bind_ok h
      obtain ⟨r9, hr9, h⟩ := bind_ok h
      obtain ⟨r10, hr10, h⟩ := bind_ok h
      have ob3 := idA (true = true)
      have ob4 := idA (true = true)
      have ob5 := idA (true = true)
      have ob6 : true = true → false = false → true = true := by first | decide | omega | simp | (intro h; cases h)
      refine q2rr [] [(2, ⟨(f10z0 x1), [], [], [], .str r6, [], [], [6]⟩), (4, ⟨[], [], [], [], (.bool false), [], [0], []⟩), (6, ⟨(f10z0 x1), [], [], [(6002, q2bWW_30 r7)], .own 6002, [6002], [], []⟩), (7, ⟨[q2aWW r7], [], [], [(6003, q2bW_28 r8)], .own 6003, [6003], [6002], []⟩), (9, ⟨(f10z0 x1), [], [], [(6004, q2bW_28 r9)], .own 6004, [6004], [], []⟩), (10, ⟨[q2aW r8, q2aW r9], [], [], [], .bool r10, [], [6003, 6004], []⟩)] ⟨45, [(0, q2aWW x1), (3, .str r5), (29, .bool (!r10)), (1000000, .elem 32 1 T0F 0 0), (1000001, intG mxl), (1000004, errG), (1000005, errG), (1000006, .tab .u64 Lib.pow10Tab)], [], [], 0⟩ (ac6 (cpT (f36_ok _ _ hr6)) (show ((.bool (!(r5 == r6))) : V) = (.bool false) from (congrArg (fun x => ((.bool x) : V)) (Bool.eq_false_iff.2 hg4_4))) (And.intro (cpT (Spec1.ren (swapN 3000 6002) (swapN_inv 3000 6002) rfl (f14_ok _ _ hr7))) (an1 ob3)) (cpL (c := true) [(6002, q2bWW_30 r7)] [6002] [.own 6002] (fun _ => (Spec1.ren (swapN 3000 6003) (swapN_inv 3000 6003) rfl (f38_ok _ _ hr8))) (fun _ => ⟨.refl _, trivial⟩) (.inr ⟨rfl, ⟨(fun _ _ _ _ => eW_flat _ _), trivial⟩⟩)) (And.intro (cpT (Spec1.ren (swapN 3000 6004) (swapN_inv 3000 6004) rfl (f39_ok _ _ hr9))) (an1 ob4)) (cpL (c := true) [(6003, q2bW_28 r8), (6004, q2bW_28 r9)] [6003, 6004] [.own 6003, .own 6004] (fun _ => (f37_ok _ _ _ hr10)) (fun _ => ⟨.refl _, .refl _, trivial⟩) (.inr ⟨rfl, trivial⟩)) (an2 (an1 ob5) ob6)) ?_
      refine thenQ_normal ?_
      refine AWp.cond (b := (!r10)) (by kernel_rfl) (fun hc3 => ?_) (fun hc3 => ?_)
      ·
        replace h := ite_tb hc3 h
        refine q2rq [] [] ⟨45, [(2, .bool false), (1000000, .elem 32 1 T0F 0 0), (1000001, intG mxl), (1000004, errG), (1000005, errG), (1000006, .tab .u64 Lib.pow10Tab)], [], [], 0⟩ trivial ?_
        have hret := Option.some.inj h
        subst hret
        refine AWp.le (Le.mk (s' := ⟨45, [(2, .bool false)], [], [], 0⟩) rfl rfl ⟨.refl _, trivial⟩ trivial) ?_
        refine AWp.ret ?_
        refine thenQ_ret ?_
        exact bodyQ_ret _ rfl ⟨rfl, rfl⟩ rfl
      ·
        replace h := ite_fb hc3 h
        refine AWp.skip ?_
        refine thenQ_normal ?_
        refine AWp.seq ?_
        refine AWp.seq ?_
        obtain ⟨r11, hr11, h⟩ := bind_ok h
        refine q2rr [] [(1, ⟨(f10z0 x1), [], [], [], .i r11, [], [], []⟩)] ⟨45, [(0, q2aWW x1), (3, .str r5), (32, .bool (r11 != (0 : Int))), (1000000, .elem 32 1 T0F 0 0), (1000001, intG mxl), (1000004, errG), (1000005, errG), (1000006, .tab .u64 Lib.pow10Tab)], [], [], 0⟩ (an1 (cpT (f15_ok _ _ hr11))) ?_
        refine thenQ_normal ?_
        refine AWp.cond (b := (r11 != (0 : Int))) (by kernel_rfl) (fun hc4 => ?_) (fun hc4 => ?_)
        ·
          replace h := ite_tb hc4 h
          refine q2rq [] [] ⟨45, [(2, .bool true), (1000000, .elem 32 1 T0F 0 0), (1000001, intG mxl), (1000004, errG), (1000005, errG), (1000006, .tab .u64 Lib.pow10Tab)], [], [], 0⟩ trivial ?_
          have hret := Option.some.inj h
          subst hret
          refine AWp.le (Le.mk (s' := ⟨45, [(2, .bool true)], [], [], 0⟩) rfl rfl ⟨.refl _, trivial⟩ trivial) ?_
          refine AWp.ret ?_
          refine thenQ_ret ?_
          exact bodyQ_ret _ rfl ⟨rfl, rfl⟩ rfl
        ·
          replace h := ite_fb hc4 h
          refine AWp.skip ?_
          refine thenQ_normal ?_
          refine AWp.seq ?_
          obtain ⟨r12, hr12, h⟩ := bind_ok h
          refine q2rr [] [(1, ⟨[.str r5], [], [], [(6005, q2bWW_30 r12.2)], .tup [.own 6005, .i r12.1], [6005], [], [0, 1, 4, 5, 6]⟩)] ⟨45, [(0, q2aWW x1), (4, .own 6005), (5, .i r12.1), (1000000, .elem 32 1 T0F 0 0), (1000001, intG mxl), (1000004, errG), (1000005, errG), (1000006, .tab .u64 Lib.pow10Tab)], [(6005, q2bWW_30 r12.2)], [], 0⟩ (an1 (cpT (Spec1.ren (swapN 3000 6005) (swapN_inv 3000 6005) rfl (f40_ok (mxl := mxl) _ _ hr12)))) ?_
          refine thenQ_normal ?_
          refine AWp.seq ?_
          obtain ⟨r13, hr13, h⟩ := optc_some h
          have ob10 := idA (((r12.1 == (0 : Int)) == true) = true)
          have ob11 := idA (((r12.1 == (0 : Int)) == true) = true)
          have ob12 := bqA (r12.1 == (0 : Int)) true
          refine q2rr [] [(5, ⟨[q2aWW r12.2, q2aWW x1], [], [], [], .bool r13, [], [6005], []⟩)] ⟨45, [(2, .bool ((r12.1 == (0 : Int)) && r13)), (1000000, .elem 32 1 T0F 0 0), (1000001, intG mxl), (1000004, errG), (1000005, errG), (1000006, .tab .u64 Lib.pow10Tab)], [], [], 0⟩ (an2 (And.intro (cpL [(6005, q2bWW_30 r12.2)] [6005] [.own 6005, q2aWW x1] (fun hc => (f22_ok _ _ _ (hr13 hc))) (fun _ => ⟨.refl _, .refl _, trivial⟩) (.inr ⟨rfl, trivial⟩)) (an2 ob10 ob11)) ob12) ?_
          refine thenQ_normal ?_
          have hret := Option.some.inj h
          subst hret
          refine AWp.le (Le.mk (s' := ⟨45, [(2, .bool ((r12.1 == (0 : Int)) && r13))], [], [], 0⟩) rfl rfl ⟨.refl _, trivial⟩ trivial) ?_
          refine AWp.ret ?_
          exact bodyQ_ret _ rfl ⟨rfl, rfl⟩ rfl
end Go.Abs
