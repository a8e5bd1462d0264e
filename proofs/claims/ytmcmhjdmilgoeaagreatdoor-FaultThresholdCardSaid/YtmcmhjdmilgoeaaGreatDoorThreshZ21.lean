/- Part 21 of the proof: X19. -/
import Derived.Test.YtmcmhjdmilgoeaaGreatDoorThreshZ20
namespace Go.Abs
open Go Go.Proofs
set_option maxHeartbeats 4000000
set_option maxRecDepth 100000 in
theorem f61_ok  (x1 : BitVec 16) (x2 : BitVec 16) (r : List UInt8) (h : f61 x1 x2 = some r)  : Spec1 Tryz.prog 61 [(0, .elem 32 1 T0F 0 0), (6, .elem 20 1 T6F 0 0)] [] [] [.agg [.b16 x1, .b16 x2]] (.str r) [] := by
  unfold f61 at h
  refine Spec1.body 0 _ _ Tryz.func61 rfl Tryz.ntmps61 rfl rfl ?_
  refine q2rq [] [] [1, 1000000, 1000006] [1] ⟨29, [(1, .ptr 1 0), (1000000, .elem 32 1 T0F 0 0), (1000006, .elem 20 1 T6F 0 0)], [(1, .cells 30 [.b16 x1, .b16 x2])], [], 0⟩ trivial ?_
  refine q2rq [] [] [1, 3, 1000000, 1000006] [1] ⟨29, [(1, .ptr 1 0), (3, .nils), (1000000, .elem 32 1 T0F 0 0), (1000006, .elem 20 1 T6F 0 0)], [(1, .cells 30 [.b16 x1, .b16 x2])], [], 0⟩ trivial ?_
  obtain ⟨K1, hK1, h⟩ := jn_some h
  refine AWp.join (α := List (List UInt8)) (fun (l4 : List (List UInt8)) => ⟨29, [(1, .ptr 1 0), (3, .own 13), (1000000, .elem 32 1 T0F 0 0), (1000006, .elem 20 1 T6F 0 0)], [(1, .cells 30 [.b16 x1, .b16 x2]), (13, q2bS_9 l4)], [], 0⟩) (fun x => K1 x = some r) ?_ ?_
  ·
    refine q2rq [] [] [1, 3, 6, 1000000, 1000006] [1] ⟨29, [(1, .ptr 1 0), (3, .nils), (6, .bool (!(x1 == (q2w16 0)))), (1000000, .elem 32 1 T0F 0 0), (1000006, .elem 20 1 T6F 0 0)], [(1, .cells 30 [.b16 x1, .b16 x2])], [], 0⟩ trivial ?_
    refine AWp.cond (b := (!(x1 == (q2w16 0)))) (by kernel_rfl) (fun hc1 => ?_) (fun hc1 => ?_)
    ·
      replace h := ite_tb hc1 h
      obtain ⟨r3, hr3, h⟩ := bind_ok h
      obtain ⟨ob0, h⟩ := chk_some h
      have ob1 : (0 + 1) * 16 ≤ 140737488355328 := by first | decide | omega | simp | (intro h; cases h)
      refine q2rr [] [(3, ⟨[.b16 x1], [], [], [], .str r3, [], [], [0, 6]⟩)] [1, 3, 1000000, 1000006] [1, 13] ⟨29, [(1, .ptr 1 0), (3, .own 13), (1000000, .elem 32 1 T0F 0 0), (1000006, .elem 20 1 T6F 0 0)], [(1, .cells 30 [.b16 x1, .b16 x2]), (13, .rows 9 1 (0 + 1) (lstF 1 [.str (([98, 121, 122, 32] : List UInt8) ++ r3)]))], [], 0⟩ (an3 (cpT (f83_ok _ _ hr3)) ob0 ob1) ?_
      have eq2 : [(([98, 121, 122, 32] : List UInt8) ++ r3)] = ([(([98, 121, 122, 32] : List UInt8) ++ r3)]) := by first | omega | (simp only [List.length_cons, List.length_nil] at *; omega) | (simp; done) | (simp_all; done) | (simp_all; omega) | rfl
      exact joinQ_normal ([(([98, 121, 122, 32] : List UInt8) ++ r3)]) (Le.trans (Le.mk (s' := ⟨29, [(1, .ptr 1 0), (3, .own 13), (1000000, .elem 32 1 T0F 0 0), (1000006, .elem 20 1 T6F 0 0)], [(1, .cells 30 [.b16 x1, .b16 x2]), (13, q2bS_9 [(([98, 121, 122, 32] : List UInt8) ++ r3)])], [], 0⟩) rfl rfl ⟨.refl _, .refl _, .refl _, .refl _, trivial⟩ ⟨⟨_, rfl, .refl _⟩, ⟨_, rfl, (BLe.of (RL.app0 (RL.lst (enc := eS) [(([98, 121, 122, 32] : List UInt8) ++ r3)] rfl rfl (fun _ => rfl))))⟩, trivial⟩) (Le.mk rfl rfl ⟨.refl _, .refl _, .refl _, .refl _, trivial⟩ ⟨⟨_, rfl, .refl _⟩, ⟨_, rfl, (.L eq2)⟩, trivial⟩)) h
    ·
      replace h := ite_fb hc1 h
      refine AWp.skip ?_
      exact joinQ_normal ([]) (Le.trans (Le.trans (Le.nilOwn 3 13 9 1 (encF eS [] []) rfl rfl (Nat.le_of_ble_eq_true rfl)) (Le.mk (s' := ⟨29, [(1, .ptr 1 0), (3, .own 13), (6, .bool (!(x1 == (q2w16 0)))), (1000000, .elem 32 1 T0F 0 0), (1000006, .elem 20 1 T6F 0 0)], [(1, .cells 30 [.b16 x1, .b16 x2]), (13, q2bS_9 [])], [], 0⟩) rfl rfl ⟨.refl _, .refl _, .refl _, .refl _, .refl _, trivial⟩ ⟨⟨_, rfl, .refl _⟩, ⟨_, rfl, .refl _⟩, trivial⟩)) (Le.mk rfl rfl ⟨.refl _, .refl _, .refl _, .refl _, trivial⟩ ⟨⟨_, rfl, .refl _⟩, ⟨_, rfl, .refl _⟩, trivial⟩)) h
  ·
    rintro l4 h
    replace h := (congrFun hK1 _).symm.trans h
    obtain ⟨K2, hK2, h⟩ := jn_some h
    refine AWp.join (α := List (List UInt8)) (fun (l6 : List (List UInt8)) => ⟨29, [(3, .own 13), (1000000, .elem 32 1 T0F 0 0), (1000006, .elem 20 1 T6F 0 0)], [(13, q2bS_9 l6)], [], 0⟩) (fun x => K2 x = some r) ?_ ?_
    ·
      refine q2rq [] [] [1, 3, 16, 1000000, 1000006] [1, 13] ⟨29, [(1, .ptr 1 0), (3, .own 13), (16, .bool (!(x2 == (q2w16 0)))), (1000000, .elem 32 1 T0F 0 0), (1000006, .elem 20 1 T6F 0 0)], [(1, .cells 30 [.b16 x1, .b16 x2]), (13, q2bS_9 l4)], [], 0⟩ trivial ?_
      refine AWp.cond (b := (!(x2 == (q2w16 0)))) (by kernel_rfl) (fun hc2 => ?_) (fun hc2 => ?_)
      ·
        replace h := ite_tb hc2 h
        obtain ⟨r5, hr5, h⟩ := bind_ok h
        obtain ⟨ob3, h⟩ := chk_some h
        obtain ⟨ob4, h⟩ := chk_some h
        refine q2rr [] [(3, ⟨[.b16 x2], [], [], [], .str r5, [], [], [0, 6]⟩)] [3, 1000000, 1000006] [13] ⟨29, [(3, .own 13), (1000000, .elem 32 1 T0F 0 0), (1000006, .elem 20 1 T6F 0 0)], [(13, .rows 9 1 ((l4).length + 1) (appF (l4).length (encF eS [] l4) (lstF 1 [.str (cs4 ++ r5)])))], [], 0⟩ (an3 (cpT (f83_ok _ _ hr5)) ob3 ob4) ?_
        exact joinQ_normal ((l4 ++ [(cs4 ++ r5)])) (Le.trans (Le.mk (s' := ⟨29, [(3, .own 13), (1000000, .elem 32 1 T0F 0 0), (1000006, .elem 20 1 T6F 0 0)], [(13, q2bS_9 (l4 ++ [(cs4 ++ r5)]))], [], 0⟩) rfl rfl ⟨.refl _, .refl _, .refl _, trivial⟩ ⟨⟨_, rfl, (BLe.of (RL.app (RL.self _) (RL.lst (enc := eS) [(cs4 ++ r5)] rfl rfl (fun _ => rfl))))⟩, trivial⟩) (Le.mk rfl rfl ⟨.refl _, .refl _, .refl _, trivial⟩ ⟨⟨_, rfl, .refl _⟩, trivial⟩)) h
      ·
        replace h := ite_fb hc2 h
        refine AWp.skip ?_
        exact joinQ_normal (l4) (Le.mk rfl rfl ⟨.refl _, .refl _, .refl _, trivial⟩ ⟨⟨_, rfl, .refl _⟩, trivial⟩) h
    ·
      rintro l6 h
      replace h := (congrFun hK2 _).symm.trans h
      refine AWp.seq ?_
      refine q2rq [] [] [3, 26, 1000000, 1000006] [13] ⟨29, [(3, .own 13), (26, .bool ((((l6).length : Nat) : Int) == (0 : Int))), (1000000, .elem 32 1 T0F 0 0), (1000006, .elem 20 1 T6F 0 0)], [(13, q2bS_9 l6)], [], 0⟩ trivial ?_
      refine AWp.cond (b := ((((l6).length : Nat) : Int) == (0 : Int))) (by kernel_rfl) (fun hc3 => ?_) (fun hc3 => ?_)
      ·
        replace h := ite_tb hc3 h
        refine q2rq [] [] [2, 1000000, 1000006] [] ⟨29, [(2, .str ([110, 111, 110, 101] : List UInt8)), (1000000, .elem 32 1 T0F 0 0), (1000006, .elem 20 1 T6F 0 0)], [], [], 0⟩ trivial ?_
        have hret := Option.some.inj h
        subst hret
        refine AWp.le (Le.mk (s' := ⟨29, [(2, .str ([110, 111, 110, 101] : List UInt8))], [], [], 0⟩) rfl rfl ⟨.refl _, trivial⟩ trivial) ?_
        refine AWp.ret ?_
        refine thenQ_ret ?_
        exact bodyQ_ret _ rfl ⟨rfl, rfl⟩ rfl
      ·
        replace h := ite_fb hc3 h
        refine AWp.skip ?_
        refine thenQ_normal ?_
        refine AWp.seq ?_
        obtain ⟨r7, hr7, h⟩ := bind_ok h
        refine q2rr [] [(1, ⟨[q2aS l6, .str ([32] : List UInt8)], [], [], [], .str r7, [], [13], []⟩)] [2, 1000000, 1000006] [] ⟨29, [(2, .str r7), (1000000, .elem 32 1 T0F 0 0), (1000006, .elem 20 1 T6F 0 0)], [], [], 0⟩ (an1 (cpL (c := true) [(13, q2bS_9 l6)] [13] [.own 13, .str ([32] : List UInt8)] (fun _ => (f62_ok _ _ _ hr7)) (fun _ => ⟨.refl _, .refl _, trivial⟩) (.inr ⟨rfl, trivial⟩))) ?_
        refine thenQ_normal ?_
        have hret := Option.some.inj h
        subst hret
        refine AWp.le (Le.mk (s' := ⟨29, [(2, .str r7)], [], [], 0⟩) rfl rfl ⟨.refl _, trivial⟩ trivial) ?_
        refine AWp.ret ?_
        exact bodyQ_ret _ rfl ⟨rfl, rfl⟩ rfl
def f35_L0 (x1 : List (BitVec 16 × BitVec 16)) (K1 : (List (List UInt8)) → Option (List UInt8)) : Nat → (Nat × List (List UInt8)) → Option (List UInt8)
  | 0, _ => none
  | k + 1, (n2, l3) =>
    if (decide ((n2 : Int) < (((x1).length : Nat) : Int))) then (
    chk ((n2 : Int) < (((x1).length : Nat) : Int)) <|
    (f61 ((x1.getD n2 (default : BitVec 16 × BitVec 16)).1) ((x1.getD n2 (default : BitVec 16 × BitVec 16)).2)).bind fun (r4 : List UInt8) =>
    chk (((l3).length + 1) * 16 ≤ 140737488355328) <|
    chk (((n2 : Int) + (1 : Int)) ≤ 9223372036854775807) <|
    (f35_L0 x1 K1 k) ((n2 + 1), (l3 ++ [r4]))
    ) else (
    K1 l3
    )
def f35 (x1 : List (BitVec 16 × BitVec 16)) : Option (List UInt8) :=
  jn (fun (l5 : List (List UInt8)) =>
  (f62 l5 ([32, 124, 32] : List UInt8)).bind fun (r6 : List UInt8) =>
  some r6
  ) fun (K1 : (List (List UInt8)) → Option (List UInt8)) =>
  f35_L0 x1 K1 FUEL (0, [])
set_option maxRecDepth 100000 in
theorem f35_ok  (x1 : List (BitVec 16 × BitVec 16)) (r : List UInt8) (h : f35 x1 = some r)  : Spec1 Tryz.prog 35 [(0, .elem 32 1 T0F 0 0), (6, .elem 20 1 T6F 0 0)] [] [] [vL 2 eWW (default : BitVec 16 × BitVec 16) x1] (.str r) [] := by
  unfold f35 at h
  refine Spec1.body 0 _ _ Tryz.func35 rfl Tryz.ntmps35 rfl rfl ?_
  refine q2rq [] [] [0, 1000000, 1000006] [] ⟨20, [(0, q2aWW x1), (1000000, .elem 32 1 T0F 0 0), (1000006, .elem 20 1 T6F 0 0)], [], [], 0⟩ trivial ?_
  refine q2rq [] [] [0, 3, 1000000, 1000006] [] ⟨20, [(0, q2aWW x1), (3, .nils), (1000000, .elem 32 1 T0F 0 0), (1000006, .elem 20 1 T6F 0 0)], [], [], 0⟩ trivial ?_
  obtain ⟨K1, hK1, h⟩ := jn_some h
  refine AWp.join (α := List (List UInt8)) (fun (l5 : List (List UInt8)) => ⟨20, [(3, .own 5003), (1000000, .elem 32 1 T0F 0 0), (1000006, .elem 20 1 T6F 0 0)], [(5003, q2bS_9 l5)], [], 0⟩) (fun x => K1 x = some r) ?_ ?_
  ·
    refine q2rq [] [] [3, 6, 7, 8, 1000000, 1000006] [] ⟨20, [(3, .nils), (6, q2aWW x1), (7, .int .i64 (((x1).length : Nat) : Int)), (8, .int .i64 (0 : Int)), (1000000, .elem 32 1 T0F 0 0), (1000006, .elem 20 1 T6F 0 0)], [], [], 0⟩ trivial ?_
    refine AWp.block ?_
    refine AWp.loopL (α := Nat × (Nat × List (List UInt8))) (fun x => match x with | (_, n2, l3) => ⟨20, [(3, .own 5003), (6, q2aWW x1), (7, .int .i64 (((x1).length : Nat) : Int)), (8, .int .i64 (n2 : Int)), (1000000, .elem 32 1 T0F 0 0), (1000006, .elem 20 1 T6F 0 0)], [(5003, q2bS_9 l3)], [], 0⟩) (fun x => f35_L0 x1 K1 x.1 x.2 = some r) (fun x => x.1) (FUEL, 0, []) (Le.trans (Le.trans (Le.nilOwn 3 5003 9 1 (encF eS [] []) rfl rfl (Nat.le_of_ble_eq_true rfl)) (Le.mk (s' := ⟨20, [(3, .own 5003), (6, q2aWW x1), (7, .int .i64 (((x1).length : Nat) : Int)), (8, .int .i64 (0 : Int)), (1000000, .elem 32 1 T0F 0 0), (1000006, .elem 20 1 T6F 0 0)], [(5003, q2bS_9 [])], [], 0⟩) rfl rfl ⟨.refl _, .refl _, .refl _, .refl _, .refl _, .refl _, trivial⟩ ⟨⟨_, rfl, .refl _⟩, trivial⟩)) (Le.mk (s' := ⟨20, [(3, .own 5003), (6, q2aWW x1), (7, .int .i64 (((x1).length : Nat) : Int)), (8, .int .i64 (0 : Int)), (1000000, .elem 32 1 T0F 0 0), (1000006, .elem 20 1 T6F 0 0)], [(5003, q2bS_9 [])], [], 0⟩) rfl rfl ⟨.refl _, .refl _, .refl _, .refl _, .refl _, .refl _, trivial⟩ ⟨⟨_, rfl, .refl _⟩, trivial⟩)) h ?_
    rintro ⟨k0, n2, l3⟩ h
    cases k0 with
    | zero => exact nomatch (show (none : Option (List UInt8)) = some r from h)
    | succ k0 =>
    obtain ⟨C0, hC0⟩ : ∃ C, C = f35_L0 x1 K1 k0 := ⟨_, rfl⟩
    replace h := (f35_L0.eq_2 ..).symm.trans h
    try rw [← hC0] at h
    refine q2rq [] [] [3, 6, 7, 8, 9, 1000000, 1000006] [5003] ⟨20, [(3, .own 5003), (6, q2aWW x1), (7, .int .i64 (((x1).length : Nat) : Int)), (8, .int .i64 (n2 : Int)), (9, .bool (decide ((n2 : Int) < (((x1).length : Nat) : Int)))), (1000000, .elem 32 1 T0F 0 0), (1000006, .elem 20 1 T6F 0 0)], [(5003, q2bS_9 l3)], [], 0⟩ trivial ?_
    refine AWp.seq ?_
    refine AWp.cond (b := (decide ((n2 : Int) < (((x1).length : Nat) : Int)))) (by kernel_rfl) (fun hc1 => ?_) (fun hc1 => ?_)
    ·
      replace h := ite_tb hc1 h
      refine AWp.skip ?_
      refine thenQ_normal ?_
      refine AWp.seq ?_
      refine AWp.block ?_
      refine AWp.seq ?_
      obtain ⟨ob0p, h⟩ := chk_some h
      have ob0 : 0 ≤ (n2 : Int) ∧ (n2 : Int) < (((x1).length : Nat) : Int) := ⟨by omega, ob0p⟩
      refine q2rr [] [] [3, 5, 6, 7, 8, 1000000, 1000006] [5, 5003] ⟨20, [(3, .own 5003), (5, .ptr 5 0), (6, q2aWW x1), (7, .int .i64 (((x1).length : Nat) : Int)), (8, .int .i64 (n2 : Int)), (1000000, .elem 32 1 T0F 0 0), (1000006, .elem 20 1 T6F 0 0)], [(5, .cells 30 [.b16 (x1.getD n2 q2dWW).1, .b16 (x1.getD n2 q2dWW).2]), (5003, q2bS_9 l3)], [], 0⟩ (an2 ob0 trivial) ?_
      refine thenQ_normal ?_
      obtain ⟨r4, hr4, h⟩ := bind_ok h
      obtain ⟨ob1, h⟩ := chk_some h
      refine q2rr [] [(2, ⟨[.agg [.b16 (x1.getD n2 q2dWW).1, .b16 (x1.getD n2 q2dWW).2]], [], [], [], .str r4, [], [], [0, 6]⟩)] [3, 6, 7, 8, 1000000, 1000006] [5003] ⟨20, [(3, .own 5003), (6, q2aWW x1), (7, .int .i64 (((x1).length : Nat) : Int)), (8, .int .i64 (n2 : Int)), (1000000, .elem 32 1 T0F 0 0), (1000006, .elem 20 1 T6F 0 0)], [(5003, .rows 9 1 ((l3).length + 1) (appF (l3).length (encF eS [] l3) (lstF 1 [.str r4])))], [], 0⟩ (an2 (cpT (f61_ok _ _ _ hr4)) ob1) ?_
      refine blockQ_normal ?_
      refine thenQ_normal ?_
      refine AWp.le (Le.mk (s' := ⟨20, [(3, .own 5003), (6, q2aWW x1), (7, .int .i64 (((x1).length : Nat) : Int)), (8, .int .i64 (n2 : Int)), (1000000, .elem 32 1 T0F 0 0), (1000006, .elem 20 1 T6F 0 0)], [(5003, q2bS_9 (l3 ++ [r4]))], [], 0⟩) rfl rfl ⟨.refl _, .refl _, .refl _, .refl _, .refl _, .refl _, trivial⟩ ⟨⟨_, rfl, (BLe.of (RL.app (RL.self _) (RL.lst (enc := eS) [r4] rfl rfl (fun _ => rfl))))⟩, trivial⟩) ?_
      obtain ⟨ob2p, h⟩ := chk_some h
      have ob2 : -9223372036854775808 ≤ ((n2 : Int) + (1 : Int)) ∧ ((n2 : Int) + (1 : Int)) ≤ 9223372036854775807 := ⟨by omega, ob2p⟩
      refine q2rr [] [] [3, 6, 7, 8, 1000000, 1000006] [5003] ⟨20, [(3, .own 5003), (6, q2aWW x1), (7, .int .i64 (((x1).length : Nat) : Int)), (8, .int .i64 (((n2 + 1) : Nat) : Int)), (1000000, .elem 32 1 T0F 0 0), (1000006, .elem 20 1 T6F 0 0)], [(5003, q2bS_9 (l3 ++ [r4]))], [], 0⟩ (an1 ob2) ?_
      rw [hC0] at h
      exact loopQ_normal (_, (n2 + 1), (l3 ++ [r4])) (Le.mk rfl rfl ⟨.refl _, .refl _, .refl _, .refl _, .refl _, .refl _, trivial⟩ ⟨⟨_, rfl, .refl _⟩, trivial⟩) h (Nat.lt_succ_self _)
    ·
      replace h := ite_fb hc1 h
      refine AWp.exit ?_
      refine thenQ_exit ?_
      refine thenQ_exit ?_
      refine blockQ_same ?_
      exact joinQ_normal (l3) (Le.mk rfl rfl ⟨.refl _, .refl _, .refl _, trivial⟩ ⟨⟨_, rfl, .refl _⟩, trivial⟩) h
  ·
    rintro l5 h
    replace h := (congrFun hK1 _).symm.trans h
    refine AWp.seq ?_
    obtain ⟨r6, hr6, h⟩ := bind_ok h
    refine q2rr [] [(1, ⟨[q2aS l5, .str ([32, 124, 32] : List UInt8)], [], [], [], .str r6, [], [5003], []⟩)] [2, 1000000, 1000006] [] ⟨20, [(2, .str r6), (1000000, .elem 32 1 T0F 0 0), (1000006, .elem 20 1 T6F 0 0)], [], [], 0⟩ (an1 (cpL (c := true) [(5003, q2bS_9 l5)] [5003] [.own 5003, .str ([32, 124, 32] : List UInt8)] (fun _ => (f62_ok _ _ _ hr6)) (fun _ => ⟨.refl _, .refl _, trivial⟩) (.inr ⟨rfl, trivial⟩))) ?_
    refine thenQ_normal ?_
    have hret := Option.some.inj h
    subst hret
    refine AWp.le (Le.mk (s' := ⟨20, [(2, .str r6)], [], [], 0⟩) rfl rfl ⟨.refl _, trivial⟩ trivial) ?_
    refine AWp.ret ?_
    exact bodyQ_ret _ rfl ⟨rfl, rfl⟩ rfl
def f64 (x1 : List (BitVec 16)) : Option (List (BitVec 16)) := sortO key x1
theorem f64_ok (x1 r : List (BitVec 16)) (h : f64 x1 = some r) : Spec1 Tryz.prog 64 [] [2000] [(2000, bL 28 1 eW 0#16 x1)] [.own 2000, .fn (.func 65) []] (.tup []) [(2000, bL 28 1 eW 0#16 r)] := sortS x1 r h
def f66_L1 (x1 : List (BitVec 16)) (n2 : Nat) (K2 : (Nat × List (BitVec 16)) → Option (List (BitVec 16))) : Nat → (Nat × Nat × List (BitVec 16)) → Option (List (BitVec 16))
  | 0, _ => none
  | k + 1, (n3, n4, l5) =>
    if (decide ((n4 : Int) < ((((x1).length - n2) : Nat) : Int))) then (
    jn (fun ((n6, l7) : Nat × List (BitVec 16)) =>
    chk (((n4 : Int) + (1 : Int)) ≤ 9223372036854775807) <|
    (f66_L1 x1 n2 K2 k) (n6, (n4 + 1), l7)
    ) fun (K3 : (Nat × List (BitVec 16)) → Option (List (BitVec 16))) =>
    chk ((n4 : Int) < ((((x1).length - n2) : Nat) : Int)) <|
    chk ((n2 + n4) < (l5).length) <|
    chk (-9223372036854775808 ≤ ((n4 : Int) - (1 : Int)) ∧ ((n4 : Int) - (1 : Int)) ≤ 9223372036854775807) <|
    chk (0 ≤ ((n4 : Int) - (1 : Int)) ∧ ((n4 : Int) - (1 : Int)) < ((((x1).length - n2) : Nat) : Int)) <|
    chk ((n2 + ((((n4 : Int) - (1 : Int))).toNat)) < (l5).length) <|
    if (!((l5.getD (n2 + n4) 0#16) == (l5.getD (n2 + ((((n4 : Int) - (1 : Int))).toNat)) 0#16))) then (
    chk ((n4 : Int) < ((((x1).length - n2) : Nat) : Int)) <|
    chk ((n2 + n4) < (l5).length) <|
    chk ((n3 : Int) < (((l5).length : Nat) : Int)) <|
    chk (n3 < (l5).length) <|
    chk (((n3 : Int) + (1 : Int)) ≤ 9223372036854775807) <|
    K3 ((n3 + 1), (l5.set n3 (l5.getD (n2 + n4) 0#16)))
    ) else (
    K3 (n3, l5)
    )
    ) else (
    K2 (n3, l5)
    )
def f66_L0 (x1 : List (BitVec 16)) (K1 : Unit → Option (List (BitVec 16))) : Nat → Nat → Option (List (BitVec 16))
  | 0, _ => none
  | k + 1, n2 =>
    if (decide ((n2 : Int) < (((x1).length : Nat) : Int))) then (
    chk ((n2 : Int) < (((x1).length : Nat) : Int)) <|
    chk (n2 < (x1).length) <|
    chk (-9223372036854775808 ≤ ((n2 : Int) - (1 : Int)) ∧ ((n2 : Int) - (1 : Int)) ≤ 9223372036854775807) <|
    chk (0 ≤ ((n2 : Int) - (1 : Int)) ∧ ((n2 : Int) - (1 : Int)) < (((x1).length : Nat) : Int)) <|
    chk (((((n2 : Int) - (1 : Int))).toNat) < (x1).length) <|
    if ((x1.getD n2 0#16) == (x1.getD ((((n2 : Int) - (1 : Int))).toNat) 0#16)) then (
    chk ((n2 : Int) ≤ (((x1).length : Nat) : Int)) <|
    jn (fun ((n8, l9) : Nat × List (BitVec 16)) =>
    chk ((n8 : Int) ≤ (((l9).length : Nat) : Int)) <|
    chk (n8 + ((l9).length - n8) ≤ (l9).length ∧ 0 < ((l9).length - n8)) <|
    chk ((n8 : Int) ≤ ((((l9.take n8 ++ List.replicate ((l9).length - n8) (BitVec.ofInt 16 0))).length : Nat) : Int)) <|
    chk (n8 ≤ (l9.take n8 ++ List.replicate ((l9).length - n8) (BitVec.ofInt 16 0)).length) <|
    some ((l9.take n8 ++ List.replicate ((l9).length - n8) (BitVec.ofInt 16 0)).take n8)
    ) fun (K2 : (Nat × List (BitVec 16)) → Option (List (BitVec 16))) =>
    f66_L1 x1 n2 K2 FUEL (n2, 1, x1)
    ) else (
    chk (((n2 : Int) + (1 : Int)) ≤ 9223372036854775807) <|
    (f66_L0 x1 K1 k) (n2 + 1)
    )
    ) else (
    K1 ()
    )
def f66 (x1 : List (BitVec 16)) : Option (List (BitVec 16)) :=
  if (decide ((((x1).length : Nat) : Int) < (2 : Int))) then (
  some x1
  ) else (
  jn (fun (_ : Unit) =>
  some x1
  ) fun (K1 : Unit → Option (List (BitVec 16))) =>
  f66_L0 x1 K1 FUEL 1
  )
set_option maxRecDepth 100000 in
theorem f66_ok  (x1 : List (BitVec 16)) (r : List (BitVec 16)) (h : f66 x1 = some r)  : Spec1 Tryz.prog 66 [] [] [(2000, bL 28 1 eW 0#16 x1)] [.own 2000] (.own 2000) [(2000, bL 28 1 eW 0#16 r)] := by
  unfold f66 at h
  refine Spec1.body 0 _ _ Tryz.func66 rfl Tryz.ntmps66 rfl rfl ?_
  refine q2rq [] [] [0] [2000] ⟨61, [(0, .own 2000)], [(2000, q2bW_28 x1)], [], 0⟩ trivial ?_
  refine AWp.seq ?_
  refine q2rq [] [] [0, 8] [2000] ⟨61, [(0, .own 2000), (8, .bool (decide ((((x1).length : Nat) : Int) < (2 : Int))))], [(2000, q2bW_28 x1)], [], 0⟩ trivial ?_
  refine AWp.cond (b := (decide ((((x1).length : Nat) : Int) < (2 : Int)))) (by kernel_rfl) (fun hc1 => ?_) (fun hc1 => ?_)
  ·
    replace h := ite_tb hc1 h
    refine q2rq [] [] [2] [2000] ⟨61, [(2, .own 2000)], [(2000, q2bW_28 x1)], [], 0⟩ trivial ?_
    have hret := Option.some.inj h
    subst hret
    refine AWp.le (Le.mk (s' := ⟨61, [(2, .own 2000)], [(2000, q2bW_28 x1)], [], 0⟩) rfl rfl ⟨.refl _, trivial⟩ ⟨⟨_, rfl, .refl _⟩, trivial⟩) ?_
    refine AWp.ret ?_
    refine thenQ_ret ?_
    exact bodyQ_ret _ rfl ⟨rfl, rfl⟩ rfl
  ·
    replace h := ite_fb hc1 h
    refine AWp.skip ?_
    refine thenQ_normal ?_
    obtain ⟨K1, hK1, h⟩ := jn_some h
    refine AWp.join (α := Unit) (fun (x : Unit) => match x with | () => ⟨61, [(0, .own 2000)], [(2000, q2bW_28 x1)], [], 0⟩) (fun x => K1 x = some r) ?_ ?_
    ·
      refine q2rq [] [] [0, 3] [2000] ⟨61, [(0, .own 2000), (3, .int .i64 (1 : Int))], [(2000, q2bW_28 x1)], [], 0⟩ trivial ?_
      refine AWp.block ?_
      refine AWp.loopL (α := Nat × Nat) (fun x => match x with | (_, n2) => ⟨61, [(0, .own 2000), (3, .int .i64 (n2 : Int))], [(2000, q2bW_28 x1)], [], 0⟩) (fun x => f66_L0 x1 K1 x.1 x.2 = some r) (fun x => x.1) (FUEL, 1) (Le.mk (s' := ⟨61, [(0, .own 2000), (3, .int .i64 (1 : Int))], [(2000, q2bW_28 x1)], [], 0⟩) rfl rfl ⟨.refl _, .refl _, trivial⟩ ⟨⟨_, rfl, .refl _⟩, trivial⟩) h ?_
      rintro ⟨k0, n2⟩ h
      cases k0 with
      | zero => exact nomatch (show (none : Option (List (BitVec 16))) = some r from h)
      | succ k0 =>
      obtain ⟨C0, hC0⟩ : ∃ C, C = f66_L0 x1 K1 k0 := ⟨_, rfl⟩
      replace h := (f66_L0.eq_2 ..).symm.trans h
      try rw [← hC0] at h
      refine AWp.seq ?_
      refine q2rq [] [] [0, 3, 13] [2000] ⟨61, [(0, .own 2000), (3, .int .i64 (n2 : Int)), (13, .bool (decide ((n2 : Int) < (((x1).length : Nat) : Int))))], [(2000, q2bW_28 x1)], [], 0⟩ trivial ?_
      refine AWp.cond (b := (decide ((n2 : Int) < (((x1).length : Nat) : Int)))) (by kernel_rfl) (fun hc2 => ?_) (fun hc2 => ?_)
      ·
        replace h := ite_tb hc2 h
        refine AWp.skip ?_
        refine thenQ_normal ?_
        refine AWp.seq ?_
        refine AWp.block ?_
        refine AWp.seq ?_
        obtain ⟨ob0p, h⟩ := chk_some h
        have ob0 : 0 ≤ (n2 : Int) ∧ (n2 : Int) < (((x1).length : Nat) : Int) := ⟨by omega, ob0p⟩
        obtain ⟨ob1, h⟩ := chk_some h
        obtain ⟨ob2, h⟩ := chk_some h
        obtain ⟨ob3, h⟩ := chk_some h
        obtain ⟨ob4, h⟩ := chk_some h
        refine q2rr [] [] [0, 3, 25] [2000] ⟨61, [(0, .own 2000), (3, .int .i64 (n2 : Int)), (25, .bool ((x1.getD n2 0#16) == (x1.getD ((((n2 : Int) - (1 : Int))).toNat) 0#16)))], [(2000, q2bW_28 x1)], [], 0⟩ (an5 ob0 ob1 ob2 ob3 ob4) ?_
        refine thenQ_normal ?_
        refine AWp.cond (b := ((x1.getD n2 0#16) == (x1.getD ((((n2 : Int) - (1 : Int))).toNat) 0#16))) (by kernel_rfl) (fun hc3 => ?_) (fun hc3 => ?_)
        ·
          replace h := ite_tb hc3 h
          refine AWp.seq ?_
          obtain ⟨ob5p, h⟩ := chk_some h
          have ob5 : 0 ≤ (n2 : Int) ∧ (n2 : Int) ≤ (((x1).length : Nat) : Int) := ⟨by omega, ob5p⟩
          refine q2rr [] [] [0, 3, 4] [2000] ⟨61, [(0, .own 2000), (3, .int .i64 (n2 : Int)), (4, .osl 2000 1 n2 ((x1).length - n2))], [(2000, q2bW_28 x1)], [], 0⟩ (an1 ob5) ?_
          refine thenQ_normal ?_
          obtain ⟨K2, hK2, h⟩ := jn_some h
          refine AWp.join (α := Nat × List (BitVec 16)) (fun (x : Nat × List (BitVec 16)) => match x with | (n8, l9) => ⟨61, [(0, .own 2000), (3, .int .i64 (n8 : Int))], [(2000, q2bW_28 l9)], [], 0⟩) (fun x => K2 x = some r) ?_ ?_
          ·
            refine q2rq [] [] [0, 3, 4, 5] [2000] ⟨61, [(0, .own 2000), (3, .int .i64 (n2 : Int)), (4, .osl 2000 1 n2 ((x1).length - n2)), (5, .int .i64 (1 : Int))], [(2000, q2bW_28 x1)], [], 0⟩ trivial ?_
            refine AWp.block ?_
            refine AWp.loopL (α := Nat × (Nat × Nat × List (BitVec 16))) (fun x => match x with | (_, n3, n4, l5) => ⟨61, [(0, .own 2000), (3, .int .i64 (n3 : Int)), (4, .osl 2000 1 n2 ((x1).length - n2)), (5, .int .i64 (n4 : Int))], [(2000, q2bW_28 l5)], [], 0⟩) (fun x => f66_L1 x1 n2 K2 x.1 x.2 = some r) (fun x => x.1) (FUEL, n2, 1, x1) (Le.mk (s' := ⟨61, [(0, .own 2000), (3, .int .i64 (n2 : Int)), (4, .osl 2000 1 n2 ((x1).length - n2)), (5, .int .i64 (1 : Int))], [(2000, q2bW_28 x1)], [], 0⟩) rfl rfl ⟨.refl _, .refl _, .refl _, .refl _, trivial⟩ ⟨⟨_, rfl, .refl _⟩, trivial⟩) h ?_
            rintro ⟨k1, n3, n4, l5⟩ h
            cases k1 with
            | zero => exact nomatch (show (none : Option (List (BitVec 16))) = some r from h)
            | succ k1 =>
            obtain ⟨C1, hC1⟩ : ∃ C, C = f66_L1 x1 n2 K2 k1 := ⟨_, rfl⟩
            replace h := (f66_L1.eq_2 ..).symm.trans h
            try rw [← hC1] at h
            refine AWp.seq ?_
            refine q2rq [] [] [0, 3, 4, 5, 32] [2000] ⟨61, [(0, .own 2000), (3, .int .i64 (n3 : Int)), (4, .osl 2000 1 n2 ((x1).length - n2)), (5, .int .i64 (n4 : Int)), (32, .bool (decide ((n4 : Int) < ((((x1).length - n2) : Nat) : Int))))], [(2000, q2bW_28 l5)], [], 0⟩ trivial ?_
            refine AWp.cond (b := (decide ((n4 : Int) < ((((x1).length - n2) : Nat) : Int)))) (by kernel_rfl) (fun hc4 => ?_) (fun hc4 => ?_)
            ·
              replace h := ite_tb hc4 h
              refine AWp.skip ?_
              refine thenQ_normal ?_
              obtain ⟨K3, hK3, h⟩ := jn_some h
              refine AWp.join (α := Nat × List (BitVec 16)) (fun (x : Nat × List (BitVec 16)) => match x with | (n6, l7) => ⟨61, [(0, .own 2000), (3, .int .i64 (n6 : Int)), (4, .osl 2000 1 n2 ((x1).length - n2)), (5, .int .i64 (n4 : Int))], [(2000, q2bW_28 l7)], [], 0⟩) (fun x => K3 x = some r) ?_ ?_
              ·
                refine AWp.block ?_
                refine AWp.seq ?_
                obtain ⟨ob6p, h⟩ := chk_some h
                have ob6 : 0 ≤ (n4 : Int) ∧ (n4 : Int) < ((((x1).length - n2) : Nat) : Int) := ⟨by omega, ob6p⟩
                obtain ⟨ob7, h⟩ := chk_some h
                obtain ⟨ob8, h⟩ := chk_some h
                obtain ⟨ob9, h⟩ := chk_some h
                obtain ⟨ob10, h⟩ := chk_some h
                refine q2rr [] [] [0, 3, 4, 5, 44] [2000] ⟨61, [(0, .own 2000), (3, .int .i64 (n3 : Int)), (4, .osl 2000 1 n2 ((x1).length - n2)), (5, .int .i64 (n4 : Int)), (44, .bool (!((l5.getD (n2 + n4) 0#16) == (l5.getD (n2 + ((((n4 : Int) - (1 : Int))).toNat)) 0#16))))], [(2000, q2bW_28 l5)], [], 0⟩ (an5 ob6 ob7 ob8 ob9 ob10) ?_
                refine thenQ_normal ?_
                refine AWp.cond (b := (!((l5.getD (n2 + n4) 0#16) == (l5.getD (n2 + ((((n4 : Int) - (1 : Int))).toNat)) 0#16)))) (by kernel_rfl) (fun hc5 => ?_) (fun hc5 => ?_)
                ·
                  replace h := ite_tb hc5 h
                  refine AWp.seq ?_
                  obtain ⟨ob11p, h⟩ := chk_some h
                  have ob11 : 0 ≤ (n4 : Int) ∧ (n4 : Int) < ((((x1).length - n2) : Nat) : Int) := ⟨by omega, ob11p⟩
                  obtain ⟨ob12, h⟩ := chk_some h
                  obtain ⟨ob13p, h⟩ := chk_some h
                  have ob13 : 0 ≤ (n3 : Int) ∧ (n3 : Int) < (((l5).length : Nat) : Int) := ⟨by omega, ob13p⟩
                  obtain ⟨ob14, h⟩ := chk_some h
                  refine q2rr [] [] [0, 3, 4, 5] [2000] ⟨61, [(0, .own 2000), (3, .int .i64 (n3 : Int)), (4, .osl 2000 1 n2 ((x1).length - n2)), (5, .int .i64 (n4 : Int))], [(2000, .rows 28 1 (l5).length (updF (encF eW 0#16 l5) n3 0 [.b16 (l5.getD (n2 + n4) 0#16)]))], [], 0⟩ (an4 ob11 ob12 ob13 ob14) ?_
                  refine thenQ_normal ?_
                  refine AWp.le (Le.mk (s' := ⟨61, [(0, .own 2000), (3, .int .i64 (n3 : Int)), (4, .osl 2000 1 n2 ((x1).length - n2)), (5, .int .i64 (n4 : Int))], [(2000, q2bW_28 (l5.set n3 (l5.getD (n2 + n4) 0#16)))], [], 0⟩) rfl rfl ⟨.refl _, .refl _, .refl _, .refl _, trivial⟩ ⟨⟨_, rfl, (BLe.of (RL.set (l5.getD (n2 + n4) 0#16) (RL.self _) (by intro j hj; match j, hj with | 0, _ => rfl)))⟩, trivial⟩) ?_
                  obtain ⟨ob15p, h⟩ := chk_some h
                  have ob15 : -9223372036854775808 ≤ ((n3 : Int) + (1 : Int)) ∧ ((n3 : Int) + (1 : Int)) ≤ 9223372036854775807 := ⟨by omega, ob15p⟩
                  refine q2rr [] [] [0, 3, 4, 5] [2000] ⟨61, [(0, .own 2000), (3, .int .i64 (((n3 + 1) : Nat) : Int)), (4, .osl 2000 1 n2 ((x1).length - n2)), (5, .int .i64 (n4 : Int))], [(2000, q2bW_28 (l5.set n3 (l5.getD (n2 + n4) 0#16)))], [], 0⟩ (an1 ob15) ?_
                  refine blockQ_normal ?_
                  exact joinQ_normal ((n3 + 1), (l5.set n3 (l5.getD (n2 + n4) 0#16))) (Le.mk rfl rfl ⟨.refl _, .refl _, .refl _, .refl _, trivial⟩ ⟨⟨_, rfl, .refl _⟩, trivial⟩) h
                ·
                  replace h := ite_fb hc5 h
                  refine AWp.skip ?_
                  refine blockQ_normal ?_
                  exact joinQ_normal (n3, l5) (Le.mk rfl rfl ⟨.refl _, .refl _, .refl _, .refl _, trivial⟩ ⟨⟨_, rfl, .refl _⟩, trivial⟩) h
              ·
                rintro ⟨n6, l7⟩ h
                replace h := (congrFun hK3 _).symm.trans h
                obtain ⟨ob16p, h⟩ := chk_some h
                have ob16 : -9223372036854775808 ≤ ((n4 : Int) + (1 : Int)) ∧ ((n4 : Int) + (1 : Int)) ≤ 9223372036854775807 := ⟨by omega, ob16p⟩
                refine q2rr [] [] [0, 3, 4, 5] [2000] ⟨61, [(0, .own 2000), (3, .int .i64 (n6 : Int)), (4, .osl 2000 1 n2 ((x1).length - n2)), (5, .int .i64 (((n4 + 1) : Nat) : Int))], [(2000, q2bW_28 l7)], [], 0⟩ (an1 ob16) ?_
                rw [hC1] at h
                exact loopQ_normal (_, n6, (n4 + 1), l7) (Le.mk rfl rfl ⟨.refl _, .refl _, .refl _, .refl _, trivial⟩ ⟨⟨_, rfl, .refl _⟩, trivial⟩) h (Nat.lt_succ_self _)
            ·
              replace h := ite_fb hc4 h
              refine AWp.exit ?_
              refine thenQ_exit ?_
              refine thenQ_exit ?_
              refine blockQ_same ?_
              exact joinQ_normal (n3, l5) (Le.mk rfl rfl ⟨.refl _, .refl _, trivial⟩ ⟨⟨_, rfl, .refl _⟩, trivial⟩) h
          ·
            rintro ⟨n8, l9⟩ h
            replace h := (congrFun hK2 _).symm.trans h
            refine AWp.seq ?_
            obtain ⟨ob17p, h⟩ := chk_some h
            have ob17 : 0 ≤ (n8 : Int) ∧ (n8 : Int) ≤ (((l9).length : Nat) : Int) := ⟨by omega, ob17p⟩
            obtain ⟨ob18, h⟩ := chk_some h
            refine q2rr [] [] [0, 3] [2000] ⟨61, [(0, .own 2000), (3, .int .i64 (n8 : Int))], [(2000, .rows 28 1 (l9).length (clrF (encF eW 0#16 l9) n8 ((l9).length - n8) [.b16 (q2w16 0)]))], [], 0⟩ (an2 ob17 ob18) ?_
            refine thenQ_normal ?_
            refine AWp.le (Le.mk (s' := ⟨61, [(0, .own 2000), (3, .int .i64 (n8 : Int))], [(2000, q2bW_28 (l9.take n8 ++ List.replicate ((l9).length - n8) (q2w16 0)))], [], 0⟩) rfl rfl ⟨.refl _, .refl _, trivial⟩ ⟨⟨_, rfl, (BLe.of (RL.clr (q2w16 0) (RL.self _) (by first | omega | (simp only [List.length_append, List.length_cons, List.length_nil, List.length_take, List.length_drop] at *; omega) | (simp; done) | (simp_all; done) | (simp_all; omega) | rfl) rfl))⟩, trivial⟩) ?_
            refine AWp.seq ?_
            obtain ⟨ob19p, h⟩ := chk_some h
            have ob19 : 0 ≤ (n8 : Int) ∧ (n8 : Int) ≤ ((((l9.take n8 ++ List.replicate ((l9).length - n8) (q2w16 0))).length : Nat) : Int) := ⟨by omega, ob19p⟩
            refine q2rr [] [] [2] [2000] ⟨61, [(2, .osl 2000 1 0 n8)], [(2000, q2bW_28 (l9.take n8 ++ List.replicate ((l9).length - n8) (q2w16 0)))], [], 0⟩ (an1 ob19) ?_
            refine thenQ_normal ?_
            obtain ⟨hk6, h⟩ := chk_some h
            refine AWp.le (Le.trans (Le.cutOwn 2 2000 n8 hk6 rfl rfl rfl) (Le.mk (s' := ⟨61, [(2, .own 2000)], [(2000, q2bW_28 ((l9.take n8 ++ List.replicate ((l9).length - n8) (q2w16 0)).take n8))], [], 0⟩) rfl rfl ⟨.refl _, trivial⟩ ⟨⟨_, rfl, (BLe.of (RL.take (RL.self _) hk6))⟩, trivial⟩)) ?_
            have hret := Option.some.inj h
            subst hret
            refine AWp.le (Le.mk (s' := ⟨61, [(2, .own 2000)], [(2000, q2bW_28 ((l9.take n8 ++ List.replicate ((l9).length - n8) (q2w16 0)).take n8))], [], 0⟩) rfl rfl ⟨.refl _, trivial⟩ ⟨⟨_, rfl, .refl _⟩, trivial⟩) ?_
            refine AWp.ret ?_
            refine blockQ_ret ?_
            refine thenQ_ret ?_
            refine thenQ_ret ?_
            refine blockQ_ret ?_
            refine joinQ_ret ?_
            exact bodyQ_ret _ rfl ⟨rfl, rfl⟩ rfl
        ·
          replace h := ite_fb hc3 h
          refine AWp.skip ?_
          refine blockQ_normal ?_
          refine thenQ_normal ?_
          obtain ⟨ob20p, h⟩ := chk_some h
          have ob20 : -9223372036854775808 ≤ ((n2 : Int) + (1 : Int)) ∧ ((n2 : Int) + (1 : Int)) ≤ 9223372036854775807 := ⟨by omega, ob20p⟩
          refine q2rr [] [] [0, 3] [2000] ⟨61, [(0, .own 2000), (3, .int .i64 (((n2 + 1) : Nat) : Int))], [(2000, q2bW_28 x1)], [], 0⟩ (an1 ob20) ?_
          rw [hC0] at h
          exact loopQ_normal (_, (n2 + 1)) (Le.mk rfl rfl ⟨.refl _, .refl _, trivial⟩ ⟨⟨_, rfl, .refl _⟩, trivial⟩) h (Nat.lt_succ_self _)
      ·
        replace h := ite_fb hc2 h
        refine AWp.exit ?_
        refine thenQ_exit ?_
        refine thenQ_exit ?_
        refine blockQ_same ?_
        exact joinQ_normal () (Le.mk rfl rfl ⟨.refl _, trivial⟩ ⟨⟨_, rfl, .refl _⟩, trivial⟩) h
    ·
      rintro ⟨⟩ h
      replace h := (congrFun hK1 _).symm.trans h
      refine q2rq [] [] [2] [2000] ⟨61, [(2, .own 2000)], [(2000, q2bW_28 x1)], [], 0⟩ trivial ?_
      have hret := Option.some.inj h
      subst hret
      refine AWp.le (Le.mk (s' := ⟨61, [(2, .own 2000)], [(2000, q2bW_28 x1)], [], 0⟩) rfl rfl ⟨.refl _, trivial⟩ ⟨⟨_, rfl, .refl _⟩, trivial⟩) ?_
      refine AWp.ret ?_
      exact bodyQ_ret _ rfl ⟨rfl, rfl⟩ rfl
def f68 (x1 : BitVec 16) (x2 : BitVec 16) : Option (Bool × BitVec 16) :=
  some (((!(x1 == x2)) && ((x2 &&& ~~~x1) == (BitVec.ofInt 16 0))), x2)
set_option maxRecDepth 100000 in
theorem f68_ok  (x1 : BitVec 16) (x2 : BitVec 16) (r : Bool × BitVec 16) (h : f68 x1 x2 = some r)  : Spec1 Tryz.prog 68 [] [2000] [(2000, .cells 28 [.b16 x2])] [.b16 x1, .ptr 2000 0] (.bool r.1) [(2000, .cells 28 [.b16 r.2])] := by
  unfold f68 at h
  refine Spec1.body 0 _ _ Tryz.func68 rfl Tryz.ntmps68 rfl rfl ?_
  refine q2rq [] [] [0, 1] [2000] ⟨13, [(0, .b16 x1), (1, .ptr 2000 0)], [(2000, .cells 28 [.b16 x2])], [2000], 0⟩ trivial ?_
  refine AWp.seq ?_
  have ob0 : ((!(x1 == x2)) == true) = true → ((!(x1 == x2)) == true) = true := fun h => h
  have ob1 : ((!(x1 == x2)) == true) = true → ((!(x1 == x2)) == true) = true := fun h => h
  have ob2 : ((!(x1 == x2)) == true) = true → ((!(x1 == x2)) == true) = true := fun h => h
  have ob3 : true = true → (!(x1 == x2)) = true → ((!(x1 == x2)) == true) = true := fun _ h => beq_iff_eq.2 h
  refine q2rr [] [] [3] [2000] ⟨13, [(3, .bool ((!(x1 == x2)) && ((x2 &&& ~~~x1) == (q2w16 0))))], [(2000, .cells 28 [.b16 x2])], [2000], 0⟩ (an3 (an2 ob0 ob1) (an1 ob2) ob3) ?_
  refine thenQ_normal ?_
  have hret := Option.some.inj h
  subst hret
  refine AWp.le (Le.mk (s' := ⟨13, [(3, .bool ((!(x1 == x2)) && ((x2 &&& ~~~x1) == (q2w16 0))))], [(2000, .cells 28 [.b16 x2])], [2000], 0⟩) rfl rfl ⟨.refl _, trivial⟩ ⟨⟨_, rfl, .refl _⟩, trivial⟩) ?_
  refine AWp.ret ?_
  exact bodyQ_ret _ rfl ⟨rfl, rfl⟩ rfl
def f93_L0 (x1 : List (BitVec 16)) (K1 : (BitVec 16) → Option (Int × BitVec 16)) : Nat → (Nat × BitVec 16) → Option (Int × BitVec 16)
  | 0, _ => none
  | k + 1, (n3, w4) =>
    if (decide ((n3 : Int) < (((x1).length : Nat) : Int))) then (
    (f68 (x1.getD n3 0#16) w4).bind fun (r5 : Bool × BitVec 16) =>
    chk ((n3 : Int) < (((x1).length : Nat) : Int)) <|
    if r5.1 then (
    some ((n3 : Int), r5.2)
    ) else (
    chk (((n3 : Int) + (1 : Int)) ≤ 9223372036854775807) <|
    (f93_L0 x1 K1 k) ((n3 + 1), r5.2)
    )
    ) else (
    K1 w4
    )
def f93 (x1 : List (BitVec 16)) (x2 : BitVec 16) : Option (Int × BitVec 16) :=
  jn (fun (w6 : BitVec 16) =>
  some ((-1 : Int), w6)
  ) fun (K1 : (BitVec 16) → Option (Int × BitVec 16)) =>
  f93_L0 x1 K1 FUEL (0, x2)
set_option maxRecDepth 100000 in
theorem f93_ok  (x1 : List (BitVec 16)) (x2 : BitVec 16) (r : Int × BitVec 16) (h : f93 x1 x2 = some r)  : Spec1 Tryz.prog 93 [] [2000] [(2000, .cells 28 [.b16 x2])] [vL 1 eW 0#16 x1, .fn (.func 68) [.ptr 2000 0]] (.int .i64 r.1) [(2000, .cells 28 [.b16 r.2])] := by
  unfold f93 at h
  refine Spec1.body 0 _ _ Tryz.func93 rfl Tryz.ntmps93 rfl rfl ?_
  refine q2rq [] [] [0, 1] [2000] ⟨19, [(0, q2aW x1), (1, .fn (.func 68) [.ptr 2000 0])], [(2000, .cells 28 [.b16 x2])], [2000], 0⟩ trivial ?_
  obtain ⟨K1, hK1, h⟩ := jn_some h
  refine AWp.join (α := BitVec 16) (fun (w6 : BitVec 16) => ⟨19, [], [(2000, .cells 28 [.b16 w6])], [2000], 0⟩) (fun x => K1 x = some r) ?_ ?_
  ·
    refine q2rq [] [] [0, 1, 7, 8] [2000] ⟨19, [(0, q2aW x1), (1, .fn (.func 68) [.ptr 2000 0]), (7, .int .i64 (((x1).length : Nat) : Int)), (8, .int .i64 (0 : Int))], [(2000, .cells 28 [.b16 x2])], [2000], 0⟩ trivial ?_
    refine AWp.block ?_
    refine AWp.loopL (α := Nat × (Nat × BitVec 16)) (fun x => match x with | (_, n3, w4) => ⟨19, [(0, q2aW x1), (1, .fn (.func 68) [.ptr 2000 0]), (7, .int .i64 (((x1).length : Nat) : Int)), (8, .int .i64 (n3 : Int))], [(2000, .cells 28 [.b16 w4])], [2000], 0⟩) (fun x => f93_L0 x1 K1 x.1 x.2 = some r) (fun x => x.1) (FUEL, 0, x2) (Le.mk (s' := ⟨19, [(0, q2aW x1), (1, .fn (.func 68) [.ptr 2000 0]), (7, .int .i64 (((x1).length : Nat) : Int)), (8, .int .i64 (0 : Int))], [(2000, .cells 28 [.b16 x2])], [2000], 0⟩) rfl rfl ⟨.refl _, .refl _, .refl _, .refl _, trivial⟩ ⟨⟨_, rfl, .refl _⟩, trivial⟩) h ?_
    rintro ⟨k0, n3, w4⟩ h
    cases k0 with
    | zero => exact nomatch (show (none : Option (Int × BitVec 16)) = some r from h)
    | succ k0 =>
    obtain ⟨C0, hC0⟩ : ∃ C, C = f93_L0 x1 K1 k0 := ⟨_, rfl⟩
    replace h := (f93_L0.eq_2 ..).symm.trans h
    try rw [← hC0] at h
    refine q2rq [] [] [0, 1, 7, 8, 9] [2000] ⟨19, [(0, q2aW x1), (1, .fn (.func 68) [.ptr 2000 0]), (7, .int .i64 (((x1).length : Nat) : Int)), (8, .int .i64 (n3 : Int)), (9, .bool (decide ((n3 : Int) < (((x1).length : Nat) : Int))))], [(2000, .cells 28 [.b16 w4])], [2000], 0⟩ trivial ?_
    refine AWp.seq ?_
    refine AWp.cond (b := (decide ((n3 : Int) < (((x1).length : Nat) : Int)))) (by kernel_rfl) (fun hc1 => ?_) (fun hc1 => ?_)
    ·
      replace h := ite_tb hc1 h
      refine AWp.skip ?_
      refine thenQ_normal ?_
      refine AWp.seq ?_
      refine AWp.block ?_
      refine q2rq [] [] [0, 1, 5, 7, 8] [2000] ⟨19, [(0, q2aW x1), (1, .fn (.func 68) [.ptr 2000 0]), (5, .int .i64 (n3 : Int)), (7, .int .i64 (((x1).length : Nat) : Int)), (8, .int .i64 (n3 : Int))], [(2000, .cells 28 [.b16 w4])], [2000], 0⟩ trivial ?_
      refine AWp.seq ?_
      obtain ⟨r5, hr5, h⟩ := bind_ok h
      obtain ⟨ob0p, h⟩ := chk_some h
      have ob0 : 0 ≤ (n3 : Int) ∧ (n3 : Int) < (((x1).length : Nat) : Int) := ⟨by omega, ob0p⟩
      refine q2rr [] [(5, ⟨[.b16 (x1.getD n3 0#16), .ptr 2000 0], [2000], [2000], [(2000, .cells 28 [.b16 r5.2])], .bool r5.1, [], [], []⟩)] [0, 1, 5, 7, 8, 16] [2000] ⟨19, [(0, q2aW x1), (1, .fn (.func 68) [.ptr 2000 0]), (5, .int .i64 (n3 : Int)), (7, .int .i64 (((x1).length : Nat) : Int)), (8, .int .i64 (n3 : Int)), (16, .bool r5.1)], [(2000, .cells 28 [.b16 r5.2])], [2000], 0⟩ (an2 ob0 (cpT (f68_ok _ _ _ hr5))) ?_
      refine thenQ_normal ?_
      refine AWp.cond (b := r5.1) (by kernel_rfl) (fun hc2 => ?_) (fun hc2 => ?_)
      ·
        replace h := ite_tb hc2 h
        refine q2rq [] [] [4] [2000] ⟨19, [(4, .int .i64 (n3 : Int))], [(2000, .cells 28 [.b16 r5.2])], [2000], 0⟩ trivial ?_
        have hret := Option.some.inj h
        subst hret
        refine AWp.le (Le.mk (s' := ⟨19, [(4, .int .i64 (n3 : Int))], [(2000, .cells 28 [.b16 r5.2])], [2000], 0⟩) rfl rfl ⟨.refl _, trivial⟩ ⟨⟨_, rfl, .refl _⟩, trivial⟩) ?_
        refine AWp.ret ?_
        refine blockQ_ret ?_
        refine thenQ_ret ?_
        refine thenQ_ret ?_
        refine blockQ_ret ?_
        refine joinQ_ret ?_
        exact bodyQ_ret _ rfl ⟨rfl, rfl⟩ rfl
      ·
        replace h := ite_fb hc2 h
        refine AWp.skip ?_
        refine blockQ_normal ?_
        refine thenQ_normal ?_
        obtain ⟨ob1p, h⟩ := chk_some h
        have ob1 : -9223372036854775808 ≤ ((n3 : Int) + (1 : Int)) ∧ ((n3 : Int) + (1 : Int)) ≤ 9223372036854775807 := ⟨by omega, ob1p⟩
        refine q2rr [] [] [0, 1, 7, 8] [2000] ⟨19, [(0, q2aW x1), (1, .fn (.func 68) [.ptr 2000 0]), (7, .int .i64 (((x1).length : Nat) : Int)), (8, .int .i64 (((n3 + 1) : Nat) : Int))], [(2000, .cells 28 [.b16 r5.2])], [2000], 0⟩ (an1 ob1) ?_
        rw [hC0] at h
        exact loopQ_normal (_, (n3 + 1), r5.2) (Le.mk rfl rfl ⟨.refl _, .refl _, .refl _, .refl _, trivial⟩ ⟨⟨_, rfl, .refl _⟩, trivial⟩) h (Nat.lt_succ_self _)
    ·
      replace h := ite_fb hc1 h
      refine AWp.exit ?_
      refine thenQ_exit ?_
      refine thenQ_exit ?_
      refine blockQ_same ?_
      exact joinQ_normal (w4) (Le.mk rfl rfl trivial ⟨⟨_, rfl, .refl _⟩, trivial⟩) h
  ·
    rintro w6 h
    replace h := (congrFun hK1 _).symm.trans h
    refine q2rq [] [] [4] [2000] ⟨19, [(4, .int .i64 (-1 : Int))], [(2000, .cells 28 [.b16 w6])], [2000], 0⟩ trivial ?_
    have hret := Option.some.inj h
    subst hret
    refine AWp.le (Le.mk (s' := ⟨19, [(4, .int .i64 (-1 : Int))], [(2000, .cells 28 [.b16 w6])], [2000], 0⟩) rfl rfl ⟨.refl _, trivial⟩ ⟨⟨_, rfl, .refl _⟩, trivial⟩) ?_
    refine AWp.ret ?_
    exact bodyQ_ret _ rfl ⟨rfl, rfl⟩ rfl
def f67 (x1 : List (BitVec 16)) (x2 : BitVec 16) : Option (Bool × BitVec 16) :=
  (f93 x1 x2).bind fun (r3 : Int × BitVec 16) =>
  some ((decide (r3.1 ≥ (0 : Int))), r3.2)
set_option maxRecDepth 100000 in
theorem f67_ok  (x1 : List (BitVec 16)) (x2 : BitVec 16) (r : Bool × BitVec 16) (h : f67 x1 x2 = some r)  : Spec1 Tryz.prog 67 [] [2000] [(2000, .cells 28 [.b16 x2])] [vL 1 eW 0#16 x1, .fn (.func 68) [.ptr 2000 0]] (.bool r.1) [(2000, .cells 28 [.b16 r.2])] := by
  unfold f67 at h
  refine Spec1.body 0 _ _ Tryz.func67 rfl Tryz.ntmps67 rfl rfl ?_
  refine q2rq [] [] [0, 1] [2000] ⟨9, [(0, q2aW x1), (1, .fn (.func 68) [.ptr 2000 0])], [(2000, .cells 28 [.b16 x2])], [2000], 0⟩ trivial ?_
  refine AWp.seq ?_
  obtain ⟨r3, hr3, h⟩ := bind_ok h
  refine q2rr [] [(2, ⟨[q2aW x1, .fn (.func 68) [.ptr 2000 0]], [2000], [2000], [(2000, .cells 28 [.b16 r3.2])], .int .i64 r3.1, [], [], []⟩)] [4] [2000] ⟨9, [(4, .bool (decide (r3.1 ≥ (0 : Int))))], [(2000, .cells 28 [.b16 r3.2])], [2000], 0⟩ (an1 (cpT (f93_ok _ _ _ hr3))) ?_
  refine thenQ_normal ?_
  have hret := Option.some.inj h
  subst hret
  refine AWp.le (Le.mk (s' := ⟨9, [(4, .bool (decide (r3.1 ≥ (0 : Int))))], [(2000, .cells 28 [.b16 r3.2])], [2000], 0⟩) rfl rfl ⟨.refl _, trivial⟩ ⟨⟨_, rfl, .refl _⟩, trivial⟩) ?_
  refine AWp.ret ?_
  exact bodyQ_ret _ rfl ⟨rfl, rfl⟩ rfl
def f38_L0 (x1 : List (BitVec 16 × BitVec 16)) (K1 : (List (BitVec 16)) → Option (List (BitVec 16))) : Nat → (Nat × List (BitVec 16)) → Option (List (BitVec 16))
  | 0, _ => none
  | k + 1, (n2, l3) =>
    if (decide ((n2 : Int) < (((x1).length : Nat) : Int))) then (
    chk ((n2 : Int) < (((x1).length : Nat) : Int)) <|
    chk (((l3).length + 1) * 2 ≤ 140737488355328) <|
    chk (((n2 : Int) + (1 : Int)) ≤ 9223372036854775807) <|
    (f38_L0 x1 K1 k) ((n2 + 1), (l3 ++ [(x1.getD n2 (default : BitVec 16 × BitVec 16)).1]))
    ) else (
    K1 l3
    )
def f38_L1 (r6 : List (BitVec 16)) (K2 : (List (BitVec 16)) → Option (List (BitVec 16))) : Nat → (Nat × List (BitVec 16)) → Option (List (BitVec 16))
  | 0, _ => none
  | k + 1, (n7, l8) =>
    if (decide ((n7 : Int) < (((r6).length : Nat) : Int))) then (
    jn (fun (l10 : List (BitVec 16)) =>
    chk (((n7 : Int) + (1 : Int)) ≤ 9223372036854775807) <|
    (f38_L1 r6 K2 k) ((n7 + 1), l10)
    ) fun (K3 : (List (BitVec 16)) → Option (List (BitVec 16))) =>
    chk ((n7 : Int) < (((r6).length : Nat) : Int)) <|
    chk (n7 < (r6).length) <|
    (f67 r6 (r6.getD n7 0#16)).bind fun (r9 : Bool × BitVec 16) =>
    if (!r9.1) then (
    chk (((l8).length + 1) * 2 ≤ 140737488355328) <|
    K3 (l8 ++ [r9.2])
    ) else (
    K3 l8
    )
    ) else (
    K2 l8
    )
def f38 (x1 : List (BitVec 16 × BitVec 16)) : Option (List (BitVec 16)) :=
  jn (fun (l4 : List (BitVec 16)) =>
  (f64 l4).bind fun (r5 : List (BitVec 16)) =>
  (f66 r5).bind fun (r6 : List (BitVec 16)) =>
  jn (fun (l11 : List (BitVec 16)) =>
  some l11
  ) fun (K2 : (List (BitVec 16)) → Option (List (BitVec 16))) =>
  f38_L1 r6 K2 FUEL (0, [])
  ) fun (K1 : (List (BitVec 16)) → Option (List (BitVec 16))) =>
  f38_L0 x1 K1 FUEL (0, [])
set_option maxRecDepth 100000 in
theorem f38_ok  (x1 : List (BitVec 16 × BitVec 16)) (r : List (BitVec 16)) (h : f38 x1 = some r)  : Spec1 Tryz.prog 38 [] [] [] [vL 2 eWW (default : BitVec 16 × BitVec 16) x1] (.own 3000) [(3000, bL 28 1 eW 0#16 r)] := by
  unfold f38 at h
  refine Spec1.body 0 _ _ Tryz.func38 rfl Tryz.ntmps38 rfl rfl ?_
  refine q2rq [] [] [0] [] ⟨41, [(0, q2aWW x1)], [], [], 0⟩ trivial ?_
  refine q2rq [] [] [0, 3, 4] [] ⟨41, [(0, q2aWW x1), (3, .nils), (4, .nils)], [], [], 0⟩ trivial ?_
  obtain ⟨K1, hK1, h⟩ := jn_some h
  refine AWp.join (α := List (BitVec 16)) (fun (l4 : List (BitVec 16)) => ⟨41, [(3, .own 5003), (4, .nils)], [(5003, q2bW_28 l4)], [], 0⟩) (fun x => K1 x = some r) ?_ ?_
  ·
    refine q2rq [] [] [3, 4, 9, 10, 11] [] ⟨41, [(3, .nils), (4, .nils), (9, q2aWW x1), (10, .int .i64 (((x1).length : Nat) : Int)), (11, .int .i64 (0 : Int))], [], [], 0⟩ trivial ?_
    refine AWp.block ?_
    refine AWp.loopL (α := Nat × (Nat × List (BitVec 16))) (fun x => match x with | (_, n2, l3) => ⟨41, [(3, .own 5003), (4, .nils), (9, q2aWW x1), (10, .int .i64 (((x1).length : Nat) : Int)), (11, .int .i64 (n2 : Int))], [(5003, q2bW_28 l3)], [], 0⟩) (fun x => f38_L0 x1 K1 x.1 x.2 = some r) (fun x => x.1) (FUEL, 0, []) (Le.trans (Le.trans (Le.nilOwn 3 5003 28 1 (encF eW 0#16 []) rfl rfl (Nat.le_of_ble_eq_true rfl)) (Le.mk (s' := ⟨41, [(3, .own 5003), (4, .nils), (9, q2aWW x1), (10, .int .i64 (((x1).length : Nat) : Int)), (11, .int .i64 (0 : Int))], [(5003, q2bW_28 [])], [], 0⟩) rfl rfl ⟨.refl _, .refl _, .refl _, .refl _, .refl _, trivial⟩ ⟨⟨_, rfl, .refl _⟩, trivial⟩)) (Le.mk (s' := ⟨41, [(3, .own 5003), (4, .nils), (9, q2aWW x1), (10, .int .i64 (((x1).length : Nat) : Int)), (11, .int .i64 (0 : Int))], [(5003, q2bW_28 [])], [], 0⟩) rfl rfl ⟨.refl _, .refl _, .refl _, .refl _, .refl _, trivial⟩ ⟨⟨_, rfl, .refl _⟩, trivial⟩)) h ?_
    rintro ⟨k0, n2, l3⟩ h
    cases k0 with
    | zero => exact nomatch (show (none : Option (List (BitVec 16))) = some r from h)
    | succ k0 =>
    obtain ⟨C0, hC0⟩ : ∃ C, C = f38_L0 x1 K1 k0 := ⟨_, rfl⟩
    replace h := (f38_L0.eq_2 ..).symm.trans h
    try rw [← hC0] at h
    refine q2rq [] [] [3, 4, 9, 10, 11, 12] [5003] ⟨41, [(3, .own 5003), (4, .nils), (9, q2aWW x1), (10, .int .i64 (((x1).length : Nat) : Int)), (11, .int .i64 (n2 : Int)), (12, .bool (decide ((n2 : Int) < (((x1).length : Nat) : Int))))], [(5003, q2bW_28 l3)], [], 0⟩ trivial ?_
    refine AWp.seq ?_
    refine AWp.cond (b := (decide ((n2 : Int) < (((x1).length : Nat) : Int)))) (by kernel_rfl) (fun hc1 => ?_) (fun hc1 => ?_)
    ·
      replace h := ite_tb hc1 h
      refine AWp.skip ?_
      refine thenQ_normal ?_
      refine AWp.seq ?_
      refine AWp.block ?_
      refine AWp.seq ?_
      obtain ⟨ob0p, h⟩ := chk_some h
      have ob0 : 0 ≤ (n2 : Int) ∧ (n2 : Int) < (((x1).length : Nat) : Int) := ⟨by omega, ob0p⟩
      refine q2rr [] [] [3, 4, 6, 9, 10, 11] [6, 5003] ⟨41, [(3, .own 5003), (4, .nils), (6, .ptr 6 0), (9, q2aWW x1), (10, .int .i64 (((x1).length : Nat) : Int)), (11, .int .i64 (n2 : Int))], [(6, .cells 30 [.b16 (x1.getD n2 q2dWW).1, .b16 (x1.getD n2 q2dWW).2]), (5003, q2bW_28 l3)], [], 0⟩ (an2 ob0 trivial) ?_
      refine thenQ_normal ?_
      obtain ⟨ob1, h⟩ := chk_some h
      refine q2rr [] [] [3, 4, 9, 10, 11] [5003] ⟨41, [(3, .own 5003), (4, .nils), (9, q2aWW x1), (10, .int .i64 (((x1).length : Nat) : Int)), (11, .int .i64 (n2 : Int))], [(5003, .rows 28 1 ((l3).length + 1) (appF (l3).length (encF eW 0#16 l3) (lstF 1 [.b16 (x1.getD n2 q2dWW).1])))], [], 0⟩ (an1 ob1) ?_
      refine blockQ_normal ?_
      refine thenQ_normal ?_
      refine AWp.le (Le.mk (s' := ⟨41, [(3, .own 5003), (4, .nils), (9, q2aWW x1), (10, .int .i64 (((x1).length : Nat) : Int)), (11, .int .i64 (n2 : Int))], [(5003, q2bW_28 (l3 ++ [(x1.getD n2 q2dWW).1]))], [], 0⟩) rfl rfl ⟨.refl _, .refl _, .refl _, .refl _, .refl _, trivial⟩ ⟨⟨_, rfl, (BLe.of (RL.app (RL.self _) (RL.lst (enc := eW) [(x1.getD n2 q2dWW).1] rfl rfl (fun _ => rfl))))⟩, trivial⟩) ?_
      obtain ⟨ob2p, h⟩ := chk_some h
      have ob2 : -9223372036854775808 ≤ ((n2 : Int) + (1 : Int)) ∧ ((n2 : Int) + (1 : Int)) ≤ 9223372036854775807 := ⟨by omega, ob2p⟩
      refine q2rr [] [] [3, 4, 9, 10, 11] [5003] ⟨41, [(3, .own 5003), (4, .nils), (9, q2aWW x1), (10, .int .i64 (((x1).length : Nat) : Int)), (11, .int .i64 (((n2 + 1) : Nat) : Int))], [(5003, q2bW_28 (l3 ++ [(x1.getD n2 q2dWW).1]))], [], 0⟩ (an1 ob2) ?_
      rw [hC0] at h
      exact loopQ_normal (_, (n2 + 1), (l3 ++ [(x1.getD n2 q2dWW).1])) (Le.mk rfl rfl ⟨.refl _, .refl _, .refl _, .refl _, .refl _, trivial⟩ ⟨⟨_, rfl, .refl _⟩, trivial⟩) h (Nat.lt_succ_self _)
    ·
      replace h := ite_fb hc1 h
      refine AWp.exit ?_
      refine thenQ_exit ?_
      refine thenQ_exit ?_
      refine blockQ_same ?_
      exact joinQ_normal (l3) (Le.mk rfl rfl ⟨.refl _, .refl _, trivial⟩ ⟨⟨_, rfl, .refl _⟩, trivial⟩) h
  ·
    rintro l4 h
    replace h := (congrFun hK1 _).symm.trans h
    refine AWp.seq ?_
    obtain ⟨r5, hr5, h⟩ := bind_ok h
    refine q2rr [] [(1, ⟨[.own 5003, .fn (.func 65) []], [5003], [5003], [(5003, q2bW_28 r5)], .tup [], [], [], []⟩)] [3, 4] [5003] ⟨41, [(3, .own 5003), (4, .nils)], [(5003, q2bW_28 r5)], [], 0⟩ (an1 (cpT (Spec1.ren (swapN 2000 5003) (swapN_inv 2000 5003) rfl (f64_ok _ _ hr5)))) ?_
    refine thenQ_normal ?_
    refine AWp.seq ?_
    obtain ⟨r6, hr6, h⟩ := bind_ok h
    refine q2rr [] [(1, ⟨[.own 5003], [5003], [], [(5003, q2bW_28 r6)], .own 5003, [5003], [], []⟩)] [3, 4] [5003] ⟨41, [(3, .own 5003), (4, .nils)], [(5003, q2bW_28 r6)], [], 0⟩ (an1 (cpT (Spec1.ren (swapN 2000 5003) (swapN_inv 2000 5003) rfl (f66_ok _ _ hr6)))) ?_
    refine thenQ_normal ?_
    obtain ⟨K2, hK2, h⟩ := jn_some h
    refine AWp.join (α := List (BitVec 16)) (fun (l11 : List (BitVec 16)) => ⟨41, [(4, .own 5004)], [(5004, q2bW_28 l11)], [], 0⟩) (fun x => K2 x = some r) ?_ ?_
    ·
      refine q2rq [] [] [3, 4, 25, 26, 27] [5003] ⟨41, [(3, .own 5003), (4, .nils), (25, .own 5003), (26, .int .i64 (((r6).length : Nat) : Int)), (27, .int .i64 (0 : Int))], [(5003, q2bW_28 r6)], [], 0⟩ trivial ?_
      refine AWp.block ?_
      refine AWp.loopL (α := Nat × (Nat × List (BitVec 16))) (fun x => match x with | (_, n7, l8) => ⟨41, [(3, .own 5003), (4, .own 5004), (25, .own 5003), (26, .int .i64 (((r6).length : Nat) : Int)), (27, .int .i64 (n7 : Int))], [(5003, q2bW_28 r6), (5004, q2bW_28 l8)], [], 0⟩) (fun x => f38_L1 r6 K2 x.1 x.2 = some r) (fun x => x.1) (FUEL, 0, []) (Le.trans (Le.trans (Le.nilOwn 4 5004 28 1 (encF eW 0#16 []) rfl rfl (Nat.le_of_ble_eq_true rfl)) (Le.mk (s' := ⟨41, [(3, .own 5003), (4, .own 5004), (25, .own 5003), (26, .int .i64 (((r6).length : Nat) : Int)), (27, .int .i64 (0 : Int))], [(5003, q2bW_28 r6), (5004, q2bW_28 [])], [], 0⟩) rfl rfl ⟨.refl _, .refl _, .refl _, .refl _, .refl _, trivial⟩ ⟨⟨_, rfl, .refl _⟩, ⟨_, rfl, .refl _⟩, trivial⟩)) (Le.mk (s' := ⟨41, [(3, .own 5003), (4, .own 5004), (25, .own 5003), (26, .int .i64 (((r6).length : Nat) : Int)), (27, .int .i64 (0 : Int))], [(5003, q2bW_28 r6), (5004, q2bW_28 [])], [], 0⟩) rfl rfl ⟨.refl _, .refl _, .refl _, .refl _, .refl _, trivial⟩ ⟨⟨_, rfl, .refl _⟩, ⟨_, rfl, .refl _⟩, trivial⟩)) h ?_
      rintro ⟨k1, n7, l8⟩ h
      cases k1 with
      | zero => exact nomatch (show (none : Option (List (BitVec 16))) = some r from h)
      | succ k1 =>
      obtain ⟨C1, hC1⟩ : ∃ C, C = f38_L1 r6 K2 k1 := ⟨_, rfl⟩
      replace h := (f38_L1.eq_2 ..).symm.trans h
      try rw [← hC1] at h
      refine q2rq [] [] [3, 4, 25, 26, 27, 28] [5003, 5004] ⟨41, [(3, .own 5003), (4, .own 5004), (25, .own 5003), (26, .int .i64 (((r6).length : Nat) : Int)), (27, .int .i64 (n7 : Int)), (28, .bool (decide ((n7 : Int) < (((r6).length : Nat) : Int))))], [(5003, q2bW_28 r6), (5004, q2bW_28 l8)], [], 0⟩ trivial ?_
      refine AWp.seq ?_
      refine AWp.cond (b := (decide ((n7 : Int) < (((r6).length : Nat) : Int)))) (by kernel_rfl) (fun hc2 => ?_) (fun hc2 => ?_)
      ·
        replace h := ite_tb hc2 h
        refine AWp.skip ?_
        refine thenQ_normal ?_
        obtain ⟨K3, hK3, h⟩ := jn_some h
        refine AWp.join (α := List (BitVec 16)) (fun (l10 : List (BitVec 16)) => ⟨41, [(3, .own 5003), (4, .own 38), (25, .own 5003), (26, .int .i64 (((r6).length : Nat) : Int)), (27, .int .i64 (n7 : Int))], [(38, q2bW_28 l10), (5003, q2bW_28 r6)], [], 0⟩) (fun x => K3 x = some r) ?_ ?_
        ·
          refine AWp.block ?_
          refine AWp.seq ?_
          obtain ⟨ob3p, h⟩ := chk_some h
          have ob3 : 0 ≤ (n7 : Int) ∧ (n7 : Int) < (((r6).length : Nat) : Int) := ⟨by omega, ob3p⟩
          obtain ⟨ob4, h⟩ := chk_some h
          refine q2rr [] [] [3, 4, 8, 25, 26, 27] [8, 5003, 5004] ⟨41, [(3, .own 5003), (4, .own 5004), (8, .ptr 8 0), (25, .own 5003), (26, .int .i64 (((r6).length : Nat) : Int)), (27, .int .i64 (n7 : Int))], [(8, .cells 28 [.b16 (r6.getD n7 0#16)]), (5003, q2bW_28 r6), (5004, q2bW_28 l8)], [], 0⟩ (an3 ob3 ob4 trivial) ?_
          refine thenQ_normal ?_
          refine AWp.seq ?_
          obtain ⟨r9, hr9, h⟩ := bind_ok h
          refine q2rr [] [(2, ⟨[q2aW r6, .fn (.func 68) [.ptr 8 0]], [8], [8], [(8, .cells 28 [.b16 r9.2])], .bool r9.1, [], [5003], []⟩)] [3, 4, 8, 25, 26, 27, 34] [8, 5003, 5004] ⟨41, [(3, .own 5003), (4, .own 5004), (8, .ptr 8 0), (25, .own 5003), (26, .int .i64 (((r6).length : Nat) : Int)), (27, .int .i64 (n7 : Int)), (34, .bool (!r9.1))], [(8, .cells 28 [.b16 r9.2]), (5003, q2bW_28 r6), (5004, q2bW_28 l8)], [], 0⟩ (an1 (cpL (c := true) [(5003, q2bW_28 r6)] [5003] [.own 5003, .fn (.func 68) [.ptr 8 0]] (fun _ => (Spec1.ren (swapN 2000 8) (swapN_inv 2000 8) rfl (f67_ok _ _ _ hr9))) (fun _ => ⟨.refl _, .refl _, trivial⟩) (.inr ⟨rfl, ⟨rfl, trivial⟩⟩))) ?_
          refine thenQ_normal ?_
          refine AWp.cond (b := (!r9.1)) (by kernel_rfl) (fun hc3 => ?_) (fun hc3 => ?_)
          ·
            replace h := ite_tb hc3 h
            obtain ⟨ob5, h⟩ := chk_some h
            refine q2rr [] [] [3, 4, 25, 26, 27] [5003, 5004] ⟨41, [(3, .own 5003), (4, .own 5004), (25, .own 5003), (26, .int .i64 (((r6).length : Nat) : Int)), (27, .int .i64 (n7 : Int))], [(5003, q2bW_28 r6), (5004, .rows 28 1 ((l8).length + 1) (appF (l8).length (encF eW 0#16 l8) (lstF 1 [.b16 r9.2])))], [], 0⟩ (an1 ob5) ?_
            refine blockQ_normal ?_
            exact joinQ_normal ((l8 ++ [r9.2])) (Le.trans (Le.mk (s' := ⟨41, [(3, .own 5003), (4, .own 5004), (25, .own 5003), (26, .int .i64 (((r6).length : Nat) : Int)), (27, .int .i64 (n7 : Int))], [(5003, q2bW_28 r6), (5004, q2bW_28 (l8 ++ [r9.2]))], [], 0⟩) rfl rfl ⟨.refl _, .refl _, .refl _, .refl _, .refl _, trivial⟩ ⟨⟨_, rfl, .refl _⟩, ⟨_, rfl, (BLe.of (RL.app (RL.self _) (RL.lst (enc := eW) [r9.2] rfl rfl (fun _ => rfl))))⟩, trivial⟩) (Le.trans (Le.trans (Le.ren (swapN 5004 38) (swapN_inv 5004 38) rfl) (Le.mk (s' := ⟨41, [(3, .own 5003), (4, .own 38), (25, .own 5003), (26, .int .i64 (((r6).length : Nat) : Int)), (27, .int .i64 (n7 : Int))], [(5003, q2bW_28 r6), (38, q2bW_28 (l8 ++ [r9.2]))], [], 0⟩) rfl rfl ⟨.refl _, .refl _, .refl _, .refl _, .refl _, trivial⟩ ⟨⟨_, rfl, .refl _⟩, ⟨_, rfl, .refl _⟩, trivial⟩)) (Le.mk rfl rfl ⟨.refl _, .refl _, .refl _, .refl _, .refl _, trivial⟩ ⟨⟨_, rfl, .refl _⟩, ⟨_, rfl, .refl _⟩, trivial⟩))) h
          ·
            replace h := ite_fb hc3 h
            refine AWp.skip ?_
            refine blockQ_normal ?_
            exact joinQ_normal (l8) (Le.trans (Le.trans (Le.ren (swapN 5004 38) (swapN_inv 5004 38) rfl) (Le.mk (s' := ⟨41, [(3, .own 5003), (4, .own 38), (8, .ptr 8 0), (25, .own 5003), (26, .int .i64 (((r6).length : Nat) : Int)), (27, .int .i64 (n7 : Int)), (34, .bool (!r9.1))], [(8, .cells 28 [.b16 r9.2]), (5003, q2bW_28 r6), (38, q2bW_28 l8)], [], 0⟩) rfl rfl ⟨.refl _, .refl _, .refl _, .refl _, .refl _, .refl _, .refl _, trivial⟩ ⟨⟨_, rfl, .refl _⟩, ⟨_, rfl, .refl _⟩, ⟨_, rfl, .refl _⟩, trivial⟩)) (Le.mk rfl rfl ⟨.refl _, .refl _, .refl _, .refl _, .refl _, trivial⟩ ⟨⟨_, rfl, .refl _⟩, ⟨_, rfl, .refl _⟩, trivial⟩)) h
        ·
          rintro l10 h
          replace h := (congrFun hK3 _).symm.trans h
          obtain ⟨ob6p, h⟩ := chk_some h
          have ob6 : -9223372036854775808 ≤ ((n7 : Int) + (1 : Int)) ∧ ((n7 : Int) + (1 : Int)) ≤ 9223372036854775807 := ⟨by omega, ob6p⟩
          refine q2rr [] [] [3, 4, 25, 26, 27] [38, 5003] ⟨41, [(3, .own 5003), (4, .own 38), (25, .own 5003), (26, .int .i64 (((r6).length : Nat) : Int)), (27, .int .i64 (((n7 + 1) : Nat) : Int))], [(38, q2bW_28 l10), (5003, q2bW_28 r6)], [], 0⟩ (an1 ob6) ?_
          rw [hC1] at h
          exact loopQ_normal (_, (n7 + 1), l10) (Le.trans (Le.trans (Le.ren (swapN 38 5004) (swapN_inv 38 5004) rfl) (Le.mk (s' := ⟨41, [(3, .own 5003), (4, .own 5004), (25, .own 5003), (26, .int .i64 (((r6).length : Nat) : Int)), (27, .int .i64 (((n7 + 1) : Nat) : Int))], [(5004, q2bW_28 l10), (5003, q2bW_28 r6)], [], 0⟩) rfl rfl ⟨.refl _, .refl _, .refl _, .refl _, .refl _, trivial⟩ ⟨⟨_, rfl, .refl _⟩, ⟨_, rfl, .refl _⟩, trivial⟩)) (Le.mk rfl rfl ⟨.refl _, .refl _, .refl _, .refl _, .refl _, trivial⟩ ⟨⟨_, rfl, .refl _⟩, ⟨_, rfl, .refl _⟩, trivial⟩)) h (Nat.lt_succ_self _)
      ·
        replace h := ite_fb hc2 h
        refine AWp.exit ?_
        refine thenQ_exit ?_
        refine thenQ_exit ?_
        refine blockQ_same ?_
        exact joinQ_normal (l8) (Le.mk rfl rfl ⟨.refl _, trivial⟩ ⟨⟨_, rfl, .refl _⟩, trivial⟩) h
    ·
      rintro l11 h
      replace h := (congrFun hK2 _).symm.trans h
      refine q2rq [] [] [2] [5004] ⟨41, [(2, .own 5004)], [(5004, q2bW_28 l11)], [], 0⟩ trivial ?_
      refine AWp.le (Le.trans (Le.ren (swapN 5004 3000) (swapN_inv 5004 3000) rfl) (Le.mk (s' := ⟨41, [(2, .own 3000)], [(3000, q2bW_28 l11)], [], 0⟩) rfl rfl ⟨.refl _, trivial⟩ ⟨⟨_, rfl, .refl _⟩, trivial⟩)) ?_
      have hret := Option.some.inj h
      subst hret
      refine AWp.le (Le.mk (s' := ⟨41, [(2, .own 3000)], [(3000, q2bW_28 l11)], [], 0⟩) rfl rfl ⟨.refl _, trivial⟩ ⟨⟨_, rfl, .refl _⟩, trivial⟩) ?_
      refine AWp.ret ?_
      exact bodyQ_ret _ rfl ⟨rfl, rfl⟩ rfl
def f37_L0 (x1 : List (BitVec 16)) (x2 : List (BitVec 16)) (K1 : Unit → Option Bool) : Nat → Nat → Option Bool
  | 0, _ => none
  | k + 1, n3 =>
    if (decide ((n3 : Int) < (((x1).length : Nat) : Int))) then (
    chk ((n3 : Int) < (((x1).length : Nat) : Int)) <|
    chk ((n3 : Int) < (((x2).length : Nat) : Int)) <|
    if (!((x1.getD n3 0#16) == (x2.getD n3 0#16))) then (
    some false
    ) else (
    chk (((n3 : Int) + (1 : Int)) ≤ 9223372036854775807) <|
    (f37_L0 x1 x2 K1 k) (n3 + 1)
    )
    ) else (
    K1 ()
    )
def f37 (x1 : List (BitVec 16)) (x2 : List (BitVec 16)) : Option Bool :=
  if ((((x1).length : Nat) : Int) != (((x2).length : Nat) : Int)) then (
  some false
  ) else (
  jn (fun (_ : Unit) =>
  some true
  ) fun (K1 : Unit → Option Bool) =>
  f37_L0 x1 x2 K1 FUEL 0
  )
set_option maxRecDepth 100000 in
theorem f37_ok  (x1 : List (BitVec 16)) (x2 : List (BitVec 16)) (r : Bool) (h : f37 x1 x2 = some r)  : Spec1 Tryz.prog 37 [] [] [] [vL 1 eW 0#16 x1, vL 1 eW 0#16 x2] (.bool r) [] := by
  unfold f37 at h
  refine Spec1.body 0 _ _ Tryz.func37 rfl Tryz.ntmps37 rfl rfl ?_
  refine q2rq [] [] [0, 1] [] ⟨26, [(0, q2aW x1), (1, q2aW x2)], [], [], 0⟩ trivial ?_
  refine AWp.seq ?_
  refine q2rq [] [] [0, 1, 10] [] ⟨26, [(0, q2aW x1), (1, q2aW x2), (10, .bool ((((x1).length : Nat) : Int) != (((x2).length : Nat) : Int)))], [], [], 0⟩ trivial ?_
  refine AWp.cond (b := ((((x1).length : Nat) : Int) != (((x2).length : Nat) : Int))) (by kernel_rfl) (fun hc1 => ?_) (fun hc1 => ?_)
  ·
    replace h := ite_tb hc1 h
    refine q2rq [] [] [4] [] ⟨26, [(4, .bool false)], [], [], 0⟩ trivial ?_
    have hret := Option.some.inj h
    subst hret
    refine AWp.le (Le.mk (s' := ⟨26, [(4, .bool false)], [], [], 0⟩) rfl rfl ⟨.refl _, trivial⟩ trivial) ?_
    refine AWp.ret ?_
    refine thenQ_ret ?_
    exact bodyQ_ret _ rfl ⟨rfl, rfl⟩ rfl
  ·
    replace h := ite_fb hc1 h
    refine AWp.skip ?_
    refine thenQ_normal ?_
    obtain ⟨K1, hK1, h⟩ := jn_some h
    refine AWp.join (α := Unit) (fun (x : Unit) => match x with | () => ⟨26, [], [], [], 0⟩) (fun x => K1 x = some r) ?_ ?_
    ·
      refine q2rq [] [] [0, 1, 5] [] ⟨26, [(0, q2aW x1), (1, q2aW x2), (5, .int .i64 (0 : Int))], [], [], 0⟩ trivial ?_
      refine AWp.block ?_
      refine AWp.loopL (α := Nat × Nat) (fun x => match x with | (_, n3) => ⟨26, [(0, q2aW x1), (1, q2aW x2), (5, .int .i64 (n3 : Int))], [], [], 0⟩) (fun x => f37_L0 x1 x2 K1 x.1 x.2 = some r) (fun x => x.1) (FUEL, 0) (Le.mk (s' := ⟨26, [(0, q2aW x1), (1, q2aW x2), (5, .int .i64 (0 : Int))], [], [], 0⟩) rfl rfl ⟨.refl _, .refl _, .refl _, trivial⟩ trivial) h ?_
      rintro ⟨k0, n3⟩ h
      cases k0 with
      | zero => exact nomatch (show (none : Option Bool) = some r from h)
      | succ k0 =>
      obtain ⟨C0, hC0⟩ : ∃ C, C = f37_L0 x1 x2 K1 k0 := ⟨_, rfl⟩
      replace h := (f37_L0.eq_2 ..).symm.trans h
      try rw [← hC0] at h
      refine AWp.seq ?_
      refine q2rq [] [] [0, 1, 5, 14] [] ⟨26, [(0, q2aW x1), (1, q2aW x2), (5, .int .i64 (n3 : Int)), (14, .bool (decide ((n3 : Int) < (((x1).length : Nat) : Int))))], [], [], 0⟩ trivial ?_
      refine AWp.cond (b := (decide ((n3 : Int) < (((x1).length : Nat) : Int)))) (by kernel_rfl) (fun hc2 => ?_) (fun hc2 => ?_)
      ·
        replace h := ite_tb hc2 h
        refine AWp.skip ?_
        refine thenQ_normal ?_
        refine AWp.seq ?_
        refine AWp.block ?_
        refine AWp.seq ?_
        obtain ⟨ob0p, h⟩ := chk_some h
        have ob0 : 0 ≤ (n3 : Int) ∧ (n3 : Int) < (((x1).length : Nat) : Int) := ⟨by omega, ob0p⟩
        obtain ⟨ob1p, h⟩ := chk_some h
        have ob1 : 0 ≤ (n3 : Int) ∧ (n3 : Int) < (((x2).length : Nat) : Int) := ⟨by omega, ob1p⟩
        refine q2rr [] [] [0, 1, 5, 25] [] ⟨26, [(0, q2aW x1), (1, q2aW x2), (5, .int .i64 (n3 : Int)), (25, .bool (!((x1.getD n3 0#16) == (x2.getD n3 0#16))))], [], [], 0⟩ (an2 ob0 ob1) ?_
        refine thenQ_normal ?_
        refine AWp.cond (b := (!((x1.getD n3 0#16) == (x2.getD n3 0#16)))) (by kernel_rfl) (fun hc3 => ?_) (fun hc3 => ?_)
        ·
          replace h := ite_tb hc3 h
          refine q2rq [] [] [4] [] ⟨26, [(4, .bool false)], [], [], 0⟩ trivial ?_
          have hret := Option.some.inj h
          subst hret
          refine AWp.le (Le.mk (s' := ⟨26, [(4, .bool false)], [], [], 0⟩) rfl rfl ⟨.refl _, trivial⟩ trivial) ?_
          refine AWp.ret ?_
          refine blockQ_ret ?_
          refine thenQ_ret ?_
          refine thenQ_ret ?_
          refine blockQ_ret ?_
          refine joinQ_ret ?_
          exact bodyQ_ret _ rfl ⟨rfl, rfl⟩ rfl
        ·
          replace h := ite_fb hc3 h
          refine AWp.skip ?_
          refine blockQ_normal ?_
          refine thenQ_normal ?_
          obtain ⟨ob2p, h⟩ := chk_some h
          have ob2 : -9223372036854775808 ≤ ((n3 : Int) + (1 : Int)) ∧ ((n3 : Int) + (1 : Int)) ≤ 9223372036854775807 := ⟨by omega, ob2p⟩
          refine q2rr [] [] [0, 1, 5] [] ⟨26, [(0, q2aW x1), (1, q2aW x2), (5, .int .i64 (((n3 + 1) : Nat) : Int))], [], [], 0⟩ (an1 ob2) ?_
          rw [hC0] at h
          exact loopQ_normal (_, (n3 + 1)) (Le.mk rfl rfl ⟨.refl _, .refl _, .refl _, trivial⟩ trivial) h (Nat.lt_succ_self _)
      ·
        replace h := ite_fb hc2 h
        refine AWp.exit ?_
        refine thenQ_exit ?_
        refine thenQ_exit ?_
        refine blockQ_same ?_
        exact joinQ_normal () (Le.mk rfl rfl trivial trivial) h
    ·
      rintro ⟨⟩ h
      replace h := (congrFun hK1 _).symm.trans h
      refine q2rq [] [] [4] [] ⟨26, [(4, .bool true)], [], [], 0⟩ trivial ?_
      have hret := Option.some.inj h
      subst hret
      refine AWp.le (Le.mk (s' := ⟨26, [(4, .bool true)], [], [], 0⟩) rfl rfl ⟨.refl _, trivial⟩ trivial) ?_
      refine AWp.ret ?_
      exact bodyQ_ret _ rfl ⟨rfl, rfl⟩ rfl
def f12  : Option Bool :=
  (f20 (3 : Int) (1 : Int) (1 : Int)).bind fun (r1 : (List (BitVec 16 × BitVec 16)) × Int) =>
  (f27 [((BitVec.ofInt 16 3), (BitVec.ofInt 16 0))] [((BitVec.ofInt 16 1), (BitVec.ofInt 16 6))]).bind fun (r2 : Int × (List (BitVec 16 × BitVec 16))) =>
  if ((((r1.2 == (0 : Int)) && (r2.1 == (0 : Int))) && ((((r1.1).length : Nat) : Int) == (6 : Int))) && ((((r1.1.getD 1 (default : BitVec 16 × BitVec 16)).1) == (BitVec.ofInt 16 1)) && ((((r1.1.getD 1 (default : BitVec 16 × BitVec 16)).2) == (BitVec.ofInt 16 4)) && true))) = true then (
  (f22 r2.2 [((BitVec.ofInt 16 1), (BitVec.ofInt 16 2))]).bind fun (r3 : Bool) =>
  optc (r3 == true) (f16 (([((BitVec.ofInt 16 1), (BitVec.ofInt 16 6))].getD 0 (default : BitVec 16 × BitVec 16)).1) (([((BitVec.ofInt 16 1), (BitVec.ofInt 16 6))].getD 0 (default : BitVec 16 × BitVec 16)).2) (([((BitVec.ofInt 16 3), (BitVec.ofInt 16 0))].getD 0 (default : BitVec 16 × BitVec 16)).1) (([((BitVec.ofInt 16 3), (BitVec.ofInt 16 0))].getD 0 (default : BitVec 16 × BitVec 16)).2)) fun (r4 : Bool) =>
  optc ((r3 && (!r4)) == true) (f35 r2.2) fun (r5 : List UInt8) =>
  if ((r3 && (!r4)) && (r5 == cs5)) = true then (
  (f38 ([((BitVec.ofInt 16 1), (BitVec.ofInt 16 6))] ++ [((BitVec.ofInt 16 3), (BitVec.ofInt 16 0))])).bind fun (r6 : List (BitVec 16)) =>
  (f37 r6 [(BitVec.ofInt 16 3)]).bind fun (r7 : Bool) =>
  chk (((((r1.2 == (0 : Int)) && (r2.1 == (0 : Int))) && ((((r1.1).length : Nat) : Int) == (6 : Int))) == true) = true → 0 ≤ (1 : Int) ∧ (1 : Int) < (((r1.1).length : Nat) : Int)) <|
  chk ((r3 == true) = true → 0 ≤ (0 : Int) ∧ (0 : Int) < ((([((BitVec.ofInt 16 1), (BitVec.ofInt 16 6))]).length : Nat) : Int)) <|
  chk ((r3 == true) = true → 0 < ([((BitVec.ofInt 16 1), (BitVec.ofInt 16 6))]).length) <|
  chk ((r3 == true) = true → 0 ≤ (0 : Int) ∧ (0 : Int) < ((([((BitVec.ofInt 16 3), (BitVec.ofInt 16 0))]).length : Nat) : Int)) <|
  chk ((r3 == true) = true → 0 < ([((BitVec.ofInt 16 3), (BitVec.ofInt 16 0))]).length) <|
  chk ((([((BitVec.ofInt 16 1), (BitVec.ofInt 16 6))]).length + ([((BitVec.ofInt 16 3), (BitVec.ofInt 16 0))]).length) * 4 ≤ 140737488355328) <|
  some r7
  ) else (
  chk (((((r1.2 == (0 : Int)) && (r2.1 == (0 : Int))) && ((((r1.1).length : Nat) : Int) == (6 : Int))) == true) = true → 0 ≤ (1 : Int) ∧ (1 : Int) < (((r1.1).length : Nat) : Int)) <|
  chk ((r3 == true) = true → 0 ≤ (0 : Int) ∧ (0 : Int) < ((([((BitVec.ofInt 16 1), (BitVec.ofInt 16 6))]).length : Nat) : Int)) <|
  chk ((r3 == true) = true → 0 < ([((BitVec.ofInt 16 1), (BitVec.ofInt 16 6))]).length) <|
  chk ((r3 == true) = true → 0 ≤ (0 : Int) ∧ (0 : Int) < ((([((BitVec.ofInt 16 3), (BitVec.ofInt 16 0))]).length : Nat) : Int)) <|
  chk ((r3 == true) = true → 0 < ([((BitVec.ofInt 16 3), (BitVec.ofInt 16 0))]).length) <|
  some false
  )
  ) else (
  chk (((((r1.2 == (0 : Int)) && (r2.1 == (0 : Int))) && ((((r1.1).length : Nat) : Int) == (6 : Int))) == true) = true → 0 ≤ (1 : Int) ∧ (1 : Int) < (((r1.1).length : Nat) : Int)) <|
  chk (false = true → 0 ≤ (0 : Int) ∧ (0 : Int) < ((([((BitVec.ofInt 16 1), (BitVec.ofInt 16 6))]).length : Nat) : Int)) <|
  chk (false = true → 0 < ([((BitVec.ofInt 16 1), (BitVec.ofInt 16 6))]).length) <|
  chk (false = true → 0 ≤ (0 : Int) ∧ (0 : Int) < ((([((BitVec.ofInt 16 3), (BitVec.ofInt 16 0))]).length : Nat) : Int)) <|
  chk (false = true → 0 < ([((BitVec.ofInt 16 3), (BitVec.ofInt 16 0))]).length) <|
  some false
  )
set_option maxRecDepth 100000 in
theorem f12_ok   (r : Bool) (h : f12 = some r)  : Spec1 Tryz.prog 12 [(0, .elem 32 1 T0F 0 0), (6, .elem 20 1 T6F 0 0)] [] [] [] (.bool r) [] := by
  unfold f12 at h
  refine Spec1.body 0 _ _ Tryz.func12 rfl Tryz.ntmps12 rfl rfl ?_
  refine q2rq [] [] [1000000, 1000006] [] ⟨68, [(1000000, .elem 32 1 T0F 0 0), (1000006, .elem 20 1 T6F 0 0)], [], [], 0⟩ trivial ?_
  refine AWp.seq ?_
  obtain ⟨r1, hr1, h⟩ := bind_ok h
  refine q2rr [] [(0, ⟨[.int .i64 (3 : Int), .int .i64 (1 : Int), .int .i64 (1 : Int)], [], [], [], .tup [q2aWW r1.1, .int .i64 r1.2], [], [], [0]⟩)] [1, 2, 1000000, 1000006] [] ⟨68, [(1, q2aWW r1.1), (2, .int .i64 r1.2), (1000000, .elem 32 1 T0F 0 0), (1000006, .elem 20 1 T6F 0 0)], [], [], 0⟩ (an1 (cpT (f20_ok _ _ _ _ hr1))) ?_
  refine thenQ_normal ?_
  refine q2rq [] [] [1, 2, 3, 4, 1000000, 1000006] [12, 14] ⟨68, [(1, q2aWW r1.1), (2, .int .i64 r1.2), (3, .own 12), (4, .own 14), (1000000, .elem 32 1 T0F 0 0), (1000006, .elem 20 1 T6F 0 0)], [(12, .rows 30 2 1 (lstF 2 [.b16 (q2w16 3), .b16 (q2w16 0)])), (14, .rows 30 2 1 (lstF 2 [.b16 (q2w16 1), .b16 (q2w16 6)]))], [], 0⟩ trivial ?_
  refine AWp.le (Le.mk (s' := ⟨68, [(1, q2aWW r1.1), (2, .int .i64 r1.2), (3, .own 12), (4, .own 14), (1000000, .elem 32 1 T0F 0 0), (1000006, .elem 20 1 T6F 0 0)], [(12, q2bWW_30 [((q2w16 3), (q2w16 0))]), (14, q2bWW_30 [((q2w16 1), (q2w16 6))])], [], 0⟩) rfl rfl ⟨.refl _, .refl _, .refl _, .refl _, .refl _, .refl _, trivial⟩ ⟨⟨_, rfl, (BLe.of (RL.lst (enc := eWW) [((q2w16 3), (q2w16 0))] rfl rfl (fun _ => rfl)))⟩, ⟨_, rfl, (BLe.of (RL.lst (enc := eWW) [((q2w16 1), (q2w16 6))] rfl rfl (fun _ => rfl)))⟩, trivial⟩) ?_
  refine AWp.seq ?_
  obtain ⟨r2, hr2, h⟩ := bind_ok h
  refine q2rr [] [(2, ⟨[q2aWW [((q2w16 3), (q2w16 0))], q2aWW [((q2w16 1), (q2w16 6))]], [], [], [(6001, q2bWW_30 r2.2)], .tup [.own 6001, .int .i64 r2.1], [6001], [12, 14], []⟩)] [1, 2, 3, 4, 5, 6, 1000000, 1000006] [12, 14, 6001] ⟨68, [(1, q2aWW r1.1), (2, .int .i64 r1.2), (3, .own 12), (4, .own 14), (5, .own 6001), (6, .int .i64 r2.1), (1000000, .elem 32 1 T0F 0 0), (1000006, .elem 20 1 T6F 0 0)], [(12, q2bWW_30 [((q2w16 3), (q2w16 0))]), (14, q2bWW_30 [((q2w16 1), (q2w16 6))]), (6001, q2bWW_30 r2.2)], [], 0⟩ (an1 (cpL (c := true) [(12, q2bWW_30 [((q2w16 3), (q2w16 0))]), (14, q2bWW_30 [((q2w16 1), (q2w16 6))])] [12, 14] [.own 12, .own 14] (fun _ => (Spec1.ren (swapN 3000 6001) (swapN_inv 3000 6001) rfl (f27_ok _ _ _ hr2))) (fun _ => ⟨.refl _, .refl _, trivial⟩) (.inr ⟨rfl, ⟨(fun _ _ _ _ => eWW_flat _ _), trivial⟩⟩))) ?_
  refine thenQ_normal ?_
  refine AWp.seq ?_
  by_cases hg4_18 : ((((r1.2 == (0 : Int)) && (r2.1 == (0 : Int))) && ((((r1.1).length : Nat) : Int) == (6 : Int))) && ((((r1.1.getD 1 q2dWW).1) == (q2w16 1)) && ((((r1.1.getD 1 q2dWW).2) == (q2w16 4)) && true))) = true
  ·
    replace h := ite_t hg4_18 h
    obtain ⟨r3, hr3, h⟩ := bind_ok h
    obtain ⟨r4, hr4, h⟩ := optc_some h
    obtain ⟨r5, hr5, h⟩ := optc_some h
    by_cases hg4_39 : ((r3 && (!r4)) && (r5 == cs5)) = true
    ·
      replace h := ite_t hg4_39 h
      obtain ⟨r6, hr6, h⟩ := bind_ok h
      obtain ⟨r7, hr7, h⟩ := bind_ok h
      have ob0 : ((r1.2 == (0 : Int)) == true) = true → ((r1.2 == (0 : Int)) == true) = true := fun h => h
      have ob1 : true = true → (r1.2 == (0 : Int)) = true → ((r1.2 == (0 : Int)) == true) = true := fun _ h => beq_iff_eq.2 h
      have ob2 : (((r1.2 == (0 : Int)) && (r2.1 == (0 : Int))) == true) = true → (((r1.2 == (0 : Int)) && (r2.1 == (0 : Int))) == true) = true := fun h => h
      have ob3 : (((r1.2 == (0 : Int)) && (r2.1 == (0 : Int))) == true) = true → (((r1.2 == (0 : Int)) && (r2.1 == (0 : Int))) == true) = true := fun h => h
      have ob4 : true = true → ((r1.2 == (0 : Int)) && (r2.1 == (0 : Int))) = true → (((r1.2 == (0 : Int)) && (r2.1 == (0 : Int))) == true) = true := fun _ h => beq_iff_eq.2 h
      obtain ⟨ob5, h⟩ := chk_some h
      have ob6 : ((((r1.2 == (0 : Int)) && (r2.1 == (0 : Int))) && ((((r1.1).length : Nat) : Int) == (6 : Int))) == true) = true → ((((r1.2 == (0 : Int)) && (r2.1 == (0 : Int))) && ((((r1.1).length : Nat) : Int) == (6 : Int))) == true) = true := fun h => h
      have ob7 : ((((r1.2 == (0 : Int)) && (r2.1 == (0 : Int))) && ((((r1.1).length : Nat) : Int) == (6 : Int))) == true) = true → ((((r1.2 == (0 : Int)) && (r2.1 == (0 : Int))) && ((((r1.1).length : Nat) : Int) == (6 : Int))) == true) = true := fun h => h
      have ob8 : ((((r1.2 == (0 : Int)) && (r2.1 == (0 : Int))) && ((((r1.1).length : Nat) : Int) == (6 : Int))) == true) = true → ((((r1.2 == (0 : Int)) && (r2.1 == (0 : Int))) && ((((r1.1).length : Nat) : Int) == (6 : Int))) == true) = true := fun h => h
      have ob9 : ((((r1.2 == (0 : Int)) && (r2.1 == (0 : Int))) && ((((r1.1).length : Nat) : Int) == (6 : Int))) == true) = true → ((((r1.2 == (0 : Int)) && (r2.1 == (0 : Int))) && ((((r1.1).length : Nat) : Int) == (6 : Int))) == true) = true := fun h => h
      have ob10 : true = true → (((r1.2 == (0 : Int)) && (r2.1 == (0 : Int))) && ((((r1.1).length : Nat) : Int) == (6 : Int))) = true → ((((r1.2 == (0 : Int)) && (r2.1 == (0 : Int))) && ((((r1.1).length : Nat) : Int) == (6 : Int))) == true) = true := fun _ h => beq_iff_eq.2 h
      have ob11 : true = true → true = true := fun h => h
      have ob12 : true = true → true = true := fun h => h
      have ob13 : true = true → true = true → true = true := fun _ h => h
      obtain ⟨ob14, h⟩ := chk_some h
      have ob15 : (r3 == true) = true → (r3 == true) = true := fun h => h
      obtain ⟨ob16, h⟩ := chk_some h
      have ob17 : (r3 == true) = true → (r3 == true) = true := fun h => h
      obtain ⟨ob18, h⟩ := chk_some h
      have ob19 : (r3 == true) = true → (r3 == true) = true := fun h => h
      obtain ⟨ob20, h⟩ := chk_some h
      have ob21 : (r3 == true) = true → (r3 == true) = true := fun h => h
      have ob22 : (r3 == true) = true → (r3 == true) = true := fun h => h
      have ob23 : (r3 == true) = true → (r3 == true) = true := fun h => h
      have ob24 : (r3 == true) = true → (r3 == true) = true := fun h => h
      have ob25 : true = true → r3 = true → (r3 == true) = true := fun _ h => beq_iff_eq.2 h
      have ob26 : ((r3 && (!r4)) == true) = true → ((r3 && (!r4)) == true) = true := fun h => h
      have ob27 : ((r3 && (!r4)) == true) = true → ((r3 && (!r4)) == true) = true := fun h => h
      have ob28 : true = true → (r3 && (!r4)) = true → ((r3 && (!r4)) == true) = true := fun _ h => beq_iff_eq.2 h
      obtain ⟨ob29, h⟩ := chk_some h
      have ob30 : true = true → true = true := fun h => h
      have ob31 : true = true → true = true := fun h => h
      have ob32 : true = true → true = true → true = true := fun _ h => h
      refine q2rr [] [(18, ⟨[], [], [], [], (.bool true), [], [0], []⟩), (22, ⟨[q2aWW r2.2, q2aWW [((q2w16 1), (q2w16 2))]], [], [], [], .bool r3, [], [6001, 42], []⟩), (31, ⟨[.agg [.b16 ([((q2w16 1), (q2w16 6))].getD 0 q2dWW).1, .b16 ([((q2w16 1), (q2w16 6))].getD 0 q2dWW).2], .agg [.b16 ([((q2w16 3), (q2w16 0))].getD 0 q2dWW).1, .b16 ([((q2w16 3), (q2w16 0))].getD 0 q2dWW).2]], [], [], [], .bool r4, [], [], []⟩), (36, ⟨[q2aWW r2.2], [], [], [], .str r5, [], [6001], [0, 6]⟩), (39, ⟨[], [], [], [], (.bool true), [], [0], []⟩), (43, ⟨[q2aWW ([((q2w16 1), (q2w16 6))] ++ [((q2w16 3), (q2w16 0))])], [], [], [(6002, q2bW_28 r6)], .own 6002, [6002], [14], []⟩), (45, ⟨[q2aW r6, q2aW [(q2w16 3)]], [], [], [], .bool r7, [], [6002, 65], []⟩)] [0, 1000000, 1000006] [] ⟨68, [(0, .bool r7), (1000000, .elem 32 1 T0F 0 0), (1000006, .elem 20 1 T6F 0 0)], [], [], 0⟩ (ac6 (an1 ob0) ob1 (an1 ob2) (an1 ob3) ob4 (And.intro ob5 (an1 ob6)) (ac6 (an1 ob7) (an2 ob8 ob9) ob10 (show ((.bool ((((r1.2 == (0 : Int)) && (r2.1 == (0 : Int))) && ((((r1.1).length : Nat) : Int) == (6 : Int))) && ((((r1.1.getD 1 q2dWW).1) == (q2w16 1)) && ((((r1.1.getD 1 q2dWW).2) == (q2w16 4)) && true)))) : V) = (.bool true) from (congrArg (fun x => ((.bool x) : V)) hg4_18)) (an1 ob11) (And.intro (cpL (c := true) [(6001, q2bWW_30 r2.2), (42, .rows 30 2 1 (lstF 2 [.b16 (q2w16 1), .b16 (q2w16 2)]))] [6001, 42] [.own 6001, .own 42] (fun _ => (f22_ok _ _ _ hr3)) (fun _ => ⟨.refl _, (VLe.of (RL.lst (enc := eWW) [((q2w16 1), (q2w16 2))] rfl rfl (fun _ => rfl))), trivial⟩) (.inr ⟨rfl, trivial⟩)) (an1 ob12)) (ac6 ob13 (And.intro ob14 (an1 ob15)) (And.intro ob16 (an1 ob17)) (And.intro ob18 (an1 ob19)) (And.intro ob20 (an1 ob21)) (And.intro (cpC fun hc => (f16_ok _ _ _ _ _ (hr4 hc))) (an2 ob22 ob23)) (ac6 (an1 ob24) ob25 (And.intro (cpL [(6001, q2bWW_30 r2.2)] [6001] [.own 6001] (fun hc => (f35_ok _ _ (hr5 hc))) (fun _ => ⟨.refl _, trivial⟩) (.inr ⟨rfl, trivial⟩)) (an1 ob26)) (an1 ob27) ob28 (show ((.bool ((r3 && (!r4)) && (r5 == cs5))) : V) = (.bool true) from (congrArg (fun x => ((.bool x) : V)) hg4_39)) (an4 (And.intro ob29 (an2 ob30 ob31)) (cpL (c := true) [(14, .rows 30 2 (([((q2w16 1), (q2w16 6))]).length + ([((q2w16 3), (q2w16 0))]).length) (appF ([((q2w16 1), (q2w16 6))]).length (encF eWW q2dWW [((q2w16 1), (q2w16 6))]) (encF eWW q2dWW [((q2w16 3), (q2w16 0))])))] [14] [.own 14] (fun _ => (Spec1.ren (swapN 3000 6002) (swapN_inv 3000 6002) rfl (f38_ok _ _ hr6))) (fun _ => ⟨(VLe.of (RL.app (RL.self _) (RL.self _))), trivial⟩) (.inr ⟨rfl, ⟨(fun _ _ _ _ => eW_flat _ _), trivial⟩⟩)) (cpL (c := true) [(6002, q2bW_28 r6), (65, .rows 28 1 1 (lstF 1 [.b16 (q2w16 3)]))] [6002, 65] [.own 6002, .own 65] (fun _ => (f37_ok _ _ _ hr7)) (fun _ => ⟨.refl _, (VLe.of (RL.lst (enc := eW) [(q2w16 3)] rfl rfl (fun _ => rfl))), trivial⟩) (.inr ⟨rfl, trivial⟩)) ob32))))) ?_
      refine thenQ_normal ?_
      have hret := Option.some.inj h
      subst hret
      refine AWp.le (Le.mk (s' := ⟨68, [(0, .bool r7)], [], [], 0⟩) rfl rfl ⟨.refl _, trivial⟩ trivial) ?_
      refine AWp.ret ?_
      exact bodyQ_ret _ rfl ⟨rfl, rfl⟩ rfl
    ·
      replace h := ite_f hg4_39 h
      have ob0 : ((r1.2 == (0 : Int)) == true) = true → ((r1.2 == (0 : Int)) == true) = true := fun h => h
      have ob1 : true = true → (r1.2 == (0 : Int)) = true → ((r1.2 == (0 : Int)) == true) = true := fun _ h => beq_iff_eq.2 h
      have ob2 : (((r1.2 == (0 : Int)) && (r2.1 == (0 : Int))) == true) = true → (((r1.2 == (0 : Int)) && (r2.1 == (0 : Int))) == true) = true := fun h => h
      have ob3 : (((r1.2 == (0 : Int)) && (r2.1 == (0 : Int))) == true) = true → (((r1.2 == (0 : Int)) && (r2.1 == (0 : Int))) == true) = true := fun h => h
      have ob4 : true = true → ((r1.2 == (0 : Int)) && (r2.1 == (0 : Int))) = true → (((r1.2 == (0 : Int)) && (r2.1 == (0 : Int))) == true) = true := fun _ h => beq_iff_eq.2 h
      obtain ⟨ob5, h⟩ := chk_some h
      have ob6 : ((((r1.2 == (0 : Int)) && (r2.1 == (0 : Int))) && ((((r1.1).length : Nat) : Int) == (6 : Int))) == true) = true → ((((r1.2 == (0 : Int)) && (r2.1 == (0 : Int))) && ((((r1.1).length : Nat) : Int) == (6 : Int))) == true) = true := fun h => h
      have ob7 : ((((r1.2 == (0 : Int)) && (r2.1 == (0 : Int))) && ((((r1.1).length : Nat) : Int) == (6 : Int))) == true) = true → ((((r1.2 == (0 : Int)) && (r2.1 == (0 : Int))) && ((((r1.1).length : Nat) : Int) == (6 : Int))) == true) = true := fun h => h
      have ob8 : ((((r1.2 == (0 : Int)) && (r2.1 == (0 : Int))) && ((((r1.1).length : Nat) : Int) == (6 : Int))) == true) = true → ((((r1.2 == (0 : Int)) && (r2.1 == (0 : Int))) && ((((r1.1).length : Nat) : Int) == (6 : Int))) == true) = true := fun h => h
      have ob9 : ((((r1.2 == (0 : Int)) && (r2.1 == (0 : Int))) && ((((r1.1).length : Nat) : Int) == (6 : Int))) == true) = true → ((((r1.2 == (0 : Int)) && (r2.1 == (0 : Int))) && ((((r1.1).length : Nat) : Int) == (6 : Int))) == true) = true := fun h => h
      have ob10 : true = true → (((r1.2 == (0 : Int)) && (r2.1 == (0 : Int))) && ((((r1.1).length : Nat) : Int) == (6 : Int))) = true → ((((r1.2 == (0 : Int)) && (r2.1 == (0 : Int))) && ((((r1.1).length : Nat) : Int) == (6 : Int))) == true) = true := fun _ h => beq_iff_eq.2 h
      have ob11 : true = true → true = true := fun h => h
      have ob12 : true = true → true = true := fun h => h
      have ob13 : true = true → true = true → true = true := fun _ h => h
      obtain ⟨ob14, h⟩ := chk_some h
      have ob15 : (r3 == true) = true → (r3 == true) = true := fun h => h
      obtain ⟨ob16, h⟩ := chk_some h
      have ob17 : (r3 == true) = true → (r3 == true) = true := fun h => h
      obtain ⟨ob18, h⟩ := chk_some h
      have ob19 : (r3 == true) = true → (r3 == true) = true := fun h => h
      obtain ⟨ob20, h⟩ := chk_some h
      have ob21 : (r3 == true) = true → (r3 == true) = true := fun h => h
      have ob22 : (r3 == true) = true → (r3 == true) = true := fun h => h
      have ob23 : (r3 == true) = true → (r3 == true) = true := fun h => h
      have ob24 : (r3 == true) = true → (r3 == true) = true := fun h => h
      have ob25 : true = true → r3 = true → (r3 == true) = true := fun _ h => beq_iff_eq.2 h
      have ob26 : ((r3 && (!r4)) == true) = true → ((r3 && (!r4)) == true) = true := fun h => h
      have ob27 : ((r3 && (!r4)) == true) = true → ((r3 && (!r4)) == true) = true := fun h => h
      have ob28 : true = true → (r3 && (!r4)) = true → ((r3 && (!r4)) == true) = true := fun _ h => beq_iff_eq.2 h
      have ob29 : false = true → false = true := fun h => h
      have ob30 : false = true → false = true := fun h => h
      have ob31 : false = true → false = true := fun h => h
      have ob32 : true = true → false = true → false = true := fun _ h => h
      refine q2rr [] [(18, ⟨[], [], [], [], (.bool true), [], [0], []⟩), (22, ⟨[q2aWW r2.2, q2aWW [((q2w16 1), (q2w16 2))]], [], [], [], .bool r3, [], [6001, 42], []⟩), (31, ⟨[.agg [.b16 ([((q2w16 1), (q2w16 6))].getD 0 q2dWW).1, .b16 ([((q2w16 1), (q2w16 6))].getD 0 q2dWW).2], .agg [.b16 ([((q2w16 3), (q2w16 0))].getD 0 q2dWW).1, .b16 ([((q2w16 3), (q2w16 0))].getD 0 q2dWW).2]], [], [], [], .bool r4, [], [], []⟩), (36, ⟨[q2aWW r2.2], [], [], [], .str r5, [], [6001], [0, 6]⟩), (39, ⟨[], [], [], [], (.bool false), [], [0], []⟩), (43, ⟨[], [], [], [], .any, [], [], []⟩), (45, ⟨[], [], [], [], .bool false, [], [], []⟩)] [0, 1000000, 1000006] [] ⟨68, [(0, .bool false), (1000000, .elem 32 1 T0F 0 0), (1000006, .elem 20 1 T6F 0 0)], [], [], 0⟩ (ac6 (an1 ob0) ob1 (an1 ob2) (an1 ob3) ob4 (And.intro ob5 (an1 ob6)) (ac6 (an1 ob7) (an2 ob8 ob9) ob10 (show ((.bool ((((r1.2 == (0 : Int)) && (r2.1 == (0 : Int))) && ((((r1.1).length : Nat) : Int) == (6 : Int))) && ((((r1.1.getD 1 q2dWW).1) == (q2w16 1)) && ((((r1.1.getD 1 q2dWW).2) == (q2w16 4)) && true)))) : V) = (.bool true) from (congrArg (fun x => ((.bool x) : V)) hg4_18)) (an1 ob11) (And.intro (cpL (c := true) [(6001, q2bWW_30 r2.2), (42, .rows 30 2 1 (lstF 2 [.b16 (q2w16 1), .b16 (q2w16 2)]))] [6001, 42] [.own 6001, .own 42] (fun _ => (f22_ok _ _ _ hr3)) (fun _ => ⟨.refl _, (VLe.of (RL.lst (enc := eWW) [((q2w16 1), (q2w16 2))] rfl rfl (fun _ => rfl))), trivial⟩) (.inr ⟨rfl, trivial⟩)) (an1 ob12)) (ac6 ob13 (And.intro ob14 (an1 ob15)) (And.intro ob16 (an1 ob17)) (And.intro ob18 (an1 ob19)) (And.intro ob20 (an1 ob21)) (And.intro (cpC fun hc => (f16_ok _ _ _ _ _ (hr4 hc))) (an2 ob22 ob23)) (ac6 (an1 ob24) ob25 (And.intro (cpL [(6001, q2bWW_30 r2.2)] [6001] [.own 6001] (fun hc => (f35_ok _ _ (hr5 hc))) (fun _ => ⟨.refl _, trivial⟩) (.inr ⟨rfl, trivial⟩)) (an1 ob26)) (an1 ob27) ob28 (show ((.bool ((r3 && (!r4)) && (r5 == cs5))) : V) = (.bool false) from (congrArg (fun x => ((.bool x) : V)) (Bool.eq_false_iff.2 hg4_39))) (an3 (And.intro (show (callP Tryz.prog false 38 [] [] [] [] [] [.bool false] [] (.any) []) from ⟨nofun, nofun, .inl rfl⟩) (an1 ob29)) (And.intro (show (callP Tryz.prog false 37 [] [] [] [] [] [.any, .bool false] [] (.bool false) []) from ⟨nofun, nofun, .inl rfl⟩) (an2 ob30 ob31)) ob32))))) ?_
      refine thenQ_normal ?_
      have hret := Option.some.inj h
      subst hret
      refine AWp.le (Le.mk (s' := ⟨68, [(0, .bool false)], [], [], 0⟩) rfl rfl ⟨.refl _, trivial⟩ trivial) ?_
      refine AWp.ret ?_
      exact bodyQ_ret _ rfl ⟨rfl, rfl⟩ rfl
  ·
    replace h := ite_f hg4_18 h
    have ob0 : ((r1.2 == (0 : Int)) == true) = true → ((r1.2 == (0 : Int)) == true) = true := fun h => h
    have ob1 : true = true → (r1.2 == (0 : Int)) = true → ((r1.2 == (0 : Int)) == true) = true := fun _ h => beq_iff_eq.2 h
    have ob2 : (((r1.2 == (0 : Int)) && (r2.1 == (0 : Int))) == true) = true → (((r1.2 == (0 : Int)) && (r2.1 == (0 : Int))) == true) = true := fun h => h
    have ob3 : (((r1.2 == (0 : Int)) && (r2.1 == (0 : Int))) == true) = true → (((r1.2 == (0 : Int)) && (r2.1 == (0 : Int))) == true) = true := fun h => h
    have ob4 : true = true → ((r1.2 == (0 : Int)) && (r2.1 == (0 : Int))) = true → (((r1.2 == (0 : Int)) && (r2.1 == (0 : Int))) == true) = true := fun _ h => beq_iff_eq.2 h
    obtain ⟨ob5, h⟩ := chk_some h
    have ob6 : ((((r1.2 == (0 : Int)) && (r2.1 == (0 : Int))) && ((((r1.1).length : Nat) : Int) == (6 : Int))) == true) = true → ((((r1.2 == (0 : Int)) && (r2.1 == (0 : Int))) && ((((r1.1).length : Nat) : Int) == (6 : Int))) == true) = true := fun h => h
    have ob7 : ((((r1.2 == (0 : Int)) && (r2.1 == (0 : Int))) && ((((r1.1).length : Nat) : Int) == (6 : Int))) == true) = true → ((((r1.2 == (0 : Int)) && (r2.1 == (0 : Int))) && ((((r1.1).length : Nat) : Int) == (6 : Int))) == true) = true := fun h => h
    have ob8 : ((((r1.2 == (0 : Int)) && (r2.1 == (0 : Int))) && ((((r1.1).length : Nat) : Int) == (6 : Int))) == true) = true → ((((r1.2 == (0 : Int)) && (r2.1 == (0 : Int))) && ((((r1.1).length : Nat) : Int) == (6 : Int))) == true) = true := fun h => h
    have ob9 : ((((r1.2 == (0 : Int)) && (r2.1 == (0 : Int))) && ((((r1.1).length : Nat) : Int) == (6 : Int))) == true) = true → ((((r1.2 == (0 : Int)) && (r2.1 == (0 : Int))) && ((((r1.1).length : Nat) : Int) == (6 : Int))) == true) = true := fun h => h
    have ob10 : true = true → (((r1.2 == (0 : Int)) && (r2.1 == (0 : Int))) && ((((r1.1).length : Nat) : Int) == (6 : Int))) = true → ((((r1.2 == (0 : Int)) && (r2.1 == (0 : Int))) && ((((r1.1).length : Nat) : Int) == (6 : Int))) == true) = true := fun _ h => beq_iff_eq.2 h
    have ob11 : false = true → false = true := fun h => h
    have ob12 : false = true → false = true := fun h => h
    have ob13 : true = true → false = true → false = true := fun _ h => h
    obtain ⟨ob14, h⟩ := chk_some h
    have ob15 : false = true → false = true := fun h => h
    obtain ⟨ob16, h⟩ := chk_some h
    have ob17 : false = true → false = true := fun h => h
    obtain ⟨ob18, h⟩ := chk_some h
    have ob19 : false = true → false = true := fun h => h
    obtain ⟨ob20, h⟩ := chk_some h
    have ob21 : false = true → false = true := fun h => h
    have ob22 : false = true → false = true := fun h => h
    have ob23 : false = true → false = true := fun h => h
    have ob24 : false = true → false = true := fun h => h
    have ob25 : true = true → false = true → false = true := fun _ h => h
    have ob26 : false = true → false = true := fun h => h
    have ob27 : true = true → false = true → false = true := fun _ h => h
    have ob28 : false = true → false = true := fun h => h
    have ob29 : false = true → false = true := fun h => h
    have ob30 : false = true → false = true := fun h => h
    have ob31 : true = true → false = true → false = true := fun _ h => h
    refine q2rr [] [(18, ⟨[], [], [], [], (.bool false), [], [0], []⟩), (22, ⟨[], [], [], [], .bool false, [], [], []⟩), (31, ⟨[], [], [], [], .bool false, [], [], []⟩), (36, ⟨[], [], [], [], .any, [], [], []⟩), (43, ⟨[], [], [], [], .any, [], [], []⟩), (45, ⟨[], [], [], [], .bool false, [], [], []⟩)] [0, 1000000, 1000006] [] ⟨68, [(0, .bool false), (1000000, .elem 32 1 T0F 0 0), (1000006, .elem 20 1 T6F 0 0)], [], [], 0⟩ (ac6 (an1 ob0) ob1 (an1 ob2) (an1 ob3) ob4 (And.intro ob5 (an1 ob6)) (ac6 (an1 ob7) (an2 ob8 ob9) ob10 (show ((.bool ((((r1.2 == (0 : Int)) && (r2.1 == (0 : Int))) && ((((r1.1).length : Nat) : Int) == (6 : Int))) && ((((r1.1.getD 1 q2dWW).1) == (q2w16 1)) && ((((r1.1.getD 1 q2dWW).2) == (q2w16 4)) && true)))) : V) = (.bool false) from (congrArg (fun x => ((.bool x) : V)) (Bool.eq_false_iff.2 hg4_18))) (And.intro (show (callP Tryz.prog false 22 [] [] [] [] [] [.own 6001, .bool false] [] (.bool false) []) from ⟨nofun, nofun, .inl rfl⟩) (an2 ob11 ob12)) ob13 (ac6 (And.intro ob14 (an1 ob15)) (And.intro ob16 (an1 ob17)) (And.intro ob18 (an1 ob19)) (And.intro ob20 (an1 ob21)) (And.intro (show (callP Tryz.prog false 16 [] [] [] [] [] [.agg [.b16 ([((q2w16 1), (q2w16 6))].getD 0 q2dWW).1, .b16 ([((q2w16 1), (q2w16 6))].getD 0 q2dWW).2], .agg [.b16 ([((q2w16 3), (q2w16 0))].getD 0 q2dWW).1, .b16 ([((q2w16 3), (q2w16 0))].getD 0 q2dWW).2]] [] (.bool false) []) from ⟨nofun, nofun, .inl rfl⟩) (an2 ob22 ob23)) (an1 ob24) (an6 ob25 (And.intro (show (callP Tryz.prog false 35 [] [] [] [] [] [.own 6001] [] (.any) []) from ⟨nofun, nofun, .inl rfl⟩) (an1 ob26)) ob27 (And.intro (show (callP Tryz.prog false 38 [] [] [] [] [] [.bool false] [] (.any) []) from ⟨nofun, nofun, .inl rfl⟩) (an1 ob28)) (And.intro (show (callP Tryz.prog false 37 [] [] [] [] [] [.any, .bool false] [] (.bool false) []) from ⟨nofun, nofun, .inl rfl⟩) (an2 ob29 ob30)) ob31)))) ?_
    refine thenQ_normal ?_
    have hret := Option.some.inj h
    subst hret
    refine AWp.le (Le.mk (s' := ⟨68, [(0, .bool false)], [], [], 0⟩) rfl rfl ⟨.refl _, trivial⟩ trivial) ?_
    refine AWp.ret ?_
    exact bodyQ_ret _ rfl ⟨rfl, rfl⟩ rfl
def f23 (x1 : BitVec 16) (x2 : BitVec 16) : Option (BitVec 16) :=
  some (x1 ||| x2)
set_option maxRecDepth 100000 in
theorem f23_ok  (x1 : BitVec 16) (x2 : BitVec 16) (r : BitVec 16) (h : f23 x1 x2 = some r)  : Spec1 Tryz.prog 23 [] [] [] [.agg [.b16 x1, .b16 x2]] (.b16 r) [] := by
  unfold f23 at h
  refine Spec1.body 0 _ _ Tryz.func23 rfl Tryz.ntmps23 rfl rfl ?_
  refine q2rq [] [] [1] [1] ⟨8, [(1, .ptr 1 0)], [(1, .cells 30 [.b16 x1, .b16 x2])], [], 0⟩ trivial ?_
  refine q2rq [] [] [2] [] ⟨8, [(2, .b16 (x1 ||| x2))], [], [], 0⟩ trivial ?_
  have hret := Option.some.inj h
  subst hret
  refine AWp.le (Le.mk (s' := ⟨8, [(2, .b16 (x1 ||| x2))], [], [], 0⟩) rfl rfl ⟨.refl _, trivial⟩ trivial) ?_
  refine AWp.ret ?_
  exact bodyQ_ret _ rfl ⟨rfl, rfl⟩ rfl
def f44 (x1 : BitVec 16) (x2 : BitVec 16) : Option Int :=
  (f23 x1 x2).bind fun (r3 : BitVec 16) =>
  if (decide (r3.toNat ≥ (BitVec.ofInt 16 4096).toNat)) then (
  some (7 : Int)
  ) else (
  if (!((x1 &&& x2) == (BitVec.ofInt 16 0))) then (
  some (1 : Int)
  ) else (
  some (0 : Int)
  )
  )
def f47 (x1 : BitVec 16) (x2 : BitVec 16) : Option Bool :=
  some ((x1 &&& ~~~x2) == (BitVec.ofInt 16 0))
set_option maxRecDepth 100000 in
theorem f47_ok  (x1 : BitVec 16) (x2 : BitVec 16) (r : Bool) (h : f47 x1 x2 = some r)  : Spec1 Tryz.prog 47 [] [] [] [.b16 x1, .b16 x2] (.bool r) [] := by
  unfold f47 at h
  refine Spec1.body 0 _ _ Tryz.func47 rfl Tryz.ntmps47 rfl rfl ?_
  refine q2rq [] [] [0, 1] [] ⟨9, [(0, .b16 x1), (1, .b16 x2)], [], [], 0⟩ trivial ?_
  refine q2rq [] [] [4] [] ⟨9, [(4, .bool ((x1 &&& ~~~x2) == (q2w16 0)))], [], [], 0⟩ trivial ?_
  have hret := Option.some.inj h
  subst hret
  refine AWp.le (Le.mk (s' := ⟨9, [(4, .bool ((x1 &&& ~~~x2) == (q2w16 0)))], [], [], 0⟩) rfl rfl ⟨.refl _, trivial⟩ trivial) ?_
  refine AWp.ret ?_
  exact bodyQ_ret _ rfl ⟨rfl, rfl⟩ rfl
def f17 (x1 : BitVec 16) (x2 : BitVec 16) (x3 : BitVec 16) (x4 : BitVec 16) : Option Bool :=
  (f47 x3 x1).bind fun (r5 : Bool) =>
  optc (r5 == true) (f23 x3 x4) fun (r6 : BitVec 16) =>
  optc (r5 == true) (f23 x1 x2) fun (r7 : BitVec 16) =>
  optc (r5 == true) (f47 r6 r7) fun (r8 : Bool) =>
  some (r5 && r8)
def f78 (x1 : BitVec 16) (x2 : Int) : Option Bool :=
  chk ((((decide (x2 ≥ (0 : Int))) && (decide (x2 < (16 : Int)))) == true) = true → 0 ≤ x2) <|
  some (((decide (x2 ≥ (0 : Int))) && (decide (x2 < (16 : Int)))) && (((x1 >>> ((x2).toNat)) &&& (BitVec.ofInt 16 1)) == (BitVec.ofInt 16 1)))
set_option maxRecDepth 100000 in
theorem f78_ok  (x1 : BitVec 16) (x2 : Int) (r : Bool) (h : f78 x1 x2 = some r)  : Spec1 Tryz.prog 78 [] [] [] [.b16 x1, .int .i64 x2] (.bool r) [] := by
  unfold f78 at h
  refine Spec1.body 0 _ _ Tryz.func78 rfl Tryz.ntmps78 rfl rfl ?_
  refine q2rq [] [] [0, 1] [] ⟨18, [(0, .b16 x1), (1, .int .i64 x2)], [], [], 0⟩ trivial ?_
  refine AWp.seq ?_
  have ob0 : ((decide (x2 ≥ (0 : Int))) == true) = true → ((decide (x2 ≥ (0 : Int))) == true) = true := fun h => h
  have ob1 : true = true → (decide (x2 ≥ (0 : Int))) = true → ((decide (x2 ≥ (0 : Int))) == true) = true := fun _ h => beq_iff_eq.2 h
  obtain ⟨ob2, h⟩ := chk_some h
  have ob3 : (((decide (x2 ≥ (0 : Int))) && (decide (x2 < (16 : Int)))) == true) = true → (((decide (x2 ≥ (0 : Int))) && (decide (x2 < (16 : Int)))) == true) = true := fun h => h
  have ob4 : (((decide (x2 ≥ (0 : Int))) && (decide (x2 < (16 : Int)))) == true) = true → (((decide (x2 ≥ (0 : Int))) && (decide (x2 < (16 : Int)))) == true) = true := fun h => h
  have ob5 : (((decide (x2 ≥ (0 : Int))) && (decide (x2 < (16 : Int)))) == true) = true → (((decide (x2 ≥ (0 : Int))) && (decide (x2 < (16 : Int)))) == true) = true := fun h => h
  have ob6 : (((decide (x2 ≥ (0 : Int))) && (decide (x2 < (16 : Int)))) == true) = true → (((decide (x2 ≥ (0 : Int))) && (decide (x2 < (16 : Int)))) == true) = true := fun h => h
  have ob7 : true = true → ((decide (x2 ≥ (0 : Int))) && (decide (x2 < (16 : Int)))) = true → (((decide (x2 ≥ (0 : Int))) && (decide (x2 < (16 : Int)))) == true) = true := fun _ h => beq_iff_eq.2 h
  refine q2rr [] [] [4] [] ⟨18, [(4, .bool (((decide (x2 ≥ (0 : Int))) && (decide (x2 < (16 : Int)))) && (((x1 >>> ((x2).toNat)) &&& (q2w16 1)) == (q2w16 1))))], [], [], 0⟩ (an6 (an1 ob0) ob1 (And.intro ob2 (an2 ob3 ob4)) (an1 ob5) (an1 ob6) ob7) ?_
  refine thenQ_normal ?_
  have hret := Option.some.inj h
  subst hret
  refine AWp.le (Le.mk (s' := ⟨18, [(4, .bool (((decide (x2 ≥ (0 : Int))) && (decide (x2 < (16 : Int)))) && (((x1 >>> ((x2).toNat)) &&& (q2w16 1)) == (q2w16 1))))], [], [], 0⟩) rfl rfl ⟨.refl _, trivial⟩ trivial) ?_
  refine AWp.ret ?_
  exact bodyQ_ret _ rfl ⟨rfl, rfl⟩ rfl
def f53_L0 (x1 : BitVec 16) (K1 : (List Int) → Option (List Int)) : Nat → (Nat × List Int) → Option (List Int)
  | 0, _ => none
  | k + 1, (n2, l3) =>
    if (decide ((n2 : Int) < (16 : Int))) then (
    jn (fun (l5 : List Int) =>
    chk (((n2 : Int) + (1 : Int)) ≤ 9223372036854775807) <|
    (f53_L0 x1 K1 k) ((n2 + 1), l5)
    ) fun (K2 : (List Int) → Option (List Int)) =>
    (f78 x1 (n2 : Int)).bind fun (r4 : Bool) =>
    if r4 then (
    chk (((l3).length + 1) * 8 ≤ 140737488355328) <|
    K2 (l3 ++ [(n2 : Int)])
    ) else (
    K2 l3
    )
    ) else (
    K1 l3
    )
def f53 (x1 : BitVec 16) : Option (List Int) :=
  jn (fun (l6 : List Int) =>
  some l6
  ) fun (K1 : (List Int) → Option (List Int)) =>
  f53_L0 x1 K1 FUEL (0, [])
set_option maxRecDepth 100000 in
theorem f53_ok  (x1 : BitVec 16) (r : List Int) (h : f53 x1 = some r)  : Spec1 Tryz.prog 53 [] [] [] [.b16 x1] (.own 3000) [(3000, bL 3 1 eI 0 r)] := by
  unfold f53 at h
  refine Spec1.body 0 _ _ Tryz.func53 rfl Tryz.ntmps53 rfl rfl ?_
  refine q2rq [] [] [0] [] ⟨17, [(0, .b16 x1)], [], [], 0⟩ trivial ?_
  refine q2rq [] [] [0, 3] [] ⟨17, [(0, .b16 x1), (3, .nils)], [], [], 0⟩ trivial ?_
  obtain ⟨K1, hK1, h⟩ := jn_some h
  refine AWp.join (α := List Int) (fun (l6 : List Int) => ⟨17, [(3, .own 5003)], [(5003, q2bI_3 l6)], [], 0⟩) (fun x => K1 x = some r) ?_ ?_
  ·
    refine q2rq [] [] [0, 3, 4] [] ⟨17, [(0, .b16 x1), (3, .nils), (4, .int .i64 (0 : Int))], [], [], 0⟩ trivial ?_
    refine AWp.block ?_
    refine AWp.loopL (α := Nat × (Nat × List Int)) (fun x => match x with | (_, n2, l3) => ⟨17, [(0, .b16 x1), (3, .own 5003), (4, .int .i64 (n2 : Int))], [(5003, q2bI_3 l3)], [], 0⟩) (fun x => f53_L0 x1 K1 x.1 x.2 = some r) (fun x => x.1) (FUEL, 0, []) (Le.trans (Le.trans (Le.nilOwn 3 5003 3 1 (encF eI 0 []) rfl rfl (Nat.le_of_ble_eq_true rfl)) (Le.mk (s' := ⟨17, [(0, .b16 x1), (3, .own 5003), (4, .int .i64 (0 : Int))], [(5003, q2bI_3 [])], [], 0⟩) rfl rfl ⟨.refl _, .refl _, .refl _, trivial⟩ ⟨⟨_, rfl, .refl _⟩, trivial⟩)) (Le.mk (s' := ⟨17, [(0, .b16 x1), (3, .own 5003), (4, .int .i64 (0 : Int))], [(5003, q2bI_3 [])], [], 0⟩) rfl rfl ⟨.refl _, .refl _, .refl _, trivial⟩ ⟨⟨_, rfl, .refl _⟩, trivial⟩)) h ?_
    rintro ⟨k0, n2, l3⟩ h
    cases k0 with
    | zero => exact nomatch (show (none : Option (List Int)) = some r from h)
    | succ k0 =>
    obtain ⟨C0, hC0⟩ : ∃ C, C = f53_L0 x1 K1 k0 := ⟨_, rfl⟩
    replace h := (f53_L0.eq_2 ..).symm.trans h
    try rw [← hC0] at h
    refine AWp.seq ?_
    refine q2rq [] [] [0, 3, 4, 6] [5003] ⟨17, [(0, .b16 x1), (3, .own 5003), (4, .int .i64 (n2 : Int)), (6, .bool (decide ((n2 : Int) < (16 : Int))))], [(5003, q2bI_3 l3)], [], 0⟩ trivial ?_
    refine AWp.cond (b := (decide ((n2 : Int) < (16 : Int)))) (by kernel_rfl) (fun hc1 => ?_) (fun hc1 => ?_)
    ·
      replace h := ite_tb hc1 h
      refine AWp.skip ?_
      refine thenQ_normal ?_
      obtain ⟨K2, hK2, h⟩ := jn_some h
      refine AWp.join (α := List Int) (fun (l5 : List Int) => ⟨17, [(0, .b16 x1), (3, .own 15), (4, .int .i64 (n2 : Int))], [(15, q2bI_3 l5)], [], 0⟩) (fun x => K2 x = some r) ?_ ?_
      ·
        refine AWp.block ?_
        refine AWp.seq ?_
        obtain ⟨r4, hr4, h⟩ := bind_ok h
        refine q2rr [] [(2, ⟨[.b16 x1, .int .i64 (n2 : Int)], [], [], [], .bool r4, [], [], []⟩)] [0, 3, 4, 11] [5003] ⟨17, [(0, .b16 x1), (3, .own 5003), (4, .int .i64 (n2 : Int)), (11, .bool r4)], [(5003, q2bI_3 l3)], [], 0⟩ (an1 (cpT (f78_ok _ _ _ hr4))) ?_
        refine thenQ_normal ?_
        refine AWp.cond (b := r4) (by kernel_rfl) (fun hc2 => ?_) (fun hc2 => ?_)
        ·
          replace h := ite_tb hc2 h
          obtain ⟨ob0, h⟩ := chk_some h
          refine q2rr [] [] [0, 3, 4] [5003] ⟨17, [(0, .b16 x1), (3, .own 5003), (4, .int .i64 (n2 : Int))], [(5003, .rows 3 1 ((l3).length + 1) (appF (l3).length (encF eI 0 l3) (lstF 1 [.int .i64 (n2 : Int)])))], [], 0⟩ (an1 ob0) ?_
          refine blockQ_normal ?_
          exact joinQ_normal ((l3 ++ [(n2 : Int)])) (Le.trans (Le.mk (s' := ⟨17, [(0, .b16 x1), (3, .own 5003), (4, .int .i64 (n2 : Int))], [(5003, q2bI_3 (l3 ++ [(n2 : Int)]))], [], 0⟩) rfl rfl ⟨.refl _, .refl _, .refl _, trivial⟩ ⟨⟨_, rfl, (BLe.of (RL.app (RL.self _) (RL.lst (enc := eI) [(n2 : Int)] rfl rfl (fun _ => rfl))))⟩, trivial⟩) (Le.trans (Le.trans (Le.ren (swapN 5003 15) (swapN_inv 5003 15) rfl) (Le.mk (s' := ⟨17, [(0, .b16 x1), (3, .own 15), (4, .int .i64 (n2 : Int))], [(15, q2bI_3 (l3 ++ [(n2 : Int)]))], [], 0⟩) rfl rfl ⟨.refl _, .refl _, .refl _, trivial⟩ ⟨⟨_, rfl, .refl _⟩, trivial⟩)) (Le.mk rfl rfl ⟨.refl _, .refl _, .refl _, trivial⟩ ⟨⟨_, rfl, .refl _⟩, trivial⟩))) h
        ·
          replace h := ite_fb hc2 h
          refine AWp.skip ?_
          refine blockQ_normal ?_
          exact joinQ_normal (l3) (Le.trans (Le.trans (Le.ren (swapN 5003 15) (swapN_inv 5003 15) rfl) (Le.mk (s' := ⟨17, [(0, .b16 x1), (3, .own 15), (4, .int .i64 (n2 : Int)), (11, .bool r4)], [(15, q2bI_3 l3)], [], 0⟩) rfl rfl ⟨.refl _, .refl _, .refl _, .refl _, trivial⟩ ⟨⟨_, rfl, .refl _⟩, trivial⟩)) (Le.mk rfl rfl ⟨.refl _, .refl _, .refl _, trivial⟩ ⟨⟨_, rfl, .refl _⟩, trivial⟩)) h
      ·
        rintro l5 h
        replace h := (congrFun hK2 _).symm.trans h
        obtain ⟨ob1p, h⟩ := chk_some h
        have ob1 : -9223372036854775808 ≤ ((n2 : Int) + (1 : Int)) ∧ ((n2 : Int) + (1 : Int)) ≤ 9223372036854775807 := ⟨by omega, ob1p⟩
        refine q2rr [] [] [0, 3, 4] [15] ⟨17, [(0, .b16 x1), (3, .own 15), (4, .int .i64 (((n2 + 1) : Nat) : Int))], [(15, q2bI_3 l5)], [], 0⟩ (an1 ob1) ?_
        rw [hC0] at h
        exact loopQ_normal (_, (n2 + 1), l5) (Le.trans (Le.trans (Le.ren (swapN 15 5003) (swapN_inv 15 5003) rfl) (Le.mk (s' := ⟨17, [(0, .b16 x1), (3, .own 5003), (4, .int .i64 (((n2 + 1) : Nat) : Int))], [(5003, q2bI_3 l5)], [], 0⟩) rfl rfl ⟨.refl _, .refl _, .refl _, trivial⟩ ⟨⟨_, rfl, .refl _⟩, trivial⟩)) (Le.mk rfl rfl ⟨.refl _, .refl _, .refl _, trivial⟩ ⟨⟨_, rfl, .refl _⟩, trivial⟩)) h (Nat.lt_succ_self _)
    ·
      replace h := ite_fb hc1 h
      refine AWp.exit ?_
      refine thenQ_exit ?_
      refine thenQ_exit ?_
      refine blockQ_same ?_
      exact joinQ_normal (l3) (Le.mk rfl rfl ⟨.refl _, trivial⟩ ⟨⟨_, rfl, .refl _⟩, trivial⟩) h
  ·
    rintro l6 h
    replace h := (congrFun hK1 _).symm.trans h
    refine q2rq [] [] [2] [5003] ⟨17, [(2, .own 5003)], [(5003, q2bI_3 l6)], [], 0⟩ trivial ?_
    refine AWp.le (Le.trans (Le.ren (swapN 5003 3000) (swapN_inv 5003 3000) rfl) (Le.mk (s' := ⟨17, [(2, .own 3000)], [(3000, q2bI_3 l6)], [], 0⟩) rfl rfl ⟨.refl _, trivial⟩ ⟨⟨_, rfl, .refl _⟩, trivial⟩)) ?_
    have hret := Option.some.inj h
    subst hret
    refine AWp.le (Le.mk (s' := ⟨17, [(2, .own 3000)], [(3000, q2bI_3 l6)], [], 0⟩) rfl rfl ⟨.refl _, trivial⟩ ⟨⟨_, rfl, .refl _⟩, trivial⟩) ?_
    refine AWp.ret ?_
    exact bodyQ_ret _ rfl ⟨rfl, rfl⟩ rfl
def f24 (x1 : BitVec 16) : Option Int :=
  (f53 x1).bind fun (r2 : List Int) =>
  some (((r2).length : Nat) : Int)
set_option maxRecDepth 100000 in
theorem f24_ok  (x1 : BitVec 16) (r : Int) (h : f24 x1 = some r)  : Spec1 Tryz.prog 24 [] [] [] [.b16 x1] (.int .i64 r) [] := by
  unfold f24 at h
  refine Spec1.body 0 _ _ Tryz.func24 rfl Tryz.ntmps24 rfl rfl ?_
  refine q2rq [] [] [0] [] ⟨6, [(0, .b16 x1)], [], [], 0⟩ trivial ?_
  refine AWp.seq ?_
  obtain ⟨r2, hr2, h⟩ := bind_ok h
  refine q2rr [] [(1, ⟨[.b16 x1], [], [], [(6001, q2bI_3 r2)], .own 6001, [6001], [], []⟩)] [2] [] ⟨6, [(2, .int .i64 (((r2).length : Nat) : Int))], [], [], 0⟩ (an1 (cpT (Spec1.ren (swapN 3000 6001) (swapN_inv 3000 6001) rfl (f53_ok _ _ hr2)))) ?_
  refine thenQ_normal ?_
  have hret := Option.some.inj h
  subst hret
  refine AWp.le (Le.mk (s' := ⟨6, [(2, .int .i64 (((r2).length : Nat) : Int))], [], [], 0⟩) rfl rfl ⟨.refl _, trivial⟩ trivial) ?_
  refine AWp.ret ?_
  exact bodyQ_ret _ rfl ⟨rfl, rfl⟩ rfl
def f74 (x1 : BitVec 16) (x2 : BitVec 16) : Option Int :=
  if (x1 == x2) then (
  some (0 : Int)
  ) else (
  (f24 x1).bind fun (r3 : Int) =>
  (f24 x2).bind fun (r4 : Int) =>
  optc ((decide (r3 < r4)) == false) (f24 x1) fun (r5 : Int) =>
  optc ((decide (r3 < r4)) == false) (f24 x2) fun (r6 : Int) =>
  chk (((decide (r3 < r4)) == false) = true → ((decide (r3 < r4)) == false) = true → (r5 == r6) = true → (((decide (r3 < r4)) == false) && ((r5 == r6) == true)) = true) <|
  if ((decide (r3 < r4)) || ((r5 == r6) && (decide (x1.toNat < x2.toNat)))) then (
  some (-1 : Int)
  ) else (
  some (1 : Int)
  )
  )
def f45 (x1 : BitVec 16) (x2 : BitVec 16) (x3 : BitVec 16) (x4 : BitVec 16) : Option Int :=
  (f74 x1 x3).bind fun (r5 : Int) =>
  if (r5 != (0 : Int)) then (
  some r5
  ) else (
  (f74 x2 x4).bind fun (r6 : Int) =>
  some r6
  )
def f15_L1 (x1 : List (BitVec 16 × BitVec 16)) (n2 : Nat) (K2 : Unit → Option Int) : Nat → Nat → Option Int
  | 0, _ => none
  | k + 1, n4 =>
    if (decide ((n4 : Int) < (n2 : Int))) then (
    (f17 ((x1.getD n2 (default : BitVec 16 × BitVec 16)).1) ((x1.getD n2 (default : BitVec 16 × BitVec 16)).2) ((x1.getD n4 (default : BitVec 16 × BitVec 16)).1) ((x1.getD n4 (default : BitVec 16 × BitVec 16)).2)).bind fun (r5 : Bool) =>
    optc (r5 == false) (f17 ((x1.getD n4 (default : BitVec 16 × BitVec 16)).1) ((x1.getD n4 (default : BitVec 16 × BitVec 16)).2) ((x1.getD n2 (default : BitVec 16 × BitVec 16)).1) ((x1.getD n2 (default : BitVec 16 × BitVec 16)).2)) fun (r6 : Bool) =>
    chk ((n2 : Int) < (((x1).length : Nat) : Int)) <|
    chk ((n4 : Int) < (((x1).length : Nat) : Int)) <|
    chk ((r5 == false) = true → 0 ≤ (n4 : Int) ∧ (n4 : Int) < (((x1).length : Nat) : Int)) <|
    chk ((r5 == false) = true → 0 ≤ (n2 : Int) ∧ (n2 : Int) < (((x1).length : Nat) : Int)) <|
    if (r5 || r6) then (
    some (5 : Int)
    ) else (
    chk (((n4 : Int) + (1 : Int)) ≤ 9223372036854775807) <|
    (f15_L1 x1 n2 K2 k) (n4 + 1)
    )
    ) else (
    K2 ()
    )
def f15_L0 (x1 : List (BitVec 16 × BitVec 16)) (K1 : Unit → Option Int) : Nat → Nat → Option Int
  | 0, _ => none
  | k + 1, n2 =>
    if (decide ((n2 : Int) < (((x1).length : Nat) : Int))) then (
    (f44 ((x1.getD n2 (default : BitVec 16 × BitVec 16)).1) ((x1.getD n2 (default : BitVec 16 × BitVec 16)).2)).bind fun (r3 : Int) =>
    chk ((n2 : Int) < (((x1).length : Nat) : Int)) <|
    if (r3 != (0 : Int)) then (
    some r3
    ) else (
    jn (fun (_ : Unit) =>
    optc ((decide ((n2 : Int) > (0 : Int))) == true) (f45 ((x1.getD ((((n2 : Int) - (1 : Int))).toNat) (default : BitVec 16 × BitVec 16)).1) ((x1.getD ((((n2 : Int) - (1 : Int))).toNat) (default : BitVec 16 × BitVec 16)).2) ((x1.getD n2 (default : BitVec 16 × BitVec 16)).1) ((x1.getD n2 (default : BitVec 16 × BitVec 16)).2)) fun (r7 : Int) =>
    chk (((decide ((n2 : Int) > (0 : Int))) == true) = true → -9223372036854775808 ≤ ((n2 : Int) - (1 : Int)) ∧ ((n2 : Int) - (1 : Int)) ≤ 9223372036854775807) <|
    chk (((decide ((n2 : Int) > (0 : Int))) == true) = true → 0 ≤ ((n2 : Int) - (1 : Int)) ∧ ((n2 : Int) - (1 : Int)) < (((x1).length : Nat) : Int)) <|
    chk (((decide ((n2 : Int) > (0 : Int))) == true) = true → 0 ≤ (n2 : Int) ∧ (n2 : Int) < (((x1).length : Nat) : Int)) <|
    if ((decide ((n2 : Int) > (0 : Int))) && (decide (r7 ≥ (0 : Int)))) then (
    some (1 : Int)
    ) else (
    chk (((n2 : Int) + (1 : Int)) ≤ 9223372036854775807) <|
    (f15_L0 x1 K1 k) (n2 + 1)
    )
    ) fun (K2 : Unit → Option Int) =>
    f15_L1 x1 n2 K2 FUEL 0
    )
    ) else (
    K1 ()
    )
def f15 (x1 : List (BitVec 16 × BitVec 16)) : Option Int :=
  if ((((x1).length : Nat) : Int) == (0 : Int)) then (
  some (9 : Int)
  ) else (
  if (decide ((((x1).length : Nat) : Int) > (100 : Int))) then (
  some (3 : Int)
  ) else (
  jn (fun (_ : Unit) =>
  some (0 : Int)
  ) fun (K1 : Unit → Option Int) =>
  f15_L0 x1 K1 FUEL 0
  )
  )
def f3 (x1 : List (BitVec 16 × BitVec 16)) : Option Bool :=
  (f12 ).bind fun (r2 : Bool) =>
  if ((!r2) || (decide ((((x1).length : Nat) : Int) > (120 : Int)))) then (
  (f12 ).bind fun (r3 : Bool) =>
  some r3
  ) else (
  (f14 x1).bind fun (r4 : List (BitVec 16 × BitVec 16)) =>
  (f13 r4).bind fun (r5 : Int) =>
  (f15 x1).bind fun (r6 : Int) =>
  some (r5 == r6)
  )
def f49 (x1 : BitVec 16) (x2 : BitVec 16) (x3 : BitVec 16) (x4 : BitVec 16) : Option (Bool × BitVec 16 × BitVec 16) :=
  (f16 x1 x2 x3 x4).bind fun (r5 : Bool) =>
  some (r5, x3, x4)
set_option maxRecDepth 100000 in
theorem f49_ok  (x1 : BitVec 16) (x2 : BitVec 16) (x3 : BitVec 16) (x4 : BitVec 16) (r : Bool × BitVec 16 × BitVec 16) (h : f49 x1 x2 x3 x4 = some r)  : Spec1 Tryz.prog 49 [] [2000] [(2000, .cells 30 [.b16 x3, .b16 x4])] [.agg [.b16 x1, .b16 x2], .ptr 2000 0] (.bool r.1) [(2000, .cells 30 [.b16 r.2.1, .b16 r.2.2])] := by
  unfold f49 at h
  refine Spec1.body 0 _ _ Tryz.func49 rfl Tryz.ntmps49 rfl rfl ?_
  refine q2rq [] [] [1, 2] [2, 2000] ⟨7, [(1, .ptr 2000 0), (2, .ptr 2 0)], [(2, .cells 30 [.b16 x1, .b16 x2]), (2000, .cells 30 [.b16 x3, .b16 x4])], [2000], 0⟩ trivial ?_
  refine AWp.seq ?_
  obtain ⟨r5, hr5, h⟩ := bind_ok h
  refine q2rr [] [(2, ⟨[.agg [.b16 x1, .b16 x2], .agg [.b16 x3, .b16 x4]], [], [], [], .bool r5, [], [], []⟩)] [3] [2000] ⟨7, [(3, .bool r5)], [(2000, .cells 30 [.b16 x3, .b16 x4])], [2000], 0⟩ (an1 (cpT (f16_ok _ _ _ _ _ hr5))) ?_
  refine thenQ_normal ?_
  have hret := Option.some.inj h
  subst hret
  refine AWp.le (Le.mk (s' := ⟨7, [(3, .bool r5)], [(2000, .cells 30 [.b16 x3, .b16 x4])], [2000], 0⟩) rfl rfl ⟨.refl _, trivial⟩ ⟨⟨_, rfl, .refl _⟩, trivial⟩) ?_
  refine AWp.ret ?_
  exact bodyQ_ret _ rfl ⟨rfl, rfl⟩ rfl
def f75a_L0 (x1 : List (BitVec 16 × BitVec 16)) (K1 : (BitVec 16 × BitVec 16) → Option (Int × BitVec 16 × BitVec 16)) : Nat → (Nat × BitVec 16 × BitVec 16) → Option (Int × BitVec 16 × BitVec 16)
  | 0, _ => none
  | k + 1, (n4, w5, w6) =>
    if (decide ((n4 : Int) < (((x1).length : Nat) : Int))) then (
    (f49 ((x1.getD n4 (default : BitVec 16 × BitVec 16)).1) ((x1.getD n4 (default : BitVec 16 × BitVec 16)).2) w5 w6).bind fun (r7 : Bool × BitVec 16 × BitVec 16) =>
    chk ((n4 : Int) < (((x1).length : Nat) : Int)) <|
    if r7.1 then (
    some ((n4 : Int), r7.2.1, r7.2.2)
    ) else (
    chk (((n4 : Int) + (1 : Int)) ≤ 9223372036854775807) <|
    (f75a_L0 x1 K1 k) ((n4 + 1), r7.2.1, r7.2.2)
    )
    ) else (
    K1 (w5, w6)
    )
def f75a (x1 : List (BitVec 16 × BitVec 16)) (x2 : BitVec 16) (x3 : BitVec 16) : Option (Int × BitVec 16 × BitVec 16) :=
  jn (fun ((w8, w9) : BitVec 16 × BitVec 16) =>
  some ((-1 : Int), w8, w9)
  ) fun (K1 : (BitVec 16 × BitVec 16) → Option (Int × BitVec 16 × BitVec 16)) =>
  f75a_L0 x1 K1 FUEL (0, x2, x3)
set_option maxRecDepth 100000 in
theorem f75a_ok  (x1 : List (BitVec 16 × BitVec 16)) (x2 : BitVec 16) (x3 : BitVec 16) (r : Int × BitVec 16 × BitVec 16) (h : f75a x1 x2 x3 = some r)  : Spec1 Tryz.prog 75 [] [2000] [(2000, .cells 30 [.b16 x2, .b16 x3])] [vL 2 eWW (default : BitVec 16 × BitVec 16) x1, .fn (.func 49) [.ptr 2000 0]] (.int .i64 r.1) [(2000, .cells 30 [.b16 r.2.1, .b16 r.2.2])] := by
  unfold f75a at h
  refine Spec1.body 0 _ _ Tryz.func75 rfl Tryz.ntmps75 rfl rfl ?_
  refine q2rq [] [] [0, 1] [2000] ⟨19, [(0, q2aWW x1), (1, .fn (.func 49) [.ptr 2000 0])], [(2000, .cells 30 [.b16 x2, .b16 x3])], [2000], 0⟩ trivial ?_
  obtain ⟨K1, hK1, h⟩ := jn_some h
  refine AWp.join (α := BitVec 16 × BitVec 16) (fun (x : BitVec 16 × BitVec 16) => match x with | (w8, w9) => ⟨19, [], [(2000, .cells 30 [.b16 w8, .b16 w9])], [2000], 0⟩) (fun x => K1 x = some r) ?_ ?_
  ·
    refine q2rq [] [] [0, 1, 7, 8] [2000] ⟨19, [(0, q2aWW x1), (1, .fn (.func 49) [.ptr 2000 0]), (7, .int .i64 (((x1).length : Nat) : Int)), (8, .int .i64 (0 : Int))], [(2000, .cells 30 [.b16 x2, .b16 x3])], [2000], 0⟩ trivial ?_
    refine AWp.block ?_
    refine AWp.loopL (α := Nat × (Nat × BitVec 16 × BitVec 16)) (fun x => match x with | (_, n4, w5, w6) => ⟨19, [(0, q2aWW x1), (1, .fn (.func 49) [.ptr 2000 0]), (7, .int .i64 (((x1).length : Nat) : Int)), (8, .int .i64 (n4 : Int))], [(2000, .cells 30 [.b16 w5, .b16 w6])], [2000], 0⟩) (fun x => f75a_L0 x1 K1 x.1 x.2 = some r) (fun x => x.1) (FUEL, 0, x2, x3) (Le.mk (s' := ⟨19, [(0, q2aWW x1), (1, .fn (.func 49) [.ptr 2000 0]), (7, .int .i64 (((x1).length : Nat) : Int)), (8, .int .i64 (0 : Int))], [(2000, .cells 30 [.b16 x2, .b16 x3])], [2000], 0⟩) rfl rfl ⟨.refl _, .refl _, .refl _, .refl _, trivial⟩ ⟨⟨_, rfl, .refl _⟩, trivial⟩) h ?_
    rintro ⟨k0, n4, w5, w6⟩ h
    cases k0 with
    | zero => exact nomatch (show (none : Option (Int × BitVec 16 × BitVec 16)) = some r from h)
    | succ k0 =>
    obtain ⟨C0, hC0⟩ : ∃ C, C = f75a_L0 x1 K1 k0 := ⟨_, rfl⟩
    replace h := (f75a_L0.eq_2 ..).symm.trans h
    try rw [← hC0] at h
    refine q2rq [] [] [0, 1, 7, 8, 9] [2000] ⟨19, [(0, q2aWW x1), (1, .fn (.func 49) [.ptr 2000 0]), (7, .int .i64 (((x1).length : Nat) : Int)), (8, .int .i64 (n4 : Int)), (9, .bool (decide ((n4 : Int) < (((x1).length : Nat) : Int))))], [(2000, .cells 30 [.b16 w5, .b16 w6])], [2000], 0⟩ trivial ?_
    refine AWp.seq ?_
    refine AWp.cond (b := (decide ((n4 : Int) < (((x1).length : Nat) : Int)))) (by kernel_rfl) (fun hc1 => ?_) (fun hc1 => ?_)
    ·
      replace h := ite_tb hc1 h
      refine AWp.skip ?_
      refine thenQ_normal ?_
      refine AWp.seq ?_
      refine AWp.block ?_
      refine q2rq [] [] [0, 1, 5, 7, 8] [2000] ⟨19, [(0, q2aWW x1), (1, .fn (.func 49) [.ptr 2000 0]), (5, .int .i64 (n4 : Int)), (7, .int .i64 (((x1).length : Nat) : Int)), (8, .int .i64 (n4 : Int))], [(2000, .cells 30 [.b16 w5, .b16 w6])], [2000], 0⟩ trivial ?_
      refine AWp.seq ?_
      obtain ⟨r7, hr7, h⟩ := bind_ok h
      obtain ⟨ob0p, h⟩ := chk_some h
      have ob0 : 0 ≤ (n4 : Int) ∧ (n4 : Int) < (((x1).length : Nat) : Int) := ⟨by omega, ob0p⟩
      refine q2rr [] [(5, ⟨[.agg [.b16 (x1.getD n4 q2dWW).1, .b16 (x1.getD n4 q2dWW).2], .ptr 2000 0], [2000], [2000], [(2000, .cells 30 [.b16 r7.2.1, .b16 r7.2.2])], .bool r7.1, [], [], []⟩)] [0, 1, 5, 7, 8, 16] [2000] ⟨19, [(0, q2aWW x1), (1, .fn (.func 49) [.ptr 2000 0]), (5, .int .i64 (n4 : Int)), (7, .int .i64 (((x1).length : Nat) : Int)), (8, .int .i64 (n4 : Int)), (16, .bool r7.1)], [(2000, .cells 30 [.b16 r7.2.1, .b16 r7.2.2])], [2000], 0⟩ (an2 ob0 (cpT (f49_ok _ _ _ _ _ hr7))) ?_
      refine thenQ_normal ?_
      refine AWp.cond (b := r7.1) (by kernel_rfl) (fun hc2 => ?_) (fun hc2 => ?_)
      ·
        replace h := ite_tb hc2 h
        refine q2rq [] [] [4] [2000] ⟨19, [(4, .int .i64 (n4 : Int))], [(2000, .cells 30 [.b16 r7.2.1, .b16 r7.2.2])], [2000], 0⟩ trivial ?_
        have hret := Option.some.inj h
        subst hret
        refine AWp.le (Le.mk (s' := ⟨19, [(4, .int .i64 (n4 : Int))], [(2000, .cells 30 [.b16 r7.2.1, .b16 r7.2.2])], [2000], 0⟩) rfl rfl ⟨.refl _, trivial⟩ ⟨⟨_, rfl, .refl _⟩, trivial⟩) ?_
        refine AWp.ret ?_
        refine blockQ_ret ?_
        refine thenQ_ret ?_
        refine thenQ_ret ?_
        refine blockQ_ret ?_
        refine joinQ_ret ?_
        exact bodyQ_ret _ rfl ⟨rfl, rfl⟩ rfl
      ·
        replace h := ite_fb hc2 h
        refine AWp.skip ?_
        refine blockQ_normal ?_
        refine thenQ_normal ?_
        obtain ⟨ob1p, h⟩ := chk_some h
        have ob1 : -9223372036854775808 ≤ ((n4 : Int) + (1 : Int)) ∧ ((n4 : Int) + (1 : Int)) ≤ 9223372036854775807 := ⟨by omega, ob1p⟩
        refine q2rr [] [] [0, 1, 7, 8] [2000] ⟨19, [(0, q2aWW x1), (1, .fn (.func 49) [.ptr 2000 0]), (7, .int .i64 (((x1).length : Nat) : Int)), (8, .int .i64 (((n4 + 1) : Nat) : Int))], [(2000, .cells 30 [.b16 r7.2.1, .b16 r7.2.2])], [2000], 0⟩ (an1 ob1) ?_
        rw [hC0] at h
        exact loopQ_normal (_, (n4 + 1), r7.2.1, r7.2.2) (Le.mk rfl rfl ⟨.refl _, .refl _, .refl _, .refl _, trivial⟩ ⟨⟨_, rfl, .refl _⟩, trivial⟩) h (Nat.lt_succ_self _)
    ·
      replace h := ite_fb hc1 h
      refine AWp.exit ?_
      refine thenQ_exit ?_
      refine thenQ_exit ?_
      refine blockQ_same ?_
      exact joinQ_normal (w5, w6) (Le.mk rfl rfl trivial ⟨⟨_, rfl, .refl _⟩, trivial⟩) h
  ·
    rintro ⟨w8, w9⟩ h
    replace h := (congrFun hK1 _).symm.trans h
    refine q2rq [] [] [4] [2000] ⟨19, [(4, .int .i64 (-1 : Int))], [(2000, .cells 30 [.b16 w8, .b16 w9])], [2000], 0⟩ trivial ?_
    have hret := Option.some.inj h
    subst hret
    refine AWp.le (Le.mk (s' := ⟨19, [(4, .int .i64 (-1 : Int))], [(2000, .cells 30 [.b16 w8, .b16 w9])], [2000], 0⟩) rfl rfl ⟨.refl _, trivial⟩ ⟨⟨_, rfl, .refl _⟩, trivial⟩) ?_
    refine AWp.ret ?_
    exact bodyQ_ret _ rfl ⟨rfl, rfl⟩ rfl
def f48a (x1 : List (BitVec 16 × BitVec 16)) (x2 : BitVec 16) (x3 : BitVec 16) : Option (Bool × BitVec 16 × BitVec 16) :=
  (f75a x1 x2 x3).bind fun (r4 : Int × BitVec 16 × BitVec 16) =>
  some ((decide (r4.1 ≥ (0 : Int))), r4.2.1, r4.2.2)
set_option maxRecDepth 100000 in
theorem f48a_ok  (x1 : List (BitVec 16 × BitVec 16)) (x2 : BitVec 16) (x3 : BitVec 16) (r : Bool × BitVec 16 × BitVec 16) (h : f48a x1 x2 x3 = some r)  : Spec1 Tryz.prog 48 [] [2000] [(2000, .cells 30 [.b16 x2, .b16 x3])] [vL 2 eWW (default : BitVec 16 × BitVec 16) x1, .fn (.func 49) [.ptr 2000 0]] (.bool r.1) [(2000, .cells 30 [.b16 r.2.1, .b16 r.2.2])] := by
  unfold f48a at h
  refine Spec1.body 0 _ _ Tryz.func48 rfl Tryz.ntmps48 rfl rfl ?_
  refine q2rq [] [] [0, 1] [2000] ⟨9, [(0, q2aWW x1), (1, .fn (.func 49) [.ptr 2000 0])], [(2000, .cells 30 [.b16 x2, .b16 x3])], [2000], 0⟩ trivial ?_
  refine AWp.seq ?_
  obtain ⟨r4, hr4, h⟩ := bind_ok h
  refine q2rr [] [(2, ⟨[q2aWW x1, .fn (.func 49) [.ptr 2000 0]], [2000], [2000], [(2000, .cells 30 [.b16 r4.2.1, .b16 r4.2.2])], .int .i64 r4.1, [], [], []⟩)] [4] [2000] ⟨9, [(4, .bool (decide (r4.1 ≥ (0 : Int))))], [(2000, .cells 30 [.b16 r4.2.1, .b16 r4.2.2])], [2000], 0⟩ (an1 (cpT (f75a_ok _ _ _ _ hr4))) ?_
  refine thenQ_normal ?_
  have hret := Option.some.inj h
  subst hret
  refine AWp.le (Le.mk (s' := ⟨9, [(4, .bool (decide (r4.1 ≥ (0 : Int))))], [(2000, .cells 30 [.b16 r4.2.1, .b16 r4.2.2])], [2000], 0⟩) rfl rfl ⟨.refl _, trivial⟩ ⟨⟨_, rfl, .refl _⟩, trivial⟩) ?_
  refine AWp.ret ?_
  exact bodyQ_ret _ rfl ⟨rfl, rfl⟩ rfl
def f18 (x1 : List (BitVec 16 × BitVec 16)) (x2 : BitVec 16) (x3 : BitVec 16) : Option Bool :=
  (f48a x1 x2 x3).bind fun (r4 : Bool × BitVec 16 × BitVec 16) =>
  some r4.1
set_option maxRecDepth 100000 in
theorem f18_ok  (x1 : List (BitVec 16 × BitVec 16)) (x2 : BitVec 16) (x3 : BitVec 16) (r : Bool) (h : f18 x1 x2 x3 = some r)  : Spec1 Tryz.prog 18 [] [] [] [vL 2 eWW (default : BitVec 16 × BitVec 16) x1, .agg [.b16 x2, .b16 x3]] (.bool r) [] := by
  unfold f18 at h
  refine Spec1.body 0 _ _ Tryz.func18 rfl Tryz.ntmps18 rfl rfl ?_
  refine q2rq [] [] [0, 3] [3] ⟨8, [(0, q2aWW x1), (3, .ptr 3 0)], [(3, .cells 30 [.b16 x2, .b16 x3])], [], 0⟩ trivial ?_
  refine AWp.seq ?_
  obtain ⟨r4, hr4, h⟩ := bind_ok h
  refine q2rr [] [(2, ⟨[q2aWW x1, .fn (.func 49) [.ptr 3 0]], [3], [3], [(3, .cells 30 [.b16 r4.2.1, .b16 r4.2.2])], .bool r4.1, [], [], []⟩)] [4] [] ⟨8, [(4, .bool r4.1)], [], [], 0⟩ (an1 (cpT (Spec1.ren (swapN 2000 3) (swapN_inv 2000 3) rfl (f48a_ok _ _ _ _ hr4)))) ?_
  refine thenQ_normal ?_
  have hret := Option.some.inj h
  subst hret
  refine AWp.le (Le.mk (s' := ⟨8, [(4, .bool r4.1)], [], [], 0⟩) rfl rfl ⟨.refl _, trivial⟩ trivial) ?_
  refine AWp.ret ?_
  exact bodyQ_ret _ rfl ⟨rfl, rfl⟩ rfl
def f19_L0 (x1 : List (BitVec 16 × BitVec 16)) (x2 : BitVec 16) (x3 : BitVec 16) (K1 : Unit → Option Bool) : Nat → Nat → Option Bool
  | 0, _ => none
  | k + 1, n4 =>
    if (decide ((n4 : Int) < (((x1).length : Nat) : Int))) then (
    (f17 ((x1.getD n4 (default : BitVec 16 × BitVec 16)).1) ((x1.getD n4 (default : BitVec 16 × BitVec 16)).2) x2 x3).bind fun (r5 : Bool) =>
    chk ((n4 : Int) < (((x1).length : Nat) : Int)) <|
    if r5 then (
    some true
    ) else (
    chk (((n4 : Int) + (1 : Int)) ≤ 9223372036854775807) <|
    (f19_L0 x1 x2 x3 K1 k) (n4 + 1)
    )
    ) else (
    K1 ()
    )
def f19 (x1 : List (BitVec 16 × BitVec 16)) (x2 : BitVec 16) (x3 : BitVec 16) : Option Bool :=
  jn (fun (_ : Unit) =>
  some false
  ) fun (K1 : Unit → Option Bool) =>
  f19_L0 x1 x2 x3 K1 FUEL 0
def f51_L0 (x1 : BitVec 16) (x2 : Int) (K1 : (List (BitVec 16)) → Option (List (BitVec 16))) : Nat → (Nat × List (BitVec 16)) → Option (List (BitVec 16))
  | 0, _ => none
  | k + 1, (n3, l4) =>
    if (decide ((n3 : Int) < (65536 : Int))) then (
    jn (fun (l7 : List (BitVec 16)) =>
    chk (((n3 : Int) + (1 : Int)) ≤ 9223372036854775807) <|
    (f51_L0 x1 x2 K1 k) ((n3 + 1), l7)
    ) fun (K2 : (List (BitVec 16)) → Option (List (BitVec 16))) =>
    (f47 (BitVec.ofInt 16 (n3 : Int)) x1).bind fun (r5 : Bool) =>
    optc (r5 == true) (f24 (BitVec.ofInt 16 (n3 : Int))) fun (r6 : Int) =>
    chk ((r5 == true) = true → True) <|
    if (r5 && (r6 == x2)) then (
    chk (((l4).length + 1) * 2 ≤ 140737488355328) <|
    K2 (l4 ++ [(BitVec.ofInt 16 (n3 : Int))])
    ) else (
    K2 l4
    )
    ) else (
    K1 l4
    )
theorem f51_L0_e2 (x1 : BitVec 16) (x2 : Int) (K1 : (List (BitVec 16)) → Option (List (BitVec 16))) (k : Nat) (n3 : Nat) (l4 : List (BitVec 16)) : f51_L0 x1 x2 K1 (k + 1) (n3, l4) =
    if (decide ((n3 : Int) < (65536 : Int))) then (
    jn (fun (l7 : List (BitVec 16)) =>
    chk (((n3 : Int) + (1 : Int)) ≤ 9223372036854775807) <|
    (f51_L0 x1 x2 K1 k) ((n3 + 1), l7)
    ) fun (K2 : (List (BitVec 16)) → Option (List (BitVec 16))) =>
    (f47 (BitVec.ofInt 16 (n3 : Int)) x1).bind fun (r5 : Bool) =>
    optc (r5 == true) (f24 (BitVec.ofInt 16 (n3 : Int))) fun (r6 : Int) =>
    chk ((r5 == true) = true → True) <|
    if (r5 && (r6 == x2)) then (
    chk (((l4).length + 1) * 2 ≤ 140737488355328) <|
    K2 (l4 ++ [(BitVec.ofInt 16 (n3 : Int))])
    ) else (
    K2 l4
    )
    ) else (
    K1 l4
    ) := rfl
def f51 (x1 : BitVec 16) (x2 : Int) : Option (List (BitVec 16)) :=
  jn (fun (l8 : List (BitVec 16)) =>
  some l8
  ) fun (K1 : (List (BitVec 16)) → Option (List (BitVec 16))) =>
  f51_L0 x1 x2 K1 FUEL (0, [])
set_option maxRecDepth 100000 in
theorem f51_ok  (x1 : BitVec 16) (x2 : Int) (r : List (BitVec 16)) (h : f51 x1 x2 = some r)  : Spec1 Tryz.prog 51 [] [] [] [.b16 x1, .int .i64 x2] (.own 3000) [(3000, bL 28 1 eW 0#16 r)] := by
  unfold f51 at h
  refine Spec1.body 0 _ _ Tryz.func51 rfl Tryz.ntmps51 rfl rfl ?_
  refine q2rq [] [] [0, 1] [] ⟨28, [(0, .b16 x1), (1, .int .i64 x2)], [], [], 0⟩ trivial ?_
  refine q2rq [] [] [0, 1, 5] [] ⟨28, [(0, .b16 x1), (1, .int .i64 x2), (5, .nils)], [], [], 0⟩ trivial ?_
  obtain ⟨K1, hK1, h⟩ := jn_some h
  refine AWp.join (α := List (BitVec 16)) (fun (l8 : List (BitVec 16)) => ⟨28, [(5, .own 5005)], [(5005, q2bW_28 l8)], [], 0⟩) (fun x => K1 x = some r) ?_ ?_
  ·
    refine q2rq [] [] [0, 1, 5, 6] [] ⟨28, [(0, .b16 x1), (1, .int .i64 x2), (5, .nils), (6, .int .i64 (0 : Int))], [], [], 0⟩ trivial ?_
    refine AWp.block ?_
    refine AWp.loopL (α := Nat × (Nat × List (BitVec 16))) (fun x => match x with | (_, n3, l4) => ⟨28, [(0, .b16 x1), (1, .int .i64 x2), (5, .own 5005), (6, .int .i64 (n3 : Int))], [(5005, q2bW_28 l4)], [], 0⟩) (fun x => f51_L0 x1 x2 K1 x.1 x.2 = some r) (fun x => x.1) (FUEL, 0, []) (Le.trans (Le.trans (Le.nilOwn 5 5005 28 1 (encF eW 0#16 []) rfl rfl (Nat.le_of_ble_eq_true rfl)) (Le.mk (s' := ⟨28, [(0, .b16 x1), (1, .int .i64 x2), (5, .own 5005), (6, .int .i64 (0 : Int))], [(5005, q2bW_28 [])], [], 0⟩) rfl rfl ⟨.refl _, .refl _, .refl _, .refl _, trivial⟩ ⟨⟨_, rfl, .refl _⟩, trivial⟩)) (Le.mk (s' := ⟨28, [(0, .b16 x1), (1, .int .i64 x2), (5, .own 5005), (6, .int .i64 (0 : Int))], [(5005, q2bW_28 [])], [], 0⟩) rfl rfl ⟨.refl _, .refl _, .refl _, .refl _, trivial⟩ ⟨⟨_, rfl, .refl _⟩, trivial⟩)) h ?_
    rintro ⟨k0, n3, l4⟩ h
    cases k0 with
    | zero => exact nomatch (show (none : Option (List (BitVec 16))) = some r from h)
    | succ k0 =>
    obtain ⟨C0, hC0⟩ : ∃ C, C = f51_L0 x1 x2 K1 k0 := ⟨_, rfl⟩
    replace h := (f51_L0_e2 ..).symm.trans h
    try rw [← hC0] at h
    refine AWp.seq ?_
    refine q2rq [] [] [0, 1, 5, 6, 8] [5005] ⟨28, [(0, .b16 x1), (1, .int .i64 x2), (5, .own 5005), (6, .int .i64 (n3 : Int)), (8, .bool (decide ((n3 : Int) < (65536 : Int))))], [(5005, q2bW_28 l4)], [], 0⟩ trivial ?_
    refine AWp.cond (b := (decide ((n3 : Int) < (65536 : Int)))) (by kernel_rfl) (fun hc1 => ?_) (fun hc1 => ?_)
    ·
      replace h := ite_tb hc1 h
      refine AWp.skip ?_
      refine thenQ_normal ?_
      obtain ⟨K2, hK2, h⟩ := jn_some h
      refine AWp.join (α := List (BitVec 16)) (fun (l7 : List (BitVec 16)) => ⟨28, [(0, .b16 x1), (1, .int .i64 x2), (5, .own 26), (6, .int .i64 (n3 : Int))], [(26, q2bW_28 l7)], [], 0⟩) (fun x => K2 x = some r) ?_ ?_
      ·
        refine AWp.block ?_
        refine AWp.seq ?_
        obtain ⟨r5, hr5, h⟩ := bind_ok h
        obtain ⟨r6, hr6, h⟩ := optc_some h
        obtain ⟨ob0, h⟩ := chk_some h
        have ob1 : (r5 == true) = true → (r5 == true) = true := fun h => h
        have ob2 : (r5 == true) = true → (r5 == true) = true := fun h => h
        have ob3 : (r5 == true) = true → (r5 == true) = true := fun h => h
        have ob4 : (r5 == true) = true → (r5 == true) = true := fun h => h
        have ob5 : true = true → r5 = true → (r5 == true) = true := fun _ h => beq_iff_eq.2 h
        refine q2rr [] [(3, ⟨[.b16 (q2w16 (n3 : Int)), .b16 x1], [], [], [], .bool r5, [], [], []⟩), (7, ⟨[.b16 (q2w16 (n3 : Int))], [], [], [], .int .i64 r6, [], [], []⟩)] [0, 1, 5, 6, 21] [5005] ⟨28, [(0, .b16 x1), (1, .int .i64 x2), (5, .own 5005), (6, .int .i64 (n3 : Int)), (21, .bool (r5 && (r6 == x2)))], [(5005, q2bW_28 l4)], [], 0⟩ (an6 trivial (cpT (f47_ok _ _ _ hr5)) (And.intro ob0 (an1 ob1)) (And.intro (cpC fun hc => (f24_ok _ _ (hr6 hc))) (an1 ob2)) (an2 ob3 ob4) ob5) ?_
        refine thenQ_normal ?_
        refine AWp.cond (b := (r5 && (r6 == x2))) (by kernel_rfl) (fun hc2 => ?_) (fun hc2 => ?_)
        ·
          replace h := ite_tb hc2 h
          obtain ⟨ob6, h⟩ := chk_some h
          refine q2rr [] [] [0, 1, 5, 6] [5005] ⟨28, [(0, .b16 x1), (1, .int .i64 x2), (5, .own 5005), (6, .int .i64 (n3 : Int))], [(5005, .rows 28 1 ((l4).length + 1) (appF (l4).length (encF eW 0#16 l4) (lstF 1 [.b16 (q2w16 (n3 : Int))])))], [], 0⟩ (an2 trivial ob6) ?_
          refine blockQ_normal ?_
          exact joinQ_normal ((l4 ++ [(q2w16 (n3 : Int))])) (Le.trans (Le.mk (s' := ⟨28, [(0, .b16 x1), (1, .int .i64 x2), (5, .own 5005), (6, .int .i64 (n3 : Int))], [(5005, q2bW_28 (l4 ++ [(q2w16 (n3 : Int))]))], [], 0⟩) rfl rfl ⟨.refl _, .refl _, .refl _, .refl _, trivial⟩ ⟨⟨_, rfl, (BLe.of (RL.app (RL.self _) (RL.lst (enc := eW) [(q2w16 (n3 : Int))] rfl rfl (fun _ => rfl))))⟩, trivial⟩) (Le.trans (Le.trans (Le.ren (swapN 5005 26) (swapN_inv 5005 26) rfl) (Le.mk (s' := ⟨28, [(0, .b16 x1), (1, .int .i64 x2), (5, .own 26), (6, .int .i64 (n3 : Int))], [(26, q2bW_28 (l4 ++ [(q2w16 (n3 : Int))]))], [], 0⟩) rfl rfl ⟨.refl _, .refl _, .refl _, .refl _, trivial⟩ ⟨⟨_, rfl, .refl _⟩, trivial⟩)) (Le.mk rfl rfl ⟨.refl _, .refl _, .refl _, .refl _, trivial⟩ ⟨⟨_, rfl, .refl _⟩, trivial⟩))) h
        ·
          replace h := ite_fb hc2 h
          refine AWp.skip ?_
          refine blockQ_normal ?_
          exact joinQ_normal (l4) (Le.trans (Le.trans (Le.ren (swapN 5005 26) (swapN_inv 5005 26) rfl) (Le.mk (s' := ⟨28, [(0, .b16 x1), (1, .int .i64 x2), (5, .own 26), (6, .int .i64 (n3 : Int)), (21, .bool (r5 && (r6 == x2)))], [(26, q2bW_28 l4)], [], 0⟩) rfl rfl ⟨.refl _, .refl _, .refl _, .refl _, .refl _, trivial⟩ ⟨⟨_, rfl, .refl _⟩, trivial⟩)) (Le.mk rfl rfl ⟨.refl _, .refl _, .refl _, .refl _, trivial⟩ ⟨⟨_, rfl, .refl _⟩, trivial⟩)) h
      ·
        rintro l7 h
        replace h := (congrFun hK2 _).symm.trans h
        obtain ⟨ob7p, h⟩ := chk_some h
        have ob7 : -9223372036854775808 ≤ ((n3 : Int) + (1 : Int)) ∧ ((n3 : Int) + (1 : Int)) ≤ 9223372036854775807 := ⟨by omega, ob7p⟩
        refine q2rr [] [] [0, 1, 5, 6] [26] ⟨28, [(0, .b16 x1), (1, .int .i64 x2), (5, .own 26), (6, .int .i64 (((n3 + 1) : Nat) : Int))], [(26, q2bW_28 l7)], [], 0⟩ (an1 ob7) ?_
        rw [hC0] at h
        exact loopQ_normal (_, (n3 + 1), l7) (Le.trans (Le.trans (Le.ren (swapN 26 5005) (swapN_inv 26 5005) rfl) (Le.mk (s' := ⟨28, [(0, .b16 x1), (1, .int .i64 x2), (5, .own 5005), (6, .int .i64 (((n3 + 1) : Nat) : Int))], [(5005, q2bW_28 l7)], [], 0⟩) rfl rfl ⟨.refl _, .refl _, .refl _, .refl _, trivial⟩ ⟨⟨_, rfl, .refl _⟩, trivial⟩)) (Le.mk rfl rfl ⟨.refl _, .refl _, .refl _, .refl _, trivial⟩ ⟨⟨_, rfl, .refl _⟩, trivial⟩)) h (Nat.lt_succ_self _)
    ·
      replace h := ite_fb hc1 h
      refine AWp.exit ?_
      refine thenQ_exit ?_
      refine thenQ_exit ?_
      refine blockQ_same ?_
      exact joinQ_normal (l4) (Le.mk rfl rfl ⟨.refl _, trivial⟩ ⟨⟨_, rfl, .refl _⟩, trivial⟩) h
  ·
    rintro l8 h
    replace h := (congrFun hK1 _).symm.trans h
    refine q2rq [] [] [4] [5005] ⟨28, [(4, .own 5005)], [(5005, q2bW_28 l8)], [], 0⟩ trivial ?_
    refine AWp.le (Le.trans (Le.ren (swapN 5005 3000) (swapN_inv 5005 3000) rfl) (Le.mk (s' := ⟨28, [(4, .own 3000)], [(3000, q2bW_28 l8)], [], 0⟩) rfl rfl ⟨.refl _, trivial⟩ ⟨⟨_, rfl, .refl _⟩, trivial⟩)) ?_
    have hret := Option.some.inj h
    subst hret
    refine AWp.le (Le.mk (s' := ⟨28, [(4, .own 3000)], [(3000, q2bW_28 l8)], [], 0⟩) rfl rfl ⟨.refl _, trivial⟩ ⟨⟨_, rfl, .refl _⟩, trivial⟩) ?_
    refine AWp.ret ?_
    exact bodyQ_ret _ rfl ⟨rfl, rfl⟩ rfl
def f52 (x1 : List (BitVec 16 × BitVec 16)) : Option ((List (BitVec 16 × BitVec 16)) × Int) :=
  if (decide ((((x1).length : Nat) : Int) > (100 : Int))) then (
  some ([], (3 : Int))
  ) else (
  some (x1, (0 : Int))
  )
set_option maxRecDepth 100000 in
theorem f52_ok  (x1 : List (BitVec 16 × BitVec 16)) (r : (List (BitVec 16 × BitVec 16)) × Int) (h : f52 x1 = some r)  : Spec1 Tryz.prog 52 [] [] [] [vL 2 eWW (default : BitVec 16 × BitVec 16) x1] (.tup [vL 2 eWW (default : BitVec 16 × BitVec 16) r.1, .int .i64 r.2]) [] := by
  unfold f52 at h
  refine Spec1.body 0 _ _ Tryz.func52 rfl Tryz.ntmps52 rfl rfl ?_
  refine q2rq [] [] [0] [] ⟨8, [(0, q2aWW x1)], [], [], 0⟩ trivial ?_
  refine AWp.seq ?_
  refine q2rq [] [] [0, 6] [] ⟨8, [(0, q2aWW x1), (6, .bool (decide ((((x1).length : Nat) : Int) > (100 : Int))))], [], [], 0⟩ trivial ?_
  refine AWp.cond (b := (decide ((((x1).length : Nat) : Int) > (100 : Int)))) (by kernel_rfl) (fun hc1 => ?_) (fun hc1 => ?_)
  ·
    replace h := ite_tb hc1 h
    refine q2rq [] [] [2, 3] [] ⟨8, [(2, .nils), (3, .int .i64 (3 : Int))], [], [], 0⟩ trivial ?_
    have hret := Option.some.inj h
    subst hret
    refine AWp.le (Le.mk (s' := ⟨8, [(2, q2aWW []), (3, .int .i64 (3 : Int))], [], [], 0⟩) rfl rfl ⟨.nilL, .refl _, trivial⟩ trivial) ?_
    refine AWp.ret ?_
    refine thenQ_ret ?_
    exact bodyQ_ret _ rfl ⟨rfl, rfl⟩ rfl
  ·
    replace h := ite_fb hc1 h
    refine AWp.skip ?_
    refine thenQ_normal ?_
    refine q2rq [] [] [2, 3] [] ⟨8, [(2, q2aWW x1), (3, .int .i64 (0 : Int))], [], [], 0⟩ trivial ?_
    have hret := Option.some.inj h
    subst hret
    refine AWp.le (Le.mk (s' := ⟨8, [(2, q2aWW x1), (3, .int .i64 (0 : Int))], [], [], 0⟩) rfl rfl ⟨.refl _, .refl _, trivial⟩ trivial) ?_
    refine AWp.ret ?_
    exact bodyQ_ret _ rfl ⟨rfl, rfl⟩ rfl
def f21_L1 (r4 : List (BitVec 16)) (n5 : Nat) (r7 : List (BitVec 16)) (K2 : (List (BitVec 16 × BitVec 16)) → Option ((List (BitVec 16 × BitVec 16)) × Int)) : Nat → (Nat × (List (BitVec 16 × BitVec 16))) → Option ((List (BitVec 16 × BitVec 16)) × Int)
  | 0, _ => none
  | k + 1, (n8, l9) =>
    if ((decide ((n8 : Int) < (((r7).length : Nat) : Int))) && (decide ((((l9).length : Nat) : Int) ≤ (100 : Int)))) then (
    chk ((n5 : Int) < (((r4).length : Nat) : Int)) <|
    chk (n5 < (r4).length) <|
    chk ((n8 : Int) < (((r7).length : Nat) : Int)) <|
    chk (n8 < (r7).length) <|
    chk (((l9).length + 1) * 4 ≤ 140737488355328) <|
    chk (((n8 : Int) + (1 : Int)) ≤ 9223372036854775807) <|
    (f21_L1 r4 n5 r7 K2 k) ((n8 + 1), (l9 ++ [((r4.getD n5 0#16), (r7.getD n8 0#16))]))
    ) else (
    K2 l9
    )
theorem f21_L1_e2 (r4 : List (BitVec 16)) (n5 : Nat) (r7 : List (BitVec 16)) (K2 : (List (BitVec 16 × BitVec 16)) → Option ((List (BitVec 16 × BitVec 16)) × Int)) (k : Nat) (n8 : Nat) (l9 : List (BitVec 16 × BitVec 16)) : f21_L1 r4 n5 r7 K2 (k + 1) (n8, l9) =
    if ((decide ((n8 : Int) < (((r7).length : Nat) : Int))) && (decide ((((l9).length : Nat) : Int) ≤ (100 : Int)))) then (
    chk ((n5 : Int) < (((r4).length : Nat) : Int)) <|
    chk (n5 < (r4).length) <|
    chk ((n8 : Int) < (((r7).length : Nat) : Int)) <|
    chk (n8 < (r7).length) <|
    chk (((l9).length + 1) * 4 ≤ 140737488355328) <|
    chk (((n8 : Int) + (1 : Int)) ≤ 9223372036854775807) <|
    (f21_L1 r4 n5 r7 K2 k) ((n8 + 1), (l9 ++ [((r4.getD n5 0#16), (r7.getD n8 0#16))]))
    ) else (
    K2 l9
    ) := rfl
def f21_L0 (x1 : Int) (x3 : Int) (r4 : List (BitVec 16)) (K1 : (List (BitVec 16 × BitVec 16)) → Option ((List (BitVec 16 × BitVec 16)) × Int)) : Nat → (Nat × (List (BitVec 16 × BitVec 16))) → Option ((List (BitVec 16 × BitVec 16)) × Int)
  | 0, _ => none
  | k + 1, (n5, l6) =>
    if (decide ((n5 : Int) < (((r4).length : Nat) : Int))) then (
    (f51 ((((BitVec.ofInt 16 1) <<< ((x1).toNat)) - (BitVec.ofInt 16 1)) &&& ~~~(r4.getD n5 0#16)) x3).bind fun (r7 : List (BitVec 16)) =>
    chk ((n5 : Int) < (((r4).length : Nat) : Int)) <|
    chk (n5 < (r4).length) <|
    jn (fun (l10 : List (BitVec 16 × BitVec 16)) =>
    if (decide ((((l10).length : Nat) : Int) > (100 : Int))) then (
    some ([], (3 : Int))
    ) else (
    chk (((n5 : Int) + (1 : Int)) ≤ 9223372036854775807) <|
    (f21_L0 x1 x3 r4 K1 k) ((n5 + 1), l10)
    )
    ) fun (K2 : (List (BitVec 16 × BitVec 16)) → Option ((List (BitVec 16 × BitVec 16)) × Int)) =>
    f21_L1 r4 n5 r7 K2 FUEL (0, l6)
    ) else (
    K1 l6
    )
theorem f21_L0_e2 (x1 : Int) (x3 : Int) (r4 : List (BitVec 16)) (K1 : (List (BitVec 16 × BitVec 16)) → Option ((List (BitVec 16 × BitVec 16)) × Int)) (k : Nat) (n5 : Nat) (l6 : List (BitVec 16 × BitVec 16)) : f21_L0 x1 x3 r4 K1 (k + 1) (n5, l6) =
    if (decide ((n5 : Int) < (((r4).length : Nat) : Int))) then (
    (f51 ((((BitVec.ofInt 16 1) <<< ((x1).toNat)) - (BitVec.ofInt 16 1)) &&& ~~~(r4.getD n5 0#16)) x3).bind fun (r7 : List (BitVec 16)) =>
    chk ((n5 : Int) < (((r4).length : Nat) : Int)) <|
    chk (n5 < (r4).length) <|
    jn (fun (l10 : List (BitVec 16 × BitVec 16)) =>
    if (decide ((((l10).length : Nat) : Int) > (100 : Int))) then (
    some ([], (3 : Int))
    ) else (
    chk (((n5 : Int) + (1 : Int)) ≤ 9223372036854775807) <|
    (f21_L0 x1 x3 r4 K1 k) ((n5 + 1), l10)
    )
    ) fun (K2 : (List (BitVec 16 × BitVec 16)) → Option ((List (BitVec 16 × BitVec 16)) × Int)) =>
    f21_L1 r4 n5 r7 K2 FUEL (0, l6)
    ) else (
    K1 l6
    ) := rfl
def f21 (x1 : Int) (x2 : Int) (x3 : Int) : Option ((List (BitVec 16 × BitVec 16)) × Int) :=
  chk (((((((decide (x1 < (0 : Int))) || (decide (x1 > (12 : Int)))) || (decide (x2 < (0 : Int)))) || (decide (x3 < (0 : Int)))) || (decide (x2 > x1))) == false) = true → -9223372036854775808 ≤ (x1 - x2) ∧ (x1 - x2) ≤ 9223372036854775807) <|
  if ((((((decide (x1 < (0 : Int))) || (decide (x1 > (12 : Int)))) || (decide (x2 < (0 : Int)))) || (decide (x3 < (0 : Int)))) || (decide (x2 > x1))) || (decide (x3 > (x1 - x2)))) then (
  some ([], (7 : Int))
  ) else (
  chk (0 ≤ x1) <|
  (f51 (((BitVec.ofInt 16 1) <<< ((x1).toNat)) - (BitVec.ofInt 16 1)) x2).bind fun (r4 : List (BitVec 16)) =>
  jn (fun (l11 : List (BitVec 16 × BitVec 16)) =>
  (f52 l11).bind fun (r12 : (List (BitVec 16 × BitVec 16)) × Int) =>
  some (r12.1, r12.2)
  ) fun (K1 : (List (BitVec 16 × BitVec 16)) → Option ((List (BitVec 16 × BitVec 16)) × Int)) =>
  f21_L0 x1 x3 r4 K1 FUEL (0, [])
  )
set_option maxRecDepth 100000 in
theorem f21_ok  (x1 : Int) (x2 : Int) (x3 : Int) (r : (List (BitVec 16 × BitVec 16)) × Int) (h : f21 x1 x2 x3 = some r)  : Spec1 Tryz.prog 21 [] [] [] [.int .i64 x1, .int .i64 x2, .int .i64 x3] (.tup [vL 2 eWW (default : BitVec 16 × BitVec 16) r.1, .int .i64 r.2]) [] := by
  unfold f21 at h
  refine Spec1.body 0 _ _ Tryz.func21 rfl Tryz.ntmps21 rfl rfl ?_
  refine q2rq [] [] [0, 1, 2] [] ⟨90, [(0, .int .i64 x1), (1, .int .i64 x2), (2, .int .i64 x3)], [], [], 0⟩ trivial ?_
  refine AWp.seq ?_
  refine AWp.seq ?_
  have ob0 : ((decide (x1 < (0 : Int))) == false) = true → ((decide (x1 < (0 : Int))) == false) = true := fun h => h
  have ob1 : true = true → (decide (x1 < (0 : Int))) = false → ((decide (x1 < (0 : Int))) == false) = true := fun _ h => beq_iff_eq.2 h
  have ob2 : (((decide (x1 < (0 : Int))) || (decide (x1 > (12 : Int)))) == false) = true → (((decide (x1 < (0 : Int))) || (decide (x1 > (12 : Int)))) == false) = true := fun h => h
  have ob3 : true = true → ((decide (x1 < (0 : Int))) || (decide (x1 > (12 : Int)))) = false → (((decide (x1 < (0 : Int))) || (decide (x1 > (12 : Int)))) == false) = true := fun _ h => beq_iff_eq.2 h
  have ob4 : ((((decide (x1 < (0 : Int))) || (decide (x1 > (12 : Int)))) || (decide (x2 < (0 : Int)))) == false) = true → ((((decide (x1 < (0 : Int))) || (decide (x1 > (12 : Int)))) || (decide (x2 < (0 : Int)))) == false) = true := fun h => h
  have ob5 : true = true → (((decide (x1 < (0 : Int))) || (decide (x1 > (12 : Int)))) || (decide (x2 < (0 : Int)))) = false → ((((decide (x1 < (0 : Int))) || (decide (x1 > (12 : Int)))) || (decide (x2 < (0 : Int)))) == false) = true := fun _ h => beq_iff_eq.2 h
  have ob6 : (((((decide (x1 < (0 : Int))) || (decide (x1 > (12 : Int)))) || (decide (x2 < (0 : Int)))) || (decide (x3 < (0 : Int)))) == false) = true → (((((decide (x1 < (0 : Int))) || (decide (x1 > (12 : Int)))) || (decide (x2 < (0 : Int)))) || (decide (x3 < (0 : Int)))) == false) = true := fun h => h
  have ob7 : (((((decide (x1 < (0 : Int))) || (decide (x1 > (12 : Int)))) || (decide (x2 < (0 : Int)))) || (decide (x3 < (0 : Int)))) == false) = true → (((((decide (x1 < (0 : Int))) || (decide (x1 > (12 : Int)))) || (decide (x2 < (0 : Int)))) || (decide (x3 < (0 : Int)))) == false) = true := fun h => h
  have ob8 : true = true → ((((decide (x1 < (0 : Int))) || (decide (x1 > (12 : Int)))) || (decide (x2 < (0 : Int)))) || (decide (x3 < (0 : Int)))) = false → (((((decide (x1 < (0 : Int))) || (decide (x1 > (12 : Int)))) || (decide (x2 < (0 : Int)))) || (decide (x3 < (0 : Int)))) == false) = true := fun _ h => beq_iff_eq.2 h
  obtain ⟨ob9, h⟩ := chk_some h
  have ob10 : ((((((decide (x1 < (0 : Int))) || (decide (x1 > (12 : Int)))) || (decide (x2 < (0 : Int)))) || (decide (x3 < (0 : Int)))) || (decide (x2 > x1))) == false) = true → ((((((decide (x1 < (0 : Int))) || (decide (x1 > (12 : Int)))) || (decide (x2 < (0 : Int)))) || (decide (x3 < (0 : Int)))) || (decide (x2 > x1))) == false) = true := fun h => h
  have ob11 : ((((((decide (x1 < (0 : Int))) || (decide (x1 > (12 : Int)))) || (decide (x2 < (0 : Int)))) || (decide (x3 < (0 : Int)))) || (decide (x2 > x1))) == false) = true → ((((((decide (x1 < (0 : Int))) || (decide (x1 > (12 : Int)))) || (decide (x2 < (0 : Int)))) || (decide (x3 < (0 : Int)))) || (decide (x2 > x1))) == false) = true := fun h => h
  have ob12 : ((((((decide (x1 < (0 : Int))) || (decide (x1 > (12 : Int)))) || (decide (x2 < (0 : Int)))) || (decide (x3 < (0 : Int)))) || (decide (x2 > x1))) == false) = true → ((((((decide (x1 < (0 : Int))) || (decide (x1 > (12 : Int)))) || (decide (x2 < (0 : Int)))) || (decide (x3 < (0 : Int)))) || (decide (x2 > x1))) == false) = true := fun h => h
  have ob13 : ((((((decide (x1 < (0 : Int))) || (decide (x1 > (12 : Int)))) || (decide (x2 < (0 : Int)))) || (decide (x3 < (0 : Int)))) || (decide (x2 > x1))) == false) = true → ((((((decide (x1 < (0 : Int))) || (decide (x1 > (12 : Int)))) || (decide (x2 < (0 : Int)))) || (decide (x3 < (0 : Int)))) || (decide (x2 > x1))) == false) = true := fun h => h
  have ob14 : true = true → (((((decide (x1 < (0 : Int))) || (decide (x1 > (12 : Int)))) || (decide (x2 < (0 : Int)))) || (decide (x3 < (0 : Int)))) || (decide (x2 > x1))) = false → ((((((decide (x1 < (0 : Int))) || (decide (x1 > (12 : Int)))) || (decide (x2 < (0 : Int)))) || (decide (x3 < (0 : Int)))) || (decide (x2 > x1))) == false) = true := fun _ h => beq_iff_eq.2 h
  refine q2rr [] [] [0, 1, 2, 39] [] ⟨90, [(0, .int .i64 x1), (1, .int .i64 x2), (2, .int .i64 x3), (39, .bool ((((((decide (x1 < (0 : Int))) || (decide (x1 > (12 : Int)))) || (decide (x2 < (0 : Int)))) || (decide (x3 < (0 : Int)))) || (decide (x2 > x1))) || (decide (x3 > (x1 - x2)))))], [], [], 0⟩ (ac6 (an1 ob0) ob1 (an1 ob2) ob3 (an1 ob4) ob5 (an5 (an2 ob6 ob7) ob8 (And.intro ob9 (an2 ob10 ob11)) (an2 ob12 ob13) ob14)) ?_
  refine thenQ_normal ?_
  refine AWp.cond (b := ((((((decide (x1 < (0 : Int))) || (decide (x1 > (12 : Int)))) || (decide (x2 < (0 : Int)))) || (decide (x3 < (0 : Int)))) || (decide (x2 > x1))) || (decide (x3 > (x1 - x2))))) (by kernel_rfl) (fun hc1 => ?_) (fun hc1 => ?_)
  ·
    replace h := ite_tb hc1 h
    refine q2rq [] [] [6, 7] [] ⟨90, [(6, .nils), (7, .int .i64 (7 : Int))], [], [], 0⟩ trivial ?_
    have hret := Option.some.inj h
    subst hret
    refine AWp.le (Le.mk (s' := ⟨90, [(6, q2aWW []), (7, .int .i64 (7 : Int))], [], [], 0⟩) rfl rfl ⟨.nilL, .refl _, trivial⟩ trivial) ?_
    refine AWp.ret ?_
    refine thenQ_ret ?_
    exact bodyQ_ret _ rfl ⟨rfl, rfl⟩ rfl
  ·
    replace h := ite_fb hc1 h
    refine AWp.skip ?_
    refine thenQ_normal ?_
    refine AWp.seq ?_
    obtain ⟨ob15, h⟩ := chk_some h
    refine q2rr [] [] [1, 2, 8] [] ⟨90, [(1, .int .i64 x2), (2, .int .i64 x3), (8, .b16 (((q2w16 1) <<< ((x1).toNat)) - (q2w16 1)))], [], [], 0⟩ (an2 ob15 trivial) ?_
    refine thenQ_normal ?_
    refine q2rq [] [] [1, 2, 8, 9] [] ⟨90, [(1, .int .i64 x2), (2, .int .i64 x3), (8, .b16 (((q2w16 1) <<< ((x1).toNat)) - (q2w16 1))), (9, .nils)], [], [], 0⟩ trivial ?_
    refine AWp.seq ?_
    obtain ⟨r4, hr4, h⟩ := bind_ok h
    refine q2rr [] [(2, ⟨[.b16 (((q2w16 1) <<< ((x1).toNat)) - (q2w16 1)), .int .i64 x2], [], [], [(6001, q2bW_28 r4)], .own 6001, [6001], [], []⟩)] [2, 8, 9, 10] [6001] ⟨90, [(2, .int .i64 x3), (8, .b16 (((q2w16 1) <<< ((x1).toNat)) - (q2w16 1))), (9, .nils), (10, .own 6001)], [(6001, q2bW_28 r4)], [], 0⟩ (an1 (cpT (Spec1.ren (swapN 3000 6001) (swapN_inv 3000 6001) rfl (f51_ok _ _ _ hr4)))) ?_
    refine thenQ_normal ?_
    obtain ⟨K1, hK1, h⟩ := jn_some h
    refine AWp.join (α := List (BitVec 16 × BitVec 16)) (fun (l11 : List (BitVec 16 × BitVec 16)) => ⟨90, [(9, .own 5009)], [(5009, q2bWW_30 l11)], [], 0⟩) (fun x => K1 x = some r) ?_ ?_
    ·
      refine q2rq [] [] [2, 8, 9, 10, 11] [6001] ⟨90, [(2, .int .i64 x3), (8, .b16 (((q2w16 1) <<< ((x1).toNat)) - (q2w16 1))), (9, .nils), (10, .own 6001), (11, .int .i64 (0 : Int))], [(6001, q2bW_28 r4)], [], 0⟩ trivial ?_
      refine AWp.block ?_
      refine AWp.loopL (α := Nat × (Nat × (List (BitVec 16 × BitVec 16)))) (fun x => match x with | (_, n5, l6) => ⟨90, [(2, .int .i64 x3), (8, .b16 (((q2w16 1) <<< ((x1).toNat)) - (q2w16 1))), (9, .own 5009), (10, .own 6001), (11, .int .i64 (n5 : Int))], [(5009, q2bWW_30 l6), (6001, q2bW_28 r4)], [], 0⟩) (fun x => f21_L0 x1 x3 r4 K1 x.1 x.2 = some r) (fun x => x.1) (FUEL, 0, []) (Le.trans (Le.trans (Le.nilOwn 9 5009 30 2 (encF eWW q2dWW []) rfl rfl (Nat.le_of_ble_eq_true rfl)) (Le.mk (s' := ⟨90, [(2, .int .i64 x3), (8, .b16 (((q2w16 1) <<< ((x1).toNat)) - (q2w16 1))), (9, .own 5009), (10, .own 6001), (11, .int .i64 (0 : Int))], [(6001, q2bW_28 r4), (5009, q2bWW_30 [])], [], 0⟩) rfl rfl ⟨.refl _, .refl _, .refl _, .refl _, .refl _, trivial⟩ ⟨⟨_, rfl, .refl _⟩, ⟨_, rfl, .refl _⟩, trivial⟩)) (Le.mk (s' := ⟨90, [(2, .int .i64 x3), (8, .b16 (((q2w16 1) <<< ((x1).toNat)) - (q2w16 1))), (9, .own 5009), (10, .own 6001), (11, .int .i64 (0 : Int))], [(5009, q2bWW_30 []), (6001, q2bW_28 r4)], [], 0⟩) rfl rfl ⟨.refl _, .refl _, .refl _, .refl _, .refl _, trivial⟩ ⟨⟨_, rfl, .refl _⟩, ⟨_, rfl, .refl _⟩, trivial⟩)) h ?_
      rintro ⟨k0, n5, l6⟩ h
      cases k0 with
      | zero => exact nomatch (show (none : Option ((List (BitVec 16 × BitVec 16)) × Int)) = some r from h)
      | succ k0 =>
      obtain ⟨C0, hC0⟩ : ∃ C, C = f21_L0 x1 x3 r4 K1 k0 := ⟨_, rfl⟩
      replace h := (f21_L0_e2 ..).symm.trans h
      try rw [← hC0] at h
      refine AWp.seq ?_
      refine q2rq [] [] [2, 8, 9, 10, 11, 49] [5009, 6001] ⟨90, [(2, .int .i64 x3), (8, .b16 (((q2w16 1) <<< ((x1).toNat)) - (q2w16 1))), (9, .own 5009), (10, .own 6001), (11, .int .i64 (n5 : Int)), (49, .bool (decide ((n5 : Int) < (((r4).length : Nat) : Int))))], [(5009, q2bWW_30 l6), (6001, q2bW_28 r4)], [], 0⟩ trivial ?_
      refine AWp.cond (b := (decide ((n5 : Int) < (((r4).length : Nat) : Int)))) (by kernel_rfl) (fun hc2 => ?_) (fun hc2 => ?_)
      ·
        replace h := ite_tb hc2 h
        refine AWp.skip ?_
        refine thenQ_normal ?_
        refine AWp.seq ?_
        refine AWp.block ?_
        refine AWp.seq ?_
        obtain ⟨r7, hr7, h⟩ := bind_ok h
        obtain ⟨ob16p, h⟩ := chk_some h
        have ob16 : 0 ≤ (n5 : Int) ∧ (n5 : Int) < (((r4).length : Nat) : Int) := ⟨by omega, ob16p⟩
        obtain ⟨ob17, h⟩ := chk_some h
        refine q2rr [] [(7, ⟨[.b16 ((((q2w16 1) <<< ((x1).toNat)) - (q2w16 1)) &&& ~~~(r4.getD n5 0#16)), .int .i64 x3], [], [], [(6002, q2bW_28 r7)], .own 6002, [6002], [], []⟩)] [2, 8, 9, 10, 11, 12] [5009, 6001, 6002] ⟨90, [(2, .int .i64 x3), (8, .b16 (((q2w16 1) <<< ((x1).toNat)) - (q2w16 1))), (9, .own 5009), (10, .own 6001), (11, .int .i64 (n5 : Int)), (12, .own 6002)], [(5009, q2bWW_30 l6), (6001, q2bW_28 r4), (6002, q2bW_28 r7)], [], 0⟩ (an3 ob16 ob17 (cpT (Spec1.ren (swapN 3000 6002) (swapN_inv 3000 6002) rfl (f51_ok _ _ _ hr7)))) ?_
        refine thenQ_normal ?_
        obtain ⟨K2, hK2, h⟩ := jn_some h
        refine AWp.join (α := List (BitVec 16 × BitVec 16)) (fun (l10 : List (BitVec 16 × BitVec 16)) => ⟨90, [(2, .int .i64 x3), (8, .b16 (((q2w16 1) <<< ((x1).toNat)) - (q2w16 1))), (9, .own 5009), (10, .own 6001), (11, .int .i64 (n5 : Int))], [(5009, q2bWW_30 l10), (6001, q2bW_28 r4)], [], 0⟩) (fun x => K2 x = some r) ?_ ?_
        ·
          refine q2rq [] [] [2, 8, 9, 10, 11, 12, 13] [5009, 6001, 6002] ⟨90, [(2, .int .i64 x3), (8, .b16 (((q2w16 1) <<< ((x1).toNat)) - (q2w16 1))), (9, .own 5009), (10, .own 6001), (11, .int .i64 (n5 : Int)), (12, .own 6002), (13, .int .i64 (0 : Int))], [(5009, q2bWW_30 l6), (6001, q2bW_28 r4), (6002, q2bW_28 r7)], [], 0⟩ trivial ?_
          refine AWp.block ?_
          refine AWp.loopL (α := Nat × (Nat × (List (BitVec 16 × BitVec 16)))) (fun x => match x with | (_, n8, l9) => ⟨90, [(2, .int .i64 x3), (8, .b16 (((q2w16 1) <<< ((x1).toNat)) - (q2w16 1))), (9, .own 5009), (10, .own 6001), (11, .int .i64 (n5 : Int)), (12, .own 6002), (13, .int .i64 (n8 : Int))], [(5009, q2bWW_30 l9), (6001, q2bW_28 r4), (6002, q2bW_28 r7)], [], 0⟩) (fun x => f21_L1 r4 n5 r7 K2 x.1 x.2 = some r) (fun x => x.1) (FUEL, 0, l6) (Le.mk (s' := ⟨90, [(2, .int .i64 x3), (8, .b16 (((q2w16 1) <<< ((x1).toNat)) - (q2w16 1))), (9, .own 5009), (10, .own 6001), (11, .int .i64 (n5 : Int)), (12, .own 6002), (13, .int .i64 (0 : Int))], [(5009, q2bWW_30 l6), (6001, q2bW_28 r4), (6002, q2bW_28 r7)], [], 0⟩) rfl rfl ⟨.refl _, .refl _, .refl _, .refl _, .refl _, .refl _, .refl _, trivial⟩ ⟨⟨_, rfl, .refl _⟩, ⟨_, rfl, .refl _⟩, ⟨_, rfl, .refl _⟩, trivial⟩) h ?_
          rintro ⟨k1, n8, l9⟩ h
          cases k1 with
          | zero => exact nomatch (show (none : Option ((List (BitVec 16 × BitVec 16)) × Int)) = some r from h)
          | succ k1 =>
          obtain ⟨C1, hC1⟩ : ∃ C, C = f21_L1 r4 n5 r7 K2 k1 := ⟨_, rfl⟩
          replace h := (f21_L1_e2 ..).symm.trans h
          try rw [← hC1] at h
          refine AWp.seq ?_
          refine AWp.seq ?_
          have ob18 : ((decide ((n8 : Int) < (((r7).length : Nat) : Int))) == true) = true → ((decide ((n8 : Int) < (((r7).length : Nat) : Int))) == true) = true := fun h => h
          have ob19 : ((decide ((n8 : Int) < (((r7).length : Nat) : Int))) == true) = true → ((decide ((n8 : Int) < (((r7).length : Nat) : Int))) == true) = true := fun h => h
          have ob20 : true = true → (decide ((n8 : Int) < (((r7).length : Nat) : Int))) = true → ((decide ((n8 : Int) < (((r7).length : Nat) : Int))) == true) = true := fun _ h => beq_iff_eq.2 h
          refine q2rr [] [] [2, 8, 9, 10, 11, 12, 13, 68] [5009, 6001, 6002] ⟨90, [(2, .int .i64 x3), (8, .b16 (((q2w16 1) <<< ((x1).toNat)) - (q2w16 1))), (9, .own 5009), (10, .own 6001), (11, .int .i64 (n5 : Int)), (12, .own 6002), (13, .int .i64 (n8 : Int)), (68, .bool ((decide ((n8 : Int) < (((r7).length : Nat) : Int))) && (decide ((((l9).length : Nat) : Int) ≤ (100 : Int)))))], [(5009, q2bWW_30 l9), (6001, q2bW_28 r4), (6002, q2bW_28 r7)], [], 0⟩ (an3 (an1 ob18) (an1 ob19) ob20) ?_
          refine thenQ_normal ?_
          refine AWp.cond (b := ((decide ((n8 : Int) < (((r7).length : Nat) : Int))) && (decide ((((l9).length : Nat) : Int) ≤ (100 : Int))))) (by kernel_rfl) (fun hc3 => ?_) (fun hc3 => ?_)
          ·
            replace h := ite_tb hc3 h
            refine AWp.skip ?_
            refine thenQ_normal ?_
            refine AWp.seq ?_
            refine AWp.block ?_
            obtain ⟨ob21p, h⟩ := chk_some h
            have ob21 : 0 ≤ (n5 : Int) ∧ (n5 : Int) < (((r4).length : Nat) : Int) := ⟨by omega, ob21p⟩
            obtain ⟨ob22, h⟩ := chk_some h
            obtain ⟨ob23p, h⟩ := chk_some h
            have ob23 : 0 ≤ (n8 : Int) ∧ (n8 : Int) < (((r7).length : Nat) : Int) := ⟨by omega, ob23p⟩
            obtain ⟨ob24, h⟩ := chk_some h
            obtain ⟨ob25, h⟩ := chk_some h
            refine q2rr [] [] [2, 8, 9, 10, 11, 12, 13] [5009, 6001, 6002] ⟨90, [(2, .int .i64 x3), (8, .b16 (((q2w16 1) <<< ((x1).toNat)) - (q2w16 1))), (9, .own 5009), (10, .own 6001), (11, .int .i64 (n5 : Int)), (12, .own 6002), (13, .int .i64 (n8 : Int))], [(5009, .rows 30 2 ((l9).length + 1) (appF (l9).length (encF eWW q2dWW l9) (lstF 2 [.b16 (r4.getD n5 0#16), .b16 (r7.getD n8 0#16)]))), (6001, q2bW_28 r4), (6002, q2bW_28 r7)], [], 0⟩ (an5 ob21 ob22 ob23 ob24 ob25) ?_
            refine blockQ_normal ?_
            refine thenQ_normal ?_
            refine AWp.le (Le.mk (s' := ⟨90, [(2, .int .i64 x3), (8, .b16 (((q2w16 1) <<< ((x1).toNat)) - (q2w16 1))), (9, .own 5009), (10, .own 6001), (11, .int .i64 (n5 : Int)), (12, .own 6002), (13, .int .i64 (n8 : Int))], [(5009, q2bWW_30 (l9 ++ [((r4.getD n5 0#16), (r7.getD n8 0#16))])), (6001, q2bW_28 r4), (6002, q2bW_28 r7)], [], 0⟩) rfl rfl ⟨.refl _, .refl _, .refl _, .refl _, .refl _, .refl _, .refl _, trivial⟩ ⟨⟨_, rfl, (BLe.of (RL.app (RL.self _) (RL.lst (enc := eWW) [((r4.getD n5 0#16), (r7.getD n8 0#16))] rfl rfl (fun _ => rfl))))⟩, ⟨_, rfl, .refl _⟩, ⟨_, rfl, .refl _⟩, trivial⟩) ?_
            obtain ⟨ob26p, h⟩ := chk_some h
            have ob26 : -9223372036854775808 ≤ ((n8 : Int) + (1 : Int)) ∧ ((n8 : Int) + (1 : Int)) ≤ 9223372036854775807 := ⟨by omega, ob26p⟩
            refine q2rr [] [] [2, 8, 9, 10, 11, 12, 13] [5009, 6001, 6002] ⟨90, [(2, .int .i64 x3), (8, .b16 (((q2w16 1) <<< ((x1).toNat)) - (q2w16 1))), (9, .own 5009), (10, .own 6001), (11, .int .i64 (n5 : Int)), (12, .own 6002), (13, .int .i64 (((n8 + 1) : Nat) : Int))], [(5009, q2bWW_30 (l9 ++ [((r4.getD n5 0#16), (r7.getD n8 0#16))])), (6001, q2bW_28 r4), (6002, q2bW_28 r7)], [], 0⟩ (an1 ob26) ?_
            rw [hC1] at h
            exact loopQ_normal (_, (n8 + 1), (l9 ++ [((r4.getD n5 0#16), (r7.getD n8 0#16))])) (Le.mk rfl rfl ⟨.refl _, .refl _, .refl _, .refl _, .refl _, .refl _, .refl _, trivial⟩ ⟨⟨_, rfl, .refl _⟩, ⟨_, rfl, .refl _⟩, ⟨_, rfl, .refl _⟩, trivial⟩) h (Nat.lt_succ_self _)
          ·
            replace h := ite_fb hc3 h
            refine AWp.exit ?_
            refine thenQ_exit ?_
            refine thenQ_exit ?_
            refine blockQ_same ?_
            exact joinQ_normal (l9) (Le.mk rfl rfl ⟨.refl _, .refl _, .refl _, .refl _, .refl _, trivial⟩ ⟨⟨_, rfl, .refl _⟩, ⟨_, rfl, .refl _⟩, trivial⟩) h
        ·
          rintro l10 h
          replace h := (congrFun hK2 _).symm.trans h
          refine q2rq [] [] [2, 8, 9, 10, 11, 85] [5009, 6001] ⟨90, [(2, .int .i64 x3), (8, .b16 (((q2w16 1) <<< ((x1).toNat)) - (q2w16 1))), (9, .own 5009), (10, .own 6001), (11, .int .i64 (n5 : Int)), (85, .bool (decide ((((l10).length : Nat) : Int) > (100 : Int))))], [(5009, q2bWW_30 l10), (6001, q2bW_28 r4)], [], 0⟩ trivial ?_
          refine AWp.cond (b := (decide ((((l10).length : Nat) : Int) > (100 : Int)))) (by kernel_rfl) (fun hc4 => ?_) (fun hc4 => ?_)
          ·
            replace h := ite_tb hc4 h
            refine q2rq [] [] [6, 7] [] ⟨90, [(6, .nils), (7, .int .i64 (3 : Int))], [], [], 0⟩ trivial ?_
            have hret := Option.some.inj h
            subst hret
            refine AWp.le (Le.mk (s' := ⟨90, [(6, q2aWW []), (7, .int .i64 (3 : Int))], [], [], 0⟩) rfl rfl ⟨.nilL, .refl _, trivial⟩ trivial) ?_
            refine AWp.ret ?_
            refine blockQ_ret ?_
            refine thenQ_ret ?_
            refine thenQ_ret ?_
            refine blockQ_ret ?_
            refine joinQ_ret ?_
            exact bodyQ_ret _ rfl ⟨rfl, rfl⟩ rfl
          ·
            replace h := ite_fb hc4 h
            refine AWp.skip ?_
            refine blockQ_normal ?_
            refine thenQ_normal ?_
            obtain ⟨ob27p, h⟩ := chk_some h
            have ob27 : -9223372036854775808 ≤ ((n5 : Int) + (1 : Int)) ∧ ((n5 : Int) + (1 : Int)) ≤ 9223372036854775807 := ⟨by omega, ob27p⟩
            refine q2rr [] [] [2, 8, 9, 10, 11] [5009, 6001] ⟨90, [(2, .int .i64 x3), (8, .b16 (((q2w16 1) <<< ((x1).toNat)) - (q2w16 1))), (9, .own 5009), (10, .own 6001), (11, .int .i64 (((n5 + 1) : Nat) : Int))], [(5009, q2bWW_30 l10), (6001, q2bW_28 r4)], [], 0⟩ (an1 ob27) ?_
            rw [hC0] at h
            exact loopQ_normal (_, (n5 + 1), l10) (Le.mk rfl rfl ⟨.refl _, .refl _, .refl _, .refl _, .refl _, trivial⟩ ⟨⟨_, rfl, .refl _⟩, ⟨_, rfl, .refl _⟩, trivial⟩) h (Nat.lt_succ_self _)
      ·
        replace h := ite_fb hc2 h
        refine AWp.exit ?_
        refine thenQ_exit ?_
        refine thenQ_exit ?_
        refine blockQ_same ?_
        exact joinQ_normal (l6) (Le.mk rfl rfl ⟨.refl _, trivial⟩ ⟨⟨_, rfl, .refl _⟩, trivial⟩) h
    ·
      rintro l11 h
      replace h := (congrFun hK1 _).symm.trans h
      refine AWp.seq ?_
      refine AWp.le (Le.trans (Le.freeze 5009 rfl rfl) (Le.mk (s' := ⟨90, [(9, q2aWW l11)], [], [], 0⟩) rfl rfl ⟨.refl _, trivial⟩ trivial)) ?_
      obtain ⟨r12, hr12, h⟩ := bind_ok h
      refine q2rr [] [(1, ⟨[q2aWW l11], [], [], [], .tup [q2aWW r12.1, .int .i64 r12.2], [], [], []⟩)] [6, 7] [] ⟨90, [(6, q2aWW r12.1), (7, .int .i64 r12.2)], [], [], 0⟩ (an1 (cpT (f52_ok _ _ hr12))) ?_
      refine thenQ_normal ?_
      have hret := Option.some.inj h
      subst hret
      refine AWp.le (Le.mk (s' := ⟨90, [(6, q2aWW r12.1), (7, .int .i64 r12.2)], [], [], 0⟩) rfl rfl ⟨.refl _, .refl _, trivial⟩ trivial) ?_
      refine AWp.ret ?_
      exact bodyQ_ret _ rfl ⟨rfl, rfl⟩ rfl
def f5 (x1 : Int) (x2 : Int) (x3 : Int) (x4 : BitVec 16) (x5 : BitVec 16) : Option Bool :=
  (f12 ).bind fun (r6 : Bool) =>
  if (!r6) then (
  some false
  ) else (
  (f20 x1 x2 x3).bind fun (r7 : (List (BitVec 16 × BitVec 16)) × Int) =>
  (f21 x1 x2 x3).bind fun (r8 : (List (BitVec 16 × BitVec 16)) × Int) =>
  optc ((r7.2 != r8.2) == false) (f22 r7.1 r8.1) fun (r9 : Bool) =>
  if (((r7.2 != r8.2) || (!r9)) || (r7.2 != (0 : Int))) then (
  optc ((r7.2 == r8.2) == true) (f22 r7.1 r8.1) fun (r10 : Bool) =>
  some ((r7.2 == r8.2) && r10)
  ) else (
  optc ((!((x4 &&& x5) == (BitVec.ofInt 16 0))) == false) (f23 x4 x5) fun (r11 : BitVec 16) =>
  chk (((!((x4 &&& x5) == (BitVec.ofInt 16 0))) == false) = true → 0 ≤ x1) <|
  if ((!((x4 &&& x5) == (BitVec.ofInt 16 0))) || (decide (r11.toNat ≥ ((BitVec.ofInt 16 1) <<< ((x1).toNat)).toNat))) then (
  (f13 r7.1).bind fun (r12 : Int) =>
  some (r12 == (0 : Int))
  ) else (
  (f24 x4).bind fun (r13 : Int) =>
  (f24 x5).bind fun (r14 : Int) =>
  (f13 r7.1).bind fun (r15 : Int) =>
  optc ((r15 == (0 : Int)) == true) (f18 r7.1 x4 x5) fun (r16 : Bool) =>
  chk (((r15 == (0 : Int)) == true) = true → 0 ≤ (0 : Int) ∧ (0 : Int) < 2) <|
  chk ((((r15 == (0 : Int)) == true) && ((decide (r13 ≤ x2)) == true)) = true → -9223372036854775808 ≤ (r13 + r14) ∧ (r13 + r14) ≤ 9223372036854775807) <|
  chk ((((r15 == (0 : Int)) == true) && ((decide (r13 ≤ x2)) == true)) = true → 0 ≤ (0 : Int) ∧ (0 : Int) < 2) <|
  chk ((((r15 == (0 : Int)) == true) && ((decide (r13 ≤ x2)) == true)) = true → 0 ≤ (1 : Int) ∧ (1 : Int) < 2) <|
  chk ((((r15 == (0 : Int)) == true) && ((decide (r13 ≤ x2)) == true)) = true → -9223372036854775808 ≤ (x2 + x3) ∧ (x2 + x3) ≤ 9223372036854775807) <|
  chk (((r15 == (0 : Int)) == true) = true → ((r15 == (0 : Int)) == true) = true → (decide (r13 ≤ x2)) = true → (((r15 == (0 : Int)) == true) && ((decide (r13 ≤ x2)) == true)) = true) <|
  some ((r15 == (0 : Int)) && (r16 == ((decide (r13 ≤ x2)) && (decide ((r13 + r14) ≤ (x2 + x3))))))
  )
  )
  )
set_option maxRecDepth 100000 in
theorem f5_ok  (x1 : Int) (x2 : Int) (x3 : Int) (x4 : BitVec 16) (x5 : BitVec 16) (r : Bool) (h : f5 x1 x2 x3 x4 x5 = some r)  : Spec1 Tryz.prog 5 [(0, .elem 32 1 T0F 0 0), (6, .elem 20 1 T6F 0 0)] [] [] [.int .i64 x1, .agg [.int .i64 x2, .int .i64 x3], .agg [.b16 x4, .b16 x5]] (.bool r) [] := by
  unfold f5 at h
  refine Spec1.body 0 _ _ Tryz.func5 rfl Tryz.ntmps5 rfl rfl ?_
  refine q2rq [] [] [0, 4, 5, 1000000, 1000006] [4, 5] ⟨100, [(0, .int .i64 x1), (4, .ptr 4 0), (5, .ptr 5 0), (1000000, .elem 32 1 T0F 0 0), (1000006, .elem 20 1 T6F 0 0)], [(4, .cells 35 [.int .i64 x2, .int .i64 x3]), (5, .cells 30 [.b16 x4, .b16 x5])], [], 0⟩ trivial ?_
  refine AWp.seq ?_
  refine AWp.seq ?_
  obtain ⟨r6, hr6, h⟩ := bind_ok h
  refine q2rr [] [(0, ⟨[], [], [], [], .bool r6, [], [], [0, 6]⟩)] [0, 4, 5, 14, 1000000, 1000006] [4, 5] ⟨100, [(0, .int .i64 x1), (4, .ptr 4 0), (5, .ptr 5 0), (14, .bool (!r6)), (1000000, .elem 32 1 T0F 0 0), (1000006, .elem 20 1 T6F 0 0)], [(4, .cells 35 [.int .i64 x2, .int .i64 x3]), (5, .cells 30 [.b16 x4, .b16 x5])], [], 0⟩ (an1 (cpT (f12_ok _ hr6))) ?_
  refine thenQ_normal ?_
  refine AWp.cond (b := (!r6)) (by kernel_rfl) (fun hc1 => ?_) (fun hc1 => ?_)
  ·
    replace h := ite_tb hc1 h
    refine q2rq [] [] [6, 1000000, 1000006] [] ⟨100, [(6, .bool false), (1000000, .elem 32 1 T0F 0 0), (1000006, .elem 20 1 T6F 0 0)], [], [], 0⟩ trivial ?_
    have hret := Option.some.inj h
    subst hret
    refine AWp.le (Le.mk (s' := ⟨100, [(6, .bool false)], [], [], 0⟩) rfl rfl ⟨.refl _, trivial⟩ trivial) ?_
    refine AWp.ret ?_
    refine thenQ_ret ?_
    exact bodyQ_ret _ rfl ⟨rfl, rfl⟩ rfl
  ·
    replace h := ite_fb hc1 h
    refine AWp.skip ?_
    refine thenQ_normal ?_
    refine AWp.seq ?_
    obtain ⟨r7, hr7, h⟩ := bind_ok h
    have ob0 : 0 ≤ (0 : Int) ∧ (0 : Int) < 2 := by first | decide | omega | simp | (intro h; cases h)
    have ob1 : 0 ≤ (1 : Int) ∧ (1 : Int) < 2 := by first | decide | omega | simp | (intro h; cases h)
    refine q2rr [] [(5, ⟨[.int .i64 x1, .int .i64 x2, .int .i64 x3], [], [], [], .tup [q2aWW r7.1, .int .i64 r7.2], [], [], [0]⟩)] [0, 4, 5, 7, 8, 1000000, 1000006] [4, 5] ⟨100, [(0, .int .i64 x1), (4, .ptr 4 0), (5, .ptr 5 0), (7, q2aWW r7.1), (8, .int .i64 r7.2), (1000000, .elem 32 1 T0F 0 0), (1000006, .elem 20 1 T6F 0 0)], [(4, .cells 35 [.int .i64 x2, .int .i64 x3]), (5, .cells 30 [.b16 x4, .b16 x5])], [], 0⟩ (an3 ob0 ob1 (cpT (f20_ok _ _ _ _ hr7))) ?_
    refine thenQ_normal ?_
    refine AWp.seq ?_
    obtain ⟨r8, hr8, h⟩ := bind_ok h
    have ob2 : 0 ≤ (0 : Int) ∧ (0 : Int) < 2 := by first | decide | omega | simp | (intro h; cases h)
    have ob3 : 0 ≤ (1 : Int) ∧ (1 : Int) < 2 := by first | decide | omega | simp | (intro h; cases h)
    refine q2rr [] [(5, ⟨[.int .i64 x1, .int .i64 x2, .int .i64 x3], [], [], [], .tup [q2aWW r8.1, .int .i64 r8.2], [], [], []⟩)] [0, 4, 5, 7, 8, 9, 10, 1000000, 1000006] [4, 5] ⟨100, [(0, .int .i64 x1), (4, .ptr 4 0), (5, .ptr 5 0), (7, q2aWW r7.1), (8, .int .i64 r7.2), (9, q2aWW r8.1), (10, .int .i64 r8.2), (1000000, .elem 32 1 T0F 0 0), (1000006, .elem 20 1 T6F 0 0)], [(4, .cells 35 [.int .i64 x2, .int .i64 x3]), (5, .cells 30 [.b16 x4, .b16 x5])], [], 0⟩ (an3 ob2 ob3 (cpT (f21_ok _ _ _ _ hr8))) ?_
    refine thenQ_normal ?_
    refine AWp.seq ?_
    refine AWp.seq ?_
    obtain ⟨r9, hr9, h⟩ := optc_some h
    have ob4 : ((r7.2 != r8.2) == false) = true → ((r7.2 != r8.2) == false) = true := fun h => h
    have ob5 : ((r7.2 != r8.2) == false) = true → ((r7.2 != r8.2) == false) = true := fun h => h
    have ob6 : ((r7.2 != r8.2) == false) = true → ((r7.2 != r8.2) == false) = true := fun h => h
    have ob7 : true = true → (r7.2 != r8.2) = false → ((r7.2 != r8.2) == false) = true := fun _ h => beq_iff_eq.2 h
    have ob8 : (((r7.2 != r8.2) || (!r9)) == false) = true → (((r7.2 != r8.2) || (!r9)) == false) = true := fun h => h
    have ob9 : true = true → ((r7.2 != r8.2) || (!r9)) = false → (((r7.2 != r8.2) || (!r9)) == false) = true := fun _ h => beq_iff_eq.2 h
    refine q2rr [] [(6, ⟨[q2aWW r7.1, q2aWW r8.1], [], [], [], .bool r9, [], [], []⟩)] [0, 4, 5, 7, 8, 9, 10, 45, 1000000, 1000006] [4, 5] ⟨100, [(0, .int .i64 x1), (4, .ptr 4 0), (5, .ptr 5 0), (7, q2aWW r7.1), (8, .int .i64 r7.2), (9, q2aWW r8.1), (10, .int .i64 r8.2), (45, .bool (((r7.2 != r8.2) || (!r9)) || (r7.2 != (0 : Int)))), (1000000, .elem 32 1 T0F 0 0), (1000006, .elem 20 1 T6F 0 0)], [(4, .cells 35 [.int .i64 x2, .int .i64 x3]), (5, .cells 30 [.b16 x4, .b16 x5])], [], 0⟩ (an5 (And.intro (cpC fun hc => (f22_ok _ _ _ (hr9 hc))) (an2 ob4 ob5)) (an1 ob6) ob7 (an1 ob8) ob9) ?_
    refine thenQ_normal ?_
    refine AWp.cond (b := (((r7.2 != r8.2) || (!r9)) || (r7.2 != (0 : Int)))) (by kernel_rfl) (fun hc2 => ?_) (fun hc2 => ?_)
    ·
      replace h := ite_tb hc2 h
      refine AWp.seq ?_
      obtain ⟨r10, hr10, h⟩ := optc_some h
      have ob10 : ((r7.2 == r8.2) == true) = true → ((r7.2 == r8.2) == true) = true := fun h => h
      have ob11 : ((r7.2 == r8.2) == true) = true → ((r7.2 == r8.2) == true) = true := fun h => h
      have ob12 : true = true → (r7.2 == r8.2) = true → ((r7.2 == r8.2) == true) = true := fun _ h => beq_iff_eq.2 h
      refine q2rr [] [(6, ⟨[q2aWW r7.1, q2aWW r8.1], [], [], [], .bool r10, [], [], []⟩)] [6, 1000000, 1000006] [] ⟨100, [(6, .bool ((r7.2 == r8.2) && r10)), (1000000, .elem 32 1 T0F 0 0), (1000006, .elem 20 1 T6F 0 0)], [], [], 0⟩ (an2 (And.intro (cpC fun hc => (f22_ok _ _ _ (hr10 hc))) (an2 ob10 ob11)) ob12) ?_
      refine thenQ_normal ?_
      have hret := Option.some.inj h
      subst hret
      refine AWp.le (Le.mk (s' := ⟨100, [(6, .bool ((r7.2 == r8.2) && r10))], [], [], 0⟩) rfl rfl ⟨.refl _, trivial⟩ trivial) ?_
      refine AWp.ret ?_
      refine thenQ_ret ?_
      exact bodyQ_ret _ rfl ⟨rfl, rfl⟩ rfl
    ·
      replace h := ite_fb hc2 h
      refine AWp.skip ?_
      refine thenQ_normal ?_
      refine AWp.seq ?_
      refine AWp.seq ?_
      obtain ⟨r11, hr11, h⟩ := optc_some h
      have ob13 : ((!((x4 &&& x5) == (q2w16 0))) == false) = true → ((!((x4 &&& x5) == (q2w16 0))) == false) = true := fun h => h
      obtain ⟨ob14, h⟩ := chk_some h
      have ob15 : ((!((x4 &&& x5) == (q2w16 0))) == false) = true → ((!((x4 &&& x5) == (q2w16 0))) == false) = true := fun h => h
      have ob16 : ((!((x4 &&& x5) == (q2w16 0))) == false) = true → ((!((x4 &&& x5) == (q2w16 0))) == false) = true := fun h => h
      have ob17 : ((!((x4 &&& x5) == (q2w16 0))) == false) = true → ((!((x4 &&& x5) == (q2w16 0))) == false) = true := fun h => h
      have ob18 : true = true → (!((x4 &&& x5) == (q2w16 0))) = false → ((!((x4 &&& x5) == (q2w16 0))) == false) = true := fun _ h => beq_iff_eq.2 h
      refine q2rr [] [(8, ⟨[.agg [.b16 x4, .b16 x5]], [], [], [], .b16 r11, [], [], []⟩)] [4, 5, 7, 66, 1000000, 1000006] [4, 5] ⟨100, [(4, .ptr 4 0), (5, .ptr 5 0), (7, q2aWW r7.1), (66, .bool ((!((x4 &&& x5) == (q2w16 0))) || (decide (r11.toNat ≥ ((q2w16 1) <<< ((x1).toNat)).toNat)))), (1000000, .elem 32 1 T0F 0 0), (1000006, .elem 20 1 T6F 0 0)], [(4, .cells 35 [.int .i64 x2, .int .i64 x3]), (5, .cells 30 [.b16 x4, .b16 x5])], [], 0⟩ (an4 (And.intro (cpC fun hc => (f23_ok _ _ _ (hr11 hc))) (an1 ob13)) (And.intro ob14 (an1 ob15)) (an2 ob16 ob17) ob18) ?_
      refine thenQ_normal ?_
      refine AWp.cond (b := ((!((x4 &&& x5) == (q2w16 0))) || (decide (r11.toNat ≥ ((q2w16 1) <<< ((x1).toNat)).toNat)))) (by kernel_rfl) (fun hc3 => ?_) (fun hc3 => ?_)
      ·
        replace h := ite_tb hc3 h
        refine AWp.seq ?_
        obtain ⟨r12, hr12, h⟩ := bind_ok h
        refine q2rr [] [(1, ⟨[q2aWW r7.1], [], [], [], .int .i64 r12, [], [], []⟩)] [6, 1000000, 1000006] [] ⟨100, [(6, .bool (r12 == (0 : Int))), (1000000, .elem 32 1 T0F 0 0), (1000006, .elem 20 1 T6F 0 0)], [], [], 0⟩ (an1 (cpT (f13_ok _ _ hr12))) ?_
        refine thenQ_normal ?_
        have hret := Option.some.inj h
        subst hret
        refine AWp.le (Le.mk (s' := ⟨100, [(6, .bool (r12 == (0 : Int)))], [], [], 0⟩) rfl rfl ⟨.refl _, trivial⟩ trivial) ?_
        refine AWp.ret ?_
        refine thenQ_ret ?_
        exact bodyQ_ret _ rfl ⟨rfl, rfl⟩ rfl
      ·
        replace h := ite_fb hc3 h
        refine AWp.skip ?_
        refine thenQ_normal ?_
        refine AWp.seq ?_
        obtain ⟨r13, hr13, h⟩ := bind_ok h
        obtain ⟨r14, hr14, h⟩ := bind_ok h
        refine q2rr [] [(2, ⟨[.b16 x4], [], [], [], .int .i64 r13, [], [], []⟩), (5, ⟨[.b16 x5], [], [], [], .int .i64 r14, [], [], []⟩)] [4, 5, 7, 11, 12, 1000000, 1000006] [4, 5] ⟨100, [(4, .ptr 4 0), (5, .ptr 5 0), (7, q2aWW r7.1), (11, .int .i64 r13), (12, .int .i64 r14), (1000000, .elem 32 1 T0F 0 0), (1000006, .elem 20 1 T6F 0 0)], [(4, .cells 35 [.int .i64 x2, .int .i64 x3]), (5, .cells 30 [.b16 x4, .b16 x5])], [], 0⟩ (an2 (cpT (f24_ok _ _ hr13)) (cpT (f24_ok _ _ hr14))) ?_
        refine thenQ_normal ?_
        refine AWp.seq ?_
        obtain ⟨r15, hr15, h⟩ := bind_ok h
        obtain ⟨r16, hr16, h⟩ := optc_some h
        have ob19 : ((r15 == (0 : Int)) == true) = true → ((r15 == (0 : Int)) == true) = true := fun h => h
        have ob20 : ((r15 == (0 : Int)) == true) = true → ((r15 == (0 : Int)) == true) = true := fun h => h
        obtain ⟨ob21, h⟩ := chk_some h
        have ob22 : ((r15 == (0 : Int)) == true) = true → ((r15 == (0 : Int)) == true) = true := fun h => h
        have ob23 : ((r15 == (0 : Int)) == true) = true → ((r15 == (0 : Int)) == true) = true := fun h => h
        have ob24 : ((r15 == (0 : Int)) == true) = true → ((r15 == (0 : Int)) == true) = true := fun h => h
        have ob25 : ((r15 == (0 : Int)) == true) = true → ((r15 == (0 : Int)) == true) = true := fun h => h
        obtain ⟨ob26, h⟩ := chk_some h
        have ob27 : (((r15 == (0 : Int)) == true) && ((decide (r13 ≤ x2)) == true)) = true → (((r15 == (0 : Int)) == true) && ((decide (r13 ≤ x2)) == true)) = true := fun h => h
        have ob28 : (((r15 == (0 : Int)) == true) && ((decide (r13 ≤ x2)) == true)) = true → (((r15 == (0 : Int)) == true) && ((decide (r13 ≤ x2)) == true)) = true := fun h => h
        obtain ⟨ob29, h⟩ := chk_some h
        have ob30 : (((r15 == (0 : Int)) == true) && ((decide (r13 ≤ x2)) == true)) = true → (((r15 == (0 : Int)) == true) && ((decide (r13 ≤ x2)) == true)) = true := fun h => h
        obtain ⟨ob31, h⟩ := chk_some h
        have ob32 : (((r15 == (0 : Int)) == true) && ((decide (r13 ≤ x2)) == true)) = true → (((r15 == (0 : Int)) == true) && ((decide (r13 ≤ x2)) == true)) = true := fun h => h
        obtain ⟨ob33, h⟩ := chk_some h
        have ob34 : (((r15 == (0 : Int)) == true) && ((decide (r13 ≤ x2)) == true)) = true → (((r15 == (0 : Int)) == true) && ((decide (r13 ≤ x2)) == true)) = true := fun h => h
        have ob35 : (((r15 == (0 : Int)) == true) && ((decide (r13 ≤ x2)) == true)) = true → (((r15 == (0 : Int)) == true) && ((decide (r13 ≤ x2)) == true)) = true := fun h => h
        have ob36 : (((r15 == (0 : Int)) == true) && ((decide (r13 ≤ x2)) == true)) = true → (((r15 == (0 : Int)) == true) && ((decide (r13 ≤ x2)) == true)) = true := fun h => h
        have ob37 : (((r15 == (0 : Int)) == true) && ((decide (r13 ≤ x2)) == true)) = true → (((r15 == (0 : Int)) == true) && ((decide (r13 ≤ x2)) == true)) = true := fun h => h
        obtain ⟨ob38, h⟩ := chk_some h
        have ob39 : ((r15 == (0 : Int)) == true) = true → ((r15 == (0 : Int)) == true) = true := fun h => h
        have ob40 : ((r15 == (0 : Int)) == true) = true → ((r15 == (0 : Int)) == true) = true := fun h => h
        have ob41 : ((r15 == (0 : Int)) == true) = true → ((r15 == (0 : Int)) == true) = true := fun h => h
        have ob42 : true = true → (r15 == (0 : Int)) = true → ((r15 == (0 : Int)) == true) = true := fun _ h => beq_iff_eq.2 h
        refine q2rr [] [(1, ⟨[q2aWW r7.1], [], [], [], .int .i64 r15, [], [], []⟩), (6, ⟨[q2aWW r7.1, .agg [.b16 x4, .b16 x5]], [], [], [], .bool r16, [], [], []⟩)] [6, 1000000, 1000006] [] ⟨100, [(6, .bool ((r15 == (0 : Int)) && (r16 == ((decide (r13 ≤ x2)) && (decide ((r13 + r14) ≤ (x2 + x3))))))), (1000000, .elem 32 1 T0F 0 0), (1000006, .elem 20 1 T6F 0 0)], [], [], 0⟩ (ac6 (cpT (f13_ok _ _ hr15)) (And.intro (cpC fun hc => (f18_ok _ _ _ _ (hr16 hc))) (an2 ob19 ob20)) ob21 (an1 ob22) (an2 ob23 ob24) (an1 ob25) (ac6 (And.intro ob26 (an2 ob27 ob28)) ob29 (an1 ob30) ob31 (an1 ob32) (And.intro ob33 (an2 ob34 ob35)) (an4 (an2 ob36 ob37) (And.intro ob38 (an1 ob39)) (an2 ob40 ob41) ob42))) ?_
        refine thenQ_normal ?_
        have hret := Option.some.inj h
        subst hret
        refine AWp.le (Le.mk (s' := ⟨100, [(6, .bool ((r15 == (0 : Int)) && (r16 == ((decide (r13 ≤ x2)) && (decide ((r13 + r14) ≤ (x2 + x3)))))))], [], [], 0⟩) rfl rfl ⟨.refl _, trivial⟩ trivial) ?_
        refine AWp.ret ?_
        exact bodyQ_ret _ rfl ⟨rfl, rfl⟩ rfl
def f25_L0 (x1 : List (BitVec 16 × BitVec 16)) (K1 : Unit → Option (Int × (List (BitVec 16 × BitVec 16)))) : Nat → Nat → Option (Int × (List (BitVec 16 × BitVec 16)))
  | 0, _ => none
  | k + 1, n2 =>
    if (decide ((n2 : Int) < (((x1).length : Nat) : Int))) then (
    chk ((n2 : Int) < (((x1).length : Nat) : Int)) <|
    (f42 ((x1.getD n2 (default : BitVec 16 × BitVec 16)).1) ((x1.getD n2 (default : BitVec 16 × BitVec 16)).2)).bind fun (r3 : Int) =>
    if (r3 != (0 : Int)) then (
    some (r3, [])
    ) else (
    chk (((n2 : Int) + (1 : Int)) ≤ 9223372036854775807) <|
    (f25_L0 x1 K1 k) (n2 + 1)
    )
    ) else (
    K1 ()
    )
def f25 (x1 : List (BitVec 16 × BitVec 16)) : Option (Int × (List (BitVec 16 × BitVec 16))) :=
  if ((((x1).length : Nat) : Int) == (0 : Int)) then (
  some ((9 : Int), [])
  ) else (
  jn (fun (_ : Unit) =>
  (f54 x1).bind fun (r4 : Int × (List (BitVec 16 × BitVec 16))) =>
  some (r4.1, r4.2)
  ) fun (K1 : Unit → Option (Int × (List (BitVec 16 × BitVec 16)))) =>
  f25_L0 x1 K1 FUEL 0
  )
def f55_L1 (x1 : List (BitVec 16 × BitVec 16)) (n2 : Nat) (K3 : Bool → Option (List (BitVec 16 × BitVec 16))) : Nat → (Bool × Nat) → Option (List (BitVec 16 × BitVec 16))
  | 0, _ => none
  | k + 1, (b4, n5) =>
    if (decide ((n5 : Int) < (((x1).length : Nat) : Int))) then (
    jn (fun (b7 : Bool) =>
    chk (((n5 : Int) + (1 : Int)) ≤ 9223372036854775807) <|
    (f55_L1 x1 n2 K3 k) (b7, (n5 + 1))
    ) fun (K4 : Bool → Option (List (BitVec 16 × BitVec 16))) =>
    (f17 ((x1.getD n5 (default : BitVec 16 × BitVec 16)).1) ((x1.getD n5 (default : BitVec 16 × BitVec 16)).2) ((x1.getD n2 (default : BitVec 16 × BitVec 16)).1) ((x1.getD n2 (default : BitVec 16 × BitVec 16)).2)).bind fun (r6 : Bool) =>
    chk ((n5 : Int) < (((x1).length : Nat) : Int)) <|
    chk ((n2 : Int) < (((x1).length : Nat) : Int)) <|
    chk ((r6 == true) = true → 0 ≤ (n5 : Int) ∧ (n5 : Int) < (((x1).length : Nat) : Int)) <|
    chk ((r6 == true) = true → 0 ≤ (n2 : Int) ∧ (n2 : Int) < (((x1).length : Nat) : Int)) <|
    chk ((r6 == true) = true → (r6 == true) = true → (!((((x1.getD n5 (default : BitVec 16 × BitVec 16)).1) == ((x1.getD n2 (default : BitVec 16 × BitVec 16)).1)) && ((((x1.getD n5 (default : BitVec 16 × BitVec 16)).2) == ((x1.getD n2 (default : BitVec 16 × BitVec 16)).2)) && true))) = false → ((r6 == true) && ((!((((x1.getD n5 (default : BitVec 16 × BitVec 16)).1) == ((x1.getD n2 (default : BitVec 16 × BitVec 16)).1)) && ((((x1.getD n5 (default : BitVec 16 × BitVec 16)).2) == ((x1.getD n2 (default : BitVec 16 × BitVec 16)).2)) && true))) == false)) = true) <|
    if (r6 && ((!((((x1.getD n5 (default : BitVec 16 × BitVec 16)).1) == ((x1.getD n2 (default : BitVec 16 × BitVec 16)).1)) && ((((x1.getD n5 (default : BitVec 16 × BitVec 16)).2) == ((x1.getD n2 (default : BitVec 16 × BitVec 16)).2)) && true))) || (decide ((n5 : Int) < (n2 : Int))))) then (
    K4 false
    ) else (
    K4 b4
    )
    ) else (
    K3 b4
    )
def f55_L2 (x1 : List (BitVec 16 × BitVec 16)) (n2 : Nat) (K5 : (Nat × (List (BitVec 16 × BitVec 16))) → Option (List (BitVec 16 × BitVec 16))) : Nat → (Nat × (List (BitVec 16 × BitVec 16))) → Option (List (BitVec 16 × BitVec 16))
  | 0, _ => none
  | k + 1, (n10, l11) =>
    optc ((decide ((n10 : Int) < (((l11).length : Nat) : Int))) == true) (f45 ((l11.getD n10 (default : BitVec 16 × BitVec 16)).1) ((l11.getD n10 (default : BitVec 16 × BitVec 16)).2) ((x1.getD n2 (default : BitVec 16 × BitVec 16)).1) ((x1.getD n2 (default : BitVec 16 × BitVec 16)).2)) fun (r12 : Int) =>
    chk (((decide ((n10 : Int) < (((l11).length : Nat) : Int))) == true) = true → 0 ≤ (n10 : Int) ∧ (n10 : Int) < (((l11).length : Nat) : Int)) <|
    chk (((decide ((n10 : Int) < (((l11).length : Nat) : Int))) == true) = true → n10 < (l11).length) <|
    chk (((decide ((n10 : Int) < (((l11).length : Nat) : Int))) == true) = true → 0 ≤ (n2 : Int) ∧ (n2 : Int) < (((x1).length : Nat) : Int)) <|
    if ((decide ((n10 : Int) < (((l11).length : Nat) : Int))) && (decide (r12 < (0 : Int)))) then (
    chk (((n10 : Int) + (1 : Int)) ≤ 9223372036854775807) <|
    (f55_L2 x1 n2 K5 k) ((n10 + 1), l11)
    ) else (
    K5 (n10, l11)
    )
def f55_L0 (x1 : List (BitVec 16 × BitVec 16)) (K1 : (List (BitVec 16 × BitVec 16)) → Option (List (BitVec 16 × BitVec 16))) : Nat → (Nat × (List (BitVec 16 × BitVec 16))) → Option (List (BitVec 16 × BitVec 16))
  | 0, _ => none
  | k + 1, (n2, l3) =>
    if (decide ((n2 : Int) < (((x1).length : Nat) : Int))) then (
    jn (fun (l9 : List (BitVec 16 × BitVec 16)) =>
    chk (((n2 : Int) + (1 : Int)) ≤ 9223372036854775807) <|
    (f55_L0 x1 K1 k) ((n2 + 1), l9)
    ) fun (K2 : (List (BitVec 16 × BitVec 16)) → Option (List (BitVec 16 × BitVec 16))) =>
    jn (fun (b8 : Bool) =>
    if (!b8) then (
    K2 l3
    ) else (
    jn (fun ((n13, l14) : Nat × (List (BitVec 16 × BitVec 16))) =>
    chk ((n13 : Int) ≤ (((l14).length : Nat) : Int)) <|
    chk ((0 + n13) * 4 ≤ 140737488355328) <|
    chk ((n2 : Int) < (((x1).length : Nat) : Int)) <|
    chk ((((l14.take n13)).length + 1) * 4 ≤ 140737488355328) <|
    chk ((n13 : Int) ≤ (((l14).length : Nat) : Int)) <|
    chk (((((l14.take n13) ++ [((x1.getD n2 (default : BitVec 16 × BitVec 16)).1, (x1.getD n2 (default : BitVec 16 × BitVec 16)).2)])).length + ((l14).length - n13)) * 4 ≤ 140737488355328) <|
    K2 (((l14.take n13) ++ [((x1.getD n2 (default : BitVec 16 × BitVec 16)).1, (x1.getD n2 (default : BitVec 16 × BitVec 16)).2)]) ++ (l14.drop n13))
    ) fun (K5 : (Nat × (List (BitVec 16 × BitVec 16))) → Option (List (BitVec 16 × BitVec 16))) =>
    f55_L2 x1 n2 K5 FUEL (0, l3)
    )
    ) fun (K3 : Bool → Option (List (BitVec 16 × BitVec 16))) =>
    f55_L1 x1 n2 K3 FUEL (true, 0)
    ) else (
    K1 l3
    )
def f55 (x1 : List (BitVec 16 × BitVec 16)) : Option (List (BitVec 16 × BitVec 16)) :=
  jn (fun (l15 : List (BitVec 16 × BitVec 16)) =>
  some l15
  ) fun (K1 : (List (BitVec 16 × BitVec 16)) → Option (List (BitVec 16 × BitVec 16))) =>
  f55_L0 x1 K1 FUEL (0, [])
def f26_L0 (x1 : List (BitVec 16 × BitVec 16)) (K1 : Unit → Option ((List (BitVec 16 × BitVec 16)) × Int)) : Nat → Nat → Option ((List (BitVec 16 × BitVec 16)) × Int)
  | 0, _ => none
  | k + 1, n2 =>
    if (decide ((n2 : Int) < (((x1).length : Nat) : Int))) then (
    (f44 ((x1.getD n2 (default : BitVec 16 × BitVec 16)).1) ((x1.getD n2 (default : BitVec 16 × BitVec 16)).2)).bind fun (r3 : Int) =>
    chk ((n2 : Int) < (((x1).length : Nat) : Int)) <|
    if (r3 != (0 : Int)) then (
    some ([], r3)
    ) else (
    chk (((n2 : Int) + (1 : Int)) ≤ 9223372036854775807) <|
    (f26_L0 x1 K1 k) (n2 + 1)
    )
    ) else (
    K1 ()
    )
def f26 (x1 : List (BitVec 16 × BitVec 16)) : Option ((List (BitVec 16 × BitVec 16)) × Int) :=
  if ((((x1).length : Nat) : Int) == (0 : Int)) then (
  some ([], (9 : Int))
  ) else (
  jn (fun (_ : Unit) =>
  (f55 x1).bind fun (r4 : List (BitVec 16 × BitVec 16)) =>
  (f52 r4).bind fun (r5 : (List (BitVec 16 × BitVec 16)) × Int) =>
  some (r5.1, r5.2)
  ) fun (K1 : Unit → Option ((List (BitVec 16 × BitVec 16)) × Int)) =>
  f26_L0 x1 K1 FUEL 0
  )
def f6 (x1 : List (BitVec 16 × BitVec 16)) (x2 : BitVec 16) (x3 : BitVec 16) : Option Bool :=
  (f12 ).bind fun (r4 : Bool) =>
  if ((!r4) || (decide ((((x1).length : Nat) : Int) > (40 : Int)))) then (
  (f12 ).bind fun (r5 : Bool) =>
  some r5
  ) else (
  (f14 x1).bind fun (r6 : List (BitVec 16 × BitVec 16)) =>
  (f25 r6).bind fun (r7 : Int × (List (BitVec 16 × BitVec 16))) =>
  (f26 x1).bind fun (r8 : (List (BitVec 16 × BitVec 16)) × Int) =>
  optc ((r7.1 != r8.2) == false) (f22 r7.2 r8.1) fun (r9 : Bool) =>
  if (((r7.1 != r8.2) || (!r9)) || (r7.1 != (0 : Int))) then (
  optc ((r7.1 == r8.2) == true) (f22 r7.2 r8.1) fun (r10 : Bool) =>
  some ((r7.1 == r8.2) && r10)
  ) else (
  (f13 r7.2).bind fun (r11 : Int) =>
  optc ((r11 == (0 : Int)) == true) (f18 r7.2 x2 x3) fun (r12 : Bool) =>
  optc ((r11 == (0 : Int)) == true) (f19 x1 x2 x3) fun (r13 : Bool) =>
  some ((r11 == (0 : Int)) && (r12 == r13))
  )
  )
def f28_L1 (x1 : List (BitVec 16 × BitVec 16)) (x2 : List (BitVec 16 × BitVec 16)) (n5 : Nat) (K2 : (List (BitVec 16 × BitVec 16)) → Option ((List (BitVec 16 × BitVec 16)) × Int)) : Nat → (Nat × (List (BitVec 16 × BitVec 16))) → Option ((List (BitVec 16 × BitVec 16)) × Int)
  | 0, _ => none
  | k + 1, (n7, l8) =>
    if (decide ((n7 : Int) < (((x2).length : Nat) : Int))) then (
    chk ((n5 : Int) < (((x1).length : Nat) : Int)) <|
    chk ((n7 : Int) < (((x2).length : Nat) : Int)) <|
    (f23 ((x1.getD n5 (default : BitVec 16 × BitVec 16)).1) ((x1.getD n5 (default : BitVec 16 × BitVec 16)).2)).bind fun (r9 : BitVec 16) =>
    (f23 ((x2.getD n7 (default : BitVec 16 × BitVec 16)).1) ((x2.getD n7 (default : BitVec 16 × BitVec 16)).2)).bind fun (r10 : BitVec 16) =>
    chk ((n5 : Int) < (((x1).length : Nat) : Int)) <|
    chk ((n7 : Int) < (((x2).length : Nat) : Int)) <|
    chk (((l8).length + 1) * 4 ≤ 140737488355328) <|
    chk (((n7 : Int) + (1 : Int)) ≤ 9223372036854775807) <|
    (f28_L1 x1 x2 n5 K2 k) ((n7 + 1), (l8 ++ [(((x1.getD n5 (default : BitVec 16 × BitVec 16)).1 &&& (x2.getD n7 (default : BitVec 16 × BitVec 16)).1), ((r9 &&& r10) &&& ~~~((x1.getD n5 (default : BitVec 16 × BitVec 16)).1 &&& (x2.getD n7 (default : BitVec 16 × BitVec 16)).1)))]))
    ) else (
    K2 l8
    )
def f28_L0 (x1 : List (BitVec 16 × BitVec 16)) (x2 : List (BitVec 16 × BitVec 16)) (K1 : (List (BitVec 16 × BitVec 16)) → Option ((List (BitVec 16 × BitVec 16)) × Int)) : Nat → (Nat × (List (BitVec 16 × BitVec 16))) → Option ((List (BitVec 16 × BitVec 16)) × Int)
  | 0, _ => none
  | k + 1, (n5, l6) =>
    if (decide ((n5 : Int) < (((x1).length : Nat) : Int))) then (
    jn (fun (l11 : List (BitVec 16 × BitVec 16)) =>
    chk (((n5 : Int) + (1 : Int)) ≤ 9223372036854775807) <|
    (f28_L0 x1 x2 K1 k) ((n5 + 1), l11)
    ) fun (K2 : (List (BitVec 16 × BitVec 16)) → Option ((List (BitVec 16 × BitVec 16)) × Int)) =>
    f28_L1 x1 x2 n5 K2 FUEL (0, l6)
    ) else (
    K1 l6
    )
def f28 (x1 : List (BitVec 16 × BitVec 16)) (x2 : List (BitVec 16 × BitVec 16)) : Option ((List (BitVec 16 × BitVec 16)) × Int) :=
  (f15 x1).bind fun (r3 : Int) =>
  if (r3 != (0 : Int)) then (
  some ([], r3)
  ) else (
  (f15 x2).bind fun (r4 : Int) =>
  if (r4 != (0 : Int)) then (
  some ([], r4)
  ) else (
  jn (fun (l12 : List (BitVec 16 × BitVec 16)) =>
  (f55 l12).bind fun (r13 : List (BitVec 16 × BitVec 16)) =>
  (f52 r13).bind fun (r14 : (List (BitVec 16 × BitVec 16)) × Int) =>
  some (r14.1, r14.2)
  ) fun (K1 : (List (BitVec 16 × BitVec 16)) → Option ((List (BitVec 16 × BitVec 16)) × Int)) =>
  f28_L0 x1 x2 K1 FUEL (0, [])
  )
  )
def f82 (x1 : Int) : Option (List (BitVec 16 × BitVec 16)) :=
  if (decide (x1 < (0 : Int))) then (
  none
  ) else (
  jn (fun (l2 : List (BitVec 16 × BitVec 16)) =>
  some l2
  ) fun (K1 : (List (BitVec 16 × BitVec 16)) → Option (List (BitVec 16 × BitVec 16))) =>
  chk (-9223372036854775808 ≤ (x1 - (0 : Int)) ∧ (x1 - (0 : Int)) ≤ 9223372036854775807) <|
  if (decide ((x1 - (0 : Int)) > (0 : Int))) then (
  chk (0 < (x1 - (0 : Int)) ∧ (x1 - (0 : Int)) * (4 : Int) ≤ 140737488355328 ∧ (x1 - (0 : Int)) ≤ 4611686018427387904) <|
  chk ((0 : Int) ≤ (((((x1 - (0 : Int))).toNat) : Nat) : Int)) <|
  chk (0 ≤ (List.replicate (((x1 - (0 : Int))).toNat) ((BitVec.ofInt 16 0), (BitVec.ofInt 16 0))).length) <|
  K1 ((List.replicate (((x1 - (0 : Int))).toNat) ((BitVec.ofInt 16 0), (BitVec.ofInt 16 0))).take 0)
  ) else (
  K1 []
  )
  )
def f57_L0 (x1 : List (List (BitVec 16 × BitVec 16))) (K1 : Nat → Option (List (BitVec 16 × BitVec 16))) : Nat → (Nat × Nat) → Option (List (BitVec 16 × BitVec 16))
  | 0, _ => none
  | k + 1, (n2, n3) =>
    if (decide ((n3 : Int) < (((x1).length : Nat) : Int))) then (
    chk ((n3 : Int) < (((x1).length : Nat) : Int)) <|
    chk (((n2 : Int) + ((((x1.getD n3 [])).length : Nat) : Int)) ≤ 9223372036854775807) <|
    if (decide ((((n2 + ((x1.getD n3 [])).length) : Nat) : Int) < (0 : Int))) then (
    none
    ) else (
    chk (((n3 : Int) + (1 : Int)) ≤ 9223372036854775807) <|
    (f57_L0 x1 K1 k) ((n2 + ((x1.getD n3 [])).length), (n3 + 1))
    )
    ) else (
    K1 n2
    )
def f57_L1 (x1 : List (List (BitVec 16 × BitVec 16))) (K2 : (List (BitVec 16 × BitVec 16)) → Option (List (BitVec 16 × BitVec 16))) : Nat → (Nat × (List (BitVec 16 × BitVec 16))) → Option (List (BitVec 16 × BitVec 16))
  | 0, _ => none
  | k + 1, (n6, l7) =>
    if (decide ((n6 : Int) < (((x1).length : Nat) : Int))) then (
    chk ((n6 : Int) < (((x1).length : Nat) : Int)) <|
    chk (((l7).length + ((x1.getD n6 [])).length) * 4 ≤ 140737488355328) <|
    chk (((n6 : Int) + (1 : Int)) ≤ 9223372036854775807) <|
    (f57_L1 x1 K2 k) ((n6 + 1), (l7 ++ (x1.getD n6 [])))
    ) else (
    K2 l7
    )
def f57 (x1 : List (List (BitVec 16 × BitVec 16))) : Option (List (BitVec 16 × BitVec 16)) :=
  jn (fun (n4 : Nat) =>
  (f82 (n4 : Int)).bind fun (r5 : List (BitVec 16 × BitVec 16)) =>
  jn (fun (l8 : List (BitVec 16 × BitVec 16)) =>
  some l8
  ) fun (K2 : (List (BitVec 16 × BitVec 16)) → Option (List (BitVec 16 × BitVec 16))) =>
  f57_L1 x1 K2 FUEL (0, r5)
  ) fun (K1 : Nat → Option (List (BitVec 16 × BitVec 16))) =>
  f57_L0 x1 K1 FUEL (0, 0)
def f29 (x1 : List (BitVec 16 × BitVec 16)) (x2 : List (BitVec 16 × BitVec 16)) : Option (Int × (List (BitVec 16 × BitVec 16))) :=
  (f56 x1 x2).bind fun (r3 : Int) =>
  if (r3 != (0 : Int)) then (
  some (r3, [])
  ) else (
  (f57 [x1, x2]).bind fun (r4 : List (BitVec 16 × BitVec 16)) =>
  (f54 r4).bind fun (r5 : Int × (List (BitVec 16 × BitVec 16))) =>
  some (r5.1, r5.2)
  )
end Go.Abs
