/- X08, part 3. -/
import Derived.Test.YtncjecbhohcfoaaDoorX08P2
namespace Go.Abs
open Go Go.Proofs
set_option maxHeartbeats 4000000
set_option maxRecDepth 100000 in
theorem f57_ok (C70002 : YC) (Y70002 : (List (BitVec 16) × Int × Int × List (BitVec 16)) → (BitVec 16) → Option (Nat × (List (BitVec 16) × Int × Int × List (BitVec 16)))) (x1 : List (BitVec 16)) (x2 : Int) (x3 : Int) (x4 : List (BitVec 16)) (r : Nat × List (BitVec 16) × Int × Int × List (BitVec 16)) (h : f57 Y70002 x1 x2 x3 x4 = some r) (hY70002 : ∀ s x r, Y70002 s x = some r → YSpec Tryd.prog 70002 [5, 7] C70002 [3, 5, 7, 6001, 6002] [(3, .cells 22 [vL 1 eW 0#16 s.1]), (5, .cells 5 [.int .u8 s.2.1]), (7, .cells 22 [.own 6200]), (6001, .cells 3 [.int .i64 s.2.2.1]), (6002, .cells 48 [.fn (.func 35) [.ptr 3 0]]), (6200, bL 28 1 eW 0#16 s.2.2.2)] [.b16 x] r.1 [(3, .cells 22 [vL 1 eW 0#16 r.2.1]), (5, .cells 5 [.int .u8 r.2.2.1]), (7, .cells 22 [.own 6200]), (6001, .cells 3 [.int .i64 r.2.2.2.1]), (6002, .cells 48 [.fn (.func 35) [.ptr 3 0]]), (6200, bL 28 1 eW 0#16 r.2.2.2.2)]) : Spec1 Tryd.prog 57 [(0, .elem 32 1 T0F 0 0)] [70002, 3, 5, 7, 6001, 6002] [(70002, .yld (some ([5, 7], C70002)) 0), (3, .cells 22 [vL 1 eW 0#16 x1]), (5, .cells 5 [.int .u8 x2]), (7, .cells 22 [.own 6200]), (6001, .cells 3 [.int .i64 x3]), (6002, .cells 48 [.fn (.func 35) [.ptr 3 0]]), (6200, bL 28 1 eW 0#16 x4)] [.own 70002, .ptr 6001 0, .ptr 6002 0] (.tup []) [(70002, .yld (some ([5, 7], C70002)) r.1), (3, .cells 22 [vL 1 eW 0#16 r.2.1]), (5, .cells 5 [.int .u8 r.2.2.1]), (7, .cells 22 [.own 6200]), (6001, .cells 3 [.int .i64 r.2.2.2.1]), (6002, .cells 48 [.fn (.func 35) [.ptr 3 0]]), (6200, bL 28 1 eW 0#16 r.2.2.2.2)] := by
  unfold f57 at h
  refine Spec1.body 10000 _ _ Tryd.func57 rfl Tryd.ntmps57 rfl rfl ?_
  refine AWp.seq ?_
  refine AWp.regC [] [] [1, 2, 3, 1000000] [3, 5, 7, 6001, 6002, 6200, 10003, 70002] ⟨34, [(1, .ptr 6001 0), (2, .ptr 6002 0), (3, .ptr 10003 0), (1000000, .elem 32 1 T0F 0 0)], [(3, .cells 22 [vL 1 eW 0#16 x1]), (5, .cells 5 [.int .u8 x2]), (7, .cells 22 [.own 6200]), (6001, .cells 3 [.int .i64 x3]), (6002, .cells 48 [.fn (.func 35) [.ptr 3 0]]), (6200, bL 28 1 eW 0#16 x4), (10003, .cells 48 [.own 70002]), (70002, .yld (some ([5, 7], C70002)) 0)], [70002, 3, 5, 7, 6001, 6002], 10000⟩ (True) Tryd_mixed (by kernel_rfl) trivial ?_
  refine thenQ_normal ?_
  refine AWp.seq ?_
  refine AWp.seq ?_
  have ob0 : ((decide (x3 < (0 : Int))) == false) = true → ((decide (x3 < (0 : Int))) == false) = true := fun h => h
  have ob1 : true = true → (decide (x3 < (0 : Int))) = false → ((decide (x3 < (0 : Int))) == false) = true := fun _ h => beq_iff_eq.2 h
  refine AWp.regC [] [] [1, 2, 3, 11, 1000000] [3, 5, 7, 6001, 6002, 6200, 10003, 70002] ⟨34, [(1, .ptr 6001 0), (2, .ptr 6002 0), (3, .ptr 10003 0), (11, .bool ((decide (x3 < (0 : Int))) || (decide (x3 > (12 : Int))))), (1000000, .elem 32 1 T0F 0 0)], [(3, .cells 22 [vL 1 eW 0#16 x1]), (5, .cells 5 [.int .u8 x2]), (7, .cells 22 [.own 6200]), (6001, .cells 3 [.int .i64 x3]), (6002, .cells 48 [.fn (.func 35) [.ptr 3 0]]), (6200, bL 28 1 eW 0#16 x4), (10003, .cells 48 [.own 70002]), (70002, .yld (some ([5, 7], C70002)) 0)], [70002, 3, 5, 7, 6001, 6002], 10000⟩ (((((decide (x3 < (0 : Int))) == false) = true → ((decide (x3 < (0 : Int))) == false) = true) ∧ True) ∧ (true = true → (decide (x3 < (0 : Int))) = false → ((decide (x3 < (0 : Int))) == false) = true) ∧ True) Tryd_mixed (by kernel_rfl) ⟨⟨ob0, trivial⟩, ob1, trivial⟩ ?_
  refine thenQ_normal ?_
  refine AWp.cond (b := ((decide (x3 < (0 : Int))) || (decide (x3 > (12 : Int))))) (by kernel_rfl) (fun hc1 => ?_) (fun hc1 => ?_)
  ·
    replace h := ite_tb hc1 h
    have hret := Option.some.inj h
    subst hret
    refine AWp.le (Le.mk (s := ⟨34, [(1, .ptr 6001 0), (2, .ptr 6002 0), (3, .ptr 10003 0), (11, .bool ((decide (x3 < (0 : Int))) || (decide (x3 > (12 : Int))))), (1000000, .elem 32 1 T0F 0 0)], [(3, .cells 22 [vL 1 eW 0#16 x1]), (5, .cells 5 [.int .u8 x2]), (7, .cells 22 [.own 6200]), (6001, .cells 3 [.int .i64 x3]), (6002, .cells 48 [.fn (.func 35) [.ptr 3 0]]), (6200, bL 28 1 eW 0#16 x4), (10003, .cells 48 [.own 70002]), (70002, .yld (some ([5, 7], C70002)) 0)], [70002, 3, 5, 7, 6001, 6002], 10000⟩) (s' := ⟨34, [], [(70002, .yld (some ([5, 7], C70002)) 0), (3, .cells 22 [vL 1 eW 0#16 x1]), (5, .cells 5 [.int .u8 x2]), (7, .cells 22 [.own 6200]), (6001, .cells 3 [.int .i64 x3]), (6002, .cells 48 [.fn (.func 35) [.ptr 3 0]]), (6200, bL 28 1 eW 0#16 x4)], [70002, 3, 5, 7, 6001, 6002], 10000⟩) rfl rfl trivial ⟨⟨_, rfl, .refl _⟩, ⟨_, rfl, .refl _⟩, ⟨_, rfl, .refl _⟩, ⟨_, rfl, .refl _⟩, ⟨_, rfl, .refl _⟩, ⟨_, rfl, .refl _⟩, ⟨_, rfl, .refl _⟩, trivial⟩) ?_
    refine AWp.ret ?_
    refine thenQ_ret ?_
    exact bodyQ_ret _ rfl ⟨rfl, rfl⟩ rfl
  ·
    replace h := ite_fb hc1 h
    refine AWp.skip ?_
    refine thenQ_normal ?_
    refine AWp.seq ?_
    refine AWp.regC [] [] [1, 2, 3, 4, 1000000] [3, 5, 7, 6001, 6002, 6200, 10003, 10004, 70002] ⟨34, [(1, .ptr 6001 0), (2, .ptr 6002 0), (3, .ptr 10003 0), (4, .ptr 10004 0), (1000000, .elem 32 1 T0F 0 0)], [(3, .cells 22 [vL 1 eW 0#16 x1]), (5, .cells 5 [.int .u8 x2]), (7, .cells 22 [.own 6200]), (6001, .cells 3 [.int .i64 x3]), (6002, .cells 48 [.fn (.func 35) [.ptr 3 0]]), (6200, bL 28 1 eW 0#16 x4), (10003, .cells 48 [.own 70002]), (10004, .cells 22 [.nils]), (70002, .yld (some ([5, 7], C70002)) 0)], [70002, 3, 5, 7, 6001, 6002], 10000⟩ (True) Tryd_mixed (by kernel_rfl) trivial ?_
    refine thenQ_normal ?_
    refine AWp.seq ?_
    obtain ⟨r5, hr5, h⟩ := bind_ok h
    obtain ⟨ob2, h⟩ := chk_some h
    refine AWp.regC [] [(3, ⟨[.b16 (((BitVec.ofInt 16 1) <<< ((x3).toNat)) - (BitVec.ofInt 16 1))], [], [], [(16001, .cells 28 [.b16 r5])], .fn (.func 74) [.ptr 16001 0], [16001], [], []⟩)] [2, 3, 4, 15, 1000000] [3, 5, 7, 6001, 6002, 6200, 10003, 10004, 16001, 70002] ⟨34, [(2, .ptr 6002 0), (3, .ptr 10003 0), (4, .ptr 10004 0), (15, .fn (.func 74) [.ptr 16001 0]), (1000000, .elem 32 1 T0F 0 0)], [(3, .cells 22 [vL 1 eW 0#16 x1]), (5, .cells 5 [.int .u8 x2]), (7, .cells 22 [.own 6200]), (6001, .cells 3 [.int .i64 x3]), (6002, .cells 48 [.fn (.func 35) [.ptr 3 0]]), (6200, bL 28 1 eW 0#16 x4), (10003, .cells 48 [.own 70002]), (10004, .cells 22 [.nils]), (16001, .cells 28 [.b16 r5]), (70002, .yld (some ([5, 7], C70002)) 0)], [70002, 3, 5, 7, 6001, 6002], 10000⟩ ((0 ≤ x3) ∧ (True) ∧ (callP Tryd.prog true 58 [] [] [] [] [] [.b16 (((BitVec.ofInt 16 1) <<< ((x3).toNat)) - (BitVec.ofInt 16 1))] [.b16 (((BitVec.ofInt 16 1) <<< ((x3).toNat)) - (BitVec.ofInt 16 1))] (.fn (.func 74) [.ptr 16001 0]) [(16001, .cells 28 [.b16 r5])]) ∧ True) Tryd_mixed (by kernel_rfl) ⟨ob2, trivial, ⟨fun _ => (Spec1.ren (swapN 3500 16001) (swapN_inv 3500 16001) rfl (f58_ok (((BitVec.ofInt 16 1) <<< ((x3).toNat)) - (BitVec.ofInt 16 1)) r5 hr5)), fun _ => ⟨.refl _, trivial⟩, .inl rfl⟩, trivial⟩ ?_
    refine thenQ_normal ?_
    refine AWp.block ?_
    refine AWp.le (Le.trans (Le.trans (Le.nilOwnC (s := ⟨34, [(2, .ptr 6002 0), (3, .ptr 10003 0), (4, .ptr 10004 0), (15, .fn (.func 74) [.ptr 16001 0]), (1000000, .elem 32 1 T0F 0 0)], [(3, .cells 22 [vL 1 eW 0#16 x1]), (5, .cells 5 [.int .u8 x2]), (7, .cells 22 [.own 6200]), (6001, .cells 3 [.int .i64 x3]), (6002, .cells 48 [.fn (.func 35) [.ptr 3 0]]), (6200, bL 28 1 eW 0#16 x4), (10003, .cells 48 [.own 70002]), (10004, .cells 22 [.nils]), (16001, .cells 28 [.b16 r5]), (70002, .yld (some ([5, 7], C70002)) 0)], [70002, 3, 5, 7, 6001, 6002], 10000⟩) 10004 0 5900 28 1 (encF eW 0#16 []) rfl rfl rfl) (Le.mk (s' := ⟨34, [(2, .ptr 6002 0), (3, .ptr 10003 0), (4, .ptr 10004 0), (15, .fn (.func 74) [.ptr 16001 0]), (1000000, .elem 32 1 T0F 0 0)], [(3, .cells 22 [vL 1 eW 0#16 x1]), (5, .cells 5 [.int .u8 x2]), (7, .cells 22 [.own 6200]), (6001, .cells 3 [.int .i64 x3]), (6002, .cells 48 [.fn (.func 35) [.ptr 3 0]]), (6200, bL 28 1 eW 0#16 x4), (10003, .cells 48 [.own 70002]), (10004, .cells 22 [.own 5900]), (16001, .cells 28 [.b16 r5]), (70002, .yld (some ([5, 7], C70002)) 0), (5900, bL 28 1 eW 0#16 [])], [70002, 3, 5, 7, 6001, 6002], 10000⟩) rfl rfl ⟨.refl _, .refl _, .refl _, .refl _, .refl _, trivial⟩ ⟨⟨_, rfl, .refl _⟩, ⟨_, rfl, .refl _⟩, ⟨_, rfl, .refl _⟩, ⟨_, rfl, .refl _⟩, ⟨_, rfl, .refl _⟩, ⟨_, rfl, .refl _⟩, ⟨_, rfl, .refl _⟩, ⟨_, rfl, .refl _⟩, ⟨_, rfl, .refl _⟩, ⟨_, rfl, .refl _⟩, ⟨_, rfl, .refl _⟩, trivial⟩)) (Le.mk (s := ⟨34, [(2, .ptr 6002 0), (3, .ptr 10003 0), (4, .ptr 10004 0), (15, .fn (.func 74) [.ptr 16001 0]), (1000000, .elem 32 1 T0F 0 0)], [(3, .cells 22 [vL 1 eW 0#16 x1]), (5, .cells 5 [.int .u8 x2]), (7, .cells 22 [.own 6200]), (6001, .cells 3 [.int .i64 x3]), (6002, .cells 48 [.fn (.func 35) [.ptr 3 0]]), (6200, bL 28 1 eW 0#16 x4), (10003, .cells 48 [.own 70002]), (10004, .cells 22 [.own 5900]), (16001, .cells 28 [.b16 r5]), (70002, .yld (some ([5, 7], C70002)) 0), (5900, bL 28 1 eW 0#16 [])], [70002, 3, 5, 7, 6001, 6002], 10000⟩) (s' := ⟨34, [(2, .ptr 6002 0), (3, .ptr 10003 0), (4, .ptr 10004 0), (15, .fn (.func 74) [.ptr 16001 0]), (1000000, .elem 32 1 T0F 0 0)], [(3, .cells 22 [vL 1 eW 0#16 x1]), (5, .cells 5 [.int .u8 x2]), (7, .cells 22 [.own 6200]), (5900, bL 28 1 eW 0#16 []), (6001, .cells 3 [.int .i64 x3]), (6002, .cells 48 [.fn (.func 35) [.ptr 3 0]]), (6200, bL 28 1 eW 0#16 x4), (10003, .cells 48 [.own 70002]), (10004, .cells 22 [.own 5900]), (16001, .cells 28 [.b16 r5]), (70002, .yld (some ([5, 7], C70002)) 0)], [70002, 3, 5, 7, 6001, 6002], 10000⟩) rfl rfl ⟨.refl _, .refl _, .refl _, .refl _, .refl _, trivial⟩ ⟨⟨_, rfl, .refl _⟩, ⟨_, rfl, .refl _⟩, ⟨_, rfl, .refl _⟩, ⟨_, rfl, .refl _⟩, ⟨_, rfl, .refl _⟩, ⟨_, rfl, .refl _⟩, ⟨_, rfl, .refl _⟩, ⟨_, rfl, .refl _⟩, ⟨_, rfl, .refl _⟩, ⟨_, rfl, .refl _⟩, ⟨_, rfl, .refl _⟩, trivial⟩)) ?_
    obtain ⟨r17, hr17, h⟩ := bind_ok h
    obtain ⟨hkr17, h⟩ := chk_some h
    refine AWp.rangeFunc (s := ⟨34, [(2, .ptr 6002 0), (3, .ptr 10003 0), (4, .ptr 10004 0), (15, .fn (.func 74) [.ptr 16001 0]), (1000000, .elem 32 1 T0F 0 0)], [(3, .cells 22 [vL 1 eW 0#16 x1]), (5, .cells 5 [.int .u8 x2]), (7, .cells 22 [.own 6200]), (5900, bL 28 1 eW 0#16 []), (6001, .cells 3 [.int .i64 x3]), (6002, .cells 48 [.fn (.func 35) [.ptr 3 0]]), (6200, bL 28 1 eW 0#16 x4), (10003, .cells 48 [.own 70002]), (10004, .cells 22 [.own 5900]), (16001, .cells 28 [.b16 r5]), (70002, .yld (some ([5, 7], C70002)) 0)], [70002, 3, 5, 7, 6001, 6002], 10000⟩) 70003 [6002, 10003, 10004] [2, 3, 4, 1000000] [.ret] 74 [.ptr 16001 0] ⟨[.own 70003, .ptr 16001 0], [3, 5, 7, 5900, 6001, 6002, 6200, 10003, 10004, 16001, 70002], [70003, 3, 5, 7, 6001, 6002, 10003, 10004, 16001, 70002], [], .tup [], [5900, 6200], [], [0]⟩ r17.1 [(3, .cells 22 [vL 1 eW 0#16 r17.2.1]), (5, .cells 5 [.int .u8 r17.2.2.1]), (7, .cells 22 [.own 6200]), (5900, bL 28 1 eW 0#16 r17.2.2.2.1), (6001, .cells 3 [.int .i64 r17.2.2.2.2.1]), (6002, .cells 48 [.fn (.func 35) [.ptr 3 0]]), (6200, bL 28 1 eW 0#16 r17.2.2.2.2.2.1), (10003, .cells 48 [.own 70002]), (10004, .cells 22 [.own 5900]), (16001, .cells 28 [.b16 r17.2.2.2.2.2.2.1]), (70002, .yld (some ([5, 7], C70002)) r17.2.2.2.2.2.2.2)] ⟨34, [(2, .ptr 6002 0), (3, .ptr 10003 0), (4, .ptr 10004 0), (15, .fn (.func 74) [.ptr 16001 0]), (1000000, .elem 32 1 T0F 0 0)], [(3, .cells 22 [vL 1 eW 0#16 r17.2.1]), (5, .cells 5 [.int .u8 r17.2.2.1]), (7, .cells 22 [.own 6200]), (5900, bL 28 1 eW 0#16 r17.2.2.2.1), (6001, .cells 3 [.int .i64 r17.2.2.2.2.1]), (6002, .cells 48 [.fn (.func 35) [.ptr 3 0]]), (6200, bL 28 1 eW 0#16 r17.2.2.2.2.2.1), (10003, .cells 48 [.own 70002]), (10004, .cells 22 [.own 5900]), (16001, .cells 28 [.b16 r17.2.2.2.2.2.2.1]), (70002, .yld (some ([5, 7], C70002)) r17.2.2.2.2.2.2.2)], [70002, 3, 5, 7, 6001, 6002], 10000⟩ rfl (by kernel_rfl) (by kernel_rfl) (fun g0 => ?_) (fun C => (by kernel_rfl)) (by kernel_rfl) (by kernel_rfl) (by kernel_rfl) (by kernel_rfl) hkr17 (by kernel_rfl) ?_ ?_
    ·
      refine ⟨fun _ => (f74_ok _ C70002 (f57_Y70003 Y70002) x1 x2 [] x3 x4 r5 0 r17 hr17 ?_), fun _ => ⟨.refl _, .refl _, trivial⟩, .inl rfl⟩
      clear h
      rintro ⟨l7, i9, l10, i8, l11, w6, n12⟩ x13 rY70003 h
      replace h := (f57_Y70003.eq_1 ..).symm.trans h
      refine YSpec.body 10000 rfl (of_decide_eq_true (by kernel_rfl)) (of_decide_eq_true (by kernel_rfl)) (within_tget (by kernel_rfl)) (by kernel_rfl) (by kernel_rfl) (by kernel_rfl) (by kernel_rfl) ?_
      refine AWp.le (Le.mk (s' := ⟨34, [(16, .b16 x13), (2, .ptr 6002 0), (3, .ptr 10003 0), (4, .ptr 10004 0), (1000000, .elem 32 1 T0F 0 0)], [(3, .cells 22 [vL 1 eW 0#16 l7]), (5, .cells 5 [.int .u8 i9]), (7, .cells 22 [.own 6200]), (5900, bL 28 1 eW 0#16 l10), (6001, .cells 3 [.int .i64 i8]), (6002, .cells 48 [.fn (.func 35) [.ptr 3 0]]), (6200, bL 28 1 eW 0#16 l11), (10003, .cells 48 [.own 70002]), (10004, .cells 22 [.own 5900]), (16001, .cells 28 [.b16 w6]), (70002, .yld (some ([5, 7], C70002)) n12)], [3, 5, 7, 6001, 6002, 10003, 10004, 16001, 70002], 10000⟩) rfl rfl ⟨.refl _, .refl _, .refl _, .refl _, .refl _, trivial⟩ ⟨⟨_, rfl, .refl _⟩, ⟨_, rfl, .refl _⟩, ⟨_, rfl, .refl _⟩, ⟨_, rfl, .refl _⟩, ⟨_, rfl, .refl _⟩, ⟨_, rfl, .refl _⟩, ⟨_, rfl, .refl _⟩, ⟨_, rfl, .refl _⟩, ⟨_, rfl, .refl _⟩, ⟨_, rfl, .refl _⟩, ⟨_, rfl, .refl _⟩, trivial⟩) ?_
      refine AWp.regC [] [] [2, 3, 4, 5, 1000000] [3, 5, 7, 5900, 6001, 6002, 6200, 10003, 10004, 16001, 70002] ⟨34, [(2, .ptr 6002 0), (3, .ptr 10003 0), (4, .ptr 10004 0), (5, .b16 x13), (1000000, .elem 32 1 T0F 0 0)], [(3, .cells 22 [vL 1 eW 0#16 l7]), (5, .cells 5 [.int .u8 i9]), (7, .cells 22 [.own 6200]), (5900, bL 28 1 eW 0#16 l10), (6001, .cells 3 [.int .i64 i8]), (6002, .cells 48 [.fn (.func 35) [.ptr 3 0]]), (6200, bL 28 1 eW 0#16 l11), (10003, .cells 48 [.own 70002]), (10004, .cells 22 [.own 5900]), (16001, .cells 28 [.b16 w6]), (70002, .yld (some ([5, 7], C70002)) n12)], [3, 5, 7, 6001, 6002, 10003, 10004, 16001, 70002], 10000⟩ (True) Tryd_mixed (by kernel_rfl) trivial ?_
      refine ⟨rfl, rfl, ?_⟩
      refine AWp.block ?_
      refine AWp.seq ?_
      refine AWp.seq ?_
      obtain ⟨r14, hr14, h⟩ := bind_ok h
      by_cases hg5_3 : r14 = true
      ·
        replace h := ite_t hg5_3 h
        have ob3 : false = true → false = true := fun h => h
        have ob4 : false = true → false = true := fun h => h
        have ob5 : false = true → false = true := fun h => h
        have ob6 : true = true → true = false → false = true := by first | decide | omega | simp | (intro h; cases h)
        refine AWp.regC [] [(2, ⟨[vL 1 eW 0#16 l10, .b16 x13], [], [], [], .bool r14, [], [5900], []⟩), (3, ⟨[], [], [], [], (.bool true), [], [0], []⟩), (6, ⟨[], [], [], [], .bool false, [], [], []⟩)] [3, 4, 5, 25, 1000000] [3, 5, 7, 5900, 6001, 6002, 6200, 10003, 10004, 16001, 70002] ⟨34, [(3, .ptr 10003 0), (4, .ptr 10004 0), (5, .b16 x13), (25, .bool true), (1000000, .elem 32 1 T0F 0 0)], [(3, .cells 22 [vL 1 eW 0#16 l7]), (5, .cells 5 [.int .u8 i9]), (7, .cells 22 [.own 6200]), (5900, bL 28 1 eW 0#16 l10), (6001, .cells 3 [.int .i64 i8]), (6002, .cells 48 [.fn (.func 35) [.ptr 3 0]]), (6200, bL 28 1 eW 0#16 l11), (10003, .cells 48 [.own 70002]), (10004, .cells 22 [.own 5900]), (16001, .cells 28 [.b16 w6]), (70002, .yld (some ([5, 7], C70002)) n12)], [3, 5, 7, 6001, 6002, 10003, 10004, 16001, 70002], 10000⟩ ((callP Tryd.prog true 27 [] [] [] [(5900, bL 28 1 eW 0#16 l10)] [5900] [.own 5900, .b16 x13] [vL 1 eW 0#16 l10, .b16 x13] (.bool r14) []) ∧ (((.bool r14) : V) = (.bool true)) ∧ ((callP Tryd.prog false 35 [] [] [] [] [] [.b16 x13, .ptr 3 0] [] (.bool false) []) ∧ (false = true → false = true) ∧ (false = true → false = true) ∧ True) ∧ ((false = true → false = true) ∧ True) ∧ (true = true → true = false → false = true) ∧ True) Tryd_mixed (by kernel_rfl) ⟨⟨fun _ => (f27_ok l10 x13 r14 hr14), fun _ => ⟨.refl _, .refl _, trivial⟩, .inr ⟨rfl, trivial⟩⟩, (congrArg (fun x => ((.bool x) : V)) hg5_3), ⟨⟨nofun, nofun, .inl rfl⟩, ob3, ob4, trivial⟩, ⟨ob5, trivial⟩, ob6, trivial⟩ ?_
        refine thenQ_normal ?_
        refine AWp.cond (b := true) (by kernel_rfl) (fun hc => ?_) (fun hc => ?_)
        ·
          clear hc
          refine AWp.exit ?_
          refine thenQ_exit ?_
          refine blockQ_same ?_
          have hret := Option.some.inj h
          subst hret
          exact ⟨_, (Le.mk (s := ⟨34, [(3, .ptr 10003 0), (4, .ptr 10004 0), (5, .b16 x13), (25, .bool true), (1000000, .elem 32 1 T0F 0 0)], [(3, .cells 22 [vL 1 eW 0#16 l7]), (5, .cells 5 [.int .u8 i9]), (7, .cells 22 [.own 6200]), (5900, bL 28 1 eW 0#16 l10), (6001, .cells 3 [.int .i64 i8]), (6002, .cells 48 [.fn (.func 35) [.ptr 3 0]]), (6200, bL 28 1 eW 0#16 l11), (10003, .cells 48 [.own 70002]), (10004, .cells 22 [.own 5900]), (16001, .cells 28 [.b16 w6]), (70002, .yld (some ([5, 7], C70002)) n12)], [3, 5, 7, 6001, 6002, 10003, 10004, 16001, 70002], 10000⟩) (s' := ⟨34, [], [(3, .cells 22 [vL 1 eW 0#16 l7]), (5, .cells 5 [.int .u8 i9]), (7, .cells 22 [.own 6200]), (5900, bL 28 1 eW 0#16 l10), (6001, .cells 3 [.int .i64 i8]), (6002, .cells 48 [.fn (.func 35) [.ptr 3 0]]), (6200, bL 28 1 eW 0#16 l11), (10003, .cells 48 [.own 70002]), (10004, .cells 22 [.own 5900]), (16001, .cells 28 [.b16 w6]), (70002, .yld (some ([5, 7], C70002)) n12)], [3, 5, 7, 6001, 6002, 10003, 10004, 16001, 70002], 10000⟩) rfl rfl trivial ⟨⟨_, rfl, .refl _⟩, ⟨_, rfl, .refl _⟩, ⟨_, rfl, .refl _⟩, ⟨_, rfl, .refl _⟩, ⟨_, rfl, .refl _⟩, ⟨_, rfl, .refl _⟩, ⟨_, rfl, .refl _⟩, ⟨_, rfl, .refl _⟩, ⟨_, rfl, .refl _⟩, ⟨_, rfl, .refl _⟩, ⟨_, rfl, .refl _⟩, trivial⟩), rfl, rfl, .inl ⟨rfl, rfl⟩⟩
        ·
          cases hc
      ·
        replace h := ite_f hg5_3 h
        obtain ⟨r15, hr15, h⟩ := bind_ok h
        have ob3 : true = true → true = true := fun h => h
        have ob4 : true = true → true = true := fun h => h
        have ob5 : true = true → false = false → true = true := by first | decide | omega | simp | (intro h; cases h)
        refine AWp.regC [] [(2, ⟨[vL 1 eW 0#16 l10, .b16 x13], [], [], [], .bool r14, [], [5900], []⟩), (3, ⟨[], [], [], [], (.bool false), [], [0], []⟩), (6, ⟨[.b16 x13, .ptr 3 0], [3], [3], [(3, .cells 22 [vL 1 eW 0#16 r15.2])], .bool r15.1, [], [], []⟩)] [3, 4, 5, 25, 1000000] [3, 5, 7, 5900, 6001, 6002, 6200, 10003, 10004, 16001, 70002] ⟨34, [(3, .ptr 10003 0), (4, .ptr 10004 0), (5, .b16 x13), (25, .bool (!r15.1)), (1000000, .elem 32 1 T0F 0 0)], [(3, .cells 22 [vL 1 eW 0#16 r15.2]), (5, .cells 5 [.int .u8 i9]), (7, .cells 22 [.own 6200]), (5900, bL 28 1 eW 0#16 l10), (6001, .cells 3 [.int .i64 i8]), (6002, .cells 48 [.fn (.func 35) [.ptr 3 0]]), (6200, bL 28 1 eW 0#16 l11), (10003, .cells 48 [.own 70002]), (10004, .cells 22 [.own 5900]), (16001, .cells 28 [.b16 w6]), (70002, .yld (some ([5, 7], C70002)) n12)], [3, 5, 7, 6001, 6002, 10003, 10004, 16001, 70002], 10000⟩ ((callP Tryd.prog true 27 [] [] [] [(5900, bL 28 1 eW 0#16 l10)] [5900] [.own 5900, .b16 x13] [vL 1 eW 0#16 l10, .b16 x13] (.bool r14) []) ∧ (((.bool r14) : V) = (.bool false)) ∧ ((callP Tryd.prog true 35 [] [3] [(3, .cells 22 [vL 1 eW 0#16 l7])] [] [] [.b16 x13, .ptr 3 0] [.b16 x13, .ptr 3 0] (.bool r15.1) [(3, .cells 22 [vL 1 eW 0#16 r15.2])]) ∧ (true = true → true = true) ∧ (true = true → true = true) ∧ True) ∧ (true = true → false = false → true = true) ∧ True) Tryd_mixed (by kernel_rfl) ⟨⟨fun _ => (f27_ok l10 x13 r14 hr14), fun _ => ⟨.refl _, .refl _, trivial⟩, .inr ⟨rfl, trivial⟩⟩, (congrArg (fun x => ((.bool x) : V)) (Bool.eq_false_iff.2 hg5_3)), ⟨⟨fun _ => (Spec1.ren (swapN 2000 3) (swapN_inv 2000 3) rfl (f35_ok x13 l7 r15 hr15)), fun _ => ⟨.refl _, .refl _, trivial⟩, .inl rfl⟩, ob3, ob4, trivial⟩, ob5, trivial⟩ ?_
        refine thenQ_normal ?_
        refine AWp.cond (b := (!r15.1)) (by kernel_rfl) (fun hc3 => ?_) (fun hc3 => ?_)
        ·
          replace h := ite_tb hc3 h
          refine AWp.exit ?_
          refine thenQ_exit ?_
          refine blockQ_same ?_
          have hret := Option.some.inj h
          subst hret
          exact ⟨_, (Le.mk (s := ⟨34, [(3, .ptr 10003 0), (4, .ptr 10004 0), (5, .b16 x13), (25, .bool (!r15.1)), (1000000, .elem 32 1 T0F 0 0)], [(3, .cells 22 [vL 1 eW 0#16 r15.2]), (5, .cells 5 [.int .u8 i9]), (7, .cells 22 [.own 6200]), (5900, bL 28 1 eW 0#16 l10), (6001, .cells 3 [.int .i64 i8]), (6002, .cells 48 [.fn (.func 35) [.ptr 3 0]]), (6200, bL 28 1 eW 0#16 l11), (10003, .cells 48 [.own 70002]), (10004, .cells 22 [.own 5900]), (16001, .cells 28 [.b16 w6]), (70002, .yld (some ([5, 7], C70002)) n12)], [3, 5, 7, 6001, 6002, 10003, 10004, 16001, 70002], 10000⟩) (s' := ⟨34, [], [(3, .cells 22 [vL 1 eW 0#16 r15.2]), (5, .cells 5 [.int .u8 i9]), (7, .cells 22 [.own 6200]), (5900, bL 28 1 eW 0#16 l10), (6001, .cells 3 [.int .i64 i8]), (6002, .cells 48 [.fn (.func 35) [.ptr 3 0]]), (6200, bL 28 1 eW 0#16 l11), (10003, .cells 48 [.own 70002]), (10004, .cells 22 [.own 5900]), (16001, .cells 28 [.b16 w6]), (70002, .yld (some ([5, 7], C70002)) n12)], [3, 5, 7, 6001, 6002, 10003, 10004, 16001, 70002], 10000⟩) rfl rfl trivial ⟨⟨_, rfl, .refl _⟩, ⟨_, rfl, .refl _⟩, ⟨_, rfl, .refl _⟩, ⟨_, rfl, .refl _⟩, ⟨_, rfl, .refl _⟩, ⟨_, rfl, .refl _⟩, ⟨_, rfl, .refl _⟩, ⟨_, rfl, .refl _⟩, ⟨_, rfl, .refl _⟩, ⟨_, rfl, .refl _⟩, ⟨_, rfl, .refl _⟩, trivial⟩), rfl, rfl, .inl ⟨rfl, rfl⟩⟩
        ·
          replace h := ite_fb hc3 h
          refine AWp.skip ?_
          refine thenQ_normal ?_
          refine AWp.seq ?_
          obtain ⟨ob7, h⟩ := chk_some h
          refine AWp.regC [] [] [3, 5, 1000000] [3, 5, 7, 5900, 6001, 6002, 6200, 10003, 10004, 16001, 70002] ⟨34, [(3, .ptr 10003 0), (5, .b16 x13), (1000000, .elem 32 1 T0F 0 0)], [(3, .cells 22 [vL 1 eW 0#16 r15.2]), (5, .cells 5 [.int .u8 i9]), (7, .cells 22 [.own 6200]), (5900, .rows 28 1 ((l10).length + 1) (appF (l10).length (encF eW 0#16 l10) (lstF 1 [.b16 x13]))), (6001, .cells 3 [.int .i64 i8]), (6002, .cells 48 [.fn (.func 35) [.ptr 3 0]]), (6200, bL 28 1 eW 0#16 l11), (10003, .cells 48 [.own 70002]), (10004, .cells 22 [.own 5900]), (16001, .cells 28 [.b16 w6]), (70002, .yld (some ([5, 7], C70002)) n12)], [3, 5, 7, 6001, 6002, 10003, 10004, 16001, 70002], 10000⟩ ((((l10).length + 1) * 2 ≤ 140737488355328) ∧ (True) ∧ True) Tryd_mixed (by kernel_rfl) ⟨ob7, trivial, trivial⟩ ?_
          refine thenQ_normal ?_
          refine AWp.le (Le.mk (s := ⟨34, [(3, .ptr 10003 0), (5, .b16 x13), (1000000, .elem 32 1 T0F 0 0)], [(3, .cells 22 [vL 1 eW 0#16 r15.2]), (5, .cells 5 [.int .u8 i9]), (7, .cells 22 [.own 6200]), (5900, .rows 28 1 ((l10).length + 1) (appF (l10).length (encF eW 0#16 l10) (lstF 1 [.b16 x13]))), (6001, .cells 3 [.int .i64 i8]), (6002, .cells 48 [.fn (.func 35) [.ptr 3 0]]), (6200, bL 28 1 eW 0#16 l11), (10003, .cells 48 [.own 70002]), (10004, .cells 22 [.own 5900]), (16001, .cells 28 [.b16 w6]), (70002, .yld (some ([5, 7], C70002)) n12)], [3, 5, 7, 6001, 6002, 10003, 10004, 16001, 70002], 10000⟩) (s' := ⟨34, [(3, .ptr 10003 0), (5, .b16 x13), (1000000, .elem 32 1 T0F 0 0)], [(3, .cells 22 [vL 1 eW 0#16 r15.2]), (5, .cells 5 [.int .u8 i9]), (7, .cells 22 [.own 6200]), (5900, bL 28 1 eW 0#16 (l10 ++ [x13])), (6001, .cells 3 [.int .i64 i8]), (6002, .cells 48 [.fn (.func 35) [.ptr 3 0]]), (6200, bL 28 1 eW 0#16 l11), (10003, .cells 48 [.own 70002]), (10004, .cells 22 [.own 5900]), (16001, .cells 28 [.b16 w6]), (70002, .yld (some ([5, 7], C70002)) n12)], [3, 5, 7, 6001, 6002, 10003, 10004, 16001, 70002], 10000⟩) rfl rfl ⟨.refl _, .refl _, .refl _, trivial⟩ ⟨⟨_, rfl, .refl _⟩, ⟨_, rfl, .refl _⟩, ⟨_, rfl, .refl _⟩, ⟨_, rfl, (BLe.of (RL.app (RL.self _) (RL.lst (enc := eW) [x13] rfl rfl (fun _ => rfl))))⟩, ⟨_, rfl, .refl _⟩, ⟨_, rfl, .refl _⟩, ⟨_, rfl, .refl _⟩, ⟨_, rfl, .refl _⟩, ⟨_, rfl, .refl _⟩, ⟨_, rfl, .refl _⟩, ⟨_, rfl, .refl _⟩, trivial⟩) ?_
          refine AWp.seq ?_
          obtain ⟨hz4, h⟩ := chk_some h
          refine AWp.le (Le.mk (s' := ⟨34, [(3, .ptr 10003 0), (5, .b16 x13), (1000000, .elem 32 1 T0F 0 0)], [(3, .cells 22 [vL 1 eW 0#16 r15.2]), (5, .cells 5 [.int .u8 i9]), (7, .cells 22 [.own 6200]), (5900, bL 28 1 eW 0#16 (l10 ++ [x13])), (6001, .cells 3 [.int .i64 i8]), (6002, .cells 48 [.fn (.func 35) [.ptr 3 0]]), (6200, bL 28 1 eW 0#16 l11), (10003, .cells 48 [.own 70002]), (10004, .cells 22 [.own 5900]), (16001, .cells 28 [.b16 w6]), (70002, .yld (some ([5, 7], C70002)) 0)], [3, 5, 7, 6001, 6002, 10003, 10004, 16001, 70002], 10000⟩) rfl rfl ⟨.refl _, .refl _, .refl _, trivial⟩ ⟨⟨_, rfl, .refl _⟩, ⟨_, rfl, .refl _⟩, ⟨_, rfl, .refl _⟩, ⟨_, rfl, .refl _⟩, ⟨_, rfl, .refl _⟩, ⟨_, rfl, .refl _⟩, ⟨_, rfl, .refl _⟩, ⟨_, rfl, .refl _⟩, ⟨_, rfl, .refl _⟩, ⟨_, rfl, .refl _⟩, ⟨_, rfl, BLe.yldEq hz4⟩, trivial⟩) ?_
          obtain ⟨r16, hr16, h⟩ := bind_ok h
          by_cases hy_r16 : r16.1 = 0
          ·
            replace h := ite_t hy_r16 h
            refine AWp.regC [] [(2, ⟨[.b16 x13], [70002, 3, 5, 7, 6001, 6002, 6200], [3, 5, 7, 6001, 6002], [(70002, .yld (some ([5, 7], C70002)) 0), (3, .cells 22 [vL 1 eW 0#16 r16.2.1]), (5, .cells 5 [.int .u8 r16.2.2.1]), (7, .cells 22 [.own 6200]), (6001, .cells 3 [.int .i64 r16.2.2.2.1]), (6002, .cells 48 [.fn (.func 35) [.ptr 3 0]]), (6200, bL 28 1 eW 0#16 r16.2.2.2.2)], .bool true, [6200], [], []⟩)] [33, 1000000] [3, 5, 7, 5900, 6001, 6002, 6200, 10003, 10004, 16001, 70002] ⟨34, [(33, .bool (!true)), (1000000, .elem 32 1 T0F 0 0)], [(3, .cells 22 [vL 1 eW 0#16 r16.2.1]), (5, .cells 5 [.int .u8 r16.2.2.1]), (7, .cells 22 [.own 6200]), (5900, bL 28 1 eW 0#16 (l10 ++ [x13])), (6001, .cells 3 [.int .i64 r16.2.2.2.1]), (6002, .cells 48 [.fn (.func 35) [.ptr 3 0]]), (6200, bL 28 1 eW 0#16 r16.2.2.2.2), (10003, .cells 48 [.own 70002]), (10004, .cells 22 [.own 5900]), (16001, .cells 28 [.b16 w6]), (70002, .yld (some ([5, 7], C70002)) 0)], [3, 5, 7, 6001, 6002, 10003, 10004, 16001, 70002], 10000⟩ ((([(70002, .yld (some ([5, 7], C70002)) 0), (3, .cells 22 [vL 1 eW 0#16 r16.2.1]), (5, .cells 5 [.int .u8 r16.2.2.1]), (7, .cells 22 [.own 6200]), (6001, .cells 3 [.int .i64 r16.2.2.2.1]), (6002, .cells 48 [.fn (.func 35) [.ptr 3 0]]), (6200, bL 28 1 eW 0#16 r16.2.2.2.2)] : Heap) = (70002, .yld (some ([5, 7], C70002)) 0) :: [(3, .cells 22 [vL 1 eW 0#16 r16.2.1]), (5, .cells 5 [.int .u8 r16.2.2.1]), (7, .cells 22 [.own 6200]), (6001, .cells 3 [.int .i64 r16.2.2.2.1]), (6002, .cells 48 [.fn (.func 35) [.ptr 3 0]]), (6200, bL 28 1 eW 0#16 r16.2.2.2.2)] ∧ V.bool true = V.bool (0 == 0) ∧ YSpec Tryd.prog 70002 [5, 7] C70002 [3, 5, 7, 6001, 6002] [(3, .cells 22 [vL 1 eW 0#16 r15.2]), (5, .cells 5 [.int .u8 i9]), (7, .cells 22 [.own 6200]), (6001, .cells 3 [.int .i64 i8]), (6002, .cells 48 [.fn (.func 35) [.ptr 3 0]]), (6200, bL 28 1 eW 0#16 l11)] [.b16 x13] 0 [(3, .cells 22 [vL 1 eW 0#16 r16.2.1]), (5, .cells 5 [.int .u8 r16.2.2.1]), (7, .cells 22 [.own 6200]), (6001, .cells 3 [.int .i64 r16.2.2.2.1]), (6002, .cells 48 [.fn (.func 35) [.ptr 3 0]]), (6200, bL 28 1 eW 0#16 r16.2.2.2.2)] ∧ VLes [.b16 x13] [.b16 x13]) ∧ True) Tryd_mixed (by kernel_rfl) ⟨⟨rfl, rfl, (YSpec.zero (hY70002 _ _ r16 hr16) hy_r16), ⟨.refl _, trivial⟩⟩, trivial⟩ ?_
            refine thenQ_normal ?_
            refine AWp.cond (b := (!true)) (by kernel_rfl) (fun hc6 => ?_) (fun hc6 => ?_)
            ·
              replace h := ite_tb hc6 h
              refine AWp.ret ?_
              refine blockQ_ret ?_
              have hret := Option.some.inj h
              subst hret
              exact ⟨_, (Le.mk (s := ⟨34, [(33, .bool (!true)), (1000000, .elem 32 1 T0F 0 0)], [(3, .cells 22 [vL 1 eW 0#16 r16.2.1]), (5, .cells 5 [.int .u8 r16.2.2.1]), (7, .cells 22 [.own 6200]), (5900, bL 28 1 eW 0#16 (l10 ++ [x13])), (6001, .cells 3 [.int .i64 r16.2.2.2.1]), (6002, .cells 48 [.fn (.func 35) [.ptr 3 0]]), (6200, bL 28 1 eW 0#16 r16.2.2.2.2), (10003, .cells 48 [.own 70002]), (10004, .cells 22 [.own 5900]), (16001, .cells 28 [.b16 w6]), (70002, .yld (some ([5, 7], C70002)) 0)], [3, 5, 7, 6001, 6002, 10003, 10004, 16001, 70002], 10000⟩) (s' := ⟨34, [], [(3, .cells 22 [vL 1 eW 0#16 r16.2.1]), (5, .cells 5 [.int .u8 r16.2.2.1]), (7, .cells 22 [.own 6200]), (5900, bL 28 1 eW 0#16 (l10 ++ [x13])), (6001, .cells 3 [.int .i64 r16.2.2.2.1]), (6002, .cells 48 [.fn (.func 35) [.ptr 3 0]]), (6200, bL 28 1 eW 0#16 r16.2.2.2.2), (10003, .cells 48 [.own 70002]), (10004, .cells 22 [.own 5900]), (16001, .cells 28 [.b16 w6]), (70002, .yld (some ([5, 7], C70002)) 0)], [3, 5, 7, 6001, 6002, 10003, 10004, 16001, 70002], 10000⟩) rfl rfl trivial ⟨⟨_, rfl, .refl _⟩, ⟨_, rfl, .refl _⟩, ⟨_, rfl, .refl _⟩, ⟨_, rfl, .refl _⟩, ⟨_, rfl, .refl _⟩, ⟨_, rfl, .refl _⟩, ⟨_, rfl, .refl _⟩, ⟨_, rfl, .refl _⟩, ⟨_, rfl, .refl _⟩, ⟨_, rfl, .refl _⟩, ⟨_, rfl, .refl _⟩, trivial⟩), rfl, rfl, .inr ⟨0, _, rfl, rfl, .inl ⟨rfl, rfl⟩⟩⟩
            ·
              replace h := ite_fb hc6 h
              refine AWp.skip ?_
              refine blockQ_normal ?_
              have hret := Option.some.inj h
              subst hret
              exact ⟨_, (Le.mk (s := ⟨34, [(33, .bool (!true)), (1000000, .elem 32 1 T0F 0 0)], [(3, .cells 22 [vL 1 eW 0#16 r16.2.1]), (5, .cells 5 [.int .u8 r16.2.2.1]), (7, .cells 22 [.own 6200]), (5900, bL 28 1 eW 0#16 (l10 ++ [x13])), (6001, .cells 3 [.int .i64 r16.2.2.2.1]), (6002, .cells 48 [.fn (.func 35) [.ptr 3 0]]), (6200, bL 28 1 eW 0#16 r16.2.2.2.2), (10003, .cells 48 [.own 70002]), (10004, .cells 22 [.own 5900]), (16001, .cells 28 [.b16 w6]), (70002, .yld (some ([5, 7], C70002)) 0)], [3, 5, 7, 6001, 6002, 10003, 10004, 16001, 70002], 10000⟩) (s' := ⟨34, [], [(3, .cells 22 [vL 1 eW 0#16 r16.2.1]), (5, .cells 5 [.int .u8 r16.2.2.1]), (7, .cells 22 [.own 6200]), (5900, bL 28 1 eW 0#16 (l10 ++ [x13])), (6001, .cells 3 [.int .i64 r16.2.2.2.1]), (6002, .cells 48 [.fn (.func 35) [.ptr 3 0]]), (6200, bL 28 1 eW 0#16 r16.2.2.2.2), (10003, .cells 48 [.own 70002]), (10004, .cells 22 [.own 5900]), (16001, .cells 28 [.b16 w6]), (70002, .yld (some ([5, 7], C70002)) 0)], [3, 5, 7, 6001, 6002, 10003, 10004, 16001, 70002], 10000⟩) rfl rfl trivial ⟨⟨_, rfl, .refl _⟩, ⟨_, rfl, .refl _⟩, ⟨_, rfl, .refl _⟩, ⟨_, rfl, .refl _⟩, ⟨_, rfl, .refl _⟩, ⟨_, rfl, .refl _⟩, ⟨_, rfl, .refl _⟩, ⟨_, rfl, .refl _⟩, ⟨_, rfl, .refl _⟩, ⟨_, rfl, .refl _⟩, ⟨_, rfl, .refl _⟩, trivial⟩), rfl, rfl, .inl ⟨rfl, rfl⟩⟩
          ·
            replace h := ite_f hy_r16 h
            refine AWp.regC [] [(2, ⟨[.b16 x13], [70002, 3, 5, 7, 6001, 6002, 6200], [3, 5, 7, 6001, 6002], [(70002, .yld (some ([5, 7], C70002)) r16.1), (3, .cells 22 [vL 1 eW 0#16 r16.2.1]), (5, .cells 5 [.int .u8 r16.2.2.1]), (7, .cells 22 [.own 6200]), (6001, .cells 3 [.int .i64 r16.2.2.2.1]), (6002, .cells 48 [.fn (.func 35) [.ptr 3 0]]), (6200, bL 28 1 eW 0#16 r16.2.2.2.2)], .bool false, [6200], [], []⟩)] [33, 1000000] [3, 5, 7, 5900, 6001, 6002, 6200, 10003, 10004, 16001, 70002] ⟨34, [(33, .bool (!false)), (1000000, .elem 32 1 T0F 0 0)], [(3, .cells 22 [vL 1 eW 0#16 r16.2.1]), (5, .cells 5 [.int .u8 r16.2.2.1]), (7, .cells 22 [.own 6200]), (5900, bL 28 1 eW 0#16 (l10 ++ [x13])), (6001, .cells 3 [.int .i64 r16.2.2.2.1]), (6002, .cells 48 [.fn (.func 35) [.ptr 3 0]]), (6200, bL 28 1 eW 0#16 r16.2.2.2.2), (10003, .cells 48 [.own 70002]), (10004, .cells 22 [.own 5900]), (16001, .cells 28 [.b16 w6]), (70002, .yld (some ([5, 7], C70002)) r16.1)], [3, 5, 7, 6001, 6002, 10003, 10004, 16001, 70002], 10000⟩ ((([(70002, .yld (some ([5, 7], C70002)) r16.1), (3, .cells 22 [vL 1 eW 0#16 r16.2.1]), (5, .cells 5 [.int .u8 r16.2.2.1]), (7, .cells 22 [.own 6200]), (6001, .cells 3 [.int .i64 r16.2.2.2.1]), (6002, .cells 48 [.fn (.func 35) [.ptr 3 0]]), (6200, bL 28 1 eW 0#16 r16.2.2.2.2)] : Heap) = (70002, .yld (some ([5, 7], C70002)) r16.1) :: [(3, .cells 22 [vL 1 eW 0#16 r16.2.1]), (5, .cells 5 [.int .u8 r16.2.2.1]), (7, .cells 22 [.own 6200]), (6001, .cells 3 [.int .i64 r16.2.2.2.1]), (6002, .cells 48 [.fn (.func 35) [.ptr 3 0]]), (6200, bL 28 1 eW 0#16 r16.2.2.2.2)] ∧ V.bool false = V.bool (r16.1 == 0) ∧ YSpec Tryd.prog 70002 [5, 7] C70002 [3, 5, 7, 6001, 6002] [(3, .cells 22 [vL 1 eW 0#16 r15.2]), (5, .cells 5 [.int .u8 i9]), (7, .cells 22 [.own 6200]), (6001, .cells 3 [.int .i64 i8]), (6002, .cells 48 [.fn (.func 35) [.ptr 3 0]]), (6200, bL 28 1 eW 0#16 l11)] [.b16 x13] r16.1 [(3, .cells 22 [vL 1 eW 0#16 r16.2.1]), (5, .cells 5 [.int .u8 r16.2.2.1]), (7, .cells 22 [.own 6200]), (6001, .cells 3 [.int .i64 r16.2.2.2.1]), (6002, .cells 48 [.fn (.func 35) [.ptr 3 0]]), (6200, bL 28 1 eW 0#16 r16.2.2.2.2)] ∧ VLes [.b16 x13] [.b16 x13]) ∧ True) Tryd_mixed (by kernel_rfl) ⟨⟨rfl, bool_ne hy_r16, (hY70002 _ _ r16 hr16), ⟨.refl _, trivial⟩⟩, trivial⟩ ?_
            refine thenQ_normal ?_
            refine AWp.cond (b := (!false)) (by kernel_rfl) (fun hc7 => ?_) (fun hc7 => ?_)
            ·
              replace h := ite_tb hc7 h
              refine AWp.ret ?_
              refine blockQ_ret ?_
              have hret := Option.some.inj h
              subst hret
              exact ⟨_, (Le.mk (s := ⟨34, [(33, .bool (!false)), (1000000, .elem 32 1 T0F 0 0)], [(3, .cells 22 [vL 1 eW 0#16 r16.2.1]), (5, .cells 5 [.int .u8 r16.2.2.1]), (7, .cells 22 [.own 6200]), (5900, bL 28 1 eW 0#16 (l10 ++ [x13])), (6001, .cells 3 [.int .i64 r16.2.2.2.1]), (6002, .cells 48 [.fn (.func 35) [.ptr 3 0]]), (6200, bL 28 1 eW 0#16 r16.2.2.2.2), (10003, .cells 48 [.own 70002]), (10004, .cells 22 [.own 5900]), (16001, .cells 28 [.b16 w6]), (70002, .yld (some ([5, 7], C70002)) r16.1)], [3, 5, 7, 6001, 6002, 10003, 10004, 16001, 70002], 10000⟩) (s' := ⟨34, [], [(3, .cells 22 [vL 1 eW 0#16 r16.2.1]), (5, .cells 5 [.int .u8 r16.2.2.1]), (7, .cells 22 [.own 6200]), (5900, bL 28 1 eW 0#16 (l10 ++ [x13])), (6001, .cells 3 [.int .i64 r16.2.2.2.1]), (6002, .cells 48 [.fn (.func 35) [.ptr 3 0]]), (6200, bL 28 1 eW 0#16 r16.2.2.2.2), (10003, .cells 48 [.own 70002]), (10004, .cells 22 [.own 5900]), (16001, .cells 28 [.b16 w6]), (70002, .yld (some ([5, 7], C70002)) r16.1)], [3, 5, 7, 6001, 6002, 10003, 10004, 16001, 70002], 10000⟩) rfl rfl trivial ⟨⟨_, rfl, .refl _⟩, ⟨_, rfl, .refl _⟩, ⟨_, rfl, .refl _⟩, ⟨_, rfl, .refl _⟩, ⟨_, rfl, .refl _⟩, ⟨_, rfl, .refl _⟩, ⟨_, rfl, .refl _⟩, ⟨_, rfl, .refl _⟩, ⟨_, rfl, .refl _⟩, ⟨_, rfl, .refl _⟩, ⟨_, rfl, .refl _⟩, trivial⟩), rfl, rfl, .inr ⟨0, _, rfl, rfl, .inl ⟨rfl, rfl⟩⟩⟩
            ·
              replace h := ite_fb hc7 h
              refine AWp.skip ?_
              refine blockQ_normal ?_
              have hret := Option.some.inj h
              subst hret
              exact ⟨_, (Le.mk (s := ⟨34, [(33, .bool (!false)), (1000000, .elem 32 1 T0F 0 0)], [(3, .cells 22 [vL 1 eW 0#16 r16.2.1]), (5, .cells 5 [.int .u8 r16.2.2.1]), (7, .cells 22 [.own 6200]), (5900, bL 28 1 eW 0#16 (l10 ++ [x13])), (6001, .cells 3 [.int .i64 r16.2.2.2.1]), (6002, .cells 48 [.fn (.func 35) [.ptr 3 0]]), (6200, bL 28 1 eW 0#16 r16.2.2.2.2), (10003, .cells 48 [.own 70002]), (10004, .cells 22 [.own 5900]), (16001, .cells 28 [.b16 w6]), (70002, .yld (some ([5, 7], C70002)) r16.1)], [3, 5, 7, 6001, 6002, 10003, 10004, 16001, 70002], 10000⟩) (s' := ⟨34, [], [(3, .cells 22 [vL 1 eW 0#16 r16.2.1]), (5, .cells 5 [.int .u8 r16.2.2.1]), (7, .cells 22 [.own 6200]), (5900, bL 28 1 eW 0#16 (l10 ++ [x13])), (6001, .cells 3 [.int .i64 r16.2.2.2.1]), (6002, .cells 48 [.fn (.func 35) [.ptr 3 0]]), (6200, bL 28 1 eW 0#16 r16.2.2.2.2), (10003, .cells 48 [.own 70002]), (10004, .cells 22 [.own 5900]), (16001, .cells 28 [.b16 w6]), (70002, .yld (some ([5, 7], C70002)) r16.1)], [3, 5, 7, 6001, 6002, 10003, 10004, 16001, 70002], 10000⟩) rfl rfl trivial ⟨⟨_, rfl, .refl _⟩, ⟨_, rfl, .refl _⟩, ⟨_, rfl, .refl _⟩, ⟨_, rfl, .refl _⟩, ⟨_, rfl, .refl _⟩, ⟨_, rfl, .refl _⟩, ⟨_, rfl, .refl _⟩, ⟨_, rfl, .refl _⟩, ⟨_, rfl, .refl _⟩, ⟨_, rfl, .refl _⟩, ⟨_, rfl, .refl _⟩, trivial⟩), rfl, rfl, .inl ⟨rfl, rfl⟩⟩
    ·
      intro hk0
      replace h := ite_t hk0 h
      refine blockQ_normal ?_
      have hret := Option.some.inj h
      subst hret
      exact bodyQ_le (Le.mk (s := ⟨34, [(2, .ptr 6002 0), (3, .ptr 10003 0), (4, .ptr 10004 0), (15, .fn (.func 74) [.ptr 16001 0]), (1000000, .elem 32 1 T0F 0 0)], [(3, .cells 22 [vL 1 eW 0#16 r17.2.1]), (5, .cells 5 [.int .u8 r17.2.2.1]), (7, .cells 22 [.own 6200]), (5900, bL 28 1 eW 0#16 r17.2.2.2.1), (6001, .cells 3 [.int .i64 r17.2.2.2.2.1]), (6002, .cells 48 [.fn (.func 35) [.ptr 3 0]]), (6200, bL 28 1 eW 0#16 r17.2.2.2.2.2.1), (10003, .cells 48 [.own 70002]), (10004, .cells 22 [.own 5900]), (16001, .cells 28 [.b16 r17.2.2.2.2.2.2.1]), (70002, .yld (some ([5, 7], C70002)) r17.2.2.2.2.2.2.2)], [70002, 3, 5, 7, 6001, 6002], 10000⟩) (s' := ⟨34, [], [(70002, .yld (some ([5, 7], C70002)) r17.2.2.2.2.2.2.2), (3, .cells 22 [vL 1 eW 0#16 r17.2.1]), (5, .cells 5 [.int .u8 r17.2.2.1]), (7, .cells 22 [.own 6200]), (6001, .cells 3 [.int .i64 r17.2.2.2.2.1]), (6002, .cells 48 [.fn (.func 35) [.ptr 3 0]]), (6200, bL 28 1 eW 0#16 r17.2.2.2.2.2.1)], [70002, 3, 5, 7, 6001, 6002], 10000⟩) rfl rfl trivial ⟨⟨_, rfl, .refl _⟩, ⟨_, rfl, .refl _⟩, ⟨_, rfl, .refl _⟩, ⟨_, rfl, .refl _⟩, ⟨_, rfl, .refl _⟩, ⟨_, rfl, .refl _⟩, ⟨_, rfl, .refl _⟩, trivial⟩) (bodyQ_normal _ rfl ⟨rfl, rfl⟩ rfl)
    ·
      intro j hkj
      replace h := ite_f (by omega) h
      cases j with
      | zero =>
        replace h := ite_t (by omega) h
        refine ⟨_, rfl, ?_⟩
        have hret := Option.some.inj h
        subst hret
        refine AWp.le (Le.mk (s := ⟨34, [(2, .ptr 6002 0), (3, .ptr 10003 0), (4, .ptr 10004 0), (15, .fn (.func 74) [.ptr 16001 0]), (1000000, .elem 32 1 T0F 0 0)], [(3, .cells 22 [vL 1 eW 0#16 r17.2.1]), (5, .cells 5 [.int .u8 r17.2.2.1]), (7, .cells 22 [.own 6200]), (5900, bL 28 1 eW 0#16 r17.2.2.2.1), (6001, .cells 3 [.int .i64 r17.2.2.2.2.1]), (6002, .cells 48 [.fn (.func 35) [.ptr 3 0]]), (6200, bL 28 1 eW 0#16 r17.2.2.2.2.2.1), (10003, .cells 48 [.own 70002]), (10004, .cells 22 [.own 5900]), (16001, .cells 28 [.b16 r17.2.2.2.2.2.2.1]), (70002, .yld (some ([5, 7], C70002)) r17.2.2.2.2.2.2.2)], [70002, 3, 5, 7, 6001, 6002], 10000⟩) (s' := ⟨34, [], [(70002, .yld (some ([5, 7], C70002)) r17.2.2.2.2.2.2.2), (3, .cells 22 [vL 1 eW 0#16 r17.2.1]), (5, .cells 5 [.int .u8 r17.2.2.1]), (7, .cells 22 [.own 6200]), (6001, .cells 3 [.int .i64 r17.2.2.2.2.1]), (6002, .cells 48 [.fn (.func 35) [.ptr 3 0]]), (6200, bL 28 1 eW 0#16 r17.2.2.2.2.2.1)], [70002, 3, 5, 7, 6001, 6002], 10000⟩) rfl rfl trivial ⟨⟨_, rfl, .refl _⟩, ⟨_, rfl, .refl _⟩, ⟨_, rfl, .refl _⟩, ⟨_, rfl, .refl _⟩, ⟨_, rfl, .refl _⟩, ⟨_, rfl, .refl _⟩, ⟨_, rfl, .refl _⟩, trivial⟩) ?_
        refine AWp.ret ?_
        refine blockQ_ret ?_
        exact bodyQ_ret _ rfl ⟨rfl, rfl⟩ rfl
      | succ j =>
      replace h := ite_f (by omega) h
      exact nomatch (show (none : Option (Nat × List (BitVec 16) × Int × Int × List (BitVec 16))) = some r from h)
def f36_L1 (x1 : Int) (n2 : Nat) (K2 : (List (BitVec 16)) → Option (List (BitVec 16))) : Nat → (Nat × List (BitVec 16)) → Option (List (BitVec 16))
  | 0, _ => none
  | k + 1, (n4, l5) =>
    chk (0 ≤ x1 ∧ (x1).toNat ≤ IntKind.bits .i64 ∧ -9223372036854775808 ≤ ((1 : Int) * 2 ^ ((x1).toNat)) ∧ ((1 : Int) * 2 ^ ((x1).toNat)) ≤ 9223372036854775807) <|
    if (decide (((n4 : Nat) : Int) < ((1 : Int) * 2 ^ ((x1).toNat)))) then (
    jn (fun (l7 : List (BitVec 16)) =>
    chk ((((n4 : Nat) : Int) + (1 : Int)) ≤ 9223372036854775807) <|
    (f36_L1 x1 n2 K2 k) ((n4 + 1), l7)
    ) fun (K3 : (List (BitVec 16)) → Option (List (BitVec 16))) =>
    (f59 (BitVec.ofInt 16 ((n4 : Nat) : Int))).bind fun (r6 : Int) =>
    if (r6 == ((n2 : Nat) : Int)) then (
    chk (((l5).length + 1) * 2 ≤ 140737488355328) <|
    K3 (l5 ++ [(BitVec.ofInt 16 ((n4 : Nat) : Int))])
    ) else (
    K3 l5
    )
    ) else (
    K2 l5
    )
def f36_L0 (x1 : Int) (K1 : (List (BitVec 16)) → Option (List (BitVec 16))) : Nat → (Nat × List (BitVec 16)) → Option (List (BitVec 16))
  | 0, _ => none
  | k + 1, (n2, l3) =>
    if (decide (((n2 : Nat) : Int) ≤ x1)) then (
    jn (fun (l8 : List (BitVec 16)) =>
    chk ((((n2 : Nat) : Int) + (1 : Int)) ≤ 9223372036854775807) <|
    (f36_L0 x1 K1 k) ((n2 + 1), l8)
    ) fun (K2 : (List (BitVec 16)) → Option (List (BitVec 16))) =>
    f36_L1 x1 n2 K2 FUEL (0, l3)
    ) else (
    K1 l3
    )
def f36 (x1 : Int) : Option (List (BitVec 16)) :=
  jn (fun (l9 : List (BitVec 16)) =>
  some l9
  ) fun (K1 : (List (BitVec 16)) → Option (List (BitVec 16))) =>
  f36_L0 x1 K1 FUEL (0, [])
set_option maxRecDepth 100000 in
theorem f36_ok  (x1 : Int) (r : List (BitVec 16)) (h : f36 x1 = some r)  : Spec1 Tryd.prog 36 [] [] [] [.int .i64 x1] (.own 3000) [(3000, bL 28 1 eW 0#16 r)] := by
  unfold f36 at h
  refine Spec1.body 0 _ _ Tryd.func36 rfl Tryd.ntmps36 rfl rfl ?_
  refine AWp.seq ?_
  refine AWp.regC [] [] [0] [] ⟨28, [(0, .int .i64 x1)], [], [], 0⟩ (True) Tryd_mixed (by kernel_rfl) trivial ?_
  refine thenQ_normal ?_
  refine AWp.seq ?_
  refine AWp.regC [] [] [0, 3] [] ⟨28, [(0, .int .i64 x1), (3, .nils)], [], [], 0⟩ (True) Tryd_mixed (by kernel_rfl) trivial ?_
  refine thenQ_normal ?_
  obtain ⟨K1, hK1, h⟩ := jn_some h
  refine AWp.join (α := List (BitVec 16)) (fun (l9 : List (BitVec 16)) => ⟨28, [(3, .own 5003)], [(5003, bL 28 1 eW 0#16 l9)], [], 0⟩) (fun x => K1 x = some r) ?_ ?_
  ·
    refine AWp.seq ?_
    refine AWp.regC [] [] [0, 3, 4] [] ⟨28, [(0, .int .i64 x1), (3, .nils), (4, .int .i64 (0 : Int))], [], [], 0⟩ (True) Tryd_mixed (by kernel_rfl) trivial ?_
    refine thenQ_normal ?_
    refine AWp.block ?_
    refine AWp.loopL (α := Nat × (Nat × List (BitVec 16))) (fun x => match x with | (_, n2, l3) => ⟨28, [(0, .int .i64 x1), (3, .own 5003), (4, .int .i64 ((n2 : Nat) : Int))], [(5003, bL 28 1 eW 0#16 l3)], [], 0⟩) (fun x => f36_L0 x1 K1 x.1 x.2 = some r) (fun x => x.1) (FUEL, 0, []) (Le.trans (Le.trans (Le.nilOwn (s := ⟨28, [(0, .int .i64 x1), (3, .nils), (4, .int .i64 (0 : Int))], [], [], 0⟩) 3 5003 28 1 (encF eW 0#16 []) rfl rfl (Nat.le_of_ble_eq_true rfl)) (Le.mk (s' := ⟨28, [(0, .int .i64 x1), (3, .own 5003), (4, .int .i64 (0 : Int))], [(5003, bL 28 1 eW 0#16 [])], [], 0⟩) rfl rfl ⟨.refl _, .refl _, .refl _, trivial⟩ ⟨⟨_, rfl, .refl _⟩, trivial⟩)) (Le.mk (s := ⟨28, [(0, .int .i64 x1), (3, .own 5003), (4, .int .i64 (0 : Int))], [(5003, bL 28 1 eW 0#16 [])], [], 0⟩) (s' := ⟨28, [(0, .int .i64 x1), (3, .own 5003), (4, .int .i64 (0 : Int))], [(5003, bL 28 1 eW 0#16 [])], [], 0⟩) rfl rfl ⟨.refl _, .refl _, .refl _, trivial⟩ ⟨⟨_, rfl, .refl _⟩, trivial⟩)) h ?_
    rintro ⟨k0, n2, l3⟩ h
    cases k0 with
    | zero => exact nomatch (show (none : Option (List (BitVec 16))) = some r from h)
    | succ k0 =>
    obtain ⟨C0, hC0⟩ : ∃ C, C = f36_L0 x1 K1 k0 := ⟨_, rfl⟩
    replace h := (f36_L0.eq_2 ..).symm.trans h
    try rw [← hC0] at h
    refine AWp.seq ?_
    refine AWp.seq ?_
    refine AWp.regC [] [] [0, 3, 4, 8] [5003] ⟨28, [(0, .int .i64 x1), (3, .own 5003), (4, .int .i64 ((n2 : Nat) : Int)), (8, .bool (decide (((n2 : Nat) : Int) ≤ x1)))], [(5003, bL 28 1 eW 0#16 l3)], [], 0⟩ (True) Tryd_mixed (by kernel_rfl) trivial ?_
    refine thenQ_normal ?_
    refine AWp.cond (b := (decide (((n2 : Nat) : Int) ≤ x1))) (by kernel_rfl) (fun hc1 => ?_) (fun hc1 => ?_)
    ·
      replace h := ite_tb hc1 h
      refine AWp.skip ?_
      refine thenQ_normal ?_
      obtain ⟨K2, hK2, h⟩ := jn_some h
      refine AWp.join (α := List (BitVec 16)) (fun (l8 : List (BitVec 16)) => ⟨28, [(0, .int .i64 x1), (3, .own 5003), (4, .int .i64 ((n2 : Nat) : Int))], [(5003, bL 28 1 eW 0#16 l8)], [], 0⟩) (fun x => K2 x = some r) ?_ ?_
      ·
        refine AWp.block ?_
        refine AWp.seq ?_
        refine AWp.regC [] [] [0, 3, 4, 5] [5003] ⟨28, [(0, .int .i64 x1), (3, .own 5003), (4, .int .i64 ((n2 : Nat) : Int)), (5, .int .i64 (0 : Int))], [(5003, bL 28 1 eW 0#16 l3)], [], 0⟩ (True) Tryd_mixed (by kernel_rfl) trivial ?_
        refine thenQ_normal ?_
        refine AWp.block ?_
        refine AWp.loopL (α := Nat × (Nat × List (BitVec 16))) (fun x => match x with | (_, n4, l5) => ⟨28, [(0, .int .i64 x1), (3, .own 5003), (4, .int .i64 ((n2 : Nat) : Int)), (5, .int .i64 ((n4 : Nat) : Int))], [(5003, bL 28 1 eW 0#16 l5)], [], 0⟩) (fun x => f36_L1 x1 n2 K2 x.1 x.2 = some r) (fun x => x.1) (FUEL, 0, l3) (Le.mk (s := ⟨28, [(0, .int .i64 x1), (3, .own 5003), (4, .int .i64 ((n2 : Nat) : Int)), (5, .int .i64 (0 : Int))], [(5003, bL 28 1 eW 0#16 l3)], [], 0⟩) (s' := ⟨28, [(0, .int .i64 x1), (3, .own 5003), (4, .int .i64 ((n2 : Nat) : Int)), (5, .int .i64 (0 : Int))], [(5003, bL 28 1 eW 0#16 l3)], [], 0⟩) rfl rfl ⟨.refl _, .refl _, .refl _, .refl _, trivial⟩ ⟨⟨_, rfl, .refl _⟩, trivial⟩) h ?_
        rintro ⟨k1, n4, l5⟩ h
        cases k1 with
        | zero => exact nomatch (show (none : Option (List (BitVec 16))) = some r from h)
        | succ k1 =>
        obtain ⟨C1, hC1⟩ : ∃ C, C = f36_L1 x1 n2 K2 k1 := ⟨_, rfl⟩
        replace h := (f36_L1.eq_2 ..).symm.trans h
        try rw [← hC1] at h
        refine AWp.seq ?_
        refine AWp.seq ?_
        obtain ⟨ob0, h⟩ := chk_some h
        refine AWp.regC [] [] [0, 3, 4, 5, 14] [5003] ⟨28, [(0, .int .i64 x1), (3, .own 5003), (4, .int .i64 ((n2 : Nat) : Int)), (5, .int .i64 ((n4 : Nat) : Int)), (14, .bool (decide (((n4 : Nat) : Int) < ((1 : Int) * 2 ^ ((x1).toNat)))))], [(5003, bL 28 1 eW 0#16 l5)], [], 0⟩ ((0 ≤ x1 ∧ (x1).toNat ≤ IntKind.bits .i64 ∧ -9223372036854775808 ≤ ((1 : Int) * 2 ^ ((x1).toNat)) ∧ ((1 : Int) * 2 ^ ((x1).toNat)) ≤ 9223372036854775807) ∧ True) Tryd_mixed (by kernel_rfl) ⟨ob0, trivial⟩ ?_
        refine thenQ_normal ?_
        refine AWp.cond (b := (decide (((n4 : Nat) : Int) < ((1 : Int) * 2 ^ ((x1).toNat))))) (by kernel_rfl) (fun hc2 => ?_) (fun hc2 => ?_)
        ·
          replace h := ite_tb hc2 h
          refine AWp.skip ?_
          refine thenQ_normal ?_
          obtain ⟨K3, hK3, h⟩ := jn_some h
          refine AWp.join (α := List (BitVec 16)) (fun (l7 : List (BitVec 16)) => ⟨28, [(0, .int .i64 x1), (3, .own 26), (4, .int .i64 ((n2 : Nat) : Int)), (5, .int .i64 ((n4 : Nat) : Int))], [(26, bL 28 1 eW 0#16 l7)], [], 0⟩) (fun x => K3 x = some r) ?_ ?_
          ·
            refine AWp.block ?_
            refine AWp.seq ?_
            obtain ⟨r6, hr6, h⟩ := bind_ok h
            refine AWp.regC [] [(2, ⟨[.b16 (BitVec.ofInt 16 ((n4 : Nat) : Int))], [], [], [], .int .i64 r6, [], [], []⟩)] [0, 3, 4, 5, 21] [5003] ⟨28, [(0, .int .i64 x1), (3, .own 5003), (4, .int .i64 ((n2 : Nat) : Int)), (5, .int .i64 ((n4 : Nat) : Int)), (21, .bool (r6 == ((n2 : Nat) : Int)))], [(5003, bL 28 1 eW 0#16 l5)], [], 0⟩ ((True) ∧ (callP Tryd.prog true 59 [] [] [] [] [] [.b16 (BitVec.ofInt 16 ((n4 : Nat) : Int))] [.b16 (BitVec.ofInt 16 ((n4 : Nat) : Int))] (.int .i64 r6) []) ∧ True) Tryd_mixed (by kernel_rfl) ⟨trivial, ⟨fun _ => (f59_ok (BitVec.ofInt 16 ((n4 : Nat) : Int)) r6 hr6), fun _ => ⟨.refl _, trivial⟩, .inl rfl⟩, trivial⟩ ?_
            refine thenQ_normal ?_
            refine AWp.cond (b := (r6 == ((n2 : Nat) : Int))) (by kernel_rfl) (fun hc3 => ?_) (fun hc3 => ?_)
            ·
              replace h := ite_tb hc3 h
              obtain ⟨ob1, h⟩ := chk_some h
              refine AWp.regC [] [] [0, 3, 4, 5] [5003] ⟨28, [(0, .int .i64 x1), (3, .own 5003), (4, .int .i64 ((n2 : Nat) : Int)), (5, .int .i64 ((n4 : Nat) : Int))], [(5003, .rows 28 1 ((l5).length + 1) (appF (l5).length (encF eW 0#16 l5) (lstF 1 [.b16 (BitVec.ofInt 16 ((n4 : Nat) : Int))])))], [], 0⟩ ((True) ∧ (((l5).length + 1) * 2 ≤ 140737488355328) ∧ True) Tryd_mixed (by kernel_rfl) ⟨trivial, ob1, trivial⟩ ?_
              refine blockQ_normal ?_
              exact joinQ_normal ((l5 ++ [(BitVec.ofInt 16 ((n4 : Nat) : Int))])) (Le.trans (Le.mk (s := ⟨28, [(0, .int .i64 x1), (3, .own 5003), (4, .int .i64 ((n2 : Nat) : Int)), (5, .int .i64 ((n4 : Nat) : Int))], [(5003, .rows 28 1 ((l5).length + 1) (appF (l5).length (encF eW 0#16 l5) (lstF 1 [.b16 (BitVec.ofInt 16 ((n4 : Nat) : Int))])))], [], 0⟩) (s' := ⟨28, [(0, .int .i64 x1), (3, .own 5003), (4, .int .i64 ((n2 : Nat) : Int)), (5, .int .i64 ((n4 : Nat) : Int))], [(5003, bL 28 1 eW 0#16 (l5 ++ [(BitVec.ofInt 16 ((n4 : Nat) : Int))]))], [], 0⟩) rfl rfl ⟨.refl _, .refl _, .refl _, .refl _, trivial⟩ ⟨⟨_, rfl, (BLe.of (RL.app (RL.self _) (RL.lst (enc := eW) [(BitVec.ofInt 16 ((n4 : Nat) : Int))] rfl rfl (fun _ => rfl))))⟩, trivial⟩) (Le.trans (Le.trans (Le.ren (s := ⟨28, [(0, .int .i64 x1), (3, .own 5003), (4, .int .i64 ((n2 : Nat) : Int)), (5, .int .i64 ((n4 : Nat) : Int))], [(5003, bL 28 1 eW 0#16 (l5 ++ [(BitVec.ofInt 16 ((n4 : Nat) : Int))]))], [], 0⟩) (swapN 5003 26) (swapN_inv 5003 26) rfl) (Le.mk (s' := ⟨28, [(0, .int .i64 x1), (3, .own 26), (4, .int .i64 ((n2 : Nat) : Int)), (5, .int .i64 ((n4 : Nat) : Int))], [(26, bL 28 1 eW 0#16 (l5 ++ [(BitVec.ofInt 16 ((n4 : Nat) : Int))]))], [], 0⟩) rfl rfl ⟨.refl _, .refl _, .refl _, .refl _, trivial⟩ ⟨⟨_, rfl, .refl _⟩, trivial⟩)) (Le.mk (s := ⟨28, [(0, .int .i64 x1), (3, .own 26), (4, .int .i64 ((n2 : Nat) : Int)), (5, .int .i64 ((n4 : Nat) : Int))], [(26, bL 28 1 eW 0#16 (l5 ++ [(BitVec.ofInt 16 ((n4 : Nat) : Int))]))], [], 0⟩) (s' := ⟨28, [(0, .int .i64 x1), (3, .own 26), (4, .int .i64 ((n2 : Nat) : Int)), (5, .int .i64 ((n4 : Nat) : Int))], [(26, bL 28 1 eW 0#16 (l5 ++ [(BitVec.ofInt 16 ((n4 : Nat) : Int))]))], [], 0⟩) rfl rfl ⟨.refl _, .refl _, .refl _, .refl _, trivial⟩ ⟨⟨_, rfl, .refl _⟩, trivial⟩))) h
            ·
              replace h := ite_fb hc3 h
              refine AWp.skip ?_
              refine blockQ_normal ?_
              exact joinQ_normal (l5) (Le.trans (Le.trans (Le.ren (s := ⟨28, [(0, .int .i64 x1), (3, .own 5003), (4, .int .i64 ((n2 : Nat) : Int)), (5, .int .i64 ((n4 : Nat) : Int)), (21, .bool (r6 == ((n2 : Nat) : Int)))], [(5003, bL 28 1 eW 0#16 l5)], [], 0⟩) (swapN 5003 26) (swapN_inv 5003 26) rfl) (Le.mk (s' := ⟨28, [(0, .int .i64 x1), (3, .own 26), (4, .int .i64 ((n2 : Nat) : Int)), (5, .int .i64 ((n4 : Nat) : Int)), (21, .bool (r6 == ((n2 : Nat) : Int)))], [(26, bL 28 1 eW 0#16 l5)], [], 0⟩) rfl rfl ⟨.refl _, .refl _, .refl _, .refl _, .refl _, trivial⟩ ⟨⟨_, rfl, .refl _⟩, trivial⟩)) (Le.mk (s := ⟨28, [(0, .int .i64 x1), (3, .own 26), (4, .int .i64 ((n2 : Nat) : Int)), (5, .int .i64 ((n4 : Nat) : Int)), (21, .bool (r6 == ((n2 : Nat) : Int)))], [(26, bL 28 1 eW 0#16 l5)], [], 0⟩) (s' := ⟨28, [(0, .int .i64 x1), (3, .own 26), (4, .int .i64 ((n2 : Nat) : Int)), (5, .int .i64 ((n4 : Nat) : Int))], [(26, bL 28 1 eW 0#16 l5)], [], 0⟩) rfl rfl ⟨.refl _, .refl _, .refl _, .refl _, trivial⟩ ⟨⟨_, rfl, .refl _⟩, trivial⟩)) h
          ·
            rintro l7 h
            replace h := (congrFun hK3 _).symm.trans h
            obtain ⟨ob2p, h⟩ := chk_some h
            have ob2 : -9223372036854775808 ≤ (((n4 : Nat) : Int) + (1 : Int)) ∧ (((n4 : Nat) : Int) + (1 : Int)) ≤ 9223372036854775807 := ⟨by omega, ob2p⟩
            refine AWp.regC [] [] [0, 3, 4, 5] [26] ⟨28, [(0, .int .i64 x1), (3, .own 26), (4, .int .i64 ((n2 : Nat) : Int)), (5, .int .i64 (((n4 + 1) : Nat) : Int))], [(26, bL 28 1 eW 0#16 l7)], [], 0⟩ ((-9223372036854775808 ≤ (((n4 : Nat) : Int) + (1 : Int)) ∧ (((n4 : Nat) : Int) + (1 : Int)) ≤ 9223372036854775807) ∧ True) Tryd_mixed (by kernel_rfl) ⟨ob2, trivial⟩ ?_
            rw [hC1] at h
            exact loopQ_normal (_, (n4 + 1), l7) (Le.trans (Le.trans (Le.ren (s := ⟨28, [(0, .int .i64 x1), (3, .own 26), (4, .int .i64 ((n2 : Nat) : Int)), (5, .int .i64 (((n4 + 1) : Nat) : Int))], [(26, bL 28 1 eW 0#16 l7)], [], 0⟩) (swapN 26 5003) (swapN_inv 26 5003) rfl) (Le.mk (s' := ⟨28, [(0, .int .i64 x1), (3, .own 5003), (4, .int .i64 ((n2 : Nat) : Int)), (5, .int .i64 (((n4 + 1) : Nat) : Int))], [(5003, bL 28 1 eW 0#16 l7)], [], 0⟩) rfl rfl ⟨.refl _, .refl _, .refl _, .refl _, trivial⟩ ⟨⟨_, rfl, .refl _⟩, trivial⟩)) (Le.mk (s := ⟨28, [(0, .int .i64 x1), (3, .own 5003), (4, .int .i64 ((n2 : Nat) : Int)), (5, .int .i64 (((n4 + 1) : Nat) : Int))], [(5003, bL 28 1 eW 0#16 l7)], [], 0⟩) (s' := ⟨28, [(0, .int .i64 x1), (3, .own 5003), (4, .int .i64 ((n2 : Nat) : Int)), (5, .int .i64 (((n4 + 1) : Nat) : Int))], [(5003, bL 28 1 eW 0#16 l7)], [], 0⟩) rfl rfl ⟨.refl _, .refl _, .refl _, .refl _, trivial⟩ ⟨⟨_, rfl, .refl _⟩, trivial⟩)) h (Nat.lt_succ_self _)
        ·
          replace h := ite_fb hc2 h
          refine AWp.exit ?_
          refine thenQ_exit ?_
          refine thenQ_exit ?_
          refine blockQ_same ?_
          refine blockQ_normal ?_
          exact joinQ_normal (l5) (Le.mk (s := ⟨28, [(0, .int .i64 x1), (3, .own 5003), (4, .int .i64 ((n2 : Nat) : Int)), (5, .int .i64 ((n4 : Nat) : Int)), (14, .bool (decide (((n4 : Nat) : Int) < ((1 : Int) * 2 ^ ((x1).toNat)))))], [(5003, bL 28 1 eW 0#16 l5)], [], 0⟩) (s' := ⟨28, [(0, .int .i64 x1), (3, .own 5003), (4, .int .i64 ((n2 : Nat) : Int))], [(5003, bL 28 1 eW 0#16 l5)], [], 0⟩) rfl rfl ⟨.refl _, .refl _, .refl _, trivial⟩ ⟨⟨_, rfl, .refl _⟩, trivial⟩) h
      ·
        rintro l8 h
        replace h := (congrFun hK2 _).symm.trans h
        obtain ⟨ob3p, h⟩ := chk_some h
        have ob3 : -9223372036854775808 ≤ (((n2 : Nat) : Int) + (1 : Int)) ∧ (((n2 : Nat) : Int) + (1 : Int)) ≤ 9223372036854775807 := ⟨by omega, ob3p⟩
        refine AWp.regC [] [] [0, 3, 4] [5003] ⟨28, [(0, .int .i64 x1), (3, .own 5003), (4, .int .i64 (((n2 + 1) : Nat) : Int))], [(5003, bL 28 1 eW 0#16 l8)], [], 0⟩ ((-9223372036854775808 ≤ (((n2 : Nat) : Int) + (1 : Int)) ∧ (((n2 : Nat) : Int) + (1 : Int)) ≤ 9223372036854775807) ∧ True) Tryd_mixed (by kernel_rfl) ⟨ob3, trivial⟩ ?_
        rw [hC0] at h
        exact loopQ_normal (_, (n2 + 1), l8) (Le.mk (s := ⟨28, [(0, .int .i64 x1), (3, .own 5003), (4, .int .i64 (((n2 + 1) : Nat) : Int))], [(5003, bL 28 1 eW 0#16 l8)], [], 0⟩) (s' := ⟨28, [(0, .int .i64 x1), (3, .own 5003), (4, .int .i64 (((n2 + 1) : Nat) : Int))], [(5003, bL 28 1 eW 0#16 l8)], [], 0⟩) rfl rfl ⟨.refl _, .refl _, .refl _, trivial⟩ ⟨⟨_, rfl, .refl _⟩, trivial⟩) h (Nat.lt_succ_self _)
    ·
      replace h := ite_fb hc1 h
      refine AWp.exit ?_
      refine thenQ_exit ?_
      refine thenQ_exit ?_
      refine blockQ_same ?_
      exact joinQ_normal (l3) (Le.mk (s := ⟨28, [(0, .int .i64 x1), (3, .own 5003), (4, .int .i64 ((n2 : Nat) : Int)), (8, .bool (decide (((n2 : Nat) : Int) ≤ x1)))], [(5003, bL 28 1 eW 0#16 l3)], [], 0⟩) (s' := ⟨28, [(3, .own 5003)], [(5003, bL 28 1 eW 0#16 l3)], [], 0⟩) rfl rfl ⟨.refl _, trivial⟩ ⟨⟨_, rfl, .refl _⟩, trivial⟩) h
  ·
    rintro l9 h
    replace h := (congrFun hK1 _).symm.trans h
    refine AWp.seq ?_
    refine AWp.regC [] [] [2] [5003] ⟨28, [(2, .own 5003)], [(5003, bL 28 1 eW 0#16 l9)], [], 0⟩ (True) Tryd_mixed (by kernel_rfl) trivial ?_
    refine thenQ_normal ?_
    refine AWp.le (Le.trans (Le.ren (s := ⟨28, [(2, .own 5003)], [(5003, bL 28 1 eW 0#16 l9)], [], 0⟩) (swapN 5003 3000) (swapN_inv 5003 3000) rfl) (Le.mk (s' := ⟨28, [(2, .own 3000)], [(3000, bL 28 1 eW 0#16 l9)], [], 0⟩) rfl rfl ⟨.refl _, trivial⟩ ⟨⟨_, rfl, .refl _⟩, trivial⟩)) ?_
    have hret := Option.some.inj h
    subst hret
    refine AWp.le (Le.mk (s := ⟨28, [(2, .own 3000)], [(3000, bL 28 1 eW 0#16 l9)], [], 0⟩) (s' := ⟨28, [(2, .own 3000)], [(3000, bL 28 1 eW 0#16 l9)], [], 0⟩) rfl rfl ⟨.refl _, trivial⟩ ⟨⟨_, rfl, .refl _⟩, trivial⟩) ?_
    refine AWp.ret ?_
    exact bodyQ_ret _ rfl ⟨rfl, rfl⟩ rfl
def f9_Y70002 : (List (BitVec 16) × Int × Int × List (BitVec 16)) → (BitVec 16) → Option (Nat × (List (BitVec 16) × Int × Int × List (BitVec 16)))
  | (l7, i9, i8, l10), x11 =>
    chk (((l10).length + 1) * 2 ≤ 140737488355328) <|
    chk (0 ≤ i9 ∧ 1 ≤ (20 : Int)) <|
    chk (-9223372036854775808 ≤ (i9 % (20 : Int)) ∧ (i9 % (20 : Int)) ≤ 9223372036854775807) <|
    chk (-9223372036854775808 ≤ ((1 : Int) + (i9 % (20 : Int))) ∧ ((1 : Int) + (i9 % (20 : Int))) ≤ 9223372036854775807) <|
    if (((((l10 ++ [x11])).length : Nat) : Int) == ((1 : Int) + (i9 % (20 : Int)))) then (
    some (2, (l7, i9, i8, (l10 ++ [x11])))
    ) else (
    some (0, (l7, i9, i8, (l10 ++ [x11])))
    )
def f9_L0 (l14 : List (BitVec 16)) (K2 : (List (BitVec 16)) → Option Bool) (r16 : List (BitVec 16)) : Nat → (Nat × List (BitVec 16)) → Option Bool
  | 0, _ => none
  | k + 1, (n17, l18) =>
    if (decide (((n17 : Nat) : Int) < (((r16).length : Nat) : Int))) then (
    jn (fun (l21 : List (BitVec 16)) =>
    chk ((((n17 : Nat) : Int) + (1 : Int)) ≤ 9223372036854775807) <|
    (f9_L0 l14 K2 r16 k) ((n17 + 1), l21)
    ) fun (K3 : (List (BitVec 16)) → Option Bool) =>
    chk (((n17 : Nat) : Int) < (((r16).length : Nat) : Int)) <|
    chk (n17 < (r16).length) <|
    (f29 l14 (r16.getD n17 0#16)).bind fun (r19 : Bool) =>
    optc (r19 == true) (f29 l18 (r16.getD n17 0#16)) fun (r20 : Bool) =>
    if (r19 && (!r20)) then (
    chk (((l18).length + 1) * 2 ≤ 140737488355328) <|
    K3 (l18 ++ [(r16.getD n17 0#16)])
    ) else (
    K3 l18
    )
    ) else (
    K2 l18
    )
def f9 (x1 : List (BitVec 16)) (x2 : Int) (x3 : Int) : Option Bool :=
  (f10 ).bind fun (r4 : Bool) =>
  chk (((!r4) == false) = true → ((!r4) == false) = true → (decide (x2 > (7 : Int))) = true → (((!r4) == false) && ((decide (x2 > (7 : Int))) == true)) = true) <|
  if (((!r4) || ((decide (x2 > (7 : Int))) && (decide (x2 ≤ (12 : Int))))) || (decide ((((x1).length : Nat) : Int) > (20 : Int)))) then (
  (f10 ).bind fun (r5 : Bool) =>
  some r5
  ) else (
  jn (fun ((i13, l14, l15) : Int × List (BitVec 16) × List (BitVec 16)) =>
  jn (fun (l22 : List (BitVec 16)) =>
  (f18 l15 (l22.take (((min (((l22).length : Nat) : Int) ((1 : Int) + (i13 % (20 : Int))))).toNat))).bind fun (r23 : Bool) =>
  chk (0 ≤ i13 ∧ 1 ≤ (20 : Int)) <|
  chk (-9223372036854775808 ≤ (i13 % (20 : Int)) ∧ (i13 % (20 : Int)) ≤ 9223372036854775807) <|
  chk (-9223372036854775808 ≤ ((1 : Int) + (i13 % (20 : Int))) ∧ ((1 : Int) + (i13 % (20 : Int))) ≤ 9223372036854775807) <|
  chk (0 ≤ (min (((l22).length : Nat) : Int) ((1 : Int) + (i13 % (20 : Int)))) ∧ (min (((l22).length : Nat) : Int) ((1 : Int) + (i13 % (20 : Int)))) ≤ (((l22).length : Nat) : Int)) <|
  some r23
  ) fun (K2 : (List (BitVec 16)) → Option Bool) =>
  if ((decide (x2 ≥ (0 : Int))) && (decide (x2 ≤ (7 : Int)))) then (
  (f36 x2).bind fun (r16 : List (BitVec 16)) =>
  f9_L0 l14 K2 r16 FUEL (0, [])
  ) else (
  K2 []
  )
  ) fun (K1 : (Int × List (BitVec 16) × List (BitVec 16)) → Option Bool) =>
  (f34 x2 x1).bind fun (r6 : Int × List (BitVec 16)) =>
  (f57 f9_Y70002 r6.2 x3 r6.1 []).bind fun (r12 : Nat × List (BitVec 16) × Int × Int × List (BitVec 16)) =>
  chk (r12.1 ≠ 1) <|
  if r12.1 = 0 then (
  K1 (r12.2.2.1, r12.2.1, r12.2.2.2.2)
  ) else (
  if r12.1 = 2 then (
  K1 (r12.2.2.1, r12.2.1, r12.2.2.2.2)
  ) else (
  none
  )
  )
  )
set_option maxRecDepth 100000 in
theorem f9_ok  (x1 : List (BitVec 16)) (x2 : Int) (x3 : Int) (r : Bool) (h : f9 x1 x2 x3 = some r)  : Spec1 Tryd.prog 9 [(0, .elem 32 1 T0F 0 0), (2, .elem 20 1 T2F 0 0)] [] [] [vL 1 eW 0#16 x1, .int .i64 x2, .int .u8 x3] (.bool r) [] := by
  unfold f9 at h
  refine Spec1.body 0 _ _ Tryd.func9 rfl Tryd.ntmps9 rfl rfl ?_
  refine AWp.seq ?_
  refine AWp.regC [] [] [1, 3, 5, 1000000, 1000002] [3, 5] ⟨81, [(1, .int .i64 x2), (3, .ptr 3 0), (5, .ptr 5 0), (1000000, .elem 32 1 T0F 0 0), (1000002, .elem 20 1 T2F 0 0)], [(3, .cells 22 [vL 1 eW 0#16 x1]), (5, .cells 5 [.int .u8 x3])], [], 0⟩ (True) Tryd_mixed (by kernel_rfl) trivial ?_
  refine thenQ_normal ?_
  refine AWp.seq ?_
  refine AWp.seq ?_
  obtain ⟨r4, hr4, h⟩ := bind_ok h
  have ob0 : ((!r4) == false) = true → ((!r4) == false) = true := fun h => h
  have ob1 : ((!r4) == false) = true → ((!r4) == false) = true := fun h => h
  have ob2 : (((!r4) == false) && ((decide (x2 > (7 : Int))) == true)) = true → (((!r4) == false) && ((decide (x2 > (7 : Int))) == true)) = true := fun h => h
  obtain ⟨ob3, h⟩ := chk_some h
  have ob4 : ((!r4) == false) = true → ((!r4) == false) = true := fun h => h
  have ob5 : true = true → (!r4) = false → ((!r4) == false) = true := fun _ h => beq_iff_eq.2 h
  have ob6 : (((!r4) || ((decide (x2 > (7 : Int))) && (decide (x2 ≤ (12 : Int))))) == false) = true → (((!r4) || ((decide (x2 > (7 : Int))) && (decide (x2 ≤ (12 : Int))))) == false) = true := fun h => h
  have ob7 : (((!r4) || ((decide (x2 > (7 : Int))) && (decide (x2 ≤ (12 : Int))))) == false) = true → (((!r4) || ((decide (x2 > (7 : Int))) && (decide (x2 ≤ (12 : Int))))) == false) = true := fun h => h
  have ob8 : true = true → ((!r4) || ((decide (x2 > (7 : Int))) && (decide (x2 ≤ (12 : Int))))) = false → (((!r4) || ((decide (x2 > (7 : Int))) && (decide (x2 ≤ (12 : Int))))) == false) = true := fun _ h => beq_iff_eq.2 h
  refine AWp.regC [] [(0, ⟨[], [], [], [], .bool r4, [], [], [0, 2]⟩)] [1, 3, 5, 26, 1000000, 1000002] [3, 5] ⟨81, [(1, .int .i64 x2), (3, .ptr 3 0), (5, .ptr 5 0), (26, .bool (((!r4) || ((decide (x2 > (7 : Int))) && (decide (x2 ≤ (12 : Int))))) || (decide ((((x1).length : Nat) : Int) > (20 : Int))))), (1000000, .elem 32 1 T0F 0 0), (1000002, .elem 20 1 T2F 0 0)], [(3, .cells 22 [vL 1 eW 0#16 x1]), (5, .cells 5 [.int .u8 x3])], [], 0⟩ ((callP Tryd.prog true 10 [(0, .elem 32 1 T0F 0 0), (2, .elem 20 1 T2F 0 0)] [] [] [] [] [] [] (.bool r4) []) ∧ ((((!r4) == false) = true → ((!r4) == false) = true) ∧ True) ∧ ((((!r4) == false) = true → ((!r4) == false) = true) ∧ True) ∧ (((((!r4) == false) && ((decide (x2 > (7 : Int))) == true)) = true → (((!r4) == false) && ((decide (x2 > (7 : Int))) == true)) = true) ∧ True) ∧ ((((!r4) == false) = true → ((!r4) == false) = true → (decide (x2 > (7 : Int))) = true → (((!r4) == false) && ((decide (x2 > (7 : Int))) == true)) = true) ∧ (((!r4) == false) = true → ((!r4) == false) = true) ∧ True) ∧ (true = true → (!r4) = false → ((!r4) == false) = true) ∧ (((((!r4) || ((decide (x2 > (7 : Int))) && (decide (x2 ≤ (12 : Int))))) == false) = true → (((!r4) || ((decide (x2 > (7 : Int))) && (decide (x2 ≤ (12 : Int))))) == false) = true) ∧ True) ∧ (((((!r4) || ((decide (x2 > (7 : Int))) && (decide (x2 ≤ (12 : Int))))) == false) = true → (((!r4) || ((decide (x2 > (7 : Int))) && (decide (x2 ≤ (12 : Int))))) == false) = true) ∧ True) ∧ (true = true → ((!r4) || ((decide (x2 > (7 : Int))) && (decide (x2 ≤ (12 : Int))))) = false → (((!r4) || ((decide (x2 > (7 : Int))) && (decide (x2 ≤ (12 : Int))))) == false) = true) ∧ True) Tryd_mixed (by kernel_rfl) ⟨⟨fun _ => (f10_ok  r4 hr4), fun _ => trivial, .inl rfl⟩, ⟨ob0, trivial⟩, ⟨ob1, trivial⟩, ⟨ob2, trivial⟩, ⟨ob3, ob4, trivial⟩, ob5, ⟨ob6, trivial⟩, ⟨ob7, trivial⟩, ob8, trivial⟩ ?_
  refine thenQ_normal ?_
  refine AWp.cond (b := (((!r4) || ((decide (x2 > (7 : Int))) && (decide (x2 ≤ (12 : Int))))) || (decide ((((x1).length : Nat) : Int) > (20 : Int))))) (by kernel_rfl) (fun hc1 => ?_) (fun hc1 => ?_)
  ·
    replace h := ite_tb hc1 h
    refine AWp.seq ?_
    obtain ⟨r5, hr5, h⟩ := bind_ok h
    refine AWp.regC [] [(0, ⟨[], [], [], [], .bool r5, [], [], [0, 2]⟩)] [6, 1000000, 1000002] [] ⟨81, [(6, .bool r5), (1000000, .elem 32 1 T0F 0 0), (1000002, .elem 20 1 T2F 0 0)], [], [], 0⟩ ((callP Tryd.prog true 10 [(0, .elem 32 1 T0F 0 0), (2, .elem 20 1 T2F 0 0)] [] [] [] [] [] [] (.bool r5) []) ∧ True) Tryd_mixed (by kernel_rfl) ⟨⟨fun _ => (f10_ok  r5 hr5), fun _ => trivial, .inl rfl⟩, trivial⟩ ?_
    refine thenQ_normal ?_
    have hret := Option.some.inj h
    subst hret
    refine AWp.le (Le.mk (s := ⟨81, [(6, .bool r5), (1000000, .elem 32 1 T0F 0 0), (1000002, .elem 20 1 T2F 0 0)], [], [], 0⟩) (s' := ⟨81, [(6, .bool r5)], [], [], 0⟩) rfl rfl ⟨.refl _, trivial⟩ trivial) ?_
    refine AWp.ret ?_
    refine thenQ_ret ?_
    exact bodyQ_ret _ rfl ⟨rfl, rfl⟩ rfl
  ·
    replace h := ite_fb hc1 h
    refine AWp.skip ?_
    refine thenQ_normal ?_
    refine AWp.seq ?_
    refine AWp.regC [] [] [1, 3, 5, 7, 8, 1000000, 1000002] [3, 5, 7] ⟨81, [(1, .int .i64 x2), (3, .ptr 3 0), (5, .ptr 5 0), (7, .ptr 7 0), (8, .nils), (1000000, .elem 32 1 T0F 0 0), (1000002, .elem 20 1 T2F 0 0)], [(3, .cells 22 [vL 1 eW 0#16 x1]), (5, .cells 5 [.int .u8 x3]), (7, .cells 22 [.nils])], [], 0⟩ (True) Tryd_mixed (by kernel_rfl) trivial ?_
    refine thenQ_normal ?_
    obtain ⟨K1, hK1, h⟩ := jn_some h
    refine AWp.join (α := Int × List (BitVec 16) × List (BitVec 16)) (fun (x : Int × List (BitVec 16) × List (BitVec 16)) => match x with | (i13, l14, l15) => ⟨81, [(1, .int .i64 x2), (3, .ptr 3 0), (5, .ptr 5 0), (7, .ptr 7 0), (8, .nils), (1000000, .elem 32 1 T0F 0 0), (1000002, .elem 20 1 T2F 0 0)], [(3, .cells 22 [vL 1 eW 0#16 l14]), (5, .cells 5 [.int .u8 i13]), (7, .cells 22 [.own 6200]), (6200, bL 28 1 eW 0#16 l15)], [], 0⟩) (fun x => K1 x = some r) ?_ ?_
    ·
      refine AWp.seq ?_
      obtain ⟨r6, hr6, h⟩ := bind_ok h
      refine AWp.regC [] [(2, ⟨[.int .i64 x2, .fn (.func 35) [.ptr 3 0]], [3], [3], [(3, .cells 22 [vL 1 eW 0#16 r6.2]), (6001, .cells 3 [.int .i64 r6.1]), (6002, .cells 48 [.fn (.func 35) [.ptr 3 0]])], .fn (.func 57) [.ptr 6001 0, .ptr 6002 0], [6001, 6002], [], []⟩)] [1, 3, 5, 7, 8, 30, 1000000, 1000002] [3, 5, 7, 6001, 6002] ⟨81, [(1, .int .i64 x2), (3, .ptr 3 0), (5, .ptr 5 0), (7, .ptr 7 0), (8, .nils), (30, .fn (.func 57) [.ptr 6001 0, .ptr 6002 0]), (1000000, .elem 32 1 T0F 0 0), (1000002, .elem 20 1 T2F 0 0)], [(3, .cells 22 [vL 1 eW 0#16 r6.2]), (5, .cells 5 [.int .u8 x3]), (7, .cells 22 [.nils]), (6001, .cells 3 [.int .i64 r6.1]), (6002, .cells 48 [.fn (.func 35) [.ptr 3 0]])], [], 0⟩ ((callP Tryd.prog true 34 [] [3] [(3, .cells 22 [vL 1 eW 0#16 x1])] [] [] [.int .i64 x2, .fn (.func 35) [.ptr 3 0]] [.int .i64 x2, .fn (.func 35) [.ptr 3 0]] (.fn (.func 57) [.ptr 6001 0, .ptr 6002 0]) [(3, .cells 22 [vL 1 eW 0#16 r6.2]), (6001, .cells 3 [.int .i64 r6.1]), (6002, .cells 48 [.fn (.func 35) [.ptr 3 0]])]) ∧ True) Tryd_mixed (by kernel_rfl) ⟨⟨fun _ => (Spec1.ren (swapN 3501 6002) (swapN_inv 3501 6002) rfl (Spec1.ren (swapN 3500 6001) (swapN_inv 3500 6001) rfl (Spec1.ren (swapN 2000 3) (swapN_inv 2000 3) rfl (f34_ok x2 x1 r6 hr6)))), fun _ => ⟨.refl _, .refl _, trivial⟩, .inl rfl⟩, trivial⟩ ?_
      refine thenQ_normal ?_
      refine AWp.block ?_
      refine AWp.le (Le.trans (Le.trans (Le.nilOwnC (s := ⟨81, [(1, .int .i64 x2), (3, .ptr 3 0), (5, .ptr 5 0), (7, .ptr 7 0), (8, .nils), (30, .fn (.func 57) [.ptr 6001 0, .ptr 6002 0]), (1000000, .elem 32 1 T0F 0 0), (1000002, .elem 20 1 T2F 0 0)], [(3, .cells 22 [vL 1 eW 0#16 r6.2]), (5, .cells 5 [.int .u8 x3]), (7, .cells 22 [.nils]), (6001, .cells 3 [.int .i64 r6.1]), (6002, .cells 48 [.fn (.func 35) [.ptr 3 0]])], [], 0⟩) 7 0 6200 28 1 (encF eW 0#16 []) rfl rfl rfl) (Le.mk (s' := ⟨81, [(1, .int .i64 x2), (3, .ptr 3 0), (5, .ptr 5 0), (7, .ptr 7 0), (8, .nils), (30, .fn (.func 57) [.ptr 6001 0, .ptr 6002 0]), (1000000, .elem 32 1 T0F 0 0), (1000002, .elem 20 1 T2F 0 0)], [(3, .cells 22 [vL 1 eW 0#16 r6.2]), (5, .cells 5 [.int .u8 x3]), (7, .cells 22 [.own 6200]), (6001, .cells 3 [.int .i64 r6.1]), (6002, .cells 48 [.fn (.func 35) [.ptr 3 0]]), (6200, bL 28 1 eW 0#16 [])], [], 0⟩) rfl rfl ⟨.refl _, .refl _, .refl _, .refl _, .refl _, .refl _, .refl _, .refl _, trivial⟩ ⟨⟨_, rfl, .refl _⟩, ⟨_, rfl, .refl _⟩, ⟨_, rfl, .refl _⟩, ⟨_, rfl, .refl _⟩, ⟨_, rfl, .refl _⟩, ⟨_, rfl, .refl _⟩, trivial⟩)) (Le.mk (s := ⟨81, [(1, .int .i64 x2), (3, .ptr 3 0), (5, .ptr 5 0), (7, .ptr 7 0), (8, .nils), (30, .fn (.func 57) [.ptr 6001 0, .ptr 6002 0]), (1000000, .elem 32 1 T0F 0 0), (1000002, .elem 20 1 T2F 0 0)], [(3, .cells 22 [vL 1 eW 0#16 r6.2]), (5, .cells 5 [.int .u8 x3]), (7, .cells 22 [.own 6200]), (6001, .cells 3 [.int .i64 r6.1]), (6002, .cells 48 [.fn (.func 35) [.ptr 3 0]]), (6200, bL 28 1 eW 0#16 [])], [], 0⟩) (s' := ⟨81, [(1, .int .i64 x2), (3, .ptr 3 0), (5, .ptr 5 0), (7, .ptr 7 0), (8, .nils), (30, .fn (.func 57) [.ptr 6001 0, .ptr 6002 0]), (1000000, .elem 32 1 T0F 0 0), (1000002, .elem 20 1 T2F 0 0)], [(3, .cells 22 [vL 1 eW 0#16 r6.2]), (5, .cells 5 [.int .u8 x3]), (7, .cells 22 [.own 6200]), (6001, .cells 3 [.int .i64 r6.1]), (6002, .cells 48 [.fn (.func 35) [.ptr 3 0]]), (6200, bL 28 1 eW 0#16 [])], [], 0⟩) rfl rfl ⟨.refl _, .refl _, .refl _, .refl _, .refl _, .refl _, .refl _, .refl _, trivial⟩ ⟨⟨_, rfl, .refl _⟩, ⟨_, rfl, .refl _⟩, ⟨_, rfl, .refl _⟩, ⟨_, rfl, .refl _⟩, ⟨_, rfl, .refl _⟩, ⟨_, rfl, .refl _⟩, trivial⟩)) ?_
      obtain ⟨r12, hr12, h⟩ := bind_ok h
      obtain ⟨hkr12, h⟩ := chk_some h
      refine AWp.rangeFunc (s := ⟨81, [(1, .int .i64 x2), (3, .ptr 3 0), (5, .ptr 5 0), (7, .ptr 7 0), (8, .nils), (30, .fn (.func 57) [.ptr 6001 0, .ptr 6002 0]), (1000000, .elem 32 1 T0F 0 0), (1000002, .elem 20 1 T2F 0 0)], [(3, .cells 22 [vL 1 eW 0#16 r6.2]), (5, .cells 5 [.int .u8 x3]), (7, .cells 22 [.own 6200]), (6001, .cells 3 [.int .i64 r6.1]), (6002, .cells 48 [.fn (.func 35) [.ptr 3 0]]), (6200, bL 28 1 eW 0#16 [])], [], 0⟩) 70002 [5, 7] [5, 7, 1000000, 1000002] [.exit 0] 57 [.ptr 6001 0, .ptr 6002 0] ⟨[.own 70002, .ptr 6001 0, .ptr 6002 0], [3, 5, 7, 6001, 6002, 6200], [70002, 3, 5, 7, 6001, 6002], [], .tup [], [6200], [], [0]⟩ r12.1 [(3, .cells 22 [vL 1 eW 0#16 r12.2.1]), (5, .cells 5 [.int .u8 r12.2.2.1]), (7, .cells 22 [.own 6200]), (6001, .cells 3 [.int .i64 r12.2.2.2.1]), (6002, .cells 48 [.fn (.func 35) [.ptr 3 0]]), (6200, bL 28 1 eW 0#16 r12.2.2.2.2)] ⟨81, [(1, .int .i64 x2), (3, .ptr 3 0), (5, .ptr 5 0), (7, .ptr 7 0), (8, .nils), (30, .fn (.func 57) [.ptr 6001 0, .ptr 6002 0]), (1000000, .elem 32 1 T0F 0 0), (1000002, .elem 20 1 T2F 0 0)], [(3, .cells 22 [vL 1 eW 0#16 r12.2.1]), (5, .cells 5 [.int .u8 r12.2.2.1]), (7, .cells 22 [.own 6200]), (6001, .cells 3 [.int .i64 r12.2.2.2.1]), (6002, .cells 48 [.fn (.func 35) [.ptr 3 0]]), (6200, bL 28 1 eW 0#16 r12.2.2.2.2)], [], 0⟩ rfl (by kernel_rfl) (by kernel_rfl) (fun g0 => ?_) (fun C => (by kernel_rfl)) (by kernel_rfl) (by kernel_rfl) (by kernel_rfl) (by kernel_rfl) hkr12 (by kernel_rfl) ?_ ?_
      ·
        refine ⟨fun _ => (f57_ok _ f9_Y70002 r6.2 x3 r6.1 [] r12 hr12 ?_), fun _ => ⟨.refl _, .refl _, .refl _, trivial⟩, .inl rfl⟩
        clear h
        rintro ⟨l7, i9, i8, l10⟩ x11 rY70002 h
        replace h := (f9_Y70002.eq_1 ..).symm.trans h
        refine YSpec.body 0 rfl (of_decide_eq_true (by kernel_rfl)) (of_decide_eq_true (by kernel_rfl)) (within_tget (by kernel_rfl)) (by kernel_rfl) (by kernel_rfl) (by kernel_rfl) (by kernel_rfl) ?_
        refine AWp.le (Le.mk (s' := ⟨81, [(31, .b16 x11), (5, .ptr 5 0), (7, .ptr 7 0), (1000000, .elem 32 1 T0F 0 0), (1000002, .elem 20 1 T2F 0 0)], [(3, .cells 22 [vL 1 eW 0#16 l7]), (5, .cells 5 [.int .u8 i9]), (7, .cells 22 [.own 6200]), (6001, .cells 3 [.int .i64 i8]), (6002, .cells 48 [.fn (.func 35) [.ptr 3 0]]), (6200, bL 28 1 eW 0#16 l10)], [3, 5, 7, 6001, 6002], 0⟩) rfl rfl ⟨.refl _, .refl _, .refl _, .refl _, .refl _, trivial⟩ ⟨⟨_, rfl, .refl _⟩, ⟨_, rfl, .refl _⟩, ⟨_, rfl, .refl _⟩, ⟨_, rfl, .refl _⟩, ⟨_, rfl, .refl _⟩, ⟨_, rfl, .refl _⟩, trivial⟩) ?_
        refine AWp.regC [] [] [5, 7, 9, 1000000, 1000002] [3, 5, 7, 6001, 6002, 6200] ⟨81, [(5, .ptr 5 0), (7, .ptr 7 0), (9, .b16 x11), (1000000, .elem 32 1 T0F 0 0), (1000002, .elem 20 1 T2F 0 0)], [(3, .cells 22 [vL 1 eW 0#16 l7]), (5, .cells 5 [.int .u8 i9]), (7, .cells 22 [.own 6200]), (6001, .cells 3 [.int .i64 i8]), (6002, .cells 48 [.fn (.func 35) [.ptr 3 0]]), (6200, bL 28 1 eW 0#16 l10)], [3, 5, 7, 6001, 6002], 0⟩ (True) Tryd_mixed (by kernel_rfl) trivial ?_
        refine ⟨rfl, rfl, ?_⟩
        refine AWp.block ?_
        refine AWp.seq ?_
        obtain ⟨ob9, h⟩ := chk_some h
        refine AWp.regC [] [] [5, 7, 1000000, 1000002] [3, 5, 7, 6001, 6002, 6200] ⟨81, [(5, .ptr 5 0), (7, .ptr 7 0), (1000000, .elem 32 1 T0F 0 0), (1000002, .elem 20 1 T2F 0 0)], [(3, .cells 22 [vL 1 eW 0#16 l7]), (5, .cells 5 [.int .u8 i9]), (7, .cells 22 [.own 6200]), (6001, .cells 3 [.int .i64 i8]), (6002, .cells 48 [.fn (.func 35) [.ptr 3 0]]), (6200, .rows 28 1 ((l10).length + 1) (appF (l10).length (encF eW 0#16 l10) (lstF 1 [.b16 x11])))], [3, 5, 7, 6001, 6002], 0⟩ ((((l10).length + 1) * 2 ≤ 140737488355328) ∧ (True) ∧ True) Tryd_mixed (by kernel_rfl) ⟨ob9, trivial, trivial⟩ ?_
        refine thenQ_normal ?_
        refine AWp.le (Le.mk (s := ⟨81, [(5, .ptr 5 0), (7, .ptr 7 0), (1000000, .elem 32 1 T0F 0 0), (1000002, .elem 20 1 T2F 0 0)], [(3, .cells 22 [vL 1 eW 0#16 l7]), (5, .cells 5 [.int .u8 i9]), (7, .cells 22 [.own 6200]), (6001, .cells 3 [.int .i64 i8]), (6002, .cells 48 [.fn (.func 35) [.ptr 3 0]]), (6200, .rows 28 1 ((l10).length + 1) (appF (l10).length (encF eW 0#16 l10) (lstF 1 [.b16 x11])))], [3, 5, 7, 6001, 6002], 0⟩) (s' := ⟨81, [(5, .ptr 5 0), (7, .ptr 7 0), (1000000, .elem 32 1 T0F 0 0), (1000002, .elem 20 1 T2F 0 0)], [(3, .cells 22 [vL 1 eW 0#16 l7]), (5, .cells 5 [.int .u8 i9]), (7, .cells 22 [.own 6200]), (6001, .cells 3 [.int .i64 i8]), (6002, .cells 48 [.fn (.func 35) [.ptr 3 0]]), (6200, bL 28 1 eW 0#16 (l10 ++ [x11]))], [3, 5, 7, 6001, 6002], 0⟩) rfl rfl ⟨.refl _, .refl _, .refl _, .refl _, trivial⟩ ⟨⟨_, rfl, .refl _⟩, ⟨_, rfl, .refl _⟩, ⟨_, rfl, .refl _⟩, ⟨_, rfl, .refl _⟩, ⟨_, rfl, .refl _⟩, ⟨_, rfl, (BLe.of (RL.app (RL.self _) (RL.lst (enc := eW) [x11] rfl rfl (fun _ => rfl))))⟩, trivial⟩) ?_
        refine AWp.seq ?_
        obtain ⟨ob10, h⟩ := chk_some h
        obtain ⟨ob11, h⟩ := chk_some h
        obtain ⟨ob12, h⟩ := chk_some h
        refine AWp.regC [] [] [42, 1000000, 1000002] [3, 5, 7, 6001, 6002, 6200] ⟨81, [(42, .bool (((((l10 ++ [x11])).length : Nat) : Int) == ((1 : Int) + (i9 % (20 : Int))))), (1000000, .elem 32 1 T0F 0 0), (1000002, .elem 20 1 T2F 0 0)], [(3, .cells 22 [vL 1 eW 0#16 l7]), (5, .cells 5 [.int .u8 i9]), (7, .cells 22 [.own 6200]), (6001, .cells 3 [.int .i64 i8]), (6002, .cells 48 [.fn (.func 35) [.ptr 3 0]]), (6200, bL 28 1 eW 0#16 (l10 ++ [x11]))], [3, 5, 7, 6001, 6002], 0⟩ ((0 ≤ i9 ∧ 1 ≤ (20 : Int)) ∧ (-9223372036854775808 ≤ (i9 % (20 : Int)) ∧ (i9 % (20 : Int)) ≤ 9223372036854775807) ∧ (-9223372036854775808 ≤ ((1 : Int) + (i9 % (20 : Int))) ∧ ((1 : Int) + (i9 % (20 : Int))) ≤ 9223372036854775807) ∧ True) Tryd_mixed (by kernel_rfl) ⟨ob10, ob11, ob12, trivial⟩ ?_
        refine thenQ_normal ?_
        refine AWp.cond (b := (((((l10 ++ [x11])).length : Nat) : Int) == ((1 : Int) + (i9 % (20 : Int))))) (by kernel_rfl) (fun hc2 => ?_) (fun hc2 => ?_)
        ·
          replace h := ite_tb hc2 h
          refine AWp.exit ?_
          refine blockQ_other (by decide) ?_
          have hret := Option.some.inj h
          subst hret
          exact ⟨_, (Le.mk (s := ⟨81, [(42, .bool (((((l10 ++ [x11])).length : Nat) : Int) == ((1 : Int) + (i9 % (20 : Int))))), (1000000, .elem 32 1 T0F 0 0), (1000002, .elem 20 1 T2F 0 0)], [(3, .cells 22 [vL 1 eW 0#16 l7]), (5, .cells 5 [.int .u8 i9]), (7, .cells 22 [.own 6200]), (6001, .cells 3 [.int .i64 i8]), (6002, .cells 48 [.fn (.func 35) [.ptr 3 0]]), (6200, bL 28 1 eW 0#16 (l10 ++ [x11]))], [3, 5, 7, 6001, 6002], 0⟩) (s' := ⟨81, [], [(3, .cells 22 [vL 1 eW 0#16 l7]), (5, .cells 5 [.int .u8 i9]), (7, .cells 22 [.own 6200]), (6001, .cells 3 [.int .i64 i8]), (6002, .cells 48 [.fn (.func 35) [.ptr 3 0]]), (6200, bL 28 1 eW 0#16 (l10 ++ [x11]))], [3, 5, 7, 6001, 6002], 0⟩) rfl rfl trivial ⟨⟨_, rfl, .refl _⟩, ⟨_, rfl, .refl _⟩, ⟨_, rfl, .refl _⟩, ⟨_, rfl, .refl _⟩, ⟨_, rfl, .refl _⟩, ⟨_, rfl, .refl _⟩, trivial⟩), rfl, rfl, .inr ⟨0, _, rfl, rfl, .inr ⟨0, rfl, rfl⟩⟩⟩
        ·
          replace h := ite_fb hc2 h
          refine AWp.skip ?_
          refine blockQ_normal ?_
          have hret := Option.some.inj h
          subst hret
          exact ⟨_, (Le.mk (s := ⟨81, [(42, .bool (((((l10 ++ [x11])).length : Nat) : Int) == ((1 : Int) + (i9 % (20 : Int))))), (1000000, .elem 32 1 T0F 0 0), (1000002, .elem 20 1 T2F 0 0)], [(3, .cells 22 [vL 1 eW 0#16 l7]), (5, .cells 5 [.int .u8 i9]), (7, .cells 22 [.own 6200]), (6001, .cells 3 [.int .i64 i8]), (6002, .cells 48 [.fn (.func 35) [.ptr 3 0]]), (6200, bL 28 1 eW 0#16 (l10 ++ [x11]))], [3, 5, 7, 6001, 6002], 0⟩) (s' := ⟨81, [], [(3, .cells 22 [vL 1 eW 0#16 l7]), (5, .cells 5 [.int .u8 i9]), (7, .cells 22 [.own 6200]), (6001, .cells 3 [.int .i64 i8]), (6002, .cells 48 [.fn (.func 35) [.ptr 3 0]]), (6200, bL 28 1 eW 0#16 (l10 ++ [x11]))], [3, 5, 7, 6001, 6002], 0⟩) rfl rfl trivial ⟨⟨_, rfl, .refl _⟩, ⟨_, rfl, .refl _⟩, ⟨_, rfl, .refl _⟩, ⟨_, rfl, .refl _⟩, ⟨_, rfl, .refl _⟩, ⟨_, rfl, .refl _⟩, trivial⟩), rfl, rfl, .inl ⟨rfl, rfl⟩⟩
      ·
        intro hk0
        replace h := ite_t hk0 h
        refine blockQ_normal ?_
        exact joinQ_normal (r12.2.2.1, r12.2.1, r12.2.2.2.2) (Le.mk (s := ⟨81, [(1, .int .i64 x2), (3, .ptr 3 0), (5, .ptr 5 0), (7, .ptr 7 0), (8, .nils), (30, .fn (.func 57) [.ptr 6001 0, .ptr 6002 0]), (1000000, .elem 32 1 T0F 0 0), (1000002, .elem 20 1 T2F 0 0)], [(3, .cells 22 [vL 1 eW 0#16 r12.2.1]), (5, .cells 5 [.int .u8 r12.2.2.1]), (7, .cells 22 [.own 6200]), (6001, .cells 3 [.int .i64 r12.2.2.2.1]), (6002, .cells 48 [.fn (.func 35) [.ptr 3 0]]), (6200, bL 28 1 eW 0#16 r12.2.2.2.2)], [], 0⟩) (s' := ⟨81, [(1, .int .i64 x2), (3, .ptr 3 0), (5, .ptr 5 0), (7, .ptr 7 0), (8, .nils), (1000000, .elem 32 1 T0F 0 0), (1000002, .elem 20 1 T2F 0 0)], [(3, .cells 22 [vL 1 eW 0#16 r12.2.1]), (5, .cells 5 [.int .u8 r12.2.2.1]), (7, .cells 22 [.own 6200]), (6200, bL 28 1 eW 0#16 r12.2.2.2.2)], [], 0⟩) rfl rfl ⟨.refl _, .refl _, .refl _, .refl _, .refl _, .refl _, .refl _, trivial⟩ ⟨⟨_, rfl, .refl _⟩, ⟨_, rfl, .refl _⟩, ⟨_, rfl, .refl _⟩, ⟨_, rfl, .refl _⟩, trivial⟩) h
      ·
        intro j hkj
        replace h := ite_f (by omega) h
        cases j with
        | zero =>
          replace h := ite_t (by omega) h
          refine ⟨_, rfl, ?_⟩
          refine AWp.exit ?_
          refine blockQ_same ?_
          exact joinQ_normal (r12.2.2.1, r12.2.1, r12.2.2.2.2) (Le.mk (s := ⟨81, [(1, .int .i64 x2), (3, .ptr 3 0), (5, .ptr 5 0), (7, .ptr 7 0), (8, .nils), (30, .fn (.func 57) [.ptr 6001 0, .ptr 6002 0]), (1000000, .elem 32 1 T0F 0 0), (1000002, .elem 20 1 T2F 0 0)], [(3, .cells 22 [vL 1 eW 0#16 r12.2.1]), (5, .cells 5 [.int .u8 r12.2.2.1]), (7, .cells 22 [.own 6200]), (6001, .cells 3 [.int .i64 r12.2.2.2.1]), (6002, .cells 48 [.fn (.func 35) [.ptr 3 0]]), (6200, bL 28 1 eW 0#16 r12.2.2.2.2)], [], 0⟩) (s' := ⟨81, [(1, .int .i64 x2), (3, .ptr 3 0), (5, .ptr 5 0), (7, .ptr 7 0), (8, .nils), (1000000, .elem 32 1 T0F 0 0), (1000002, .elem 20 1 T2F 0 0)], [(3, .cells 22 [vL 1 eW 0#16 r12.2.1]), (5, .cells 5 [.int .u8 r12.2.2.1]), (7, .cells 22 [.own 6200]), (6200, bL 28 1 eW 0#16 r12.2.2.2.2)], [], 0⟩) rfl rfl ⟨.refl _, .refl _, .refl _, .refl _, .refl _, .refl _, .refl _, trivial⟩ ⟨⟨_, rfl, .refl _⟩, ⟨_, rfl, .refl _⟩, ⟨_, rfl, .refl _⟩, ⟨_, rfl, .refl _⟩, trivial⟩) h
        | succ j =>
        replace h := ite_f (by omega) h
        exact nomatch (show (none : Option Bool) = some r from h)
    ·
      rintro ⟨i13, l14, l15⟩ h
      replace h := (congrFun hK1 _).symm.trans h
      obtain ⟨K2, hK2, h⟩ := jn_some h
      refine AWp.join (α := List (BitVec 16)) (fun (l22 : List (BitVec 16)) => ⟨81, [(5, .ptr 5 0), (7, .ptr 7 0), (8, .own 5008), (1000000, .elem 32 1 T0F 0 0), (1000002, .elem 20 1 T2F 0 0)], [(5, .cells 5 [.int .u8 i13]), (7, .cells 22 [.own 6200]), (5008, bL 28 1 eW 0#16 l22), (6200, bL 28 1 eW 0#16 l15)], [], 0⟩) (fun x => K2 x = some r) ?_ ?_
      ·
        refine AWp.seq ?_
        have ob13 : ((decide (x2 ≥ (0 : Int))) == true) = true → ((decide (x2 ≥ (0 : Int))) == true) = true := fun h => h
        have ob14 : true = true → (decide (x2 ≥ (0 : Int))) = true → ((decide (x2 ≥ (0 : Int))) == true) = true := fun _ h => beq_iff_eq.2 h
        refine AWp.regC [] [] [1, 3, 5, 7, 8, 48, 1000000, 1000002] [3, 5, 7, 6200] ⟨81, [(1, .int .i64 x2), (3, .ptr 3 0), (5, .ptr 5 0), (7, .ptr 7 0), (8, .nils), (48, .bool ((decide (x2 ≥ (0 : Int))) && (decide (x2 ≤ (7 : Int))))), (1000000, .elem 32 1 T0F 0 0), (1000002, .elem 20 1 T2F 0 0)], [(3, .cells 22 [vL 1 eW 0#16 l14]), (5, .cells 5 [.int .u8 i13]), (7, .cells 22 [.own 6200]), (6200, bL 28 1 eW 0#16 l15)], [], 0⟩ (((((decide (x2 ≥ (0 : Int))) == true) = true → ((decide (x2 ≥ (0 : Int))) == true) = true) ∧ True) ∧ (true = true → (decide (x2 ≥ (0 : Int))) = true → ((decide (x2 ≥ (0 : Int))) == true) = true) ∧ True) Tryd_mixed (by kernel_rfl) ⟨⟨ob13, trivial⟩, ob14, trivial⟩ ?_
        refine thenQ_normal ?_
        refine AWp.cond (b := ((decide (x2 ≥ (0 : Int))) && (decide (x2 ≤ (7 : Int))))) (by kernel_rfl) (fun hc3 => ?_) (fun hc3 => ?_)
        ·
          replace h := ite_tb hc3 h
          refine AWp.seq ?_
          obtain ⟨r16, hr16, h⟩ := bind_ok h
          refine AWp.regC [] [(1, ⟨[.int .i64 x2], [], [], [(6003, bL 28 1 eW 0#16 r16)], .own 6003, [6003], [], []⟩)] [3, 5, 7, 8, 50, 51, 52, 1000000, 1000002] [3, 5, 7, 6003, 6200] ⟨81, [(3, .ptr 3 0), (5, .ptr 5 0), (7, .ptr 7 0), (8, .nils), (50, .own 6003), (51, .int .i64 (((r16).length : Nat) : Int)), (52, .int .i64 (0 : Int)), (1000000, .elem 32 1 T0F 0 0), (1000002, .elem 20 1 T2F 0 0)], [(3, .cells 22 [vL 1 eW 0#16 l14]), (5, .cells 5 [.int .u8 i13]), (7, .cells 22 [.own 6200]), (6003, bL 28 1 eW 0#16 r16), (6200, bL 28 1 eW 0#16 l15)], [], 0⟩ ((callP Tryd.prog true 36 [] [] [] [] [] [.int .i64 x2] [.int .i64 x2] (.own 6003) [(6003, bL 28 1 eW 0#16 r16)]) ∧ True) Tryd_mixed (by kernel_rfl) ⟨⟨fun _ => (Spec1.ren (swapN 3000 6003) (swapN_inv 3000 6003) rfl (f36_ok x2 r16 hr16)), fun _ => ⟨.refl _, trivial⟩, .inl rfl⟩, trivial⟩ ?_
          refine thenQ_normal ?_
          refine AWp.block ?_
          refine AWp.loopL (α := Nat × (Nat × List (BitVec 16))) (fun x => match x with | (_, n17, l18) => ⟨81, [(3, .ptr 3 0), (5, .ptr 5 0), (7, .ptr 7 0), (8, .own 5008), (50, .own 6003), (51, .int .i64 (((r16).length : Nat) : Int)), (52, .int .i64 ((n17 : Nat) : Int)), (1000000, .elem 32 1 T0F 0 0), (1000002, .elem 20 1 T2F 0 0)], [(3, .cells 22 [vL 1 eW 0#16 l14]), (5, .cells 5 [.int .u8 i13]), (7, .cells 22 [.own 6200]), (5008, bL 28 1 eW 0#16 l18), (6003, bL 28 1 eW 0#16 r16), (6200, bL 28 1 eW 0#16 l15)], [], 0⟩) (fun x => f9_L0 l14 K2 r16 x.1 x.2 = some r) (fun x => x.1) (FUEL, 0, []) (Le.trans (Le.trans (Le.nilOwn (s := ⟨81, [(3, .ptr 3 0), (5, .ptr 5 0), (7, .ptr 7 0), (8, .nils), (50, .own 6003), (51, .int .i64 (((r16).length : Nat) : Int)), (52, .int .i64 (0 : Int)), (1000000, .elem 32 1 T0F 0 0), (1000002, .elem 20 1 T2F 0 0)], [(3, .cells 22 [vL 1 eW 0#16 l14]), (5, .cells 5 [.int .u8 i13]), (7, .cells 22 [.own 6200]), (6003, bL 28 1 eW 0#16 r16), (6200, bL 28 1 eW 0#16 l15)], [], 0⟩) 8 5008 28 1 (encF eW 0#16 []) rfl rfl (Nat.le_of_ble_eq_true rfl)) (Le.mk (s' := ⟨81, [(3, .ptr 3 0), (5, .ptr 5 0), (7, .ptr 7 0), (8, .own 5008), (50, .own 6003), (51, .int .i64 (((r16).length : Nat) : Int)), (52, .int .i64 (0 : Int)), (1000000, .elem 32 1 T0F 0 0), (1000002, .elem 20 1 T2F 0 0)], [(3, .cells 22 [vL 1 eW 0#16 l14]), (5, .cells 5 [.int .u8 i13]), (7, .cells 22 [.own 6200]), (6003, bL 28 1 eW 0#16 r16), (6200, bL 28 1 eW 0#16 l15), (5008, bL 28 1 eW 0#16 [])], [], 0⟩) rfl rfl ⟨.refl _, .refl _, .refl _, .refl _, .refl _, .refl _, .refl _, .refl _, .refl _, trivial⟩ ⟨⟨_, rfl, .refl _⟩, ⟨_, rfl, .refl _⟩, ⟨_, rfl, .refl _⟩, ⟨_, rfl, .refl _⟩, ⟨_, rfl, .refl _⟩, ⟨_, rfl, .refl _⟩, trivial⟩)) (Le.mk (s := ⟨81, [(3, .ptr 3 0), (5, .ptr 5 0), (7, .ptr 7 0), (8, .own 5008), (50, .own 6003), (51, .int .i64 (((r16).length : Nat) : Int)), (52, .int .i64 (0 : Int)), (1000000, .elem 32 1 T0F 0 0), (1000002, .elem 20 1 T2F 0 0)], [(3, .cells 22 [vL 1 eW 0#16 l14]), (5, .cells 5 [.int .u8 i13]), (7, .cells 22 [.own 6200]), (6003, bL 28 1 eW 0#16 r16), (6200, bL 28 1 eW 0#16 l15), (5008, bL 28 1 eW 0#16 [])], [], 0⟩) (s' := ⟨81, [(3, .ptr 3 0), (5, .ptr 5 0), (7, .ptr 7 0), (8, .own 5008), (50, .own 6003), (51, .int .i64 (((r16).length : Nat) : Int)), (52, .int .i64 (0 : Int)), (1000000, .elem 32 1 T0F 0 0), (1000002, .elem 20 1 T2F 0 0)], [(3, .cells 22 [vL 1 eW 0#16 l14]), (5, .cells 5 [.int .u8 i13]), (7, .cells 22 [.own 6200]), (5008, bL 28 1 eW 0#16 []), (6003, bL 28 1 eW 0#16 r16), (6200, bL 28 1 eW 0#16 l15)], [], 0⟩) rfl rfl ⟨.refl _, .refl _, .refl _, .refl _, .refl _, .refl _, .refl _, .refl _, .refl _, trivial⟩ ⟨⟨_, rfl, .refl _⟩, ⟨_, rfl, .refl _⟩, ⟨_, rfl, .refl _⟩, ⟨_, rfl, .refl _⟩, ⟨_, rfl, .refl _⟩, ⟨_, rfl, .refl _⟩, trivial⟩)) h ?_
          rintro ⟨k0, n17, l18⟩ h
          cases k0 with
          | zero => exact nomatch (show (none : Option Bool) = some r from h)
          | succ k0 =>
          obtain ⟨C0, hC0⟩ : ∃ C, C = f9_L0 l14 K2 r16 k0 := ⟨_, rfl⟩
          replace h := (f9_L0.eq_2 ..).symm.trans h
          try rw [← hC0] at h
          refine AWp.seq ?_
          refine AWp.regC [] [] [3, 5, 7, 8, 50, 51, 52, 53, 1000000, 1000002] [3, 5, 7, 5008, 6003, 6200] ⟨81, [(3, .ptr 3 0), (5, .ptr 5 0), (7, .ptr 7 0), (8, .own 5008), (50, .own 6003), (51, .int .i64 (((r16).length : Nat) : Int)), (52, .int .i64 ((n17 : Nat) : Int)), (53, .bool (decide (((n17 : Nat) : Int) < (((r16).length : Nat) : Int)))), (1000000, .elem 32 1 T0F 0 0), (1000002, .elem 20 1 T2F 0 0)], [(3, .cells 22 [vL 1 eW 0#16 l14]), (5, .cells 5 [.int .u8 i13]), (7, .cells 22 [.own 6200]), (5008, bL 28 1 eW 0#16 l18), (6003, bL 28 1 eW 0#16 r16), (6200, bL 28 1 eW 0#16 l15)], [], 0⟩ (True) Tryd_mixed (by kernel_rfl) trivial ?_
          refine thenQ_normal ?_
          refine AWp.seq ?_
          refine AWp.cond (b := (decide (((n17 : Nat) : Int) < (((r16).length : Nat) : Int)))) (by kernel_rfl) (fun hc4 => ?_) (fun hc4 => ?_)
          ·
            replace h := ite_tb hc4 h
            refine AWp.skip ?_
            refine thenQ_normal ?_
            obtain ⟨K3, hK3, h⟩ := jn_some h
            refine AWp.join (α := List (BitVec 16)) (fun (l21 : List (BitVec 16)) => ⟨81, [(3, .ptr 3 0), (5, .ptr 5 0), (7, .ptr 7 0), (8, .own 68), (50, .own 6003), (51, .int .i64 (((r16).length : Nat) : Int)), (52, .int .i64 ((n17 : Nat) : Int)), (1000000, .elem 32 1 T0F 0 0), (1000002, .elem 20 1 T2F 0 0)], [(3, .cells 22 [vL 1 eW 0#16 l14]), (5, .cells 5 [.int .u8 i13]), (7, .cells 22 [.own 6200]), (68, bL 28 1 eW 0#16 l21), (6003, bL 28 1 eW 0#16 r16), (6200, bL 28 1 eW 0#16 l15)], [], 0⟩) (fun x => K3 x = some r) ?_ ?_
            ·
              refine AWp.block ?_
              refine AWp.seq ?_
              obtain ⟨ob15p, h⟩ := chk_some h
              have ob15 : 0 ≤ ((n17 : Nat) : Int) ∧ ((n17 : Nat) : Int) < (((r16).length : Nat) : Int) := ⟨by omega, ob15p⟩
              obtain ⟨ob16, h⟩ := chk_some h
              refine AWp.regC [] [] [3, 5, 7, 8, 11, 50, 51, 52, 1000000, 1000002] [3, 5, 7, 5008, 6003, 6200] ⟨81, [(3, .ptr 3 0), (5, .ptr 5 0), (7, .ptr 7 0), (8, .own 5008), (11, .b16 (r16.getD n17 0#16)), (50, .own 6003), (51, .int .i64 (((r16).length : Nat) : Int)), (52, .int .i64 ((n17 : Nat) : Int)), (1000000, .elem 32 1 T0F 0 0), (1000002, .elem 20 1 T2F 0 0)], [(3, .cells 22 [vL 1 eW 0#16 l14]), (5, .cells 5 [.int .u8 i13]), (7, .cells 22 [.own 6200]), (5008, bL 28 1 eW 0#16 l18), (6003, bL 28 1 eW 0#16 r16), (6200, bL 28 1 eW 0#16 l15)], [], 0⟩ ((0 ≤ ((n17 : Nat) : Int) ∧ ((n17 : Nat) : Int) < (((r16).length : Nat) : Int)) ∧ (n17 < (r16).length) ∧ True) Tryd_mixed (by kernel_rfl) ⟨ob15, ob16, trivial⟩ ?_
              refine thenQ_normal ?_
              refine AWp.seq ?_
              obtain ⟨r19, hr19, h⟩ := bind_ok h
              obtain ⟨r20, hr20, h⟩ := optc_some h
              have ob17 : (r19 == true) = true → (r19 == true) = true := fun h => h
              have ob18 : (r19 == true) = true → (r19 == true) = true := fun h => h
              have ob19 : (r19 == true) = true → (r19 == true) = true := fun h => h
              have ob20 : true = true → r19 = true → (r19 == true) = true := fun _ h => beq_iff_eq.2 h
              refine AWp.regC [] [(2, ⟨[vL 1 eW 0#16 l14, .b16 (r16.getD n17 0#16)], [], [], [], .bool r19, [], [], []⟩), (6, ⟨[vL 1 eW 0#16 l18, .b16 (r16.getD n17 0#16)], [], [], [], .bool r20, [], [5008], []⟩)] [3, 5, 7, 8, 11, 50, 51, 52, 64, 1000000, 1000002] [3, 5, 7, 5008, 6003, 6200] ⟨81, [(3, .ptr 3 0), (5, .ptr 5 0), (7, .ptr 7 0), (8, .own 5008), (11, .b16 (r16.getD n17 0#16)), (50, .own 6003), (51, .int .i64 (((r16).length : Nat) : Int)), (52, .int .i64 ((n17 : Nat) : Int)), (64, .bool (r19 && (!r20))), (1000000, .elem 32 1 T0F 0 0), (1000002, .elem 20 1 T2F 0 0)], [(3, .cells 22 [vL 1 eW 0#16 l14]), (5, .cells 5 [.int .u8 i13]), (7, .cells 22 [.own 6200]), (5008, bL 28 1 eW 0#16 l18), (6003, bL 28 1 eW 0#16 r16), (6200, bL 28 1 eW 0#16 l15)], [], 0⟩ ((callP Tryd.prog true 29 [] [] [] [] [] [vL 1 eW 0#16 l14, .b16 (r16.getD n17 0#16)] [vL 1 eW 0#16 l14, .b16 (r16.getD n17 0#16)] (.bool r19) []) ∧ ((callP Tryd.prog (r19 == true) 29 [] [] [] [(5008, bL 28 1 eW 0#16 l18)] [5008] [.own 5008, .b16 (r16.getD n17 0#16)] [vL 1 eW 0#16 l18, .b16 (r16.getD n17 0#16)] (.bool r20) []) ∧ ((r19 == true) = true → (r19 == true) = true) ∧ ((r19 == true) = true → (r19 == true) = true) ∧ True) ∧ (((r19 == true) = true → (r19 == true) = true) ∧ True) ∧ (true = true → r19 = true → (r19 == true) = true) ∧ True) Tryd_mixed (by kernel_rfl) ⟨⟨fun _ => (f29_ok l14 (r16.getD n17 0#16) r19 hr19), fun _ => ⟨.refl _, .refl _, trivial⟩, .inl rfl⟩, ⟨⟨fun hc => (f29_ok l18 (r16.getD n17 0#16) r20 (hr20 hc)), fun _ => ⟨.refl _, .refl _, trivial⟩, .inr ⟨rfl, trivial⟩⟩, ob17, ob18, trivial⟩, ⟨ob19, trivial⟩, ob20, trivial⟩ ?_
              refine thenQ_normal ?_
              refine AWp.cond (b := (r19 && (!r20))) (by kernel_rfl) (fun hc5 => ?_) (fun hc5 => ?_)
              ·
                replace h := ite_tb hc5 h
                obtain ⟨ob21, h⟩ := chk_some h
                refine AWp.regC [] [] [3, 5, 7, 8, 50, 51, 52, 1000000, 1000002] [3, 5, 7, 5008, 6003, 6200] ⟨81, [(3, .ptr 3 0), (5, .ptr 5 0), (7, .ptr 7 0), (8, .own 5008), (50, .own 6003), (51, .int .i64 (((r16).length : Nat) : Int)), (52, .int .i64 ((n17 : Nat) : Int)), (1000000, .elem 32 1 T0F 0 0), (1000002, .elem 20 1 T2F 0 0)], [(3, .cells 22 [vL 1 eW 0#16 l14]), (5, .cells 5 [.int .u8 i13]), (7, .cells 22 [.own 6200]), (5008, .rows 28 1 ((l18).length + 1) (appF (l18).length (encF eW 0#16 l18) (lstF 1 [.b16 (r16.getD n17 0#16)]))), (6003, bL 28 1 eW 0#16 r16), (6200, bL 28 1 eW 0#16 l15)], [], 0⟩ ((((l18).length + 1) * 2 ≤ 140737488355328) ∧ True) Tryd_mixed (by kernel_rfl) ⟨ob21, trivial⟩ ?_
                refine blockQ_normal ?_
                exact joinQ_normal ((l18 ++ [(r16.getD n17 0#16)])) (Le.trans (Le.mk (s := ⟨81, [(3, .ptr 3 0), (5, .ptr 5 0), (7, .ptr 7 0), (8, .own 5008), (50, .own 6003), (51, .int .i64 (((r16).length : Nat) : Int)), (52, .int .i64 ((n17 : Nat) : Int)), (1000000, .elem 32 1 T0F 0 0), (1000002, .elem 20 1 T2F 0 0)], [(3, .cells 22 [vL 1 eW 0#16 l14]), (5, .cells 5 [.int .u8 i13]), (7, .cells 22 [.own 6200]), (5008, .rows 28 1 ((l18).length + 1) (appF (l18).length (encF eW 0#16 l18) (lstF 1 [.b16 (r16.getD n17 0#16)]))), (6003, bL 28 1 eW 0#16 r16), (6200, bL 28 1 eW 0#16 l15)], [], 0⟩) (s' := ⟨81, [(3, .ptr 3 0), (5, .ptr 5 0), (7, .ptr 7 0), (8, .own 5008), (50, .own 6003), (51, .int .i64 (((r16).length : Nat) : Int)), (52, .int .i64 ((n17 : Nat) : Int)), (1000000, .elem 32 1 T0F 0 0), (1000002, .elem 20 1 T2F 0 0)], [(3, .cells 22 [vL 1 eW 0#16 l14]), (5, .cells 5 [.int .u8 i13]), (7, .cells 22 [.own 6200]), (5008, bL 28 1 eW 0#16 (l18 ++ [(r16.getD n17 0#16)])), (6003, bL 28 1 eW 0#16 r16), (6200, bL 28 1 eW 0#16 l15)], [], 0⟩) rfl rfl ⟨.refl _, .refl _, .refl _, .refl _, .refl _, .refl _, .refl _, .refl _, .refl _, trivial⟩ ⟨⟨_, rfl, .refl _⟩, ⟨_, rfl, .refl _⟩, ⟨_, rfl, .refl _⟩, ⟨_, rfl, (BLe.of (RL.app (RL.self _) (RL.lst (enc := eW) [(r16.getD n17 0#16)] rfl rfl (fun _ => rfl))))⟩, ⟨_, rfl, .refl _⟩, ⟨_, rfl, .refl _⟩, trivial⟩) (Le.trans (Le.trans (Le.ren (s := ⟨81, [(3, .ptr 3 0), (5, .ptr 5 0), (7, .ptr 7 0), (8, .own 5008), (50, .own 6003), (51, .int .i64 (((r16).length : Nat) : Int)), (52, .int .i64 ((n17 : Nat) : Int)), (1000000, .elem 32 1 T0F 0 0), (1000002, .elem 20 1 T2F 0 0)], [(3, .cells 22 [vL 1 eW 0#16 l14]), (5, .cells 5 [.int .u8 i13]), (7, .cells 22 [.own 6200]), (5008, bL 28 1 eW 0#16 (l18 ++ [(r16.getD n17 0#16)])), (6003, bL 28 1 eW 0#16 r16), (6200, bL 28 1 eW 0#16 l15)], [], 0⟩) (swapN 5008 68) (swapN_inv 5008 68) rfl) (Le.mk (s' := ⟨81, [(3, .ptr 3 0), (5, .ptr 5 0), (7, .ptr 7 0), (8, .own 68), (50, .own 6003), (51, .int .i64 (((r16).length : Nat) : Int)), (52, .int .i64 ((n17 : Nat) : Int)), (1000000, .elem 32 1 T0F 0 0), (1000002, .elem 20 1 T2F 0 0)], [(3, .cells 22 [vL 1 eW 0#16 l14]), (5, .cells 5 [.int .u8 i13]), (7, .cells 22 [.own 6200]), (68, bL 28 1 eW 0#16 (l18 ++ [(r16.getD n17 0#16)])), (6003, bL 28 1 eW 0#16 r16), (6200, bL 28 1 eW 0#16 l15)], [], 0⟩) rfl rfl ⟨.refl _, .refl _, .refl _, .refl _, .refl _, .refl _, .refl _, .refl _, .refl _, trivial⟩ ⟨⟨_, rfl, .refl _⟩, ⟨_, rfl, .refl _⟩, ⟨_, rfl, .refl _⟩, ⟨_, rfl, .refl _⟩, ⟨_, rfl, .refl _⟩, ⟨_, rfl, .refl _⟩, trivial⟩)) (Le.mk (s := ⟨81, [(3, .ptr 3 0), (5, .ptr 5 0), (7, .ptr 7 0), (8, .own 68), (50, .own 6003), (51, .int .i64 (((r16).length : Nat) : Int)), (52, .int .i64 ((n17 : Nat) : Int)), (1000000, .elem 32 1 T0F 0 0), (1000002, .elem 20 1 T2F 0 0)], [(3, .cells 22 [vL 1 eW 0#16 l14]), (5, .cells 5 [.int .u8 i13]), (7, .cells 22 [.own 6200]), (68, bL 28 1 eW 0#16 (l18 ++ [(r16.getD n17 0#16)])), (6003, bL 28 1 eW 0#16 r16), (6200, bL 28 1 eW 0#16 l15)], [], 0⟩) (s' := ⟨81, [(3, .ptr 3 0), (5, .ptr 5 0), (7, .ptr 7 0), (8, .own 68), (50, .own 6003), (51, .int .i64 (((r16).length : Nat) : Int)), (52, .int .i64 ((n17 : Nat) : Int)), (1000000, .elem 32 1 T0F 0 0), (1000002, .elem 20 1 T2F 0 0)], [(3, .cells 22 [vL 1 eW 0#16 l14]), (5, .cells 5 [.int .u8 i13]), (7, .cells 22 [.own 6200]), (68, bL 28 1 eW 0#16 (l18 ++ [(r16.getD n17 0#16)])), (6003, bL 28 1 eW 0#16 r16), (6200, bL 28 1 eW 0#16 l15)], [], 0⟩) rfl rfl ⟨.refl _, .refl _, .refl _, .refl _, .refl _, .refl _, .refl _, .refl _, .refl _, trivial⟩ ⟨⟨_, rfl, .refl _⟩, ⟨_, rfl, .refl _⟩, ⟨_, rfl, .refl _⟩, ⟨_, rfl, .refl _⟩, ⟨_, rfl, .refl _⟩, ⟨_, rfl, .refl _⟩, trivial⟩))) h
              ·
                replace h := ite_fb hc5 h
                refine AWp.skip ?_
                refine blockQ_normal ?_
                exact joinQ_normal (l18) (Le.trans (Le.trans (Le.ren (s := ⟨81, [(3, .ptr 3 0), (5, .ptr 5 0), (7, .ptr 7 0), (8, .own 5008), (11, .b16 (r16.getD n17 0#16)), (50, .own 6003), (51, .int .i64 (((r16).length : Nat) : Int)), (52, .int .i64 ((n17 : Nat) : Int)), (64, .bool (r19 && (!r20))), (1000000, .elem 32 1 T0F 0 0), (1000002, .elem 20 1 T2F 0 0)], [(3, .cells 22 [vL 1 eW 0#16 l14]), (5, .cells 5 [.int .u8 i13]), (7, .cells 22 [.own 6200]), (5008, bL 28 1 eW 0#16 l18), (6003, bL 28 1 eW 0#16 r16), (6200, bL 28 1 eW 0#16 l15)], [], 0⟩) (swapN 5008 68) (swapN_inv 5008 68) rfl) (Le.mk (s' := ⟨81, [(3, .ptr 3 0), (5, .ptr 5 0), (7, .ptr 7 0), (8, .own 68), (11, .b16 (r16.getD n17 0#16)), (50, .own 6003), (51, .int .i64 (((r16).length : Nat) : Int)), (52, .int .i64 ((n17 : Nat) : Int)), (64, .bool (r19 && (!r20))), (1000000, .elem 32 1 T0F 0 0), (1000002, .elem 20 1 T2F 0 0)], [(3, .cells 22 [vL 1 eW 0#16 l14]), (5, .cells 5 [.int .u8 i13]), (7, .cells 22 [.own 6200]), (68, bL 28 1 eW 0#16 l18), (6003, bL 28 1 eW 0#16 r16), (6200, bL 28 1 eW 0#16 l15)], [], 0⟩) rfl rfl ⟨.refl _, .refl _, .refl _, .refl _, .refl _, .refl _, .refl _, .refl _, .refl _, .refl _, .refl _, trivial⟩ ⟨⟨_, rfl, .refl _⟩, ⟨_, rfl, .refl _⟩, ⟨_, rfl, .refl _⟩, ⟨_, rfl, .refl _⟩, ⟨_, rfl, .refl _⟩, ⟨_, rfl, .refl _⟩, trivial⟩)) (Le.mk (s := ⟨81, [(3, .ptr 3 0), (5, .ptr 5 0), (7, .ptr 7 0), (8, .own 68), (11, .b16 (r16.getD n17 0#16)), (50, .own 6003), (51, .int .i64 (((r16).length : Nat) : Int)), (52, .int .i64 ((n17 : Nat) : Int)), (64, .bool (r19 && (!r20))), (1000000, .elem 32 1 T0F 0 0), (1000002, .elem 20 1 T2F 0 0)], [(3, .cells 22 [vL 1 eW 0#16 l14]), (5, .cells 5 [.int .u8 i13]), (7, .cells 22 [.own 6200]), (68, bL 28 1 eW 0#16 l18), (6003, bL 28 1 eW 0#16 r16), (6200, bL 28 1 eW 0#16 l15)], [], 0⟩) (s' := ⟨81, [(3, .ptr 3 0), (5, .ptr 5 0), (7, .ptr 7 0), (8, .own 68), (50, .own 6003), (51, .int .i64 (((r16).length : Nat) : Int)), (52, .int .i64 ((n17 : Nat) : Int)), (1000000, .elem 32 1 T0F 0 0), (1000002, .elem 20 1 T2F 0 0)], [(3, .cells 22 [vL 1 eW 0#16 l14]), (5, .cells 5 [.int .u8 i13]), (7, .cells 22 [.own 6200]), (68, bL 28 1 eW 0#16 l18), (6003, bL 28 1 eW 0#16 r16), (6200, bL 28 1 eW 0#16 l15)], [], 0⟩) rfl rfl ⟨.refl _, .refl _, .refl _, .refl _, .refl _, .refl _, .refl _, .refl _, .refl _, trivial⟩ ⟨⟨_, rfl, .refl _⟩, ⟨_, rfl, .refl _⟩, ⟨_, rfl, .refl _⟩, ⟨_, rfl, .refl _⟩, ⟨_, rfl, .refl _⟩, ⟨_, rfl, .refl _⟩, trivial⟩)) h
            ·
              rintro l21 h
              replace h := (congrFun hK3 _).symm.trans h
              obtain ⟨ob22p, h⟩ := chk_some h
              have ob22 : -9223372036854775808 ≤ (((n17 : Nat) : Int) + (1 : Int)) ∧ (((n17 : Nat) : Int) + (1 : Int)) ≤ 9223372036854775807 := ⟨by omega, ob22p⟩
              refine AWp.regC [] [] [3, 5, 7, 8, 50, 51, 52, 1000000, 1000002] [3, 5, 7, 68, 6003, 6200] ⟨81, [(3, .ptr 3 0), (5, .ptr 5 0), (7, .ptr 7 0), (8, .own 68), (50, .own 6003), (51, .int .i64 (((r16).length : Nat) : Int)), (52, .int .i64 (((n17 + 1) : Nat) : Int)), (1000000, .elem 32 1 T0F 0 0), (1000002, .elem 20 1 T2F 0 0)], [(3, .cells 22 [vL 1 eW 0#16 l14]), (5, .cells 5 [.int .u8 i13]), (7, .cells 22 [.own 6200]), (68, bL 28 1 eW 0#16 l21), (6003, bL 28 1 eW 0#16 r16), (6200, bL 28 1 eW 0#16 l15)], [], 0⟩ ((-9223372036854775808 ≤ (((n17 : Nat) : Int) + (1 : Int)) ∧ (((n17 : Nat) : Int) + (1 : Int)) ≤ 9223372036854775807) ∧ True) Tryd_mixed (by kernel_rfl) ⟨ob22, trivial⟩ ?_
              rw [hC0] at h
              exact loopQ_normal (_, (n17 + 1), l21) (Le.trans (Le.trans (Le.ren (s := ⟨81, [(3, .ptr 3 0), (5, .ptr 5 0), (7, .ptr 7 0), (8, .own 68), (50, .own 6003), (51, .int .i64 (((r16).length : Nat) : Int)), (52, .int .i64 (((n17 + 1) : Nat) : Int)), (1000000, .elem 32 1 T0F 0 0), (1000002, .elem 20 1 T2F 0 0)], [(3, .cells 22 [vL 1 eW 0#16 l14]), (5, .cells 5 [.int .u8 i13]), (7, .cells 22 [.own 6200]), (68, bL 28 1 eW 0#16 l21), (6003, bL 28 1 eW 0#16 r16), (6200, bL 28 1 eW 0#16 l15)], [], 0⟩) (swapN 68 5008) (swapN_inv 68 5008) rfl) (Le.mk (s' := ⟨81, [(3, .ptr 3 0), (5, .ptr 5 0), (7, .ptr 7 0), (8, .own 5008), (50, .own 6003), (51, .int .i64 (((r16).length : Nat) : Int)), (52, .int .i64 (((n17 + 1) : Nat) : Int)), (1000000, .elem 32 1 T0F 0 0), (1000002, .elem 20 1 T2F 0 0)], [(3, .cells 22 [vL 1 eW 0#16 l14]), (5, .cells 5 [.int .u8 i13]), (7, .cells 22 [.own 6200]), (5008, bL 28 1 eW 0#16 l21), (6003, bL 28 1 eW 0#16 r16), (6200, bL 28 1 eW 0#16 l15)], [], 0⟩) rfl rfl ⟨.refl _, .refl _, .refl _, .refl _, .refl _, .refl _, .refl _, .refl _, .refl _, trivial⟩ ⟨⟨_, rfl, .refl _⟩, ⟨_, rfl, .refl _⟩, ⟨_, rfl, .refl _⟩, ⟨_, rfl, .refl _⟩, ⟨_, rfl, .refl _⟩, ⟨_, rfl, .refl _⟩, trivial⟩)) (Le.mk (s := ⟨81, [(3, .ptr 3 0), (5, .ptr 5 0), (7, .ptr 7 0), (8, .own 5008), (50, .own 6003), (51, .int .i64 (((r16).length : Nat) : Int)), (52, .int .i64 (((n17 + 1) : Nat) : Int)), (1000000, .elem 32 1 T0F 0 0), (1000002, .elem 20 1 T2F 0 0)], [(3, .cells 22 [vL 1 eW 0#16 l14]), (5, .cells 5 [.int .u8 i13]), (7, .cells 22 [.own 6200]), (5008, bL 28 1 eW 0#16 l21), (6003, bL 28 1 eW 0#16 r16), (6200, bL 28 1 eW 0#16 l15)], [], 0⟩) (s' := ⟨81, [(3, .ptr 3 0), (5, .ptr 5 0), (7, .ptr 7 0), (8, .own 5008), (50, .own 6003), (51, .int .i64 (((r16).length : Nat) : Int)), (52, .int .i64 (((n17 + 1) : Nat) : Int)), (1000000, .elem 32 1 T0F 0 0), (1000002, .elem 20 1 T2F 0 0)], [(3, .cells 22 [vL 1 eW 0#16 l14]), (5, .cells 5 [.int .u8 i13]), (7, .cells 22 [.own 6200]), (5008, bL 28 1 eW 0#16 l21), (6003, bL 28 1 eW 0#16 r16), (6200, bL 28 1 eW 0#16 l15)], [], 0⟩) rfl rfl ⟨.refl _, .refl _, .refl _, .refl _, .refl _, .refl _, .refl _, .refl _, .refl _, trivial⟩ ⟨⟨_, rfl, .refl _⟩, ⟨_, rfl, .refl _⟩, ⟨_, rfl, .refl _⟩, ⟨_, rfl, .refl _⟩, ⟨_, rfl, .refl _⟩, ⟨_, rfl, .refl _⟩, trivial⟩)) h (Nat.lt_succ_self _)
          ·
            replace h := ite_fb hc4 h
            refine AWp.exit ?_
            refine thenQ_exit ?_
            refine thenQ_exit ?_
            refine blockQ_same ?_
            exact joinQ_normal (l18) (Le.mk (s := ⟨81, [(3, .ptr 3 0), (5, .ptr 5 0), (7, .ptr 7 0), (8, .own 5008), (50, .own 6003), (51, .int .i64 (((r16).length : Nat) : Int)), (52, .int .i64 ((n17 : Nat) : Int)), (53, .bool (decide (((n17 : Nat) : Int) < (((r16).length : Nat) : Int)))), (1000000, .elem 32 1 T0F 0 0), (1000002, .elem 20 1 T2F 0 0)], [(3, .cells 22 [vL 1 eW 0#16 l14]), (5, .cells 5 [.int .u8 i13]), (7, .cells 22 [.own 6200]), (5008, bL 28 1 eW 0#16 l18), (6003, bL 28 1 eW 0#16 r16), (6200, bL 28 1 eW 0#16 l15)], [], 0⟩) (s' := ⟨81, [(5, .ptr 5 0), (7, .ptr 7 0), (8, .own 5008), (1000000, .elem 32 1 T0F 0 0), (1000002, .elem 20 1 T2F 0 0)], [(5, .cells 5 [.int .u8 i13]), (7, .cells 22 [.own 6200]), (5008, bL 28 1 eW 0#16 l18), (6200, bL 28 1 eW 0#16 l15)], [], 0⟩) rfl rfl ⟨.refl _, .refl _, .refl _, .refl _, .refl _, trivial⟩ ⟨⟨_, rfl, .refl _⟩, ⟨_, rfl, .refl _⟩, ⟨_, rfl, .refl _⟩, ⟨_, rfl, .refl _⟩, trivial⟩) h
        ·
          replace h := ite_fb hc3 h
          refine AWp.skip ?_
          exact joinQ_normal ([]) (Le.trans (Le.trans (Le.nilOwn (s := ⟨81, [(1, .int .i64 x2), (3, .ptr 3 0), (5, .ptr 5 0), (7, .ptr 7 0), (8, .nils), (48, .bool ((decide (x2 ≥ (0 : Int))) && (decide (x2 ≤ (7 : Int))))), (1000000, .elem 32 1 T0F 0 0), (1000002, .elem 20 1 T2F 0 0)], [(3, .cells 22 [vL 1 eW 0#16 l14]), (5, .cells 5 [.int .u8 i13]), (7, .cells 22 [.own 6200]), (6200, bL 28 1 eW 0#16 l15)], [], 0⟩) 8 5008 28 1 (encF eW 0#16 []) rfl rfl (Nat.le_of_ble_eq_true rfl)) (Le.mk (s' := ⟨81, [(1, .int .i64 x2), (3, .ptr 3 0), (5, .ptr 5 0), (7, .ptr 7 0), (8, .own 5008), (48, .bool ((decide (x2 ≥ (0 : Int))) && (decide (x2 ≤ (7 : Int))))), (1000000, .elem 32 1 T0F 0 0), (1000002, .elem 20 1 T2F 0 0)], [(3, .cells 22 [vL 1 eW 0#16 l14]), (5, .cells 5 [.int .u8 i13]), (7, .cells 22 [.own 6200]), (6200, bL 28 1 eW 0#16 l15), (5008, bL 28 1 eW 0#16 [])], [], 0⟩) rfl rfl ⟨.refl _, .refl _, .refl _, .refl _, .refl _, .refl _, .refl _, .refl _, trivial⟩ ⟨⟨_, rfl, .refl _⟩, ⟨_, rfl, .refl _⟩, ⟨_, rfl, .refl _⟩, ⟨_, rfl, .refl _⟩, ⟨_, rfl, .refl _⟩, trivial⟩)) (Le.mk (s := ⟨81, [(1, .int .i64 x2), (3, .ptr 3 0), (5, .ptr 5 0), (7, .ptr 7 0), (8, .own 5008), (48, .bool ((decide (x2 ≥ (0 : Int))) && (decide (x2 ≤ (7 : Int))))), (1000000, .elem 32 1 T0F 0 0), (1000002, .elem 20 1 T2F 0 0)], [(3, .cells 22 [vL 1 eW 0#16 l14]), (5, .cells 5 [.int .u8 i13]), (7, .cells 22 [.own 6200]), (6200, bL 28 1 eW 0#16 l15), (5008, bL 28 1 eW 0#16 [])], [], 0⟩) (s' := ⟨81, [(5, .ptr 5 0), (7, .ptr 7 0), (8, .own 5008), (1000000, .elem 32 1 T0F 0 0), (1000002, .elem 20 1 T2F 0 0)], [(5, .cells 5 [.int .u8 i13]), (7, .cells 22 [.own 6200]), (5008, bL 28 1 eW 0#16 []), (6200, bL 28 1 eW 0#16 l15)], [], 0⟩) rfl rfl ⟨.refl _, .refl _, .refl _, .refl _, .refl _, trivial⟩ ⟨⟨_, rfl, .refl _⟩, ⟨_, rfl, .refl _⟩, ⟨_, rfl, .refl _⟩, ⟨_, rfl, .refl _⟩, trivial⟩)) h
      ·
        rintro l22 h
        replace h := (congrFun hK2 _).symm.trans h
        refine AWp.seq ?_
        refine AWp.le (Le.trans (Le.freeze (s := ⟨81, [(5, .ptr 5 0), (7, .ptr 7 0), (8, .own 5008), (1000000, .elem 32 1 T0F 0 0), (1000002, .elem 20 1 T2F 0 0)], [(5, .cells 5 [.int .u8 i13]), (7, .cells 22 [.own 6200]), (5008, bL 28 1 eW 0#16 l22), (6200, bL 28 1 eW 0#16 l15)], [], 0⟩) 5008 rfl rfl) (Le.mk (s' := ⟨81, [(5, .ptr 5 0), (7, .ptr 7 0), (8, vL 1 eW 0#16 l22), (1000000, .elem 32 1 T0F 0 0), (1000002, .elem 20 1 T2F 0 0)], [(5, .cells 5 [.int .u8 i13]), (7, .cells 22 [.own 6200]), (6200, bL 28 1 eW 0#16 l15)], [], 0⟩) rfl rfl ⟨.refl _, .refl _, .refl _, .refl _, .refl _, trivial⟩ ⟨⟨_, rfl, .refl _⟩, ⟨_, rfl, .refl _⟩, ⟨_, rfl, .refl _⟩, trivial⟩)) ?_
        obtain ⟨r23, hr23, h⟩ := bind_ok h
        obtain ⟨ob23, h⟩ := chk_some h
        obtain ⟨ob24, h⟩ := chk_some h
        obtain ⟨ob25, h⟩ := chk_some h
        obtain ⟨ob26, h⟩ := chk_some h
        refine AWp.regC [] [(10, ⟨[vL 1 eW 0#16 l15, vL 1 eW 0#16 (l22.take (((min (((l22).length : Nat) : Int) ((1 : Int) + (i13 % (20 : Int))))).toNat))], [], [], [], .bool r23, [], [6200], []⟩)] [6, 1000000, 1000002] [] ⟨81, [(6, .bool r23), (1000000, .elem 32 1 T0F 0 0), (1000002, .elem 20 1 T2F 0 0)], [], [], 0⟩ ((0 ≤ i13 ∧ 1 ≤ (20 : Int)) ∧ (-9223372036854775808 ≤ (i13 % (20 : Int)) ∧ (i13 % (20 : Int)) ≤ 9223372036854775807) ∧ (-9223372036854775808 ≤ ((1 : Int) + (i13 % (20 : Int))) ∧ ((1 : Int) + (i13 % (20 : Int))) ≤ 9223372036854775807) ∧ (0 ≤ (min (((l22).length : Nat) : Int) ((1 : Int) + (i13 % (20 : Int)))) ∧ (min (((l22).length : Nat) : Int) ((1 : Int) + (i13 % (20 : Int)))) ≤ (((l22).length : Nat) : Int)) ∧ (callP Tryd.prog true 18 [] [] [] [(6200, bL 28 1 eW 0#16 l15)] [6200] [.own 6200, .arr 1 (((min (((l22).length : Nat) : Int) ((1 : Int) + (i13 % (20 : Int))))).toNat) (encF eW 0#16 l22)] [vL 1 eW 0#16 l15, vL 1 eW 0#16 (l22.take (((min (((l22).length : Nat) : Int) ((1 : Int) + (i13 % (20 : Int))))).toNat))] (.bool r23) []) ∧ True) Tryd_mixed (by kernel_rfl) ⟨ob23, ob24, ob25, ob26, ⟨fun _ => (f18_ok l15 (l22.take (((min (((l22).length : Nat) : Int) ((1 : Int) + (i13 % (20 : Int))))).toNat)) r23 hr23), fun _ => ⟨.refl _, (VLe.takeL (by first | omega | (simp only [List.length_append, List.length_cons, List.length_nil, List.length_take, List.length_drop] at *; omega) | (simp; done) | (simp_all; done) | (simp_all; omega) | rfl)), trivial⟩, .inr ⟨rfl, trivial⟩⟩, trivial⟩ ?_
        refine thenQ_normal ?_
        have hret := Option.some.inj h
        subst hret
        refine AWp.le (Le.mk (s := ⟨81, [(6, .bool r23), (1000000, .elem 32 1 T0F 0 0), (1000002, .elem 20 1 T2F 0 0)], [], [], 0⟩) (s' := ⟨81, [(6, .bool r23)], [], [], 0⟩) rfl rfl ⟨.refl _, trivial⟩ trivial) ?_
        refine AWp.ret ?_
        exact bodyQ_ret _ rfl ⟨rfl, rfl⟩ rfl
end Go.Abs
