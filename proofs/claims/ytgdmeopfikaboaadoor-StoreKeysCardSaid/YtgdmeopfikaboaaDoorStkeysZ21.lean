/- Part 21 of the proof: X48, Aw48, Pl, Pl48a. -/
import Derived.Test.YtgdmeopfikaboaaDoorStkeysZ20
namespace Go.Abs
open Go Go.Proofs
set_option maxHeartbeats 4000000
set_option maxRecDepth 100000 in
theorem f19_ok  (x1 : List (List UInt8 × List UInt8 × Int)) (x2 : Int) (x3 : List UInt8) (x4 : List UInt8) (x5 : List UInt8) (r : List UInt8 × (List (List UInt8 × List UInt8 × Int))) (h : f19 x1 x2 x3 x4 x5 = some r)  : Spec1 Tryd.prog 19 [] [] [] [vL 3 eSSI (default : List UInt8 × List UInt8 × Int) x1, .agg [.int .i64 x2, .str x3, .str x4, .str x5]] (.tup [.own 3000, .str r.1]) [(3000, bL 36 3 eSSI (default : List UInt8 × List UInt8 × Int) r.2)] := by
  unfold f19 at h
  refine Spec1.body 0 _ _ Tryd.func19 rfl Tryd.ntmps19 rfl rfl ?_
  refine q1rq [] [] [0, 3] [3] ⟨133, [(0, q1aSSI x1), (3, .ptr 3 0)], [(3, .cells 24 [.int .i64 x2, .str x3, .str x4, .str x5])], [], 0⟩ trivial ?_
  refine AWp.seq ?_
  obtain ⟨ob0, h⟩ := chk_some h
  refine q1rr [] [] [0, 3, 6] [3, 12] ⟨133, [(0, q1aSSI x1), (3, .ptr 3 0), (6, .own 12)], [(3, .cells 24 [.int .i64 x2, .str x3, .str x4, .str x5]), (12, .rows 36 3 (0 + (x1).length) (appF 0 (lstF 3 []) (encF eSSI q1dSSI x1)))], [], 0⟩ (an1 ob0) ?_
  refine thenQ_normal ?_
  refine AWp.le (Le.mk (s' := ⟨133, [(0, q1aSSI x1), (3, .ptr 3 0), (6, .own 12)], [(3, .cells 24 [.int .i64 x2, .str x3, .str x4, .str x5]), (12, q1bSSI_36 ([] ++ x1))], [], 0⟩) rfl rfl ⟨.refl _, .refl _, .refl _, trivial⟩ ⟨⟨_, rfl, .refl _⟩, ⟨_, rfl, (BLe.of (RL.app (RL.lst (enc := eSSI) [] rfl rfl (fun _ => rfl)) (RL.self _)))⟩, trivial⟩) ?_
  refine AWp.seq ?_
  refine AWp.seq ?_
  obtain ⟨r6, hr6, h⟩ := bind_ok h
  refine q1rr [] [(1, ⟨[.agg [.int .i64 x2, .str x3, .str x4, .str x5]], [], [], [], .tup [.str r6.1, .int .i64 r6.2], [], [], []⟩)] [0, 3, 6, 8] [3, 12] ⟨133, [(0, q1aSSI x1), (3, .ptr 3 0), (6, .own 12), (8, .int .i64 r6.2)], [(3, .cells 24 [.int .i64 x2, .str x3, .str x4, .str x5]), (12, q1bSSI_36 ([] ++ x1))], [], 0⟩ (an1 (cpT (f22_ok _ _ _ _ _ hr6))) ?_
  refine thenQ_normal ?_
  refine q1rq [] [] [0, 3, 6, 21] [3, 12] ⟨133, [(0, q1aSSI x1), (3, .ptr 3 0), (6, .own 12), (21, .bool (r6.2 != (0 : Int)))], [(3, .cells 24 [.int .i64 x2, .str x3, .str x4, .str x5]), (12, q1bSSI_36 ([] ++ x1))], [], 0⟩ trivial ?_
  refine AWp.cond (b := (r6.2 != (0 : Int))) (by kernel_rfl) (fun hc1 => ?_) (fun hc1 => ?_)
  ·
    replace h := ite_tb hc1 h
    refine q1rq [] [] [4, 5] [12] ⟨133, [(4, .own 12), (5, .str cs10)], [(12, q1bSSI_36 ([] ++ x1))], [], 0⟩ trivial ?_
    refine AWp.le (Le.trans (Le.ren (swapN 12 3000) (swapN_inv 12 3000) rfl) (Le.mk (s' := ⟨133, [(4, .own 3000), (5, .str cs10)], [(3000, q1bSSI_36 ([] ++ x1))], [], 0⟩) rfl rfl ⟨.refl _, .refl _, trivial⟩ ⟨⟨_, rfl, .refl _⟩, trivial⟩)) ?_
    have hret := Option.some.inj h
    subst hret
    refine AWp.le (Le.mk (s' := ⟨133, [(4, .own 3000), (5, .str cs10)], [(3000, q1bSSI_36 ([] ++ x1))], [], 0⟩) rfl rfl ⟨.refl _, .refl _, trivial⟩ ⟨⟨_, rfl, .refl _⟩, trivial⟩) ?_
    refine AWp.ret ?_
    refine thenQ_ret ?_
    exact bodyQ_ret _ rfl ⟨rfl, rfl⟩ rfl
  ·
    replace h := ite_fb hc1 h
    refine AWp.skip ?_
    refine thenQ_normal ?_
    refine AWp.seq ?_
    obtain ⟨r7, hr7, h⟩ := bind_ok h
    refine q1rr [] [(3, ⟨[q1aSSI x1, .str x3], [], [], [], .int .i64 r7, [], [], []⟩)] [0, 3, 6, 9] [3, 12] ⟨133, [(0, q1aSSI x1), (3, .ptr 3 0), (6, .own 12), (9, .int .i64 r7)], [(3, .cells 24 [.int .i64 x2, .str x3, .str x4, .str x5]), (12, q1bSSI_36 ([] ++ x1))], [], 0⟩ (an1 (cpT (f44_ok _ _ _ hr7))) ?_
    refine thenQ_normal ?_
    refine q1rq [] [] [0, 3, 6, 9, 10] [3, 12] ⟨133, [(0, q1aSSI x1), (3, .ptr 3 0), (6, .own 12), (9, .int .i64 r7), (10, .str x5)], [(3, .cells 24 [.int .i64 x2, .str x3, .str x4, .str x5]), (12, q1bSSI_36 ([] ++ x1))], [], 0⟩ trivial ?_
    obtain ⟨K1, hK1, h⟩ := jn_some h
    refine AWp.join (α := List UInt8) (fun (s10 : List UInt8) => ⟨133, [(0, q1aSSI x1), (3, .ptr 3 0), (6, .own 12), (9, .int .i64 r7), (10, .str s10)], [(3, .cells 24 [.int .i64 x2, .str x3, .str x4, .str x5]), (12, q1bSSI_36 ([] ++ x1))], [], 0⟩) (fun x => K1 x = some r) ?_ ?_
    ·
      refine q1rq [] [] [0, 3, 6, 9, 10, 30] [3, 12] ⟨133, [(0, q1aSSI x1), (3, .ptr 3 0), (6, .own 12), (9, .int .i64 r7), (10, .str x5), (30, .int .i64 x2)], [(3, .cells 24 [.int .i64 x2, .str x3, .str x4, .str x5]), (12, q1bSSI_36 ([] ++ x1))], [], 0⟩ trivial ?_
      refine AWp.block ?_
      refine q1rq [] [] [0, 3, 6, 9, 10, 30, 31] [3, 12] ⟨133, [(0, q1aSSI x1), (3, .ptr 3 0), (6, .own 12), (9, .int .i64 r7), (10, .str x5), (30, .int .i64 x2), (31, .bool (x2 == (6 : Int)))], [(3, .cells 24 [.int .i64 x2, .str x3, .str x4, .str x5]), (12, q1bSSI_36 ([] ++ x1))], [], 0⟩ trivial ?_
      refine AWp.cond (b := (x2 == (6 : Int))) (by kernel_rfl) (fun hc2 => ?_) (fun hc2 => ?_)
      ·
        replace h := ite_tb hc2 h
        refine AWp.seq ?_
        obtain ⟨r8, hr8, h⟩ := bind_ok h
        obtain ⟨ob1, h⟩ := chk_some h
        refine q1rr [] [(3, ⟨[.int .i64 (((x1).length : Nat) : Int)], [], [], [], .str r8, [], [], []⟩)] [4, 5] [12] ⟨133, [(4, .own 12), (5, .str (cs11 ++ r8))], [(12, q1bSSI_36 ([] ++ x1))], [], 0⟩ (an2 (cpT (f45_ok FUEL _ _ hr8)) ob1) ?_
        refine thenQ_normal ?_
        refine AWp.le (Le.trans (Le.ren (swapN 12 3000) (swapN_inv 12 3000) rfl) (Le.mk (s' := ⟨133, [(4, .own 3000), (5, .str (cs11 ++ r8))], [(3000, q1bSSI_36 ([] ++ x1))], [], 0⟩) rfl rfl ⟨.refl _, .refl _, trivial⟩ ⟨⟨_, rfl, .refl _⟩, trivial⟩)) ?_
        have hret := Option.some.inj h
        subst hret
        refine AWp.le (Le.mk (s' := ⟨133, [(4, .own 3000), (5, .str (cs11 ++ r8))], [(3000, q1bSSI_36 ([] ++ x1))], [], 0⟩) rfl rfl ⟨.refl _, .refl _, trivial⟩ ⟨⟨_, rfl, .refl _⟩, trivial⟩) ?_
        refine AWp.ret ?_
        refine blockQ_ret ?_
        refine joinQ_ret ?_
        exact bodyQ_ret _ rfl ⟨rfl, rfl⟩ rfl
      ·
        replace h := ite_fb hc2 h
        refine q1rq [] [] [0, 3, 6, 9, 10, 30, 38] [3, 12] ⟨133, [(0, q1aSSI x1), (3, .ptr 3 0), (6, .own 12), (9, .int .i64 r7), (10, .str x5), (30, .int .i64 x2), (38, .bool (x2 == (2 : Int)))], [(3, .cells 24 [.int .i64 x2, .str x3, .str x4, .str x5]), (12, q1bSSI_36 ([] ++ x1))], [], 0⟩ trivial ?_
        refine AWp.cond (b := (x2 == (2 : Int))) (by kernel_rfl) (fun hc3 => ?_) (fun hc3 => ?_)
        ·
          replace h := ite_tb hc3 h
          refine AWp.seq ?_
          refine q1rq [] [] [0, 6, 9, 41] [12] ⟨133, [(0, q1aSSI x1), (6, .own 12), (9, .int .i64 r7), (41, .bool (decide (r7 < (0 : Int))))], [(12, q1bSSI_36 ([] ++ x1))], [], 0⟩ trivial ?_
          refine AWp.cond (b := (decide (r7 < (0 : Int)))) (by kernel_rfl) (fun hc4 => ?_) (fun hc4 => ?_)
          ·
            replace h := ite_tb hc4 h
            refine q1rq [] [] [4, 5] [12] ⟨133, [(4, .own 12), (5, .str ([110, 111, 110, 101] : List UInt8))], [(12, q1bSSI_36 ([] ++ x1))], [], 0⟩ trivial ?_
            refine AWp.le (Le.trans (Le.ren (swapN 12 3000) (swapN_inv 12 3000) rfl) (Le.mk (s' := ⟨133, [(4, .own 3000), (5, .str ([110, 111, 110, 101] : List UInt8))], [(3000, q1bSSI_36 ([] ++ x1))], [], 0⟩) rfl rfl ⟨.refl _, .refl _, trivial⟩ ⟨⟨_, rfl, .refl _⟩, trivial⟩)) ?_
            have hret := Option.some.inj h
            subst hret
            refine AWp.le (Le.mk (s' := ⟨133, [(4, .own 3000), (5, .str ([110, 111, 110, 101] : List UInt8))], [(3000, q1bSSI_36 ([] ++ x1))], [], 0⟩) rfl rfl ⟨.refl _, .refl _, trivial⟩ ⟨⟨_, rfl, .refl _⟩, trivial⟩) ?_
            refine AWp.ret ?_
            refine thenQ_ret ?_
            refine blockQ_ret ?_
            refine joinQ_ret ?_
            exact bodyQ_ret _ rfl ⟨rfl, rfl⟩ rfl
          ·
            replace h := ite_fb hc4 h
            refine AWp.skip ?_
            refine thenQ_normal ?_
            refine AWp.seq ?_
            obtain ⟨r9, hr9, h⟩ := bind_ok h
            obtain ⟨ob2, h⟩ := chk_some h
            obtain ⟨ob3, h⟩ := chk_some h
            obtain ⟨ob4, h⟩ := chk_some h
            obtain ⟨ob5, h⟩ := chk_some h
            obtain ⟨ob6, h⟩ := chk_some h
            refine q1rr [] [(13, ⟨[.int .i64 (x1.getD ((r7).toNat) q1dSSI).2.2], [], [], [], .str r9, [], [], []⟩)] [4, 5] [12] ⟨133, [(4, .own 12), (5, .str (((cs12 ++ ((x1.getD ((r7).toNat) q1dSSI).2.1)) ++ ([32] : List UInt8)) ++ r9))], [(12, q1bSSI_36 ([] ++ x1))], [], 0⟩ (an6 ob2 ob3 ob4 ob5 (cpT (f45_ok FUEL _ _ hr9)) ob6) ?_
            refine thenQ_normal ?_
            refine AWp.le (Le.trans (Le.ren (swapN 12 3000) (swapN_inv 12 3000) rfl) (Le.mk (s' := ⟨133, [(4, .own 3000), (5, .str (((cs12 ++ ((x1.getD ((r7).toNat) q1dSSI).2.1)) ++ ([32] : List UInt8)) ++ r9))], [(3000, q1bSSI_36 ([] ++ x1))], [], 0⟩) rfl rfl ⟨.refl _, .refl _, trivial⟩ ⟨⟨_, rfl, .refl _⟩, trivial⟩)) ?_
            have hret := Option.some.inj h
            subst hret
            refine AWp.le (Le.mk (s' := ⟨133, [(4, .own 3000), (5, .str (((cs12 ++ ((x1.getD ((r7).toNat) q1dSSI).2.1)) ++ ([32] : List UInt8)) ++ r9))], [(3000, q1bSSI_36 ([] ++ x1))], [], 0⟩) rfl rfl ⟨.refl _, .refl _, trivial⟩ ⟨⟨_, rfl, .refl _⟩, trivial⟩) ?_
            refine AWp.ret ?_
            refine blockQ_ret ?_
            refine joinQ_ret ?_
            exact bodyQ_ret _ rfl ⟨rfl, rfl⟩ rfl
        ·
          replace h := ite_fb hc3 h
          refine q1rq [] [] [0, 3, 6, 9, 10, 30, 58] [3, 12] ⟨133, [(0, q1aSSI x1), (3, .ptr 3 0), (6, .own 12), (9, .int .i64 r7), (10, .str x5), (30, .int .i64 x2), (58, .bool (x2 == (3 : Int)))], [(3, .cells 24 [.int .i64 x2, .str x3, .str x4, .str x5]), (12, q1bSSI_36 ([] ++ x1))], [], 0⟩ trivial ?_
          refine AWp.cond (b := (x2 == (3 : Int))) (by kernel_rfl) (fun hc5 => ?_) (fun hc5 => ?_)
          ·
            replace h := ite_tb hc5 h
            refine AWp.seq ?_
            refine q1rq [] [] [0, 6, 9, 61] [12] ⟨133, [(0, q1aSSI x1), (6, .own 12), (9, .int .i64 r7), (61, .bool (decide (r7 < (0 : Int))))], [(12, q1bSSI_36 ([] ++ x1))], [], 0⟩ trivial ?_
            refine AWp.cond (b := (decide (r7 < (0 : Int)))) (by kernel_rfl) (fun hc6 => ?_) (fun hc6 => ?_)
            ·
              replace h := ite_tb hc6 h
              refine q1rq [] [] [4, 5] [12] ⟨133, [(4, .own 12), (5, .str ([110, 111, 110, 101] : List UInt8))], [(12, q1bSSI_36 ([] ++ x1))], [], 0⟩ trivial ?_
              refine AWp.le (Le.trans (Le.ren (swapN 12 3000) (swapN_inv 12 3000) rfl) (Le.mk (s' := ⟨133, [(4, .own 3000), (5, .str ([110, 111, 110, 101] : List UInt8))], [(3000, q1bSSI_36 ([] ++ x1))], [], 0⟩) rfl rfl ⟨.refl _, .refl _, trivial⟩ ⟨⟨_, rfl, .refl _⟩, trivial⟩)) ?_
              have hret := Option.some.inj h
              subst hret
              refine AWp.le (Le.mk (s' := ⟨133, [(4, .own 3000), (5, .str ([110, 111, 110, 101] : List UInt8))], [(3000, q1bSSI_36 ([] ++ x1))], [], 0⟩) rfl rfl ⟨.refl _, .refl _, trivial⟩ ⟨⟨_, rfl, .refl _⟩, trivial⟩) ?_
              refine AWp.ret ?_
              refine thenQ_ret ?_
              refine blockQ_ret ?_
              refine joinQ_ret ?_
              exact bodyQ_ret _ rfl ⟨rfl, rfl⟩ rfl
            ·
              replace h := ite_fb hc6 h
              refine AWp.skip ?_
              refine thenQ_normal ?_
              refine AWp.seq ?_
              obtain ⟨ob7, h⟩ := chk_some h
              obtain ⟨ob8, h⟩ := chk_some h
              obtain ⟨ob9, h⟩ := chk_some h
              obtain ⟨ob10, h⟩ := chk_some h
              obtain ⟨ob11, h⟩ := chk_some h
              refine q1rr [] [] [4, 5] [63] ⟨133, [(4, .own 63), (5, .str ([111, 107] : List UInt8))], [(63, .rows 36 3 ((0 + ((r7).toNat)) + ((x1).length - ((r7 + (1 : Int))).toNat)) (appF (0 + ((r7).toNat)) (appF 0 (lstF 3 []) (encF eSSI q1dSSI x1)) (fun i j => (encF eSSI q1dSSI x1) (i + (((r7 + (1 : Int))).toNat)) j)))], [], 0⟩ (an5 ob7 ob8 ob9 ob10 ob11) ?_
              refine thenQ_normal ?_
              refine AWp.le (Le.mk (s' := ⟨133, [(4, .own 63), (5, .str ([111, 107] : List UInt8))], [(63, q1bSSI_36 (([] ++ (x1.take ((r7).toNat))) ++ (x1.drop (((r7 + (1 : Int))).toNat))))], [], 0⟩) rfl rfl ⟨.refl _, .refl _, trivial⟩ ⟨⟨_, rfl, (BLe.of (RL.app (RL.app (RL.lst (enc := eSSI) [] rfl rfl (fun _ => rfl)) (RL.takeL (by first | omega | (simp only [List.length_append, List.length_cons, List.length_nil, List.length_take, List.length_drop] at *; omega) | (simp; done) | (simp_all; done) | (simp_all; omega) | rfl))) RL.dropL))⟩, trivial⟩) ?_
              refine AWp.le (Le.trans (Le.ren (swapN 63 3000) (swapN_inv 63 3000) rfl) (Le.mk (s' := ⟨133, [(4, .own 3000), (5, .str ([111, 107] : List UInt8))], [(3000, q1bSSI_36 (([] ++ (x1.take ((r7).toNat))) ++ (x1.drop (((r7 + (1 : Int))).toNat))))], [], 0⟩) rfl rfl ⟨.refl _, .refl _, trivial⟩ ⟨⟨_, rfl, .refl _⟩, trivial⟩)) ?_
              have hret := Option.some.inj h
              subst hret
              refine AWp.le (Le.mk (s' := ⟨133, [(4, .own 3000), (5, .str ([111, 107] : List UInt8))], [(3000, q1bSSI_36 (([] ++ (x1.take ((r7).toNat))) ++ (x1.drop (((r7 + (1 : Int))).toNat))))], [], 0⟩) rfl rfl ⟨.refl _, .refl _, trivial⟩ ⟨⟨_, rfl, .refl _⟩, trivial⟩) ?_
              refine AWp.ret ?_
              refine blockQ_ret ?_
              refine joinQ_ret ?_
              exact bodyQ_ret _ rfl ⟨rfl, rfl⟩ rfl
          ·
            replace h := ite_fb hc5 h
            refine q1rq [] [] [0, 3, 6, 9, 10, 30, 73] [3, 12] ⟨133, [(0, q1aSSI x1), (3, .ptr 3 0), (6, .own 12), (9, .int .i64 r7), (10, .str x5), (30, .int .i64 x2), (73, .bool (x2 == (5 : Int)))], [(3, .cells 24 [.int .i64 x2, .str x3, .str x4, .str x5]), (12, q1bSSI_36 ([] ++ x1))], [], 0⟩ trivial ?_
            refine AWp.cond (b := (x2 == (5 : Int))) (by kernel_rfl) (fun hc7 => ?_) (fun hc7 => ?_)
            ·
              replace h := ite_tb hc7 h
              refine AWp.seq ?_
              refine q1rq [] [] [0, 3, 6, 9, 10, 76] [3, 12] ⟨133, [(0, q1aSSI x1), (3, .ptr 3 0), (6, .own 12), (9, .int .i64 r7), (10, .str x5), (76, .bool (decide (r7 < (0 : Int))))], [(3, .cells 24 [.int .i64 x2, .str x3, .str x4, .str x5]), (12, q1bSSI_36 ([] ++ x1))], [], 0⟩ trivial ?_
              refine AWp.cond (b := (decide (r7 < (0 : Int)))) (by kernel_rfl) (fun hc8 => ?_) (fun hc8 => ?_)
              ·
                replace h := ite_tb hc8 h
                refine q1rq [] [] [4, 5] [12] ⟨133, [(4, .own 12), (5, .str ([110, 111, 110, 101] : List UInt8))], [(12, q1bSSI_36 ([] ++ x1))], [], 0⟩ trivial ?_
                refine AWp.le (Le.trans (Le.ren (swapN 12 3000) (swapN_inv 12 3000) rfl) (Le.mk (s' := ⟨133, [(4, .own 3000), (5, .str ([110, 111, 110, 101] : List UInt8))], [(3000, q1bSSI_36 ([] ++ x1))], [], 0⟩) rfl rfl ⟨.refl _, .refl _, trivial⟩ ⟨⟨_, rfl, .refl _⟩, trivial⟩)) ?_
                have hret := Option.some.inj h
                subst hret
                refine AWp.le (Le.mk (s' := ⟨133, [(4, .own 3000), (5, .str ([110, 111, 110, 101] : List UInt8))], [(3000, q1bSSI_36 ([] ++ x1))], [], 0⟩) rfl rfl ⟨.refl _, .refl _, trivial⟩ ⟨⟨_, rfl, .refl _⟩, trivial⟩) ?_
                refine AWp.ret ?_
                refine thenQ_ret ?_
                refine blockQ_ret ?_
                refine joinQ_ret ?_
                exact bodyQ_ret _ rfl ⟨rfl, rfl⟩ rfl
              ·
                replace h := ite_fb hc8 h
                refine AWp.skip ?_
                refine thenQ_normal ?_
                refine AWp.seq ?_
                obtain ⟨ob12, h⟩ := chk_some h
                refine q1rr [] [] [0, 3, 6, 9, 10, 85] [3, 12] ⟨133, [(0, q1aSSI x1), (3, .ptr 3 0), (6, .own 12), (9, .int .i64 r7), (10, .str x5), (85, .bool (!(((x1.getD ((r7).toNat) q1dSSI).2.1) == x4)))], [(3, .cells 24 [.int .i64 x2, .str x3, .str x4, .str x5]), (12, q1bSSI_36 ([] ++ x1))], [], 0⟩ (an1 ob12) ?_
                refine thenQ_normal ?_
                refine AWp.cond (b := (!(((x1.getD ((r7).toNat) q1dSSI).2.1) == x4))) (by kernel_rfl) (fun hc9 => ?_) (fun hc9 => ?_)
                ·
                  replace h := ite_tb hc9 h
                  refine AWp.seq ?_
                  obtain ⟨ob13, h⟩ := chk_some h
                  obtain ⟨ob14, h⟩ := chk_some h
                  refine q1rr [] [] [4, 5] [12] ⟨133, [(4, .own 12), (5, .str (([110, 111, 32] : List UInt8) ++ ((x1.getD ((r7).toNat) q1dSSI).2.1)))], [(12, q1bSSI_36 ([] ++ x1))], [], 0⟩ (an2 ob13 ob14) ?_
                  refine thenQ_normal ?_
                  refine AWp.le (Le.trans (Le.ren (swapN 12 3000) (swapN_inv 12 3000) rfl) (Le.mk (s' := ⟨133, [(4, .own 3000), (5, .str (([110, 111, 32] : List UInt8) ++ ((x1.getD ((r7).toNat) q1dSSI).2.1)))], [(3000, q1bSSI_36 ([] ++ x1))], [], 0⟩) rfl rfl ⟨.refl _, .refl _, trivial⟩ ⟨⟨_, rfl, .refl _⟩, trivial⟩)) ?_
                  have hret := Option.some.inj h
                  subst hret
                  refine AWp.le (Le.mk (s' := ⟨133, [(4, .own 3000), (5, .str (([110, 111, 32] : List UInt8) ++ ((x1.getD ((r7).toNat) q1dSSI).2.1)))], [(3000, q1bSSI_36 ([] ++ x1))], [], 0⟩) rfl rfl ⟨.refl _, .refl _, trivial⟩ ⟨⟨_, rfl, .refl _⟩, trivial⟩) ?_
                  refine AWp.ret ?_
                  refine blockQ_ret ?_
                  refine joinQ_ret ?_
                  exact bodyQ_ret _ rfl ⟨rfl, rfl⟩ rfl
                ·
                  replace h := ite_fb hc9 h
                  refine AWp.skip ?_
                  refine blockQ_normal ?_
                  exact joinQ_normal (x5) (Le.mk rfl rfl ⟨.refl _, .refl _, .refl _, .refl _, .refl _, trivial⟩ ⟨⟨_, rfl, .refl _⟩, ⟨_, rfl, .refl _⟩, trivial⟩) h
            ·
              replace h := ite_fb hc7 h
              refine q1rq [] [] [0, 3, 6, 9, 10, 93] [3, 12] ⟨133, [(0, q1aSSI x1), (3, .ptr 3 0), (6, .own 12), (9, .int .i64 r7), (10, .str x5), (93, .bool (x2 == (4 : Int)))], [(3, .cells 24 [.int .i64 x2, .str x3, .str x4, .str x5]), (12, q1bSSI_36 ([] ++ x1))], [], 0⟩ trivial ?_
              refine AWp.cond (b := (x2 == (4 : Int))) (by kernel_rfl) (fun hc10 => ?_) (fun hc10 => ?_)
              ·
                replace h := ite_tb hc10 h
                obtain ⟨K2, hK2, h⟩ := jn_some h
                refine AWp.join (α := List UInt8) (fun (s11 : List UInt8) => ⟨133, [(0, q1aSSI x1), (3, .ptr 3 0), (6, .own 12), (9, .int .i64 r7), (10, .str s11)], [(3, .cells 24 [.int .i64 x2, .str x3, .str x4, .str x5]), (12, q1bSSI_36 ([] ++ x1))], [], 0⟩) (fun x => K2 x = some r) ?_ ?_
                ·
                  refine q1rq [] [] [0, 3, 6, 9, 10, 96] [3, 12] ⟨133, [(0, q1aSSI x1), (3, .ptr 3 0), (6, .own 12), (9, .int .i64 r7), (10, .str x5), (96, .bool (decide (r7 ≥ (0 : Int))))], [(3, .cells 24 [.int .i64 x2, .str x3, .str x4, .str x5]), (12, q1bSSI_36 ([] ++ x1))], [], 0⟩ trivial ?_
                  refine AWp.cond (b := (decide (r7 ≥ (0 : Int)))) (by kernel_rfl) (fun hc11 => ?_) (fun hc11 => ?_)
                  ·
                    replace h := ite_tb hc11 h
                    obtain ⟨ob15, h⟩ := chk_some h
                    obtain ⟨ob16, h⟩ := chk_some h
                    refine q1rr [] [] [0, 3, 6, 9, 10] [3, 12] ⟨133, [(0, q1aSSI x1), (3, .ptr 3 0), (6, .own 12), (9, .int .i64 r7), (10, .str (((x1.getD ((r7).toNat) q1dSSI).2.1) ++ x5))], [(3, .cells 24 [.int .i64 x2, .str x3, .str x4, .str x5]), (12, q1bSSI_36 ([] ++ x1))], [], 0⟩ (an2 ob15 ob16) ?_
                    exact joinQ_normal ((((x1.getD ((r7).toNat) q1dSSI).2.1) ++ x5)) (Le.mk rfl rfl ⟨.refl _, .refl _, .refl _, .refl _, .refl _, trivial⟩ ⟨⟨_, rfl, .refl _⟩, ⟨_, rfl, .refl _⟩, trivial⟩) h
                  ·
                    replace h := ite_fb hc11 h
                    refine AWp.skip ?_
                    exact joinQ_normal (x5) (Le.mk rfl rfl ⟨.refl _, .refl _, .refl _, .refl _, .refl _, trivial⟩ ⟨⟨_, rfl, .refl _⟩, ⟨_, rfl, .refl _⟩, trivial⟩) h
                ·
                  rintro s11 h
                  replace h := (congrFun hK2 _).symm.trans h
                  refine q1rq [] [] [0, 3, 6, 9, 10, 107] [3, 12] ⟨133, [(0, q1aSSI x1), (3, .ptr 3 0), (6, .own 12), (9, .int .i64 r7), (10, .str s11), (107, .bool (decide (((s11.length : Nat) : Int) > (256 : Int))))], [(3, .cells 24 [.int .i64 x2, .str x3, .str x4, .str x5]), (12, q1bSSI_36 ([] ++ x1))], [], 0⟩ trivial ?_
                  refine AWp.cond (b := (decide (((s11.length : Nat) : Int) > (256 : Int)))) (by kernel_rfl) (fun hc12 => ?_) (fun hc12 => ?_)
                  ·
                    replace h := ite_tb hc12 h
                    refine q1rq [] [] [4, 5] [12] ⟨133, [(4, .own 12), (5, .str ([108, 111, 110, 103] : List UInt8))], [(12, q1bSSI_36 ([] ++ x1))], [], 0⟩ trivial ?_
                    refine AWp.le (Le.trans (Le.ren (swapN 12 3000) (swapN_inv 12 3000) rfl) (Le.mk (s' := ⟨133, [(4, .own 3000), (5, .str ([108, 111, 110, 103] : List UInt8))], [(3000, q1bSSI_36 ([] ++ x1))], [], 0⟩) rfl rfl ⟨.refl _, .refl _, trivial⟩ ⟨⟨_, rfl, .refl _⟩, trivial⟩)) ?_
                    have hret := Option.some.inj h
                    subst hret
                    refine AWp.le (Le.mk (s' := ⟨133, [(4, .own 3000), (5, .str ([108, 111, 110, 103] : List UInt8))], [(3000, q1bSSI_36 ([] ++ x1))], [], 0⟩) rfl rfl ⟨.refl _, .refl _, trivial⟩ ⟨⟨_, rfl, .refl _⟩, trivial⟩) ?_
                    refine AWp.ret ?_
                    refine blockQ_ret ?_
                    refine joinQ_ret ?_
                    exact bodyQ_ret _ rfl ⟨rfl, rfl⟩ rfl
                  ·
                    replace h := ite_fb hc12 h
                    refine AWp.skip ?_
                    refine blockQ_normal ?_
                    exact joinQ_normal (s11) (Le.mk rfl rfl ⟨.refl _, .refl _, .refl _, .refl _, .refl _, trivial⟩ ⟨⟨_, rfl, .refl _⟩, ⟨_, rfl, .refl _⟩, trivial⟩) h
              ·
                replace h := ite_fb hc10 h
                refine AWp.skip ?_
                refine blockQ_normal ?_
                exact joinQ_normal (x5) (Le.mk rfl rfl ⟨.refl _, .refl _, .refl _, .refl _, .refl _, trivial⟩ ⟨⟨_, rfl, .refl _⟩, ⟨_, rfl, .refl _⟩, trivial⟩) h
    ·
      rintro s10 h
      replace h := (congrFun hK1 _).symm.trans h
      refine AWp.seq ?_
      refine AWp.seq ?_
      have ob17 : ((decide (r7 < (0 : Int))) == true) = true → ((decide (r7 < (0 : Int))) == true) = true := fun h => h
      have ob18 : ((decide (r7 < (0 : Int))) == true) = true → ((decide (r7 < (0 : Int))) == true) = true := fun h => h
      have ob19 : true = true → (decide (r7 < (0 : Int))) = true → ((decide (r7 < (0 : Int))) == true) = true := fun _ h => beq_iff_eq.2 h
      refine q1rr [] [] [0, 3, 6, 10, 115] [3, 12] ⟨133, [(0, q1aSSI x1), (3, .ptr 3 0), (6, .own 12), (10, .str s10), (115, .bool ((decide (r7 < (0 : Int))) && (decide ((((x1).length : Nat) : Int) ≥ (64 : Int)))))], [(3, .cells 24 [.int .i64 x2, .str x3, .str x4, .str x5]), (12, q1bSSI_36 ([] ++ x1))], [], 0⟩ (an3 (an1 ob17) (an1 ob18) ob19) ?_
      refine thenQ_normal ?_
      refine AWp.cond (b := ((decide (r7 < (0 : Int))) && (decide ((((x1).length : Nat) : Int) ≥ (64 : Int))))) (by kernel_rfl) (fun hc13 => ?_) (fun hc13 => ?_)
      ·
        replace h := ite_tb hc13 h
        refine q1rq [] [] [4, 5] [12] ⟨133, [(4, .own 12), (5, .str ([102, 117, 108, 108] : List UInt8))], [(12, q1bSSI_36 ([] ++ x1))], [], 0⟩ trivial ?_
        refine AWp.le (Le.trans (Le.ren (swapN 12 3000) (swapN_inv 12 3000) rfl) (Le.mk (s' := ⟨133, [(4, .own 3000), (5, .str ([102, 117, 108, 108] : List UInt8))], [(3000, q1bSSI_36 ([] ++ x1))], [], 0⟩) rfl rfl ⟨.refl _, .refl _, trivial⟩ ⟨⟨_, rfl, .refl _⟩, trivial⟩)) ?_
        have hret := Option.some.inj h
        subst hret
        refine AWp.le (Le.mk (s' := ⟨133, [(4, .own 3000), (5, .str ([102, 117, 108, 108] : List UInt8))], [(3000, q1bSSI_36 ([] ++ x1))], [], 0⟩) rfl rfl ⟨.refl _, .refl _, trivial⟩ ⟨⟨_, rfl, .refl _⟩, trivial⟩) ?_
        refine AWp.ret ?_
        refine thenQ_ret ?_
        exact bodyQ_ret _ rfl ⟨rfl, rfl⟩ rfl
      ·
        replace h := ite_fb hc13 h
        refine AWp.skip ?_
        refine thenQ_normal ?_
        refine AWp.seq ?_
        obtain ⟨r12, hr12, h⟩ := bind_ok h
        refine q1rr [] [(4, ⟨[q1aSSI x1, .str x3, .str s10], [], [], [(6001, q1bSSI_36 r12)], .own 6001, [6001], [], []⟩)] [3, 11] [3, 6001] ⟨133, [(3, .ptr 3 0), (11, .own 6001)], [(3, .cells 24 [.int .i64 x2, .str x3, .str x4, .str x5]), (6001, q1bSSI_36 r12)], [], 0⟩ (an1 (cpT (Spec1.ren (swapN 3000 6001) (swapN_inv 3000 6001) rfl (f46_ok _ _ _ _ hr12)))) ?_
        refine thenQ_normal ?_
        refine AWp.seq ?_
        obtain ⟨r13, hr13, h⟩ := bind_ok h
        obtain ⟨r14, hr14, h⟩ := bind_ok h
        obtain ⟨ob20, h⟩ := chk_some h
        obtain ⟨ob21, h⟩ := chk_some h
        obtain ⟨ob22, h⟩ := chk_some h
        refine q1rr [] [(5, ⟨[q1aSSI r12, .str x3], [], [], [], .int .i64 r13, [], [6001], []⟩), (9, ⟨[.int .i64 (r12.getD ((r13).toNat) q1dSSI).2.2], [], [], [], .str r14, [], [], []⟩)] [4, 5] [6001] ⟨133, [(4, .own 6001), (5, .str (([111, 107, 32] : List UInt8) ++ r14))], [(6001, q1bSSI_36 r12)], [], 0⟩ (an5 (cpL (c := true) [(6001, q1bSSI_36 r12)] [6001] [.own 6001, .str x3] (fun _ => (f44_ok _ _ _ hr13)) (fun _ => ⟨.refl _, .refl _, trivial⟩) (.inr ⟨rfl, trivial⟩)) ob20 ob21 (cpT (f45_ok FUEL _ _ hr14)) ob22) ?_
        refine thenQ_normal ?_
        refine AWp.le (Le.trans (Le.ren (swapN 6001 3000) (swapN_inv 6001 3000) rfl) (Le.mk (s' := ⟨133, [(4, .own 3000), (5, .str (([111, 107, 32] : List UInt8) ++ r14))], [(3000, q1bSSI_36 r12)], [], 0⟩) rfl rfl ⟨.refl _, .refl _, trivial⟩ ⟨⟨_, rfl, .refl _⟩, trivial⟩)) ?_
        have hret := Option.some.inj h
        subst hret
        refine AWp.le (Le.mk (s' := ⟨133, [(4, .own 3000), (5, .str (([111, 107, 32] : List UInt8) ++ r14))], [(3000, q1bSSI_36 r12)], [], 0⟩) rfl rfl ⟨.refl _, .refl _, trivial⟩ ⟨⟨_, rfl, .refl _⟩, trivial⟩) ?_
        refine AWp.ret ?_
        exact bodyQ_ret _ rfl ⟨rfl, rfl⟩ rfl
def f21_L0 (x1 : List (Int × List UInt8 × List UInt8 × List UInt8)) (K1 : ((List (List UInt8 × List UInt8 × Int)) × List (List UInt8)) → Option ((List (List UInt8 × List UInt8 × Int)) × List (List UInt8))) : Nat → (Nat × (List (List UInt8 × List UInt8 × Int)) × List (List UInt8)) → Option ((List (List UInt8 × List UInt8 × Int)) × List (List UInt8))
  | 0, _ => none
  | k + 1, (n2, l3, l4) =>
    if (decide ((n2 : Int) < (((x1).length : Nat) : Int))) then (
    (f19 l3 ((x1.getD n2 (default : Int × List UInt8 × List UInt8 × List UInt8)).1) ((x1.getD n2 (default : Int × List UInt8 × List UInt8 × List UInt8)).2.1) ((x1.getD n2 (default : Int × List UInt8 × List UInt8 × List UInt8)).2.2.1) ((x1.getD n2 (default : Int × List UInt8 × List UInt8 × List UInt8)).2.2.2)).bind fun (r5 : List UInt8 × (List (List UInt8 × List UInt8 × Int))) =>
    chk ((n2 : Int) < (((x1).length : Nat) : Int)) <|
    chk (((l4).length + 1) * 16 ≤ 140737488355328) <|
    chk (((n2 : Int) + (1 : Int)) ≤ 9223372036854775807) <|
    (f21_L0 x1 K1 k) ((n2 + 1), r5.2, (l4 ++ [r5.1]))
    ) else (
    K1 (l3, l4)
    )
def f21 (x1 : List (Int × List UInt8 × List UInt8 × List UInt8)) : Option ((List (List UInt8 × List UInt8 × Int)) × List (List UInt8)) :=
  jn (fun ((l6, l7) : (List (List UInt8 × List UInt8 × Int)) × List (List UInt8)) =>
  some (l6, l7)
  ) fun (K1 : ((List (List UInt8 × List UInt8 × Int)) × List (List UInt8)) → Option ((List (List UInt8 × List UInt8 × Int)) × List (List UInt8))) =>
  f21_L0 x1 K1 FUEL (0, [], [])
set_option maxRecDepth 100000 in
theorem f21_ok  (x1 : List (Int × List UInt8 × List UInt8 × List UInt8)) (r : (List (List UInt8 × List UInt8 × Int)) × List (List UInt8)) (h : f21 x1 = some r)  : Spec1 Tryd.prog 21 [] [] [] [vL 4 eISSS (default : Int × List UInt8 × List UInt8 × List UInt8) x1] (.tup [.own 3000, .own 3001]) [(3000, bL 36 3 eSSI (default : List UInt8 × List UInt8 × Int) r.1), (3001, bL 9 1 eS [] r.2)] := by
  unfold f21 at h
  refine Spec1.body 0 _ _ Tryd.func21 rfl Tryd.ntmps21 rfl rfl ?_
  refine q1rq [] [] [0] [] ⟨31, [(0, q1aISSS x1)], [], [], 0⟩ trivial ?_
  refine q1rq [] [] [0, 4] [] ⟨31, [(0, q1aISSS x1), (4, .nils)], [], [], 0⟩ trivial ?_
  refine q1rq [] [] [0, 4, 5] [] ⟨31, [(0, q1aISSS x1), (4, .nils), (5, .nils)], [], [], 0⟩ trivial ?_
  obtain ⟨K1, hK1, h⟩ := jn_some h
  refine AWp.join (α := (List (List UInt8 × List UInt8 × Int)) × List (List UInt8)) (fun (x : (List (List UInt8 × List UInt8 × Int)) × List (List UInt8)) => match x with | (l6, l7) => ⟨31, [(4, .own 5004), (5, .own 5005)], [(5004, q1bSSI_36 l6), (5005, q1bS_9 l7)], [], 0⟩) (fun x => K1 x = some r) ?_ ?_
  ·
    refine q1rq [] [] [0, 4, 5, 6] [] ⟨31, [(0, q1aISSS x1), (4, .nils), (5, .nils), (6, .int .i64 (0 : Int))], [], [], 0⟩ trivial ?_
    refine AWp.block ?_
    refine AWp.loopL (α := Nat × (Nat × (List (List UInt8 × List UInt8 × Int)) × List (List UInt8))) (fun x => match x with | (_, n2, l3, l4) => ⟨31, [(0, q1aISSS x1), (4, .own 5004), (5, .own 5005), (6, .int .i64 (n2 : Int))], [(5004, q1bSSI_36 l3), (5005, q1bS_9 l4)], [], 0⟩) (fun x => f21_L0 x1 K1 x.1 x.2 = some r) (fun x => x.1) (FUEL, 0, [], []) (Le.trans (Le.trans (Le.nilOwn 4 5004 36 3 (encF eSSI q1dSSI []) rfl rfl (Nat.le_of_ble_eq_true rfl)) (Le.mk (s' := ⟨31, [(0, q1aISSS x1), (4, .own 5004), (5, .nils), (6, .int .i64 (0 : Int))], [(5004, q1bSSI_36 [])], [], 0⟩) rfl rfl ⟨.refl _, .refl _, .refl _, .refl _, trivial⟩ ⟨⟨_, rfl, .refl _⟩, trivial⟩)) (Le.trans (Le.trans (Le.nilOwn 5 5005 9 1 (encF eS [] []) rfl rfl (Nat.le_of_ble_eq_true rfl)) (Le.mk (s' := ⟨31, [(0, q1aISSS x1), (4, .own 5004), (5, .own 5005), (6, .int .i64 (0 : Int))], [(5004, q1bSSI_36 []), (5005, q1bS_9 [])], [], 0⟩) rfl rfl ⟨.refl _, .refl _, .refl _, .refl _, trivial⟩ ⟨⟨_, rfl, .refl _⟩, ⟨_, rfl, .refl _⟩, trivial⟩)) (Le.mk (s' := ⟨31, [(0, q1aISSS x1), (4, .own 5004), (5, .own 5005), (6, .int .i64 (0 : Int))], [(5004, q1bSSI_36 []), (5005, q1bS_9 [])], [], 0⟩) rfl rfl ⟨.refl _, .refl _, .refl _, .refl _, trivial⟩ ⟨⟨_, rfl, .refl _⟩, ⟨_, rfl, .refl _⟩, trivial⟩))) h ?_
    rintro ⟨k0, n2, l3, l4⟩ h
    cases k0 with
    | zero => exact nomatch (show (none : Option ((List (List UInt8 × List UInt8 × Int)) × List (List UInt8))) = some r from h)
    | succ k0 =>
    obtain ⟨C0, hC0⟩ : ∃ C, C = f21_L0 x1 K1 k0 := ⟨_, rfl⟩
    replace h := (f21_L0.eq_2 ..).symm.trans h
    try rw [← hC0] at h
    refine AWp.seq ?_
    refine q1rq [] [] [0, 4, 5, 6, 12] [5004, 5005] ⟨31, [(0, q1aISSS x1), (4, .own 5004), (5, .own 5005), (6, .int .i64 (n2 : Int)), (12, .bool (decide ((n2 : Int) < (((x1).length : Nat) : Int))))], [(5004, q1bSSI_36 l3), (5005, q1bS_9 l4)], [], 0⟩ trivial ?_
    refine AWp.cond (b := (decide ((n2 : Int) < (((x1).length : Nat) : Int)))) (by kernel_rfl) (fun hc1 => ?_) (fun hc1 => ?_)
    ·
      replace h := ite_tb hc1 h
      refine AWp.skip ?_
      refine thenQ_normal ?_
      refine AWp.seq ?_
      refine AWp.block ?_
      refine AWp.seq ?_
      obtain ⟨r5, hr5, h⟩ := bind_ok h
      obtain ⟨ob0p, h⟩ := chk_some h
      have ob0 : 0 ≤ (n2 : Int) ∧ (n2 : Int) < (((x1).length : Nat) : Int) := ⟨by omega, ob0p⟩
      refine q1rr [] [(5, ⟨[q1aSSI l3, .agg [.int .i64 (x1.getD n2 q1dISSS).1, .str (x1.getD n2 q1dISSS).2.1, .str (x1.getD n2 q1dISSS).2.2.1, .str (x1.getD n2 q1dISSS).2.2.2]], [], [], [(6001, q1bSSI_36 r5.2)], .tup [.own 6001, .str r5.1], [6001], [5004], []⟩)] [0, 5, 6, 7, 8] [5005, 6001] ⟨31, [(0, q1aISSS x1), (5, .own 5005), (6, .int .i64 (n2 : Int)), (7, .own 6001), (8, .str r5.1)], [(5005, q1bS_9 l4), (6001, q1bSSI_36 r5.2)], [], 0⟩ (an2 ob0 (cpL (c := true) [(5004, q1bSSI_36 l3)] [5004] [.own 5004, .agg [.int .i64 (x1.getD n2 q1dISSS).1, .str (x1.getD n2 q1dISSS).2.1, .str (x1.getD n2 q1dISSS).2.2.1, .str (x1.getD n2 q1dISSS).2.2.2]] (fun _ => (Spec1.ren (swapN 3000 6001) (swapN_inv 3000 6001) rfl (f19_ok _ _ _ _ _ _ hr5))) (fun _ => ⟨.refl _, .refl _, trivial⟩) (.inr ⟨rfl, ⟨(fun _ _ _ _ => eSSI_flat _ _), trivial⟩⟩))) ?_
      refine thenQ_normal ?_
      refine q1rq [] [] [0, 4, 5, 6, 8] [5005, 6001] ⟨31, [(0, q1aISSS x1), (4, .own 6001), (5, .own 5005), (6, .int .i64 (n2 : Int)), (8, .str r5.1)], [(5005, q1bS_9 l4), (6001, q1bSSI_36 r5.2)], [], 0⟩ trivial ?_
      obtain ⟨ob1, h⟩ := chk_some h
      refine q1rr [] [] [0, 4, 5, 6] [5005, 6001] ⟨31, [(0, q1aISSS x1), (4, .own 6001), (5, .own 5005), (6, .int .i64 (n2 : Int))], [(5005, .rows 9 1 ((l4).length + 1) (appF (l4).length (encF eS [] l4) (lstF 1 [.str r5.1]))), (6001, q1bSSI_36 r5.2)], [], 0⟩ (an1 ob1) ?_
      refine blockQ_normal ?_
      refine thenQ_normal ?_
      refine AWp.le (Le.mk (s' := ⟨31, [(0, q1aISSS x1), (4, .own 6001), (5, .own 5005), (6, .int .i64 (n2 : Int))], [(5005, q1bS_9 (l4 ++ [r5.1])), (6001, q1bSSI_36 r5.2)], [], 0⟩) rfl rfl ⟨.refl _, .refl _, .refl _, .refl _, trivial⟩ ⟨⟨_, rfl, (BLe.of (RL.app (RL.self _) (RL.lst (enc := eS) [r5.1] rfl rfl (fun _ => rfl))))⟩, ⟨_, rfl, .refl _⟩, trivial⟩) ?_
      obtain ⟨ob2p, h⟩ := chk_some h
      have ob2 : -9223372036854775808 ≤ ((n2 : Int) + (1 : Int)) ∧ ((n2 : Int) + (1 : Int)) ≤ 9223372036854775807 := ⟨by omega, ob2p⟩
      refine q1rr [] [] [0, 4, 5, 6] [5005, 6001] ⟨31, [(0, q1aISSS x1), (4, .own 6001), (5, .own 5005), (6, .int .i64 (((n2 + 1) : Nat) : Int))], [(5005, q1bS_9 (l4 ++ [r5.1])), (6001, q1bSSI_36 r5.2)], [], 0⟩ (an1 ob2) ?_
      rw [hC0] at h
      exact loopQ_normal (_, (n2 + 1), r5.2, (l4 ++ [r5.1])) (Le.trans (Le.trans (Le.ren (swapN 6001 5004) (swapN_inv 6001 5004) rfl) (Le.mk (s' := ⟨31, [(0, q1aISSS x1), (4, .own 5004), (5, .own 5005), (6, .int .i64 (((n2 + 1) : Nat) : Int))], [(5005, q1bS_9 (l4 ++ [r5.1])), (5004, q1bSSI_36 r5.2)], [], 0⟩) rfl rfl ⟨.refl _, .refl _, .refl _, .refl _, trivial⟩ ⟨⟨_, rfl, .refl _⟩, ⟨_, rfl, .refl _⟩, trivial⟩)) (Le.mk rfl rfl ⟨.refl _, .refl _, .refl _, .refl _, trivial⟩ ⟨⟨_, rfl, .refl _⟩, ⟨_, rfl, .refl _⟩, trivial⟩)) h (Nat.lt_succ_self _)
    ·
      replace h := ite_fb hc1 h
      refine AWp.exit ?_
      refine thenQ_exit ?_
      refine thenQ_exit ?_
      refine blockQ_same ?_
      exact joinQ_normal (l3, l4) (Le.mk rfl rfl ⟨.refl _, .refl _, trivial⟩ ⟨⟨_, rfl, .refl _⟩, ⟨_, rfl, .refl _⟩, trivial⟩) h
  ·
    rintro ⟨l6, l7⟩ h
    replace h := (congrFun hK1 _).symm.trans h
    refine q1rq [] [] [2, 3] [5004, 5005] ⟨31, [(2, .own 5004), (3, .own 5005)], [(5004, q1bSSI_36 l6), (5005, q1bS_9 l7)], [], 0⟩ trivial ?_
    refine AWp.le (Le.trans (Le.ren (swapN 5004 3000) (swapN_inv 5004 3000) rfl) (Le.mk (s' := ⟨31, [(2, .own 3000), (3, .own 5005)], [(3000, q1bSSI_36 l6), (5005, q1bS_9 l7)], [], 0⟩) rfl rfl ⟨.refl _, .refl _, trivial⟩ ⟨⟨_, rfl, .refl _⟩, ⟨_, rfl, .refl _⟩, trivial⟩)) ?_
    refine AWp.le (Le.trans (Le.ren (swapN 5005 3001) (swapN_inv 5005 3001) rfl) (Le.mk (s' := ⟨31, [(2, .own 3000), (3, .own 3001)], [(3000, q1bSSI_36 l6), (3001, q1bS_9 l7)], [], 0⟩) rfl rfl ⟨.refl _, .refl _, trivial⟩ ⟨⟨_, rfl, .refl _⟩, ⟨_, rfl, .refl _⟩, trivial⟩)) ?_
    have hret := Option.some.inj h
    subst hret
    refine AWp.le (Le.mk (s' := ⟨31, [(2, .own 3000), (3, .own 3001)], [(3000, q1bSSI_36 l6), (3001, q1bS_9 l7)], [], 0⟩) rfl rfl ⟨.refl _, .refl _, trivial⟩ ⟨⟨_, rfl, .refl _⟩, ⟨_, rfl, .refl _⟩, trivial⟩) ?_
    refine AWp.ret ?_
    exact bodyQ_ret _ rfl ⟨rfl, rfl⟩ rfl
def f6_L0 (x1 : List (Int × List UInt8 × List UInt8 × List UInt8)) (K1 : (List (Int × List UInt8 × List UInt8 × List UInt8)) → Option Bool) : Nat → (Nat × (List (Int × List UInt8 × List UInt8 × List UInt8))) → Option Bool
  | 0, _ => none
  | k + 1, (n5, l6) =>
    if (decide ((n5 : Int) < (((x1).length : Nat) : Int))) then (
    jn (fun (l7 : List (Int × List UInt8 × List UInt8 × List UInt8)) =>
    chk (((n5 : Int) + (1 : Int)) ≤ 9223372036854775807) <|
    (f6_L0 x1 K1 k) ((n5 + 1), l7)
    ) fun (K2 : (List (Int × List UInt8 × List UInt8 × List UInt8)) → Option Bool) =>
    chk ((n5 : Int) < (((x1).length : Nat) : Int)) <|
    if ((x1.getD n5 (default : Int × List UInt8 × List UInt8 × List UInt8)).1 != (6 : Int)) then (
    chk (((l6).length + 1) * 56 ≤ 140737488355328) <|
    K2 (l6 ++ [((x1.getD n5 (default : Int × List UInt8 × List UInt8 × List UInt8)).1, ([120] : List UInt8), (x1.getD n5 (default : Int × List UInt8 × List UInt8 × List UInt8)).2.2.1, (x1.getD n5 (default : Int × List UInt8 × List UInt8 × List UInt8)).2.2.2)])
    ) else (
    K2 l6
    )
    ) else (
    K1 l6
    )
def f6_L1 (x2 : List (Int × List UInt8 × List UInt8 × List UInt8)) (K3 : (List (Int × List UInt8 × List UInt8 × List UInt8)) → Option Bool) : Nat → (Nat × (List (Int × List UInt8 × List UInt8 × List UInt8))) → Option Bool
  | 0, _ => none
  | k + 1, (n9, l10) =>
    if (decide ((n9 : Int) < (((x2).length : Nat) : Int))) then (
    jn (fun (l11 : List (Int × List UInt8 × List UInt8 × List UInt8)) =>
    chk (((n9 : Int) + (1 : Int)) ≤ 9223372036854775807) <|
    (f6_L1 x2 K3 k) ((n9 + 1), l11)
    ) fun (K4 : (List (Int × List UInt8 × List UInt8 × List UInt8)) → Option Bool) =>
    chk ((n9 : Int) < (((x2).length : Nat) : Int)) <|
    if ((x2.getD n9 (default : Int × List UInt8 × List UInt8 × List UInt8)).1 != (6 : Int)) then (
    chk (((l10).length + 1) * 56 ≤ 140737488355328) <|
    K4 (l10 ++ [((x2.getD n9 (default : Int × List UInt8 × List UInt8 × List UInt8)).1, ([121] : List UInt8), (x2.getD n9 (default : Int × List UInt8 × List UInt8 × List UInt8)).2.2.1, (x2.getD n9 (default : Int × List UInt8 × List UInt8 × List UInt8)).2.2.2)])
    ) else (
    K4 l10
    )
    ) else (
    K3 l10
    )
def f6_L2 (l8 : List (Int × List UInt8 × List UInt8 × List UInt8)) (l12 : List (Int × List UInt8 × List UInt8 × List UInt8)) (r13 : (List (List UInt8 × List UInt8 × Int)) × List (List UInt8)) (r14 : (List (List UInt8 × List UInt8 × Int)) × List (List UInt8)) (K5 : Unit → Option Bool) : Nat → ((List (List UInt8 × List UInt8 × Int)) × Nat) → Option Bool
  | 0, _ => none
  | k + 1, (l15, n16) =>
    if (decide ((n16 : Int) < (max (((l8).length : Nat) : Int) (((l12).length : Nat) : Int)))) then (
    jn (fun (l20 : List (List UInt8 × List UInt8 × Int)) =>
    chk (((n16 : Int) + (1 : Int)) ≤ 9223372036854775807) <|
    (f6_L2 l8 l12 r13 r14 K5 k) (l20, (n16 + 1))
    ) fun (K6 : (List (List UInt8 × List UInt8 × Int)) → Option Bool) =>
    jn (fun (l18 : List (List UInt8 × List UInt8 × Int)) =>
    if (decide ((n16 : Int) < (((l12).length : Nat) : Int))) then (
    (f18 l18 ((l12.getD n16 (default : Int × List UInt8 × List UInt8 × List UInt8)).1) ((l12.getD n16 (default : Int × List UInt8 × List UInt8 × List UInt8)).2.1) ((l12.getD n16 (default : Int × List UInt8 × List UInt8 × List UInt8)).2.2.1) ((l12.getD n16 (default : Int × List UInt8 × List UInt8 × List UInt8)).2.2.2)).bind fun (r19 : (List (List UInt8 × List UInt8 × Int)) × List UInt8) =>
    chk ((n16 : Int) < (((l12).length : Nat) : Int)) <|
    chk (n16 < (l12).length) <|
    chk ((n16 : Int) < (((r14.2).length : Nat) : Int)) <|
    chk (n16 < (r14.2).length) <|
    if (!(r19.2 == (r14.2.getD n16 []))) then (
    some false
    ) else (
    K6 r19.1
    )
    ) else (
    K6 l18
    )
    ) fun (K7 : (List (List UInt8 × List UInt8 × Int)) → Option Bool) =>
    if (decide ((n16 : Int) < (((l8).length : Nat) : Int))) then (
    (f18 l15 ((l8.getD n16 (default : Int × List UInt8 × List UInt8 × List UInt8)).1) ((l8.getD n16 (default : Int × List UInt8 × List UInt8 × List UInt8)).2.1) ((l8.getD n16 (default : Int × List UInt8 × List UInt8 × List UInt8)).2.2.1) ((l8.getD n16 (default : Int × List UInt8 × List UInt8 × List UInt8)).2.2.2)).bind fun (r17 : (List (List UInt8 × List UInt8 × Int)) × List UInt8) =>
    chk ((n16 : Int) < (((l8).length : Nat) : Int)) <|
    chk (n16 < (l8).length) <|
    chk ((n16 : Int) < (((r13.2).length : Nat) : Int)) <|
    chk (n16 < (r13.2).length) <|
    if (!(r17.2 == (r13.2.getD n16 []))) then (
    some false
    ) else (
    K7 r17.1
    )
    ) else (
    K7 l15
    )
    ) else (
    K5 ()
    )
def f6 (x1 : List (Int × List UInt8 × List UInt8 × List UInt8)) (x2 : List (Int × List UInt8 × List UInt8 × List UInt8)) : Option Bool :=
  (f10 ).bind fun (r3 : Bool) =>
  if (((!r3) || (decide ((((x1).length : Nat) : Int) > (20 : Int)))) || (decide ((((x2).length : Nat) : Int) > (20 : Int)))) then (
  (f10 ).bind fun (r4 : Bool) =>
  some r4
  ) else (
  jn (fun (l8 : List (Int × List UInt8 × List UInt8 × List UInt8)) =>
  jn (fun (l12 : List (Int × List UInt8 × List UInt8 × List UInt8)) =>
  (f21 l8).bind fun (r13 : (List (List UInt8 × List UInt8 × Int)) × List (List UInt8)) =>
  (f21 l12).bind fun (r14 : (List (List UInt8 × List UInt8 × Int)) × List (List UInt8)) =>
  jn (fun (_ : Unit) =>
  some true
  ) fun (K5 : Unit → Option Bool) =>
  f6_L2 l8 l12 r13 r14 K5 FUEL ([], 0)
  ) fun (K3 : (List (Int × List UInt8 × List UInt8 × List UInt8)) → Option Bool) =>
  f6_L1 x2 K3 FUEL (0, [])
  ) fun (K1 : (List (Int × List UInt8 × List UInt8 × List UInt8)) → Option Bool) =>
  f6_L0 x1 K1 FUEL (0, [])
  )
set_option maxRecDepth 100000 in
theorem f6_ok  (x1 : List (Int × List UInt8 × List UInt8 × List UInt8)) (x2 : List (Int × List UInt8 × List UInt8 × List UInt8)) (r : Bool) (h : f6 x1 x2 = some r)  : Spec1 Tryd.prog 6 [(1, .tab .u64 Lib.pow10Tab)] [] [] [vL 4 eISSS (default : Int × List UInt8 × List UInt8 × List UInt8) x1, vL 4 eISSS (default : Int × List UInt8 × List UInt8 × List UInt8) x2] (.bool r) [] := by
  unfold f6 at h
  refine Spec1.body 0 _ _ Tryd.func6 rfl Tryd.ntmps6 rfl rfl ?_
  refine q1rq [] [] [0, 1, 1000001] [] ⟨123, [(0, q1aISSS x1), (1, q1aISSS x2), (1000001, .tab .u64 Lib.pow10Tab)], [], [], 0⟩ trivial ?_
  refine AWp.seq ?_
  refine AWp.seq ?_
  obtain ⟨r3, hr3, h⟩ := bind_ok h
  have ob0 : ((!r3) == false) = true → ((!r3) == false) = true := fun h => h
  have ob1 : ((!r3) == false) = true → ((!r3) == false) = true := fun h => h
  have ob2 : true = true → (!r3) = false → ((!r3) == false) = true := fun _ h => beq_iff_eq.2 h
  have ob3 : (((!r3) || (decide ((((x1).length : Nat) : Int) > (20 : Int)))) == false) = true → (((!r3) || (decide ((((x1).length : Nat) : Int) > (20 : Int)))) == false) = true := fun h => h
  have ob4 : (((!r3) || (decide ((((x1).length : Nat) : Int) > (20 : Int)))) == false) = true → (((!r3) || (decide ((((x1).length : Nat) : Int) > (20 : Int)))) == false) = true := fun h => h
  have ob5 : true = true → ((!r3) || (decide ((((x1).length : Nat) : Int) > (20 : Int)))) = false → (((!r3) || (decide ((((x1).length : Nat) : Int) > (20 : Int)))) == false) = true := fun _ h => beq_iff_eq.2 h
  refine q1rr [] [(0, ⟨[], [], [], [], .bool r3, [], [], [1]⟩)] [0, 1, 32, 1000001] [] ⟨123, [(0, q1aISSS x1), (1, q1aISSS x2), (32, .bool (((!r3) || (decide ((((x1).length : Nat) : Int) > (20 : Int)))) || (decide ((((x2).length : Nat) : Int) > (20 : Int))))), (1000001, .tab .u64 Lib.pow10Tab)], [], [], 0⟩ (ac6 (cpT (f10_ok _ hr3)) (an1 ob0) (an1 ob1) ob2 (an1 ob3) (an1 ob4) (an1 ob5)) ?_
  refine thenQ_normal ?_
  refine AWp.cond (b := (((!r3) || (decide ((((x1).length : Nat) : Int) > (20 : Int)))) || (decide ((((x2).length : Nat) : Int) > (20 : Int))))) (by kernel_rfl) (fun hc1 => ?_) (fun hc1 => ?_)
  ·
    replace h := ite_tb hc1 h
    refine AWp.seq ?_
    obtain ⟨r4, hr4, h⟩ := bind_ok h
    refine q1rr [] [(0, ⟨[], [], [], [], .bool r4, [], [], [1]⟩)] [4, 1000001] [] ⟨123, [(4, .bool r4), (1000001, .tab .u64 Lib.pow10Tab)], [], [], 0⟩ (an1 (cpT (f10_ok _ hr4))) ?_
    refine thenQ_normal ?_
    have hret := Option.some.inj h
    subst hret
    refine AWp.le (Le.mk (s' := ⟨123, [(4, .bool r4)], [], [], 0⟩) rfl rfl ⟨.refl _, trivial⟩ trivial) ?_
    refine AWp.ret ?_
    refine thenQ_ret ?_
    exact bodyQ_ret _ rfl ⟨rfl, rfl⟩ rfl
  ·
    replace h := ite_fb hc1 h
    refine AWp.skip ?_
    refine thenQ_normal ?_
    refine q1rq [] [] [0, 1, 5, 6, 1000001] [] ⟨123, [(0, q1aISSS x1), (1, q1aISSS x2), (5, .nils), (6, .nils), (1000001, .tab .u64 Lib.pow10Tab)], [], [], 0⟩ trivial ?_
    obtain ⟨K1, hK1, h⟩ := jn_some h
    refine AWp.join (α := List (Int × List UInt8 × List UInt8 × List UInt8)) (fun (l8 : List (Int × List UInt8 × List UInt8 × List UInt8)) => ⟨123, [(1, q1aISSS x2), (5, .own 5005), (6, .nils), (1000001, .tab .u64 Lib.pow10Tab)], [(5005, q1bISSS_24 l8)], [], 0⟩) (fun x => K1 x = some r) ?_ ?_
    ·
      refine q1rq [] [] [1, 5, 6, 34, 35, 36, 1000001] [] ⟨123, [(1, q1aISSS x2), (5, .nils), (6, .nils), (34, q1aISSS x1), (35, .int .i64 (((x1).length : Nat) : Int)), (36, .int .i64 (0 : Int)), (1000001, .tab .u64 Lib.pow10Tab)], [], [], 0⟩ trivial ?_
      refine AWp.block ?_
      refine AWp.loopL (α := Nat × (Nat × (List (Int × List UInt8 × List UInt8 × List UInt8)))) (fun x => match x with | (_, n5, l6) => ⟨123, [(1, q1aISSS x2), (5, .own 5005), (6, .nils), (34, q1aISSS x1), (35, .int .i64 (((x1).length : Nat) : Int)), (36, .int .i64 (n5 : Int)), (1000001, .tab .u64 Lib.pow10Tab)], [(5005, q1bISSS_24 l6)], [], 0⟩) (fun x => f6_L0 x1 K1 x.1 x.2 = some r) (fun x => x.1) (FUEL, 0, []) (Le.trans (Le.trans (Le.nilOwn 5 5005 24 4 (encF eISSS q1dISSS []) rfl rfl (Nat.le_of_ble_eq_true rfl)) (Le.mk (s' := ⟨123, [(1, q1aISSS x2), (5, .own 5005), (6, .nils), (34, q1aISSS x1), (35, .int .i64 (((x1).length : Nat) : Int)), (36, .int .i64 (0 : Int)), (1000001, .tab .u64 Lib.pow10Tab)], [(5005, q1bISSS_24 [])], [], 0⟩) rfl rfl ⟨.refl _, .refl _, .refl _, .refl _, .refl _, .refl _, .refl _, trivial⟩ ⟨⟨_, rfl, .refl _⟩, trivial⟩)) (Le.mk (s' := ⟨123, [(1, q1aISSS x2), (5, .own 5005), (6, .nils), (34, q1aISSS x1), (35, .int .i64 (((x1).length : Nat) : Int)), (36, .int .i64 (0 : Int)), (1000001, .tab .u64 Lib.pow10Tab)], [(5005, q1bISSS_24 [])], [], 0⟩) rfl rfl ⟨.refl _, .refl _, .refl _, .refl _, .refl _, .refl _, .refl _, trivial⟩ ⟨⟨_, rfl, .refl _⟩, trivial⟩)) h ?_
      rintro ⟨k0, n5, l6⟩ h
      cases k0 with
      | zero => exact nomatch (show (none : Option Bool) = some r from h)
      | succ k0 =>
      obtain ⟨C0, hC0⟩ : ∃ C, C = f6_L0 x1 K1 k0 := ⟨_, rfl⟩
      replace h := (f6_L0.eq_2 ..).symm.trans h
      try rw [← hC0] at h
      refine q1rq [] [] [1, 5, 6, 34, 35, 36, 37, 1000001] [5005] ⟨123, [(1, q1aISSS x2), (5, .own 5005), (6, .nils), (34, q1aISSS x1), (35, .int .i64 (((x1).length : Nat) : Int)), (36, .int .i64 (n5 : Int)), (37, .bool (decide ((n5 : Int) < (((x1).length : Nat) : Int)))), (1000001, .tab .u64 Lib.pow10Tab)], [(5005, q1bISSS_24 l6)], [], 0⟩ trivial ?_
      refine AWp.seq ?_
      refine AWp.cond (b := (decide ((n5 : Int) < (((x1).length : Nat) : Int)))) (by kernel_rfl) (fun hc2 => ?_) (fun hc2 => ?_)
      ·
        replace h := ite_tb hc2 h
        refine AWp.skip ?_
        refine thenQ_normal ?_
        obtain ⟨K2, hK2, h⟩ := jn_some h
        refine AWp.join (α := List (Int × List UInt8 × List UInt8 × List UInt8)) (fun (l7 : List (Int × List UInt8 × List UInt8 × List UInt8)) => ⟨123, [(1, q1aISSS x2), (5, .own 47), (6, .nils), (34, q1aISSS x1), (35, .int .i64 (((x1).length : Nat) : Int)), (36, .int .i64 (n5 : Int)), (1000001, .tab .u64 Lib.pow10Tab)], [(47, q1bISSS_24 l7)], [], 0⟩) (fun x => K2 x = some r) ?_ ?_
        ·
          refine AWp.block ?_
          refine AWp.seq ?_
          obtain ⟨ob6p, h⟩ := chk_some h
          have ob6 : 0 ≤ (n5 : Int) ∧ (n5 : Int) < (((x1).length : Nat) : Int) := ⟨by omega, ob6p⟩
          refine q1rr [] [] [1, 5, 6, 8, 34, 35, 36, 1000001] [8, 5005] ⟨123, [(1, q1aISSS x2), (5, .own 5005), (6, .nils), (8, .ptr 8 0), (34, q1aISSS x1), (35, .int .i64 (((x1).length : Nat) : Int)), (36, .int .i64 (n5 : Int)), (1000001, .tab .u64 Lib.pow10Tab)], [(8, .cells 24 [.int .i64 (x1.getD n5 q1dISSS).1, .str (x1.getD n5 q1dISSS).2.1, .str (x1.getD n5 q1dISSS).2.2.1, .str (x1.getD n5 q1dISSS).2.2.2]), (5005, q1bISSS_24 l6)], [], 0⟩ (an2 ob6 trivial) ?_
          refine thenQ_normal ?_
          refine q1rq [] [] [1, 5, 6, 8, 34, 35, 36, 42, 1000001] [8, 5005] ⟨123, [(1, q1aISSS x2), (5, .own 5005), (6, .nils), (8, .ptr 8 0), (34, q1aISSS x1), (35, .int .i64 (((x1).length : Nat) : Int)), (36, .int .i64 (n5 : Int)), (42, .bool ((x1.getD n5 q1dISSS).1 != (6 : Int))), (1000001, .tab .u64 Lib.pow10Tab)], [(8, .cells 24 [.int .i64 (x1.getD n5 q1dISSS).1, .str (x1.getD n5 q1dISSS).2.1, .str (x1.getD n5 q1dISSS).2.2.1, .str (x1.getD n5 q1dISSS).2.2.2]), (5005, q1bISSS_24 l6)], [], 0⟩ trivial ?_
          refine AWp.cond (b := ((x1.getD n5 q1dISSS).1 != (6 : Int))) (by kernel_rfl) (fun hc3 => ?_) (fun hc3 => ?_)
          ·
            replace h := ite_tb hc3 h
            refine q1rq [] [] [1, 5, 6, 8, 34, 35, 36, 1000001] [8, 5005] ⟨123, [(1, q1aISSS x2), (5, .own 5005), (6, .nils), (8, .ptr 8 0), (34, q1aISSS x1), (35, .int .i64 (((x1).length : Nat) : Int)), (36, .int .i64 (n5 : Int)), (1000001, .tab .u64 Lib.pow10Tab)], [(8, .cells 24 [.int .i64 (x1.getD n5 q1dISSS).1, .str ([120] : List UInt8), .str (x1.getD n5 q1dISSS).2.2.1, .str (x1.getD n5 q1dISSS).2.2.2]), (5005, q1bISSS_24 l6)], [], 0⟩ (an1 trivial) ?_
            obtain ⟨ob7, h⟩ := chk_some h
            refine q1rr [] [] [1, 5, 6, 34, 35, 36, 1000001] [5005] ⟨123, [(1, q1aISSS x2), (5, .own 5005), (6, .nils), (34, q1aISSS x1), (35, .int .i64 (((x1).length : Nat) : Int)), (36, .int .i64 (n5 : Int)), (1000001, .tab .u64 Lib.pow10Tab)], [(5005, .rows 24 4 ((l6).length + 1) (appF (l6).length (encF eISSS q1dISSS l6) (lstF 4 [.int .i64 (x1.getD n5 q1dISSS).1, .str ([120] : List UInt8), .str (x1.getD n5 q1dISSS).2.2.1, .str (x1.getD n5 q1dISSS).2.2.2])))], [], 0⟩ (an1 ob7) ?_
            refine blockQ_normal ?_
            exact joinQ_normal ((l6 ++ [((x1.getD n5 q1dISSS).1, ([120] : List UInt8), (x1.getD n5 q1dISSS).2.2.1, (x1.getD n5 q1dISSS).2.2.2)])) (Le.trans (Le.mk (s' := ⟨123, [(1, q1aISSS x2), (5, .own 5005), (6, .nils), (34, q1aISSS x1), (35, .int .i64 (((x1).length : Nat) : Int)), (36, .int .i64 (n5 : Int)), (1000001, .tab .u64 Lib.pow10Tab)], [(5005, q1bISSS_24 (l6 ++ [((x1.getD n5 q1dISSS).1, ([120] : List UInt8), (x1.getD n5 q1dISSS).2.2.1, (x1.getD n5 q1dISSS).2.2.2)]))], [], 0⟩) rfl rfl ⟨.refl _, .refl _, .refl _, .refl _, .refl _, .refl _, .refl _, trivial⟩ ⟨⟨_, rfl, (BLe.of (RL.app (RL.self _) (RL.lst (enc := eISSS) [((x1.getD n5 q1dISSS).1, ([120] : List UInt8), (x1.getD n5 q1dISSS).2.2.1, (x1.getD n5 q1dISSS).2.2.2)] rfl rfl (fun _ => rfl))))⟩, trivial⟩) (Le.trans (Le.trans (Le.ren (swapN 5005 47) (swapN_inv 5005 47) rfl) (Le.mk (s' := ⟨123, [(1, q1aISSS x2), (5, .own 47), (6, .nils), (34, q1aISSS x1), (35, .int .i64 (((x1).length : Nat) : Int)), (36, .int .i64 (n5 : Int)), (1000001, .tab .u64 Lib.pow10Tab)], [(47, q1bISSS_24 (l6 ++ [((x1.getD n5 q1dISSS).1, ([120] : List UInt8), (x1.getD n5 q1dISSS).2.2.1, (x1.getD n5 q1dISSS).2.2.2)]))], [], 0⟩) rfl rfl ⟨.refl _, .refl _, .refl _, .refl _, .refl _, .refl _, .refl _, trivial⟩ ⟨⟨_, rfl, .refl _⟩, trivial⟩)) (Le.mk rfl rfl ⟨.refl _, .refl _, .refl _, .refl _, .refl _, .refl _, .refl _, trivial⟩ ⟨⟨_, rfl, .refl _⟩, trivial⟩))) h
          ·
            replace h := ite_fb hc3 h
            refine AWp.skip ?_
            refine blockQ_normal ?_
            exact joinQ_normal (l6) (Le.trans (Le.trans (Le.ren (swapN 5005 47) (swapN_inv 5005 47) rfl) (Le.mk (s' := ⟨123, [(1, q1aISSS x2), (5, .own 47), (6, .nils), (8, .ptr 8 0), (34, q1aISSS x1), (35, .int .i64 (((x1).length : Nat) : Int)), (36, .int .i64 (n5 : Int)), (42, .bool ((x1.getD n5 q1dISSS).1 != (6 : Int))), (1000001, .tab .u64 Lib.pow10Tab)], [(8, .cells 24 [.int .i64 (x1.getD n5 q1dISSS).1, .str (x1.getD n5 q1dISSS).2.1, .str (x1.getD n5 q1dISSS).2.2.1, .str (x1.getD n5 q1dISSS).2.2.2]), (47, q1bISSS_24 l6)], [], 0⟩) rfl rfl ⟨.refl _, .refl _, .refl _, .refl _, .refl _, .refl _, .refl _, .refl _, .refl _, trivial⟩ ⟨⟨_, rfl, .refl _⟩, ⟨_, rfl, .refl _⟩, trivial⟩)) (Le.mk rfl rfl ⟨.refl _, .refl _, .refl _, .refl _, .refl _, .refl _, .refl _, trivial⟩ ⟨⟨_, rfl, .refl _⟩, trivial⟩)) h
        ·
          rintro l7 h
          replace h := (congrFun hK2 _).symm.trans h
          obtain ⟨ob8p, h⟩ := chk_some h
          have ob8 : -9223372036854775808 ≤ ((n5 : Int) + (1 : Int)) ∧ ((n5 : Int) + (1 : Int)) ≤ 9223372036854775807 := ⟨by omega, ob8p⟩
          refine q1rr [] [] [1, 5, 6, 34, 35, 36, 1000001] [47] ⟨123, [(1, q1aISSS x2), (5, .own 47), (6, .nils), (34, q1aISSS x1), (35, .int .i64 (((x1).length : Nat) : Int)), (36, .int .i64 (((n5 + 1) : Nat) : Int)), (1000001, .tab .u64 Lib.pow10Tab)], [(47, q1bISSS_24 l7)], [], 0⟩ (an1 ob8) ?_
          rw [hC0] at h
          exact loopQ_normal (_, (n5 + 1), l7) (Le.trans (Le.trans (Le.ren (swapN 47 5005) (swapN_inv 47 5005) rfl) (Le.mk (s' := ⟨123, [(1, q1aISSS x2), (5, .own 5005), (6, .nils), (34, q1aISSS x1), (35, .int .i64 (((x1).length : Nat) : Int)), (36, .int .i64 (((n5 + 1) : Nat) : Int)), (1000001, .tab .u64 Lib.pow10Tab)], [(5005, q1bISSS_24 l7)], [], 0⟩) rfl rfl ⟨.refl _, .refl _, .refl _, .refl _, .refl _, .refl _, .refl _, trivial⟩ ⟨⟨_, rfl, .refl _⟩, trivial⟩)) (Le.mk rfl rfl ⟨.refl _, .refl _, .refl _, .refl _, .refl _, .refl _, .refl _, trivial⟩ ⟨⟨_, rfl, .refl _⟩, trivial⟩)) h (Nat.lt_succ_self _)
      ·
        replace h := ite_fb hc2 h
        refine AWp.exit ?_
        refine thenQ_exit ?_
        refine thenQ_exit ?_
        refine blockQ_same ?_
        exact joinQ_normal (l6) (Le.mk rfl rfl ⟨.refl _, .refl _, .refl _, .refl _, trivial⟩ ⟨⟨_, rfl, .refl _⟩, trivial⟩) h
    ·
      rintro l8 h
      replace h := (congrFun hK1 _).symm.trans h
      obtain ⟨K3, hK3, h⟩ := jn_some h
      refine AWp.join (α := List (Int × List UInt8 × List UInt8 × List UInt8)) (fun (l12 : List (Int × List UInt8 × List UInt8 × List UInt8)) => ⟨123, [(5, .own 5005), (6, .own 5006), (1000001, .tab .u64 Lib.pow10Tab)], [(5005, q1bISSS_24 l8), (5006, q1bISSS_24 l12)], [], 0⟩) (fun x => K3 x = some r) ?_ ?_
      ·
        refine q1rq [] [] [5, 6, 49, 50, 51, 1000001] [5005] ⟨123, [(5, .own 5005), (6, .nils), (49, q1aISSS x2), (50, .int .i64 (((x2).length : Nat) : Int)), (51, .int .i64 (0 : Int)), (1000001, .tab .u64 Lib.pow10Tab)], [(5005, q1bISSS_24 l8)], [], 0⟩ trivial ?_
        refine AWp.block ?_
        refine AWp.loopL (α := Nat × (Nat × (List (Int × List UInt8 × List UInt8 × List UInt8)))) (fun x => match x with | (_, n9, l10) => ⟨123, [(5, .own 5005), (6, .own 5006), (49, q1aISSS x2), (50, .int .i64 (((x2).length : Nat) : Int)), (51, .int .i64 (n9 : Int)), (1000001, .tab .u64 Lib.pow10Tab)], [(5005, q1bISSS_24 l8), (5006, q1bISSS_24 l10)], [], 0⟩) (fun x => f6_L1 x2 K3 x.1 x.2 = some r) (fun x => x.1) (FUEL, 0, []) (Le.trans (Le.trans (Le.nilOwn 6 5006 24 4 (encF eISSS q1dISSS []) rfl rfl (Nat.le_of_ble_eq_true rfl)) (Le.mk (s' := ⟨123, [(5, .own 5005), (6, .own 5006), (49, q1aISSS x2), (50, .int .i64 (((x2).length : Nat) : Int)), (51, .int .i64 (0 : Int)), (1000001, .tab .u64 Lib.pow10Tab)], [(5005, q1bISSS_24 l8), (5006, q1bISSS_24 [])], [], 0⟩) rfl rfl ⟨.refl _, .refl _, .refl _, .refl _, .refl _, .refl _, trivial⟩ ⟨⟨_, rfl, .refl _⟩, ⟨_, rfl, .refl _⟩, trivial⟩)) (Le.mk (s' := ⟨123, [(5, .own 5005), (6, .own 5006), (49, q1aISSS x2), (50, .int .i64 (((x2).length : Nat) : Int)), (51, .int .i64 (0 : Int)), (1000001, .tab .u64 Lib.pow10Tab)], [(5005, q1bISSS_24 l8), (5006, q1bISSS_24 [])], [], 0⟩) rfl rfl ⟨.refl _, .refl _, .refl _, .refl _, .refl _, .refl _, trivial⟩ ⟨⟨_, rfl, .refl _⟩, ⟨_, rfl, .refl _⟩, trivial⟩)) h ?_
        rintro ⟨k1, n9, l10⟩ h
        cases k1 with
        | zero => exact nomatch (show (none : Option Bool) = some r from h)
        | succ k1 =>
        obtain ⟨C1, hC1⟩ : ∃ C, C = f6_L1 x2 K3 k1 := ⟨_, rfl⟩
        replace h := (f6_L1.eq_2 ..).symm.trans h
        try rw [← hC1] at h
        refine q1rq [] [] [5, 6, 49, 50, 51, 52, 1000001] [5005, 5006] ⟨123, [(5, .own 5005), (6, .own 5006), (49, q1aISSS x2), (50, .int .i64 (((x2).length : Nat) : Int)), (51, .int .i64 (n9 : Int)), (52, .bool (decide ((n9 : Int) < (((x2).length : Nat) : Int)))), (1000001, .tab .u64 Lib.pow10Tab)], [(5005, q1bISSS_24 l8), (5006, q1bISSS_24 l10)], [], 0⟩ trivial ?_
        refine AWp.seq ?_
        refine AWp.cond (b := (decide ((n9 : Int) < (((x2).length : Nat) : Int)))) (by kernel_rfl) (fun hc4 => ?_) (fun hc4 => ?_)
        ·
          replace h := ite_tb hc4 h
          refine AWp.skip ?_
          refine thenQ_normal ?_
          obtain ⟨K4, hK4, h⟩ := jn_some h
          refine AWp.join (α := List (Int × List UInt8 × List UInt8 × List UInt8)) (fun (l11 : List (Int × List UInt8 × List UInt8 × List UInt8)) => ⟨123, [(5, .own 5005), (6, .own 62), (49, q1aISSS x2), (50, .int .i64 (((x2).length : Nat) : Int)), (51, .int .i64 (n9 : Int)), (1000001, .tab .u64 Lib.pow10Tab)], [(62, q1bISSS_24 l11), (5005, q1bISSS_24 l8)], [], 0⟩) (fun x => K4 x = some r) ?_ ?_
          ·
            refine AWp.block ?_
            refine AWp.seq ?_
            obtain ⟨ob9p, h⟩ := chk_some h
            have ob9 : 0 ≤ (n9 : Int) ∧ (n9 : Int) < (((x2).length : Nat) : Int) := ⟨by omega, ob9p⟩
            refine q1rr [] [] [5, 6, 10, 49, 50, 51, 1000001] [10, 5005, 5006] ⟨123, [(5, .own 5005), (6, .own 5006), (10, .ptr 10 0), (49, q1aISSS x2), (50, .int .i64 (((x2).length : Nat) : Int)), (51, .int .i64 (n9 : Int)), (1000001, .tab .u64 Lib.pow10Tab)], [(10, .cells 24 [.int .i64 (x2.getD n9 q1dISSS).1, .str (x2.getD n9 q1dISSS).2.1, .str (x2.getD n9 q1dISSS).2.2.1, .str (x2.getD n9 q1dISSS).2.2.2]), (5005, q1bISSS_24 l8), (5006, q1bISSS_24 l10)], [], 0⟩ (an2 ob9 trivial) ?_
            refine thenQ_normal ?_
            refine q1rq [] [] [5, 6, 10, 49, 50, 51, 57, 1000001] [10, 5005, 5006] ⟨123, [(5, .own 5005), (6, .own 5006), (10, .ptr 10 0), (49, q1aISSS x2), (50, .int .i64 (((x2).length : Nat) : Int)), (51, .int .i64 (n9 : Int)), (57, .bool ((x2.getD n9 q1dISSS).1 != (6 : Int))), (1000001, .tab .u64 Lib.pow10Tab)], [(10, .cells 24 [.int .i64 (x2.getD n9 q1dISSS).1, .str (x2.getD n9 q1dISSS).2.1, .str (x2.getD n9 q1dISSS).2.2.1, .str (x2.getD n9 q1dISSS).2.2.2]), (5005, q1bISSS_24 l8), (5006, q1bISSS_24 l10)], [], 0⟩ trivial ?_
            refine AWp.cond (b := ((x2.getD n9 q1dISSS).1 != (6 : Int))) (by kernel_rfl) (fun hc5 => ?_) (fun hc5 => ?_)
            ·
              replace h := ite_tb hc5 h
              refine q1rq [] [] [5, 6, 10, 49, 50, 51, 1000001] [10, 5005, 5006] ⟨123, [(5, .own 5005), (6, .own 5006), (10, .ptr 10 0), (49, q1aISSS x2), (50, .int .i64 (((x2).length : Nat) : Int)), (51, .int .i64 (n9 : Int)), (1000001, .tab .u64 Lib.pow10Tab)], [(10, .cells 24 [.int .i64 (x2.getD n9 q1dISSS).1, .str ([121] : List UInt8), .str (x2.getD n9 q1dISSS).2.2.1, .str (x2.getD n9 q1dISSS).2.2.2]), (5005, q1bISSS_24 l8), (5006, q1bISSS_24 l10)], [], 0⟩ (an1 trivial) ?_
              obtain ⟨ob10, h⟩ := chk_some h
              refine q1rr [] [] [5, 6, 49, 50, 51, 1000001] [5005, 5006] ⟨123, [(5, .own 5005), (6, .own 5006), (49, q1aISSS x2), (50, .int .i64 (((x2).length : Nat) : Int)), (51, .int .i64 (n9 : Int)), (1000001, .tab .u64 Lib.pow10Tab)], [(5005, q1bISSS_24 l8), (5006, .rows 24 4 ((l10).length + 1) (appF (l10).length (encF eISSS q1dISSS l10) (lstF 4 [.int .i64 (x2.getD n9 q1dISSS).1, .str ([121] : List UInt8), .str (x2.getD n9 q1dISSS).2.2.1, .str (x2.getD n9 q1dISSS).2.2.2])))], [], 0⟩ (an1 ob10) ?_
              refine blockQ_normal ?_
              exact joinQ_normal ((l10 ++ [((x2.getD n9 q1dISSS).1, ([121] : List UInt8), (x2.getD n9 q1dISSS).2.2.1, (x2.getD n9 q1dISSS).2.2.2)])) (Le.trans (Le.mk (s' := ⟨123, [(5, .own 5005), (6, .own 5006), (49, q1aISSS x2), (50, .int .i64 (((x2).length : Nat) : Int)), (51, .int .i64 (n9 : Int)), (1000001, .tab .u64 Lib.pow10Tab)], [(5005, q1bISSS_24 l8), (5006, q1bISSS_24 (l10 ++ [((x2.getD n9 q1dISSS).1, ([121] : List UInt8), (x2.getD n9 q1dISSS).2.2.1, (x2.getD n9 q1dISSS).2.2.2)]))], [], 0⟩) rfl rfl ⟨.refl _, .refl _, .refl _, .refl _, .refl _, .refl _, trivial⟩ ⟨⟨_, rfl, .refl _⟩, ⟨_, rfl, (BLe.of (RL.app (RL.self _) (RL.lst (enc := eISSS) [((x2.getD n9 q1dISSS).1, ([121] : List UInt8), (x2.getD n9 q1dISSS).2.2.1, (x2.getD n9 q1dISSS).2.2.2)] rfl rfl (fun _ => rfl))))⟩, trivial⟩) (Le.trans (Le.trans (Le.ren (swapN 5006 62) (swapN_inv 5006 62) rfl) (Le.mk (s' := ⟨123, [(5, .own 5005), (6, .own 62), (49, q1aISSS x2), (50, .int .i64 (((x2).length : Nat) : Int)), (51, .int .i64 (n9 : Int)), (1000001, .tab .u64 Lib.pow10Tab)], [(5005, q1bISSS_24 l8), (62, q1bISSS_24 (l10 ++ [((x2.getD n9 q1dISSS).1, ([121] : List UInt8), (x2.getD n9 q1dISSS).2.2.1, (x2.getD n9 q1dISSS).2.2.2)]))], [], 0⟩) rfl rfl ⟨.refl _, .refl _, .refl _, .refl _, .refl _, .refl _, trivial⟩ ⟨⟨_, rfl, .refl _⟩, ⟨_, rfl, .refl _⟩, trivial⟩)) (Le.mk rfl rfl ⟨.refl _, .refl _, .refl _, .refl _, .refl _, .refl _, trivial⟩ ⟨⟨_, rfl, .refl _⟩, ⟨_, rfl, .refl _⟩, trivial⟩))) h
            ·
              replace h := ite_fb hc5 h
              refine AWp.skip ?_
              refine blockQ_normal ?_
              exact joinQ_normal (l10) (Le.trans (Le.trans (Le.ren (swapN 5006 62) (swapN_inv 5006 62) rfl) (Le.mk (s' := ⟨123, [(5, .own 5005), (6, .own 62), (10, .ptr 10 0), (49, q1aISSS x2), (50, .int .i64 (((x2).length : Nat) : Int)), (51, .int .i64 (n9 : Int)), (57, .bool ((x2.getD n9 q1dISSS).1 != (6 : Int))), (1000001, .tab .u64 Lib.pow10Tab)], [(10, .cells 24 [.int .i64 (x2.getD n9 q1dISSS).1, .str (x2.getD n9 q1dISSS).2.1, .str (x2.getD n9 q1dISSS).2.2.1, .str (x2.getD n9 q1dISSS).2.2.2]), (5005, q1bISSS_24 l8), (62, q1bISSS_24 l10)], [], 0⟩) rfl rfl ⟨.refl _, .refl _, .refl _, .refl _, .refl _, .refl _, .refl _, .refl _, trivial⟩ ⟨⟨_, rfl, .refl _⟩, ⟨_, rfl, .refl _⟩, ⟨_, rfl, .refl _⟩, trivial⟩)) (Le.mk rfl rfl ⟨.refl _, .refl _, .refl _, .refl _, .refl _, .refl _, trivial⟩ ⟨⟨_, rfl, .refl _⟩, ⟨_, rfl, .refl _⟩, trivial⟩)) h
          ·
            rintro l11 h
            replace h := (congrFun hK4 _).symm.trans h
            obtain ⟨ob11p, h⟩ := chk_some h
            have ob11 : -9223372036854775808 ≤ ((n9 : Int) + (1 : Int)) ∧ ((n9 : Int) + (1 : Int)) ≤ 9223372036854775807 := ⟨by omega, ob11p⟩
            refine q1rr [] [] [5, 6, 49, 50, 51, 1000001] [62, 5005] ⟨123, [(5, .own 5005), (6, .own 62), (49, q1aISSS x2), (50, .int .i64 (((x2).length : Nat) : Int)), (51, .int .i64 (((n9 + 1) : Nat) : Int)), (1000001, .tab .u64 Lib.pow10Tab)], [(62, q1bISSS_24 l11), (5005, q1bISSS_24 l8)], [], 0⟩ (an1 ob11) ?_
            rw [hC1] at h
            exact loopQ_normal (_, (n9 + 1), l11) (Le.trans (Le.trans (Le.ren (swapN 62 5006) (swapN_inv 62 5006) rfl) (Le.mk (s' := ⟨123, [(5, .own 5005), (6, .own 5006), (49, q1aISSS x2), (50, .int .i64 (((x2).length : Nat) : Int)), (51, .int .i64 (((n9 + 1) : Nat) : Int)), (1000001, .tab .u64 Lib.pow10Tab)], [(5006, q1bISSS_24 l11), (5005, q1bISSS_24 l8)], [], 0⟩) rfl rfl ⟨.refl _, .refl _, .refl _, .refl _, .refl _, .refl _, trivial⟩ ⟨⟨_, rfl, .refl _⟩, ⟨_, rfl, .refl _⟩, trivial⟩)) (Le.mk rfl rfl ⟨.refl _, .refl _, .refl _, .refl _, .refl _, .refl _, trivial⟩ ⟨⟨_, rfl, .refl _⟩, ⟨_, rfl, .refl _⟩, trivial⟩)) h (Nat.lt_succ_self _)
        ·
          replace h := ite_fb hc4 h
          refine AWp.exit ?_
          refine thenQ_exit ?_
          refine thenQ_exit ?_
          refine blockQ_same ?_
          exact joinQ_normal (l10) (Le.mk rfl rfl ⟨.refl _, .refl _, .refl _, trivial⟩ ⟨⟨_, rfl, .refl _⟩, ⟨_, rfl, .refl _⟩, trivial⟩) h
      ·
        rintro l12 h
        replace h := (congrFun hK3 _).symm.trans h
        refine AWp.seq ?_
        obtain ⟨r13, hr13, h⟩ := bind_ok h
        refine q1rr [] [(1, ⟨[q1aISSS l8], [], [], [(6001, q1bSSI_36 r13.1), (6002, q1bS_9 r13.2)], .tup [.own 6001, .own 6002], [6001, 6002], [5005], []⟩)] [5, 6, 12, 1000001] [5005, 5006, 6002] ⟨123, [(5, .own 5005), (6, .own 5006), (12, .own 6002), (1000001, .tab .u64 Lib.pow10Tab)], [(5005, q1bISSS_24 l8), (5006, q1bISSS_24 l12), (6002, q1bS_9 r13.2)], [], 0⟩ (an1 (cpL (c := true) [(5005, q1bISSS_24 l8)] [5005] [.own 5005] (fun _ => (Spec1.ren (swapN 3001 6002) (swapN_inv 3001 6002) rfl (Spec1.ren (swapN 3000 6001) (swapN_inv 3000 6001) rfl (f21_ok _ _ hr13)))) (fun _ => ⟨.refl _, trivial⟩) (.inr ⟨rfl, ⟨(fun _ _ _ _ => eSSI_flat _ _), (fun _ _ _ _ => eS_flat _ _), trivial⟩⟩))) ?_
        refine thenQ_normal ?_
        refine AWp.seq ?_
        obtain ⟨r14, hr14, h⟩ := bind_ok h
        refine q1rr [] [(1, ⟨[q1aISSS l12], [], [], [(6003, q1bSSI_36 r14.1), (6004, q1bS_9 r14.2)], .tup [.own 6003, .own 6004], [6003, 6004], [5006], []⟩)] [5, 6, 12, 14, 1000001] [5005, 5006, 6002, 6004] ⟨123, [(5, .own 5005), (6, .own 5006), (12, .own 6002), (14, .own 6004), (1000001, .tab .u64 Lib.pow10Tab)], [(5005, q1bISSS_24 l8), (5006, q1bISSS_24 l12), (6002, q1bS_9 r13.2), (6004, q1bS_9 r14.2)], [], 0⟩ (an1 (cpL (c := true) [(5006, q1bISSS_24 l12)] [5006] [.own 5006] (fun _ => (Spec1.ren (swapN 3001 6004) (swapN_inv 3001 6004) rfl (Spec1.ren (swapN 3000 6003) (swapN_inv 3000 6003) rfl (f21_ok _ _ hr14)))) (fun _ => ⟨.refl _, trivial⟩) (.inr ⟨rfl, ⟨(fun _ _ _ _ => eSSI_flat _ _), (fun _ _ _ _ => eS_flat _ _), trivial⟩⟩))) ?_
        refine thenQ_normal ?_
        refine q1rq [] [] [5, 6, 12, 14, 15, 1000001] [5005, 5006, 6002, 6004] ⟨123, [(5, .own 5005), (6, .own 5006), (12, .own 6002), (14, .own 6004), (15, .nils), (1000001, .tab .u64 Lib.pow10Tab)], [(5005, q1bISSS_24 l8), (5006, q1bISSS_24 l12), (6002, q1bS_9 r13.2), (6004, q1bS_9 r14.2)], [], 0⟩ trivial ?_
        obtain ⟨K5, hK5, h⟩ := jn_some h
        refine AWp.join (α := Unit) (fun (x : Unit) => match x with | () => ⟨123, [(1000001, .tab .u64 Lib.pow10Tab)], [], [], 0⟩) (fun x => K5 x = some r) ?_ ?_
        ·
          refine q1rq [] [] [5, 6, 12, 14, 15, 78, 79, 1000001] [5005, 5006, 6002, 6004] ⟨123, [(5, .own 5005), (6, .own 5006), (12, .own 6002), (14, .own 6004), (15, .nils), (78, .int .i64 (max (((l8).length : Nat) : Int) (((l12).length : Nat) : Int))), (79, .int .i64 (0 : Int)), (1000001, .tab .u64 Lib.pow10Tab)], [(5005, q1bISSS_24 l8), (5006, q1bISSS_24 l12), (6002, q1bS_9 r13.2), (6004, q1bS_9 r14.2)], [], 0⟩ trivial ?_
          refine AWp.block ?_
          refine AWp.loopL (α := Nat × ((List (List UInt8 × List UInt8 × Int)) × Nat)) (fun x => match x with | (_, l15, n16) => ⟨123, [(5, .own 5005), (6, .own 5006), (12, .own 6002), (14, .own 6004), (15, q1aSSI l15), (78, .int .i64 (max (((l8).length : Nat) : Int) (((l12).length : Nat) : Int))), (79, .int .i64 (n16 : Int)), (1000001, .tab .u64 Lib.pow10Tab)], [(5005, q1bISSS_24 l8), (5006, q1bISSS_24 l12), (6002, q1bS_9 r13.2), (6004, q1bS_9 r14.2)], [], 0⟩) (fun x => f6_L2 l8 l12 r13 r14 K5 x.1 x.2 = some r) (fun x => x.1) (FUEL, [], 0) (Le.mk (s' := ⟨123, [(5, .own 5005), (6, .own 5006), (12, .own 6002), (14, .own 6004), (15, q1aSSI []), (78, .int .i64 (max (((l8).length : Nat) : Int) (((l12).length : Nat) : Int))), (79, .int .i64 (0 : Int)), (1000001, .tab .u64 Lib.pow10Tab)], [(5005, q1bISSS_24 l8), (5006, q1bISSS_24 l12), (6002, q1bS_9 r13.2), (6004, q1bS_9 r14.2)], [], 0⟩) rfl rfl ⟨.refl _, .refl _, .refl _, .refl _, .nilL, .refl _, .refl _, .refl _, trivial⟩ ⟨⟨_, rfl, .refl _⟩, ⟨_, rfl, .refl _⟩, ⟨_, rfl, .refl _⟩, ⟨_, rfl, .refl _⟩, trivial⟩) h ?_
          rintro ⟨k2, l15, n16⟩ h
          cases k2 with
          | zero => exact nomatch (show (none : Option Bool) = some r from h)
          | succ k2 =>
          obtain ⟨C2, hC2⟩ : ∃ C, C = f6_L2 l8 l12 r13 r14 K5 k2 := ⟨_, rfl⟩
          replace h := (f6_L2.eq_2 ..).symm.trans h
          try rw [← hC2] at h
          refine q1rq [] [] [5, 6, 12, 14, 15, 78, 79, 80, 1000001] [5005, 5006, 6002, 6004] ⟨123, [(5, .own 5005), (6, .own 5006), (12, .own 6002), (14, .own 6004), (15, q1aSSI l15), (78, .int .i64 (max (((l8).length : Nat) : Int) (((l12).length : Nat) : Int))), (79, .int .i64 (n16 : Int)), (80, .bool (decide ((n16 : Int) < (max (((l8).length : Nat) : Int) (((l12).length : Nat) : Int))))), (1000001, .tab .u64 Lib.pow10Tab)], [(5005, q1bISSS_24 l8), (5006, q1bISSS_24 l12), (6002, q1bS_9 r13.2), (6004, q1bS_9 r14.2)], [], 0⟩ trivial ?_
          refine AWp.seq ?_
          refine AWp.cond (b := (decide ((n16 : Int) < (max (((l8).length : Nat) : Int) (((l12).length : Nat) : Int))))) (by kernel_rfl) (fun hc6 => ?_) (fun hc6 => ?_)
          ·
            replace h := ite_tb hc6 h
            refine AWp.skip ?_
            refine thenQ_normal ?_
            obtain ⟨K6, hK6, h⟩ := jn_some h
            refine AWp.join (α := List (List UInt8 × List UInt8 × Int)) (fun (l20 : List (List UInt8 × List UInt8 × Int)) => ⟨123, [(5, .own 5005), (6, .own 5006), (12, .own 6002), (14, .own 6004), (15, q1aSSI l20), (78, .int .i64 (max (((l8).length : Nat) : Int) (((l12).length : Nat) : Int))), (79, .int .i64 (n16 : Int)), (1000001, .tab .u64 Lib.pow10Tab)], [(5005, q1bISSS_24 l8), (5006, q1bISSS_24 l12), (6002, q1bS_9 r13.2), (6004, q1bS_9 r14.2)], [], 0⟩) (fun x => K6 x = some r) ?_ ?_
            ·
              refine AWp.block ?_
              refine q1rq [] [] [5, 6, 12, 14, 15, 16, 78, 79, 1000001] [5005, 5006, 6002, 6004] ⟨123, [(5, .own 5005), (6, .own 5006), (12, .own 6002), (14, .own 6004), (15, q1aSSI l15), (16, .int .i64 (n16 : Int)), (78, .int .i64 (max (((l8).length : Nat) : Int) (((l12).length : Nat) : Int))), (79, .int .i64 (n16 : Int)), (1000001, .tab .u64 Lib.pow10Tab)], [(5005, q1bISSS_24 l8), (5006, q1bISSS_24 l12), (6002, q1bS_9 r13.2), (6004, q1bS_9 r14.2)], [], 0⟩ trivial ?_
              obtain ⟨K7, hK7, h⟩ := jn_some h
              refine AWp.join (α := List (List UInt8 × List UInt8 × Int)) (fun (l18 : List (List UInt8 × List UInt8 × Int)) => ⟨123, [(5, .own 5005), (6, .own 5006), (12, .own 6002), (14, .own 6004), (15, q1aSSI l18), (16, .int .i64 (n16 : Int)), (78, .int .i64 (max (((l8).length : Nat) : Int) (((l12).length : Nat) : Int))), (79, .int .i64 (n16 : Int)), (1000001, .tab .u64 Lib.pow10Tab)], [(5005, q1bISSS_24 l8), (5006, q1bISSS_24 l12), (6002, q1bS_9 r13.2), (6004, q1bS_9 r14.2)], [], 0⟩) (fun x => K7 x = some r) ?_ ?_
              ·
                refine q1rq [] [] [5, 6, 12, 14, 15, 16, 78, 79, 85, 1000001] [5005, 5006, 6002, 6004] ⟨123, [(5, .own 5005), (6, .own 5006), (12, .own 6002), (14, .own 6004), (15, q1aSSI l15), (16, .int .i64 (n16 : Int)), (78, .int .i64 (max (((l8).length : Nat) : Int) (((l12).length : Nat) : Int))), (79, .int .i64 (n16 : Int)), (85, .bool (decide ((n16 : Int) < (((l8).length : Nat) : Int)))), (1000001, .tab .u64 Lib.pow10Tab)], [(5005, q1bISSS_24 l8), (5006, q1bISSS_24 l12), (6002, q1bS_9 r13.2), (6004, q1bS_9 r14.2)], [], 0⟩ trivial ?_
                refine AWp.cond (b := (decide ((n16 : Int) < (((l8).length : Nat) : Int)))) (by kernel_rfl) (fun hc7 => ?_) (fun hc7 => ?_)
                ·
                  replace h := ite_tb hc7 h
                  refine AWp.seq ?_
                  obtain ⟨r17, hr17, h⟩ := bind_ok h
                  obtain ⟨ob12p, h⟩ := chk_some h
                  have ob12 : 0 ≤ (n16 : Int) ∧ (n16 : Int) < (((l8).length : Nat) : Int) := ⟨by omega, ob12p⟩
                  obtain ⟨ob13, h⟩ := chk_some h
                  refine q1rr [] [(5, ⟨[q1aSSI l15, .agg [.int .i64 (l8.getD n16 q1dISSS).1, .str (l8.getD n16 q1dISSS).2.1, .str (l8.getD n16 q1dISSS).2.2.1, .str (l8.getD n16 q1dISSS).2.2.2]], [], [], [], .tup [q1aSSI r17.1, .str r17.2], [], [], [1]⟩)] [5, 6, 12, 14, 16, 17, 18, 78, 79, 1000001] [5005, 5006, 6002, 6004] ⟨123, [(5, .own 5005), (6, .own 5006), (12, .own 6002), (14, .own 6004), (16, .int .i64 (n16 : Int)), (17, q1aSSI r17.1), (18, .str r17.2), (78, .int .i64 (max (((l8).length : Nat) : Int) (((l12).length : Nat) : Int))), (79, .int .i64 (n16 : Int)), (1000001, .tab .u64 Lib.pow10Tab)], [(5005, q1bISSS_24 l8), (5006, q1bISSS_24 l12), (6002, q1bS_9 r13.2), (6004, q1bS_9 r14.2)], [], 0⟩ (an3 ob12 ob13 (cpT (f18_ok _ _ _ _ _ _ hr17))) ?_
                  refine thenQ_normal ?_
                  refine AWp.seq ?_
                  refine AWp.seq ?_
                  obtain ⟨ob14p, h⟩ := chk_some h
                  have ob14 : 0 ≤ (n16 : Int) ∧ (n16 : Int) < (((r13.2).length : Nat) : Int) := ⟨by omega, ob14p⟩
                  obtain ⟨ob15, h⟩ := chk_some h
                  refine q1rr [] [] [5, 6, 12, 14, 16, 17, 78, 79, 100, 1000001] [5005, 5006, 6002, 6004] ⟨123, [(5, .own 5005), (6, .own 5006), (12, .own 6002), (14, .own 6004), (16, .int .i64 (n16 : Int)), (17, q1aSSI r17.1), (78, .int .i64 (max (((l8).length : Nat) : Int) (((l12).length : Nat) : Int))), (79, .int .i64 (n16 : Int)), (100, .bool (!(r17.2 == (r13.2.getD n16 [])))), (1000001, .tab .u64 Lib.pow10Tab)], [(5005, q1bISSS_24 l8), (5006, q1bISSS_24 l12), (6002, q1bS_9 r13.2), (6004, q1bS_9 r14.2)], [], 0⟩ (an2 ob14 ob15) ?_
                  refine thenQ_normal ?_
                  refine AWp.cond (b := (!(r17.2 == (r13.2.getD n16 [])))) (by kernel_rfl) (fun hc8 => ?_) (fun hc8 => ?_)
                  ·
                    replace h := ite_tb hc8 h
                    refine q1rq [] [] [4, 1000001] [] ⟨123, [(4, .bool false), (1000001, .tab .u64 Lib.pow10Tab)], [], [], 0⟩ trivial ?_
                    have hret := Option.some.inj h
                    subst hret
                    refine AWp.le (Le.mk (s' := ⟨123, [(4, .bool false)], [], [], 0⟩) rfl rfl ⟨.refl _, trivial⟩ trivial) ?_
                    refine AWp.ret ?_
                    refine thenQ_ret ?_
                    refine joinQ_ret ?_
                    refine blockQ_ret ?_
                    refine joinQ_ret ?_
                    refine thenQ_ret ?_
                    refine blockQ_ret ?_
                    refine joinQ_ret ?_
                    exact bodyQ_ret _ rfl ⟨rfl, rfl⟩ rfl
                  ·
                    replace h := ite_fb hc8 h
                    refine AWp.skip ?_
                    refine thenQ_normal ?_
                    refine q1rr [] [] [5, 6, 12, 14, 15, 16, 78, 79, 1000001] [5005, 5006, 6002, 6004] ⟨123, [(5, .own 5005), (6, .own 5006), (12, .own 6002), (14, .own 6004), (15, q1aSSI r17.1), (16, .int .i64 (n16 : Int)), (78, .int .i64 (max (((l8).length : Nat) : Int) (((l12).length : Nat) : Int))), (79, .int .i64 (n16 : Int)), (1000001, .tab .u64 Lib.pow10Tab)], [(5005, q1bISSS_24 l8), (5006, q1bISSS_24 l12), (6002, q1bS_9 r13.2), (6004, q1bS_9 r14.2)], [], 0⟩ trivial ?_
                    exact joinQ_normal (r17.1) (Le.mk rfl rfl ⟨.refl _, .refl _, .refl _, .refl _, .refl _, .refl _, .refl _, .refl _, .refl _, trivial⟩ ⟨⟨_, rfl, .refl _⟩, ⟨_, rfl, .refl _⟩, ⟨_, rfl, .refl _⟩, ⟨_, rfl, .refl _⟩, trivial⟩) h
                ·
                  replace h := ite_fb hc7 h
                  refine AWp.skip ?_
                  exact joinQ_normal (l15) (Le.mk rfl rfl ⟨.refl _, .refl _, .refl _, .refl _, .refl _, .refl _, .refl _, .refl _, .refl _, trivial⟩ ⟨⟨_, rfl, .refl _⟩, ⟨_, rfl, .refl _⟩, ⟨_, rfl, .refl _⟩, ⟨_, rfl, .refl _⟩, trivial⟩) h
              ·
                rintro l18 h
                replace h := (congrFun hK7 _).symm.trans h
                refine q1rq [] [] [5, 6, 12, 14, 15, 16, 78, 79, 105, 1000001] [5005, 5006, 6002, 6004] ⟨123, [(5, .own 5005), (6, .own 5006), (12, .own 6002), (14, .own 6004), (15, q1aSSI l18), (16, .int .i64 (n16 : Int)), (78, .int .i64 (max (((l8).length : Nat) : Int) (((l12).length : Nat) : Int))), (79, .int .i64 (n16 : Int)), (105, .bool (decide ((n16 : Int) < (((l12).length : Nat) : Int)))), (1000001, .tab .u64 Lib.pow10Tab)], [(5005, q1bISSS_24 l8), (5006, q1bISSS_24 l12), (6002, q1bS_9 r13.2), (6004, q1bS_9 r14.2)], [], 0⟩ trivial ?_
                refine AWp.cond (b := (decide ((n16 : Int) < (((l12).length : Nat) : Int)))) (by kernel_rfl) (fun hc9 => ?_) (fun hc9 => ?_)
                ·
                  replace h := ite_tb hc9 h
                  refine AWp.seq ?_
                  obtain ⟨r19, hr19, h⟩ := bind_ok h
                  obtain ⟨ob16p, h⟩ := chk_some h
                  have ob16 : 0 ≤ (n16 : Int) ∧ (n16 : Int) < (((l12).length : Nat) : Int) := ⟨by omega, ob16p⟩
                  obtain ⟨ob17, h⟩ := chk_some h
                  refine q1rr [] [(5, ⟨[q1aSSI l18, .agg [.int .i64 (l12.getD n16 q1dISSS).1, .str (l12.getD n16 q1dISSS).2.1, .str (l12.getD n16 q1dISSS).2.2.1, .str (l12.getD n16 q1dISSS).2.2.2]], [], [], [], .tup [q1aSSI r19.1, .str r19.2], [], [], [1]⟩)] [5, 6, 12, 14, 16, 19, 20, 78, 79, 1000001] [5005, 5006, 6002, 6004] ⟨123, [(5, .own 5005), (6, .own 5006), (12, .own 6002), (14, .own 6004), (16, .int .i64 (n16 : Int)), (19, q1aSSI r19.1), (20, .str r19.2), (78, .int .i64 (max (((l8).length : Nat) : Int) (((l12).length : Nat) : Int))), (79, .int .i64 (n16 : Int)), (1000001, .tab .u64 Lib.pow10Tab)], [(5005, q1bISSS_24 l8), (5006, q1bISSS_24 l12), (6002, q1bS_9 r13.2), (6004, q1bS_9 r14.2)], [], 0⟩ (an3 ob16 ob17 (cpT (f18_ok _ _ _ _ _ _ hr19))) ?_
                  refine thenQ_normal ?_
                  refine AWp.seq ?_
                  refine AWp.seq ?_
                  obtain ⟨ob18p, h⟩ := chk_some h
                  have ob18 : 0 ≤ (n16 : Int) ∧ (n16 : Int) < (((r14.2).length : Nat) : Int) := ⟨by omega, ob18p⟩
                  obtain ⟨ob19, h⟩ := chk_some h
                  refine q1rr [] [] [5, 6, 12, 14, 19, 78, 79, 120, 1000001] [5005, 5006, 6002, 6004] ⟨123, [(5, .own 5005), (6, .own 5006), (12, .own 6002), (14, .own 6004), (19, q1aSSI r19.1), (78, .int .i64 (max (((l8).length : Nat) : Int) (((l12).length : Nat) : Int))), (79, .int .i64 (n16 : Int)), (120, .bool (!(r19.2 == (r14.2.getD n16 [])))), (1000001, .tab .u64 Lib.pow10Tab)], [(5005, q1bISSS_24 l8), (5006, q1bISSS_24 l12), (6002, q1bS_9 r13.2), (6004, q1bS_9 r14.2)], [], 0⟩ (an2 ob18 ob19) ?_
                  refine thenQ_normal ?_
                  refine AWp.cond (b := (!(r19.2 == (r14.2.getD n16 [])))) (by kernel_rfl) (fun hc10 => ?_) (fun hc10 => ?_)
                  ·
                    replace h := ite_tb hc10 h
                    refine q1rq [] [] [4, 1000001] [] ⟨123, [(4, .bool false), (1000001, .tab .u64 Lib.pow10Tab)], [], [], 0⟩ trivial ?_
                    have hret := Option.some.inj h
                    subst hret
                    refine AWp.le (Le.mk (s' := ⟨123, [(4, .bool false)], [], [], 0⟩) rfl rfl ⟨.refl _, trivial⟩ trivial) ?_
                    refine AWp.ret ?_
                    refine thenQ_ret ?_
                    refine blockQ_ret ?_
                    refine joinQ_ret ?_
                    refine thenQ_ret ?_
                    refine blockQ_ret ?_
                    refine joinQ_ret ?_
                    exact bodyQ_ret _ rfl ⟨rfl, rfl⟩ rfl
                  ·
                    replace h := ite_fb hc10 h
                    refine AWp.skip ?_
                    refine thenQ_normal ?_
                    refine q1rr [] [] [5, 6, 12, 14, 15, 78, 79, 1000001] [5005, 5006, 6002, 6004] ⟨123, [(5, .own 5005), (6, .own 5006), (12, .own 6002), (14, .own 6004), (15, q1aSSI r19.1), (78, .int .i64 (max (((l8).length : Nat) : Int) (((l12).length : Nat) : Int))), (79, .int .i64 (n16 : Int)), (1000001, .tab .u64 Lib.pow10Tab)], [(5005, q1bISSS_24 l8), (5006, q1bISSS_24 l12), (6002, q1bS_9 r13.2), (6004, q1bS_9 r14.2)], [], 0⟩ trivial ?_
                    refine blockQ_normal ?_
                    exact joinQ_normal (r19.1) (Le.mk rfl rfl ⟨.refl _, .refl _, .refl _, .refl _, .refl _, .refl _, .refl _, .refl _, trivial⟩ ⟨⟨_, rfl, .refl _⟩, ⟨_, rfl, .refl _⟩, ⟨_, rfl, .refl _⟩, ⟨_, rfl, .refl _⟩, trivial⟩) h
                ·
                  replace h := ite_fb hc9 h
                  refine AWp.skip ?_
                  refine blockQ_normal ?_
                  exact joinQ_normal (l18) (Le.mk rfl rfl ⟨.refl _, .refl _, .refl _, .refl _, .refl _, .refl _, .refl _, .refl _, trivial⟩ ⟨⟨_, rfl, .refl _⟩, ⟨_, rfl, .refl _⟩, ⟨_, rfl, .refl _⟩, ⟨_, rfl, .refl _⟩, trivial⟩) h
            ·
              rintro l20 h
              replace h := (congrFun hK6 _).symm.trans h
              obtain ⟨ob20p, h⟩ := chk_some h
              have ob20 : -9223372036854775808 ≤ ((n16 : Int) + (1 : Int)) ∧ ((n16 : Int) + (1 : Int)) ≤ 9223372036854775807 := ⟨by omega, ob20p⟩
              refine q1rr [] [] [5, 6, 12, 14, 15, 78, 79, 1000001] [5005, 5006, 6002, 6004] ⟨123, [(5, .own 5005), (6, .own 5006), (12, .own 6002), (14, .own 6004), (15, q1aSSI l20), (78, .int .i64 (max (((l8).length : Nat) : Int) (((l12).length : Nat) : Int))), (79, .int .i64 (((n16 + 1) : Nat) : Int)), (1000001, .tab .u64 Lib.pow10Tab)], [(5005, q1bISSS_24 l8), (5006, q1bISSS_24 l12), (6002, q1bS_9 r13.2), (6004, q1bS_9 r14.2)], [], 0⟩ (an1 ob20) ?_
              rw [hC2] at h
              exact loopQ_normal (_, l20, (n16 + 1)) (Le.mk rfl rfl ⟨.refl _, .refl _, .refl _, .refl _, .refl _, .refl _, .refl _, .refl _, trivial⟩ ⟨⟨_, rfl, .refl _⟩, ⟨_, rfl, .refl _⟩, ⟨_, rfl, .refl _⟩, ⟨_, rfl, .refl _⟩, trivial⟩) h (Nat.lt_succ_self _)
          ·
            replace h := ite_fb hc6 h
            refine AWp.exit ?_
            refine thenQ_exit ?_
            refine thenQ_exit ?_
            refine blockQ_same ?_
            exact joinQ_normal () (Le.mk rfl rfl ⟨.refl _, trivial⟩ trivial) h
        ·
          rintro ⟨⟩ h
          replace h := (congrFun hK5 _).symm.trans h
          refine q1rq [] [] [4, 1000001] [] ⟨123, [(4, .bool true), (1000001, .tab .u64 Lib.pow10Tab)], [], [], 0⟩ trivial ?_
          have hret := Option.some.inj h
          subst hret
          refine AWp.le (Le.mk (s' := ⟨123, [(4, .bool true)], [], [], 0⟩) rfl rfl ⟨.refl _, trivial⟩ trivial) ?_
          refine AWp.ret ?_
          exact bodyQ_ret _ rfl ⟨rfl, rfl⟩ rfl
end Go.Abs
namespace Go.Abs
theorem f10_true : f10 = some true := by kernel_rfl
end Go.Abs
namespace Go.Abs
theorem chk_pos {p : Prop} [Decidable p] {α : Type} {x : Option α} (h : p) : chk p x = x := if_pos h
theorem ifd_pos {p : Prop} [Decidable p] {α : Type} {x y : α} (h : p) : (if decide p = true then x else y) = x := if_pos (decide_eq_true h)
theorem ifd_neg {p : Prop} [Decidable p] {α : Type} {x y : α} (h : ¬ p) : (if decide p = true then x else y) = y := if_neg (by simpa using h)
theorem jn_eq {α β : Type} (K : α → Option β) (x : (α → Option β) → Option β) : jn K x = x K := rfl
theorem optc_t {α β : Type} [Inhabited α] {x : Option α} {k : α → Option β} : optc true x k = x.bind k := rfl
theorem some_bind {α β : Type} (a : α) (f : α → Option β) : (some a).bind f = f a := rfl
theorem abc_eq {α : Type} [DecidableEq α] {q : Prop} [Decidable q] {x y : Option α} (h : q → x = y) : abc q x y = y := by
  unfold abc both
  split
  · rename_i hq; rw [h hq]; simp
  · rfl
theorem fuel_lt {n : Nat} (h : n ≤ 18446744073709551615) : n < FUEL := by unfold FUEL; omega
theorem getD_drop {α : Type} (x : List α) (n : Nat) (d : α) (h : n < x.length) : x.drop n = x.getD n d :: x.drop (n + 1) := by
  rw [List.drop_eq_getElem_cons h]
  simp [List.getD_eq_getElem?_getD, h]
/-- .. without ways out. -/
theorem fold_up {α S R : Type} (L : Nat → Nat × S → Option R) (x : List α) (d : α) (Inv : Nat → S → Prop) (g : S → α → S) (K : S → Option R)
    (h : ∀ k n s, n < x.length → Inv n s → L (k + 1) (n, s) = L k (n + 1, g s (x.getD n d)))
    (hI : ∀ n s, n < x.length → Inv n s → Inv (n + 1) (g s (x.getD n d)))
    (he : ∀ k s, Inv x.length s → L (k + 1) (x.length, s) = K s) : ∀ c k n s, n + c = x.length → c < k → Inv n s → L k (n, s) = K ((x.drop n).foldl g s)
  | 0, k, n, s, hn, hk, hi => by
    obtain ⟨k, rfl⟩ : ∃ q, k = q + 1 := ⟨k - 1, by omega⟩
    obtain rfl : n = x.length := by omega
    rw [he k s hi, List.drop_eq_nil_of_le (Nat.le_refl _)]; rfl
  | c + 1, k, n, s, hn, hk, hi => by
    obtain ⟨k, rfl⟩ : ∃ q, k = q + 1 := ⟨k - 1, by omega⟩
    have hlt : n < x.length := by omega
    rw [h k n s hlt hi, getD_drop x n d hlt]
    exact fold_up L x d Inv g K h hI he c k (n + 1) _ (by omega) (by omega) (hI n s hlt hi)
theorem foldl_inv {α S : Type} (Inv : Nat → S → Prop) (g : S → α → S) (d : α) (x : List α) (hI : ∀ n s, n < x.length → Inv n s → Inv (n + 1) (g s (x.getD n d))) (s : S) (h0 : Inv 0 s) : Inv x.length (x.foldl g s) := by
  suffices H : ∀ c n s, n + c = x.length → Inv n s → Inv x.length ((x.drop n).foldl g s) by simpa using H x.length 0 s (by omega) h0
  intro c
  induction c with
  | zero =>
    intro n s hn hi
    obtain rfl : n = x.length := by omega
    rw [List.drop_eq_nil_of_le (Nat.le_refl _)]; exact hi
  | succ c ih =>
    intro n s hn hi
    have hlt : n < x.length := by omega
    rw [getD_drop x n d hlt]
    exact ih (n + 1) _ (by omega) (hI n s hlt hi)
/-- A search: the first element of which p holds. -/
theorem find_up {α R : Type} (L : Nat → Nat → Option R) (x : List α) (d : α) (p : α → Bool) (r : Nat → Option R) (K : Option R)
    (h : ∀ k n, n < x.length → L (k + 1) n = if p (x.getD n d) = true then r n else L k (n + 1))
    (he : ∀ k, L (k + 1) x.length = K) : ∀ c k n, n + c = x.length → c < k →
      (∃ m, n ≤ m ∧ m < x.length ∧ p (x.getD m d) = true ∧ L k n = r m ∧ (x.drop n).any p = true) ∨ (L k n = K ∧ (x.drop n).any p = false)
  | 0, k, n, hn, hk => by
    obtain ⟨k, rfl⟩ : ∃ q, k = q + 1 := ⟨k - 1, by omega⟩
    obtain rfl : n = x.length := by omega
    exact .inr ⟨he k, by rw [List.drop_eq_nil_of_le (Nat.le_refl _)]; rfl⟩
  | c + 1, k, n, hn, hk => by
    obtain ⟨k, rfl⟩ : ∃ q, k = q + 1 := ⟨k - 1, by omega⟩
    have hlt : n < x.length := by omega
    rw [h k n hlt, getD_drop x n d hlt]
    by_cases hp : p (x.getD n d) = true
    · rw [if_pos hp]; exact .inl ⟨n, Nat.le_refl _, hlt, hp, rfl, by rw [List.any_cons, hp]; rfl⟩
    · rw [if_neg hp]
      have hp' : p (x.getD n d) = false := by simpa using hp
      rw [List.any_cons, hp', Bool.false_or]
      rcases find_up L x d p r K h he c k (n + 1) (by omega) (by omega) with ⟨m, h1, h2⟩ | h2
      · exact .inl ⟨m, by omega, h2⟩
      · exact .inr h2
/-- .. of which only is asked whether there is one. -/
theorem any_up {α R : Type} (L : Nat → Nat → Option R) (x : List α) (d : α) (p : α → Bool) (r : Option R) (K : Option R)
    (h : ∀ k n, n < x.length → L (k + 1) n = if p (x.getD n d) = true then r else L k (n + 1))
    (he : ∀ k, L (k + 1) x.length = K) (k : Nat) (hk : x.length < k) : L k 0 = if x.any p = true then r else K := by
  rcases find_up L x d p (fun _ => r) K h he x.length k 0 (by omega) hk with ⟨m, _, _, _, h1, h2⟩ | ⟨h1, h2⟩
  · rw [h1, if_pos (by simpa using h2)]
  · rw [h1, if_neg (by simpa using h2)]
end Go.Abs
namespace Go.Abs
def badB (b : UInt8) : Bool := decide (((b.toNat : Nat) : Int) < 33) || decide (((b.toNat : Nat) : Int) > 126)
/-- 1 to n bytes from 33 to 126 -/
def gr (s : List UInt8) (n : Int) : Bool := !s.any badB && (!(s == []) && decide (((s.length : Nat) : Int) ≤ n))
theorem gr_ne {s : List UInt8} {n : Int} (h : gr s n = true) : (s == []) = false := by
  unfold gr at h
  cases hs : s == []
  · rfl
  · rw [hs] at h; simp at h
theorem f37_eq (s : List UInt8) (n : Int) (hs : s.length ≤ 9223372036854775807) : f37 s n = some (gr s n) := by
  simp only [f37, jn]
  rw [any_up (fun k n => f37_L0 s _ k n) s 0 badB (some false) _ (fun k n hn => by
    show f37_L0 s _ (k + 1) n = _
    conv => lhs; unfold f37_L0
    rw [ifd_pos (by omega), chk_pos (by omega), chk_pos (fun _ => by omega)]
    show (if badB (s.getD n 0) = true then some false else _) = _
    rw [chk_pos (by omega)]) (fun k => by
    show f37_L0 s _ (k + 1) _ = _
    conv => lhs; unfold f37_L0
    rw [ifd_neg (by omega)]) FUEL (fuel_lt (by omega))]
  unfold gr
  cases s.any badB <;> simp
theorem f39_eq (s : List UInt8) (n : Int) (hs : s.length ≤ 9223372036854775807) : f39 s n = some (gr s n) := by
  simp only [f39, jn]
  rw [any_up (fun k n => f39_L0 s _ k n) s 0 badB (some false) _ (fun k n hn => by
    show f39_L0 s _ (k + 1) n = _
    conv => lhs; unfold f39_L0
    rw [ifd_pos (by omega), chk_pos (by omega), chk_pos (fun _ => by omega)]
    show (if badB (s.getD n 0) = true then some false else _) = _
    rw [chk_pos (by omega)]) (fun k => by
    show f39_L0 s _ (k + 1) _ = _
    conv => lhs; unfold f39_L0
    rw [ifd_neg (by omega)]) FUEL (fuel_lt (by omega))]
  have e : decide (((s.length : Nat) : Int) ≥ 1) = !(s == []) := by
    cases s <;> simp <;> omega
  unfold gr
  rw [e]
  cases s.any badB <;> simp
def fld (s : List UInt8) (b : Bool) : Bool := if b then gr s 64 else s == []
theorem f50_eq (s : List UInt8) (b : Bool) (hs : s.length ≤ 9223372036854775807) : f50 s b = some (fld s b) := by
  unfold f50 fld
  cases b
  · rfl
  · rw [f37_eq s 64 hs]; rfl
def kd (k : Int) : List UInt8 × Bool × Bool × Bool :=
  if k = 1 then ([112, 117, 116], true, false, true) else if k = 2 then ([103, 101, 116], true, false, false) else if k = 3 then (cs8, true, false, false) else
  if k = 4 then (cs9, true, false, true) else if k = 5 then ([99, 97, 115], true, true, true) else if k = 6 then (cs6, false, false, false) else ([], false, false, false)
def isK (k : Int) : Bool := decide (1 ≤ k) && decide (k ≤ 6)
def okOp (k : Int) (a b c : List UInt8) : Bool := isK k && fld a (kd k).2.1 && fld b (kd k).2.2.1 && fld c (kd k).2.2.2
theorem kinds (k : Int) : k = 1 ∨ k = 2 ∨ k = 3 ∨ k = 4 ∨ k = 5 ∨ k = 6 ∨ isK k = false := by
  unfold isK
  by_cases h1 : 1 ≤ k
  · by_cases h2 : k ≤ 6
    · omega
    · simp [h1, h2]
  · simp [h1]
theorem isK_not {k : Int} (h : isK k = false) : k ≠ 1 ∧ k ≠ 2 ∧ k ≠ 3 ∧ k ≠ 4 ∧ k ≠ 5 ∧ k ≠ 6 := by
  refine ⟨?_, ?_, ?_, ?_, ?_, ?_⟩ <;> (rintro rfl; cases h)
theorem hasM31 (k : Int) : hasM mk31 k = isK k := by
  rcases kinds k with rfl | rfl | rfl | rfl | rfl | rfl | h
  iterate 6 rfl
  rw [h]
  obtain ⟨h1, h2, h3, h4, h5, h6⟩ := isK_not h
  simp [hasM, mk31, idxL, h1, h2, h3, h4, h5, h6]
theorem getM31 (k : Int) : getM mk31 mv31 (default : List UInt8 × Bool × Bool × Bool) ([], false, false, false) k = kd k := by
  rcases kinds k with rfl | rfl | rfl | rfl | rfl | rfl | h
  iterate 6 rfl
  obtain ⟨h1, h2, h3, h4, h5, h6⟩ := isK_not h
  simp [getM, mk31, idxL, kd, h1, h2, h3, h4, h5, h6]
theorem f35_eq (k : Int) (a b c : List UInt8) (ha : a.length ≤ 9223372036854775807) (hb : b.length ≤ 9223372036854775807) (hc : c.length ≤ 9223372036854775807) :
    f35 k a b c = some ((kd k).1, (kd k).2.1, (kd k).2.2.1, (kd k).2.2.2, okOp k a b c) := by
  unfold f35 f31 okOp
  rw [some_bind, hasM31, getM31, f50_eq a _ ha, f50_eq b _ hb, f50_eq c _ hc]
  cases isK k <;> cases fld a (kd k).2.1 <;> cases fld b (kd k).2.2.1 <;> cases fld c (kd k).2.2.2 <;> rfl
/-- the text of an operation -/
def txt (k : Int) (a b c : List UInt8) : List UInt8 := (kd k).1 ++ (if a == [] then [] else 32 :: a) ++ (if b == [] then [] else 32 :: b) ++ (if c == [] then [] else 32 :: c)
theorem kd_len (k : Int) : (kd k).1.length ≤ 6 := by
  rcases kinds k with rfl | rfl | rfl | rfl | rfl | rfl | h
  iterate 6 decide
  obtain ⟨h1, h2, h3, h4, h5, h6⟩ := isK_not h
  simp [kd, h1, h2, h3, h4, h5, h6]
theorem gr_len {s : List UInt8} {n : Int} (h : gr s n = true) : (s.length : Int) ≤ n := by
  unfold gr at h
  simp only [Bool.and_eq_true, decide_eq_true_eq] at h
  exact h.2.2
theorem fld_len {s : List UInt8} {b : Bool} (h : fld s b = true) : s.length ≤ 64 := by
  unfold fld at h
  cases b
  · simp at h; subst h; simp
  · have := gr_len h; omega
theorem ok_len {k : Int} {a b c : List UInt8} (h : okOp k a b c = true) : a.length ≤ 64 ∧ b.length ≤ 64 ∧ c.length ≤ 64 := by
  unfold okOp at h
  simp only [Bool.and_eq_true] at h
  exact ⟨fld_len h.1.1.2, fld_len h.1.2, fld_len h.2⟩
theorem f34_eq (k : Int) : f34 k = some (kd k).1 := by
  rcases kinds k with rfl | rfl | rfl | rfl | rfl | rfl | h
  iterate 6 rfl
  have h0 := h
  unfold isK at h0
  have h' : (decide (k < 1) || decide (k > 6)) = true := by
    simp only [Bool.and_eq_false_iff, decide_eq_false_iff_not, Bool.or_eq_true, decide_eq_true_eq] at h0 ⊢
    omega
  obtain ⟨h1, h2, h3, h4, h5, h6⟩ := isK_not h
  unfold f34
  rw [if_pos h']
  simp [kd, h1, h2, h3, h4, h5, h6]
theorem kd_ne (k : Int) : ((kd k).1 == []) = !isK k := by
  rcases kinds k with rfl | rfl | rfl | rfl | rfl | rfl | h
  iterate 6 rfl
  obtain ⟨h1, h2, h3, h4, h5, h6⟩ := isK_not h
  simp [kd, h, h1, h2, h3, h4, h5, h6]
theorem f22_eq (k : Int) (a b c : List UInt8) (ha : a.length ≤ 9223372036854775807) (hb : b.length ≤ 9223372036854775807) (hc : c.length ≤ 9223372036854775807) :
    f22 k a b c = some (if okOp k a b c = true then (txt k a b c, 0) else ([], 1)) := by
  have e38 : ∀ s : List UInt8, s.length ≤ 9223372036854775807 → f38 s = some (gr s 64) := fun s hs => by unfold f38; rw [f39_eq s 64 hs]; rfl
  unfold f22
  rw [f34_eq, some_bind, e38 a ha, e38 b hb, e38 c hc, kd_ne]
  have na := @gr_ne a 64
  have nb := @gr_ne b 64
  have nc := @gr_ne c 64
  have hk := kd_len k
  unfold okOp fld txt
  have la := @gr_len a 64
  have lb := @gr_len b 64
  have lc := @gr_len c 64
  generalize ga : gr a 64 = va at *
  generalize gb : gr b 64 = vb at *
  generalize gc : gr c 64 = vc at *
  generalize ea : (a == []) = wa at *
  generalize eb : (b == []) = wb at *
  generalize ec : (c == []) = wc at *
  rcases kinds k with rfl | rfl | rfl | rfl | rfl | rfl | h
  iterate 6
    cases va <;> cases vb <;> cases vc <;> cases wa <;> cases wb <;> cases wc <;> first | (exfalso; simp at na; done) | (exfalso; simp at nb; done) | (exfalso; simp at nc; done) | (simp [optc, chk, isK, kd, jn, cs6, cs8, cs9]; done) | (simp [optc, chk, isK, kd, jn, cs8, cs9]; simp at la lb lc; omega) | (simp [optc, chk, isK, kd, jn, some_bind, cs6, cs8, cs9]; simp at la lc; omega) | (simp [optc, chk, isK, kd, jn, some_bind, cs6, cs8, cs9]; simp at la; omega)
  · rw [h]; rfl
end Go.Abs
