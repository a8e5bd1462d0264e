/- X08, part 3. -/
import Derived.Test.YtncjecbhohcfoaaDoorX08P2
namespace Go.Abs
open Go Go.Proofs
set_option maxHeartbeats 4000000
set_option maxRecDepth 100000 in
theorem f7_ok  (x1 : Int) (x2 : List (BitVec 16)) (x3 : Int) (x4 : List (BitVec 16)) (x5 : Int) (x6 : List (BitVec 16)) (r : Bool) (h : f7 x1 x2 x3 x4 x5 x6 = some r)  : Spec1 Tryd.prog 7 [(0, .elem 32 1 T0F 0 0), (2, .elem 20 1 T2F 0 0)] [] [] [.agg [.int .u8 x1, vL 1 eW 0#16 x2], .agg [.int .u8 x3, vL 1 eW 0#16 x4], .agg [.int .u8 x5, vL 1 eW 0#16 x6]] (.bool r) [] := by
  unfold f7 at h
  refine Spec1.body 0 _ _ Tryd.func7 rfl Tryd.ntmps7 rfl rfl ?_
  refine AWp.seq ?_
  refine AWp.regC [] [] [3, 4, 5, 1000000, 1000002] [3, 4, 5] ⟨172, [(3, .ptr 3 0), (4, .ptr 4 0), (5, .ptr 5 0), (1000000, .elem 32 1 T0F 0 0), (1000002, .elem 20 1 T2F 0 0)], [(3, .cells 39 [.int .u8 x1, vL 1 eW 0#16 x2]), (4, .cells 39 [.int .u8 x3, vL 1 eW 0#16 x4]), (5, .cells 39 [.int .u8 x5, vL 1 eW 0#16 x6])], [], 0⟩ (True) Tryd_mixed (by kernel_rfl) trivial ?_
  refine thenQ_normal ?_
  refine AWp.seq ?_
  obtain ⟨r7, hr7, h⟩ := bind_ok h
  refine AWp.regC [] [(1, ⟨[.agg [.int .u8 x1, vL 1 eW 0#16 x2]], [], [], [(6001, bL 28 1 eW 0#16 r7.2.2)], .tup [.own 6001, .int .i64 r7.1, .bool r7.2.1], [6001], [], []⟩)] [4, 5, 7, 9, 1000000, 1000002] [4, 5, 6001] ⟨172, [(4, .ptr 4 0), (5, .ptr 5 0), (7, .own 6001), (9, .bool r7.2.1), (1000000, .elem 32 1 T0F 0 0), (1000002, .elem 20 1 T2F 0 0)], [(4, .cells 39 [.int .u8 x3, vL 1 eW 0#16 x4]), (5, .cells 39 [.int .u8 x5, vL 1 eW 0#16 x6]), (6001, bL 28 1 eW 0#16 r7.2.2)], [], 0⟩ ((callP Tryd.prog true 28 [] [] [] [] [] [.agg [.int .u8 x1, vL 1 eW 0#16 x2]] [.agg [.int .u8 x1, vL 1 eW 0#16 x2]] (.tup [.own 6001, .int .i64 r7.1, .bool r7.2.1]) [(6001, bL 28 1 eW 0#16 r7.2.2)]) ∧ True) Tryd_mixed (by kernel_rfl) ⟨⟨fun _ => (Spec1.ren (swapN 3000 6001) (swapN_inv 3000 6001) rfl (f28_ok x1 x2 r7 hr7)), fun _ => ⟨.refl _, trivial⟩, .inl rfl⟩, trivial⟩ ?_
  refine thenQ_normal ?_
  refine AWp.seq ?_
  obtain ⟨r8, hr8, h⟩ := bind_ok h
  refine AWp.regC [] [(1, ⟨[.agg [.int .u8 x3, vL 1 eW 0#16 x4]], [], [], [(6002, bL 28 1 eW 0#16 r8.2.2)], .tup [.own 6002, .int .i64 r8.1, .bool r8.2.1], [6002], [], []⟩)] [5, 7, 9, 10, 12, 1000000, 1000002] [5, 6001, 6002] ⟨172, [(5, .ptr 5 0), (7, .own 6001), (9, .bool r7.2.1), (10, .own 6002), (12, .bool r8.2.1), (1000000, .elem 32 1 T0F 0 0), (1000002, .elem 20 1 T2F 0 0)], [(5, .cells 39 [.int .u8 x5, vL 1 eW 0#16 x6]), (6001, bL 28 1 eW 0#16 r7.2.2), (6002, bL 28 1 eW 0#16 r8.2.2)], [], 0⟩ ((callP Tryd.prog true 28 [] [] [] [] [] [.agg [.int .u8 x3, vL 1 eW 0#16 x4]] [.agg [.int .u8 x3, vL 1 eW 0#16 x4]] (.tup [.own 6002, .int .i64 r8.1, .bool r8.2.1]) [(6002, bL 28 1 eW 0#16 r8.2.2)]) ∧ True) Tryd_mixed (by kernel_rfl) ⟨⟨fun _ => (Spec1.ren (swapN 3000 6002) (swapN_inv 3000 6002) rfl (f28_ok x3 x4 r8 hr8)), fun _ => ⟨.refl _, trivial⟩, .inl rfl⟩, trivial⟩ ?_
  refine thenQ_normal ?_
  refine AWp.seq ?_
  obtain ⟨r9, hr9, h⟩ := bind_ok h
  refine AWp.regC [] [(1, ⟨[.agg [.int .u8 x5, vL 1 eW 0#16 x6]], [], [], [(6003, bL 28 1 eW 0#16 r9.2.2)], .tup [.own 6003, .int .i64 r9.1, .bool r9.2.1], [6003], [], []⟩)] [7, 9, 10, 12, 13, 15, 1000000, 1000002] [6001, 6002, 6003] ⟨172, [(7, .own 6001), (9, .bool r7.2.1), (10, .own 6002), (12, .bool r8.2.1), (13, .own 6003), (15, .bool r9.2.1), (1000000, .elem 32 1 T0F 0 0), (1000002, .elem 20 1 T2F 0 0)], [(6001, bL 28 1 eW 0#16 r7.2.2), (6002, bL 28 1 eW 0#16 r8.2.2), (6003, bL 28 1 eW 0#16 r9.2.2)], [], 0⟩ ((callP Tryd.prog true 28 [] [] [] [] [] [.agg [.int .u8 x5, vL 1 eW 0#16 x6]] [.agg [.int .u8 x5, vL 1 eW 0#16 x6]] (.tup [.own 6003, .int .i64 r9.1, .bool r9.2.1]) [(6003, bL 28 1 eW 0#16 r9.2.2)]) ∧ True) Tryd_mixed (by kernel_rfl) ⟨⟨fun _ => (Spec1.ren (swapN 3000 6003) (swapN_inv 3000 6003) rfl (f28_ok x5 x6 r9 hr9)), fun _ => ⟨.refl _, trivial⟩, .inl rfl⟩, trivial⟩ ?_
  refine thenQ_normal ?_
  refine AWp.seq ?_
  refine AWp.seq ?_
  obtain ⟨r10, hr10, h⟩ := bind_ok h
  have ob0 : ((!r10) == false) = true → ((!r10) == false) = true := fun h => h
  have ob1 : true = true → (!r10) = false → ((!r10) == false) = true := fun _ h => beq_iff_eq.2 h
  have ob2 : (((!r10) || (!r7.2.1)) == false) = true → (((!r10) || (!r7.2.1)) == false) = true := fun h => h
  have ob3 : true = true → ((!r10) || (!r7.2.1)) = false → (((!r10) || (!r7.2.1)) == false) = true := fun _ h => beq_iff_eq.2 h
  have ob4 : ((((!r10) || (!r7.2.1)) || (!r8.2.1)) == false) = true → ((((!r10) || (!r7.2.1)) || (!r8.2.1)) == false) = true := fun h => h
  have ob5 : true = true → (((!r10) || (!r7.2.1)) || (!r8.2.1)) = false → ((((!r10) || (!r7.2.1)) || (!r8.2.1)) == false) = true := fun _ h => beq_iff_eq.2 h
  refine AWp.regC [] [(0, ⟨[], [], [], [], .bool r10, [], [], [0, 2]⟩)] [7, 10, 13, 66, 1000000, 1000002] [6001, 6002, 6003] ⟨172, [(7, .own 6001), (10, .own 6002), (13, .own 6003), (66, .bool ((((!r10) || (!r7.2.1)) || (!r8.2.1)) || (!r9.2.1))), (1000000, .elem 32 1 T0F 0 0), (1000002, .elem 20 1 T2F 0 0)], [(6001, bL 28 1 eW 0#16 r7.2.2), (6002, bL 28 1 eW 0#16 r8.2.2), (6003, bL 28 1 eW 0#16 r9.2.2)], [], 0⟩ ((callP Tryd.prog true 10 [(0, .elem 32 1 T0F 0 0), (2, .elem 20 1 T2F 0 0)] [] [] [] [] [] [] (.bool r10) []) ∧ ((((!r10) == false) = true → ((!r10) == false) = true) ∧ True) ∧ (true = true → (!r10) = false → ((!r10) == false) = true) ∧ (((((!r10) || (!r7.2.1)) == false) = true → (((!r10) || (!r7.2.1)) == false) = true) ∧ True) ∧ (true = true → ((!r10) || (!r7.2.1)) = false → (((!r10) || (!r7.2.1)) == false) = true) ∧ ((((((!r10) || (!r7.2.1)) || (!r8.2.1)) == false) = true → ((((!r10) || (!r7.2.1)) || (!r8.2.1)) == false) = true) ∧ True) ∧ (true = true → (((!r10) || (!r7.2.1)) || (!r8.2.1)) = false → ((((!r10) || (!r7.2.1)) || (!r8.2.1)) == false) = true) ∧ True) Tryd_mixed (by kernel_rfl) ⟨⟨fun _ => (f10_ok  r10 hr10), fun _ => trivial, .inl rfl⟩, ⟨ob0, trivial⟩, ob1, ⟨ob2, trivial⟩, ob3, ⟨ob4, trivial⟩, ob5, trivial⟩ ?_
  refine thenQ_normal ?_
  refine AWp.cond (b := ((((!r10) || (!r7.2.1)) || (!r8.2.1)) || (!r9.2.1))) (by kernel_rfl) (fun hc1 => ?_) (fun hc1 => ?_)
  ·
    replace h := ite_tb hc1 h
    refine AWp.seq ?_
    obtain ⟨r11, hr11, h⟩ := bind_ok h
    refine AWp.regC [] [(0, ⟨[], [], [], [], .bool r11, [], [], [0, 2]⟩)] [6, 1000000, 1000002] [] ⟨172, [(6, .bool r11), (1000000, .elem 32 1 T0F 0 0), (1000002, .elem 20 1 T2F 0 0)], [], [], 0⟩ ((callP Tryd.prog true 10 [(0, .elem 32 1 T0F 0 0), (2, .elem 20 1 T2F 0 0)] [] [] [] [] [] [] (.bool r11) []) ∧ True) Tryd_mixed (by kernel_rfl) ⟨⟨fun _ => (f10_ok  r11 hr11), fun _ => trivial, .inl rfl⟩, trivial⟩ ?_
    refine thenQ_normal ?_
    have hret := Option.some.inj h
    subst hret
    refine AWp.le (Le.mk (s := ⟨172, [(6, .bool r11), (1000000, .elem 32 1 T0F 0 0), (1000002, .elem 20 1 T2F 0 0)], [], [], 0⟩) (s' := ⟨172, [(6, .bool r11)], [], [], 0⟩) rfl rfl ⟨.refl _, trivial⟩ trivial) ?_
    refine AWp.ret ?_
    refine thenQ_ret ?_
    exact bodyQ_ret _ rfl ⟨rfl, rfl⟩ rfl
  ·
    replace h := ite_fb hc1 h
    refine AWp.skip ?_
    refine thenQ_normal ?_
    refine AWp.seq ?_
    refine AWp.le (Le.trans (Le.freeze (s := ⟨172, [(7, .own 6001), (10, .own 6002), (13, .own 6003), (66, .bool ((((!r10) || (!r7.2.1)) || (!r8.2.1)) || (!r9.2.1))), (1000000, .elem 32 1 T0F 0 0), (1000002, .elem 20 1 T2F 0 0)], [(6001, bL 28 1 eW 0#16 r7.2.2), (6002, bL 28 1 eW 0#16 r8.2.2), (6003, bL 28 1 eW 0#16 r9.2.2)], [], 0⟩) 6001 rfl rfl) (Le.mk (s' := ⟨172, [(7, vL 1 eW 0#16 r7.2.2), (10, .own 6002), (13, .own 6003), (66, .bool ((((!r10) || (!r7.2.1)) || (!r8.2.1)) || (!r9.2.1))), (1000000, .elem 32 1 T0F 0 0), (1000002, .elem 20 1 T2F 0 0)], [(6002, bL 28 1 eW 0#16 r8.2.2), (6003, bL 28 1 eW 0#16 r9.2.2)], [], 0⟩) rfl rfl ⟨.refl _, .refl _, .refl _, .refl _, .refl _, .refl _, trivial⟩ ⟨⟨_, rfl, .refl _⟩, ⟨_, rfl, .refl _⟩, trivial⟩)) ?_
    refine AWp.le (Le.trans (Le.freeze (s := ⟨172, [(7, vL 1 eW 0#16 r7.2.2), (10, .own 6002), (13, .own 6003), (66, .bool ((((!r10) || (!r7.2.1)) || (!r8.2.1)) || (!r9.2.1))), (1000000, .elem 32 1 T0F 0 0), (1000002, .elem 20 1 T2F 0 0)], [(6002, bL 28 1 eW 0#16 r8.2.2), (6003, bL 28 1 eW 0#16 r9.2.2)], [], 0⟩) 6002 rfl rfl) (Le.mk (s' := ⟨172, [(7, vL 1 eW 0#16 r7.2.2), (10, vL 1 eW 0#16 r8.2.2), (13, .own 6003), (66, .bool ((((!r10) || (!r7.2.1)) || (!r8.2.1)) || (!r9.2.1))), (1000000, .elem 32 1 T0F 0 0), (1000002, .elem 20 1 T2F 0 0)], [(6003, bL 28 1 eW 0#16 r9.2.2)], [], 0⟩) rfl rfl ⟨.refl _, .refl _, .refl _, .refl _, .refl _, .refl _, trivial⟩ ⟨⟨_, rfl, .refl _⟩, trivial⟩)) ?_
    obtain ⟨r12, hr12, h⟩ := bind_ok h
    refine AWp.regC [] [(2, ⟨[vL 1 eW 0#16 r7.2.2, vL 1 eW 0#16 r8.2.2], [], [], [], .tup [vL 1 eW 0#16 r12.1, .int .i64 r12.2], [], [], []⟩)] [7, 10, 13, 16, 17, 1000000, 1000002] [6003] ⟨172, [(7, vL 1 eW 0#16 r7.2.2), (10, vL 1 eW 0#16 r8.2.2), (13, .own 6003), (16, vL 1 eW 0#16 r12.1), (17, .int .i64 r12.2), (1000000, .elem 32 1 T0F 0 0), (1000002, .elem 20 1 T2F 0 0)], [(6003, bL 28 1 eW 0#16 r9.2.2)], [], 0⟩ ((callP Tryd.prog true 21 [] [] [] [] [] [vL 1 eW 0#16 r7.2.2, vL 1 eW 0#16 r8.2.2] [vL 1 eW 0#16 r7.2.2, vL 1 eW 0#16 r8.2.2] (.tup [vL 1 eW 0#16 r12.1, .int .i64 r12.2]) []) ∧ True) Tryd_mixed (by kernel_rfl) ⟨⟨fun _ => (f21_ok r7.2.2 r8.2.2 r12 hr12), fun _ => ⟨.refl _, .refl _, trivial⟩, .inl rfl⟩, trivial⟩ ?_
    refine thenQ_normal ?_
    refine AWp.seq ?_
    obtain ⟨r13, hr13, h⟩ := bind_ok h
    refine AWp.regC [] [(2, ⟨[vL 1 eW 0#16 r8.2.2, vL 1 eW 0#16 r7.2.2], [], [], [], .tup [vL 1 eW 0#16 r13.1, .int .i64 r13.2], [], [], []⟩)] [7, 10, 13, 16, 17, 18, 19, 1000000, 1000002] [6003] ⟨172, [(7, vL 1 eW 0#16 r7.2.2), (10, vL 1 eW 0#16 r8.2.2), (13, .own 6003), (16, vL 1 eW 0#16 r12.1), (17, .int .i64 r12.2), (18, vL 1 eW 0#16 r13.1), (19, .int .i64 r13.2), (1000000, .elem 32 1 T0F 0 0), (1000002, .elem 20 1 T2F 0 0)], [(6003, bL 28 1 eW 0#16 r9.2.2)], [], 0⟩ ((callP Tryd.prog true 21 [] [] [] [] [] [vL 1 eW 0#16 r8.2.2, vL 1 eW 0#16 r7.2.2] [vL 1 eW 0#16 r8.2.2, vL 1 eW 0#16 r7.2.2] (.tup [vL 1 eW 0#16 r13.1, .int .i64 r13.2]) []) ∧ True) Tryd_mixed (by kernel_rfl) ⟨⟨fun _ => (f21_ok r8.2.2 r7.2.2 r13 hr13), fun _ => ⟨.refl _, .refl _, trivial⟩, .inl rfl⟩, trivial⟩ ?_
    refine thenQ_normal ?_
    refine AWp.seq ?_
    refine AWp.le (Le.trans (Le.freeze (s := ⟨172, [(7, vL 1 eW 0#16 r7.2.2), (10, vL 1 eW 0#16 r8.2.2), (13, .own 6003), (16, vL 1 eW 0#16 r12.1), (17, .int .i64 r12.2), (18, vL 1 eW 0#16 r13.1), (19, .int .i64 r13.2), (1000000, .elem 32 1 T0F 0 0), (1000002, .elem 20 1 T2F 0 0)], [(6003, bL 28 1 eW 0#16 r9.2.2)], [], 0⟩) 6003 rfl rfl) (Le.mk (s' := ⟨172, [(7, vL 1 eW 0#16 r7.2.2), (10, vL 1 eW 0#16 r8.2.2), (13, vL 1 eW 0#16 r9.2.2), (16, vL 1 eW 0#16 r12.1), (17, .int .i64 r12.2), (18, vL 1 eW 0#16 r13.1), (19, .int .i64 r13.2), (1000000, .elem 32 1 T0F 0 0), (1000002, .elem 20 1 T2F 0 0)], [], [], 0⟩) rfl rfl ⟨.refl _, .refl _, .refl _, .refl _, .refl _, .refl _, .refl _, .refl _, .refl _, trivial⟩ trivial)) ?_
    obtain ⟨r14, hr14, h⟩ := bind_ok h
    refine AWp.regC [] [(2, ⟨[vL 1 eW 0#16 r8.2.2, vL 1 eW 0#16 r9.2.2], [], [], [], .tup [vL 1 eW 0#16 r14.1, .int .i64 r14.2], [], [], []⟩)] [7, 10, 13, 16, 17, 18, 19, 20, 21, 1000000, 1000002] [] ⟨172, [(7, vL 1 eW 0#16 r7.2.2), (10, vL 1 eW 0#16 r8.2.2), (13, vL 1 eW 0#16 r9.2.2), (16, vL 1 eW 0#16 r12.1), (17, .int .i64 r12.2), (18, vL 1 eW 0#16 r13.1), (19, .int .i64 r13.2), (20, vL 1 eW 0#16 r14.1), (21, .int .i64 r14.2), (1000000, .elem 32 1 T0F 0 0), (1000002, .elem 20 1 T2F 0 0)], [], [], 0⟩ ((callP Tryd.prog true 19 [] [] [] [] [] [vL 1 eW 0#16 r8.2.2, vL 1 eW 0#16 r9.2.2] [vL 1 eW 0#16 r8.2.2, vL 1 eW 0#16 r9.2.2] (.tup [vL 1 eW 0#16 r14.1, .int .i64 r14.2]) []) ∧ True) Tryd_mixed (by kernel_rfl) ⟨⟨fun _ => (f19_ok r8.2.2 r9.2.2 r14 hr14), fun _ => ⟨.refl _, .refl _, trivial⟩, .inl rfl⟩, trivial⟩ ?_
    refine thenQ_normal ?_
    refine AWp.seq ?_
    obtain ⟨r15, hr15, h⟩ := bind_ok h
    refine AWp.regC [] [(2, ⟨[vL 1 eW 0#16 r7.2.2, vL 1 eW 0#16 r14.1], [], [], [], .tup [vL 1 eW 0#16 r15.1, .int .i64 r15.2], [], [], []⟩)] [7, 10, 13, 16, 17, 18, 19, 21, 22, 23, 1000000, 1000002] [] ⟨172, [(7, vL 1 eW 0#16 r7.2.2), (10, vL 1 eW 0#16 r8.2.2), (13, vL 1 eW 0#16 r9.2.2), (16, vL 1 eW 0#16 r12.1), (17, .int .i64 r12.2), (18, vL 1 eW 0#16 r13.1), (19, .int .i64 r13.2), (21, .int .i64 r14.2), (22, vL 1 eW 0#16 r15.1), (23, .int .i64 r15.2), (1000000, .elem 32 1 T0F 0 0), (1000002, .elem 20 1 T2F 0 0)], [], [], 0⟩ ((callP Tryd.prog true 21 [] [] [] [] [] [vL 1 eW 0#16 r7.2.2, vL 1 eW 0#16 r14.1] [vL 1 eW 0#16 r7.2.2, vL 1 eW 0#16 r14.1] (.tup [vL 1 eW 0#16 r15.1, .int .i64 r15.2]) []) ∧ True) Tryd_mixed (by kernel_rfl) ⟨⟨fun _ => (f21_ok r7.2.2 r14.1 r15 hr15), fun _ => ⟨.refl _, .refl _, trivial⟩, .inl rfl⟩, trivial⟩ ?_
    refine thenQ_normal ?_
    refine AWp.seq ?_
    obtain ⟨r16, hr16, h⟩ := bind_ok h
    refine AWp.regC [] [(2, ⟨[vL 1 eW 0#16 r7.2.2, vL 1 eW 0#16 r9.2.2], [], [], [], .tup [vL 1 eW 0#16 r16.1, .int .i64 r16.2], [], [], []⟩)] [7, 10, 13, 16, 17, 18, 19, 21, 22, 23, 24, 25, 1000000, 1000002] [] ⟨172, [(7, vL 1 eW 0#16 r7.2.2), (10, vL 1 eW 0#16 r8.2.2), (13, vL 1 eW 0#16 r9.2.2), (16, vL 1 eW 0#16 r12.1), (17, .int .i64 r12.2), (18, vL 1 eW 0#16 r13.1), (19, .int .i64 r13.2), (21, .int .i64 r14.2), (22, vL 1 eW 0#16 r15.1), (23, .int .i64 r15.2), (24, vL 1 eW 0#16 r16.1), (25, .int .i64 r16.2), (1000000, .elem 32 1 T0F 0 0), (1000002, .elem 20 1 T2F 0 0)], [], [], 0⟩ ((callP Tryd.prog true 21 [] [] [] [] [] [vL 1 eW 0#16 r7.2.2, vL 1 eW 0#16 r9.2.2] [vL 1 eW 0#16 r7.2.2, vL 1 eW 0#16 r9.2.2] (.tup [vL 1 eW 0#16 r16.1, .int .i64 r16.2]) []) ∧ True) Tryd_mixed (by kernel_rfl) ⟨⟨fun _ => (f21_ok r7.2.2 r9.2.2 r16 hr16), fun _ => ⟨.refl _, .refl _, trivial⟩, .inl rfl⟩, trivial⟩ ?_
    refine thenQ_normal ?_
    refine AWp.seq ?_
    obtain ⟨r17, hr17, h⟩ := bind_ok h
    refine AWp.regC [] [(2, ⟨[vL 1 eW 0#16 r12.1, vL 1 eW 0#16 r16.1], [], [], [], .tup [vL 1 eW 0#16 r17.1, .int .i64 r17.2], [], [], []⟩)] [7, 10, 13, 16, 17, 18, 19, 21, 22, 23, 25, 26, 27, 1000000, 1000002] [] ⟨172, [(7, vL 1 eW 0#16 r7.2.2), (10, vL 1 eW 0#16 r8.2.2), (13, vL 1 eW 0#16 r9.2.2), (16, vL 1 eW 0#16 r12.1), (17, .int .i64 r12.2), (18, vL 1 eW 0#16 r13.1), (19, .int .i64 r13.2), (21, .int .i64 r14.2), (22, vL 1 eW 0#16 r15.1), (23, .int .i64 r15.2), (25, .int .i64 r16.2), (26, vL 1 eW 0#16 r17.1), (27, .int .i64 r17.2), (1000000, .elem 32 1 T0F 0 0), (1000002, .elem 20 1 T2F 0 0)], [], [], 0⟩ ((callP Tryd.prog true 19 [] [] [] [] [] [vL 1 eW 0#16 r12.1, vL 1 eW 0#16 r16.1] [vL 1 eW 0#16 r12.1, vL 1 eW 0#16 r16.1] (.tup [vL 1 eW 0#16 r17.1, .int .i64 r17.2]) []) ∧ True) Tryd_mixed (by kernel_rfl) ⟨⟨fun _ => (f19_ok r12.1 r16.1 r17 hr17), fun _ => ⟨.refl _, .refl _, trivial⟩, .inl rfl⟩, trivial⟩ ?_
    refine thenQ_normal ?_
    refine AWp.seq ?_
    obtain ⟨r18, hr18, h⟩ := bind_ok h
    refine AWp.regC [] [(2, ⟨[vL 1 eW 0#16 r8.2.2, vL 1 eW 0#16 r9.2.2], [], [], [], .tup [vL 1 eW 0#16 r18.1, .int .i64 r18.2], [], [], []⟩)] [7, 13, 16, 17, 18, 19, 21, 22, 23, 25, 26, 27, 28, 29, 1000000, 1000002] [] ⟨172, [(7, vL 1 eW 0#16 r7.2.2), (13, vL 1 eW 0#16 r9.2.2), (16, vL 1 eW 0#16 r12.1), (17, .int .i64 r12.2), (18, vL 1 eW 0#16 r13.1), (19, .int .i64 r13.2), (21, .int .i64 r14.2), (22, vL 1 eW 0#16 r15.1), (23, .int .i64 r15.2), (25, .int .i64 r16.2), (26, vL 1 eW 0#16 r17.1), (27, .int .i64 r17.2), (28, vL 1 eW 0#16 r18.1), (29, .int .i64 r18.2), (1000000, .elem 32 1 T0F 0 0), (1000002, .elem 20 1 T2F 0 0)], [], [], 0⟩ ((callP Tryd.prog true 21 [] [] [] [] [] [vL 1 eW 0#16 r8.2.2, vL 1 eW 0#16 r9.2.2] [vL 1 eW 0#16 r8.2.2, vL 1 eW 0#16 r9.2.2] (.tup [vL 1 eW 0#16 r18.1, .int .i64 r18.2]) []) ∧ True) Tryd_mixed (by kernel_rfl) ⟨⟨fun _ => (f21_ok r8.2.2 r9.2.2 r18 hr18), fun _ => ⟨.refl _, .refl _, trivial⟩, .inl rfl⟩, trivial⟩ ?_
    refine thenQ_normal ?_
    refine AWp.seq ?_
    obtain ⟨r19, hr19, h⟩ := bind_ok h
    refine AWp.regC [] [(2, ⟨[vL 1 eW 0#16 r12.1, vL 1 eW 0#16 r9.2.2], [], [], [], .tup [vL 1 eW 0#16 r19.1, .int .i64 r19.2], [], [], []⟩)] [7, 16, 17, 18, 19, 21, 22, 23, 25, 26, 27, 28, 29, 30, 31, 1000000, 1000002] [] ⟨172, [(7, vL 1 eW 0#16 r7.2.2), (16, vL 1 eW 0#16 r12.1), (17, .int .i64 r12.2), (18, vL 1 eW 0#16 r13.1), (19, .int .i64 r13.2), (21, .int .i64 r14.2), (22, vL 1 eW 0#16 r15.1), (23, .int .i64 r15.2), (25, .int .i64 r16.2), (26, vL 1 eW 0#16 r17.1), (27, .int .i64 r17.2), (28, vL 1 eW 0#16 r18.1), (29, .int .i64 r18.2), (30, vL 1 eW 0#16 r19.1), (31, .int .i64 r19.2), (1000000, .elem 32 1 T0F 0 0), (1000002, .elem 20 1 T2F 0 0)], [], [], 0⟩ ((callP Tryd.prog true 21 [] [] [] [] [] [vL 1 eW 0#16 r12.1, vL 1 eW 0#16 r9.2.2] [vL 1 eW 0#16 r12.1, vL 1 eW 0#16 r9.2.2] (.tup [vL 1 eW 0#16 r19.1, .int .i64 r19.2]) []) ∧ True) Tryd_mixed (by kernel_rfl) ⟨⟨fun _ => (f21_ok r12.1 r9.2.2 r19 hr19), fun _ => ⟨.refl _, .refl _, trivial⟩, .inl rfl⟩, trivial⟩ ?_
    refine thenQ_normal ?_
    refine AWp.seq ?_
    obtain ⟨r20, hr20, h⟩ := bind_ok h
    refine AWp.regC [] [(2, ⟨[vL 1 eW 0#16 r7.2.2, vL 1 eW 0#16 r18.1], [], [], [], .tup [vL 1 eW 0#16 r20.1, .int .i64 r20.2], [], [], []⟩)] [16, 17, 18, 19, 21, 22, 23, 25, 26, 27, 29, 30, 31, 32, 33, 1000000, 1000002] [] ⟨172, [(16, vL 1 eW 0#16 r12.1), (17, .int .i64 r12.2), (18, vL 1 eW 0#16 r13.1), (19, .int .i64 r13.2), (21, .int .i64 r14.2), (22, vL 1 eW 0#16 r15.1), (23, .int .i64 r15.2), (25, .int .i64 r16.2), (26, vL 1 eW 0#16 r17.1), (27, .int .i64 r17.2), (29, .int .i64 r18.2), (30, vL 1 eW 0#16 r19.1), (31, .int .i64 r19.2), (32, vL 1 eW 0#16 r20.1), (33, .int .i64 r20.2), (1000000, .elem 32 1 T0F 0 0), (1000002, .elem 20 1 T2F 0 0)], [], [], 0⟩ ((callP Tryd.prog true 21 [] [] [] [] [] [vL 1 eW 0#16 r7.2.2, vL 1 eW 0#16 r18.1] [vL 1 eW 0#16 r7.2.2, vL 1 eW 0#16 r18.1] (.tup [vL 1 eW 0#16 r20.1, .int .i64 r20.2]) []) ∧ True) Tryd_mixed (by kernel_rfl) ⟨⟨fun _ => (f21_ok r7.2.2 r18.1 r20 hr20), fun _ => ⟨.refl _, .refl _, trivial⟩, .inl rfl⟩, trivial⟩ ?_
    refine thenQ_normal ?_
    refine AWp.seq ?_
    have ob6 : ((r12.2 == (0 : Int)) == true) = true → ((r12.2 == (0 : Int)) == true) = true := fun h => h
    have ob7 : true = true → (r12.2 == (0 : Int)) = true → ((r12.2 == (0 : Int)) == true) = true := fun _ h => beq_iff_eq.2 h
    have ob8 : (((r12.2 == (0 : Int)) && (r13.2 == (0 : Int))) == true) = true → (((r12.2 == (0 : Int)) && (r13.2 == (0 : Int))) == true) = true := fun h => h
    have ob9 : true = true → ((r12.2 == (0 : Int)) && (r13.2 == (0 : Int))) = true → (((r12.2 == (0 : Int)) && (r13.2 == (0 : Int))) == true) = true := fun _ h => beq_iff_eq.2 h
    have ob10 : ((((r12.2 == (0 : Int)) && (r13.2 == (0 : Int))) && (r14.2 == (0 : Int))) == true) = true → ((((r12.2 == (0 : Int)) && (r13.2 == (0 : Int))) && (r14.2 == (0 : Int))) == true) = true := fun h => h
    have ob11 : true = true → (((r12.2 == (0 : Int)) && (r13.2 == (0 : Int))) && (r14.2 == (0 : Int))) = true → ((((r12.2 == (0 : Int)) && (r13.2 == (0 : Int))) && (r14.2 == (0 : Int))) == true) = true := fun _ h => beq_iff_eq.2 h
    have ob12 : (((((r12.2 == (0 : Int)) && (r13.2 == (0 : Int))) && (r14.2 == (0 : Int))) && (r15.2 == (0 : Int))) == true) = true → (((((r12.2 == (0 : Int)) && (r13.2 == (0 : Int))) && (r14.2 == (0 : Int))) && (r15.2 == (0 : Int))) == true) = true := fun h => h
    have ob13 : true = true → ((((r12.2 == (0 : Int)) && (r13.2 == (0 : Int))) && (r14.2 == (0 : Int))) && (r15.2 == (0 : Int))) = true → (((((r12.2 == (0 : Int)) && (r13.2 == (0 : Int))) && (r14.2 == (0 : Int))) && (r15.2 == (0 : Int))) == true) = true := fun _ h => beq_iff_eq.2 h
    have ob14 : ((((((r12.2 == (0 : Int)) && (r13.2 == (0 : Int))) && (r14.2 == (0 : Int))) && (r15.2 == (0 : Int))) && (r16.2 == (0 : Int))) == true) = true → ((((((r12.2 == (0 : Int)) && (r13.2 == (0 : Int))) && (r14.2 == (0 : Int))) && (r15.2 == (0 : Int))) && (r16.2 == (0 : Int))) == true) = true := fun h => h
    have ob15 : true = true → (((((r12.2 == (0 : Int)) && (r13.2 == (0 : Int))) && (r14.2 == (0 : Int))) && (r15.2 == (0 : Int))) && (r16.2 == (0 : Int))) = true → ((((((r12.2 == (0 : Int)) && (r13.2 == (0 : Int))) && (r14.2 == (0 : Int))) && (r15.2 == (0 : Int))) && (r16.2 == (0 : Int))) == true) = true := fun _ h => beq_iff_eq.2 h
    have ob16 : (((((((r12.2 == (0 : Int)) && (r13.2 == (0 : Int))) && (r14.2 == (0 : Int))) && (r15.2 == (0 : Int))) && (r16.2 == (0 : Int))) && (r17.2 == (0 : Int))) == true) = true → (((((((r12.2 == (0 : Int)) && (r13.2 == (0 : Int))) && (r14.2 == (0 : Int))) && (r15.2 == (0 : Int))) && (r16.2 == (0 : Int))) && (r17.2 == (0 : Int))) == true) = true := fun h => h
    have ob17 : true = true → ((((((r12.2 == (0 : Int)) && (r13.2 == (0 : Int))) && (r14.2 == (0 : Int))) && (r15.2 == (0 : Int))) && (r16.2 == (0 : Int))) && (r17.2 == (0 : Int))) = true → (((((((r12.2 == (0 : Int)) && (r13.2 == (0 : Int))) && (r14.2 == (0 : Int))) && (r15.2 == (0 : Int))) && (r16.2 == (0 : Int))) && (r17.2 == (0 : Int))) == true) = true := fun _ h => beq_iff_eq.2 h
    have ob18 : ((((((((r12.2 == (0 : Int)) && (r13.2 == (0 : Int))) && (r14.2 == (0 : Int))) && (r15.2 == (0 : Int))) && (r16.2 == (0 : Int))) && (r17.2 == (0 : Int))) && (r18.2 == (0 : Int))) == true) = true → ((((((((r12.2 == (0 : Int)) && (r13.2 == (0 : Int))) && (r14.2 == (0 : Int))) && (r15.2 == (0 : Int))) && (r16.2 == (0 : Int))) && (r17.2 == (0 : Int))) && (r18.2 == (0 : Int))) == true) = true := fun h => h
    have ob19 : true = true → (((((((r12.2 == (0 : Int)) && (r13.2 == (0 : Int))) && (r14.2 == (0 : Int))) && (r15.2 == (0 : Int))) && (r16.2 == (0 : Int))) && (r17.2 == (0 : Int))) && (r18.2 == (0 : Int))) = true → ((((((((r12.2 == (0 : Int)) && (r13.2 == (0 : Int))) && (r14.2 == (0 : Int))) && (r15.2 == (0 : Int))) && (r16.2 == (0 : Int))) && (r17.2 == (0 : Int))) && (r18.2 == (0 : Int))) == true) = true := fun _ h => beq_iff_eq.2 h
    have ob20 : (((((((((r12.2 == (0 : Int)) && (r13.2 == (0 : Int))) && (r14.2 == (0 : Int))) && (r15.2 == (0 : Int))) && (r16.2 == (0 : Int))) && (r17.2 == (0 : Int))) && (r18.2 == (0 : Int))) && (r19.2 == (0 : Int))) == true) = true → (((((((((r12.2 == (0 : Int)) && (r13.2 == (0 : Int))) && (r14.2 == (0 : Int))) && (r15.2 == (0 : Int))) && (r16.2 == (0 : Int))) && (r17.2 == (0 : Int))) && (r18.2 == (0 : Int))) && (r19.2 == (0 : Int))) == true) = true := fun h => h
    have ob21 : true = true → ((((((((r12.2 == (0 : Int)) && (r13.2 == (0 : Int))) && (r14.2 == (0 : Int))) && (r15.2 == (0 : Int))) && (r16.2 == (0 : Int))) && (r17.2 == (0 : Int))) && (r18.2 == (0 : Int))) && (r19.2 == (0 : Int))) = true → (((((((((r12.2 == (0 : Int)) && (r13.2 == (0 : Int))) && (r14.2 == (0 : Int))) && (r15.2 == (0 : Int))) && (r16.2 == (0 : Int))) && (r17.2 == (0 : Int))) && (r18.2 == (0 : Int))) && (r19.2 == (0 : Int))) == true) = true := fun _ h => beq_iff_eq.2 h
    refine AWp.regC [] [] [16, 18, 22, 26, 30, 32, 34, 1000000, 1000002] [] ⟨172, [(16, vL 1 eW 0#16 r12.1), (18, vL 1 eW 0#16 r13.1), (22, vL 1 eW 0#16 r15.1), (26, vL 1 eW 0#16 r17.1), (30, vL 1 eW 0#16 r19.1), (32, vL 1 eW 0#16 r20.1), (34, .bool (((((((((r12.2 == (0 : Int)) && (r13.2 == (0 : Int))) && (r14.2 == (0 : Int))) && (r15.2 == (0 : Int))) && (r16.2 == (0 : Int))) && (r17.2 == (0 : Int))) && (r18.2 == (0 : Int))) && (r19.2 == (0 : Int))) && (r20.2 == (0 : Int)))), (1000000, .elem 32 1 T0F 0 0), (1000002, .elem 20 1 T2F 0 0)], [], [], 0⟩ (((((r12.2 == (0 : Int)) == true) = true → ((r12.2 == (0 : Int)) == true) = true) ∧ True) ∧ (true = true → (r12.2 == (0 : Int)) = true → ((r12.2 == (0 : Int)) == true) = true) ∧ (((((r12.2 == (0 : Int)) && (r13.2 == (0 : Int))) == true) = true → (((r12.2 == (0 : Int)) && (r13.2 == (0 : Int))) == true) = true) ∧ True) ∧ (true = true → ((r12.2 == (0 : Int)) && (r13.2 == (0 : Int))) = true → (((r12.2 == (0 : Int)) && (r13.2 == (0 : Int))) == true) = true) ∧ ((((((r12.2 == (0 : Int)) && (r13.2 == (0 : Int))) && (r14.2 == (0 : Int))) == true) = true → ((((r12.2 == (0 : Int)) && (r13.2 == (0 : Int))) && (r14.2 == (0 : Int))) == true) = true) ∧ True) ∧ (true = true → (((r12.2 == (0 : Int)) && (r13.2 == (0 : Int))) && (r14.2 == (0 : Int))) = true → ((((r12.2 == (0 : Int)) && (r13.2 == (0 : Int))) && (r14.2 == (0 : Int))) == true) = true) ∧ (((((((r12.2 == (0 : Int)) && (r13.2 == (0 : Int))) && (r14.2 == (0 : Int))) && (r15.2 == (0 : Int))) == true) = true → (((((r12.2 == (0 : Int)) && (r13.2 == (0 : Int))) && (r14.2 == (0 : Int))) && (r15.2 == (0 : Int))) == true) = true) ∧ True) ∧ (true = true → ((((r12.2 == (0 : Int)) && (r13.2 == (0 : Int))) && (r14.2 == (0 : Int))) && (r15.2 == (0 : Int))) = true → (((((r12.2 == (0 : Int)) && (r13.2 == (0 : Int))) && (r14.2 == (0 : Int))) && (r15.2 == (0 : Int))) == true) = true) ∧ ((((((((r12.2 == (0 : Int)) && (r13.2 == (0 : Int))) && (r14.2 == (0 : Int))) && (r15.2 == (0 : Int))) && (r16.2 == (0 : Int))) == true) = true → ((((((r12.2 == (0 : Int)) && (r13.2 == (0 : Int))) && (r14.2 == (0 : Int))) && (r15.2 == (0 : Int))) && (r16.2 == (0 : Int))) == true) = true) ∧ True) ∧ (true = true → (((((r12.2 == (0 : Int)) && (r13.2 == (0 : Int))) && (r14.2 == (0 : Int))) && (r15.2 == (0 : Int))) && (r16.2 == (0 : Int))) = true → ((((((r12.2 == (0 : Int)) && (r13.2 == (0 : Int))) && (r14.2 == (0 : Int))) && (r15.2 == (0 : Int))) && (r16.2 == (0 : Int))) == true) = true) ∧ (((((((((r12.2 == (0 : Int)) && (r13.2 == (0 : Int))) && (r14.2 == (0 : Int))) && (r15.2 == (0 : Int))) && (r16.2 == (0 : Int))) && (r17.2 == (0 : Int))) == true) = true → (((((((r12.2 == (0 : Int)) && (r13.2 == (0 : Int))) && (r14.2 == (0 : Int))) && (r15.2 == (0 : Int))) && (r16.2 == (0 : Int))) && (r17.2 == (0 : Int))) == true) = true) ∧ True) ∧ (true = true → ((((((r12.2 == (0 : Int)) && (r13.2 == (0 : Int))) && (r14.2 == (0 : Int))) && (r15.2 == (0 : Int))) && (r16.2 == (0 : Int))) && (r17.2 == (0 : Int))) = true → (((((((r12.2 == (0 : Int)) && (r13.2 == (0 : Int))) && (r14.2 == (0 : Int))) && (r15.2 == (0 : Int))) && (r16.2 == (0 : Int))) && (r17.2 == (0 : Int))) == true) = true) ∧ ((((((((((r12.2 == (0 : Int)) && (r13.2 == (0 : Int))) && (r14.2 == (0 : Int))) && (r15.2 == (0 : Int))) && (r16.2 == (0 : Int))) && (r17.2 == (0 : Int))) && (r18.2 == (0 : Int))) == true) = true → ((((((((r12.2 == (0 : Int)) && (r13.2 == (0 : Int))) && (r14.2 == (0 : Int))) && (r15.2 == (0 : Int))) && (r16.2 == (0 : Int))) && (r17.2 == (0 : Int))) && (r18.2 == (0 : Int))) == true) = true) ∧ True) ∧ (true = true → (((((((r12.2 == (0 : Int)) && (r13.2 == (0 : Int))) && (r14.2 == (0 : Int))) && (r15.2 == (0 : Int))) && (r16.2 == (0 : Int))) && (r17.2 == (0 : Int))) && (r18.2 == (0 : Int))) = true → ((((((((r12.2 == (0 : Int)) && (r13.2 == (0 : Int))) && (r14.2 == (0 : Int))) && (r15.2 == (0 : Int))) && (r16.2 == (0 : Int))) && (r17.2 == (0 : Int))) && (r18.2 == (0 : Int))) == true) = true) ∧ (((((((((((r12.2 == (0 : Int)) && (r13.2 == (0 : Int))) && (r14.2 == (0 : Int))) && (r15.2 == (0 : Int))) && (r16.2 == (0 : Int))) && (r17.2 == (0 : Int))) && (r18.2 == (0 : Int))) && (r19.2 == (0 : Int))) == true) = true → (((((((((r12.2 == (0 : Int)) && (r13.2 == (0 : Int))) && (r14.2 == (0 : Int))) && (r15.2 == (0 : Int))) && (r16.2 == (0 : Int))) && (r17.2 == (0 : Int))) && (r18.2 == (0 : Int))) && (r19.2 == (0 : Int))) == true) = true) ∧ True) ∧ (true = true → ((((((((r12.2 == (0 : Int)) && (r13.2 == (0 : Int))) && (r14.2 == (0 : Int))) && (r15.2 == (0 : Int))) && (r16.2 == (0 : Int))) && (r17.2 == (0 : Int))) && (r18.2 == (0 : Int))) && (r19.2 == (0 : Int))) = true → (((((((((r12.2 == (0 : Int)) && (r13.2 == (0 : Int))) && (r14.2 == (0 : Int))) && (r15.2 == (0 : Int))) && (r16.2 == (0 : Int))) && (r17.2 == (0 : Int))) && (r18.2 == (0 : Int))) && (r19.2 == (0 : Int))) == true) = true) ∧ True) Tryd_mixed (by kernel_rfl) ⟨⟨ob6, trivial⟩, ob7, ⟨ob8, trivial⟩, ob9, ⟨ob10, trivial⟩, ob11, ⟨ob12, trivial⟩, ob13, ⟨ob14, trivial⟩, ob15, ⟨ob16, trivial⟩, ob17, ⟨ob18, trivial⟩, ob19, ⟨ob20, trivial⟩, ob21, trivial⟩ ?_
    refine thenQ_normal ?_
    refine AWp.seq ?_
    obtain ⟨r21, hr21, h⟩ := optc_some h
    obtain ⟨r22, hr22, h⟩ := optc_some h
    obtain ⟨r23, hr23, h⟩ := optc_some h
    have ob22 : ((((((((((r12.2 == (0 : Int)) && (r13.2 == (0 : Int))) && (r14.2 == (0 : Int))) && (r15.2 == (0 : Int))) && (r16.2 == (0 : Int))) && (r17.2 == (0 : Int))) && (r18.2 == (0 : Int))) && (r19.2 == (0 : Int))) && (r20.2 == (0 : Int))) == true) = true → ((((((((((r12.2 == (0 : Int)) && (r13.2 == (0 : Int))) && (r14.2 == (0 : Int))) && (r15.2 == (0 : Int))) && (r16.2 == (0 : Int))) && (r17.2 == (0 : Int))) && (r18.2 == (0 : Int))) && (r19.2 == (0 : Int))) && (r20.2 == (0 : Int))) == true) = true := fun h => h
    have ob23 : ((((((((((r12.2 == (0 : Int)) && (r13.2 == (0 : Int))) && (r14.2 == (0 : Int))) && (r15.2 == (0 : Int))) && (r16.2 == (0 : Int))) && (r17.2 == (0 : Int))) && (r18.2 == (0 : Int))) && (r19.2 == (0 : Int))) && (r20.2 == (0 : Int))) == true) = true → ((((((((((r12.2 == (0 : Int)) && (r13.2 == (0 : Int))) && (r14.2 == (0 : Int))) && (r15.2 == (0 : Int))) && (r16.2 == (0 : Int))) && (r17.2 == (0 : Int))) && (r18.2 == (0 : Int))) && (r19.2 == (0 : Int))) && (r20.2 == (0 : Int))) == true) = true := fun h => h
    have ob24 : true = true → (((((((((r12.2 == (0 : Int)) && (r13.2 == (0 : Int))) && (r14.2 == (0 : Int))) && (r15.2 == (0 : Int))) && (r16.2 == (0 : Int))) && (r17.2 == (0 : Int))) && (r18.2 == (0 : Int))) && (r19.2 == (0 : Int))) && (r20.2 == (0 : Int))) = true → ((((((((((r12.2 == (0 : Int)) && (r13.2 == (0 : Int))) && (r14.2 == (0 : Int))) && (r15.2 == (0 : Int))) && (r16.2 == (0 : Int))) && (r17.2 == (0 : Int))) && (r18.2 == (0 : Int))) && (r19.2 == (0 : Int))) && (r20.2 == (0 : Int))) == true) = true := fun _ h => beq_iff_eq.2 h
    have ob25 : (((((((((((r12.2 == (0 : Int)) && (r13.2 == (0 : Int))) && (r14.2 == (0 : Int))) && (r15.2 == (0 : Int))) && (r16.2 == (0 : Int))) && (r17.2 == (0 : Int))) && (r18.2 == (0 : Int))) && (r19.2 == (0 : Int))) && (r20.2 == (0 : Int))) && r21) == true) = true → (((((((((((r12.2 == (0 : Int)) && (r13.2 == (0 : Int))) && (r14.2 == (0 : Int))) && (r15.2 == (0 : Int))) && (r16.2 == (0 : Int))) && (r17.2 == (0 : Int))) && (r18.2 == (0 : Int))) && (r19.2 == (0 : Int))) && (r20.2 == (0 : Int))) && r21) == true) = true := fun h => h
    have ob26 : (((((((((((r12.2 == (0 : Int)) && (r13.2 == (0 : Int))) && (r14.2 == (0 : Int))) && (r15.2 == (0 : Int))) && (r16.2 == (0 : Int))) && (r17.2 == (0 : Int))) && (r18.2 == (0 : Int))) && (r19.2 == (0 : Int))) && (r20.2 == (0 : Int))) && r21) == true) = true → (((((((((((r12.2 == (0 : Int)) && (r13.2 == (0 : Int))) && (r14.2 == (0 : Int))) && (r15.2 == (0 : Int))) && (r16.2 == (0 : Int))) && (r17.2 == (0 : Int))) && (r18.2 == (0 : Int))) && (r19.2 == (0 : Int))) && (r20.2 == (0 : Int))) && r21) == true) = true := fun h => h
    have ob27 : true = true → ((((((((((r12.2 == (0 : Int)) && (r13.2 == (0 : Int))) && (r14.2 == (0 : Int))) && (r15.2 == (0 : Int))) && (r16.2 == (0 : Int))) && (r17.2 == (0 : Int))) && (r18.2 == (0 : Int))) && (r19.2 == (0 : Int))) && (r20.2 == (0 : Int))) && r21) = true → (((((((((((r12.2 == (0 : Int)) && (r13.2 == (0 : Int))) && (r14.2 == (0 : Int))) && (r15.2 == (0 : Int))) && (r16.2 == (0 : Int))) && (r17.2 == (0 : Int))) && (r18.2 == (0 : Int))) && (r19.2 == (0 : Int))) && (r20.2 == (0 : Int))) && r21) == true) = true := fun _ h => beq_iff_eq.2 h
    have ob28 : ((((((((((((r12.2 == (0 : Int)) && (r13.2 == (0 : Int))) && (r14.2 == (0 : Int))) && (r15.2 == (0 : Int))) && (r16.2 == (0 : Int))) && (r17.2 == (0 : Int))) && (r18.2 == (0 : Int))) && (r19.2 == (0 : Int))) && (r20.2 == (0 : Int))) && r21) && r22) == true) = true → ((((((((((((r12.2 == (0 : Int)) && (r13.2 == (0 : Int))) && (r14.2 == (0 : Int))) && (r15.2 == (0 : Int))) && (r16.2 == (0 : Int))) && (r17.2 == (0 : Int))) && (r18.2 == (0 : Int))) && (r19.2 == (0 : Int))) && (r20.2 == (0 : Int))) && r21) && r22) == true) = true := fun h => h
    have ob29 : ((((((((((((r12.2 == (0 : Int)) && (r13.2 == (0 : Int))) && (r14.2 == (0 : Int))) && (r15.2 == (0 : Int))) && (r16.2 == (0 : Int))) && (r17.2 == (0 : Int))) && (r18.2 == (0 : Int))) && (r19.2 == (0 : Int))) && (r20.2 == (0 : Int))) && r21) && r22) == true) = true → ((((((((((((r12.2 == (0 : Int)) && (r13.2 == (0 : Int))) && (r14.2 == (0 : Int))) && (r15.2 == (0 : Int))) && (r16.2 == (0 : Int))) && (r17.2 == (0 : Int))) && (r18.2 == (0 : Int))) && (r19.2 == (0 : Int))) && (r20.2 == (0 : Int))) && r21) && r22) == true) = true := fun h => h
    have ob30 : true = true → (((((((((((r12.2 == (0 : Int)) && (r13.2 == (0 : Int))) && (r14.2 == (0 : Int))) && (r15.2 == (0 : Int))) && (r16.2 == (0 : Int))) && (r17.2 == (0 : Int))) && (r18.2 == (0 : Int))) && (r19.2 == (0 : Int))) && (r20.2 == (0 : Int))) && r21) && r22) = true → ((((((((((((r12.2 == (0 : Int)) && (r13.2 == (0 : Int))) && (r14.2 == (0 : Int))) && (r15.2 == (0 : Int))) && (r16.2 == (0 : Int))) && (r17.2 == (0 : Int))) && (r18.2 == (0 : Int))) && (r19.2 == (0 : Int))) && (r20.2 == (0 : Int))) && r21) && r22) == true) = true := fun _ h => beq_iff_eq.2 h
    refine AWp.regC [] [(4, ⟨[vL 1 eW 0#16 r12.1, vL 1 eW 0#16 r13.1], [], [], [], .bool r21, [], [], []⟩), (9, ⟨[vL 1 eW 0#16 r15.1, vL 1 eW 0#16 r17.1], [], [], [], .bool r22, [], [], []⟩), (14, ⟨[vL 1 eW 0#16 r19.1, vL 1 eW 0#16 r20.1], [], [], [], .bool r23, [], [], []⟩)] [6, 1000000, 1000002] [] ⟨172, [(6, .bool ((((((((((((r12.2 == (0 : Int)) && (r13.2 == (0 : Int))) && (r14.2 == (0 : Int))) && (r15.2 == (0 : Int))) && (r16.2 == (0 : Int))) && (r17.2 == (0 : Int))) && (r18.2 == (0 : Int))) && (r19.2 == (0 : Int))) && (r20.2 == (0 : Int))) && r21) && r22) && r23)), (1000000, .elem 32 1 T0F 0 0), (1000002, .elem 20 1 T2F 0 0)], [], [], 0⟩ (((callP Tryd.prog ((((((((((r12.2 == (0 : Int)) && (r13.2 == (0 : Int))) && (r14.2 == (0 : Int))) && (r15.2 == (0 : Int))) && (r16.2 == (0 : Int))) && (r17.2 == (0 : Int))) && (r18.2 == (0 : Int))) && (r19.2 == (0 : Int))) && (r20.2 == (0 : Int))) == true) 18 [] [] [] [] [] [vL 1 eW 0#16 r12.1, vL 1 eW 0#16 r13.1] [vL 1 eW 0#16 r12.1, vL 1 eW 0#16 r13.1] (.bool r21) []) ∧ (((((((((((r12.2 == (0 : Int)) && (r13.2 == (0 : Int))) && (r14.2 == (0 : Int))) && (r15.2 == (0 : Int))) && (r16.2 == (0 : Int))) && (r17.2 == (0 : Int))) && (r18.2 == (0 : Int))) && (r19.2 == (0 : Int))) && (r20.2 == (0 : Int))) == true) = true → ((((((((((r12.2 == (0 : Int)) && (r13.2 == (0 : Int))) && (r14.2 == (0 : Int))) && (r15.2 == (0 : Int))) && (r16.2 == (0 : Int))) && (r17.2 == (0 : Int))) && (r18.2 == (0 : Int))) && (r19.2 == (0 : Int))) && (r20.2 == (0 : Int))) == true) = true) ∧ (((((((((((r12.2 == (0 : Int)) && (r13.2 == (0 : Int))) && (r14.2 == (0 : Int))) && (r15.2 == (0 : Int))) && (r16.2 == (0 : Int))) && (r17.2 == (0 : Int))) && (r18.2 == (0 : Int))) && (r19.2 == (0 : Int))) && (r20.2 == (0 : Int))) == true) = true → ((((((((((r12.2 == (0 : Int)) && (r13.2 == (0 : Int))) && (r14.2 == (0 : Int))) && (r15.2 == (0 : Int))) && (r16.2 == (0 : Int))) && (r17.2 == (0 : Int))) && (r18.2 == (0 : Int))) && (r19.2 == (0 : Int))) && (r20.2 == (0 : Int))) == true) = true) ∧ True) ∧ (true = true → (((((((((r12.2 == (0 : Int)) && (r13.2 == (0 : Int))) && (r14.2 == (0 : Int))) && (r15.2 == (0 : Int))) && (r16.2 == (0 : Int))) && (r17.2 == (0 : Int))) && (r18.2 == (0 : Int))) && (r19.2 == (0 : Int))) && (r20.2 == (0 : Int))) = true → ((((((((((r12.2 == (0 : Int)) && (r13.2 == (0 : Int))) && (r14.2 == (0 : Int))) && (r15.2 == (0 : Int))) && (r16.2 == (0 : Int))) && (r17.2 == (0 : Int))) && (r18.2 == (0 : Int))) && (r19.2 == (0 : Int))) && (r20.2 == (0 : Int))) == true) = true) ∧ ((callP Tryd.prog (((((((((((r12.2 == (0 : Int)) && (r13.2 == (0 : Int))) && (r14.2 == (0 : Int))) && (r15.2 == (0 : Int))) && (r16.2 == (0 : Int))) && (r17.2 == (0 : Int))) && (r18.2 == (0 : Int))) && (r19.2 == (0 : Int))) && (r20.2 == (0 : Int))) && r21) == true) 18 [] [] [] [] [] [vL 1 eW 0#16 r15.1, vL 1 eW 0#16 r17.1] [vL 1 eW 0#16 r15.1, vL 1 eW 0#16 r17.1] (.bool r22) []) ∧ ((((((((((((r12.2 == (0 : Int)) && (r13.2 == (0 : Int))) && (r14.2 == (0 : Int))) && (r15.2 == (0 : Int))) && (r16.2 == (0 : Int))) && (r17.2 == (0 : Int))) && (r18.2 == (0 : Int))) && (r19.2 == (0 : Int))) && (r20.2 == (0 : Int))) && r21) == true) = true → (((((((((((r12.2 == (0 : Int)) && (r13.2 == (0 : Int))) && (r14.2 == (0 : Int))) && (r15.2 == (0 : Int))) && (r16.2 == (0 : Int))) && (r17.2 == (0 : Int))) && (r18.2 == (0 : Int))) && (r19.2 == (0 : Int))) && (r20.2 == (0 : Int))) && r21) == true) = true) ∧ ((((((((((((r12.2 == (0 : Int)) && (r13.2 == (0 : Int))) && (r14.2 == (0 : Int))) && (r15.2 == (0 : Int))) && (r16.2 == (0 : Int))) && (r17.2 == (0 : Int))) && (r18.2 == (0 : Int))) && (r19.2 == (0 : Int))) && (r20.2 == (0 : Int))) && r21) == true) = true → (((((((((((r12.2 == (0 : Int)) && (r13.2 == (0 : Int))) && (r14.2 == (0 : Int))) && (r15.2 == (0 : Int))) && (r16.2 == (0 : Int))) && (r17.2 == (0 : Int))) && (r18.2 == (0 : Int))) && (r19.2 == (0 : Int))) && (r20.2 == (0 : Int))) && r21) == true) = true) ∧ True) ∧ (true = true → ((((((((((r12.2 == (0 : Int)) && (r13.2 == (0 : Int))) && (r14.2 == (0 : Int))) && (r15.2 == (0 : Int))) && (r16.2 == (0 : Int))) && (r17.2 == (0 : Int))) && (r18.2 == (0 : Int))) && (r19.2 == (0 : Int))) && (r20.2 == (0 : Int))) && r21) = true → (((((((((((r12.2 == (0 : Int)) && (r13.2 == (0 : Int))) && (r14.2 == (0 : Int))) && (r15.2 == (0 : Int))) && (r16.2 == (0 : Int))) && (r17.2 == (0 : Int))) && (r18.2 == (0 : Int))) && (r19.2 == (0 : Int))) && (r20.2 == (0 : Int))) && r21) == true) = true) ∧ ((callP Tryd.prog ((((((((((((r12.2 == (0 : Int)) && (r13.2 == (0 : Int))) && (r14.2 == (0 : Int))) && (r15.2 == (0 : Int))) && (r16.2 == (0 : Int))) && (r17.2 == (0 : Int))) && (r18.2 == (0 : Int))) && (r19.2 == (0 : Int))) && (r20.2 == (0 : Int))) && r21) && r22) == true) 18 [] [] [] [] [] [vL 1 eW 0#16 r19.1, vL 1 eW 0#16 r20.1] [vL 1 eW 0#16 r19.1, vL 1 eW 0#16 r20.1] (.bool r23) []) ∧ (((((((((((((r12.2 == (0 : Int)) && (r13.2 == (0 : Int))) && (r14.2 == (0 : Int))) && (r15.2 == (0 : Int))) && (r16.2 == (0 : Int))) && (r17.2 == (0 : Int))) && (r18.2 == (0 : Int))) && (r19.2 == (0 : Int))) && (r20.2 == (0 : Int))) && r21) && r22) == true) = true → ((((((((((((r12.2 == (0 : Int)) && (r13.2 == (0 : Int))) && (r14.2 == (0 : Int))) && (r15.2 == (0 : Int))) && (r16.2 == (0 : Int))) && (r17.2 == (0 : Int))) && (r18.2 == (0 : Int))) && (r19.2 == (0 : Int))) && (r20.2 == (0 : Int))) && r21) && r22) == true) = true) ∧ (((((((((((((r12.2 == (0 : Int)) && (r13.2 == (0 : Int))) && (r14.2 == (0 : Int))) && (r15.2 == (0 : Int))) && (r16.2 == (0 : Int))) && (r17.2 == (0 : Int))) && (r18.2 == (0 : Int))) && (r19.2 == (0 : Int))) && (r20.2 == (0 : Int))) && r21) && r22) == true) = true → ((((((((((((r12.2 == (0 : Int)) && (r13.2 == (0 : Int))) && (r14.2 == (0 : Int))) && (r15.2 == (0 : Int))) && (r16.2 == (0 : Int))) && (r17.2 == (0 : Int))) && (r18.2 == (0 : Int))) && (r19.2 == (0 : Int))) && (r20.2 == (0 : Int))) && r21) && r22) == true) = true) ∧ True) ∧ (true = true → (((((((((((r12.2 == (0 : Int)) && (r13.2 == (0 : Int))) && (r14.2 == (0 : Int))) && (r15.2 == (0 : Int))) && (r16.2 == (0 : Int))) && (r17.2 == (0 : Int))) && (r18.2 == (0 : Int))) && (r19.2 == (0 : Int))) && (r20.2 == (0 : Int))) && r21) && r22) = true → ((((((((((((r12.2 == (0 : Int)) && (r13.2 == (0 : Int))) && (r14.2 == (0 : Int))) && (r15.2 == (0 : Int))) && (r16.2 == (0 : Int))) && (r17.2 == (0 : Int))) && (r18.2 == (0 : Int))) && (r19.2 == (0 : Int))) && (r20.2 == (0 : Int))) && r21) && r22) == true) = true) ∧ True) Tryd_mixed (by kernel_rfl) ⟨⟨⟨fun hc => (f18_ok r12.1 r13.1 r21 (hr21 hc)), fun _ => ⟨.refl _, .refl _, trivial⟩, .inl rfl⟩, ob22, ob23, trivial⟩, ob24, ⟨⟨fun hc => (f18_ok r15.1 r17.1 r22 (hr22 hc)), fun _ => ⟨.refl _, .refl _, trivial⟩, .inl rfl⟩, ob25, ob26, trivial⟩, ob27, ⟨⟨fun hc => (f18_ok r19.1 r20.1 r23 (hr23 hc)), fun _ => ⟨.refl _, .refl _, trivial⟩, .inl rfl⟩, ob28, ob29, trivial⟩, ob30, trivial⟩ ?_
    refine thenQ_normal ?_
    have hret := Option.some.inj h
    subst hret
    refine AWp.le (Le.mk (s := ⟨172, [(6, .bool ((((((((((((r12.2 == (0 : Int)) && (r13.2 == (0 : Int))) && (r14.2 == (0 : Int))) && (r15.2 == (0 : Int))) && (r16.2 == (0 : Int))) && (r17.2 == (0 : Int))) && (r18.2 == (0 : Int))) && (r19.2 == (0 : Int))) && (r20.2 == (0 : Int))) && r21) && r22) && r23)), (1000000, .elem 32 1 T0F 0 0), (1000002, .elem 20 1 T2F 0 0)], [], [], 0⟩) (s' := ⟨172, [(6, .bool ((((((((((((r12.2 == (0 : Int)) && (r13.2 == (0 : Int))) && (r14.2 == (0 : Int))) && (r15.2 == (0 : Int))) && (r16.2 == (0 : Int))) && (r17.2 == (0 : Int))) && (r18.2 == (0 : Int))) && (r19.2 == (0 : Int))) && (r20.2 == (0 : Int))) && r21) && r22) && r23))], [], [], 0⟩) rfl rfl ⟨.refl _, trivial⟩ trivial) ?_
    refine AWp.ret ?_
    exact bodyQ_ret _ rfl ⟨rfl, rfl⟩ rfl
def f29_L0 (x1 : List (BitVec 16)) (x2 : BitVec 16) (K1 : Unit → Option Bool) : Nat → Nat → Option Bool
  | 0, _ => none
  | k + 1, n3 =>
    if (decide (((n3 : Nat) : Int) < (((x1).length : Nat) : Int))) then (
    (f41 x2 (x1.getD n3 0#16)).bind fun (r4 : Bool) =>
    chk (((n3 : Nat) : Int) < (((x1).length : Nat) : Int)) <|
    if r4 then (
    some true
    ) else (
    chk ((((n3 : Nat) : Int) + (1 : Int)) ≤ 9223372036854775807) <|
    (f29_L0 x1 x2 K1 k) (n3 + 1)
    )
    ) else (
    K1 ()
    )
def f29 (x1 : List (BitVec 16)) (x2 : BitVec 16) : Option Bool :=
  jn (fun (_ : Unit) =>
  some false
  ) fun (K1 : Unit → Option Bool) =>
  f29_L0 x1 x2 K1 FUEL 0
def f56 (x1 : BitVec 16) (x2 : List (BitVec 16)) : Option (Bool × List (BitVec 16)) :=
  (f27 x2 x1).bind fun (r3 : Bool) =>
  some ((!r3), x2)
def f73c_L0 (x1 : List (BitVec 16)) (K1 : (List (BitVec 16)) → Option (Int × List (BitVec 16))) : Nat → (Nat × List (BitVec 16)) → Option (Int × List (BitVec 16))
  | 0, _ => none
  | k + 1, (n3, l4) =>
    if (decide (((n3 : Nat) : Int) < (((x1).length : Nat) : Int))) then (
    (f56 (x1.getD n3 0#16) l4).bind fun (r5 : Bool × List (BitVec 16)) =>
    chk (((n3 : Nat) : Int) < (((x1).length : Nat) : Int)) <|
    if r5.1 then (
    some (((n3 : Nat) : Int), r5.2)
    ) else (
    chk ((((n3 : Nat) : Int) + (1 : Int)) ≤ 9223372036854775807) <|
    (f73c_L0 x1 K1 k) ((n3 + 1), r5.2)
    )
    ) else (
    K1 l4
    )
def f73c (x1 : List (BitVec 16)) (x2 : List (BitVec 16)) : Option (Int × List (BitVec 16)) :=
  jn (fun (l6 : List (BitVec 16)) =>
  some ((-1 : Int), l6)
  ) fun (K1 : (List (BitVec 16)) → Option (Int × List (BitVec 16))) =>
  f73c_L0 x1 K1 FUEL (0, x2)
def f53c (x1 : List (BitVec 16)) (x2 : List (BitVec 16)) : Option (Bool × List (BitVec 16)) :=
  (f73c x1 x2).bind fun (r3 : Int × List (BitVec 16)) =>
  some ((decide (r3.1 ≥ (0 : Int))), r3.2)
def f30 (x1 : List (BitVec 16)) (x2 : List (BitVec 16)) : Option Bool :=
  (f53c x1 x2).bind fun (r3 : Bool × List (BitVec 16)) =>
  some (!r3.1)
def f31_L0 (x1 : List (BitVec 16)) (x2 : List (BitVec 16)) (K1 : Unit → Option Bool) : Nat → Nat → Option Bool
  | 0, _ => none
  | k + 1, n3 =>
    if (decide (((n3 : Nat) : Int) < (((x1).length : Nat) : Int))) then (
    (f29 x2 (x1.getD n3 0#16)).bind fun (r4 : Bool) =>
    chk (((n3 : Nat) : Int) < (((x1).length : Nat) : Int)) <|
    if (!r4) then (
    some false
    ) else (
    chk ((((n3 : Nat) : Int) + (1 : Int)) ≤ 9223372036854775807) <|
    (f31_L0 x1 x2 K1 k) (n3 + 1)
    )
    ) else (
    K1 ()
    )
def f31 (x1 : List (BitVec 16)) (x2 : List (BitVec 16)) : Option Bool :=
  jn (fun (_ : Unit) =>
  some true
  ) fun (K1 : Unit → Option Bool) =>
  f31_L0 x1 x2 K1 FUEL 0
def f32_L0 (x1 : List (BitVec 16)) (K1 : (BitVec 16) → Option (BitVec 16)) : Nat → (BitVec 16 × Nat) → Option (BitVec 16)
  | 0, _ => none
  | k + 1, (w2, n3) =>
    if (decide (((n3 : Nat) : Int) < (((x1).length : Nat) : Int))) then (
    chk (((n3 : Nat) : Int) < (((x1).length : Nat) : Int)) <|
    chk ((((n3 : Nat) : Int) + (1 : Int)) ≤ 9223372036854775807) <|
    (f32_L0 x1 K1 k) ((w2 ||| (x1.getD n3 0#16)), (n3 + 1))
    ) else (
    K1 w2
    )
def f32 (x1 : List (BitVec 16)) : Option (BitVec 16) :=
  jn (fun (w4 : BitVec 16) =>
  some w4
  ) fun (K1 : (BitVec 16) → Option (BitVec 16)) =>
  f32_L0 x1 K1 FUEL ((BitVec.ofInt 16 0), 0)
def f33_L0 (x1 : List (BitVec 16)) (K1 : (BitVec 16) → Option (BitVec 16)) : Nat → (BitVec 16 × Nat) → Option (BitVec 16)
  | 0, _ => none
  | k + 1, (w2, n3) =>
    if (decide (((n3 : Nat) : Int) < (((x1).length : Nat) : Int))) then (
    chk (((n3 : Nat) : Int) < (((x1).length : Nat) : Int)) <|
    chk ((((n3 : Nat) : Int) + (1 : Int)) ≤ 9223372036854775807) <|
    (f33_L0 x1 K1 k) ((w2 ||| (x1.getD n3 0#16)), (n3 + 1))
    ) else (
    K1 w2
    )
def f33 (x1 : List (BitVec 16)) : Option (BitVec 16) :=
  jn (fun (w4 : BitVec 16) =>
  some w4
  ) fun (K1 : (BitVec 16) → Option (BitVec 16)) =>
  f33_L0 x1 K1 FUEL ((BitVec.ofInt 16 0), 0)
end Go.Abs
