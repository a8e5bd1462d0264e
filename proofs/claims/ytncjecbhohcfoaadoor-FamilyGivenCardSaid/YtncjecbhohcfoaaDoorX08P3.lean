/- X08, part 3. -/
import Derived.Test.YtncjecbhohcfoaaDoorX08P2
namespace Go.Abs
open Go Go.Proofs
set_option maxHeartbeats 4000000
set_option maxRecDepth 100000 in
theorem f6_ok  (x1 : List (BitVec 16)) (x2 : BitVec 16) (x3 : BitVec 16) (r : Bool) (h : f6 x1 x2 x3 = some r)  : Spec1 Tryd.prog 6 [(0, .elem 32 1 T0F 0 0), (2, .elem 20 1 T2F 0 0)] [] [] [vL 1 eW 0#16 x1, .b16 x2, .b16 x3] (.bool r) [] := by
  unfold f6 at h
  refine Spec1.body 0 _ _ Tryd.func6 rfl Tryd.ntmps6 rfl rfl ?_
  refine AWp.seq ?_
  refine AWp.regC [] [] [0, 1, 2, 1000000, 1000002] [] ⟨109, [(0, vL 1 eW 0#16 x1), (1, .b16 x2), (2, .b16 x3), (1000000, .elem 32 1 T0F 0 0), (1000002, .elem 20 1 T2F 0 0)], [], [], 0⟩ (True) Tryd_mixed (by kernel_rfl) trivial ?_
  refine thenQ_normal ?_
  refine AWp.seq ?_
  refine AWp.seq ?_
  obtain ⟨r4, hr4, h⟩ := bind_ok h
  have ob0 : ((!r4) == false) = true → ((!r4) == false) = true := fun h => h
  have ob1 : ((!r4) == false) = true → ((!r4) == false) = true := fun h => h
  have ob2 : true = true → (!r4) = false → ((!r4) == false) = true := fun _ h => beq_iff_eq.2 h
  refine AWp.regC [] [(0, ⟨[], [], [], [], .bool r4, [], [], [0, 2]⟩)] [0, 1, 2, 21, 1000000, 1000002] [] ⟨109, [(0, vL 1 eW 0#16 x1), (1, .b16 x2), (2, .b16 x3), (21, .bool ((!r4) || (decide ((((x1).length : Nat) : Int) > (40 : Int))))), (1000000, .elem 32 1 T0F 0 0), (1000002, .elem 20 1 T2F 0 0)], [], [], 0⟩ ((callP Tryd.prog true 10 [(0, .elem 32 1 T0F 0 0), (2, .elem 20 1 T2F 0 0)] [] [] [] [] [] [] (.bool r4) []) ∧ ((((!r4) == false) = true → ((!r4) == false) = true) ∧ True) ∧ ((((!r4) == false) = true → ((!r4) == false) = true) ∧ True) ∧ (true = true → (!r4) = false → ((!r4) == false) = true) ∧ True) Tryd_mixed (by kernel_rfl) ⟨⟨fun _ => (f10_ok  r4 hr4), fun _ => trivial, .inl rfl⟩, ⟨ob0, trivial⟩, ⟨ob1, trivial⟩, ob2, trivial⟩ ?_
  refine thenQ_normal ?_
  refine AWp.cond (b := ((!r4) || (decide ((((x1).length : Nat) : Int) > (40 : Int))))) (by kernel_rfl) (fun hc1 => ?_) (fun hc1 => ?_)
  ·
    replace h := ite_tb hc1 h
    refine AWp.seq ?_
    obtain ⟨r5, hr5, h⟩ := bind_ok h
    refine AWp.regC [] [(0, ⟨[], [], [], [], .bool r5, [], [], [0, 2]⟩)] [6, 1000000, 1000002] [] ⟨109, [(6, .bool r5), (1000000, .elem 32 1 T0F 0 0), (1000002, .elem 20 1 T2F 0 0)], [], [], 0⟩ ((callP Tryd.prog true 10 [(0, .elem 32 1 T0F 0 0), (2, .elem 20 1 T2F 0 0)] [] [] [] [] [] [] (.bool r5) []) ∧ True) Tryd_mixed (by kernel_rfl) ⟨⟨fun _ => (f10_ok  r5 hr5), fun _ => trivial, .inl rfl⟩, trivial⟩ ?_
    refine thenQ_normal ?_
    have hret := Option.some.inj h
    subst hret
    refine AWp.le (Le.mk (s := ⟨109, [(6, .bool r5), (1000000, .elem 32 1 T0F 0 0), (1000002, .elem 20 1 T2F 0 0)], [], [], 0⟩) (s' := ⟨109, [(6, .bool r5)], [], [], 0⟩) rfl rfl ⟨.refl _, trivial⟩ trivial) ?_
    refine AWp.ret ?_
    refine thenQ_ret ?_
    exact bodyQ_ret _ rfl ⟨rfl, rfl⟩ rfl
  ·
    replace h := ite_fb hc1 h
    refine AWp.skip ?_
    refine thenQ_normal ?_
    refine AWp.seq ?_
    obtain ⟨r6, hr6, h⟩ := bind_ok h
    refine AWp.regC [] [(2, ⟨[vL 1 eW 0#16 x1, .b16 x2], [], [], [], .tup [vL 1 eW 0#16 r6.1, .int .i64 r6.2], [], [], []⟩)] [0, 1, 2, 7, 8, 1000000, 1000002] [] ⟨109, [(0, vL 1 eW 0#16 x1), (1, .b16 x2), (2, .b16 x3), (7, vL 1 eW 0#16 r6.1), (8, .int .i64 r6.2), (1000000, .elem 32 1 T0F 0 0), (1000002, .elem 20 1 T2F 0 0)], [], [], 0⟩ ((callP Tryd.prog true 23 [] [] [] [] [] [vL 1 eW 0#16 x1, .b16 x2] [vL 1 eW 0#16 x1, .b16 x2] (.tup [vL 1 eW 0#16 r6.1, .int .i64 r6.2]) []) ∧ True) Tryd_mixed (by kernel_rfl) ⟨⟨fun _ => (f23_ok x1 x2 r6 hr6), fun _ => ⟨.refl _, .refl _, trivial⟩, .inl rfl⟩, trivial⟩ ?_
    refine thenQ_normal ?_
    refine AWp.seq ?_
    obtain ⟨r7, hr7, h⟩ := bind_ok h
    refine AWp.regC [] [(2, ⟨[vL 1 eW 0#16 x1, .b16 x2], [], [], [], .tup [vL 1 eW 0#16 r7.1, .int .i64 r7.2], [], [], []⟩)] [0, 1, 2, 7, 8, 9, 10, 1000000, 1000002] [] ⟨109, [(0, vL 1 eW 0#16 x1), (1, .b16 x2), (2, .b16 x3), (7, vL 1 eW 0#16 r6.1), (8, .int .i64 r6.2), (9, vL 1 eW 0#16 r7.1), (10, .int .i64 r7.2), (1000000, .elem 32 1 T0F 0 0), (1000002, .elem 20 1 T2F 0 0)], [], [], 0⟩ ((callP Tryd.prog true 24 [] [] [] [] [] [vL 1 eW 0#16 x1, .b16 x2] [vL 1 eW 0#16 x1, .b16 x2] (.tup [vL 1 eW 0#16 r7.1, .int .i64 r7.2]) []) ∧ True) Tryd_mixed (by kernel_rfl) ⟨⟨fun _ => (f24_ok x1 x2 r7 hr7), fun _ => ⟨.refl _, .refl _, trivial⟩, .inl rfl⟩, trivial⟩ ?_
    refine thenQ_normal ?_
    refine AWp.seq ?_
    obtain ⟨r8, hr8, h⟩ := bind_ok h
    refine AWp.regC [] [(2, ⟨[vL 1 eW 0#16 x1, .b16 x2], [], [], [(6001, bL 28 1 eW 0#16 r8.2)], .tup [.own 6001, .int .i64 r8.1], [6001], [], []⟩)] [0, 1, 2, 7, 8, 9, 10, 11, 12, 1000000, 1000002] [6001] ⟨109, [(0, vL 1 eW 0#16 x1), (1, .b16 x2), (2, .b16 x3), (7, vL 1 eW 0#16 r6.1), (8, .int .i64 r6.2), (9, vL 1 eW 0#16 r7.1), (10, .int .i64 r7.2), (11, .own 6001), (12, .int .i64 r8.1), (1000000, .elem 32 1 T0F 0 0), (1000002, .elem 20 1 T2F 0 0)], [(6001, bL 28 1 eW 0#16 r8.2)], [], 0⟩ ((callP Tryd.prog true 25 [] [] [] [] [] [vL 1 eW 0#16 x1, .b16 x2] [vL 1 eW 0#16 x1, .b16 x2] (.tup [.own 6001, .int .i64 r8.1]) [(6001, bL 28 1 eW 0#16 r8.2)]) ∧ True) Tryd_mixed (by kernel_rfl) ⟨⟨fun _ => (Spec1.ren (swapN 3000 6001) (swapN_inv 3000 6001) rfl (f25_ok x1 x2 r8 hr8)), fun _ => ⟨.refl _, .refl _, trivial⟩, .inl rfl⟩, trivial⟩ ?_
    refine thenQ_normal ?_
    refine AWp.seq ?_
    obtain ⟨r9, hr9, h⟩ := bind_ok h
    refine AWp.regC [] [(2, ⟨[vL 1 eW 0#16 x1, .b16 x2], [], [], [(6002, bL 28 1 eW 0#16 r9.2)], .tup [.own 6002, .int .i64 r9.1], [6002], [], []⟩)] [0, 1, 2, 7, 8, 9, 10, 11, 12, 13, 14, 1000000, 1000002] [6001, 6002] ⟨109, [(0, vL 1 eW 0#16 x1), (1, .b16 x2), (2, .b16 x3), (7, vL 1 eW 0#16 r6.1), (8, .int .i64 r6.2), (9, vL 1 eW 0#16 r7.1), (10, .int .i64 r7.2), (11, .own 6001), (12, .int .i64 r8.1), (13, .own 6002), (14, .int .i64 r9.1), (1000000, .elem 32 1 T0F 0 0), (1000002, .elem 20 1 T2F 0 0)], [(6001, bL 28 1 eW 0#16 r8.2), (6002, bL 28 1 eW 0#16 r9.2)], [], 0⟩ ((callP Tryd.prog true 26 [] [] [] [] [] [vL 1 eW 0#16 x1, .b16 x2] [vL 1 eW 0#16 x1, .b16 x2] (.tup [.own 6002, .int .i64 r9.1]) [(6002, bL 28 1 eW 0#16 r9.2)]) ∧ True) Tryd_mixed (by kernel_rfl) ⟨⟨fun _ => (Spec1.ren (swapN 3000 6002) (swapN_inv 3000 6002) rfl (f26_ok x1 x2 r9 hr9)), fun _ => ⟨.refl _, .refl _, trivial⟩, .inl rfl⟩, trivial⟩ ?_
    refine thenQ_normal ?_
    refine AWp.seq ?_
    refine AWp.seq ?_
    obtain ⟨r10, hr10, h⟩ := optc_some h
    obtain ⟨r11, hr11, h⟩ := optc_some h
    have ob3 : ((r6.2 != r7.2) == false) = true → ((r6.2 != r7.2) == false) = true := fun h => h
    have ob4 : ((r6.2 != r7.2) == false) = true → ((r6.2 != r7.2) == false) = true := fun h => h
    have ob5 : true = true → (r6.2 != r7.2) = false → ((r6.2 != r7.2) == false) = true := fun _ h => beq_iff_eq.2 h
    have ob6 : (((r6.2 != r7.2) || (r8.1 != r9.1)) == false) = true → (((r6.2 != r7.2) || (r8.1 != r9.1)) == false) = true := fun h => h
    have ob7 : (((r6.2 != r7.2) || (r8.1 != r9.1)) == false) = true → (((r6.2 != r7.2) || (r8.1 != r9.1)) == false) = true := fun h => h
    have ob8 : (((r6.2 != r7.2) || (r8.1 != r9.1)) == false) = true → (((r6.2 != r7.2) || (r8.1 != r9.1)) == false) = true := fun h => h
    have ob9 : true = true → ((r6.2 != r7.2) || (r8.1 != r9.1)) = false → (((r6.2 != r7.2) || (r8.1 != r9.1)) == false) = true := fun _ h => beq_iff_eq.2 h
    have ob10 : ((((r6.2 != r7.2) || (r8.1 != r9.1)) || (!r10)) == false) = true → ((((r6.2 != r7.2) || (r8.1 != r9.1)) || (!r10)) == false) = true := fun h => h
    have ob11 : ((((r6.2 != r7.2) || (r8.1 != r9.1)) || (!r10)) == false) = true → ((((r6.2 != r7.2) || (r8.1 != r9.1)) || (!r10)) == false) = true := fun h => h
    have ob12 : ((((r6.2 != r7.2) || (r8.1 != r9.1)) || (!r10)) == false) = true → ((((r6.2 != r7.2) || (r8.1 != r9.1)) || (!r10)) == false) = true := fun h => h
    have ob13 : true = true → (((r6.2 != r7.2) || (r8.1 != r9.1)) || (!r10)) = false → ((((r6.2 != r7.2) || (r8.1 != r9.1)) || (!r10)) == false) = true := fun _ h => beq_iff_eq.2 h
    have ob14 : (((((r6.2 != r7.2) || (r8.1 != r9.1)) || (!r10)) || (!r11)) == false) = true → (((((r6.2 != r7.2) || (r8.1 != r9.1)) || (!r10)) || (!r11)) == false) = true := fun h => h
    have ob15 : true = true → ((((r6.2 != r7.2) || (r8.1 != r9.1)) || (!r10)) || (!r11)) = false → (((((r6.2 != r7.2) || (r8.1 != r9.1)) || (!r10)) || (!r11)) == false) = true := fun _ h => beq_iff_eq.2 h
    refine AWp.regC [] [(11, ⟨[vL 1 eW 0#16 r6.1, vL 1 eW 0#16 r7.1], [], [], [], .bool r10, [], [], []⟩), (17, ⟨[vL 1 eW 0#16 r8.2, vL 1 eW 0#16 r9.2], [], [], [], .bool r11, [], [6001, 6002], []⟩)] [0, 1, 2, 7, 8, 9, 10, 11, 12, 13, 14, 70, 1000000, 1000002] [6001, 6002] ⟨109, [(0, vL 1 eW 0#16 x1), (1, .b16 x2), (2, .b16 x3), (7, vL 1 eW 0#16 r6.1), (8, .int .i64 r6.2), (9, vL 1 eW 0#16 r7.1), (10, .int .i64 r7.2), (11, .own 6001), (12, .int .i64 r8.1), (13, .own 6002), (14, .int .i64 r9.1), (70, .bool (((((r6.2 != r7.2) || (r8.1 != r9.1)) || (!r10)) || (!r11)) || (r6.2 != (0 : Int)))), (1000000, .elem 32 1 T0F 0 0), (1000002, .elem 20 1 T2F 0 0)], [(6001, bL 28 1 eW 0#16 r8.2), (6002, bL 28 1 eW 0#16 r9.2)], [], 0⟩ (((((r6.2 != r7.2) == false) = true → ((r6.2 != r7.2) == false) = true) ∧ (((r6.2 != r7.2) == false) = true → ((r6.2 != r7.2) == false) = true) ∧ True) ∧ (true = true → (r6.2 != r7.2) = false → ((r6.2 != r7.2) == false) = true) ∧ ((callP Tryd.prog (((r6.2 != r7.2) || (r8.1 != r9.1)) == false) 18 [] [] [] [] [] [vL 1 eW 0#16 r6.1, vL 1 eW 0#16 r7.1] [vL 1 eW 0#16 r6.1, vL 1 eW 0#16 r7.1] (.bool r10) []) ∧ ((((r6.2 != r7.2) || (r8.1 != r9.1)) == false) = true → (((r6.2 != r7.2) || (r8.1 != r9.1)) == false) = true) ∧ ((((r6.2 != r7.2) || (r8.1 != r9.1)) == false) = true → (((r6.2 != r7.2) || (r8.1 != r9.1)) == false) = true) ∧ True) ∧ (((((r6.2 != r7.2) || (r8.1 != r9.1)) == false) = true → (((r6.2 != r7.2) || (r8.1 != r9.1)) == false) = true) ∧ True) ∧ (true = true → ((r6.2 != r7.2) || (r8.1 != r9.1)) = false → (((r6.2 != r7.2) || (r8.1 != r9.1)) == false) = true) ∧ ((callP Tryd.prog ((((r6.2 != r7.2) || (r8.1 != r9.1)) || (!r10)) == false) 18 [] [] [] [(6001, bL 28 1 eW 0#16 r8.2), (6002, bL 28 1 eW 0#16 r9.2)] [6001, 6002] [.own 6001, .own 6002] [vL 1 eW 0#16 r8.2, vL 1 eW 0#16 r9.2] (.bool r11) []) ∧ (((((r6.2 != r7.2) || (r8.1 != r9.1)) || (!r10)) == false) = true → ((((r6.2 != r7.2) || (r8.1 != r9.1)) || (!r10)) == false) = true) ∧ (((((r6.2 != r7.2) || (r8.1 != r9.1)) || (!r10)) == false) = true → ((((r6.2 != r7.2) || (r8.1 != r9.1)) || (!r10)) == false) = true) ∧ True) ∧ ((((((r6.2 != r7.2) || (r8.1 != r9.1)) || (!r10)) == false) = true → ((((r6.2 != r7.2) || (r8.1 != r9.1)) || (!r10)) == false) = true) ∧ True) ∧ (true = true → (((r6.2 != r7.2) || (r8.1 != r9.1)) || (!r10)) = false → ((((r6.2 != r7.2) || (r8.1 != r9.1)) || (!r10)) == false) = true) ∧ (((((((r6.2 != r7.2) || (r8.1 != r9.1)) || (!r10)) || (!r11)) == false) = true → (((((r6.2 != r7.2) || (r8.1 != r9.1)) || (!r10)) || (!r11)) == false) = true) ∧ True) ∧ (true = true → ((((r6.2 != r7.2) || (r8.1 != r9.1)) || (!r10)) || (!r11)) = false → (((((r6.2 != r7.2) || (r8.1 != r9.1)) || (!r10)) || (!r11)) == false) = true) ∧ True) Tryd_mixed (by kernel_rfl) ⟨⟨ob3, ob4, trivial⟩, ob5, ⟨⟨fun hc => (f18_ok r6.1 r7.1 r10 (hr10 hc)), fun _ => ⟨.refl _, .refl _, trivial⟩, .inl rfl⟩, ob6, ob7, trivial⟩, ⟨ob8, trivial⟩, ob9, ⟨⟨fun hc => (f18_ok r8.2 r9.2 r11 (hr11 hc)), fun _ => ⟨.refl _, .refl _, trivial⟩, .inr ⟨rfl, trivial⟩⟩, ob10, ob11, trivial⟩, ⟨ob12, trivial⟩, ob13, ⟨ob14, trivial⟩, ob15, trivial⟩ ?_
    refine thenQ_normal ?_
    refine AWp.cond (b := (((((r6.2 != r7.2) || (r8.1 != r9.1)) || (!r10)) || (!r11)) || (r6.2 != (0 : Int)))) (by kernel_rfl) (fun hc2 => ?_) (fun hc2 => ?_)
    ·
      replace h := ite_tb hc2 h
      refine AWp.seq ?_
      obtain ⟨r12, hr12, h⟩ := optc_some h
      obtain ⟨r13, hr13, h⟩ := optc_some h
      have ob16 : ((r6.2 == r7.2) == true) = true → ((r6.2 == r7.2) == true) = true := fun h => h
      have ob17 : ((r6.2 == r7.2) == true) = true → ((r6.2 == r7.2) == true) = true := fun h => h
      have ob18 : true = true → (r6.2 == r7.2) = true → ((r6.2 == r7.2) == true) = true := fun _ h => beq_iff_eq.2 h
      have ob19 : (((r6.2 == r7.2) && (r8.1 == r9.1)) == true) = true → (((r6.2 == r7.2) && (r8.1 == r9.1)) == true) = true := fun h => h
      have ob20 : (((r6.2 == r7.2) && (r8.1 == r9.1)) == true) = true → (((r6.2 == r7.2) && (r8.1 == r9.1)) == true) = true := fun h => h
      have ob21 : true = true → ((r6.2 == r7.2) && (r8.1 == r9.1)) = true → (((r6.2 == r7.2) && (r8.1 == r9.1)) == true) = true := fun _ h => beq_iff_eq.2 h
      have ob22 : ((((r6.2 == r7.2) && (r8.1 == r9.1)) && r12) == true) = true → ((((r6.2 == r7.2) && (r8.1 == r9.1)) && r12) == true) = true := fun h => h
      have ob23 : ((((r6.2 == r7.2) && (r8.1 == r9.1)) && r12) == true) = true → ((((r6.2 == r7.2) && (r8.1 == r9.1)) && r12) == true) = true := fun h => h
      have ob24 : true = true → (((r6.2 == r7.2) && (r8.1 == r9.1)) && r12) = true → ((((r6.2 == r7.2) && (r8.1 == r9.1)) && r12) == true) = true := fun _ h => beq_iff_eq.2 h
      refine AWp.regC [] [(11, ⟨[vL 1 eW 0#16 r6.1, vL 1 eW 0#16 r7.1], [], [], [], .bool r12, [], [], []⟩), (16, ⟨[vL 1 eW 0#16 r8.2, vL 1 eW 0#16 r9.2], [], [], [], .bool r13, [], [6001, 6002], []⟩)] [6, 1000000, 1000002] [] ⟨109, [(6, .bool ((((r6.2 == r7.2) && (r8.1 == r9.1)) && r12) && r13)), (1000000, .elem 32 1 T0F 0 0), (1000002, .elem 20 1 T2F 0 0)], [], [], 0⟩ (((((r6.2 == r7.2) == true) = true → ((r6.2 == r7.2) == true) = true) ∧ (((r6.2 == r7.2) == true) = true → ((r6.2 == r7.2) == true) = true) ∧ True) ∧ (true = true → (r6.2 == r7.2) = true → ((r6.2 == r7.2) == true) = true) ∧ ((callP Tryd.prog (((r6.2 == r7.2) && (r8.1 == r9.1)) == true) 18 [] [] [] [] [] [vL 1 eW 0#16 r6.1, vL 1 eW 0#16 r7.1] [vL 1 eW 0#16 r6.1, vL 1 eW 0#16 r7.1] (.bool r12) []) ∧ ((((r6.2 == r7.2) && (r8.1 == r9.1)) == true) = true → (((r6.2 == r7.2) && (r8.1 == r9.1)) == true) = true) ∧ ((((r6.2 == r7.2) && (r8.1 == r9.1)) == true) = true → (((r6.2 == r7.2) && (r8.1 == r9.1)) == true) = true) ∧ True) ∧ (true = true → ((r6.2 == r7.2) && (r8.1 == r9.1)) = true → (((r6.2 == r7.2) && (r8.1 == r9.1)) == true) = true) ∧ ((callP Tryd.prog ((((r6.2 == r7.2) && (r8.1 == r9.1)) && r12) == true) 18 [] [] [] [(6001, bL 28 1 eW 0#16 r8.2), (6002, bL 28 1 eW 0#16 r9.2)] [6001, 6002] [.own 6001, .own 6002] [vL 1 eW 0#16 r8.2, vL 1 eW 0#16 r9.2] (.bool r13) []) ∧ (((((r6.2 == r7.2) && (r8.1 == r9.1)) && r12) == true) = true → ((((r6.2 == r7.2) && (r8.1 == r9.1)) && r12) == true) = true) ∧ (((((r6.2 == r7.2) && (r8.1 == r9.1)) && r12) == true) = true → ((((r6.2 == r7.2) && (r8.1 == r9.1)) && r12) == true) = true) ∧ True) ∧ (true = true → (((r6.2 == r7.2) && (r8.1 == r9.1)) && r12) = true → ((((r6.2 == r7.2) && (r8.1 == r9.1)) && r12) == true) = true) ∧ True) Tryd_mixed (by kernel_rfl) ⟨⟨ob16, ob17, trivial⟩, ob18, ⟨⟨fun hc => (f18_ok r6.1 r7.1 r12 (hr12 hc)), fun _ => ⟨.refl _, .refl _, trivial⟩, .inl rfl⟩, ob19, ob20, trivial⟩, ob21, ⟨⟨fun hc => (f18_ok r8.2 r9.2 r13 (hr13 hc)), fun _ => ⟨.refl _, .refl _, trivial⟩, .inr ⟨rfl, trivial⟩⟩, ob22, ob23, trivial⟩, ob24, trivial⟩ ?_
      refine thenQ_normal ?_
      have hret := Option.some.inj h
      subst hret
      refine AWp.le (Le.mk (s := ⟨109, [(6, .bool ((((r6.2 == r7.2) && (r8.1 == r9.1)) && r12) && r13)), (1000000, .elem 32 1 T0F 0 0), (1000002, .elem 20 1 T2F 0 0)], [], [], 0⟩) (s' := ⟨109, [(6, .bool ((((r6.2 == r7.2) && (r8.1 == r9.1)) && r12) && r13))], [], [], 0⟩) rfl rfl ⟨.refl _, trivial⟩ trivial) ?_
      refine AWp.ret ?_
      refine thenQ_ret ?_
      exact bodyQ_ret _ rfl ⟨rfl, rfl⟩ rfl
    ·
      replace h := ite_fb hc2 h
      refine AWp.skip ?_
      refine thenQ_normal ?_
      refine AWp.seq ?_
      obtain ⟨r14, hr14, h⟩ := bind_ok h
      obtain ⟨r15, hr15, h⟩ := bind_ok h
      obtain ⟨r16, hr16, h⟩ := optc_some h
      obtain ⟨r17, hr17, h⟩ := optc_some h
      have ob25 : ((r14 == r15) == true) = true → ((r14 == r15) == true) = true := fun h => h
      have ob26 : ((r14 == r15) == true) = true → ((r14 == r15) == true) = true := fun h => h
      have ob27 : ((r14 == r15) == true) = true → ((r14 == r15) == true) = true := fun h => h
      have ob28 : ((r14 == r15) == true) = true → ((r14 == r15) == true) = true := fun h => h
      have ob29 : ((r14 == r15) == true) = true → ((r14 == r15) == true) = true := fun h => h
      have ob30 : ((r14 == r15) == true) = true → ((r14 == r15) == true) = true := fun h => h
      have ob31 : ((r14 == r15) == true) = true → ((r14 == r15) == true) = true := fun h => h
      have ob32 : ((r14 == r15) == true) = true → ((r14 == r15) == true) = true := fun h => h
      have ob33 : true = true → (r14 == r15) = true → ((r14 == r15) == true) = true := fun _ h => beq_iff_eq.2 h
      refine AWp.regC [] [(2, ⟨[vL 1 eW 0#16 r6.1, .b16 x3], [], [], [], .bool r14, [], [], []⟩), (7, ⟨[vL 1 eW 0#16 x1, .b16 (x2 ||| x3)], [], [], [], .bool r15, [], [], []⟩), (12, ⟨[vL 1 eW 0#16 r8.2, .b16 x3], [], [], [], .bool r16, [], [6001], []⟩), (17, ⟨[vL 1 eW 0#16 x1, .b16 (x3 &&& ~~~x2)], [], [], [], .bool r17, [], [], []⟩)] [6, 1000000, 1000002] [] ⟨109, [(6, .bool ((r14 == r15) && (r16 == r17))), (1000000, .elem 32 1 T0F 0 0), (1000002, .elem 20 1 T2F 0 0)], [], [], 0⟩ ((callP Tryd.prog true 27 [] [] [] [] [] [vL 1 eW 0#16 r6.1, .b16 x3] [vL 1 eW 0#16 r6.1, .b16 x3] (.bool r14) []) ∧ (callP Tryd.prog true 27 [] [] [] [] [] [vL 1 eW 0#16 x1, .b16 (x2 ||| x3)] [vL 1 eW 0#16 x1, .b16 (x2 ||| x3)] (.bool r15) []) ∧ ((callP Tryd.prog ((r14 == r15) == true) 27 [] [] [] [(6001, bL 28 1 eW 0#16 r8.2)] [6001] [.own 6001, .b16 x3] [vL 1 eW 0#16 r8.2, .b16 x3] (.bool r16) []) ∧ (((r14 == r15) == true) = true → ((r14 == r15) == true) = true) ∧ (((r14 == r15) == true) = true → ((r14 == r15) == true) = true) ∧ True) ∧ ((((r14 == r15) == true) = true → ((r14 == r15) == true) = true) ∧ (((r14 == r15) == true) = true → ((r14 == r15) == true) = true) ∧ True) ∧ ((callP Tryd.prog ((r14 == r15) == true) 27 [] [] [] [] [] [vL 1 eW 0#16 x1, .b16 (x3 &&& ~~~x2)] [vL 1 eW 0#16 x1, .b16 (x3 &&& ~~~x2)] (.bool r17) []) ∧ (((r14 == r15) == true) = true → ((r14 == r15) == true) = true) ∧ (((r14 == r15) == true) = true → ((r14 == r15) == true) = true) ∧ True) ∧ ((((r14 == r15) == true) = true → ((r14 == r15) == true) = true) ∧ (((r14 == r15) == true) = true → ((r14 == r15) == true) = true) ∧ True) ∧ (true = true → (r14 == r15) = true → ((r14 == r15) == true) = true) ∧ True) Tryd_mixed (by kernel_rfl) ⟨⟨fun _ => (f27_ok r6.1 x3 r14 hr14), fun _ => ⟨.refl _, .refl _, trivial⟩, .inl rfl⟩, ⟨fun _ => (f27_ok x1 (x2 ||| x3) r15 hr15), fun _ => ⟨.refl _, .refl _, trivial⟩, .inl rfl⟩, ⟨⟨fun hc => (f27_ok r8.2 x3 r16 (hr16 hc)), fun _ => ⟨.refl _, .refl _, trivial⟩, .inr ⟨rfl, trivial⟩⟩, ob25, ob26, trivial⟩, ⟨ob27, ob28, trivial⟩, ⟨⟨fun hc => (f27_ok x1 (x3 &&& ~~~x2) r17 (hr17 hc)), fun _ => ⟨.refl _, .refl _, trivial⟩, .inl rfl⟩, ob29, ob30, trivial⟩, ⟨ob31, ob32, trivial⟩, ob33, trivial⟩ ?_
      refine thenQ_normal ?_
      have hret := Option.some.inj h
      subst hret
      refine AWp.le (Le.mk (s := ⟨109, [(6, .bool ((r14 == r15) && (r16 == r17))), (1000000, .elem 32 1 T0F 0 0), (1000002, .elem 20 1 T2F 0 0)], [], [], 0⟩) (s' := ⟨109, [(6, .bool ((r14 == r15) && (r16 == r17)))], [], [], 0⟩) rfl rfl ⟨.refl _, trivial⟩ trivial) ?_
      refine AWp.ret ?_
      exact bodyQ_ret _ rfl ⟨rfl, rfl⟩ rfl
def f29_L0 (x1 : List (BitVec 16)) (x2 : BitVec 16) (K1 : Unit → Option Bool) : Nat → Nat → Option Bool
  | 0, _ => none
  | k + 1, n3 =>
    if (decide (((n3 : Nat) : Int) < (((x1).length : Nat) : Int))) then (
    (f41 x2 (x1.getD n3 0#16)).bind fun (r4 : Bool) =>
    chk (((n3 : Nat) : Int) < (((x1).length : Nat) : Int)) <|
    if r4 then (
    some true
    ) else (
    chk ((((n3 : Nat) : Int) + (1 : Int)) ≤ 9223372036854775807) <|
    (f29_L0 x1 x2 K1 k) (n3 + 1)
    )
    ) else (
    K1 ()
    )
def f29 (x1 : List (BitVec 16)) (x2 : BitVec 16) : Option Bool :=
  jn (fun (_ : Unit) =>
  some false
  ) fun (K1 : Unit → Option Bool) =>
  f29_L0 x1 x2 K1 FUEL 0
def f56 (x1 : BitVec 16) (x2 : List (BitVec 16)) : Option (Bool × List (BitVec 16)) :=
  (f27 x2 x1).bind fun (r3 : Bool) =>
  some ((!r3), x2)
def f73c_L0 (x1 : List (BitVec 16)) (K1 : (List (BitVec 16)) → Option (Int × List (BitVec 16))) : Nat → (Nat × List (BitVec 16)) → Option (Int × List (BitVec 16))
  | 0, _ => none
  | k + 1, (n3, l4) =>
    if (decide (((n3 : Nat) : Int) < (((x1).length : Nat) : Int))) then (
    (f56 (x1.getD n3 0#16) l4).bind fun (r5 : Bool × List (BitVec 16)) =>
    chk (((n3 : Nat) : Int) < (((x1).length : Nat) : Int)) <|
    if r5.1 then (
    some (((n3 : Nat) : Int), r5.2)
    ) else (
    chk ((((n3 : Nat) : Int) + (1 : Int)) ≤ 9223372036854775807) <|
    (f73c_L0 x1 K1 k) ((n3 + 1), r5.2)
    )
    ) else (
    K1 l4
    )
def f73c (x1 : List (BitVec 16)) (x2 : List (BitVec 16)) : Option (Int × List (BitVec 16)) :=
  jn (fun (l6 : List (BitVec 16)) =>
  some ((-1 : Int), l6)
  ) fun (K1 : (List (BitVec 16)) → Option (Int × List (BitVec 16))) =>
  f73c_L0 x1 K1 FUEL (0, x2)
def f53c (x1 : List (BitVec 16)) (x2 : List (BitVec 16)) : Option (Bool × List (BitVec 16)) :=
  (f73c x1 x2).bind fun (r3 : Int × List (BitVec 16)) =>
  some ((decide (r3.1 ≥ (0 : Int))), r3.2)
def f30 (x1 : List (BitVec 16)) (x2 : List (BitVec 16)) : Option Bool :=
  (f53c x1 x2).bind fun (r3 : Bool × List (BitVec 16)) =>
  some (!r3.1)
def f31_L0 (x1 : List (BitVec 16)) (x2 : List (BitVec 16)) (K1 : Unit → Option Bool) : Nat → Nat → Option Bool
  | 0, _ => none
  | k + 1, n3 =>
    if (decide (((n3 : Nat) : Int) < (((x1).length : Nat) : Int))) then (
    (f29 x2 (x1.getD n3 0#16)).bind fun (r4 : Bool) =>
    chk (((n3 : Nat) : Int) < (((x1).length : Nat) : Int)) <|
    if (!r4) then (
    some false
    ) else (
    chk ((((n3 : Nat) : Int) + (1 : Int)) ≤ 9223372036854775807) <|
    (f31_L0 x1 x2 K1 k) (n3 + 1)
    )
    ) else (
    K1 ()
    )
def f31 (x1 : List (BitVec 16)) (x2 : List (BitVec 16)) : Option Bool :=
  jn (fun (_ : Unit) =>
  some true
  ) fun (K1 : Unit → Option Bool) =>
  f31_L0 x1 x2 K1 FUEL 0
def f32_L0 (x1 : List (BitVec 16)) (K1 : (BitVec 16) → Option (BitVec 16)) : Nat → (BitVec 16 × Nat) → Option (BitVec 16)
  | 0, _ => none
  | k + 1, (w2, n3) =>
    if (decide (((n3 : Nat) : Int) < (((x1).length : Nat) : Int))) then (
    chk (((n3 : Nat) : Int) < (((x1).length : Nat) : Int)) <|
    chk ((((n3 : Nat) : Int) + (1 : Int)) ≤ 9223372036854775807) <|
    (f32_L0 x1 K1 k) ((w2 ||| (x1.getD n3 0#16)), (n3 + 1))
    ) else (
    K1 w2
    )
def f32 (x1 : List (BitVec 16)) : Option (BitVec 16) :=
  jn (fun (w4 : BitVec 16) =>
  some w4
  ) fun (K1 : (BitVec 16) → Option (BitVec 16)) =>
  f32_L0 x1 K1 FUEL ((BitVec.ofInt 16 0), 0)
def f33_L0 (x1 : List (BitVec 16)) (K1 : (BitVec 16) → Option (BitVec 16)) : Nat → (BitVec 16 × Nat) → Option (BitVec 16)
  | 0, _ => none
  | k + 1, (w2, n3) =>
    if (decide (((n3 : Nat) : Int) < (((x1).length : Nat) : Int))) then (
    chk (((n3 : Nat) : Int) < (((x1).length : Nat) : Int)) <|
    chk ((((n3 : Nat) : Int) + (1 : Int)) ≤ 9223372036854775807) <|
    (f33_L0 x1 K1 k) ((w2 ||| (x1.getD n3 0#16)), (n3 + 1))
    ) else (
    K1 w2
    )
def f33 (x1 : List (BitVec 16)) : Option (BitVec 16) :=
  jn (fun (w4 : BitVec 16) =>
  some w4
  ) fun (K1 : (BitVec 16) → Option (BitVec 16)) =>
  f33_L0 x1 K1 FUEL ((BitVec.ofInt 16 0), 0)
end Go.Abs
