/- Part 23 of the proof: X57, Pl. -/
import Derived.Test.YtkeioaggjaeicaaGreatDoorHpreZ22
namespace Go.Abs
open Go Go.Proofs
set_option maxHeartbeats 4000000
set_option maxRecDepth 100000 in
theorem f20_ok  (x1 : List (Int × Int × Int × List UInt8 × List UInt8)) (r : Int × Int) (h : f20 x1 = some r)  : Spec1 Tryz.prog 20 [] [] [] [vL 5 eT31 (default : Int × Int × Int × List UInt8 × List UInt8) x1] (.tup [.int .i64 r.1, .int .i64 r.2]) [] := by
  unfold f20 at h
  refine Spec1.body 0 _ _ Tryz.func20 rfl Tryz.ntmps20 rfl rfl ?_
  refine q1rq [] [] ⟨50, [(0, q1aT31 x1)], [], [], 0⟩ trivial ?_
  refine AWp.seq ?_
  refine AWp.seq ?_
  obtain ⟨r2, hr2, h⟩ := bind_ok h
  refine q1rr [] [(1, ⟨[q1aT31 x1], [], [], [], .i r2, [], [], []⟩)] ⟨50, [(0, q1aT31 x1), (4, .i r2)], [], [], 0⟩ (an1 (cpT (f18_ok _ _ hr2))) ?_
  refine thenQ_normal ?_
  refine q1rq [] [] ⟨50, [(0, q1aT31 x1), (4, .i r2), (13, .bool (r2 != (0 : Int)))], [], [], 0⟩ trivial ?_
  refine AWp.cond (b := (r2 != (0 : Int))) (by kernel_rfl) (fun hc1 => ?_) (fun hc1 => ?_)
  ·
    replace h := ite_tb hc1 h
    refine q1rq [] [] ⟨50, [(2, .i (0 : Int)), (3, .i r2)], [], [], 0⟩ trivial ?_
    have hret := Option.some.inj h
    subst hret
    refine AWp.le (Le.mk (s' := ⟨50, [(2, .i (0 : Int)), (3, .i r2)], [], [], 0⟩) rfl rfl ⟨.refl _, .refl _, trivial⟩ trivial) ?_
    refine AWp.ret ?_
    refine thenQ_ret ?_
    exact bodyQ_ret _ rfl ⟨rfl, rfl⟩ rfl
  ·
    replace h := ite_fb hc1 h
    refine AWp.skip ?_
    refine thenQ_normal ?_
    refine q1rq [] [] ⟨50, [(0, q1aT31 x1), (5, .i (-1 : Int))], [], [], 0⟩ trivial ?_
    obtain ⟨K1, hK1, h⟩ := jn_some h
    refine AWp.join (α := Int) (fun (i9 : Int) => ⟨50, [(5, .i i9)], [], [], 0⟩) (fun x => K1 x = some r) ?_ ?_
    ·
      refine q1rq [] [] ⟨50, [(0, q1aT31 x1), (5, .i (-1 : Int)), (6, .i (0 : Int))], [], [], 0⟩ trivial ?_
      refine AWp.block ?_
      refine AWp.loopL (α := Nat × (Int × Nat)) (fun x => match x with | (_, i3, n4) => ⟨50, (f20z2 x1 i3 n4), [], [], 0⟩) (fun x => f20_L0 x1 K1 x.1 x.2 = some r) (fun x => x.1) (FUEL, (-1 : Int), 0) (Le.mk (s' := ⟨50, [(0, q1aT31 x1), (5, .i (-1 : Int)), (6, .i (0 : Int))], [], [], 0⟩) rfl rfl ⟨.refl _, .refl _, .refl _, trivial⟩ trivial) h ?_
      rintro ⟨k0, i3, n4⟩ h
      cases k0 with
      | zero => exact nomatch (show (none : Option (Int × Int)) = some r from h)
      | succ k0 =>
      obtain ⟨C0, hC0⟩ : ∃ C, C = f20_L0 x1 K1 k0 := ⟨_, rfl⟩
      replace h := (f20_L0.eq_2 ..).symm.trans h
      try rw [← hC0] at h
      refine AWp.seq ?_
      refine q1rq [] [] ⟨50, [(0, q1aT31 x1), (5, .i i3), (6, .i (n4 : Int)), (18, .bool (decide ((n4 : Int) < (lZ x1))))], [], [], 0⟩ trivial ?_
      refine AWp.cond (b := (decide ((n4 : Int) < (lZ x1)))) (by kernel_rfl) (fun hc2 => ?_) (fun hc2 => ?_)
      ·
        replace h := ite_tb hc2 h
        refine AWp.skip ?_
        refine thenQ_normal ?_
        obtain ⟨K2, hK2, h⟩ := jn_some h
        refine AWp.join (α := Int) (fun (i5 : Int) => ⟨50, [(0, q1aT31 x1), (5, .i i5), (6, .i (n4 : Int))], [], [], 0⟩) (fun x => K2 x = some r) ?_ ?_
        ·
          refine AWp.block ?_
          refine AWp.seq ?_
          obtain ⟨ob0p, h⟩ := chk_some h
          have ob0 : 0 ≤ (n4 : Int) ∧ (n4 : Int) < (((x1).length : Nat) : Int) := ⟨by omega, ob0p⟩
          refine q1rr [] [] ⟨50, [(0, q1aT31 x1), (5, .i i3), (6, .i (n4 : Int)), (7, .i (f20z0 x1 n4).2.2.1)], [], [], 0⟩ (an1 ob0) ?_
          refine thenQ_normal ?_
          refine AWp.seq ?_
          refine AWp.seq ?_
          have ob1 := idA ((f20z1 x1 n4) = true)
          have ob2 := idA ((f20z1 x1 n4) = true)
          have ob3 := idA (((f20z1 x1 n4) && ((decide (i3 ≥ (0 : Int))) == true)) = true)
          have ob4 := idA (((f20z1 x1 n4) && ((decide (i3 ≥ (0 : Int))) == true)) = true)
          obtain ⟨ob5, h⟩ := chk_some h
          have ob6 := idA ((f20z1 x1 n4) = true)
          have ob7 : true = true → ((f20z0 x1 n4).2.2.1 == (-1 : Int)) = false → (f20z1 x1 n4) = true := fun _ h => beq_iff_eq.2 h
          refine q1rr [] [] ⟨50, [(0, q1aT31 x1), (5, .i i3), (6, .i (n4 : Int)), (7, .i (f20z0 x1 n4).2.2.1), (36, .bool (((f20z0 x1 n4).2.2.1 == (-1 : Int)) || ((decide (i3 ≥ (0 : Int))) && (decide ((f20z0 x1 n4).2.2.1 ≥ i3)))))], [], [], 0⟩ (an5 (an1 ob1) (an1 ob2) (an2 ob3 ob4) (And.intro ob5 (an1 ob6)) ob7) ?_
          refine thenQ_normal ?_
          refine AWp.cond (b := (((f20z0 x1 n4).2.2.1 == (-1 : Int)) || ((decide (i3 ≥ (0 : Int))) && (decide ((f20z0 x1 n4).2.2.1 ≥ i3))))) (by kernel_rfl) (fun hc3 => ?_) (fun hc3 => ?_)
          ·
            replace h := ite_tb hc3 h
            refine AWp.exit ?_
            refine thenQ_exit ?_
            refine blockQ_same ?_
            exact joinQ_normal (i3) (Le.mk rfl rfl ⟨.refl _, .refl _, .refl _, trivial⟩ trivial) h
          ·
            replace h := ite_fb hc3 h
            refine AWp.skip ?_
            refine thenQ_normal ?_
            refine AWp.seq ?_
            obtain ⟨r6, hr6, h⟩ := bind_ok h
            obtain ⟨r7, hr7, h⟩ := bind_ok h
            refine q1rr [] [(2, ⟨[q1aT31 x1, .i (f20z0 x1 n4).2.2.1], [], [], (f20z3 r6), .own 6001, [6001], [], []⟩), (3, ⟨[.own 6001], [6001], [], [], .tup [q1aI r7.1, .i r7.2], [], [], []⟩)] ⟨50, [(0, q1aT31 x1), (5, .i i3), (6, .i (n4 : Int)), (7, .i (f20z0 x1 n4).2.2.1), (9, .i r7.2)], [], [], 0⟩ (an2 (cpT (Spec1.ren (swapN 3000 6001) (swapN_inv 3000 6001) rfl (f21_ok _ _ _ hr6))) (show (callP Tryz.prog true 13 [] [] (f20z3 r6) [] [] [.own 6001] [.own 6001] (.tup [q1aI r7.1, .i r7.2]) []) from ⟨fun _ => (Spec1.pre (f13_ok _ _ hr7) rfl rfl rfl (Le.trans (Le.freeze 6001 rfl rfl) (Le.mk (s' := ⟨1, [(0, q1aT31 r6)], [], [], 0⟩) rfl rfl ⟨.refl _, trivial⟩ trivial))), fun _ => ⟨.refl _, trivial⟩, .inl rfl⟩)) ?_
            refine thenQ_normal ?_
            refine q1rq [] [] ⟨50, [(0, q1aT31 x1), (5, .i i3), (6, .i (n4 : Int)), (7, .i (f20z0 x1 n4).2.2.1), (45, .bool (r7.2 != (0 : Int)))], [], [], 0⟩ trivial ?_
            refine AWp.cond (b := (r7.2 != (0 : Int))) (by kernel_rfl) (fun hc4 => ?_) (fun hc4 => ?_)
            ·
              replace h := ite_tb hc4 h
              refine q1rr [] [] ⟨50, [(0, q1aT31 x1), (5, .i (f20z0 x1 n4).2.2.1), (6, .i (n4 : Int))], [], [], 0⟩ trivial ?_
              refine blockQ_normal ?_
              have eq8 : (x1.getD n4 q1dT31).2.2.1 = ((x1.getD n4 q1dT31).2.2.1) := by first | omega | (simp only [List.length_append, List.length_cons, List.length_nil, List.length_take, List.length_drop] at *; omega) | (simp; done) | (simp_all; done) | (simp_all; omega) | rfl
              exact joinQ_normal ((f20z0 x1 n4).2.2.1) (Le.mk rfl rfl ⟨.refl _, (.int eq8), .refl _, trivial⟩ trivial) h
            ·
              replace h := ite_fb hc4 h
              refine AWp.skip ?_
              refine blockQ_normal ?_
              exact joinQ_normal (i3) (Le.mk rfl rfl ⟨.refl _, .refl _, .refl _, trivial⟩ trivial) h
        ·
          rintro i5 h
          replace h := (congrFun hK2 _).symm.trans h
          obtain ⟨ob9p, h⟩ := chk_some h
          have ob9 : -9223372036854775808 ≤ ((n4 : Int) + (1 : Int)) ∧ ((n4 : Int) + (1 : Int)) ≤ 9223372036854775807 := ⟨by omega, ob9p⟩
          refine q1rr [] [] ⟨50, [(0, q1aT31 x1), (5, .i i5), (6, .i (((n4 + 1) : Nat) : Int))], [], [], 0⟩ (an1 ob9) ?_
          rw [hC0] at h
          exact loopQ_normal (_, i5, (n4 + 1)) (Le.mk rfl rfl ⟨.refl _, .refl _, .refl _, trivial⟩ trivial) h (Nat.lt_succ_self _)
      ·
        replace h := ite_fb hc2 h
        refine AWp.exit ?_
        refine thenQ_exit ?_
        refine thenQ_exit ?_
        refine blockQ_same ?_
        exact joinQ_normal (i3) (Le.mk rfl rfl ⟨.refl _, trivial⟩ trivial) h
    ·
      rintro i9 h
      replace h := (congrFun hK1 _).symm.trans h
      refine AWp.seq ?_
      refine q1rq [] [] ⟨50, [(5, .i i9), (48, .bool (decide (i9 < (0 : Int))))], [], [], 0⟩ trivial ?_
      refine AWp.cond (b := (decide (i9 < (0 : Int)))) (by kernel_rfl) (fun hc5 => ?_) (fun hc5 => ?_)
      ·
        replace h := ite_tb hc5 h
        refine q1rq [] [] ⟨50, [(2, .i (0 : Int)), (3, .i (13 : Int))], [], [], 0⟩ trivial ?_
        have hret := Option.some.inj h
        subst hret
        refine AWp.le (Le.mk (s' := ⟨50, [(2, .i (0 : Int)), (3, .i (13 : Int))], [], [], 0⟩) rfl rfl ⟨.refl _, .refl _, trivial⟩ trivial) ?_
        refine AWp.ret ?_
        refine thenQ_ret ?_
        exact bodyQ_ret _ rfl ⟨rfl, rfl⟩ rfl
      ·
        replace h := ite_fb hc5 h
        refine AWp.skip ?_
        refine thenQ_normal ?_
        refine q1rq [] [] ⟨50, [(2, .i i9), (3, .i (0 : Int))], [], [], 0⟩ trivial ?_
        have hret := Option.some.inj h
        subst hret
        refine AWp.le (Le.mk (s' := ⟨50, [(2, .i i9), (3, .i (0 : Int))], [], [], 0⟩) rfl rfl ⟨.refl _, .refl _, trivial⟩ trivial) ?_
        refine AWp.ret ?_
        exact bodyQ_ret _ rfl ⟨rfl, rfl⟩ rfl
abbrev f4z0 (r7 : Int × Int) (r8 : Int × Int) := (((r7.1 != r8.1) || (r7.2 != r8.2)) == false)
abbrev f4z1 (r7 : Int × Int) := ((r7.2 == (13 : Int)) == false)
abbrev f4z2 (r9 : List (Int × Int × Int × List UInt8 × List UInt8)) : Heap := [(6002, bL 31 5 eT31 (default : Int × Int × Int × List UInt8 × List UInt8) r9)]
def f4 (x1 : List (Int × Int × Int × List UInt8 × List UInt8)) (x2 : Int) : Option Bool :=
  (f9 ).bind fun (r3 : Bool) =>
  optc ((!r3) == false) (f10 x1 (6 : Int)) fun (r4 : Bool) =>
  if ((!r3) || (!r4)) then (
  (f9 ).bind fun (r5 : Bool) =>
  some r5
  ) else (
  (f12 x1).bind fun (r6 : List (Int × Int × Int × List UInt8 × List UInt8)) =>
  (f19 r6).bind fun (r7 : Int × Int) =>
  (f20 x1).bind fun (r8 : Int × Int) =>
  chk ((((r7.1 != r8.1) || (r7.2 != r8.2)) == false) = true → (((r7.1 != r8.1) || (r7.2 != r8.2)) == false) = true → (r7.2 != (0 : Int)) = true → ((((r7.1 != r8.1) || (r7.2 != r8.2)) == false) && ((r7.2 != (0 : Int)) == true)) = true) <|
  if (((r7.1 != r8.1) || (r7.2 != r8.2)) || ((r7.2 != (0 : Int)) && (r7.2 != (13 : Int)))) then (
  some ((r7.1 == r8.1) && (r7.2 == r8.2))
  ) else (
  (f21 x1 x2).bind fun (r9 : List (Int × Int × Int × List UInt8 × List UInt8)) =>
  (f11 r9).bind fun (r10 : List Int × Int) =>
  chk (-9223372036854775808 ≤ x2 ∧ x2 ≤ 9223372036854775807) <|
  chk (((r7.2 == (13 : Int)) == false) = true → -9223372036854775808 ≤ x2 ∧ x2 ≤ 9223372036854775807) <|
  some ((r10.2 == (0 : Int)) == ((r7.2 == (13 : Int)) || (decide (x2 < r7.1))))
  )
  )
set_option maxRecDepth 100000 in
theorem f4_ok  (x1 : List (Int × Int × Int × List UInt8 × List UInt8)) (x2 : Int) (r : Bool) (h : f4 x1 x2 = some r)  : Spec1 Tryz.prog 4 [(3, .tab .u64 Lib.pow10Tab)] [] [] [vL 5 eT31 (default : Int × Int × Int × List UInt8 × List UInt8) x1, .int .u8 x2] (.bool r) [] := by
  unfold f4 at h
  refine Spec1.body 0 _ _ Tryz.func4 rfl Tryz.ntmps4 rfl rfl ?_
  refine q1rq [] [] ⟨73, [(0, q1aT31 x1), (1, .int .u8 x2), (1000003, .tab .u64 Lib.pow10Tab)], [], [], 0⟩ trivial ?_
  refine AWp.seq ?_
  refine AWp.seq ?_
  obtain ⟨r3, hr3, h⟩ := bind_ok h
  obtain ⟨r4, hr4, h⟩ := optc_some h
  have ob0 := idA (((!r3) == false) = true)
  have ob1 := idA (((!r3) == false) = true)
  have ob2 := bqA (!r3) false
  refine q1rr [] [(0, ⟨[], [], [], [], .bool r3, [], [], [3]⟩), (4, ⟨[q1aT31 x1, .i (6 : Int)], [], [], [], .bool r4, [], [], []⟩)] ⟨73, [(0, q1aT31 x1), (1, .int .u8 x2), (17, .bool ((!r3) || (!r4))), (1000003, .tab .u64 Lib.pow10Tab)], [], [], 0⟩ (an4 (cpT (f9_ok _ hr3)) (And.intro (cpC fun hc => (f10_ok _ _ _ (hr4 hc))) (an1 ob0)) (an1 ob1) ob2) ?_
  refine thenQ_normal ?_
  refine AWp.cond (b := ((!r3) || (!r4))) (by kernel_rfl) (fun hc1 => ?_) (fun hc1 => ?_)
  ·
    replace h := ite_tb hc1 h
    refine AWp.seq ?_
    obtain ⟨r5, hr5, h⟩ := bind_ok h
    refine q1rr [] [(0, ⟨[], [], [], [], .bool r5, [], [], [3]⟩)] ⟨73, [(4, .bool r5), (1000003, .tab .u64 Lib.pow10Tab)], [], [], 0⟩ (an1 (cpT (f9_ok _ hr5))) ?_
    refine thenQ_normal ?_
    have hret := Option.some.inj h
    subst hret
    refine AWp.le (Le.mk (s' := ⟨73, [(4, .bool r5)], [], [], 0⟩) rfl rfl ⟨.refl _, trivial⟩ trivial) ?_
    refine AWp.ret ?_
    refine thenQ_ret ?_
    exact bodyQ_ret _ rfl ⟨rfl, rfl⟩ rfl
  ·
    replace h := ite_fb hc1 h
    refine AWp.skip ?_
    refine thenQ_normal ?_
    refine AWp.seq ?_
    obtain ⟨r6, hr6, h⟩ := bind_ok h
    obtain ⟨r7, hr7, h⟩ := bind_ok h
    refine q1rr [] [(1, ⟨[q1aT31 x1], [], [], [(6001, q1bT31_31 r6)], .own 6001, [6001], [], []⟩), (2, ⟨[q1aT31 r6], [], [], [], .tup [.i r7.1, .i r7.2], [], [6001], [3]⟩)] ⟨73, [(0, q1aT31 x1), (1, .int .u8 x2), (5, .i r7.1), (6, .i r7.2), (1000003, .tab .u64 Lib.pow10Tab)], [], [], 0⟩ (an2 (cpT (Spec1.ren (swapN 3000 6001) (swapN_inv 3000 6001) rfl (f12_ok _ _ hr6))) (cpL (c := true) [(6001, q1bT31_31 r6)] [6001] [.own 6001] (fun _ => (f19_ok _ _ hr7)) (fun _ => ⟨.refl _, trivial⟩) (.inr ⟨rfl, trivial⟩))) ?_
    refine thenQ_normal ?_
    refine AWp.seq ?_
    obtain ⟨r8, hr8, h⟩ := bind_ok h
    refine q1rr [] [(1, ⟨[q1aT31 x1], [], [], [], .tup [.i r8.1, .i r8.2], [], [], []⟩)] ⟨73, [(0, q1aT31 x1), (1, .int .u8 x2), (5, .i r7.1), (6, .i r7.2), (7, .i r8.1), (8, .i r8.2), (1000003, .tab .u64 Lib.pow10Tab)], [], [], 0⟩ (an1 (cpT (f20_ok _ _ hr8))) ?_
    refine thenQ_normal ?_
    refine AWp.seq ?_
    refine AWp.seq ?_
    have ob3 := idA (((r7.1 != r8.1) == false) = true)
    have ob4 := idA (((r7.1 != r8.1) == false) = true)
    have ob5 := bqA (r7.1 != r8.1) false
    have ob6 := idA ((f4z0 r7 r8) = true)
    have ob7 := idA ((f4z0 r7 r8) = true)
    have ob8 := idA (((f4z0 r7 r8) && ((r7.2 != (0 : Int)) == true)) = true)
    obtain ⟨ob9, h⟩ := chk_some h
    have ob10 := idA ((f4z0 r7 r8) = true)
    have ob11 : true = true → ((r7.1 != r8.1) || (r7.2 != r8.2)) = false → (f4z0 r7 r8) = true := fun _ h => beq_iff_eq.2 h
    refine q1rr [] [] ⟨73, [(0, q1aT31 x1), (1, .int .u8 x2), (5, .i r7.1), (6, .i r7.2), (7, .i r8.1), (8, .i r8.2), (45, .bool (((r7.1 != r8.1) || (r7.2 != r8.2)) || ((r7.2 != (0 : Int)) && (r7.2 != (13 : Int))))), (1000003, .tab .u64 Lib.pow10Tab)], [], [], 0⟩ (ac6 (an2 ob3 ob4) ob5 (an1 ob6) (an1 ob7) (an1 ob8) (And.intro ob9 (an1 ob10)) (an1 ob11)) ?_
    refine thenQ_normal ?_
    refine AWp.cond (b := (((r7.1 != r8.1) || (r7.2 != r8.2)) || ((r7.2 != (0 : Int)) && (r7.2 != (13 : Int))))) (by kernel_rfl) (fun hc2 => ?_) (fun hc2 => ?_)
    ·
      replace h := ite_tb hc2 h
      refine AWp.seq ?_
      have ob12 := idA (((r7.1 == r8.1) == true) = true)
      have ob13 := idA (((r7.1 == r8.1) == true) = true)
      have ob14 := bqA (r7.1 == r8.1) true
      refine q1rr [] [] ⟨73, [(4, .bool ((r7.1 == r8.1) && (r7.2 == r8.2))), (1000003, .tab .u64 Lib.pow10Tab)], [], [], 0⟩ (an2 (an2 ob12 ob13) ob14) ?_
      refine thenQ_normal ?_
      have hret := Option.some.inj h
      subst hret
      refine AWp.le (Le.mk (s' := ⟨73, [(4, .bool ((r7.1 == r8.1) && (r7.2 == r8.2)))], [], [], 0⟩) rfl rfl ⟨.refl _, trivial⟩ trivial) ?_
      refine AWp.ret ?_
      refine thenQ_ret ?_
      exact bodyQ_ret _ rfl ⟨rfl, rfl⟩ rfl
    ·
      replace h := ite_fb hc2 h
      refine AWp.skip ?_
      refine thenQ_normal ?_
      refine AWp.seq ?_
      obtain ⟨r9, hr9, h⟩ := bind_ok h
      obtain ⟨r10, hr10, h⟩ := bind_ok h
      obtain ⟨ob15, h⟩ := chk_some h
      refine q1rr [] [(3, ⟨[q1aT31 x1, .i x2], [], [], (f4z2 r9), .own 6002, [6002], [], []⟩), (4, ⟨[.own 6002], [6002], [], [], .tup [q1aI r10.1, .i r10.2], [], [], [3]⟩)] ⟨73, [(1, .int .u8 x2), (5, .i r7.1), (6, .i r7.2), (10, .i r10.2), (1000003, .tab .u64 Lib.pow10Tab)], [], [], 0⟩ (an3 ob15 (cpT (Spec1.ren (swapN 3000 6002) (swapN_inv 3000 6002) rfl (f21_ok _ _ _ hr9))) (show (callP Tryz.prog true 11 [(3, .tab .u64 Lib.pow10Tab)] [] (f4z2 r9) [] [] [.own 6002] [.own 6002] (.tup [q1aI r10.1, .i r10.2]) []) from ⟨fun _ => (Spec1.pre (f11_ok _ _ hr10) rfl rfl rfl (Le.trans (Le.freeze 6002 rfl rfl) (Le.mk (s' := ⟨1, [(0, q1aT31 r9), (1000003, .tab .u64 Lib.pow10Tab)], [], [], 0⟩) rfl rfl ⟨.refl _, .refl _, trivial⟩ trivial))), fun _ => ⟨.refl _, trivial⟩, .inl rfl⟩)) ?_
      refine thenQ_normal ?_
      refine AWp.seq ?_
      obtain ⟨ob16, h⟩ := chk_some h
      have ob17 := idA ((f4z1 r7) = true)
      have ob18 := idA ((f4z1 r7) = true)
      have ob19 := idA ((f4z1 r7) = true)
      have ob20 : true = true → (r7.2 == (13 : Int)) = false → (f4z1 r7) = true := fun _ h => beq_iff_eq.2 h
      refine q1rr [] [] ⟨73, [(4, .bool ((r10.2 == (0 : Int)) == ((r7.2 == (13 : Int)) || (decide (x2 < r7.1))))), (1000003, .tab .u64 Lib.pow10Tab)], [], [], 0⟩ (an3 (And.intro ob16 (an1 ob17)) (an2 ob18 ob19) ob20) ?_
      refine thenQ_normal ?_
      have hret := Option.some.inj h
      subst hret
      refine AWp.le (Le.mk (s' := ⟨73, [(4, .bool ((r10.2 == (0 : Int)) == ((r7.2 == (13 : Int)) || (decide (x2 < r7.1)))))], [], [], 0⟩) rfl rfl ⟨.refl _, trivial⟩ trivial) ?_
      refine AWp.ret ?_
      exact bodyQ_ret _ rfl ⟨rfl, rfl⟩ rfl
end Go.Abs
namespace Go.Abs
theorem chk_pos {p : Prop} [Decidable p] {α : Type} {x : Option α} (h : p) : chk p x = x := if_pos h
theorem ifd_pos {p : Prop} [Decidable p] {α : Type} {x y : α} (h : p) : (if decide p = true then x else y) = x := if_pos (decide_eq_true h)
theorem ifd_neg {p : Prop} [Decidable p] {α : Type} {x y : α} (h : ¬ p) : (if decide p = true then x else y) = y := if_neg (by simpa using h)
theorem jn_eq {α β : Type} (K : α → Option β) (x : (α → Option β) → Option β) : jn K x = x K := rfl
theorem optc_t {α β : Type} [Inhabited α] {x : Option α} {k : α → Option β} : optc true x k = x.bind k := rfl
theorem optc_f {α β : Type} [Inhabited α] {x : Option α} {k : α → Option β} : optc false x k = k default := rfl
theorem some_bind {α β : Type} (a : α) (f : α → Option β) : (some a).bind f = f a := rfl
theorem abc_eq {α : Type} [DecidableEq α] {q : Prop} [Decidable q] {x y : Option α} (h : q → x = y) : abc q x y = y := by
  unfold abc both
  split
  · rename_i hq; rw [h hq]; simp
  · rfl
theorem fuel_lt {n : Nat} (h : n ≤ 18446744073709551615) : n < FUEL := by unfold FUEL; omega
theorem getD_drop {α : Type} (x : List α) (n : Nat) (d : α) (h : n < x.length) : x.drop n = x.getD n d :: x.drop (n + 1) := by
  rw [List.drop_eq_getElem_cons h]
  simp [List.getD_eq_getElem?_getD, h]
/-- .. without ways out. -/
theorem fold_up {α S R : Type} (L : Nat → Nat × S → Option R) (x : List α) (d : α) (Inv : Nat → S → Prop) (g : S → α → S) (K : S → Option R)
    (h : ∀ k n s, n < x.length → Inv n s → L (k + 1) (n, s) = L k (n + 1, g s (x.getD n d)))
    (hI : ∀ n s, n < x.length → Inv n s → Inv (n + 1) (g s (x.getD n d)))
    (he : ∀ k s, Inv x.length s → L (k + 1) (x.length, s) = K s) : ∀ c k n s, n + c = x.length → c < k → Inv n s → L k (n, s) = K ((x.drop n).foldl g s)
  | 0, k, n, s, hn, hk, hi => by
    obtain ⟨k, rfl⟩ : ∃ q, k = q + 1 := ⟨k - 1, by omega⟩
    obtain rfl : n = x.length := by omega
    rw [he k s hi, List.drop_eq_nil_of_le (Nat.le_refl _)]; rfl
  | c + 1, k, n, s, hn, hk, hi => by
    obtain ⟨k, rfl⟩ : ∃ q, k = q + 1 := ⟨k - 1, by omega⟩
    have hlt : n < x.length := by omega
    rw [h k n s hlt hi, getD_drop x n d hlt]
    exact fold_up L x d Inv g K h hI he c k (n + 1) _ (by omega) (by omega) (hI n s hlt hi)
theorem foldl_inv {α S : Type} (Inv : Nat → S → Prop) (g : S → α → S) (d : α) (x : List α) (hI : ∀ n s, n < x.length → Inv n s → Inv (n + 1) (g s (x.getD n d))) (s : S) (h0 : Inv 0 s) : Inv x.length (x.foldl g s) := by
  suffices H : ∀ c n s, n + c = x.length → Inv n s → Inv x.length ((x.drop n).foldl g s) by simpa using H x.length 0 s (by omega) h0
  intro c
  induction c with
  | zero =>
    intro n s hn hi
    obtain rfl : n = x.length := by omega
    rw [List.drop_eq_nil_of_le (Nat.le_refl _)]; exact hi
  | succ c ih =>
    intro n s hn hi
    have hlt : n < x.length := by omega
    rw [getD_drop x n d hlt]
    exact ih (n + 1) _ (by omega) (hI n s hlt hi)
/-- A search: the first element of which p holds. -/
theorem find_up {α R : Type} (L : Nat → Nat → Option R) (x : List α) (d : α) (p : α → Bool) (r : Nat → Option R) (K : Option R)
    (h : ∀ k n, n < x.length → L (k + 1) n = if p (x.getD n d) = true then r n else L k (n + 1))
    (he : ∀ k, L (k + 1) x.length = K) : ∀ c k n, n + c = x.length → c < k →
      (∃ m, n ≤ m ∧ m < x.length ∧ p (x.getD m d) = true ∧ L k n = r m ∧ (x.drop n).any p = true) ∨ (L k n = K ∧ (x.drop n).any p = false)
  | 0, k, n, hn, hk => by
    obtain ⟨k, rfl⟩ : ∃ q, k = q + 1 := ⟨k - 1, by omega⟩
    obtain rfl : n = x.length := by omega
    exact .inr ⟨he k, by rw [List.drop_eq_nil_of_le (Nat.le_refl _)]; rfl⟩
  | c + 1, k, n, hn, hk => by
    obtain ⟨k, rfl⟩ : ∃ q, k = q + 1 := ⟨k - 1, by omega⟩
    have hlt : n < x.length := by omega
    rw [h k n hlt, getD_drop x n d hlt]
    by_cases hp : p (x.getD n d) = true
    · rw [if_pos hp]; exact .inl ⟨n, Nat.le_refl _, hlt, hp, rfl, by rw [List.any_cons, hp]; rfl⟩
    · rw [if_neg hp]
      have hp' : p (x.getD n d) = false := by simpa using hp
      rw [List.any_cons, hp', Bool.false_or]
      rcases find_up L x d p r K h he c k (n + 1) (by omega) (by omega) with ⟨m, h1, h2⟩ | h2
      · exact .inl ⟨m, by omega, h2⟩
      · exact .inr h2
/-- .. of which only is asked whether there is one. -/
theorem any_up {α R : Type} (L : Nat → Nat → Option R) (x : List α) (d : α) (p : α → Bool) (r : Option R) (K : Option R)
    (h : ∀ k n, n < x.length → L (k + 1) n = if p (x.getD n d) = true then r else L k (n + 1))
    (he : ∀ k, L (k + 1) x.length = K) (k : Nat) (hk : x.length < k) : L k 0 = if x.any p = true then r else K := by
  rcases find_up L x d p (fun _ => r) K h he x.length k 0 (by omega) hk with ⟨m, _, _, _, h1, h2⟩ | ⟨h1, h2⟩
  · rw [h1, if_pos (by simpa using h2)]
  · rw [h1, if_neg (by simpa using h2)]
end Go.Abs
