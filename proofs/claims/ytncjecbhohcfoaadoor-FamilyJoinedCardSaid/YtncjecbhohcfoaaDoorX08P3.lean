/- X08, part 3. -/
import Derived.Test.YtncjecbhohcfoaaDoorX08P2
namespace Go.Abs
open Go Go.Proofs
set_option maxHeartbeats 4000000
set_option maxRecDepth 100000 in
theorem f5_ok  (x1 : List (BitVec 16)) (x2 : List (BitVec 16)) (r : Bool) (h : f5 x1 x2 = some r)  : Spec1 Tryd.prog 5 [(0, .elem 32 1 T0F 0 0), (2, .elem 20 1 T2F 0 0)] [] [] [vL 1 eW 0#16 x1, vL 1 eW 0#16 x2] (.bool r) [] := by
  unfold f5 at h
  refine Spec1.body 0 _ _ Tryd.func5 rfl Tryd.ntmps5 rfl rfl ?_
  refine AWp.seq ?_
  refine AWp.regC [] [] [0, 1, 1000000, 1000002] [] ⟨68, [(0, vL 1 eW 0#16 x1), (1, vL 1 eW 0#16 x2), (1000000, .elem 32 1 T0F 0 0), (1000002, .elem 20 1 T2F 0 0)], [], [], 0⟩ (True) Tryd_mixed (by kernel_rfl) trivial ?_
  refine thenQ_normal ?_
  refine AWp.seq ?_
  refine AWp.seq ?_
  obtain ⟨r3, hr3, h⟩ := bind_ok h
  have ob0 : ((!r3) == false) = true → ((!r3) == false) = true := fun h => h
  have ob1 : ((!r3) == false) = true → ((!r3) == false) = true := fun h => h
  have ob2 : true = true → (!r3) = false → ((!r3) == false) = true := fun _ h => beq_iff_eq.2 h
  have ob3 : (((!r3) || (decide ((((x1).length : Nat) : Int) > (20 : Int)))) == false) = true → (((!r3) || (decide ((((x1).length : Nat) : Int) > (20 : Int)))) == false) = true := fun h => h
  have ob4 : (((!r3) || (decide ((((x1).length : Nat) : Int) > (20 : Int)))) == false) = true → (((!r3) || (decide ((((x1).length : Nat) : Int) > (20 : Int)))) == false) = true := fun h => h
  have ob5 : true = true → ((!r3) || (decide ((((x1).length : Nat) : Int) > (20 : Int)))) = false → (((!r3) || (decide ((((x1).length : Nat) : Int) > (20 : Int)))) == false) = true := fun _ h => beq_iff_eq.2 h
  refine AWp.regC [] [(0, ⟨[], [], [], [], .bool r3, [], [], [0, 2]⟩)] [0, 1, 24, 1000000, 1000002] [] ⟨68, [(0, vL 1 eW 0#16 x1), (1, vL 1 eW 0#16 x2), (24, .bool (((!r3) || (decide ((((x1).length : Nat) : Int) > (20 : Int)))) || (decide ((((x2).length : Nat) : Int) > (20 : Int))))), (1000000, .elem 32 1 T0F 0 0), (1000002, .elem 20 1 T2F 0 0)], [], [], 0⟩ ((callP Tryd.prog true 10 [(0, .elem 32 1 T0F 0 0), (2, .elem 20 1 T2F 0 0)] [] [] [] [] [] [] (.bool r3) []) ∧ ((((!r3) == false) = true → ((!r3) == false) = true) ∧ True) ∧ ((((!r3) == false) = true → ((!r3) == false) = true) ∧ True) ∧ (true = true → (!r3) = false → ((!r3) == false) = true) ∧ (((((!r3) || (decide ((((x1).length : Nat) : Int) > (20 : Int)))) == false) = true → (((!r3) || (decide ((((x1).length : Nat) : Int) > (20 : Int)))) == false) = true) ∧ True) ∧ (((((!r3) || (decide ((((x1).length : Nat) : Int) > (20 : Int)))) == false) = true → (((!r3) || (decide ((((x1).length : Nat) : Int) > (20 : Int)))) == false) = true) ∧ True) ∧ (true = true → ((!r3) || (decide ((((x1).length : Nat) : Int) > (20 : Int)))) = false → (((!r3) || (decide ((((x1).length : Nat) : Int) > (20 : Int)))) == false) = true) ∧ True) Tryd_mixed (by kernel_rfl) ⟨⟨fun _ => (f10_ok  r3 hr3), fun _ => trivial, .inl rfl⟩, ⟨ob0, trivial⟩, ⟨ob1, trivial⟩, ob2, ⟨ob3, trivial⟩, ⟨ob4, trivial⟩, ob5, trivial⟩ ?_
  refine thenQ_normal ?_
  refine AWp.cond (b := (((!r3) || (decide ((((x1).length : Nat) : Int) > (20 : Int)))) || (decide ((((x2).length : Nat) : Int) > (20 : Int))))) (by kernel_rfl) (fun hc1 => ?_) (fun hc1 => ?_)
  ·
    replace h := ite_tb hc1 h
    refine AWp.seq ?_
    obtain ⟨r4, hr4, h⟩ := bind_ok h
    refine AWp.regC [] [(0, ⟨[], [], [], [], .bool r4, [], [], [0, 2]⟩)] [4, 1000000, 1000002] [] ⟨68, [(4, .bool r4), (1000000, .elem 32 1 T0F 0 0), (1000002, .elem 20 1 T2F 0 0)], [], [], 0⟩ ((callP Tryd.prog true 10 [(0, .elem 32 1 T0F 0 0), (2, .elem 20 1 T2F 0 0)] [] [] [] [] [] [] (.bool r4) []) ∧ True) Tryd_mixed (by kernel_rfl) ⟨⟨fun _ => (f10_ok  r4 hr4), fun _ => trivial, .inl rfl⟩, trivial⟩ ?_
    refine thenQ_normal ?_
    have hret := Option.some.inj h
    subst hret
    refine AWp.le (Le.mk (s := ⟨68, [(4, .bool r4), (1000000, .elem 32 1 T0F 0 0), (1000002, .elem 20 1 T2F 0 0)], [], [], 0⟩) (s' := ⟨68, [(4, .bool r4)], [], [], 0⟩) rfl rfl ⟨.refl _, trivial⟩ trivial) ?_
    refine AWp.ret ?_
    refine thenQ_ret ?_
    exact bodyQ_ret _ rfl ⟨rfl, rfl⟩ rfl
  ·
    replace h := ite_fb hc1 h
    refine AWp.skip ?_
    refine thenQ_normal ?_
    refine AWp.seq ?_
    obtain ⟨r5, hr5, h⟩ := bind_ok h
    refine AWp.regC [] [(2, ⟨[vL 1 eW 0#16 x1, vL 1 eW 0#16 x2], [], [], [], .tup [vL 1 eW 0#16 r5.1, .int .i64 r5.2], [], [], []⟩)] [0, 1, 5, 6, 1000000, 1000002] [] ⟨68, [(0, vL 1 eW 0#16 x1), (1, vL 1 eW 0#16 x2), (5, vL 1 eW 0#16 r5.1), (6, .int .i64 r5.2), (1000000, .elem 32 1 T0F 0 0), (1000002, .elem 20 1 T2F 0 0)], [], [], 0⟩ ((callP Tryd.prog true 19 [] [] [] [] [] [vL 1 eW 0#16 x1, vL 1 eW 0#16 x2] [vL 1 eW 0#16 x1, vL 1 eW 0#16 x2] (.tup [vL 1 eW 0#16 r5.1, .int .i64 r5.2]) []) ∧ True) Tryd_mixed (by kernel_rfl) ⟨⟨fun _ => (f19_ok x1 x2 r5 hr5), fun _ => ⟨.refl _, .refl _, trivial⟩, .inl rfl⟩, trivial⟩ ?_
    refine thenQ_normal ?_
    refine AWp.seq ?_
    obtain ⟨r6, hr6, h⟩ := bind_ok h
    refine AWp.regC [] [(2, ⟨[vL 1 eW 0#16 x1, vL 1 eW 0#16 x2], [], [], [], .tup [vL 1 eW 0#16 r6.1, .int .i64 r6.2], [], [], []⟩)] [0, 1, 5, 6, 7, 8, 1000000, 1000002] [] ⟨68, [(0, vL 1 eW 0#16 x1), (1, vL 1 eW 0#16 x2), (5, vL 1 eW 0#16 r5.1), (6, .int .i64 r5.2), (7, vL 1 eW 0#16 r6.1), (8, .int .i64 r6.2), (1000000, .elem 32 1 T0F 0 0), (1000002, .elem 20 1 T2F 0 0)], [], [], 0⟩ ((callP Tryd.prog true 20 [] [] [] [] [] [vL 1 eW 0#16 x1, vL 1 eW 0#16 x2] [vL 1 eW 0#16 x1, vL 1 eW 0#16 x2] (.tup [vL 1 eW 0#16 r6.1, .int .i64 r6.2]) []) ∧ True) Tryd_mixed (by kernel_rfl) ⟨⟨fun _ => (f20_ok x1 x2 r6 hr6), fun _ => ⟨.refl _, .refl _, trivial⟩, .inl rfl⟩, trivial⟩ ?_
    refine thenQ_normal ?_
    refine AWp.seq ?_
    obtain ⟨r7, hr7, h⟩ := bind_ok h
    refine AWp.regC [] [(2, ⟨[vL 1 eW 0#16 x1, vL 1 eW 0#16 x2], [], [], [], .tup [vL 1 eW 0#16 r7.1, .int .i64 r7.2], [], [], []⟩)] [0, 1, 5, 6, 7, 8, 9, 10, 1000000, 1000002] [] ⟨68, [(0, vL 1 eW 0#16 x1), (1, vL 1 eW 0#16 x2), (5, vL 1 eW 0#16 r5.1), (6, .int .i64 r5.2), (7, vL 1 eW 0#16 r6.1), (8, .int .i64 r6.2), (9, vL 1 eW 0#16 r7.1), (10, .int .i64 r7.2), (1000000, .elem 32 1 T0F 0 0), (1000002, .elem 20 1 T2F 0 0)], [], [], 0⟩ ((callP Tryd.prog true 21 [] [] [] [] [] [vL 1 eW 0#16 x1, vL 1 eW 0#16 x2] [vL 1 eW 0#16 x1, vL 1 eW 0#16 x2] (.tup [vL 1 eW 0#16 r7.1, .int .i64 r7.2]) []) ∧ True) Tryd_mixed (by kernel_rfl) ⟨⟨fun _ => (f21_ok x1 x2 r7 hr7), fun _ => ⟨.refl _, .refl _, trivial⟩, .inl rfl⟩, trivial⟩ ?_
    refine thenQ_normal ?_
    refine AWp.seq ?_
    obtain ⟨r8, hr8, h⟩ := bind_ok h
    refine AWp.regC [] [(2, ⟨[vL 1 eW 0#16 x1, vL 1 eW 0#16 x2], [], [], [], .tup [vL 1 eW 0#16 r8.1, .int .i64 r8.2], [], [], []⟩)] [5, 6, 7, 8, 9, 10, 11, 12, 1000000, 1000002] [] ⟨68, [(5, vL 1 eW 0#16 r5.1), (6, .int .i64 r5.2), (7, vL 1 eW 0#16 r6.1), (8, .int .i64 r6.2), (9, vL 1 eW 0#16 r7.1), (10, .int .i64 r7.2), (11, vL 1 eW 0#16 r8.1), (12, .int .i64 r8.2), (1000000, .elem 32 1 T0F 0 0), (1000002, .elem 20 1 T2F 0 0)], [], [], 0⟩ ((callP Tryd.prog true 22 [] [] [] [] [] [vL 1 eW 0#16 x1, vL 1 eW 0#16 x2] [vL 1 eW 0#16 x1, vL 1 eW 0#16 x2] (.tup [vL 1 eW 0#16 r8.1, .int .i64 r8.2]) []) ∧ True) Tryd_mixed (by kernel_rfl) ⟨⟨fun _ => (f22_ok x1 x2 r8 hr8), fun _ => ⟨.refl _, .refl _, trivial⟩, .inl rfl⟩, trivial⟩ ?_
    refine thenQ_normal ?_
    refine AWp.seq ?_
    obtain ⟨r9, hr9, h⟩ := optc_some h
    obtain ⟨r10, hr10, h⟩ := optc_some h
    have ob6 : ((r5.2 == r6.2) == true) = true → ((r5.2 == r6.2) == true) = true := fun h => h
    have ob7 : ((r5.2 == r6.2) == true) = true → ((r5.2 == r6.2) == true) = true := fun h => h
    have ob8 : true = true → (r5.2 == r6.2) = true → ((r5.2 == r6.2) == true) = true := fun _ h => beq_iff_eq.2 h
    have ob9 : (((r5.2 == r6.2) && (r7.2 == r8.2)) == true) = true → (((r5.2 == r6.2) && (r7.2 == r8.2)) == true) = true := fun h => h
    have ob10 : (((r5.2 == r6.2) && (r7.2 == r8.2)) == true) = true → (((r5.2 == r6.2) && (r7.2 == r8.2)) == true) = true := fun h => h
    have ob11 : true = true → ((r5.2 == r6.2) && (r7.2 == r8.2)) = true → (((r5.2 == r6.2) && (r7.2 == r8.2)) == true) = true := fun _ h => beq_iff_eq.2 h
    have ob12 : ((((r5.2 == r6.2) && (r7.2 == r8.2)) && r9) == true) = true → ((((r5.2 == r6.2) && (r7.2 == r8.2)) && r9) == true) = true := fun h => h
    have ob13 : ((((r5.2 == r6.2) && (r7.2 == r8.2)) && r9) == true) = true → ((((r5.2 == r6.2) && (r7.2 == r8.2)) && r9) == true) = true := fun h => h
    have ob14 : true = true → (((r5.2 == r6.2) && (r7.2 == r8.2)) && r9) = true → ((((r5.2 == r6.2) && (r7.2 == r8.2)) && r9) == true) = true := fun _ h => beq_iff_eq.2 h
    refine AWp.regC [] [(11, ⟨[vL 1 eW 0#16 r5.1, vL 1 eW 0#16 r6.1], [], [], [], .bool r9, [], [], []⟩), (16, ⟨[vL 1 eW 0#16 r7.1, vL 1 eW 0#16 r8.1], [], [], [], .bool r10, [], [], []⟩)] [4, 1000000, 1000002] [] ⟨68, [(4, .bool ((((r5.2 == r6.2) && (r7.2 == r8.2)) && r9) && r10)), (1000000, .elem 32 1 T0F 0 0), (1000002, .elem 20 1 T2F 0 0)], [], [], 0⟩ (((((r5.2 == r6.2) == true) = true → ((r5.2 == r6.2) == true) = true) ∧ (((r5.2 == r6.2) == true) = true → ((r5.2 == r6.2) == true) = true) ∧ True) ∧ (true = true → (r5.2 == r6.2) = true → ((r5.2 == r6.2) == true) = true) ∧ ((callP Tryd.prog (((r5.2 == r6.2) && (r7.2 == r8.2)) == true) 18 [] [] [] [] [] [vL 1 eW 0#16 r5.1, vL 1 eW 0#16 r6.1] [vL 1 eW 0#16 r5.1, vL 1 eW 0#16 r6.1] (.bool r9) []) ∧ ((((r5.2 == r6.2) && (r7.2 == r8.2)) == true) = true → (((r5.2 == r6.2) && (r7.2 == r8.2)) == true) = true) ∧ ((((r5.2 == r6.2) && (r7.2 == r8.2)) == true) = true → (((r5.2 == r6.2) && (r7.2 == r8.2)) == true) = true) ∧ True) ∧ (true = true → ((r5.2 == r6.2) && (r7.2 == r8.2)) = true → (((r5.2 == r6.2) && (r7.2 == r8.2)) == true) = true) ∧ ((callP Tryd.prog ((((r5.2 == r6.2) && (r7.2 == r8.2)) && r9) == true) 18 [] [] [] [] [] [vL 1 eW 0#16 r7.1, vL 1 eW 0#16 r8.1] [vL 1 eW 0#16 r7.1, vL 1 eW 0#16 r8.1] (.bool r10) []) ∧ (((((r5.2 == r6.2) && (r7.2 == r8.2)) && r9) == true) = true → ((((r5.2 == r6.2) && (r7.2 == r8.2)) && r9) == true) = true) ∧ (((((r5.2 == r6.2) && (r7.2 == r8.2)) && r9) == true) = true → ((((r5.2 == r6.2) && (r7.2 == r8.2)) && r9) == true) = true) ∧ True) ∧ (true = true → (((r5.2 == r6.2) && (r7.2 == r8.2)) && r9) = true → ((((r5.2 == r6.2) && (r7.2 == r8.2)) && r9) == true) = true) ∧ True) Tryd_mixed (by kernel_rfl) ⟨⟨ob6, ob7, trivial⟩, ob8, ⟨⟨fun hc => (f18_ok r5.1 r6.1 r9 (hr9 hc)), fun _ => ⟨.refl _, .refl _, trivial⟩, .inl rfl⟩, ob9, ob10, trivial⟩, ob11, ⟨⟨fun hc => (f18_ok r7.1 r8.1 r10 (hr10 hc)), fun _ => ⟨.refl _, .refl _, trivial⟩, .inl rfl⟩, ob12, ob13, trivial⟩, ob14, trivial⟩ ?_
    refine thenQ_normal ?_
    have hret := Option.some.inj h
    subst hret
    refine AWp.le (Le.mk (s := ⟨68, [(4, .bool ((((r5.2 == r6.2) && (r7.2 == r8.2)) && r9) && r10)), (1000000, .elem 32 1 T0F 0 0), (1000002, .elem 20 1 T2F 0 0)], [], [], 0⟩) (s' := ⟨68, [(4, .bool ((((r5.2 == r6.2) && (r7.2 == r8.2)) && r9) && r10))], [], [], 0⟩) rfl rfl ⟨.refl _, trivial⟩ trivial) ?_
    refine AWp.ret ?_
    exact bodyQ_ret _ rfl ⟨rfl, rfl⟩ rfl
def f24_L0 (x1 : List (BitVec 16)) (x2 : BitVec 16) (K1 : (List (BitVec 16)) → Option (List (BitVec 16) × Int)) : Nat → (Nat × List (BitVec 16)) → Option (List (BitVec 16) × Int)
  | 0, _ => none
  | k + 1, (n4, l5) =>
    if (decide (((n4 : Nat) : Int) < (((x1).length : Nat) : Int))) then (
    chk (((n4 : Nat) : Int) < (((x1).length : Nat) : Int)) <|
    chk (((l5).length + 1) * 2 ≤ 140737488355328) <|
    chk ((((n4 : Nat) : Int) + (1 : Int)) ≤ 9223372036854775807) <|
    (f24_L0 x1 x2 K1 k) ((n4 + 1), (l5 ++ [((x1.getD n4 0#16) &&& ~~~x2)]))
    ) else (
    K1 l5
    )
def f24 (x1 : List (BitVec 16)) (x2 : BitVec 16) : Option (List (BitVec 16) × Int) :=
  (f13 x1).bind fun (r3 : Int) =>
  if (r3 != (0 : Int)) then (
  some ([], r3)
  ) else (
  jn (fun (l6 : List (BitVec 16)) =>
  (f15 l6).bind fun (r7 : List (BitVec 16) × Int) =>
  some (r7.1, r7.2)
  ) fun (K1 : (List (BitVec 16)) → Option (List (BitVec 16) × Int)) =>
  f24_L0 x1 x2 K1 FUEL (0, [])
  )
def f26_L0 (x1 : List (BitVec 16)) (x2 : BitVec 16) (K1 : (List (BitVec 16)) → Option (Int × List (BitVec 16))) : Nat → (Nat × List (BitVec 16)) → Option (Int × List (BitVec 16))
  | 0, _ => none
  | k + 1, (n4, l5) =>
    if (decide (((n4 : Nat) : Int) < (((x1).length : Nat) : Int))) then (
    jn (fun (l6 : List (BitVec 16)) =>
    chk ((((n4 : Nat) : Int) + (1 : Int)) ≤ 9223372036854775807) <|
    (f26_L0 x1 x2 K1 k) ((n4 + 1), l6)
    ) fun (K2 : (List (BitVec 16)) → Option (Int × List (BitVec 16))) =>
    chk (((n4 : Nat) : Int) < (((x1).length : Nat) : Int)) <|
    if (((x1.getD n4 0#16) &&& x2) == (BitVec.ofInt 16 0)) then (
    chk (((n4 : Nat) : Int) < (((x1).length : Nat) : Int)) <|
    chk (((l5).length + 1) * 2 ≤ 140737488355328) <|
    K2 (l5 ++ [(x1.getD n4 0#16)])
    ) else (
    K2 l5
    )
    ) else (
    K1 l5
    )
def f26 (x1 : List (BitVec 16)) (x2 : BitVec 16) : Option (Int × List (BitVec 16)) :=
  (f13 x1).bind fun (r3 : Int) =>
  if (r3 != (0 : Int)) then (
  some (r3, [])
  ) else (
  jn (fun (l7 : List (BitVec 16)) =>
  some ((0 : Int), l7)
  ) fun (K1 : (List (BitVec 16)) → Option (Int × List (BitVec 16))) =>
  f26_L0 x1 x2 K1 FUEL (0, [])
  )
def f6 (x1 : List (BitVec 16)) (x2 : BitVec 16) (x3 : BitVec 16) : Option Bool :=
  (f10 ).bind fun (r4 : Bool) =>
  if ((!r4) || (decide ((((x1).length : Nat) : Int) > (40 : Int)))) then (
  (f10 ).bind fun (r5 : Bool) =>
  some r5
  ) else (
  (f23 x1 x2).bind fun (r6 : List (BitVec 16) × Int) =>
  (f24 x1 x2).bind fun (r7 : List (BitVec 16) × Int) =>
  (f25 x1 x2).bind fun (r8 : Int × List (BitVec 16)) =>
  (f26 x1 x2).bind fun (r9 : Int × List (BitVec 16)) =>
  optc (((r6.2 != r7.2) || (r8.1 != r9.1)) == false) (f18 r6.1 r7.1) fun (r10 : Bool) =>
  optc ((((r6.2 != r7.2) || (r8.1 != r9.1)) || (!r10)) == false) (f18 r8.2 r9.2) fun (r11 : Bool) =>
  if (((((r6.2 != r7.2) || (r8.1 != r9.1)) || (!r10)) || (!r11)) || (r6.2 != (0 : Int))) then (
  optc (((r6.2 == r7.2) && (r8.1 == r9.1)) == true) (f18 r6.1 r7.1) fun (r12 : Bool) =>
  optc ((((r6.2 == r7.2) && (r8.1 == r9.1)) && r12) == true) (f18 r8.2 r9.2) fun (r13 : Bool) =>
  some ((((r6.2 == r7.2) && (r8.1 == r9.1)) && r12) && r13)
  ) else (
  (f27 r6.1 x3).bind fun (r14 : Bool) =>
  (f27 x1 (x2 ||| x3)).bind fun (r15 : Bool) =>
  optc ((r14 == r15) == true) (f27 r8.2 x3) fun (r16 : Bool) =>
  optc ((r14 == r15) == true) (f27 x1 (x3 &&& ~~~x2)) fun (r17 : Bool) =>
  some ((r14 == r15) && (r16 == r17))
  )
  )
def f29_L0 (x1 : List (BitVec 16)) (x2 : BitVec 16) (K1 : Unit → Option Bool) : Nat → Nat → Option Bool
  | 0, _ => none
  | k + 1, n3 =>
    if (decide (((n3 : Nat) : Int) < (((x1).length : Nat) : Int))) then (
    (f41 x2 (x1.getD n3 0#16)).bind fun (r4 : Bool) =>
    chk (((n3 : Nat) : Int) < (((x1).length : Nat) : Int)) <|
    if r4 then (
    some true
    ) else (
    chk ((((n3 : Nat) : Int) + (1 : Int)) ≤ 9223372036854775807) <|
    (f29_L0 x1 x2 K1 k) (n3 + 1)
    )
    ) else (
    K1 ()
    )
def f29 (x1 : List (BitVec 16)) (x2 : BitVec 16) : Option Bool :=
  jn (fun (_ : Unit) =>
  some false
  ) fun (K1 : Unit → Option Bool) =>
  f29_L0 x1 x2 K1 FUEL 0
def f56 (x1 : BitVec 16) (x2 : List (BitVec 16)) : Option (Bool × List (BitVec 16)) :=
  (f27 x2 x1).bind fun (r3 : Bool) =>
  some ((!r3), x2)
def f73c_L0 (x1 : List (BitVec 16)) (K1 : (List (BitVec 16)) → Option (Int × List (BitVec 16))) : Nat → (Nat × List (BitVec 16)) → Option (Int × List (BitVec 16))
  | 0, _ => none
  | k + 1, (n3, l4) =>
    if (decide (((n3 : Nat) : Int) < (((x1).length : Nat) : Int))) then (
    (f56 (x1.getD n3 0#16) l4).bind fun (r5 : Bool × List (BitVec 16)) =>
    chk (((n3 : Nat) : Int) < (((x1).length : Nat) : Int)) <|
    if r5.1 then (
    some (((n3 : Nat) : Int), r5.2)
    ) else (
    chk ((((n3 : Nat) : Int) + (1 : Int)) ≤ 9223372036854775807) <|
    (f73c_L0 x1 K1 k) ((n3 + 1), r5.2)
    )
    ) else (
    K1 l4
    )
def f73c (x1 : List (BitVec 16)) (x2 : List (BitVec 16)) : Option (Int × List (BitVec 16)) :=
  jn (fun (l6 : List (BitVec 16)) =>
  some ((-1 : Int), l6)
  ) fun (K1 : (List (BitVec 16)) → Option (Int × List (BitVec 16))) =>
  f73c_L0 x1 K1 FUEL (0, x2)
def f53c (x1 : List (BitVec 16)) (x2 : List (BitVec 16)) : Option (Bool × List (BitVec 16)) :=
  (f73c x1 x2).bind fun (r3 : Int × List (BitVec 16)) =>
  some ((decide (r3.1 ≥ (0 : Int))), r3.2)
def f30 (x1 : List (BitVec 16)) (x2 : List (BitVec 16)) : Option Bool :=
  (f53c x1 x2).bind fun (r3 : Bool × List (BitVec 16)) =>
  some (!r3.1)
def f31_L0 (x1 : List (BitVec 16)) (x2 : List (BitVec 16)) (K1 : Unit → Option Bool) : Nat → Nat → Option Bool
  | 0, _ => none
  | k + 1, n3 =>
    if (decide (((n3 : Nat) : Int) < (((x1).length : Nat) : Int))) then (
    (f29 x2 (x1.getD n3 0#16)).bind fun (r4 : Bool) =>
    chk (((n3 : Nat) : Int) < (((x1).length : Nat) : Int)) <|
    if (!r4) then (
    some false
    ) else (
    chk ((((n3 : Nat) : Int) + (1 : Int)) ≤ 9223372036854775807) <|
    (f31_L0 x1 x2 K1 k) (n3 + 1)
    )
    ) else (
    K1 ()
    )
def f31 (x1 : List (BitVec 16)) (x2 : List (BitVec 16)) : Option Bool :=
  jn (fun (_ : Unit) =>
  some true
  ) fun (K1 : Unit → Option Bool) =>
  f31_L0 x1 x2 K1 FUEL 0
def f32_L0 (x1 : List (BitVec 16)) (K1 : (BitVec 16) → Option (BitVec 16)) : Nat → (BitVec 16 × Nat) → Option (BitVec 16)
  | 0, _ => none
  | k + 1, (w2, n3) =>
    if (decide (((n3 : Nat) : Int) < (((x1).length : Nat) : Int))) then (
    chk (((n3 : Nat) : Int) < (((x1).length : Nat) : Int)) <|
    chk ((((n3 : Nat) : Int) + (1 : Int)) ≤ 9223372036854775807) <|
    (f32_L0 x1 K1 k) ((w2 ||| (x1.getD n3 0#16)), (n3 + 1))
    ) else (
    K1 w2
    )
def f32 (x1 : List (BitVec 16)) : Option (BitVec 16) :=
  jn (fun (w4 : BitVec 16) =>
  some w4
  ) fun (K1 : (BitVec 16) → Option (BitVec 16)) =>
  f32_L0 x1 K1 FUEL ((BitVec.ofInt 16 0), 0)
def f33_L0 (x1 : List (BitVec 16)) (K1 : (BitVec 16) → Option (BitVec 16)) : Nat → (BitVec 16 × Nat) → Option (BitVec 16)
  | 0, _ => none
  | k + 1, (w2, n3) =>
    if (decide (((n3 : Nat) : Int) < (((x1).length : Nat) : Int))) then (
    chk (((n3 : Nat) : Int) < (((x1).length : Nat) : Int)) <|
    chk ((((n3 : Nat) : Int) + (1 : Int)) ≤ 9223372036854775807) <|
    (f33_L0 x1 K1 k) ((w2 ||| (x1.getD n3 0#16)), (n3 + 1))
    ) else (
    K1 w2
    )
def f33 (x1 : List (BitVec 16)) : Option (BitVec 16) :=
  jn (fun (w4 : BitVec 16) =>
  some w4
  ) fun (K1 : (BitVec 16) → Option (BitVec 16)) =>
  f33_L0 x1 K1 FUEL ((BitVec.ofInt 16 0), 0)
end Go.Abs
