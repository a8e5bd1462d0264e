/- X19, part 3. -/
import Derived.Test.YtmcmhjdmilgoeaaGreatDoorX19P2
namespace Go.Abs
open Go Go.Proofs
set_option maxHeartbeats 4000000
def f19_L0 (x1 : List (BitVec 16 × BitVec 16)) (x2 : BitVec 16) (x3 : BitVec 16) (K1 : Unit → Option Bool) : Nat → Nat → Option Bool
  | 0, _ => none
  | k + 1, n4 =>
    if (decide (((n4 : Nat) : Int) < (((x1).length : Nat) : Int))) then (
    (f17 ((x1.getD n4 (default : BitVec 16 × BitVec 16)).1) ((x1.getD n4 (default : BitVec 16 × BitVec 16)).2) x2 x3).bind fun (r5 : Bool) =>
    chk (((n4 : Nat) : Int) < (((x1).length : Nat) : Int)) <|
    if r5 then (
    some true
    ) else (
    chk ((((n4 : Nat) : Int) + (1 : Int)) ≤ 9223372036854775807) <|
    (f19_L0 x1 x2 x3 K1 k) (n4 + 1)
    )
    ) else (
    K1 ()
    )
def f19 (x1 : List (BitVec 16 × BitVec 16)) (x2 : BitVec 16) (x3 : BitVec 16) : Option Bool :=
  jn (fun (_ : Unit) =>
  some false
  ) fun (K1 : Unit → Option Bool) =>
  f19_L0 x1 x2 x3 K1 FUEL 0
set_option maxRecDepth 100000 in
theorem f19_ok  (x1 : List (BitVec 16 × BitVec 16)) (x2 : BitVec 16) (x3 : BitVec 16) (r : Bool) (h : f19 x1 x2 x3 = some r)  : Spec1 Tryz.prog 19 [] [] [] [vL 2 eWW (default : BitVec 16 × BitVec 16) x1, .agg [.b16 x2, .b16 x3]] (.bool r) [] := by
  unfold f19 at h
  refine Spec1.body 0 _ _ Tryz.func19 rfl Tryz.ntmps19 rfl rfl ?_
  refine AWp.seq ?_
  refine AWp.regC [] [] [0, 3] [3] ⟨18, [(0, vL 2 eWW (default : BitVec 16 × BitVec 16) x1), (3, .ptr 3 0)], [(3, .cells 30 [.b16 x2, .b16 x3])], [], 0⟩ (True) Tryz_mixed (by kernel_rfl) trivial ?_
  refine thenQ_normal ?_
  obtain ⟨K1, hK1, h⟩ := jn_some h
  refine AWp.join (α := Unit) (fun (x : Unit) => match x with | () => ⟨18, [], [], [], 0⟩) (fun x => K1 x = some r) ?_ ?_
  ·
    refine AWp.seq ?_
    refine AWp.regC [] [] [0, 3, 5] [3] ⟨18, [(0, vL 2 eWW (default : BitVec 16 × BitVec 16) x1), (3, .ptr 3 0), (5, .int .i64 (0 : Int))], [(3, .cells 30 [.b16 x2, .b16 x3])], [], 0⟩ (True) Tryz_mixed (by kernel_rfl) trivial ?_
    refine thenQ_normal ?_
    refine AWp.block ?_
    refine AWp.loopL (α := Nat × Nat) (fun x => match x with | (_, n4) => ⟨18, [(0, vL 2 eWW (default : BitVec 16 × BitVec 16) x1), (3, .ptr 3 0), (5, .int .i64 ((n4 : Nat) : Int))], [(3, .cells 30 [.b16 x2, .b16 x3])], [], 0⟩) (fun x => f19_L0 x1 x2 x3 K1 x.1 x.2 = some r) (fun x => x.1) (FUEL, 0) (Le.mk (s := ⟨18, [(0, vL 2 eWW (default : BitVec 16 × BitVec 16) x1), (3, .ptr 3 0), (5, .int .i64 (0 : Int))], [(3, .cells 30 [.b16 x2, .b16 x3])], [], 0⟩) (s' := ⟨18, [(0, vL 2 eWW (default : BitVec 16 × BitVec 16) x1), (3, .ptr 3 0), (5, .int .i64 (0 : Int))], [(3, .cells 30 [.b16 x2, .b16 x3])], [], 0⟩) rfl rfl ⟨.refl _, .refl _, .refl _, trivial⟩ ⟨⟨_, rfl, .refl _⟩, trivial⟩) h ?_
    rintro ⟨k0, n4⟩ h
    cases k0 with
    | zero => exact nomatch (show (none : Option Bool) = some r from h)
    | succ k0 =>
    obtain ⟨C0, hC0⟩ : ∃ C, C = f19_L0 x1 x2 x3 K1 k0 := ⟨_, rfl⟩
    replace h := (f19_L0.eq_2 ..).symm.trans h
    try rw [← hC0] at h
    refine AWp.seq ?_
    refine AWp.seq ?_
    refine AWp.regC [] [] [0, 3, 5, 9] [3] ⟨18, [(0, vL 2 eWW (default : BitVec 16 × BitVec 16) x1), (3, .ptr 3 0), (5, .int .i64 ((n4 : Nat) : Int)), (9, .bool (decide (((n4 : Nat) : Int) < (((x1).length : Nat) : Int))))], [(3, .cells 30 [.b16 x2, .b16 x3])], [], 0⟩ (True) Tryz_mixed (by kernel_rfl) trivial ?_
    refine thenQ_normal ?_
    refine AWp.cond (b := (decide (((n4 : Nat) : Int) < (((x1).length : Nat) : Int)))) (by kernel_rfl) (fun hc1 => ?_) (fun hc1 => ?_)
    ·
      replace h := ite_tb hc1 h
      refine AWp.skip ?_
      refine thenQ_normal ?_
      refine AWp.seq ?_
      refine AWp.block ?_
      refine AWp.seq ?_
      obtain ⟨r5, hr5, h⟩ := bind_ok h
      obtain ⟨ob0p, h⟩ := chk_some h
      have ob0 : 0 ≤ ((n4 : Nat) : Int) ∧ ((n4 : Nat) : Int) < (((x1).length : Nat) : Int) := ⟨by omega, ob0p⟩
      refine AWp.regC [] [(5, ⟨[.agg [.b16 (x1.getD n4 (default : BitVec 16 × BitVec 16)).1, .b16 (x1.getD n4 (default : BitVec 16 × BitVec 16)).2], .agg [.b16 x2, .b16 x3]], [], [], [], .bool r5, [], [], []⟩)] [0, 3, 5, 17] [3] ⟨18, [(0, vL 2 eWW (default : BitVec 16 × BitVec 16) x1), (3, .ptr 3 0), (5, .int .i64 ((n4 : Nat) : Int)), (17, .bool r5)], [(3, .cells 30 [.b16 x2, .b16 x3])], [], 0⟩ ((0 ≤ ((n4 : Nat) : Int) ∧ ((n4 : Nat) : Int) < (((x1).length : Nat) : Int)) ∧ (callP Tryz.prog true 17 [] [] [] [] [] [.agg [.b16 (x1.getD n4 (default : BitVec 16 × BitVec 16)).1, .b16 (x1.getD n4 (default : BitVec 16 × BitVec 16)).2], .agg [.b16 x2, .b16 x3]] [.agg [.b16 (x1.getD n4 (default : BitVec 16 × BitVec 16)).1, .b16 (x1.getD n4 (default : BitVec 16 × BitVec 16)).2], .agg [.b16 x2, .b16 x3]] (.bool r5) []) ∧ True) Tryz_mixed (by kernel_rfl) ⟨ob0, ⟨fun _ => (f17_ok ((x1.getD n4 (default : BitVec 16 × BitVec 16)).1) ((x1.getD n4 (default : BitVec 16 × BitVec 16)).2) x2 x3 r5 hr5), fun _ => ⟨.refl _, .refl _, trivial⟩, .inl rfl⟩, trivial⟩ ?_
      refine thenQ_normal ?_
      refine AWp.cond (b := r5) (by kernel_rfl) (fun hc2 => ?_) (fun hc2 => ?_)
      ·
        replace h := ite_tb hc2 h
        refine AWp.seq ?_
        refine AWp.regC [] [] [4] [] ⟨18, [(4, .bool true)], [], [], 0⟩ (True) Tryz_mixed (by kernel_rfl) trivial ?_
        refine thenQ_normal ?_
        have hret := Option.some.inj h
        subst hret
        refine AWp.le (Le.mk (s := ⟨18, [(4, .bool true)], [], [], 0⟩) (s' := ⟨18, [(4, .bool true)], [], [], 0⟩) rfl rfl ⟨.refl _, trivial⟩ trivial) ?_
        refine AWp.ret ?_
        refine blockQ_ret ?_
        refine thenQ_ret ?_
        refine thenQ_ret ?_
        refine blockQ_ret ?_
        refine joinQ_ret ?_
        exact bodyQ_ret _ rfl ⟨rfl, rfl⟩ rfl
      ·
        replace h := ite_fb hc2 h
        refine AWp.skip ?_
        refine blockQ_normal ?_
        refine thenQ_normal ?_
        obtain ⟨ob1p, h⟩ := chk_some h
        have ob1 : -9223372036854775808 ≤ (((n4 : Nat) : Int) + (1 : Int)) ∧ (((n4 : Nat) : Int) + (1 : Int)) ≤ 9223372036854775807 := ⟨by omega, ob1p⟩
        refine AWp.regC [] [] [0, 3, 5] [3] ⟨18, [(0, vL 2 eWW (default : BitVec 16 × BitVec 16) x1), (3, .ptr 3 0), (5, .int .i64 (((n4 + 1) : Nat) : Int))], [(3, .cells 30 [.b16 x2, .b16 x3])], [], 0⟩ ((-9223372036854775808 ≤ (((n4 : Nat) : Int) + (1 : Int)) ∧ (((n4 : Nat) : Int) + (1 : Int)) ≤ 9223372036854775807) ∧ True) Tryz_mixed (by kernel_rfl) ⟨ob1, trivial⟩ ?_
        rw [hC0] at h
        exact loopQ_normal (_, (n4 + 1)) (Le.mk (s := ⟨18, [(0, vL 2 eWW (default : BitVec 16 × BitVec 16) x1), (3, .ptr 3 0), (5, .int .i64 (((n4 + 1) : Nat) : Int))], [(3, .cells 30 [.b16 x2, .b16 x3])], [], 0⟩) (s' := ⟨18, [(0, vL 2 eWW (default : BitVec 16 × BitVec 16) x1), (3, .ptr 3 0), (5, .int .i64 (((n4 + 1) : Nat) : Int))], [(3, .cells 30 [.b16 x2, .b16 x3])], [], 0⟩) rfl rfl ⟨.refl _, .refl _, .refl _, trivial⟩ ⟨⟨_, rfl, .refl _⟩, trivial⟩) h (Nat.lt_succ_self _)
    ·
      replace h := ite_fb hc1 h
      refine AWp.exit ?_
      refine thenQ_exit ?_
      refine thenQ_exit ?_
      refine blockQ_same ?_
      exact joinQ_normal () (Le.mk (s := ⟨18, [(0, vL 2 eWW (default : BitVec 16 × BitVec 16) x1), (3, .ptr 3 0), (5, .int .i64 ((n4 : Nat) : Int)), (9, .bool (decide (((n4 : Nat) : Int) < (((x1).length : Nat) : Int))))], [(3, .cells 30 [.b16 x2, .b16 x3])], [], 0⟩) (s' := ⟨18, [], [], [], 0⟩) rfl rfl trivial trivial) h
  ·
    rintro ⟨⟩ h
    replace h := (congrFun hK1 _).symm.trans h
    refine AWp.seq ?_
    refine AWp.regC [] [] [4] [] ⟨18, [(4, .bool false)], [], [], 0⟩ (True) Tryz_mixed (by kernel_rfl) trivial ?_
    refine thenQ_normal ?_
    have hret := Option.some.inj h
    subst hret
    refine AWp.le (Le.mk (s := ⟨18, [(4, .bool false)], [], [], 0⟩) (s' := ⟨18, [(4, .bool false)], [], [], 0⟩) rfl rfl ⟨.refl _, trivial⟩ trivial) ?_
    refine AWp.ret ?_
    exact bodyQ_ret _ rfl ⟨rfl, rfl⟩ rfl
def f4 (x1 : BitVec 16) (x2 : BitVec 16) (x3 : BitVec 16) (x4 : BitVec 16) (x5 : BitVec 16) (x6 : BitVec 16) : Option Bool :=
  (f12 ).bind fun (r7 : Bool) =>
  if (!r7) then (
  some false
  ) else (
  (f16 x1 x2 x3 x4).bind fun (r8 : Bool) =>
  (f16 x3 x4 x1 x2).bind fun (r9 : Bool) =>
  (f16 x3 x4 x5 x6).bind fun (r10 : Bool) =>
  (f16 x1 x2 x5 x6).bind fun (r11 : Bool) =>
  (f17 x1 x2 x3 x4).bind fun (r12 : Bool) =>
  optc ((!(r8 == r12)) == false) (f17 x3 x4 x1 x2) fun (r13 : Bool) =>
  optc (((!(r8 == r12)) || (!(r9 == r13))) == false) (f16 x1 x2 x1 x2) fun (r14 : Bool) =>
  chk (((((!(r8 == r12)) || (!(r9 == r13))) || (!r14)) == false) = true → ((((!(r8 == r12)) || (!(r9 == r13))) || (!r14)) == false) = true → r8 = true → (((((!(r8 == r12)) || (!(r9 == r13))) || (!r14)) == false) && (r8 == true)) = true) <|
  chk (((((!(r8 == r12)) || (!(r9 == r13))) || (!r14)) == false) = true → ((((!(r8 == r12)) || (!(r9 == r13))) || (!r14)) == false) = true → (r8 && r10) = true → (((((!(r8 == r12)) || (!(r9 == r13))) || (!r14)) == false) && ((r8 && r10) == true)) = true) <|
  if ((((!(r8 == r12)) || (!(r9 == r13))) || (!r14)) || ((r8 && r10) && (!r11))) then (
  some false
  ) else (
  (f18 [(x1, x2), (x3, x4)] x5 x6).bind fun (r15 : Bool) =>
  (f19 [(x1, x2), (x3, x4)] x5 x6).bind fun (r16 : Bool) =>
  optc ((!(r15 == r16)) == false) (f18 [] x5 x6) fun (r17 : Bool) =>
  if ((!(r15 == r16)) || r17) then (
  some false
  ) else (
  some (((((!((x1 &&& x2) == (BitVec.ofInt 16 0))) || (!((x3 &&& x4) == (BitVec.ofInt 16 0)))) || (!r8)) || (!r9)) || ((x1 == x3) && ((x2 == x4) && true)))
  )
  )
  )
set_option maxRecDepth 100000 in
theorem f4_ok  (x1 : BitVec 16) (x2 : BitVec 16) (x3 : BitVec 16) (x4 : BitVec 16) (x5 : BitVec 16) (x6 : BitVec 16) (r : Bool) (h : f4 x1 x2 x3 x4 x5 x6 = some r)  : Spec1 Tryz.prog 4 [(0, .elem 32 1 T0F 0 0), (6, .elem 20 1 T6F 0 0)] [] [] [.agg [.b16 x1, .b16 x2], .agg [.b16 x3, .b16 x4], .agg [.b16 x5, .b16 x6]] (.bool r) [] := by
  unfold f4 at h
  refine Spec1.body 0 _ _ Tryz.func4 rfl Tryz.ntmps4 rfl rfl ?_
  refine AWp.seq ?_
  refine AWp.regC [] [] [3, 4, 5, 1000000, 1000006] [3, 4, 5] ⟨95, [(3, .ptr 3 0), (4, .ptr 4 0), (5, .ptr 5 0), (1000000, .elem 32 1 T0F 0 0), (1000006, .elem 20 1 T6F 0 0)], [(3, .cells 30 [.b16 x1, .b16 x2]), (4, .cells 30 [.b16 x3, .b16 x4]), (5, .cells 30 [.b16 x5, .b16 x6])], [], 0⟩ (True) Tryz_mixed (by kernel_rfl) trivial ?_
  refine thenQ_normal ?_
  refine AWp.seq ?_
  refine AWp.seq ?_
  obtain ⟨r7, hr7, h⟩ := bind_ok h
  refine AWp.regC [] [(0, ⟨[], [], [], [], .bool r7, [], [], [0, 6]⟩)] [3, 4, 5, 13, 1000000, 1000006] [3, 4, 5] ⟨95, [(3, .ptr 3 0), (4, .ptr 4 0), (5, .ptr 5 0), (13, .bool (!r7)), (1000000, .elem 32 1 T0F 0 0), (1000006, .elem 20 1 T6F 0 0)], [(3, .cells 30 [.b16 x1, .b16 x2]), (4, .cells 30 [.b16 x3, .b16 x4]), (5, .cells 30 [.b16 x5, .b16 x6])], [], 0⟩ ((callP Tryz.prog true 12 [(0, .elem 32 1 T0F 0 0), (6, .elem 20 1 T6F 0 0)] [] [] [] [] [] [] (.bool r7) []) ∧ True) Tryz_mixed (by kernel_rfl) ⟨⟨fun _ => (f12_ok  r7 hr7), fun _ => trivial, .inl rfl⟩, trivial⟩ ?_
  refine thenQ_normal ?_
  refine AWp.cond (b := (!r7)) (by kernel_rfl) (fun hc1 => ?_) (fun hc1 => ?_)
  ·
    replace h := ite_tb hc1 h
    refine AWp.seq ?_
    refine AWp.regC [] [] [6, 1000000, 1000006] [] ⟨95, [(6, .bool false), (1000000, .elem 32 1 T0F 0 0), (1000006, .elem 20 1 T6F 0 0)], [], [], 0⟩ (True) Tryz_mixed (by kernel_rfl) trivial ?_
    refine thenQ_normal ?_
    have hret := Option.some.inj h
    subst hret
    refine AWp.le (Le.mk (s := ⟨95, [(6, .bool false), (1000000, .elem 32 1 T0F 0 0), (1000006, .elem 20 1 T6F 0 0)], [], [], 0⟩) (s' := ⟨95, [(6, .bool false)], [], [], 0⟩) rfl rfl ⟨.refl _, trivial⟩ trivial) ?_
    refine AWp.ret ?_
    refine thenQ_ret ?_
    exact bodyQ_ret _ rfl ⟨rfl, rfl⟩ rfl
  ·
    replace h := ite_fb hc1 h
    refine AWp.skip ?_
    refine thenQ_normal ?_
    refine AWp.seq ?_
    obtain ⟨r8, hr8, h⟩ := bind_ok h
    obtain ⟨r9, hr9, h⟩ := bind_ok h
    obtain ⟨r10, hr10, h⟩ := bind_ok h
    obtain ⟨r11, hr11, h⟩ := bind_ok h
    refine AWp.regC [] [(2, ⟨[.agg [.b16 x1, .b16 x2], .agg [.b16 x3, .b16 x4]], [], [], [], .bool r8, [], [], []⟩), (5, ⟨[.agg [.b16 x3, .b16 x4], .agg [.b16 x1, .b16 x2]], [], [], [], .bool r9, [], [], []⟩), (8, ⟨[.agg [.b16 x3, .b16 x4], .agg [.b16 x5, .b16 x6]], [], [], [], .bool r10, [], [], []⟩), (11, ⟨[.agg [.b16 x1, .b16 x2], .agg [.b16 x5, .b16 x6]], [], [], [], .bool r11, [], [], []⟩)] [3, 4, 5, 7, 8, 9, 10, 1000000, 1000006] [3, 4, 5] ⟨95, [(3, .ptr 3 0), (4, .ptr 4 0), (5, .ptr 5 0), (7, .bool r8), (8, .bool r9), (9, .bool r10), (10, .bool r11), (1000000, .elem 32 1 T0F 0 0), (1000006, .elem 20 1 T6F 0 0)], [(3, .cells 30 [.b16 x1, .b16 x2]), (4, .cells 30 [.b16 x3, .b16 x4]), (5, .cells 30 [.b16 x5, .b16 x6])], [], 0⟩ ((callP Tryz.prog true 16 [] [] [] [] [] [.agg [.b16 x1, .b16 x2], .agg [.b16 x3, .b16 x4]] [.agg [.b16 x1, .b16 x2], .agg [.b16 x3, .b16 x4]] (.bool r8) []) ∧ (callP Tryz.prog true 16 [] [] [] [] [] [.agg [.b16 x3, .b16 x4], .agg [.b16 x1, .b16 x2]] [.agg [.b16 x3, .b16 x4], .agg [.b16 x1, .b16 x2]] (.bool r9) []) ∧ (callP Tryz.prog true 16 [] [] [] [] [] [.agg [.b16 x3, .b16 x4], .agg [.b16 x5, .b16 x6]] [.agg [.b16 x3, .b16 x4], .agg [.b16 x5, .b16 x6]] (.bool r10) []) ∧ (callP Tryz.prog true 16 [] [] [] [] [] [.agg [.b16 x1, .b16 x2], .agg [.b16 x5, .b16 x6]] [.agg [.b16 x1, .b16 x2], .agg [.b16 x5, .b16 x6]] (.bool r11) []) ∧ True) Tryz_mixed (by kernel_rfl) ⟨⟨fun _ => (f16_ok x1 x2 x3 x4 r8 hr8), fun _ => ⟨.refl _, .refl _, trivial⟩, .inl rfl⟩, ⟨fun _ => (f16_ok x3 x4 x1 x2 r9 hr9), fun _ => ⟨.refl _, .refl _, trivial⟩, .inl rfl⟩, ⟨fun _ => (f16_ok x3 x4 x5 x6 r10 hr10), fun _ => ⟨.refl _, .refl _, trivial⟩, .inl rfl⟩, ⟨fun _ => (f16_ok x1 x2 x5 x6 r11 hr11), fun _ => ⟨.refl _, .refl _, trivial⟩, .inl rfl⟩, trivial⟩ ?_
    refine thenQ_normal ?_
    refine AWp.seq ?_
    refine AWp.seq ?_
    obtain ⟨r12, hr12, h⟩ := bind_ok h
    obtain ⟨r13, hr13, h⟩ := optc_some h
    obtain ⟨r14, hr14, h⟩ := optc_some h
    have ob0 : ((!(r8 == r12)) == false) = true → ((!(r8 == r12)) == false) = true := fun h => h
    have ob1 : ((!(r8 == r12)) == false) = true → ((!(r8 == r12)) == false) = true := fun h => h
    have ob2 : ((!(r8 == r12)) == false) = true → ((!(r8 == r12)) == false) = true := fun h => h
    have ob3 : ((!(r8 == r12)) == false) = true → ((!(r8 == r12)) == false) = true := fun h => h
    have ob4 : true = true → (!(r8 == r12)) = false → ((!(r8 == r12)) == false) = true := fun _ h => beq_iff_eq.2 h
    have ob5 : (((!(r8 == r12)) || (!(r9 == r13))) == false) = true → (((!(r8 == r12)) || (!(r9 == r13))) == false) = true := fun h => h
    have ob6 : (((!(r8 == r12)) || (!(r9 == r13))) == false) = true → (((!(r8 == r12)) || (!(r9 == r13))) == false) = true := fun h => h
    have ob7 : (((!(r8 == r12)) || (!(r9 == r13))) == false) = true → (((!(r8 == r12)) || (!(r9 == r13))) == false) = true := fun h => h
    have ob8 : true = true → ((!(r8 == r12)) || (!(r9 == r13))) = false → (((!(r8 == r12)) || (!(r9 == r13))) == false) = true := fun _ h => beq_iff_eq.2 h
    have ob9 : ((((!(r8 == r12)) || (!(r9 == r13))) || (!r14)) == false) = true → ((((!(r8 == r12)) || (!(r9 == r13))) || (!r14)) == false) = true := fun h => h
    obtain ⟨ob10, h⟩ := chk_some h
    have ob11 : ((((!(r8 == r12)) || (!(r9 == r13))) || (!r14)) == false) = true → ((((!(r8 == r12)) || (!(r9 == r13))) || (!r14)) == false) = true := fun h => h
    have ob12 : ((((!(r8 == r12)) || (!(r9 == r13))) || (!r14)) == false) = true → ((((!(r8 == r12)) || (!(r9 == r13))) || (!r14)) == false) = true := fun h => h
    have ob13 : (((((!(r8 == r12)) || (!(r9 == r13))) || (!r14)) == false) && ((r8 && r10) == true)) = true → (((((!(r8 == r12)) || (!(r9 == r13))) || (!r14)) == false) && ((r8 && r10) == true)) = true := fun h => h
    obtain ⟨ob14, h⟩ := chk_some h
    have ob15 : ((((!(r8 == r12)) || (!(r9 == r13))) || (!r14)) == false) = true → ((((!(r8 == r12)) || (!(r9 == r13))) || (!r14)) == false) = true := fun h => h
    have ob16 : true = true → (((!(r8 == r12)) || (!(r9 == r13))) || (!r14)) = false → ((((!(r8 == r12)) || (!(r9 == r13))) || (!r14)) == false) = true := fun _ h => beq_iff_eq.2 h
    refine AWp.regC [] [(3, ⟨[.agg [.b16 x1, .b16 x2], .agg [.b16 x3, .b16 x4]], [], [], [], .bool r12, [], [], []⟩), (9, ⟨[.agg [.b16 x3, .b16 x4], .agg [.b16 x1, .b16 x2]], [], [], [], .bool r13, [], [], []⟩), (15, ⟨[.agg [.b16 x1, .b16 x2], .agg [.b16 x1, .b16 x2]], [], [], [], .bool r14, [], [], []⟩)] [3, 4, 5, 7, 8, 53, 1000000, 1000006] [3, 4, 5] ⟨95, [(3, .ptr 3 0), (4, .ptr 4 0), (5, .ptr 5 0), (7, .bool r8), (8, .bool r9), (53, .bool ((((!(r8 == r12)) || (!(r9 == r13))) || (!r14)) || ((r8 && r10) && (!r11)))), (1000000, .elem 32 1 T0F 0 0), (1000006, .elem 20 1 T6F 0 0)], [(3, .cells 30 [.b16 x1, .b16 x2]), (4, .cells 30 [.b16 x3, .b16 x4]), (5, .cells 30 [.b16 x5, .b16 x6])], [], 0⟩ ((callP Tryz.prog true 17 [] [] [] [] [] [.agg [.b16 x1, .b16 x2], .agg [.b16 x3, .b16 x4]] [.agg [.b16 x1, .b16 x2], .agg [.b16 x3, .b16 x4]] (.bool r12) []) ∧ ((callP Tryz.prog ((!(r8 == r12)) == false) 17 [] [] [] [] [] [.agg [.b16 x3, .b16 x4], .agg [.b16 x1, .b16 x2]] [.agg [.b16 x3, .b16 x4], .agg [.b16 x1, .b16 x2]] (.bool r13) []) ∧ (((!(r8 == r12)) == false) = true → ((!(r8 == r12)) == false) = true) ∧ (((!(r8 == r12)) == false) = true → ((!(r8 == r12)) == false) = true) ∧ True) ∧ ((((!(r8 == r12)) == false) = true → ((!(r8 == r12)) == false) = true) ∧ (((!(r8 == r12)) == false) = true → ((!(r8 == r12)) == false) = true) ∧ True) ∧ (true = true → (!(r8 == r12)) = false → ((!(r8 == r12)) == false) = true) ∧ ((callP Tryz.prog (((!(r8 == r12)) || (!(r9 == r13))) == false) 16 [] [] [] [] [] [.agg [.b16 x1, .b16 x2], .agg [.b16 x1, .b16 x2]] [.agg [.b16 x1, .b16 x2], .agg [.b16 x1, .b16 x2]] (.bool r14) []) ∧ ((((!(r8 == r12)) || (!(r9 == r13))) == false) = true → (((!(r8 == r12)) || (!(r9 == r13))) == false) = true) ∧ ((((!(r8 == r12)) || (!(r9 == r13))) == false) = true → (((!(r8 == r12)) || (!(r9 == r13))) == false) = true) ∧ True) ∧ (((((!(r8 == r12)) || (!(r9 == r13))) == false) = true → (((!(r8 == r12)) || (!(r9 == r13))) == false) = true) ∧ True) ∧ (true = true → ((!(r8 == r12)) || (!(r9 == r13))) = false → (((!(r8 == r12)) || (!(r9 == r13))) == false) = true) ∧ ((((((!(r8 == r12)) || (!(r9 == r13))) || (!r14)) == false) = true → ((((!(r8 == r12)) || (!(r9 == r13))) || (!r14)) == false) = true) ∧ True) ∧ ((((((!(r8 == r12)) || (!(r9 == r13))) || (!r14)) == false) = true → ((((!(r8 == r12)) || (!(r9 == r13))) || (!r14)) == false) = true → r8 = true → (((((!(r8 == r12)) || (!(r9 == r13))) || (!r14)) == false) && (r8 == true)) = true) ∧ (((((!(r8 == r12)) || (!(r9 == r13))) || (!r14)) == false) = true → ((((!(r8 == r12)) || (!(r9 == r13))) || (!r14)) == false) = true) ∧ True) ∧ ((((((!(r8 == r12)) || (!(r9 == r13))) || (!r14)) == false) = true → ((((!(r8 == r12)) || (!(r9 == r13))) || (!r14)) == false) = true) ∧ True) ∧ (((((((!(r8 == r12)) || (!(r9 == r13))) || (!r14)) == false) && ((r8 && r10) == true)) = true → (((((!(r8 == r12)) || (!(r9 == r13))) || (!r14)) == false) && ((r8 && r10) == true)) = true) ∧ True) ∧ ((((((!(r8 == r12)) || (!(r9 == r13))) || (!r14)) == false) = true → ((((!(r8 == r12)) || (!(r9 == r13))) || (!r14)) == false) = true → (r8 && r10) = true → (((((!(r8 == r12)) || (!(r9 == r13))) || (!r14)) == false) && ((r8 && r10) == true)) = true) ∧ (((((!(r8 == r12)) || (!(r9 == r13))) || (!r14)) == false) = true → ((((!(r8 == r12)) || (!(r9 == r13))) || (!r14)) == false) = true) ∧ True) ∧ (true = true → (((!(r8 == r12)) || (!(r9 == r13))) || (!r14)) = false → ((((!(r8 == r12)) || (!(r9 == r13))) || (!r14)) == false) = true) ∧ True) Tryz_mixed (by kernel_rfl) ⟨⟨fun _ => (f17_ok x1 x2 x3 x4 r12 hr12), fun _ => ⟨.refl _, .refl _, trivial⟩, .inl rfl⟩, ⟨⟨fun hc => (f17_ok x3 x4 x1 x2 r13 (hr13 hc)), fun _ => ⟨.refl _, .refl _, trivial⟩, .inl rfl⟩, ob0, ob1, trivial⟩, ⟨ob2, ob3, trivial⟩, ob4, ⟨⟨fun hc => (f16_ok x1 x2 x1 x2 r14 (hr14 hc)), fun _ => ⟨.refl _, .refl _, trivial⟩, .inl rfl⟩, ob5, ob6, trivial⟩, ⟨ob7, trivial⟩, ob8, ⟨ob9, trivial⟩, ⟨ob10, ob11, trivial⟩, ⟨ob12, trivial⟩, ⟨ob13, trivial⟩, ⟨ob14, ob15, trivial⟩, ob16, trivial⟩ ?_
    refine thenQ_normal ?_
    refine AWp.cond (b := ((((!(r8 == r12)) || (!(r9 == r13))) || (!r14)) || ((r8 && r10) && (!r11)))) (by kernel_rfl) (fun hc2 => ?_) (fun hc2 => ?_)
    ·
      replace h := ite_tb hc2 h
      refine AWp.seq ?_
      refine AWp.regC [] [] [6, 1000000, 1000006] [] ⟨95, [(6, .bool false), (1000000, .elem 32 1 T0F 0 0), (1000006, .elem 20 1 T6F 0 0)], [], [], 0⟩ (True) Tryz_mixed (by kernel_rfl) trivial ?_
      refine thenQ_normal ?_
      have hret := Option.some.inj h
      subst hret
      refine AWp.le (Le.mk (s := ⟨95, [(6, .bool false), (1000000, .elem 32 1 T0F 0 0), (1000006, .elem 20 1 T6F 0 0)], [], [], 0⟩) (s' := ⟨95, [(6, .bool false)], [], [], 0⟩) rfl rfl ⟨.refl _, trivial⟩ trivial) ?_
      refine AWp.ret ?_
      refine thenQ_ret ?_
      exact bodyQ_ret _ rfl ⟨rfl, rfl⟩ rfl
    ·
      replace h := ite_fb hc2 h
      refine AWp.skip ?_
      refine thenQ_normal ?_
      refine AWp.seq ?_
      refine AWp.regC [] [] [3, 4, 5, 7, 8, 11, 1000000, 1000006] [3, 4, 5, 56] ⟨95, [(3, .ptr 3 0), (4, .ptr 4 0), (5, .ptr 5 0), (7, .bool r8), (8, .bool r9), (11, .own 56), (1000000, .elem 32 1 T0F 0 0), (1000006, .elem 20 1 T6F 0 0)], [(3, .cells 30 [.b16 x1, .b16 x2]), (4, .cells 30 [.b16 x3, .b16 x4]), (5, .cells 30 [.b16 x5, .b16 x6]), (56, .rows 30 2 2 (lstF 2 [.b16 x1, .b16 x2, .b16 x3, .b16 x4]))], [], 0⟩ (True) Tryz_mixed (by kernel_rfl) trivial ?_
      refine thenQ_normal ?_
      refine AWp.le (Le.mk (s := ⟨95, [(3, .ptr 3 0), (4, .ptr 4 0), (5, .ptr 5 0), (7, .bool r8), (8, .bool r9), (11, .own 56), (1000000, .elem 32 1 T0F 0 0), (1000006, .elem 20 1 T6F 0 0)], [(3, .cells 30 [.b16 x1, .b16 x2]), (4, .cells 30 [.b16 x3, .b16 x4]), (5, .cells 30 [.b16 x5, .b16 x6]), (56, .rows 30 2 2 (lstF 2 [.b16 x1, .b16 x2, .b16 x3, .b16 x4]))], [], 0⟩) (s' := ⟨95, [(3, .ptr 3 0), (4, .ptr 4 0), (5, .ptr 5 0), (7, .bool r8), (8, .bool r9), (11, .own 56), (1000000, .elem 32 1 T0F 0 0), (1000006, .elem 20 1 T6F 0 0)], [(3, .cells 30 [.b16 x1, .b16 x2]), (4, .cells 30 [.b16 x3, .b16 x4]), (5, .cells 30 [.b16 x5, .b16 x6]), (56, bL 30 2 eWW (default : BitVec 16 × BitVec 16) [(x1, x2), (x3, x4)])], [], 0⟩) rfl rfl ⟨.refl _, .refl _, .refl _, .refl _, .refl _, .refl _, .refl _, .refl _, trivial⟩ ⟨⟨_, rfl, .refl _⟩, ⟨_, rfl, .refl _⟩, ⟨_, rfl, .refl _⟩, ⟨_, rfl, (BLe.of (RL.lst (enc := eWW) [(x1, x2), (x3, x4)] rfl rfl (fun _ => rfl)))⟩, trivial⟩) ?_
      refine AWp.seq ?_
      refine AWp.seq ?_
      obtain ⟨r15, hr15, h⟩ := bind_ok h
      obtain ⟨r16, hr16, h⟩ := bind_ok h
      obtain ⟨r17, hr17, h⟩ := optc_some h
      have ob17 : ((!(r15 == r16)) == false) = true → ((!(r15 == r16)) == false) = true := fun h => h
      have ob18 : true = true → (!(r15 == r16)) = false → ((!(r15 == r16)) == false) = true := fun _ h => beq_iff_eq.2 h
      refine AWp.regC [] [(2, ⟨[vL 2 eWW (default : BitVec 16 × BitVec 16) [(x1, x2), (x3, x4)], .agg [.b16 x5, .b16 x6]], [], [], [], .bool r15, [], [56], []⟩), (5, ⟨[vL 2 eWW (default : BitVec 16 × BitVec 16) [(x1, x2), (x3, x4)], .agg [.b16 x5, .b16 x6]], [], [], [], .bool r16, [], [56], []⟩), (9, ⟨[vL 2 eWW (default : BitVec 16 × BitVec 16) [], .agg [.b16 x5, .b16 x6]], [], [], [], .bool r17, [], [], []⟩)] [3, 4, 7, 8, 67, 1000000, 1000006] [3, 4] ⟨95, [(3, .ptr 3 0), (4, .ptr 4 0), (7, .bool r8), (8, .bool r9), (67, .bool ((!(r15 == r16)) || r17)), (1000000, .elem 32 1 T0F 0 0), (1000006, .elem 20 1 T6F 0 0)], [(3, .cells 30 [.b16 x1, .b16 x2]), (4, .cells 30 [.b16 x3, .b16 x4])], [], 0⟩ ((callP Tryz.prog true 18 [] [] [] [(56, bL 30 2 eWW (default : BitVec 16 × BitVec 16) [(x1, x2), (x3, x4)])] [56] [.own 56, .agg [.b16 x5, .b16 x6]] [vL 2 eWW (default : BitVec 16 × BitVec 16) [(x1, x2), (x3, x4)], .agg [.b16 x5, .b16 x6]] (.bool r15) []) ∧ (callP Tryz.prog true 19 [] [] [] [(56, bL 30 2 eWW (default : BitVec 16 × BitVec 16) [(x1, x2), (x3, x4)])] [56] [.own 56, .agg [.b16 x5, .b16 x6]] [vL 2 eWW (default : BitVec 16 × BitVec 16) [(x1, x2), (x3, x4)], .agg [.b16 x5, .b16 x6]] (.bool r16) []) ∧ ((callP Tryz.prog ((!(r15 == r16)) == false) 18 [] [] [] [] [] [.nils, .agg [.b16 x5, .b16 x6]] [vL 2 eWW (default : BitVec 16 × BitVec 16) [], .agg [.b16 x5, .b16 x6]] (.bool r17) []) ∧ (((!(r15 == r16)) == false) = true → ((!(r15 == r16)) == false) = true) ∧ True) ∧ (true = true → (!(r15 == r16)) = false → ((!(r15 == r16)) == false) = true) ∧ True) Tryz_mixed (by kernel_rfl) ⟨⟨fun _ => (f18_ok [(x1, x2), (x3, x4)] x5 x6 r15 hr15), fun _ => ⟨.refl _, .refl _, trivial⟩, .inr ⟨rfl, trivial⟩⟩, ⟨fun _ => (f19_ok [(x1, x2), (x3, x4)] x5 x6 r16 hr16), fun _ => ⟨.refl _, .refl _, trivial⟩, .inr ⟨rfl, trivial⟩⟩, ⟨⟨fun hc => (f18_ok [] x5 x6 r17 (hr17 hc)), fun _ => ⟨.nilL, .refl _, trivial⟩, .inl rfl⟩, ob17, trivial⟩, ob18, trivial⟩ ?_
      refine thenQ_normal ?_
      refine AWp.cond (b := ((!(r15 == r16)) || r17)) (by kernel_rfl) (fun hc3 => ?_) (fun hc3 => ?_)
      ·
        replace h := ite_tb hc3 h
        refine AWp.seq ?_
        refine AWp.regC [] [] [6, 1000000, 1000006] [] ⟨95, [(6, .bool false), (1000000, .elem 32 1 T0F 0 0), (1000006, .elem 20 1 T6F 0 0)], [], [], 0⟩ (True) Tryz_mixed (by kernel_rfl) trivial ?_
        refine thenQ_normal ?_
        have hret := Option.some.inj h
        subst hret
        refine AWp.le (Le.mk (s := ⟨95, [(6, .bool false), (1000000, .elem 32 1 T0F 0 0), (1000006, .elem 20 1 T6F 0 0)], [], [], 0⟩) (s' := ⟨95, [(6, .bool false)], [], [], 0⟩) rfl rfl ⟨.refl _, trivial⟩ trivial) ?_
        refine AWp.ret ?_
        refine thenQ_ret ?_
        exact bodyQ_ret _ rfl ⟨rfl, rfl⟩ rfl
      ·
        replace h := ite_fb hc3 h
        refine AWp.skip ?_
        refine thenQ_normal ?_
        refine AWp.seq ?_
        have ob19 : ((!((x1 &&& x2) == (BitVec.ofInt 16 0))) == false) = true → ((!((x1 &&& x2) == (BitVec.ofInt 16 0))) == false) = true := fun h => h
        have ob20 : ((!((x1 &&& x2) == (BitVec.ofInt 16 0))) == false) = true → ((!((x1 &&& x2) == (BitVec.ofInt 16 0))) == false) = true := fun h => h
        have ob21 : ((!((x1 &&& x2) == (BitVec.ofInt 16 0))) == false) = true → ((!((x1 &&& x2) == (BitVec.ofInt 16 0))) == false) = true := fun h => h
        have ob22 : ((!((x1 &&& x2) == (BitVec.ofInt 16 0))) == false) = true → ((!((x1 &&& x2) == (BitVec.ofInt 16 0))) == false) = true := fun h => h
        have ob23 : ((!((x1 &&& x2) == (BitVec.ofInt 16 0))) == false) = true → ((!((x1 &&& x2) == (BitVec.ofInt 16 0))) == false) = true := fun h => h
        have ob24 : true = true → (!((x1 &&& x2) == (BitVec.ofInt 16 0))) = false → ((!((x1 &&& x2) == (BitVec.ofInt 16 0))) == false) = true := fun _ h => beq_iff_eq.2 h
        have ob25 : (((!((x1 &&& x2) == (BitVec.ofInt 16 0))) || (!((x3 &&& x4) == (BitVec.ofInt 16 0)))) == false) = true → (((!((x1 &&& x2) == (BitVec.ofInt 16 0))) || (!((x3 &&& x4) == (BitVec.ofInt 16 0)))) == false) = true := fun h => h
        have ob26 : true = true → ((!((x1 &&& x2) == (BitVec.ofInt 16 0))) || (!((x3 &&& x4) == (BitVec.ofInt 16 0)))) = false → (((!((x1 &&& x2) == (BitVec.ofInt 16 0))) || (!((x3 &&& x4) == (BitVec.ofInt 16 0)))) == false) = true := fun _ h => beq_iff_eq.2 h
        have ob27 : ((((!((x1 &&& x2) == (BitVec.ofInt 16 0))) || (!((x3 &&& x4) == (BitVec.ofInt 16 0)))) || (!r8)) == false) = true → ((((!((x1 &&& x2) == (BitVec.ofInt 16 0))) || (!((x3 &&& x4) == (BitVec.ofInt 16 0)))) || (!r8)) == false) = true := fun h => h
        have ob28 : true = true → (((!((x1 &&& x2) == (BitVec.ofInt 16 0))) || (!((x3 &&& x4) == (BitVec.ofInt 16 0)))) || (!r8)) = false → ((((!((x1 &&& x2) == (BitVec.ofInt 16 0))) || (!((x3 &&& x4) == (BitVec.ofInt 16 0)))) || (!r8)) == false) = true := fun _ h => beq_iff_eq.2 h
        have ob29 : (((((!((x1 &&& x2) == (BitVec.ofInt 16 0))) || (!((x3 &&& x4) == (BitVec.ofInt 16 0)))) || (!r8)) || (!r9)) == false) = true → (((((!((x1 &&& x2) == (BitVec.ofInt 16 0))) || (!((x3 &&& x4) == (BitVec.ofInt 16 0)))) || (!r8)) || (!r9)) == false) = true := fun h => h
        have ob30 : (((((!((x1 &&& x2) == (BitVec.ofInt 16 0))) || (!((x3 &&& x4) == (BitVec.ofInt 16 0)))) || (!r8)) || (!r9)) == false) = true → (((((!((x1 &&& x2) == (BitVec.ofInt 16 0))) || (!((x3 &&& x4) == (BitVec.ofInt 16 0)))) || (!r8)) || (!r9)) == false) = true := fun h => h
        have ob31 : true = true → ((((!((x1 &&& x2) == (BitVec.ofInt 16 0))) || (!((x3 &&& x4) == (BitVec.ofInt 16 0)))) || (!r8)) || (!r9)) = false → (((((!((x1 &&& x2) == (BitVec.ofInt 16 0))) || (!((x3 &&& x4) == (BitVec.ofInt 16 0)))) || (!r8)) || (!r9)) == false) = true := fun _ h => beq_iff_eq.2 h
        refine AWp.regC [] [] [6, 1000000, 1000006] [] ⟨95, [(6, .bool (((((!((x1 &&& x2) == (BitVec.ofInt 16 0))) || (!((x3 &&& x4) == (BitVec.ofInt 16 0)))) || (!r8)) || (!r9)) || ((x1 == x3) && ((x2 == x4) && true)))), (1000000, .elem 32 1 T0F 0 0), (1000006, .elem 20 1 T6F 0 0)], [], [], 0⟩ (((((!((x1 &&& x2) == (BitVec.ofInt 16 0))) == false) = true → ((!((x1 &&& x2) == (BitVec.ofInt 16 0))) == false) = true) ∧ True) ∧ ((((!((x1 &&& x2) == (BitVec.ofInt 16 0))) == false) = true → ((!((x1 &&& x2) == (BitVec.ofInt 16 0))) == false) = true) ∧ True) ∧ ((((!((x1 &&& x2) == (BitVec.ofInt 16 0))) == false) = true → ((!((x1 &&& x2) == (BitVec.ofInt 16 0))) == false) = true) ∧ (((!((x1 &&& x2) == (BitVec.ofInt 16 0))) == false) = true → ((!((x1 &&& x2) == (BitVec.ofInt 16 0))) == false) = true) ∧ True) ∧ ((((!((x1 &&& x2) == (BitVec.ofInt 16 0))) == false) = true → ((!((x1 &&& x2) == (BitVec.ofInt 16 0))) == false) = true) ∧ True) ∧ (true = true → (!((x1 &&& x2) == (BitVec.ofInt 16 0))) = false → ((!((x1 &&& x2) == (BitVec.ofInt 16 0))) == false) = true) ∧ (((((!((x1 &&& x2) == (BitVec.ofInt 16 0))) || (!((x3 &&& x4) == (BitVec.ofInt 16 0)))) == false) = true → (((!((x1 &&& x2) == (BitVec.ofInt 16 0))) || (!((x3 &&& x4) == (BitVec.ofInt 16 0)))) == false) = true) ∧ True) ∧ (true = true → ((!((x1 &&& x2) == (BitVec.ofInt 16 0))) || (!((x3 &&& x4) == (BitVec.ofInt 16 0)))) = false → (((!((x1 &&& x2) == (BitVec.ofInt 16 0))) || (!((x3 &&& x4) == (BitVec.ofInt 16 0)))) == false) = true) ∧ ((((((!((x1 &&& x2) == (BitVec.ofInt 16 0))) || (!((x3 &&& x4) == (BitVec.ofInt 16 0)))) || (!r8)) == false) = true → ((((!((x1 &&& x2) == (BitVec.ofInt 16 0))) || (!((x3 &&& x4) == (BitVec.ofInt 16 0)))) || (!r8)) == false) = true) ∧ True) ∧ (true = true → (((!((x1 &&& x2) == (BitVec.ofInt 16 0))) || (!((x3 &&& x4) == (BitVec.ofInt 16 0)))) || (!r8)) = false → ((((!((x1 &&& x2) == (BitVec.ofInt 16 0))) || (!((x3 &&& x4) == (BitVec.ofInt 16 0)))) || (!r8)) == false) = true) ∧ (((((((!((x1 &&& x2) == (BitVec.ofInt 16 0))) || (!((x3 &&& x4) == (BitVec.ofInt 16 0)))) || (!r8)) || (!r9)) == false) = true → (((((!((x1 &&& x2) == (BitVec.ofInt 16 0))) || (!((x3 &&& x4) == (BitVec.ofInt 16 0)))) || (!r8)) || (!r9)) == false) = true) ∧ ((((((!((x1 &&& x2) == (BitVec.ofInt 16 0))) || (!((x3 &&& x4) == (BitVec.ofInt 16 0)))) || (!r8)) || (!r9)) == false) = true → (((((!((x1 &&& x2) == (BitVec.ofInt 16 0))) || (!((x3 &&& x4) == (BitVec.ofInt 16 0)))) || (!r8)) || (!r9)) == false) = true) ∧ True) ∧ (true = true → ((((!((x1 &&& x2) == (BitVec.ofInt 16 0))) || (!((x3 &&& x4) == (BitVec.ofInt 16 0)))) || (!r8)) || (!r9)) = false → (((((!((x1 &&& x2) == (BitVec.ofInt 16 0))) || (!((x3 &&& x4) == (BitVec.ofInt 16 0)))) || (!r8)) || (!r9)) == false) = true) ∧ True) Tryz_mixed (by kernel_rfl) ⟨⟨ob19, trivial⟩, ⟨ob20, trivial⟩, ⟨ob21, ob22, trivial⟩, ⟨ob23, trivial⟩, ob24, ⟨ob25, trivial⟩, ob26, ⟨ob27, trivial⟩, ob28, ⟨ob29, ob30, trivial⟩, ob31, trivial⟩ ?_
        refine thenQ_normal ?_
        have hret := Option.some.inj h
        subst hret
        refine AWp.le (Le.mk (s := ⟨95, [(6, .bool (((((!((x1 &&& x2) == (BitVec.ofInt 16 0))) || (!((x3 &&& x4) == (BitVec.ofInt 16 0)))) || (!r8)) || (!r9)) || ((x1 == x3) && ((x2 == x4) && true)))), (1000000, .elem 32 1 T0F 0 0), (1000006, .elem 20 1 T6F 0 0)], [], [], 0⟩) (s' := ⟨95, [(6, .bool (((((!((x1 &&& x2) == (BitVec.ofInt 16 0))) || (!((x3 &&& x4) == (BitVec.ofInt 16 0)))) || (!r8)) || (!r9)) || ((x1 == x3) && ((x2 == x4) && true))))], [], [], 0⟩) rfl rfl ⟨.refl _, trivial⟩ trivial) ?_
        refine AWp.ret ?_
        exact bodyQ_ret _ rfl ⟨rfl, rfl⟩ rfl
end Go.Abs
