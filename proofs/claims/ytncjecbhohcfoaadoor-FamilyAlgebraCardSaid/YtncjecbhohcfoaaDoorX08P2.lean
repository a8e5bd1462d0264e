/- X08, part 2. -/
import Derived.Test.YtncjecbhohcfoaaDoorX08P1
namespace Go.Abs
open Go Go.Proofs
set_option maxHeartbeats 4000000
set_option maxRecDepth 100000 in
theorem f18_ok  (x1 : List (BitVec 16)) (x2 : List (BitVec 16)) (r : Bool) (h : f18 x1 x2 = some r)  : Spec1 Tryd.prog 18 [] [] [] [vL 1 eW 0#16 x1, vL 1 eW 0#16 x2] (.bool r) [] := by
  unfold f18 at h
  refine Spec1.body 0 _ _ Tryd.func18 rfl Tryd.ntmps18 rfl rfl ?_
  refine AWp.seq ?_
  refine AWp.regC [] [] [0, 1] [] ⟨26, [(0, vL 1 eW 0#16 x1), (1, vL 1 eW 0#16 x2)], [], [], 0⟩ (True) Tryd_mixed (by kernel_rfl) trivial ?_
  refine thenQ_normal ?_
  refine AWp.seq ?_
  refine AWp.seq ?_
  refine AWp.regC [] [] [0, 1, 10] [] ⟨26, [(0, vL 1 eW 0#16 x1), (1, vL 1 eW 0#16 x2), (10, .bool ((((x1).length : Nat) : Int) != (((x2).length : Nat) : Int)))], [], [], 0⟩ (True) Tryd_mixed (by kernel_rfl) trivial ?_
  refine thenQ_normal ?_
  refine AWp.cond (b := ((((x1).length : Nat) : Int) != (((x2).length : Nat) : Int))) (by kernel_rfl) (fun hc1 => ?_) (fun hc1 => ?_)
  ·
    replace h := ite_tb hc1 h
    refine AWp.seq ?_
    refine AWp.regC [] [] [4] [] ⟨26, [(4, .bool false)], [], [], 0⟩ (True) Tryd_mixed (by kernel_rfl) trivial ?_
    refine thenQ_normal ?_
    have hret := Option.some.inj h
    subst hret
    refine AWp.le (Le.mk (s := ⟨26, [(4, .bool false)], [], [], 0⟩) (s' := ⟨26, [(4, .bool false)], [], [], 0⟩) rfl rfl ⟨.refl _, trivial⟩ trivial) ?_
    refine AWp.ret ?_
    refine thenQ_ret ?_
    exact bodyQ_ret _ rfl ⟨rfl, rfl⟩ rfl
  ·
    replace h := ite_fb hc1 h
    refine AWp.skip ?_
    refine thenQ_normal ?_
    obtain ⟨K1, hK1, h⟩ := jn_some h
    refine AWp.join (α := Unit) (fun (x : Unit) => match x with | () => ⟨26, [], [], [], 0⟩) (fun x => K1 x = some r) ?_ ?_
    ·
      refine AWp.seq ?_
      refine AWp.regC [] [] [0, 1, 12, 13] [] ⟨26, [(0, vL 1 eW 0#16 x1), (1, vL 1 eW 0#16 x2), (12, .int .i64 (((x1).length : Nat) : Int)), (13, .int .i64 (0 : Int))], [], [], 0⟩ (True) Tryd_mixed (by kernel_rfl) trivial ?_
      refine thenQ_normal ?_
      refine AWp.block ?_
      refine AWp.loopL (α := Nat × Nat) (fun x => match x with | (_, n3) => ⟨26, [(0, vL 1 eW 0#16 x1), (1, vL 1 eW 0#16 x2), (12, .int .i64 (((x1).length : Nat) : Int)), (13, .int .i64 ((n3 : Nat) : Int))], [], [], 0⟩) (fun x => f18_L0 x1 x2 K1 x.1 x.2 = some r) (fun x => x.1) (FUEL, 0) (Le.mk (s := ⟨26, [(0, vL 1 eW 0#16 x1), (1, vL 1 eW 0#16 x2), (12, .int .i64 (((x1).length : Nat) : Int)), (13, .int .i64 (0 : Int))], [], [], 0⟩) (s' := ⟨26, [(0, vL 1 eW 0#16 x1), (1, vL 1 eW 0#16 x2), (12, .int .i64 (((x1).length : Nat) : Int)), (13, .int .i64 (0 : Int))], [], [], 0⟩) rfl rfl ⟨.refl _, .refl _, .refl _, .refl _, trivial⟩ trivial) h ?_
      rintro ⟨k0, n3⟩ h
      cases k0 with
      | zero => exact nomatch (show (none : Option Bool) = some r from h)
      | succ k0 =>
      obtain ⟨C0, hC0⟩ : ∃ C, C = f18_L0 x1 x2 K1 k0 := ⟨_, rfl⟩
      replace h := (f18_L0.eq_2 ..).symm.trans h
      try rw [← hC0] at h
      refine AWp.seq ?_
      refine AWp.regC [] [] [0, 1, 12, 13, 14] [] ⟨26, [(0, vL 1 eW 0#16 x1), (1, vL 1 eW 0#16 x2), (12, .int .i64 (((x1).length : Nat) : Int)), (13, .int .i64 ((n3 : Nat) : Int)), (14, .bool (decide (((n3 : Nat) : Int) < (((x1).length : Nat) : Int))))], [], [], 0⟩ (True) Tryd_mixed (by kernel_rfl) trivial ?_
      refine thenQ_normal ?_
      refine AWp.seq ?_
      refine AWp.cond (b := (decide (((n3 : Nat) : Int) < (((x1).length : Nat) : Int)))) (by kernel_rfl) (fun hc2 => ?_) (fun hc2 => ?_)
      ·
        replace h := ite_tb hc2 h
        refine AWp.skip ?_
        refine thenQ_normal ?_
        refine AWp.seq ?_
        refine AWp.block ?_
        refine AWp.seq ?_
        refine AWp.regC [] [] [0, 1, 5, 12, 13] [] ⟨26, [(0, vL 1 eW 0#16 x1), (1, vL 1 eW 0#16 x2), (5, .int .i64 ((n3 : Nat) : Int)), (12, .int .i64 (((x1).length : Nat) : Int)), (13, .int .i64 ((n3 : Nat) : Int))], [], [], 0⟩ (True) Tryd_mixed (by kernel_rfl) trivial ?_
        refine thenQ_normal ?_
        refine AWp.seq ?_
        obtain ⟨ob0p, h⟩ := chk_some h
        have ob0 : 0 ≤ ((n3 : Nat) : Int) ∧ ((n3 : Nat) : Int) < (((x1).length : Nat) : Int) := ⟨by omega, ob0p⟩
        obtain ⟨ob1p, h⟩ := chk_some h
        have ob1 : 0 ≤ ((n3 : Nat) : Int) ∧ ((n3 : Nat) : Int) < (((x2).length : Nat) : Int) := ⟨by omega, ob1p⟩
        refine AWp.regC [] [] [0, 1, 12, 13, 24] [] ⟨26, [(0, vL 1 eW 0#16 x1), (1, vL 1 eW 0#16 x2), (12, .int .i64 (((x1).length : Nat) : Int)), (13, .int .i64 ((n3 : Nat) : Int)), (24, .bool (!((x1.getD n3 0#16) == (x2.getD n3 0#16))))], [], [], 0⟩ ((0 ≤ ((n3 : Nat) : Int) ∧ ((n3 : Nat) : Int) < (((x1).length : Nat) : Int)) ∧ (0 ≤ ((n3 : Nat) : Int) ∧ ((n3 : Nat) : Int) < (((x2).length : Nat) : Int)) ∧ True) Tryd_mixed (by kernel_rfl) ⟨ob0, ob1, trivial⟩ ?_
        refine thenQ_normal ?_
        refine AWp.cond (b := (!((x1.getD n3 0#16) == (x2.getD n3 0#16)))) (by kernel_rfl) (fun hc3 => ?_) (fun hc3 => ?_)
        ·
          replace h := ite_tb hc3 h
          refine AWp.seq ?_
          refine AWp.regC [] [] [4] [] ⟨26, [(4, .bool false)], [], [], 0⟩ (True) Tryd_mixed (by kernel_rfl) trivial ?_
          refine thenQ_normal ?_
          have hret := Option.some.inj h
          subst hret
          refine AWp.le (Le.mk (s := ⟨26, [(4, .bool false)], [], [], 0⟩) (s' := ⟨26, [(4, .bool false)], [], [], 0⟩) rfl rfl ⟨.refl _, trivial⟩ trivial) ?_
          refine AWp.ret ?_
          refine blockQ_ret ?_
          refine thenQ_ret ?_
          refine thenQ_ret ?_
          refine blockQ_ret ?_
          refine joinQ_ret ?_
          exact bodyQ_ret _ rfl ⟨rfl, rfl⟩ rfl
        ·
          replace h := ite_fb hc3 h
          refine AWp.skip ?_
          refine blockQ_normal ?_
          refine thenQ_normal ?_
          obtain ⟨ob2p, h⟩ := chk_some h
          have ob2 : -9223372036854775808 ≤ (((n3 : Nat) : Int) + (1 : Int)) ∧ (((n3 : Nat) : Int) + (1 : Int)) ≤ 9223372036854775807 := ⟨by omega, ob2p⟩
          refine AWp.regC [] [] [0, 1, 12, 13] [] ⟨26, [(0, vL 1 eW 0#16 x1), (1, vL 1 eW 0#16 x2), (12, .int .i64 (((x1).length : Nat) : Int)), (13, .int .i64 (((n3 + 1) : Nat) : Int))], [], [], 0⟩ ((-9223372036854775808 ≤ (((n3 : Nat) : Int) + (1 : Int)) ∧ (((n3 : Nat) : Int) + (1 : Int)) ≤ 9223372036854775807) ∧ True) Tryd_mixed (by kernel_rfl) ⟨ob2, trivial⟩ ?_
          rw [hC0] at h
          exact loopQ_normal (_, (n3 + 1)) (Le.mk (s := ⟨26, [(0, vL 1 eW 0#16 x1), (1, vL 1 eW 0#16 x2), (12, .int .i64 (((x1).length : Nat) : Int)), (13, .int .i64 (((n3 + 1) : Nat) : Int))], [], [], 0⟩) (s' := ⟨26, [(0, vL 1 eW 0#16 x1), (1, vL 1 eW 0#16 x2), (12, .int .i64 (((x1).length : Nat) : Int)), (13, .int .i64 (((n3 + 1) : Nat) : Int))], [], [], 0⟩) rfl rfl ⟨.refl _, .refl _, .refl _, .refl _, trivial⟩ trivial) h (Nat.lt_succ_self _)
      ·
        replace h := ite_fb hc2 h
        refine AWp.exit ?_
        refine thenQ_exit ?_
        refine thenQ_exit ?_
        refine blockQ_same ?_
        exact joinQ_normal () (Le.mk (s := ⟨26, [(0, vL 1 eW 0#16 x1), (1, vL 1 eW 0#16 x2), (12, .int .i64 (((x1).length : Nat) : Int)), (13, .int .i64 ((n3 : Nat) : Int)), (14, .bool (decide (((n3 : Nat) : Int) < (((x1).length : Nat) : Int))))], [], [], 0⟩) (s' := ⟨26, [], [], [], 0⟩) rfl rfl trivial trivial) h
    ·
      rintro ⟨⟩ h
      replace h := (congrFun hK1 _).symm.trans h
      refine AWp.seq ?_
      refine AWp.regC [] [] [4] [] ⟨26, [(4, .bool true)], [], [], 0⟩ (True) Tryd_mixed (by kernel_rfl) trivial ?_
      refine thenQ_normal ?_
      have hret := Option.some.inj h
      subst hret
      refine AWp.le (Le.mk (s := ⟨26, [(4, .bool true)], [], [], 0⟩) (s' := ⟨26, [(4, .bool true)], [], [], 0⟩) rfl rfl ⟨.refl _, trivial⟩ trivial) ?_
      refine AWp.ret ?_
      exact bodyQ_ret _ rfl ⟨rfl, rfl⟩ rfl
def f87 (x1 : BitVec 16) : Option Int :=
  if (x1 == (BitVec.ofInt 16 0)) then (
  some (16 : Int)
  ) else (
  chk (27 ≤ IntKind.bits .u32) <|
  chk (0 ≤ ((IntKind.wrap .u32 ((((x1 &&& (-x1)).toNat : Nat) : Int) * (125613361 : Int))) / 2 ^ 27) ∧ ((IntKind.wrap .u32 ((((x1 &&& (-x1)).toNat : Nat) : Int) * (125613361 : Int))) / 2 ^ 27) < 32) <|
  chk ((((T0.getD (0 + ((((IntKind.wrap .u32 ((((x1 &&& (-x1)).toNat : Nat) : Int) * (125613361 : Int))) / 2 ^ 27)).toNat) * 1 + 0) 0) : Nat) : Int) ≤ 9223372036854775807) <|
  some (((T0.getD (0 + ((((IntKind.wrap .u32 ((((x1 &&& (-x1)).toNat : Nat) : Int) * (125613361 : Int))) / 2 ^ 27)).toNat) * 1 + 0) 0) : Nat) : Int)
  )
set_option maxRecDepth 100000 in
theorem f87_ok  (x1 : BitVec 16) (r : Int) (h : f87 x1 = some r)  : Spec1 Tryd.prog 87 [(0, .elem 32 1 T0F 0 0)] [] [] [.b16 x1] (.int .i64 r) [] := by
  unfold f87 at h
  refine Spec1.body 0 _ _ Tryd.func87 rfl Tryd.ntmps87 rfl rfl ?_
  refine AWp.seq ?_
  refine AWp.regC [10] [] [0, 1000000] [] ⟨15, [(0, .b16 x1), (1000000, .elem 32 1 T0F 0 0)], [], [], 0⟩ (True) Tryd_mixed (by kernel_rfl) trivial ?_
  refine thenQ_normal ?_
  refine AWp.seq ?_
  refine AWp.seq ?_
  refine AWp.regC [10] [] [0, 4, 1000000] [] ⟨15, [(0, .b16 x1), (4, .bool (x1 == (BitVec.ofInt 16 0))), (1000000, .elem 32 1 T0F 0 0)], [], [], 0⟩ (True) Tryd_mixed (by kernel_rfl) trivial ?_
  refine thenQ_normal ?_
  refine AWp.cond (b := (x1 == (BitVec.ofInt 16 0))) (by kernel_rfl) (fun hc1 => ?_) (fun hc1 => ?_)
  ·
    replace h := ite_tb hc1 h
    refine AWp.seq ?_
    refine AWp.regC [10] [] [2, 1000000] [] ⟨15, [(2, .int .i64 (16 : Int)), (1000000, .elem 32 1 T0F 0 0)], [], [], 0⟩ (True) Tryd_mixed (by kernel_rfl) trivial ?_
    refine thenQ_normal ?_
    have hret := Option.some.inj h
    subst hret
    refine AWp.le (Le.mk (s := ⟨15, [(2, .int .i64 (16 : Int)), (1000000, .elem 32 1 T0F 0 0)], [], [], 0⟩) (s' := ⟨15, [(2, .int .i64 (16 : Int))], [], [], 0⟩) rfl rfl ⟨.refl _, trivial⟩ trivial) ?_
    refine AWp.ret ?_
    refine thenQ_ret ?_
    exact bodyQ_ret _ rfl ⟨rfl, rfl⟩ rfl
  ·
    replace h := ite_fb hc1 h
    refine AWp.skip ?_
    refine thenQ_normal ?_
    refine AWp.seq ?_
    have ob0 : 0 ≤ (((x1 &&& (-x1)).toNat : Nat) : Int) ∧ (((x1 &&& (-x1)).toNat : Nat) : Int) ≤ 4294967295 := ⟨by omega, by (have := ((x1 &&& (-x1)) : BitVec 16).isLt; omega)⟩
    obtain ⟨ob1p, h⟩ := chk_some h
    have ob1 : 0 ≤ (27 : Int) ∧ 27 ≤ IntKind.bits .u32 := ⟨by omega, ob1p⟩
    obtain ⟨ob2, h⟩ := chk_some h
    obtain ⟨ob3p, h⟩ := chk_some h
    have ob3 : -9223372036854775808 ≤ (((T0.getD (0 + ((((IntKind.wrap .u32 ((((x1 &&& (-x1)).toNat : Nat) : Int) * (125613361 : Int))) / 2 ^ 27)).toNat) * 1 + 0) 0) : Nat) : Int) ∧ (((T0.getD (0 + ((((IntKind.wrap .u32 ((((x1 &&& (-x1)).toNat : Nat) : Int) * (125613361 : Int))) / 2 ^ 27)).toNat) * 1 + 0) 0) : Nat) : Int) ≤ 9223372036854775807 := ⟨by omega, ob3p⟩
    refine AWp.regC [10] [] [2, 1000000] [] ⟨15, [(2, .int .i64 (((T0.getD (0 + ((((IntKind.wrap .u32 ((((x1 &&& (-x1)).toNat : Nat) : Int) * (125613361 : Int))) / 2 ^ 27)).toNat) * 1 + 0) 0) : Nat) : Int)), (1000000, .elem 32 1 T0F 0 0)], [], [], 0⟩ ((True) ∧ (0 ≤ (((x1 &&& (-x1)).toNat : Nat) : Int) ∧ (((x1 &&& (-x1)).toNat : Nat) : Int) ≤ 4294967295) ∧ (True) ∧ (0 ≤ (27 : Int) ∧ 27 ≤ IntKind.bits .u32) ∧ (0 ≤ ((IntKind.wrap .u32 ((((x1 &&& (-x1)).toNat : Nat) : Int) * (125613361 : Int))) / 2 ^ 27) ∧ ((IntKind.wrap .u32 ((((x1 &&& (-x1)).toNat : Nat) : Int) * (125613361 : Int))) / 2 ^ 27) < 32) ∧ (-9223372036854775808 ≤ (((T0.getD (0 + ((((IntKind.wrap .u32 ((((x1 &&& (-x1)).toNat : Nat) : Int) * (125613361 : Int))) / 2 ^ 27)).toNat) * 1 + 0) 0) : Nat) : Int) ∧ (((T0.getD (0 + ((((IntKind.wrap .u32 ((((x1 &&& (-x1)).toNat : Nat) : Int) * (125613361 : Int))) / 2 ^ 27)).toNat) * 1 + 0) 0) : Nat) : Int) ≤ 9223372036854775807) ∧ True) Tryd_mixed (by kernel_rfl) ⟨trivial, ob0, trivial, ob1, ob2, ob3, trivial⟩ ?_
    refine thenQ_normal ?_
    have hret := Option.some.inj h
    subst hret
    refine AWp.le (Le.mk (s := ⟨15, [(2, .int .i64 (((T0.getD (0 + ((((IntKind.wrap .u32 ((((x1 &&& (-x1)).toNat : Nat) : Int) * (125613361 : Int))) / 2 ^ 27)).toNat) * 1 + 0) 0) : Nat) : Int)), (1000000, .elem 32 1 T0F 0 0)], [], [], 0⟩) (s' := ⟨15, [(2, .int .i64 (((T0.getD (0 + ((((IntKind.wrap .u32 ((((x1 &&& (-x1)).toNat : Nat) : Int) * (125613361 : Int))) / 2 ^ 27)).toNat) * 1 + 0) 0) : Nat) : Int))], [], [], 0⟩) rfl rfl ⟨.refl _, trivial⟩ trivial) ?_
    refine AWp.ret ?_
    exact bodyQ_ret _ rfl ⟨rfl, rfl⟩ rfl
def f76_L0 (K1 : (List Int) → Option (List Int)) : Nat → (BitVec 16 × List Int) → Option (List Int)
  | 0, _ => none
  | k + 1, (w2, l3) =>
    if (!(w2 == (BitVec.ofInt 16 0))) then (
    (f87 w2).bind fun (r4 : Int) =>
    chk (((l3).length + 1) * 8 ≤ 140737488355328) <|
    (f76_L0 K1 k) ((w2 &&& (w2 - (BitVec.ofInt 16 1))), (l3 ++ [r4]))
    ) else (
    K1 l3
    )
def f76 (x1 : BitVec 16) : Option (List Int) :=
  jn (fun (l5 : List Int) =>
  some l5
  ) fun (K1 : (List Int) → Option (List Int)) =>
  f76_L0 K1 FUEL (x1, [])
set_option maxRecDepth 100000 in
theorem f76_ok  (x1 : BitVec 16) (r : List Int) (h : f76 x1 = some r)  : Spec1 Tryd.prog 76 [(0, .elem 32 1 T0F 0 0)] [] [] [.b16 x1] (.own 3000) [(3000, bL 3 1 eI 0 r)] := by
  unfold f76 at h
  refine Spec1.body 0 _ _ Tryd.func76 rfl Tryd.ntmps76 rfl rfl ?_
  refine AWp.seq ?_
  refine AWp.regC [] [] [0, 1000000] [] ⟨16, [(0, .b16 x1), (1000000, .elem 32 1 T0F 0 0)], [], [], 0⟩ (True) Tryd_mixed (by kernel_rfl) trivial ?_
  refine thenQ_normal ?_
  refine AWp.seq ?_
  refine AWp.regC [] [] [0, 3, 1000000] [] ⟨16, [(0, .b16 x1), (3, .nils), (1000000, .elem 32 1 T0F 0 0)], [], [], 0⟩ (True) Tryd_mixed (by kernel_rfl) trivial ?_
  refine thenQ_normal ?_
  obtain ⟨K1, hK1, h⟩ := jn_some h
  refine AWp.join (α := List Int) (fun (l5 : List Int) => ⟨16, [(3, .own 5003), (1000000, .elem 32 1 T0F 0 0)], [(5003, bL 3 1 eI 0 l5)], [], 0⟩) (fun x => K1 x = some r) ?_ ?_
  ·
    refine AWp.block ?_
    refine AWp.loopL (α := Nat × (BitVec 16 × List Int)) (fun x => match x with | (_, w2, l3) => ⟨16, [(0, .b16 w2), (3, .own 5003), (1000000, .elem 32 1 T0F 0 0)], [(5003, bL 3 1 eI 0 l3)], [], 0⟩) (fun x => f76_L0 K1 x.1 x.2 = some r) (fun x => x.1) (FUEL, x1, []) (Le.trans (Le.trans (Le.nilOwn (s := ⟨16, [(0, .b16 x1), (3, .nils), (1000000, .elem 32 1 T0F 0 0)], [], [], 0⟩) 3 5003 3 1 (encF eI 0 []) rfl rfl (Nat.le_of_ble_eq_true rfl)) (Le.mk (s' := ⟨16, [(0, .b16 x1), (3, .own 5003), (1000000, .elem 32 1 T0F 0 0)], [(5003, bL 3 1 eI 0 [])], [], 0⟩) rfl rfl ⟨.refl _, .refl _, .refl _, trivial⟩ ⟨⟨_, rfl, .refl _⟩, trivial⟩)) (Le.mk (s := ⟨16, [(0, .b16 x1), (3, .own 5003), (1000000, .elem 32 1 T0F 0 0)], [(5003, bL 3 1 eI 0 [])], [], 0⟩) (s' := ⟨16, [(0, .b16 x1), (3, .own 5003), (1000000, .elem 32 1 T0F 0 0)], [(5003, bL 3 1 eI 0 [])], [], 0⟩) rfl rfl ⟨.refl _, .refl _, .refl _, trivial⟩ ⟨⟨_, rfl, .refl _⟩, trivial⟩)) h ?_
    rintro ⟨k0, w2, l3⟩ h
    cases k0 with
    | zero => exact nomatch (show (none : Option (List Int)) = some r from h)
    | succ k0 =>
    obtain ⟨C0, hC0⟩ : ∃ C, C = f76_L0 K1 k0 := ⟨_, rfl⟩
    replace h := (f76_L0.eq_2 ..).symm.trans h
    try rw [← hC0] at h
    refine AWp.seq ?_
    refine AWp.seq ?_
    refine AWp.regC [] [] [0, 3, 5, 1000000] [5003] ⟨16, [(0, .b16 w2), (3, .own 5003), (5, .bool (!(w2 == (BitVec.ofInt 16 0)))), (1000000, .elem 32 1 T0F 0 0)], [(5003, bL 3 1 eI 0 l3)], [], 0⟩ (True) Tryd_mixed (by kernel_rfl) trivial ?_
    refine thenQ_normal ?_
    refine AWp.cond (b := (!(w2 == (BitVec.ofInt 16 0)))) (by kernel_rfl) (fun hc1 => ?_) (fun hc1 => ?_)
    ·
      replace h := ite_tb hc1 h
      refine AWp.skip ?_
      refine thenQ_normal ?_
      refine AWp.seq ?_
      refine AWp.block ?_
      obtain ⟨r4, hr4, h⟩ := bind_ok h
      obtain ⟨ob0, h⟩ := chk_some h
      refine AWp.regC [] [(2, ⟨[.b16 w2], [], [], [], .int .i64 r4, [], [], [0]⟩)] [0, 3, 1000000] [5003] ⟨16, [(0, .b16 w2), (3, .own 5003), (1000000, .elem 32 1 T0F 0 0)], [(5003, .rows 3 1 ((l3).length + 1) (appF (l3).length (encF eI 0 l3) (lstF 1 [.int .i64 r4])))], [], 0⟩ ((callP Tryd.prog true 87 [(0, .elem 32 1 T0F 0 0)] [] [] [] [] [.b16 w2] [.b16 w2] (.int .i64 r4) []) ∧ (((l3).length + 1) * 8 ≤ 140737488355328) ∧ True) Tryd_mixed (by kernel_rfl) ⟨⟨fun _ => (f87_ok w2 r4 hr4), fun _ => ⟨.refl _, trivial⟩, .inl rfl⟩, ob0, trivial⟩ ?_
      refine blockQ_normal ?_
      refine thenQ_normal ?_
      refine AWp.le (Le.mk (s := ⟨16, [(0, .b16 w2), (3, .own 5003), (1000000, .elem 32 1 T0F 0 0)], [(5003, .rows 3 1 ((l3).length + 1) (appF (l3).length (encF eI 0 l3) (lstF 1 [.int .i64 r4])))], [], 0⟩) (s' := ⟨16, [(0, .b16 w2), (3, .own 5003), (1000000, .elem 32 1 T0F 0 0)], [(5003, bL 3 1 eI 0 (l3 ++ [r4]))], [], 0⟩) rfl rfl ⟨.refl _, .refl _, .refl _, trivial⟩ ⟨⟨_, rfl, (BLe.of (RL.app (RL.self _) (RL.lst (enc := eI) [r4] rfl rfl (fun _ => rfl))))⟩, trivial⟩) ?_
      refine AWp.regC [] [] [0, 3, 1000000] [5003] ⟨16, [(0, .b16 (w2 &&& (w2 - (BitVec.ofInt 16 1)))), (3, .own 5003), (1000000, .elem 32 1 T0F 0 0)], [(5003, bL 3 1 eI 0 (l3 ++ [r4]))], [], 0⟩ ((True) ∧ True) Tryd_mixed (by kernel_rfl) ⟨trivial, trivial⟩ ?_
      rw [hC0] at h
      exact loopQ_normal (_, (w2 &&& (w2 - (BitVec.ofInt 16 1))), (l3 ++ [r4])) (Le.mk (s := ⟨16, [(0, .b16 (w2 &&& (w2 - (BitVec.ofInt 16 1)))), (3, .own 5003), (1000000, .elem 32 1 T0F 0 0)], [(5003, bL 3 1 eI 0 (l3 ++ [r4]))], [], 0⟩) (s' := ⟨16, [(0, .b16 (w2 &&& (w2 - (BitVec.ofInt 16 1)))), (3, .own 5003), (1000000, .elem 32 1 T0F 0 0)], [(5003, bL 3 1 eI 0 (l3 ++ [r4]))], [], 0⟩) rfl rfl ⟨.refl _, .refl _, .refl _, trivial⟩ ⟨⟨_, rfl, .refl _⟩, trivial⟩) h (Nat.lt_succ_self _)
    ·
      replace h := ite_fb hc1 h
      refine AWp.exit ?_
      refine thenQ_exit ?_
      refine thenQ_exit ?_
      refine blockQ_same ?_
      exact joinQ_normal (l3) (Le.mk (s := ⟨16, [(0, .b16 w2), (3, .own 5003), (5, .bool (!(w2 == (BitVec.ofInt 16 0)))), (1000000, .elem 32 1 T0F 0 0)], [(5003, bL 3 1 eI 0 l3)], [], 0⟩) (s' := ⟨16, [(3, .own 5003), (1000000, .elem 32 1 T0F 0 0)], [(5003, bL 3 1 eI 0 l3)], [], 0⟩) rfl rfl ⟨.refl _, .refl _, trivial⟩ ⟨⟨_, rfl, .refl _⟩, trivial⟩) h
  ·
    rintro l5 h
    replace h := (congrFun hK1 _).symm.trans h
    refine AWp.seq ?_
    refine AWp.regC [] [] [2, 1000000] [5003] ⟨16, [(2, .own 5003), (1000000, .elem 32 1 T0F 0 0)], [(5003, bL 3 1 eI 0 l5)], [], 0⟩ (True) Tryd_mixed (by kernel_rfl) trivial ?_
    refine thenQ_normal ?_
    refine AWp.le (Le.trans (Le.ren (s := ⟨16, [(2, .own 5003), (1000000, .elem 32 1 T0F 0 0)], [(5003, bL 3 1 eI 0 l5)], [], 0⟩) (swapN 5003 3000) (swapN_inv 5003 3000) rfl) (Le.mk (s' := ⟨16, [(2, .own 3000), (1000000, .elem 32 1 T0F 0 0)], [(3000, bL 3 1 eI 0 l5)], [], 0⟩) rfl rfl ⟨.refl _, .refl _, trivial⟩ ⟨⟨_, rfl, .refl _⟩, trivial⟩)) ?_
    have hret := Option.some.inj h
    subst hret
    refine AWp.le (Le.mk (s := ⟨16, [(2, .own 3000), (1000000, .elem 32 1 T0F 0 0)], [(3000, bL 3 1 eI 0 l5)], [], 0⟩) (s' := ⟨16, [(2, .own 3000)], [(3000, bL 3 1 eI 0 l5)], [], 0⟩) rfl rfl ⟨.refl _, trivial⟩ ⟨⟨_, rfl, .refl _⟩, trivial⟩) ?_
    refine AWp.ret ?_
    exact bodyQ_ret _ rfl ⟨rfl, rfl⟩ rfl
def f106 (x1 : Int) : Option (List UInt8) :=
  if (decide (x1 < (10 : Int))) then (
  chk (-9223372036854775808 ≤ (x1 + (1 : Int)) ∧ (x1 + (1 : Int)) ≤ 9223372036854775807) <|
  chk (0 ≤ x1 ∧ x1 ≤ (x1 + (1 : Int)) ∧ (x1 + (1 : Int)) ≤ ((cs1.length : Nat) : Int)) <|
  some ((cs1.take (((x1 + (1 : Int))).toNat)).drop ((x1).toNat))
  ) else (
  chk (-9223372036854775808 ≤ (x1 * (2 : Int)) ∧ (x1 * (2 : Int)) ≤ 9223372036854775807) <|
  chk (-9223372036854775808 ≤ (x1 * (2 : Int)) ∧ (x1 * (2 : Int)) ≤ 9223372036854775807) <|
  chk (-9223372036854775808 ≤ ((x1 * (2 : Int)) + (2 : Int)) ∧ ((x1 * (2 : Int)) + (2 : Int)) ≤ 9223372036854775807) <|
  chk (0 ≤ (x1 * (2 : Int)) ∧ (x1 * (2 : Int)) ≤ ((x1 * (2 : Int)) + (2 : Int)) ∧ ((x1 * (2 : Int)) + (2 : Int)) ≤ ((cs2.length : Nat) : Int)) <|
  some ((cs2.take ((((x1 * (2 : Int)) + (2 : Int))).toNat)).drop (((x1 * (2 : Int))).toNat))
  )
set_option maxRecDepth 100000 in
theorem f106_ok  (x1 : Int) (r : List UInt8) (h : f106 x1 = some r)  : Spec1 Tryd.prog 106 [] [] [] [.int .i64 x1] (.str r) [] := by
  unfold f106 at h
  refine Spec1.body 0 _ _ Tryd.func106 rfl Tryd.ntmps106 rfl rfl ?_
  refine AWp.seq ?_
  refine AWp.regC [] [] [0] [] ⟨15, [(0, .int .i64 x1)], [], [], 0⟩ (True) Tryd_mixed (by kernel_rfl) trivial ?_
  refine thenQ_normal ?_
  refine AWp.seq ?_
  refine AWp.seq ?_
  refine AWp.regC [] [] [0, 4] [] ⟨15, [(0, .int .i64 x1), (4, .bool (decide (x1 < (10 : Int))))], [], [], 0⟩ (True) Tryd_mixed (by kernel_rfl) trivial ?_
  refine thenQ_normal ?_
  refine AWp.cond (b := (decide (x1 < (10 : Int)))) (by kernel_rfl) (fun hc1 => ?_) (fun hc1 => ?_)
  ·
    replace h := ite_tb hc1 h
    refine AWp.seq ?_
    obtain ⟨ob0, h⟩ := chk_some h
    obtain ⟨ob1, h⟩ := chk_some h
    refine AWp.regC [] [] [2] [] ⟨15, [(2, .str ((cs1.take (((x1 + (1 : Int))).toNat)).drop ((x1).toNat)))], [], [], 0⟩ ((-9223372036854775808 ≤ (x1 + (1 : Int)) ∧ (x1 + (1 : Int)) ≤ 9223372036854775807) ∧ (0 ≤ x1 ∧ x1 ≤ (x1 + (1 : Int)) ∧ (x1 + (1 : Int)) ≤ ((cs1.length : Nat) : Int)) ∧ True) Tryd_mixed (by kernel_rfl) ⟨ob0, ob1, trivial⟩ ?_
    refine thenQ_normal ?_
    have hret := Option.some.inj h
    subst hret
    refine AWp.le (Le.mk (s := ⟨15, [(2, .str ((cs1.take (((x1 + (1 : Int))).toNat)).drop ((x1).toNat)))], [], [], 0⟩) (s' := ⟨15, [(2, .str ((cs1.take (((x1 + (1 : Int))).toNat)).drop ((x1).toNat)))], [], [], 0⟩) rfl rfl ⟨.refl _, trivial⟩ trivial) ?_
    refine AWp.ret ?_
    refine thenQ_ret ?_
    exact bodyQ_ret _ rfl ⟨rfl, rfl⟩ rfl
  ·
    replace h := ite_fb hc1 h
    refine AWp.skip ?_
    refine thenQ_normal ?_
    refine AWp.seq ?_
    obtain ⟨ob2, h⟩ := chk_some h
    obtain ⟨ob3, h⟩ := chk_some h
    obtain ⟨ob4, h⟩ := chk_some h
    obtain ⟨ob5, h⟩ := chk_some h
    refine AWp.regC [] [] [2] [] ⟨15, [(2, .str ((cs2.take ((((x1 * (2 : Int)) + (2 : Int))).toNat)).drop (((x1 * (2 : Int))).toNat)))], [], [], 0⟩ ((-9223372036854775808 ≤ (x1 * (2 : Int)) ∧ (x1 * (2 : Int)) ≤ 9223372036854775807) ∧ (-9223372036854775808 ≤ (x1 * (2 : Int)) ∧ (x1 * (2 : Int)) ≤ 9223372036854775807) ∧ (-9223372036854775808 ≤ ((x1 * (2 : Int)) + (2 : Int)) ∧ ((x1 * (2 : Int)) + (2 : Int)) ≤ 9223372036854775807) ∧ (0 ≤ (x1 * (2 : Int)) ∧ (x1 * (2 : Int)) ≤ ((x1 * (2 : Int)) + (2 : Int)) ∧ ((x1 * (2 : Int)) + (2 : Int)) ≤ ((cs2.length : Nat) : Int)) ∧ True) Tryd_mixed (by kernel_rfl) ⟨ob2, ob3, ob4, ob5, trivial⟩ ?_
    refine thenQ_normal ?_
    have hret := Option.some.inj h
    subst hret
    refine AWp.le (Le.mk (s := ⟨15, [(2, .str ((cs2.take ((((x1 * (2 : Int)) + (2 : Int))).toNat)).drop (((x1 * (2 : Int))).toNat)))], [], [], 0⟩) (s' := ⟨15, [(2, .str ((cs2.take ((((x1 * (2 : Int)) + (2 : Int))).toNat)).drop (((x1 * (2 : Int))).toNat)))], [], [], 0⟩) rfl rfl ⟨.refl _, trivial⟩ trivial) ?_
    refine AWp.ret ?_
    exact bodyQ_ret _ rfl ⟨rfl, rfl⟩ rfl
def f105 (x1 : Int) : Option Int :=
  jn (fun ((i2, n3) : Int × Nat) =>
  jn (fun ((i4, n5) : Int × Nat) =>
  jn (fun ((i6, n7) : Int × Nat) =>
  chk (0 ≤ i6 ∧ i6 ≤ 255) <|
  chk (0 ≤ i6 ∧ i6 < ((cs3.length : Nat) : Int)) <|
  chk ((((cs3.getD ((i6).toNat) 0).toNat : Nat) : Int) ≤ 9223372036854775807) <|
  chk ((((n7 : Nat) : Int) + (((cs3.getD ((i6).toNat) 0).toNat : Nat) : Int)) ≤ 9223372036854775807) <|
  some (((n7 + (cs3.getD ((i6).toNat) 0).toNat) : Nat) : Int)
  ) fun (K3 : (Int × Nat) → Option Int) =>
  if (decide (i4 ≥ (256 : Int))) then (
  chk (8 ≤ IntKind.bits .u64) <|
  chk ((((n5 : Nat) : Int) + (8 : Int)) ≤ 9223372036854775807) <|
  K3 ((i4 / 2 ^ 8), (n5 + 8))
  ) else (
  K3 (i4, n5)
  )
  ) fun (K2 : (Int × Nat) → Option Int) =>
  if (decide (i2 ≥ (65536 : Int))) then (
  chk (16 ≤ IntKind.bits .u64) <|
  chk ((((n3 : Nat) : Int) + (16 : Int)) ≤ 9223372036854775807) <|
  K2 ((i2 / 2 ^ 16), (n3 + 16))
  ) else (
  K2 (i2, n3)
  )
  ) fun (K1 : (Int × Nat) → Option Int) =>
  if (decide (x1 ≥ (4294967296 : Int))) then (
  chk (32 ≤ IntKind.bits .u64) <|
  K1 ((x1 / 2 ^ 32), 32)
  ) else (
  K1 (x1, 0)
  )
set_option maxRecDepth 100000 in
theorem f105_ok  (x1 : Int) (r : Int) (h : f105 x1 = some r)  : Spec1 Tryd.prog 105 [] [] [] [.int .u64 x1] (.int .i64 r) [] := by
  unfold f105 at h
  refine Spec1.body 0 _ _ Tryd.func105 rfl Tryd.ntmps105 rfl rfl ?_
  refine AWp.seq ?_
  refine AWp.regC [] [] [0, 2] [] ⟨25, [(0, .int .u64 x1), (2, .int .i64 (0 : Int))], [], [], 0⟩ (True) Tryd_mixed (by kernel_rfl) trivial ?_
  refine thenQ_normal ?_
  obtain ⟨K1, hK1, h⟩ := jn_some h
  refine AWp.join (α := Int × Nat) (fun (x : Int × Nat) => match x with | (i2, n3) => ⟨25, [(0, .int .u64 i2), (2, .int .i64 ((n3 : Nat) : Int))], [], [], 0⟩) (fun x => K1 x = some r) ?_ ?_
  ·
    refine AWp.seq ?_
    refine AWp.regC [] [] [0, 2, 4] [] ⟨25, [(0, .int .u64 x1), (2, .int .i64 (0 : Int)), (4, .bool (decide (x1 ≥ (4294967296 : Int))))], [], [], 0⟩ (True) Tryd_mixed (by kernel_rfl) trivial ?_
    refine thenQ_normal ?_
    refine AWp.cond (b := (decide (x1 ≥ (4294967296 : Int)))) (by kernel_rfl) (fun hc1 => ?_) (fun hc1 => ?_)
    ·
      replace h := ite_tb hc1 h
      refine AWp.seq ?_
      obtain ⟨ob0p, h⟩ := chk_some h
      have ob0 : 0 ≤ (32 : Int) ∧ 32 ≤ IntKind.bits .u64 := ⟨by omega, ob0p⟩
      refine AWp.regC [] [] [0] [] ⟨25, [(0, .int .u64 (x1 / 2 ^ 32))], [], [], 0⟩ ((0 ≤ (32 : Int) ∧ 32 ≤ IntKind.bits .u64) ∧ True) Tryd_mixed (by kernel_rfl) ⟨ob0, trivial⟩ ?_
      refine thenQ_normal ?_
      refine AWp.regC [] [] [0, 2] [] ⟨25, [(0, .int .u64 (x1 / 2 ^ 32)), (2, .int .i64 (32 : Int))], [], [], 0⟩ (True) Tryd_mixed (by kernel_rfl) trivial ?_
      exact joinQ_normal ((x1 / 2 ^ 32), 32) (Le.mk (s := ⟨25, [(0, .int .u64 (x1 / 2 ^ 32)), (2, .int .i64 (32 : Int))], [], [], 0⟩) (s' := ⟨25, [(0, .int .u64 (x1 / 2 ^ 32)), (2, .int .i64 (32 : Int))], [], [], 0⟩) rfl rfl ⟨.refl _, .refl _, trivial⟩ trivial) h
    ·
      replace h := ite_fb hc1 h
      refine AWp.skip ?_
      exact joinQ_normal (x1, 0) (Le.mk (s := ⟨25, [(0, .int .u64 x1), (2, .int .i64 (0 : Int)), (4, .bool (decide (x1 ≥ (4294967296 : Int))))], [], [], 0⟩) (s' := ⟨25, [(0, .int .u64 x1), (2, .int .i64 (0 : Int))], [], [], 0⟩) rfl rfl ⟨.refl _, .refl _, trivial⟩ trivial) h
  ·
    rintro ⟨i2, n3⟩ h
    replace h := (congrFun hK1 _).symm.trans h
    obtain ⟨K2, hK2, h⟩ := jn_some h
    refine AWp.join (α := Int × Nat) (fun (x : Int × Nat) => match x with | (i4, n5) => ⟨25, [(0, .int .u64 i4), (2, .int .i64 ((n5 : Nat) : Int))], [], [], 0⟩) (fun x => K2 x = some r) ?_ ?_
    ·
      refine AWp.seq ?_
      refine AWp.regC [] [] [0, 2, 8] [] ⟨25, [(0, .int .u64 i2), (2, .int .i64 ((n3 : Nat) : Int)), (8, .bool (decide (i2 ≥ (65536 : Int))))], [], [], 0⟩ (True) Tryd_mixed (by kernel_rfl) trivial ?_
      refine thenQ_normal ?_
      refine AWp.cond (b := (decide (i2 ≥ (65536 : Int)))) (by kernel_rfl) (fun hc2 => ?_) (fun hc2 => ?_)
      ·
        replace h := ite_tb hc2 h
        refine AWp.seq ?_
        obtain ⟨ob1p, h⟩ := chk_some h
        have ob1 : 0 ≤ (16 : Int) ∧ 16 ≤ IntKind.bits .u64 := ⟨by omega, ob1p⟩
        refine AWp.regC [] [] [0, 2] [] ⟨25, [(0, .int .u64 (i2 / 2 ^ 16)), (2, .int .i64 ((n3 : Nat) : Int))], [], [], 0⟩ ((0 ≤ (16 : Int) ∧ 16 ≤ IntKind.bits .u64) ∧ True) Tryd_mixed (by kernel_rfl) ⟨ob1, trivial⟩ ?_
        refine thenQ_normal ?_
        obtain ⟨ob2p, h⟩ := chk_some h
        have ob2 : -9223372036854775808 ≤ (((n3 : Nat) : Int) + (16 : Int)) ∧ (((n3 : Nat) : Int) + (16 : Int)) ≤ 9223372036854775807 := ⟨by omega, ob2p⟩
        refine AWp.regC [] [] [0, 2] [] ⟨25, [(0, .int .u64 (i2 / 2 ^ 16)), (2, .int .i64 (((n3 + 16) : Nat) : Int))], [], [], 0⟩ ((-9223372036854775808 ≤ (((n3 : Nat) : Int) + (16 : Int)) ∧ (((n3 : Nat) : Int) + (16 : Int)) ≤ 9223372036854775807) ∧ True) Tryd_mixed (by kernel_rfl) ⟨ob2, trivial⟩ ?_
        exact joinQ_normal ((i2 / 2 ^ 16), (n3 + 16)) (Le.mk (s := ⟨25, [(0, .int .u64 (i2 / 2 ^ 16)), (2, .int .i64 (((n3 + 16) : Nat) : Int))], [], [], 0⟩) (s' := ⟨25, [(0, .int .u64 (i2 / 2 ^ 16)), (2, .int .i64 (((n3 + 16) : Nat) : Int))], [], [], 0⟩) rfl rfl ⟨.refl _, .refl _, trivial⟩ trivial) h
      ·
        replace h := ite_fb hc2 h
        refine AWp.skip ?_
        exact joinQ_normal (i2, n3) (Le.mk (s := ⟨25, [(0, .int .u64 i2), (2, .int .i64 ((n3 : Nat) : Int)), (8, .bool (decide (i2 ≥ (65536 : Int))))], [], [], 0⟩) (s' := ⟨25, [(0, .int .u64 i2), (2, .int .i64 ((n3 : Nat) : Int))], [], [], 0⟩) rfl rfl ⟨.refl _, .refl _, trivial⟩ trivial) h
    ·
      rintro ⟨i4, n5⟩ h
      replace h := (congrFun hK2 _).symm.trans h
      obtain ⟨K3, hK3, h⟩ := jn_some h
      refine AWp.join (α := Int × Nat) (fun (x : Int × Nat) => match x with | (i6, n7) => ⟨25, [(0, .int .u64 i6), (2, .int .i64 ((n7 : Nat) : Int))], [], [], 0⟩) (fun x => K3 x = some r) ?_ ?_
      ·
        refine AWp.seq ?_
        refine AWp.regC [] [] [0, 2, 14] [] ⟨25, [(0, .int .u64 i4), (2, .int .i64 ((n5 : Nat) : Int)), (14, .bool (decide (i4 ≥ (256 : Int))))], [], [], 0⟩ (True) Tryd_mixed (by kernel_rfl) trivial ?_
        refine thenQ_normal ?_
        refine AWp.cond (b := (decide (i4 ≥ (256 : Int)))) (by kernel_rfl) (fun hc3 => ?_) (fun hc3 => ?_)
        ·
          replace h := ite_tb hc3 h
          refine AWp.seq ?_
          obtain ⟨ob3p, h⟩ := chk_some h
          have ob3 : 0 ≤ (8 : Int) ∧ 8 ≤ IntKind.bits .u64 := ⟨by omega, ob3p⟩
          refine AWp.regC [] [] [0, 2] [] ⟨25, [(0, .int .u64 (i4 / 2 ^ 8)), (2, .int .i64 ((n5 : Nat) : Int))], [], [], 0⟩ ((0 ≤ (8 : Int) ∧ 8 ≤ IntKind.bits .u64) ∧ True) Tryd_mixed (by kernel_rfl) ⟨ob3, trivial⟩ ?_
          refine thenQ_normal ?_
          obtain ⟨ob4p, h⟩ := chk_some h
          have ob4 : -9223372036854775808 ≤ (((n5 : Nat) : Int) + (8 : Int)) ∧ (((n5 : Nat) : Int) + (8 : Int)) ≤ 9223372036854775807 := ⟨by omega, ob4p⟩
          refine AWp.regC [] [] [0, 2] [] ⟨25, [(0, .int .u64 (i4 / 2 ^ 8)), (2, .int .i64 (((n5 + 8) : Nat) : Int))], [], [], 0⟩ ((-9223372036854775808 ≤ (((n5 : Nat) : Int) + (8 : Int)) ∧ (((n5 : Nat) : Int) + (8 : Int)) ≤ 9223372036854775807) ∧ True) Tryd_mixed (by kernel_rfl) ⟨ob4, trivial⟩ ?_
          exact joinQ_normal ((i4 / 2 ^ 8), (n5 + 8)) (Le.mk (s := ⟨25, [(0, .int .u64 (i4 / 2 ^ 8)), (2, .int .i64 (((n5 + 8) : Nat) : Int))], [], [], 0⟩) (s' := ⟨25, [(0, .int .u64 (i4 / 2 ^ 8)), (2, .int .i64 (((n5 + 8) : Nat) : Int))], [], [], 0⟩) rfl rfl ⟨.refl _, .refl _, trivial⟩ trivial) h
        ·
          replace h := ite_fb hc3 h
          refine AWp.skip ?_
          exact joinQ_normal (i4, n5) (Le.mk (s := ⟨25, [(0, .int .u64 i4), (2, .int .i64 ((n5 : Nat) : Int)), (14, .bool (decide (i4 ≥ (256 : Int))))], [], [], 0⟩) (s' := ⟨25, [(0, .int .u64 i4), (2, .int .i64 ((n5 : Nat) : Int))], [], [], 0⟩) rfl rfl ⟨.refl _, .refl _, trivial⟩ trivial) h
      ·
        rintro ⟨i6, n7⟩ h
        replace h := (congrFun hK3 _).symm.trans h
        refine AWp.seq ?_
        obtain ⟨ob5, h⟩ := chk_some h
        obtain ⟨ob6, h⟩ := chk_some h
        obtain ⟨ob7p, h⟩ := chk_some h
        have ob7 : -9223372036854775808 ≤ (((cs3.getD ((i6).toNat) 0).toNat : Nat) : Int) ∧ (((cs3.getD ((i6).toNat) 0).toNat : Nat) : Int) ≤ 9223372036854775807 := ⟨by omega, ob7p⟩
        obtain ⟨ob8p, h⟩ := chk_some h
        have ob8 : -9223372036854775808 ≤ (((n7 : Nat) : Int) + (((cs3.getD ((i6).toNat) 0).toNat : Nat) : Int)) ∧ (((n7 : Nat) : Int) + (((cs3.getD ((i6).toNat) 0).toNat : Nat) : Int)) ≤ 9223372036854775807 := ⟨by omega, ob8p⟩
        refine AWp.regC [] [] [2] [] ⟨25, [(2, .int .i64 (((n7 + (cs3.getD ((i6).toNat) 0).toNat) : Nat) : Int))], [], [], 0⟩ ((0 ≤ i6 ∧ i6 ≤ 255) ∧ (0 ≤ i6 ∧ i6 < ((cs3.length : Nat) : Int)) ∧ (-9223372036854775808 ≤ (((cs3.getD ((i6).toNat) 0).toNat : Nat) : Int) ∧ (((cs3.getD ((i6).toNat) 0).toNat : Nat) : Int) ≤ 9223372036854775807) ∧ (-9223372036854775808 ≤ (((n7 : Nat) : Int) + (((cs3.getD ((i6).toNat) 0).toNat : Nat) : Int)) ∧ (((n7 : Nat) : Int) + (((cs3.getD ((i6).toNat) 0).toNat : Nat) : Int)) ≤ 9223372036854775807) ∧ True) Tryd_mixed (by kernel_rfl) ⟨ob5, ob6, ob7, ob8, trivial⟩ ?_
        refine thenQ_normal ?_
        have hret := Option.some.inj h
        subst hret
        refine AWp.le (Le.mk (s := ⟨25, [(2, .int .i64 (((n7 + (cs3.getD ((i6).toNat) 0).toNat) : Nat) : Int))], [], [], 0⟩) (s' := ⟨25, [(2, .int .i64 (((n7 + (cs3.getD ((i6).toNat) 0).toNat) : Nat) : Int))], [], [], 0⟩) rfl rfl ⟨.refl _, trivial⟩ trivial) ?_
        refine AWp.ret ?_
        exact bodyQ_ret _ rfl ⟨rfl, rfl⟩ rfl
def f115 (x1 : Int) : Option Int :=
  chk (-9223372036854775808 ≤ (x1 * (78913 : Int)) ∧ (x1 * (78913 : Int)) ≤ 9223372036854775807) <|
  chk (18 ≤ IntKind.bits .i64) <|
  some ((x1 * (78913 : Int)) / 2 ^ 18)
set_option maxRecDepth 100000 in
theorem f115_ok  (x1 : Int) (r : Int) (h : f115 x1 = some r)  : Spec1 Tryd.prog 115 [] [] [] [.int .i64 x1] (.int .i64 r) [] := by
  unfold f115 at h
  refine Spec1.body 0 _ _ Tryd.func115 rfl Tryd.ntmps115 rfl rfl ?_
  refine AWp.seq ?_
  refine AWp.regC [] [] [0] [] ⟨6, [(0, .int .i64 x1)], [], [], 0⟩ (True) Tryd_mixed (by kernel_rfl) trivial ?_
  refine thenQ_normal ?_
  refine AWp.seq ?_
  obtain ⟨ob0, h⟩ := chk_some h
  obtain ⟨ob1p, h⟩ := chk_some h
  have ob1 : 0 ≤ (18 : Int) ∧ 18 ≤ IntKind.bits .i64 := ⟨by omega, ob1p⟩
  refine AWp.regC [] [] [2] [] ⟨6, [(2, .int .i64 ((x1 * (78913 : Int)) / 2 ^ 18))], [], [], 0⟩ ((-9223372036854775808 ≤ (x1 * (78913 : Int)) ∧ (x1 * (78913 : Int)) ≤ 9223372036854775807) ∧ (0 ≤ (18 : Int) ∧ 18 ≤ IntKind.bits .i64) ∧ True) Tryd_mixed (by kernel_rfl) ⟨ob0, ob1, trivial⟩ ?_
  refine thenQ_normal ?_
  have hret := Option.some.inj h
  subst hret
  refine AWp.le (Le.mk (s := ⟨6, [(2, .int .i64 ((x1 * (78913 : Int)) / 2 ^ 18))], [], [], 0⟩) (s' := ⟨6, [(2, .int .i64 ((x1 * (78913 : Int)) / 2 ^ 18))], [], [], 0⟩) rfl rfl ⟨.refl _, trivial⟩ trivial) ?_
  refine AWp.ret ?_
  exact bodyQ_ret _ rfl ⟨rfl, rfl⟩ rfl
def f116 (x1 : Bool) : Option Int :=
  if x1 then (
  some (1 : Int)
  ) else (
  some (0 : Int)
  )
set_option maxRecDepth 100000 in
theorem f116_ok  (x1 : Bool) (r : Int) (h : f116 x1 = some r)  : Spec1 Tryd.prog 116 [] [] [] [.bool x1] (.int .i64 r) [] := by
  unfold f116 at h
  refine Spec1.body 0 _ _ Tryd.func116 rfl Tryd.ntmps116 rfl rfl ?_
  refine AWp.seq ?_
  refine AWp.regC [] [] [0] [] ⟨4, [(0, .bool x1)], [], [], 0⟩ (True) Tryd_mixed (by kernel_rfl) trivial ?_
  refine thenQ_normal ?_
  refine AWp.seq ?_
  refine AWp.seq ?_
  refine AWp.regC [] [] [3] [] ⟨4, [(3, .bool x1)], [], [], 0⟩ (True) Tryd_mixed (by kernel_rfl) trivial ?_
  refine thenQ_normal ?_
  refine AWp.cond (b := x1) (by kernel_rfl) (fun hc1 => ?_) (fun hc1 => ?_)
  ·
    replace h := ite_tb hc1 h
    refine AWp.seq ?_
    refine AWp.regC [] [] [2] [] ⟨4, [(2, .int .i64 (1 : Int))], [], [], 0⟩ (True) Tryd_mixed (by kernel_rfl) trivial ?_
    refine thenQ_normal ?_
    have hret := Option.some.inj h
    subst hret
    refine AWp.le (Le.mk (s := ⟨4, [(2, .int .i64 (1 : Int))], [], [], 0⟩) (s' := ⟨4, [(2, .int .i64 (1 : Int))], [], [], 0⟩) rfl rfl ⟨.refl _, trivial⟩ trivial) ?_
    refine AWp.ret ?_
    refine thenQ_ret ?_
    exact bodyQ_ret _ rfl ⟨rfl, rfl⟩ rfl
  ·
    replace h := ite_fb hc1 h
    refine AWp.skip ?_
    refine thenQ_normal ?_
    refine AWp.seq ?_
    refine AWp.regC [] [] [2] [] ⟨4, [(2, .int .i64 (0 : Int))], [], [], 0⟩ (True) Tryd_mixed (by kernel_rfl) trivial ?_
    refine thenQ_normal ?_
    have hret := Option.some.inj h
    subst hret
    refine AWp.le (Le.mk (s := ⟨4, [(2, .int .i64 (0 : Int))], [], [], 0⟩) (s' := ⟨4, [(2, .int .i64 (0 : Int))], [], [], 0⟩) rfl rfl ⟨.refl _, trivial⟩ trivial) ?_
    refine AWp.ret ?_
    exact bodyQ_ret _ rfl ⟨rfl, rfl⟩ rfl
def f107 (x1 : Int) : Option Int :=
  (f105 x1).bind fun (r2 : Int) =>
  (f115 r2).bind fun (r3 : Int) =>
  (f116 (decide (x1 ≥ (((T2.getD (0 + ((r3).toNat) * 1 + 0) 0) : Nat) : Int)))).bind fun (r4 : Int) =>
  chk (0 ≤ r3 ∧ r3 < 20) <|
  chk (-9223372036854775808 ≤ (r3 + r4) ∧ (r3 + r4) ≤ 9223372036854775807) <|
  some (r3 + r4)
set_option maxRecDepth 100000 in
theorem f107_ok  (x1 : Int) (r : Int) (h : f107 x1 = some r)  : Spec1 Tryd.prog 107 [(2, .elem 20 1 T2F 0 0)] [] [] [.int .u64 x1] (.int .i64 r) [] := by
  unfold f107 at h
  refine Spec1.body 0 _ _ Tryd.func107 rfl Tryd.ntmps107 rfl rfl ?_
  refine AWp.seq ?_
  refine AWp.regC [] [] [0, 1000002] [] ⟨15, [(0, .int .u64 x1), (1000002, .elem 20 1 T2F 0 0)], [], [], 0⟩ (True) Tryd_mixed (by kernel_rfl) trivial ?_
  refine thenQ_normal ?_
  refine AWp.seq ?_
  obtain ⟨r2, hr2, h⟩ := bind_ok h
  obtain ⟨r3, hr3, h⟩ := bind_ok h
  refine AWp.regC [] [(1, ⟨[.int .u64 x1], [], [], [], .int .i64 r2, [], [], []⟩), (2, ⟨[.int .i64 r2], [], [], [], .int .i64 r3, [], [], []⟩)] [0, 3, 1000002] [] ⟨15, [(0, .int .u64 x1), (3, .int .i64 r3), (1000002, .elem 20 1 T2F 0 0)], [], [], 0⟩ ((callP Tryd.prog true 105 [] [] [] [] [] [.int .u64 x1] [.int .u64 x1] (.int .i64 r2) []) ∧ (callP Tryd.prog true 115 [] [] [] [] [] [.int .i64 r2] [.int .i64 r2] (.int .i64 r3) []) ∧ True) Tryd_mixed (by kernel_rfl) ⟨⟨fun _ => (f105_ok x1 r2 hr2), fun _ => ⟨.refl _, trivial⟩, .inl rfl⟩, ⟨fun _ => (f115_ok r2 r3 hr3), fun _ => ⟨.refl _, trivial⟩, .inl rfl⟩, trivial⟩ ?_
  refine thenQ_normal ?_
  refine AWp.seq ?_
  obtain ⟨r4, hr4, h⟩ := bind_ok h
  obtain ⟨ob0, h⟩ := chk_some h
  obtain ⟨ob1, h⟩ := chk_some h
  refine AWp.regC [] [(6, ⟨[.bool (decide (x1 ≥ (((T2.getD (0 + ((r3).toNat) * 1 + 0) 0) : Nat) : Int)))], [], [], [], .int .i64 r4, [], [], []⟩)] [2, 1000002] [] ⟨15, [(2, .int .i64 (r3 + r4)), (1000002, .elem 20 1 T2F 0 0)], [], [], 0⟩ ((0 ≤ r3 ∧ r3 < 20) ∧ (callP Tryd.prog true 116 [] [] [] [] [] [.bool (decide (x1 ≥ (((T2.getD (0 + ((r3).toNat) * 1 + 0) 0) : Nat) : Int)))] [.bool (decide (x1 ≥ (((T2.getD (0 + ((r3).toNat) * 1 + 0) 0) : Nat) : Int)))] (.int .i64 r4) []) ∧ (-9223372036854775808 ≤ (r3 + r4) ∧ (r3 + r4) ≤ 9223372036854775807) ∧ True) Tryd_mixed (by kernel_rfl) ⟨ob0, ⟨fun _ => (f116_ok (decide (x1 ≥ (((T2.getD (0 + ((r3).toNat) * 1 + 0) 0) : Nat) : Int))) r4 hr4), fun _ => ⟨.refl _, trivial⟩, .inl rfl⟩, ob1, trivial⟩ ?_
  refine thenQ_normal ?_
  have hret := Option.some.inj h
  subst hret
  refine AWp.le (Le.mk (s := ⟨15, [(2, .int .i64 (r3 + r4)), (1000002, .elem 20 1 T2F 0 0)], [], [], 0⟩) (s' := ⟨15, [(2, .int .i64 (r3 + r4))], [], [], 0⟩) rfl rfl ⟨.refl _, trivial⟩ trivial) ?_
  refine AWp.ret ?_
  exact bodyQ_ret _ rfl ⟨rfl, rfl⟩ rfl
def f93 (x1 : Int) (x2 : Int) : Option (List UInt8) :=
  if (x2 == (10 : Int)) then (
  if ((decide ((0 : Int) ≤ x1)) && (decide (x1 < (100 : Int)))) then (
  (f106 x1).bind fun (r3 : List UInt8) =>
  some r3
  ) else (
  chk (0 ≤ x1 ∧ x1 ≤ 18446744073709551615) <|
  jn (fun (i4 : Int) =>
  (f107 i4).bind fun (_r5 : Int) =>
  none
  ) fun (K1 : Int → Option (List UInt8)) =>
  if (decide (x1 < (0 : Int))) then (
  chk (0 ≤ (0 - x1) ∧ (0 - x1) ≤ 18446744073709551615) <|
  K1 (0 - x1)
  ) else (
  K1 x1
  )
  )
  ) else (
  none
  )
set_option maxRecDepth 100000 in
theorem f93_ok  (x1 : Int) (x2 : Int) (r : List UInt8) (h : f93 x1 x2 = some r)  : Spec1 Tryd.prog 93 [(2, .elem 20 1 T2F 0 0)] [] [] [.int .i64 x1, .int .i64 x2] (.str r) [] := by
  unfold f93 at h
  refine Spec1.body 0 _ _ Tryd.func93 rfl Tryd.ntmps93 rfl rfl ?_
  refine AWp.seq ?_
  refine AWp.regC [] [] [0, 1, 1000002] [] ⟨54, [(0, .int .i64 x1), (1, .int .i64 x2), (1000002, .elem 20 1 T2F 0 0)], [], [], 0⟩ (True) Tryd_mixed (by kernel_rfl) trivial ?_
  refine thenQ_normal ?_
  refine AWp.seq ?_
  refine AWp.seq ?_
  refine AWp.regC [] [] [0, 1, 11, 1000002] [] ⟨54, [(0, .int .i64 x1), (1, .int .i64 x2), (11, .bool (x2 == (10 : Int))), (1000002, .elem 20 1 T2F 0 0)], [], [], 0⟩ (True) Tryd_mixed (by kernel_rfl) trivial ?_
  refine thenQ_normal ?_
  refine AWp.cond (b := (x2 == (10 : Int))) (by kernel_rfl) (fun hc1 => ?_) (fun hc1 => ?_)
  ·
    replace h := ite_tb hc1 h
    refine AWp.seq ?_
    refine AWp.seq ?_
    have ob0 : ((decide ((0 : Int) ≤ x1)) == true) = true → ((decide ((0 : Int) ≤ x1)) == true) = true := fun h => h
    have ob1 : true = true → (decide ((0 : Int) ≤ x1)) = true → ((decide ((0 : Int) ≤ x1)) == true) = true := fun _ h => beq_iff_eq.2 h
    refine AWp.regC [] [] [0, 17, 1000002] [] ⟨54, [(0, .int .i64 x1), (17, .bool ((decide ((0 : Int) ≤ x1)) && (decide (x1 < (100 : Int))))), (1000002, .elem 20 1 T2F 0 0)], [], [], 0⟩ (((((decide ((0 : Int) ≤ x1)) == true) = true → ((decide ((0 : Int) ≤ x1)) == true) = true) ∧ True) ∧ (true = true → (decide ((0 : Int) ≤ x1)) = true → ((decide ((0 : Int) ≤ x1)) == true) = true) ∧ True) Tryd_mixed (by kernel_rfl) ⟨⟨ob0, trivial⟩, ob1, trivial⟩ ?_
    refine thenQ_normal ?_
    refine AWp.cond (b := ((decide ((0 : Int) ≤ x1)) && (decide (x1 < (100 : Int))))) (by kernel_rfl) (fun hc2 => ?_) (fun hc2 => ?_)
    ·
      replace h := ite_tb hc2 h
      refine AWp.seq ?_
      obtain ⟨r3, hr3, h⟩ := bind_ok h
      refine AWp.regC [] [(1, ⟨[.int .i64 x1], [], [], [], .str r3, [], [], []⟩)] [4, 1000002] [] ⟨54, [(4, .str r3), (1000002, .elem 20 1 T2F 0 0)], [], [], 0⟩ ((callP Tryd.prog true 106 [] [] [] [] [] [.int .i64 x1] [.int .i64 x1] (.str r3) []) ∧ True) Tryd_mixed (by kernel_rfl) ⟨⟨fun _ => (f106_ok x1 r3 hr3), fun _ => ⟨.refl _, trivial⟩, .inl rfl⟩, trivial⟩ ?_
      refine thenQ_normal ?_
      have hret := Option.some.inj h
      subst hret
      refine AWp.le (Le.mk (s := ⟨54, [(4, .str r3), (1000002, .elem 20 1 T2F 0 0)], [], [], 0⟩) (s' := ⟨54, [(4, .str r3)], [], [], 0⟩) rfl rfl ⟨.refl _, trivial⟩ trivial) ?_
      refine AWp.ret ?_
      refine thenQ_ret ?_
      refine thenQ_ret ?_
      exact bodyQ_ret _ rfl ⟨rfl, rfl⟩ rfl
    ·
      replace h := ite_fb hc2 h
      refine AWp.skip ?_
      refine thenQ_normal ?_
      refine AWp.seq ?_
      refine AWp.regC [] [] [0, 5, 1000002] [5] ⟨54, [(0, .int .i64 x1), (5, .ptr 5 0), (1000002, .elem 20 1 T2F 0 0)], [(5, .cells 113 [.int .u8 (0 : Int), .int .u8 (0 : Int), .int .u8 (0 : Int), .int .u8 (0 : Int), .int .u8 (0 : Int), .int .u8 (0 : Int), .int .u8 (0 : Int), .int .u8 (0 : Int), .int .u8 (0 : Int), .int .u8 (0 : Int), .int .u8 (0 : Int), .int .u8 (0 : Int), .int .u8 (0 : Int), .int .u8 (0 : Int), .int .u8 (0 : Int), .int .u8 (0 : Int), .int .u8 (0 : Int), .int .u8 (0 : Int), .int .u8 (0 : Int), .int .u8 (0 : Int), .int .u8 (0 : Int), .int .u8 (0 : Int), .int .u8 (0 : Int), .int .u8 (0 : Int)])], [], 0⟩ (True) Tryd_mixed (by kernel_rfl) trivial ?_
      refine thenQ_normal ?_
      refine AWp.seq ?_
      obtain ⟨ob2, h⟩ := chk_some h
      refine AWp.regC [] [] [0, 5, 6, 1000002] [5] ⟨54, [(0, .int .i64 x1), (5, .ptr 5 0), (6, .int .u64 x1), (1000002, .elem 20 1 T2F 0 0)], [(5, .cells 113 [.int .u8 (0 : Int), .int .u8 (0 : Int), .int .u8 (0 : Int), .int .u8 (0 : Int), .int .u8 (0 : Int), .int .u8 (0 : Int), .int .u8 (0 : Int), .int .u8 (0 : Int), .int .u8 (0 : Int), .int .u8 (0 : Int), .int .u8 (0 : Int), .int .u8 (0 : Int), .int .u8 (0 : Int), .int .u8 (0 : Int), .int .u8 (0 : Int), .int .u8 (0 : Int), .int .u8 (0 : Int), .int .u8 (0 : Int), .int .u8 (0 : Int), .int .u8 (0 : Int), .int .u8 (0 : Int), .int .u8 (0 : Int), .int .u8 (0 : Int), .int .u8 (0 : Int)])], [], 0⟩ ((0 ≤ x1 ∧ x1 ≤ 18446744073709551615) ∧ True) Tryd_mixed (by kernel_rfl) ⟨ob2, trivial⟩ ?_
      refine thenQ_normal ?_
      obtain ⟨K1, hK1, h⟩ := jn_some h
      refine AWp.join (α := Int) (fun (i4 : Int) => ⟨54, [(0, .int .i64 x1), (5, .ptr 5 0), (6, .int .u64 i4), (1000002, .elem 20 1 T2F 0 0)], [(5, .cells 113 [.int .u8 (0 : Int), .int .u8 (0 : Int), .int .u8 (0 : Int), .int .u8 (0 : Int), .int .u8 (0 : Int), .int .u8 (0 : Int), .int .u8 (0 : Int), .int .u8 (0 : Int), .int .u8 (0 : Int), .int .u8 (0 : Int), .int .u8 (0 : Int), .int .u8 (0 : Int), .int .u8 (0 : Int), .int .u8 (0 : Int), .int .u8 (0 : Int), .int .u8 (0 : Int), .int .u8 (0 : Int), .int .u8 (0 : Int), .int .u8 (0 : Int), .int .u8 (0 : Int), .int .u8 (0 : Int), .int .u8 (0 : Int), .int .u8 (0 : Int), .int .u8 (0 : Int)])], [], 0⟩) (fun x => K1 x = some r) ?_ ?_
      ·
        refine AWp.seq ?_
        refine AWp.regC [] [] [0, 5, 6, 23, 1000002] [5] ⟨54, [(0, .int .i64 x1), (5, .ptr 5 0), (6, .int .u64 x1), (23, .bool (decide (x1 < (0 : Int)))), (1000002, .elem 20 1 T2F 0 0)], [(5, .cells 113 [.int .u8 (0 : Int), .int .u8 (0 : Int), .int .u8 (0 : Int), .int .u8 (0 : Int), .int .u8 (0 : Int), .int .u8 (0 : Int), .int .u8 (0 : Int), .int .u8 (0 : Int), .int .u8 (0 : Int), .int .u8 (0 : Int), .int .u8 (0 : Int), .int .u8 (0 : Int), .int .u8 (0 : Int), .int .u8 (0 : Int), .int .u8 (0 : Int), .int .u8 (0 : Int), .int .u8 (0 : Int), .int .u8 (0 : Int), .int .u8 (0 : Int), .int .u8 (0 : Int), .int .u8 (0 : Int), .int .u8 (0 : Int), .int .u8 (0 : Int), .int .u8 (0 : Int)])], [], 0⟩ (True) Tryd_mixed (by kernel_rfl) trivial ?_
        refine thenQ_normal ?_
        refine AWp.cond (b := (decide (x1 < (0 : Int)))) (by kernel_rfl) (fun hc3 => ?_) (fun hc3 => ?_)
        ·
          replace h := ite_tb hc3 h
          obtain ⟨ob3, h⟩ := chk_some h
          refine AWp.regC [] [] [0, 5, 6, 1000002] [5] ⟨54, [(0, .int .i64 x1), (5, .ptr 5 0), (6, .int .u64 (0 - x1)), (1000002, .elem 20 1 T2F 0 0)], [(5, .cells 113 [.int .u8 (0 : Int), .int .u8 (0 : Int), .int .u8 (0 : Int), .int .u8 (0 : Int), .int .u8 (0 : Int), .int .u8 (0 : Int), .int .u8 (0 : Int), .int .u8 (0 : Int), .int .u8 (0 : Int), .int .u8 (0 : Int), .int .u8 (0 : Int), .int .u8 (0 : Int), .int .u8 (0 : Int), .int .u8 (0 : Int), .int .u8 (0 : Int), .int .u8 (0 : Int), .int .u8 (0 : Int), .int .u8 (0 : Int), .int .u8 (0 : Int), .int .u8 (0 : Int), .int .u8 (0 : Int), .int .u8 (0 : Int), .int .u8 (0 : Int), .int .u8 (0 : Int)])], [], 0⟩ ((0 ≤ (0 - x1) ∧ (0 - x1) ≤ 18446744073709551615) ∧ True) Tryd_mixed (by kernel_rfl) ⟨ob3, trivial⟩ ?_
          exact joinQ_normal ((0 - x1)) (Le.mk (s := ⟨54, [(0, .int .i64 x1), (5, .ptr 5 0), (6, .int .u64 (0 - x1)), (1000002, .elem 20 1 T2F 0 0)], [(5, .cells 113 [.int .u8 (0 : Int), .int .u8 (0 : Int), .int .u8 (0 : Int), .int .u8 (0 : Int), .int .u8 (0 : Int), .int .u8 (0 : Int), .int .u8 (0 : Int), .int .u8 (0 : Int), .int .u8 (0 : Int), .int .u8 (0 : Int), .int .u8 (0 : Int), .int .u8 (0 : Int), .int .u8 (0 : Int), .int .u8 (0 : Int), .int .u8 (0 : Int), .int .u8 (0 : Int), .int .u8 (0 : Int), .int .u8 (0 : Int), .int .u8 (0 : Int), .int .u8 (0 : Int), .int .u8 (0 : Int), .int .u8 (0 : Int), .int .u8 (0 : Int), .int .u8 (0 : Int)])], [], 0⟩) (s' := ⟨54, [(0, .int .i64 x1), (5, .ptr 5 0), (6, .int .u64 (0 - x1)), (1000002, .elem 20 1 T2F 0 0)], [(5, .cells 113 [.int .u8 (0 : Int), .int .u8 (0 : Int), .int .u8 (0 : Int), .int .u8 (0 : Int), .int .u8 (0 : Int), .int .u8 (0 : Int), .int .u8 (0 : Int), .int .u8 (0 : Int), .int .u8 (0 : Int), .int .u8 (0 : Int), .int .u8 (0 : Int), .int .u8 (0 : Int), .int .u8 (0 : Int), .int .u8 (0 : Int), .int .u8 (0 : Int), .int .u8 (0 : Int), .int .u8 (0 : Int), .int .u8 (0 : Int), .int .u8 (0 : Int), .int .u8 (0 : Int), .int .u8 (0 : Int), .int .u8 (0 : Int), .int .u8 (0 : Int), .int .u8 (0 : Int)])], [], 0⟩) rfl rfl ⟨.refl _, .refl _, .refl _, .refl _, trivial⟩ ⟨⟨_, rfl, .refl _⟩, trivial⟩) h
        ·
          replace h := ite_fb hc3 h
          refine AWp.skip ?_
          exact joinQ_normal (x1) (Le.mk (s := ⟨54, [(0, .int .i64 x1), (5, .ptr 5 0), (6, .int .u64 x1), (23, .bool (decide (x1 < (0 : Int)))), (1000002, .elem 20 1 T2F 0 0)], [(5, .cells 113 [.int .u8 (0 : Int), .int .u8 (0 : Int), .int .u8 (0 : Int), .int .u8 (0 : Int), .int .u8 (0 : Int), .int .u8 (0 : Int), .int .u8 (0 : Int), .int .u8 (0 : Int), .int .u8 (0 : Int), .int .u8 (0 : Int), .int .u8 (0 : Int), .int .u8 (0 : Int), .int .u8 (0 : Int), .int .u8 (0 : Int), .int .u8 (0 : Int), .int .u8 (0 : Int), .int .u8 (0 : Int), .int .u8 (0 : Int), .int .u8 (0 : Int), .int .u8 (0 : Int), .int .u8 (0 : Int), .int .u8 (0 : Int), .int .u8 (0 : Int), .int .u8 (0 : Int)])], [], 0⟩) (s' := ⟨54, [(0, .int .i64 x1), (5, .ptr 5 0), (6, .int .u64 x1), (1000002, .elem 20 1 T2F 0 0)], [(5, .cells 113 [.int .u8 (0 : Int), .int .u8 (0 : Int), .int .u8 (0 : Int), .int .u8 (0 : Int), .int .u8 (0 : Int), .int .u8 (0 : Int), .int .u8 (0 : Int), .int .u8 (0 : Int), .int .u8 (0 : Int), .int .u8 (0 : Int), .int .u8 (0 : Int), .int .u8 (0 : Int), .int .u8 (0 : Int), .int .u8 (0 : Int), .int .u8 (0 : Int), .int .u8 (0 : Int), .int .u8 (0 : Int), .int .u8 (0 : Int), .int .u8 (0 : Int), .int .u8 (0 : Int), .int .u8 (0 : Int), .int .u8 (0 : Int), .int .u8 (0 : Int), .int .u8 (0 : Int)])], [], 0⟩) rfl rfl ⟨.refl _, .refl _, .refl _, .refl _, trivial⟩ ⟨⟨_, rfl, .refl _⟩, trivial⟩) h
      ·
        rintro i4 h
        replace h := (congrFun hK1 _).symm.trans h
        refine AWp.seq ?_
        obtain ⟨r5, hr5, h⟩ := bind_ok h
        refine AWp.regC [] [(1, ⟨[.int .u64 i4], [], [], [], .int .i64 r5, [], [], [2]⟩)] [0, 5, 6, 7, 1000002] [5] ⟨54, [(0, .int .i64 x1), (5, .ptr 5 0), (6, .int .u64 i4), (7, .int .i64 r5), (1000002, .elem 20 1 T2F 0 0)], [(5, .cells 113 [.int .u8 (0 : Int), .int .u8 (0 : Int), .int .u8 (0 : Int), .int .u8 (0 : Int), .int .u8 (0 : Int), .int .u8 (0 : Int), .int .u8 (0 : Int), .int .u8 (0 : Int), .int .u8 (0 : Int), .int .u8 (0 : Int), .int .u8 (0 : Int), .int .u8 (0 : Int), .int .u8 (0 : Int), .int .u8 (0 : Int), .int .u8 (0 : Int), .int .u8 (0 : Int), .int .u8 (0 : Int), .int .u8 (0 : Int), .int .u8 (0 : Int), .int .u8 (0 : Int), .int .u8 (0 : Int), .int .u8 (0 : Int), .int .u8 (0 : Int), .int .u8 (0 : Int)])], [], 0⟩ ((callP Tryd.prog true 107 [(2, .elem 20 1 T2F 0 0)] [] [] [] [] [.int .u64 i4] [.int .u64 i4] (.int .i64 r5) []) ∧ True) Tryd_mixed (by kernel_rfl) ⟨⟨fun _ => (f107_ok i4 r5 hr5), fun _ => ⟨.refl _, trivial⟩, .inl rfl⟩, trivial⟩ ?_
        refine thenQ_normal ?_
        refine AWp.seq ?_
        exact nomatch (show (none : Option (List UInt8)) = some r from h)
  ·
    replace h := ite_fb hc1 h
    refine AWp.skip ?_
    refine thenQ_normal ?_
    refine AWp.seq ?_
    exact nomatch (show (none : Option (List UInt8)) = some r from h)
def f88 (x1 : Int) : Option (List UInt8) :=
  (f93 x1 (10 : Int)).bind fun (r2 : List UInt8) =>
  some r2
set_option maxRecDepth 100000 in
theorem f88_ok  (x1 : Int) (r : List UInt8) (h : f88 x1 = some r)  : Spec1 Tryd.prog 88 [(2, .elem 20 1 T2F 0 0)] [] [] [.int .i64 x1] (.str r) [] := by
  unfold f88 at h
  refine Spec1.body 0 _ _ Tryd.func88 rfl Tryd.ntmps88 rfl rfl ?_
  refine AWp.seq ?_
  refine AWp.regC [] [] [0, 1000002] [] ⟨5, [(0, .int .i64 x1), (1000002, .elem 20 1 T2F 0 0)], [], [], 0⟩ (True) Tryd_mixed (by kernel_rfl) trivial ?_
  refine thenQ_normal ?_
  refine AWp.seq ?_
  obtain ⟨r2, hr2, h⟩ := bind_ok h
  refine AWp.regC [] [(1, ⟨[.int .i64 x1, .int .i64 (10 : Int)], [], [], [], .str r2, [], [], [2]⟩)] [2, 1000002] [] ⟨5, [(2, .str r2), (1000002, .elem 20 1 T2F 0 0)], [], [], 0⟩ ((callP Tryd.prog true 93 [(2, .elem 20 1 T2F 0 0)] [] [] [] [] [.int .i64 x1, .int .i64 (10 : Int)] [.int .i64 x1, .int .i64 (10 : Int)] (.str r2) []) ∧ True) Tryd_mixed (by kernel_rfl) ⟨⟨fun _ => (f93_ok x1 (10 : Int) r2 hr2), fun _ => ⟨.refl _, .refl _, trivial⟩, .inl rfl⟩, trivial⟩ ?_
  refine thenQ_normal ?_
  have hret := Option.some.inj h
  subst hret
  refine AWp.le (Le.mk (s := ⟨5, [(2, .str r2), (1000002, .elem 20 1 T2F 0 0)], [], [], 0⟩) (s' := ⟨5, [(2, .str r2)], [], [], 0⟩) rfl rfl ⟨.refl _, trivial⟩ trivial) ?_
  refine AWp.ret ?_
  exact bodyQ_ret _ rfl ⟨rfl, rfl⟩ rfl
def f77 (x1 : Int) : Option (List UInt8) :=
  (f88 x1).bind fun (r2 : List UInt8) =>
  some r2
set_option maxRecDepth 100000 in
theorem f77_ok  (x1 : Int) (r : List UInt8) (h : f77 x1 = some r)  : Spec1 Tryd.prog 77 [(2, .elem 20 1 T2F 0 0)] [] [] [.int .i64 x1] (.str r) [] := by
  unfold f77 at h
  refine Spec1.body 0 _ _ Tryd.func77 rfl Tryd.ntmps77 rfl rfl ?_
  refine AWp.seq ?_
  refine AWp.regC [] [] [0, 1000002] [] ⟨5, [(0, .int .i64 x1), (1000002, .elem 20 1 T2F 0 0)], [], [], 0⟩ (True) Tryd_mixed (by kernel_rfl) trivial ?_
  refine thenQ_normal ?_
  refine AWp.seq ?_
  obtain ⟨r2, hr2, h⟩ := bind_ok h
  refine AWp.regC [] [(1, ⟨[.int .i64 x1], [], [], [], .str r2, [], [], [2]⟩)] [2, 1000002] [] ⟨5, [(2, .str r2), (1000002, .elem 20 1 T2F 0 0)], [], [], 0⟩ ((callP Tryd.prog true 88 [(2, .elem 20 1 T2F 0 0)] [] [] [] [] [.int .i64 x1] [.int .i64 x1] (.str r2) []) ∧ True) Tryd_mixed (by kernel_rfl) ⟨⟨fun _ => (f88_ok x1 r2 hr2), fun _ => ⟨.refl _, trivial⟩, .inl rfl⟩, trivial⟩ ?_
  refine thenQ_normal ?_
  have hret := Option.some.inj h
  subst hret
  refine AWp.le (Le.mk (s := ⟨5, [(2, .str r2), (1000002, .elem 20 1 T2F 0 0)], [], [], 0⟩) (s' := ⟨5, [(2, .str r2)], [], [], 0⟩) rfl rfl ⟨.refl _, trivial⟩ trivial) ?_
  refine AWp.ret ?_
  exact bodyQ_ret _ rfl ⟨rfl, rfl⟩ rfl
def f61 (x1 : List (List UInt8)) (x2 : List UInt8) : Option (List UInt8) := joinP x1 x2
theorem f61_ok (x1 : List (List UInt8)) (x2 : List UInt8) (r : List UInt8) (h : f61 x1 x2 = some r) : Spec1 Tryd.prog 61 [] [] [] [vL 1 eS [] x1, .str x2] (.str r) [] :=
  join_spec (fun a c sep w => Any.strings_Join_none Tryd.lays156 Tryd.Builder_Extra_156 a c sep w) (fun bk o c xs sep w h1 h2 h3 h4 h5 => Any.strings_Join Tryd.lays156 Tryd.Builder_Extra_156 bk o c xs sep w h1 h2 h3 h4 h5) x1 x2 r h
def f60_L0 (K1 : (List (List UInt8)) → Option (List UInt8)) (r2 : List Int) : Nat → (Nat × List (List UInt8)) → Option (List UInt8)
  | 0, _ => none
  | k + 1, (n3, l4) =>
    if (decide (((n3 : Nat) : Int) < (((r2).length : Nat) : Int))) then (
    chk (((n3 : Nat) : Int) < (((r2).length : Nat) : Int)) <|
    chk (n3 < (r2).length) <|
    (f77 (r2.getD n3 0)).bind fun (r5 : List UInt8) =>
    chk (((l4).length + 1) * 16 ≤ 140737488355328) <|
    chk ((((n3 : Nat) : Int) + (1 : Int)) ≤ 9223372036854775807) <|
    (f60_L0 K1 r2 k) ((n3 + 1), (l4 ++ [r5]))
    ) else (
    K1 l4
    )
def f60 (x1 : BitVec 16) : Option (List UInt8) :=
  jn (fun (l6 : List (List UInt8)) =>
  (f61 l6 ([32] : List UInt8)).bind fun (r7 : List UInt8) =>
  chk (([123] : List UInt8).length + r7.length ≤ 9223372036854775807) <|
  chk ((([123] : List UInt8) ++ r7).length + ([125] : List UInt8).length ≤ 9223372036854775807) <|
  some ((([123] : List UInt8) ++ r7) ++ ([125] : List UInt8))
  ) fun (K1 : (List (List UInt8)) → Option (List UInt8)) =>
  (f76 x1).bind fun (r2 : List Int) =>
  f60_L0 K1 r2 FUEL (0, [])
set_option maxRecDepth 100000 in
theorem f60_ok  (x1 : BitVec 16) (r : List UInt8) (h : f60 x1 = some r)  : Spec1 Tryd.prog 60 [(0, .elem 32 1 T0F 0 0), (2, .elem 20 1 T2F 0 0)] [] [] [.b16 x1] (.str r) [] := by
  unfold f60 at h
  refine Spec1.body 0 _ _ Tryd.func60 rfl Tryd.ntmps60 rfl rfl ?_
  refine AWp.seq ?_
  refine AWp.regC [] [] [0, 1000000, 1000002] [] ⟨23, [(0, .b16 x1), (1000000, .elem 32 1 T0F 0 0), (1000002, .elem 20 1 T2F 0 0)], [], [], 0⟩ (True) Tryd_mixed (by kernel_rfl) trivial ?_
  refine thenQ_normal ?_
  refine AWp.seq ?_
  refine AWp.regC [] [] [0, 3, 1000000, 1000002] [] ⟨23, [(0, .b16 x1), (3, .nils), (1000000, .elem 32 1 T0F 0 0), (1000002, .elem 20 1 T2F 0 0)], [], [], 0⟩ (True) Tryd_mixed (by kernel_rfl) trivial ?_
  refine thenQ_normal ?_
  obtain ⟨K1, hK1, h⟩ := jn_some h
  refine AWp.join (α := List (List UInt8)) (fun (l6 : List (List UInt8)) => ⟨23, [(3, .own 5003), (1000000, .elem 32 1 T0F 0 0), (1000002, .elem 20 1 T2F 0 0)], [(5003, bL 9 1 eS [] l6)], [], 0⟩) (fun x => K1 x = some r) ?_ ?_
  ·
    refine AWp.seq ?_
    obtain ⟨r2, hr2, h⟩ := bind_ok h
    refine AWp.regC [] [(1, ⟨[.b16 x1], [], [], [(6001, bL 3 1 eI 0 r2)], .own 6001, [6001], [], [0]⟩)] [3, 7, 8, 9, 1000000, 1000002] [6001] ⟨23, [(3, .nils), (7, .own 6001), (8, .int .i64 (((r2).length : Nat) : Int)), (9, .int .i64 (0 : Int)), (1000000, .elem 32 1 T0F 0 0), (1000002, .elem 20 1 T2F 0 0)], [(6001, bL 3 1 eI 0 r2)], [], 0⟩ ((callP Tryd.prog true 76 [(0, .elem 32 1 T0F 0 0)] [] [] [] [] [.b16 x1] [.b16 x1] (.own 6001) [(6001, bL 3 1 eI 0 r2)]) ∧ True) Tryd_mixed (by kernel_rfl) ⟨⟨fun _ => (Spec1.ren (swapN 3000 6001) (swapN_inv 3000 6001) rfl (f76_ok x1 r2 hr2)), fun _ => ⟨.refl _, trivial⟩, .inl rfl⟩, trivial⟩ ?_
    refine thenQ_normal ?_
    refine AWp.block ?_
    refine AWp.loopL (α := Nat × (Nat × List (List UInt8))) (fun x => match x with | (_, n3, l4) => ⟨23, [(3, .own 5003), (7, .own 6001), (8, .int .i64 (((r2).length : Nat) : Int)), (9, .int .i64 ((n3 : Nat) : Int)), (1000000, .elem 32 1 T0F 0 0), (1000002, .elem 20 1 T2F 0 0)], [(5003, bL 9 1 eS [] l4), (6001, bL 3 1 eI 0 r2)], [], 0⟩) (fun x => f60_L0 K1 r2 x.1 x.2 = some r) (fun x => x.1) (FUEL, 0, []) (Le.trans (Le.trans (Le.nilOwn (s := ⟨23, [(3, .nils), (7, .own 6001), (8, .int .i64 (((r2).length : Nat) : Int)), (9, .int .i64 (0 : Int)), (1000000, .elem 32 1 T0F 0 0), (1000002, .elem 20 1 T2F 0 0)], [(6001, bL 3 1 eI 0 r2)], [], 0⟩) 3 5003 9 1 (encF eS [] []) rfl rfl (Nat.le_of_ble_eq_true rfl)) (Le.mk (s' := ⟨23, [(3, .own 5003), (7, .own 6001), (8, .int .i64 (((r2).length : Nat) : Int)), (9, .int .i64 (0 : Int)), (1000000, .elem 32 1 T0F 0 0), (1000002, .elem 20 1 T2F 0 0)], [(6001, bL 3 1 eI 0 r2), (5003, bL 9 1 eS [] [])], [], 0⟩) rfl rfl ⟨.refl _, .refl _, .refl _, .refl _, .refl _, .refl _, trivial⟩ ⟨⟨_, rfl, .refl _⟩, ⟨_, rfl, .refl _⟩, trivial⟩)) (Le.mk (s := ⟨23, [(3, .own 5003), (7, .own 6001), (8, .int .i64 (((r2).length : Nat) : Int)), (9, .int .i64 (0 : Int)), (1000000, .elem 32 1 T0F 0 0), (1000002, .elem 20 1 T2F 0 0)], [(6001, bL 3 1 eI 0 r2), (5003, bL 9 1 eS [] [])], [], 0⟩) (s' := ⟨23, [(3, .own 5003), (7, .own 6001), (8, .int .i64 (((r2).length : Nat) : Int)), (9, .int .i64 (0 : Int)), (1000000, .elem 32 1 T0F 0 0), (1000002, .elem 20 1 T2F 0 0)], [(5003, bL 9 1 eS [] []), (6001, bL 3 1 eI 0 r2)], [], 0⟩) rfl rfl ⟨.refl _, .refl _, .refl _, .refl _, .refl _, .refl _, trivial⟩ ⟨⟨_, rfl, .refl _⟩, ⟨_, rfl, .refl _⟩, trivial⟩)) h ?_
    rintro ⟨k0, n3, l4⟩ h
    cases k0 with
    | zero => exact nomatch (show (none : Option (List UInt8)) = some r from h)
    | succ k0 =>
    obtain ⟨C0, hC0⟩ : ∃ C, C = f60_L0 K1 r2 k0 := ⟨_, rfl⟩
    replace h := (f60_L0.eq_2 ..).symm.trans h
    try rw [← hC0] at h
    refine AWp.seq ?_
    refine AWp.regC [] [] [3, 7, 8, 9, 10, 1000000, 1000002] [5003, 6001] ⟨23, [(3, .own 5003), (7, .own 6001), (8, .int .i64 (((r2).length : Nat) : Int)), (9, .int .i64 ((n3 : Nat) : Int)), (10, .bool (decide (((n3 : Nat) : Int) < (((r2).length : Nat) : Int)))), (1000000, .elem 32 1 T0F 0 0), (1000002, .elem 20 1 T2F 0 0)], [(5003, bL 9 1 eS [] l4), (6001, bL 3 1 eI 0 r2)], [], 0⟩ (True) Tryd_mixed (by kernel_rfl) trivial ?_
    refine thenQ_normal ?_
    refine AWp.seq ?_
    refine AWp.cond (b := (decide (((n3 : Nat) : Int) < (((r2).length : Nat) : Int)))) (by kernel_rfl) (fun hc1 => ?_) (fun hc1 => ?_)
    ·
      replace h := ite_tb hc1 h
      refine AWp.skip ?_
      refine thenQ_normal ?_
      refine AWp.seq ?_
      refine AWp.block ?_
      refine AWp.seq ?_
      obtain ⟨ob0p, h⟩ := chk_some h
      have ob0 : 0 ≤ ((n3 : Nat) : Int) ∧ ((n3 : Nat) : Int) < (((r2).length : Nat) : Int) := ⟨by omega, ob0p⟩
      obtain ⟨ob1, h⟩ := chk_some h
      refine AWp.regC [] [] [3, 5, 7, 8, 9, 1000000, 1000002] [5003, 6001] ⟨23, [(3, .own 5003), (5, .int .i64 (r2.getD n3 0)), (7, .own 6001), (8, .int .i64 (((r2).length : Nat) : Int)), (9, .int .i64 ((n3 : Nat) : Int)), (1000000, .elem 32 1 T0F 0 0), (1000002, .elem 20 1 T2F 0 0)], [(5003, bL 9 1 eS [] l4), (6001, bL 3 1 eI 0 r2)], [], 0⟩ ((0 ≤ ((n3 : Nat) : Int) ∧ ((n3 : Nat) : Int) < (((r2).length : Nat) : Int)) ∧ (n3 < (r2).length) ∧ True) Tryd_mixed (by kernel_rfl) ⟨ob0, ob1, trivial⟩ ?_
      refine thenQ_normal ?_
      obtain ⟨r5, hr5, h⟩ := bind_ok h
      obtain ⟨ob2, h⟩ := chk_some h
      refine AWp.regC [] [(2, ⟨[.int .i64 (r2.getD n3 0)], [], [], [], .str r5, [], [], [2]⟩)] [3, 7, 8, 9, 1000000, 1000002] [5003, 6001] ⟨23, [(3, .own 5003), (7, .own 6001), (8, .int .i64 (((r2).length : Nat) : Int)), (9, .int .i64 ((n3 : Nat) : Int)), (1000000, .elem 32 1 T0F 0 0), (1000002, .elem 20 1 T2F 0 0)], [(5003, .rows 9 1 ((l4).length + 1) (appF (l4).length (encF eS [] l4) (lstF 1 [.str r5]))), (6001, bL 3 1 eI 0 r2)], [], 0⟩ ((callP Tryd.prog true 77 [(2, .elem 20 1 T2F 0 0)] [] [] [] [] [.int .i64 (r2.getD n3 0)] [.int .i64 (r2.getD n3 0)] (.str r5) []) ∧ (((l4).length + 1) * 16 ≤ 140737488355328) ∧ True) Tryd_mixed (by kernel_rfl) ⟨⟨fun _ => (f77_ok (r2.getD n3 0) r5 hr5), fun _ => ⟨.refl _, trivial⟩, .inl rfl⟩, ob2, trivial⟩ ?_
      refine blockQ_normal ?_
      refine thenQ_normal ?_
      refine AWp.le (Le.mk (s := ⟨23, [(3, .own 5003), (7, .own 6001), (8, .int .i64 (((r2).length : Nat) : Int)), (9, .int .i64 ((n3 : Nat) : Int)), (1000000, .elem 32 1 T0F 0 0), (1000002, .elem 20 1 T2F 0 0)], [(5003, .rows 9 1 ((l4).length + 1) (appF (l4).length (encF eS [] l4) (lstF 1 [.str r5]))), (6001, bL 3 1 eI 0 r2)], [], 0⟩) (s' := ⟨23, [(3, .own 5003), (7, .own 6001), (8, .int .i64 (((r2).length : Nat) : Int)), (9, .int .i64 ((n3 : Nat) : Int)), (1000000, .elem 32 1 T0F 0 0), (1000002, .elem 20 1 T2F 0 0)], [(5003, bL 9 1 eS [] (l4 ++ [r5])), (6001, bL 3 1 eI 0 r2)], [], 0⟩) rfl rfl ⟨.refl _, .refl _, .refl _, .refl _, .refl _, .refl _, trivial⟩ ⟨⟨_, rfl, (BLe.of (RL.app (RL.self _) (RL.lst (enc := eS) [r5] rfl rfl (fun _ => rfl))))⟩, ⟨_, rfl, .refl _⟩, trivial⟩) ?_
      obtain ⟨ob3p, h⟩ := chk_some h
      have ob3 : -9223372036854775808 ≤ (((n3 : Nat) : Int) + (1 : Int)) ∧ (((n3 : Nat) : Int) + (1 : Int)) ≤ 9223372036854775807 := ⟨by omega, ob3p⟩
      refine AWp.regC [] [] [3, 7, 8, 9, 1000000, 1000002] [5003, 6001] ⟨23, [(3, .own 5003), (7, .own 6001), (8, .int .i64 (((r2).length : Nat) : Int)), (9, .int .i64 (((n3 + 1) : Nat) : Int)), (1000000, .elem 32 1 T0F 0 0), (1000002, .elem 20 1 T2F 0 0)], [(5003, bL 9 1 eS [] (l4 ++ [r5])), (6001, bL 3 1 eI 0 r2)], [], 0⟩ ((-9223372036854775808 ≤ (((n3 : Nat) : Int) + (1 : Int)) ∧ (((n3 : Nat) : Int) + (1 : Int)) ≤ 9223372036854775807) ∧ True) Tryd_mixed (by kernel_rfl) ⟨ob3, trivial⟩ ?_
      rw [hC0] at h
      exact loopQ_normal (_, (n3 + 1), (l4 ++ [r5])) (Le.mk (s := ⟨23, [(3, .own 5003), (7, .own 6001), (8, .int .i64 (((r2).length : Nat) : Int)), (9, .int .i64 (((n3 + 1) : Nat) : Int)), (1000000, .elem 32 1 T0F 0 0), (1000002, .elem 20 1 T2F 0 0)], [(5003, bL 9 1 eS [] (l4 ++ [r5])), (6001, bL 3 1 eI 0 r2)], [], 0⟩) (s' := ⟨23, [(3, .own 5003), (7, .own 6001), (8, .int .i64 (((r2).length : Nat) : Int)), (9, .int .i64 (((n3 + 1) : Nat) : Int)), (1000000, .elem 32 1 T0F 0 0), (1000002, .elem 20 1 T2F 0 0)], [(5003, bL 9 1 eS [] (l4 ++ [r5])), (6001, bL 3 1 eI 0 r2)], [], 0⟩) rfl rfl ⟨.refl _, .refl _, .refl _, .refl _, .refl _, .refl _, trivial⟩ ⟨⟨_, rfl, .refl _⟩, ⟨_, rfl, .refl _⟩, trivial⟩) h (Nat.lt_succ_self _)
    ·
      replace h := ite_fb hc1 h
      refine AWp.exit ?_
      refine thenQ_exit ?_
      refine thenQ_exit ?_
      refine blockQ_same ?_
      exact joinQ_normal (l4) (Le.mk (s := ⟨23, [(3, .own 5003), (7, .own 6001), (8, .int .i64 (((r2).length : Nat) : Int)), (9, .int .i64 ((n3 : Nat) : Int)), (10, .bool (decide (((n3 : Nat) : Int) < (((r2).length : Nat) : Int)))), (1000000, .elem 32 1 T0F 0 0), (1000002, .elem 20 1 T2F 0 0)], [(5003, bL 9 1 eS [] l4), (6001, bL 3 1 eI 0 r2)], [], 0⟩) (s' := ⟨23, [(3, .own 5003), (1000000, .elem 32 1 T0F 0 0), (1000002, .elem 20 1 T2F 0 0)], [(5003, bL 9 1 eS [] l4)], [], 0⟩) rfl rfl ⟨.refl _, .refl _, .refl _, trivial⟩ ⟨⟨_, rfl, .refl _⟩, trivial⟩) h
  ·
    rintro l6 h
    replace h := (congrFun hK1 _).symm.trans h
    refine AWp.seq ?_
    obtain ⟨r7, hr7, h⟩ := bind_ok h
    obtain ⟨ob4, h⟩ := chk_some h
    obtain ⟨ob5, h⟩ := chk_some h
    refine AWp.regC [] [(1, ⟨[vL 1 eS [] l6, .str ([32] : List UInt8)], [], [], [], .str r7, [], [5003], []⟩)] [2, 1000000, 1000002] [] ⟨23, [(2, .str ((([123] : List UInt8) ++ r7) ++ ([125] : List UInt8))), (1000000, .elem 32 1 T0F 0 0), (1000002, .elem 20 1 T2F 0 0)], [], [], 0⟩ ((callP Tryd.prog true 61 [] [] [] [(5003, bL 9 1 eS [] l6)] [5003] [.own 5003, .str ([32] : List UInt8)] [vL 1 eS [] l6, .str ([32] : List UInt8)] (.str r7) []) ∧ (([123] : List UInt8).length + r7.length ≤ 9223372036854775807) ∧ ((([123] : List UInt8) ++ r7).length + ([125] : List UInt8).length ≤ 9223372036854775807) ∧ True) Tryd_mixed (by kernel_rfl) ⟨⟨fun _ => (f61_ok l6 ([32] : List UInt8) r7 hr7), fun _ => ⟨.refl _, .refl _, trivial⟩, .inr ⟨rfl, trivial⟩⟩, ob4, ob5, trivial⟩ ?_
    refine thenQ_normal ?_
    have hret := Option.some.inj h
    subst hret
    refine AWp.le (Le.mk (s := ⟨23, [(2, .str ((([123] : List UInt8) ++ r7) ++ ([125] : List UInt8))), (1000000, .elem 32 1 T0F 0 0), (1000002, .elem 20 1 T2F 0 0)], [], [], 0⟩) (s' := ⟨23, [(2, .str ((([123] : List UInt8) ++ r7) ++ ([125] : List UInt8)))], [], [], 0⟩) rfl rfl ⟨.refl _, trivial⟩ trivial) ?_
    refine AWp.ret ?_
    exact bodyQ_ret _ rfl ⟨rfl, rfl⟩ rfl
def f37_L0 (x1 : List (BitVec 16)) (K1 : (List (List UInt8)) → Option (List UInt8)) : Nat → (Nat × List (List UInt8)) → Option (List UInt8)
  | 0, _ => none
  | k + 1, (n2, l3) =>
    if (decide (((n2 : Nat) : Int) < (((x1).length : Nat) : Int))) then (
    chk (((n2 : Nat) : Int) < (((x1).length : Nat) : Int)) <|
    (f60 (x1.getD n2 0#16)).bind fun (r4 : List UInt8) =>
    chk (((l3).length + 1) * 16 ≤ 140737488355328) <|
    chk ((((n2 : Nat) : Int) + (1 : Int)) ≤ 9223372036854775807) <|
    (f37_L0 x1 K1 k) ((n2 + 1), (l3 ++ [r4]))
    ) else (
    K1 l3
    )
def f37 (x1 : List (BitVec 16)) : Option (List UInt8) :=
  jn (fun (l5 : List (List UInt8)) =>
  (f61 l5 ([32] : List UInt8)).bind fun (r6 : List UInt8) =>
  some r6
  ) fun (K1 : (List (List UInt8)) → Option (List UInt8)) =>
  f37_L0 x1 K1 FUEL (0, [])
set_option maxRecDepth 100000 in
theorem f37_ok  (x1 : List (BitVec 16)) (r : List UInt8) (h : f37 x1 = some r)  : Spec1 Tryd.prog 37 [(0, .elem 32 1 T0F 0 0), (2, .elem 20 1 T2F 0 0)] [] [] [vL 1 eW 0#16 x1] (.str r) [] := by
  unfold f37 at h
  refine Spec1.body 0 _ _ Tryd.func37 rfl Tryd.ntmps37 rfl rfl ?_
  refine AWp.seq ?_
  refine AWp.regC [] [] [0, 1000000, 1000002] [] ⟨20, [(0, vL 1 eW 0#16 x1), (1000000, .elem 32 1 T0F 0 0), (1000002, .elem 20 1 T2F 0 0)], [], [], 0⟩ (True) Tryd_mixed (by kernel_rfl) trivial ?_
  refine thenQ_normal ?_
  refine AWp.seq ?_
  refine AWp.regC [] [] [0, 3, 1000000, 1000002] [] ⟨20, [(0, vL 1 eW 0#16 x1), (3, .nils), (1000000, .elem 32 1 T0F 0 0), (1000002, .elem 20 1 T2F 0 0)], [], [], 0⟩ (True) Tryd_mixed (by kernel_rfl) trivial ?_
  refine thenQ_normal ?_
  obtain ⟨K1, hK1, h⟩ := jn_some h
  refine AWp.join (α := List (List UInt8)) (fun (l5 : List (List UInt8)) => ⟨20, [(3, .own 5003), (1000000, .elem 32 1 T0F 0 0), (1000002, .elem 20 1 T2F 0 0)], [(5003, bL 9 1 eS [] l5)], [], 0⟩) (fun x => K1 x = some r) ?_ ?_
  ·
    refine AWp.seq ?_
    refine AWp.regC [] [] [3, 6, 7, 8, 1000000, 1000002] [] ⟨20, [(3, .nils), (6, vL 1 eW 0#16 x1), (7, .int .i64 (((x1).length : Nat) : Int)), (8, .int .i64 (0 : Int)), (1000000, .elem 32 1 T0F 0 0), (1000002, .elem 20 1 T2F 0 0)], [], [], 0⟩ (True) Tryd_mixed (by kernel_rfl) trivial ?_
    refine thenQ_normal ?_
    refine AWp.block ?_
    refine AWp.loopL (α := Nat × (Nat × List (List UInt8))) (fun x => match x with | (_, n2, l3) => ⟨20, [(3, .own 5003), (6, vL 1 eW 0#16 x1), (7, .int .i64 (((x1).length : Nat) : Int)), (8, .int .i64 ((n2 : Nat) : Int)), (1000000, .elem 32 1 T0F 0 0), (1000002, .elem 20 1 T2F 0 0)], [(5003, bL 9 1 eS [] l3)], [], 0⟩) (fun x => f37_L0 x1 K1 x.1 x.2 = some r) (fun x => x.1) (FUEL, 0, []) (Le.trans (Le.trans (Le.nilOwn (s := ⟨20, [(3, .nils), (6, vL 1 eW 0#16 x1), (7, .int .i64 (((x1).length : Nat) : Int)), (8, .int .i64 (0 : Int)), (1000000, .elem 32 1 T0F 0 0), (1000002, .elem 20 1 T2F 0 0)], [], [], 0⟩) 3 5003 9 1 (encF eS [] []) rfl rfl (Nat.le_of_ble_eq_true rfl)) (Le.mk (s' := ⟨20, [(3, .own 5003), (6, vL 1 eW 0#16 x1), (7, .int .i64 (((x1).length : Nat) : Int)), (8, .int .i64 (0 : Int)), (1000000, .elem 32 1 T0F 0 0), (1000002, .elem 20 1 T2F 0 0)], [(5003, bL 9 1 eS [] [])], [], 0⟩) rfl rfl ⟨.refl _, .refl _, .refl _, .refl _, .refl _, .refl _, trivial⟩ ⟨⟨_, rfl, .refl _⟩, trivial⟩)) (Le.mk (s := ⟨20, [(3, .own 5003), (6, vL 1 eW 0#16 x1), (7, .int .i64 (((x1).length : Nat) : Int)), (8, .int .i64 (0 : Int)), (1000000, .elem 32 1 T0F 0 0), (1000002, .elem 20 1 T2F 0 0)], [(5003, bL 9 1 eS [] [])], [], 0⟩) (s' := ⟨20, [(3, .own 5003), (6, vL 1 eW 0#16 x1), (7, .int .i64 (((x1).length : Nat) : Int)), (8, .int .i64 (0 : Int)), (1000000, .elem 32 1 T0F 0 0), (1000002, .elem 20 1 T2F 0 0)], [(5003, bL 9 1 eS [] [])], [], 0⟩) rfl rfl ⟨.refl _, .refl _, .refl _, .refl _, .refl _, .refl _, trivial⟩ ⟨⟨_, rfl, .refl _⟩, trivial⟩)) h ?_
    rintro ⟨k0, n2, l3⟩ h
    cases k0 with
    | zero => exact nomatch (show (none : Option (List UInt8)) = some r from h)
    | succ k0 =>
    obtain ⟨C0, hC0⟩ : ∃ C, C = f37_L0 x1 K1 k0 := ⟨_, rfl⟩
    replace h := (f37_L0.eq_2 ..).symm.trans h
    try rw [← hC0] at h
    refine AWp.seq ?_
    refine AWp.regC [] [] [3, 6, 7, 8, 9, 1000000, 1000002] [5003] ⟨20, [(3, .own 5003), (6, vL 1 eW 0#16 x1), (7, .int .i64 (((x1).length : Nat) : Int)), (8, .int .i64 ((n2 : Nat) : Int)), (9, .bool (decide (((n2 : Nat) : Int) < (((x1).length : Nat) : Int)))), (1000000, .elem 32 1 T0F 0 0), (1000002, .elem 20 1 T2F 0 0)], [(5003, bL 9 1 eS [] l3)], [], 0⟩ (True) Tryd_mixed (by kernel_rfl) trivial ?_
    refine thenQ_normal ?_
    refine AWp.seq ?_
    refine AWp.cond (b := (decide (((n2 : Nat) : Int) < (((x1).length : Nat) : Int)))) (by kernel_rfl) (fun hc1 => ?_) (fun hc1 => ?_)
    ·
      replace h := ite_tb hc1 h
      refine AWp.skip ?_
      refine thenQ_normal ?_
      refine AWp.seq ?_
      refine AWp.block ?_
      refine AWp.seq ?_
      obtain ⟨ob0p, h⟩ := chk_some h
      have ob0 : 0 ≤ ((n2 : Nat) : Int) ∧ ((n2 : Nat) : Int) < (((x1).length : Nat) : Int) := ⟨by omega, ob0p⟩
      refine AWp.regC [] [] [3, 5, 6, 7, 8, 1000000, 1000002] [5003] ⟨20, [(3, .own 5003), (5, .b16 (x1.getD n2 0#16)), (6, vL 1 eW 0#16 x1), (7, .int .i64 (((x1).length : Nat) : Int)), (8, .int .i64 ((n2 : Nat) : Int)), (1000000, .elem 32 1 T0F 0 0), (1000002, .elem 20 1 T2F 0 0)], [(5003, bL 9 1 eS [] l3)], [], 0⟩ ((0 ≤ ((n2 : Nat) : Int) ∧ ((n2 : Nat) : Int) < (((x1).length : Nat) : Int)) ∧ True) Tryd_mixed (by kernel_rfl) ⟨ob0, trivial⟩ ?_
      refine thenQ_normal ?_
      obtain ⟨r4, hr4, h⟩ := bind_ok h
      obtain ⟨ob1, h⟩ := chk_some h
      refine AWp.regC [] [(2, ⟨[.b16 (x1.getD n2 0#16)], [], [], [], .str r4, [], [], [0, 2]⟩)] [3, 6, 7, 8, 1000000, 1000002] [5003] ⟨20, [(3, .own 5003), (6, vL 1 eW 0#16 x1), (7, .int .i64 (((x1).length : Nat) : Int)), (8, .int .i64 ((n2 : Nat) : Int)), (1000000, .elem 32 1 T0F 0 0), (1000002, .elem 20 1 T2F 0 0)], [(5003, .rows 9 1 ((l3).length + 1) (appF (l3).length (encF eS [] l3) (lstF 1 [.str r4])))], [], 0⟩ ((callP Tryd.prog true 60 [(0, .elem 32 1 T0F 0 0), (2, .elem 20 1 T2F 0 0)] [] [] [] [] [.b16 (x1.getD n2 0#16)] [.b16 (x1.getD n2 0#16)] (.str r4) []) ∧ (((l3).length + 1) * 16 ≤ 140737488355328) ∧ True) Tryd_mixed (by kernel_rfl) ⟨⟨fun _ => (f60_ok (x1.getD n2 0#16) r4 hr4), fun _ => ⟨.refl _, trivial⟩, .inl rfl⟩, ob1, trivial⟩ ?_
      refine blockQ_normal ?_
      refine thenQ_normal ?_
      refine AWp.le (Le.mk (s := ⟨20, [(3, .own 5003), (6, vL 1 eW 0#16 x1), (7, .int .i64 (((x1).length : Nat) : Int)), (8, .int .i64 ((n2 : Nat) : Int)), (1000000, .elem 32 1 T0F 0 0), (1000002, .elem 20 1 T2F 0 0)], [(5003, .rows 9 1 ((l3).length + 1) (appF (l3).length (encF eS [] l3) (lstF 1 [.str r4])))], [], 0⟩) (s' := ⟨20, [(3, .own 5003), (6, vL 1 eW 0#16 x1), (7, .int .i64 (((x1).length : Nat) : Int)), (8, .int .i64 ((n2 : Nat) : Int)), (1000000, .elem 32 1 T0F 0 0), (1000002, .elem 20 1 T2F 0 0)], [(5003, bL 9 1 eS [] (l3 ++ [r4]))], [], 0⟩) rfl rfl ⟨.refl _, .refl _, .refl _, .refl _, .refl _, .refl _, trivial⟩ ⟨⟨_, rfl, (BLe.of (RL.app (RL.self _) (RL.lst (enc := eS) [r4] rfl rfl (fun _ => rfl))))⟩, trivial⟩) ?_
      obtain ⟨ob2p, h⟩ := chk_some h
      have ob2 : -9223372036854775808 ≤ (((n2 : Nat) : Int) + (1 : Int)) ∧ (((n2 : Nat) : Int) + (1 : Int)) ≤ 9223372036854775807 := ⟨by omega, ob2p⟩
      refine AWp.regC [] [] [3, 6, 7, 8, 1000000, 1000002] [5003] ⟨20, [(3, .own 5003), (6, vL 1 eW 0#16 x1), (7, .int .i64 (((x1).length : Nat) : Int)), (8, .int .i64 (((n2 + 1) : Nat) : Int)), (1000000, .elem 32 1 T0F 0 0), (1000002, .elem 20 1 T2F 0 0)], [(5003, bL 9 1 eS [] (l3 ++ [r4]))], [], 0⟩ ((-9223372036854775808 ≤ (((n2 : Nat) : Int) + (1 : Int)) ∧ (((n2 : Nat) : Int) + (1 : Int)) ≤ 9223372036854775807) ∧ True) Tryd_mixed (by kernel_rfl) ⟨ob2, trivial⟩ ?_
      rw [hC0] at h
      exact loopQ_normal (_, (n2 + 1), (l3 ++ [r4])) (Le.mk (s := ⟨20, [(3, .own 5003), (6, vL 1 eW 0#16 x1), (7, .int .i64 (((x1).length : Nat) : Int)), (8, .int .i64 (((n2 + 1) : Nat) : Int)), (1000000, .elem 32 1 T0F 0 0), (1000002, .elem 20 1 T2F 0 0)], [(5003, bL 9 1 eS [] (l3 ++ [r4]))], [], 0⟩) (s' := ⟨20, [(3, .own 5003), (6, vL 1 eW 0#16 x1), (7, .int .i64 (((x1).length : Nat) : Int)), (8, .int .i64 (((n2 + 1) : Nat) : Int)), (1000000, .elem 32 1 T0F 0 0), (1000002, .elem 20 1 T2F 0 0)], [(5003, bL 9 1 eS [] (l3 ++ [r4]))], [], 0⟩) rfl rfl ⟨.refl _, .refl _, .refl _, .refl _, .refl _, .refl _, trivial⟩ ⟨⟨_, rfl, .refl _⟩, trivial⟩) h (Nat.lt_succ_self _)
    ·
      replace h := ite_fb hc1 h
      refine AWp.exit ?_
      refine thenQ_exit ?_
      refine thenQ_exit ?_
      refine blockQ_same ?_
      exact joinQ_normal (l3) (Le.mk (s := ⟨20, [(3, .own 5003), (6, vL 1 eW 0#16 x1), (7, .int .i64 (((x1).length : Nat) : Int)), (8, .int .i64 ((n2 : Nat) : Int)), (9, .bool (decide (((n2 : Nat) : Int) < (((x1).length : Nat) : Int)))), (1000000, .elem 32 1 T0F 0 0), (1000002, .elem 20 1 T2F 0 0)], [(5003, bL 9 1 eS [] l3)], [], 0⟩) (s' := ⟨20, [(3, .own 5003), (1000000, .elem 32 1 T0F 0 0), (1000002, .elem 20 1 T2F 0 0)], [(5003, bL 9 1 eS [] l3)], [], 0⟩) rfl rfl ⟨.refl _, .refl _, .refl _, trivial⟩ ⟨⟨_, rfl, .refl _⟩, trivial⟩) h
  ·
    rintro l5 h
    replace h := (congrFun hK1 _).symm.trans h
    refine AWp.seq ?_
    obtain ⟨r6, hr6, h⟩ := bind_ok h
    refine AWp.regC [] [(1, ⟨[vL 1 eS [] l5, .str ([32] : List UInt8)], [], [], [], .str r6, [], [5003], []⟩)] [2, 1000000, 1000002] [] ⟨20, [(2, .str r6), (1000000, .elem 32 1 T0F 0 0), (1000002, .elem 20 1 T2F 0 0)], [], [], 0⟩ ((callP Tryd.prog true 61 [] [] [] [(5003, bL 9 1 eS [] l5)] [5003] [.own 5003, .str ([32] : List UInt8)] [vL 1 eS [] l5, .str ([32] : List UInt8)] (.str r6) []) ∧ True) Tryd_mixed (by kernel_rfl) ⟨⟨fun _ => (f61_ok l5 ([32] : List UInt8) r6 hr6), fun _ => ⟨.refl _, .refl _, trivial⟩, .inr ⟨rfl, trivial⟩⟩, trivial⟩ ?_
    refine thenQ_normal ?_
    have hret := Option.some.inj h
    subst hret
    refine AWp.le (Le.mk (s := ⟨20, [(2, .str r6), (1000000, .elem 32 1 T0F 0 0), (1000002, .elem 20 1 T2F 0 0)], [], [], 0⟩) (s' := ⟨20, [(2, .str r6)], [], [], 0⟩) rfl rfl ⟨.refl _, trivial⟩ trivial) ?_
    refine AWp.ret ?_
    exact bodyQ_ret _ rfl ⟨rfl, rfl⟩ rfl
def f10  : Option Bool :=
  (f21 [(BitVec.ofInt 16 3), (BitVec.ofInt 16 5), (BitVec.ofInt 16 6)] [(BitVec.ofInt 16 8)]).bind fun (r1 : List (BitVec 16) × Int) =>
  (f19 [(BitVec.ofInt 16 3), (BitVec.ofInt 16 5), (BitVec.ofInt 16 6)] [(BitVec.ofInt 16 8)]).bind fun (r2 : List (BitVec 16) × Int) =>
  (f23 [(BitVec.ofInt 16 3), (BitVec.ofInt 16 5), (BitVec.ofInt 16 6)] (BitVec.ofInt 16 1)).bind fun (r3 : List (BitVec 16) × Int) =>
  (f25 [(BitVec.ofInt 16 3), (BitVec.ofInt 16 5), (BitVec.ofInt 16 6)] (BitVec.ofInt 16 1)).bind fun (r4 : Int × List (BitVec 16)) =>
  (f14 [(BitVec.ofInt 16 3), (BitVec.ofInt 16 2), (BitVec.ofInt 16 5), (BitVec.ofInt 16 2)]).bind fun (r5 : List (BitVec 16) × Int) =>
  (f16 [(BitVec.ofInt 16 3), (BitVec.ofInt 16 2), (BitVec.ofInt 16 5), (BitVec.ofInt 16 2)]).bind fun (r6 : List (BitVec 16) × Int) =>
  if ((((((r1.2 == (0 : Int)) && (r2.2 == (0 : Int))) && (r3.2 == (0 : Int))) && (r4.1 == (0 : Int))) && (r5.2 == (0 : Int))) && (r6.2 == (0 : Int))) = true then (
  (f18 r1.1 [(BitVec.ofInt 16 11), (BitVec.ofInt 16 13), (BitVec.ofInt 16 14)]).bind fun (r7 : Bool) =>
  if r7 = true then (
  (f18 r2.1 [(BitVec.ofInt 16 8), (BitVec.ofInt 16 3), (BitVec.ofInt 16 5), (BitVec.ofInt 16 6)]).bind fun (r8 : Bool) =>
  if r8 = true then (
  (f18 r3.1 [(BitVec.ofInt 16 2), (BitVec.ofInt 16 4)]).bind fun (r9 : Bool) =>
  if r9 = true then (
  (f18 r4.2 [(BitVec.ofInt 16 6)]).bind fun (r10 : Bool) =>
  if r10 = true then (
  (f18 r5.1 [(BitVec.ofInt 16 2), (BitVec.ofInt 16 5)]).bind fun (r11 : Bool) =>
  if r11 = true then (
  (f18 r6.1 [(BitVec.ofInt 16 3), (BitVec.ofInt 16 5)]).bind fun (r12 : Bool) =>
  optc (r12 == true) (f37 r1.1) fun (r13 : List UInt8) =>
  some (r12 && (r13 == cs4))
  ) else (
  some false
  )
  ) else (
  some false
  )
  ) else (
  some false
  )
  ) else (
  some false
  )
  ) else (
  some false
  )
  ) else (
  some false
  )
set_option maxRecDepth 100000 in
theorem f10_ok   (r : Bool) (h : f10 = some r)  : Spec1 Tryd.prog 10 [(0, .elem 32 1 T0F 0 0), (2, .elem 20 1 T2F 0 0)] [] [] [] (.bool r) [] := by
  unfold f10 at h
  refine Spec1.body 0 _ _ Tryd.func10 rfl Tryd.ntmps10 rfl rfl ?_
  refine AWp.seq ?_
  refine AWp.regC [] [] [1000000, 1000002] [] ⟨106, [(1000000, .elem 32 1 T0F 0 0), (1000002, .elem 20 1 T2F 0 0)], [], [], 0⟩ (True) Tryd_mixed (by kernel_rfl) trivial ?_
  refine thenQ_normal ?_
  refine AWp.seq ?_
  refine AWp.regC [] [] [1, 1000000, 1000002] [15] ⟨106, [(1, .own 15), (1000000, .elem 32 1 T0F 0 0), (1000002, .elem 20 1 T2F 0 0)], [(15, .rows 28 1 3 (lstF 1 [.b16 (BitVec.ofInt 16 3), .b16 (BitVec.ofInt 16 5), .b16 (BitVec.ofInt 16 6)]))], [], 0⟩ (True) Tryd_mixed (by kernel_rfl) trivial ?_
  refine thenQ_normal ?_
  refine AWp.le (Le.mk (s := ⟨106, [(1, .own 15), (1000000, .elem 32 1 T0F 0 0), (1000002, .elem 20 1 T2F 0 0)], [(15, .rows 28 1 3 (lstF 1 [.b16 (BitVec.ofInt 16 3), .b16 (BitVec.ofInt 16 5), .b16 (BitVec.ofInt 16 6)]))], [], 0⟩) (s' := ⟨106, [(1, .own 15), (1000000, .elem 32 1 T0F 0 0), (1000002, .elem 20 1 T2F 0 0)], [(15, bL 28 1 eW 0#16 [(BitVec.ofInt 16 3), (BitVec.ofInt 16 5), (BitVec.ofInt 16 6)])], [], 0⟩) rfl rfl ⟨.refl _, .refl _, .refl _, trivial⟩ ⟨⟨_, rfl, (BLe.of (RL.lst (enc := eW) [(BitVec.ofInt 16 3), (BitVec.ofInt 16 5), (BitVec.ofInt 16 6)] rfl rfl (fun _ => rfl)))⟩, trivial⟩) ?_
  refine AWp.seq ?_
  refine AWp.le (Le.trans (Le.freeze (s := ⟨106, [(1, .own 15), (1000000, .elem 32 1 T0F 0 0), (1000002, .elem 20 1 T2F 0 0)], [(15, bL 28 1 eW 0#16 [(BitVec.ofInt 16 3), (BitVec.ofInt 16 5), (BitVec.ofInt 16 6)])], [], 0⟩) 15 rfl rfl) (Le.mk (s' := ⟨106, [(1, vL 1 eW 0#16 [(BitVec.ofInt 16 3), (BitVec.ofInt 16 5), (BitVec.ofInt 16 6)]), (1000000, .elem 32 1 T0F 0 0), (1000002, .elem 20 1 T2F 0 0)], [], [], 0⟩) rfl rfl ⟨.refl _, .refl _, .refl _, trivial⟩ trivial)) ?_
  obtain ⟨r1, hr1, h⟩ := bind_ok h
  refine AWp.regC [] [(2, ⟨[vL 1 eW 0#16 [(BitVec.ofInt 16 3), (BitVec.ofInt 16 5), (BitVec.ofInt 16 6)], .own 18], [18], [], [], .tup [vL 1 eW 0#16 r1.1, .int .i64 r1.2], [], [], []⟩)] [1, 2, 3, 1000000, 1000002] [] ⟨106, [(1, vL 1 eW 0#16 [(BitVec.ofInt 16 3), (BitVec.ofInt 16 5), (BitVec.ofInt 16 6)]), (2, vL 1 eW 0#16 r1.1), (3, .int .i64 r1.2), (1000000, .elem 32 1 T0F 0 0), (1000002, .elem 20 1 T2F 0 0)], [], [], 0⟩ ((callP Tryd.prog true 21 [] [] [(18, .rows 28 1 1 (lstF 1 [.b16 (BitVec.ofInt 16 8)]))] [] [] [vL 1 eW 0#16 [(BitVec.ofInt 16 3), (BitVec.ofInt 16 5), (BitVec.ofInt 16 6)], .own 18] [vL 1 eW 0#16 [(BitVec.ofInt 16 3), (BitVec.ofInt 16 5), (BitVec.ofInt 16 6)], .own 18] (.tup [vL 1 eW 0#16 r1.1, .int .i64 r1.2]) []) ∧ True) Tryd_mixed (by kernel_rfl) ⟨⟨fun _ => (Spec1.pre (f21_ok [(BitVec.ofInt 16 3), (BitVec.ofInt 16 5), (BitVec.ofInt 16 6)] [(BitVec.ofInt 16 8)] r1 hr1) rfl rfl rfl (Le.trans (Le.mk (s := ⟨2, [(0, vL 1 eW 0#16 [(BitVec.ofInt 16 3), (BitVec.ofInt 16 5), (BitVec.ofInt 16 6)]), (1, .own 18)], [(18, .rows 28 1 1 (lstF 1 [.b16 (BitVec.ofInt 16 8)]))], [], 0⟩) (s' := ⟨2, [(0, vL 1 eW 0#16 [(BitVec.ofInt 16 3), (BitVec.ofInt 16 5), (BitVec.ofInt 16 6)]), (1, .own 18)], [(18, bL 28 1 eW 0#16 [(BitVec.ofInt 16 8)])], [], 0⟩) rfl rfl ⟨.refl _, .refl _, trivial⟩ ⟨⟨_, rfl, (BLe.of (RL.lst (enc := eW) [(BitVec.ofInt 16 8)] rfl rfl (fun _ => rfl)))⟩, trivial⟩) (Le.trans (Le.freeze (s := ⟨2, [(0, vL 1 eW 0#16 [(BitVec.ofInt 16 3), (BitVec.ofInt 16 5), (BitVec.ofInt 16 6)]), (1, .own 18)], [(18, bL 28 1 eW 0#16 [(BitVec.ofInt 16 8)])], [], 0⟩) 18 rfl rfl) (Le.mk (s' := ⟨2, [(0, vL 1 eW 0#16 [(BitVec.ofInt 16 3), (BitVec.ofInt 16 5), (BitVec.ofInt 16 6)]), (1, vL 1 eW 0#16 [(BitVec.ofInt 16 8)])], [], [], 0⟩) rfl rfl ⟨.refl _, .refl _, trivial⟩ trivial)))), fun _ => ⟨.refl _, .refl _, trivial⟩, .inl rfl⟩, trivial⟩ ?_
  refine thenQ_normal ?_
  refine AWp.seq ?_
  obtain ⟨r2, hr2, h⟩ := bind_ok h
  refine AWp.regC [] [(2, ⟨[vL 1 eW 0#16 [(BitVec.ofInt 16 3), (BitVec.ofInt 16 5), (BitVec.ofInt 16 6)], .own 24], [24], [], [], .tup [vL 1 eW 0#16 r2.1, .int .i64 r2.2], [], [], []⟩)] [1, 2, 3, 4, 5, 1000000, 1000002] [] ⟨106, [(1, vL 1 eW 0#16 [(BitVec.ofInt 16 3), (BitVec.ofInt 16 5), (BitVec.ofInt 16 6)]), (2, vL 1 eW 0#16 r1.1), (3, .int .i64 r1.2), (4, vL 1 eW 0#16 r2.1), (5, .int .i64 r2.2), (1000000, .elem 32 1 T0F 0 0), (1000002, .elem 20 1 T2F 0 0)], [], [], 0⟩ ((callP Tryd.prog true 19 [] [] [(24, .rows 28 1 1 (lstF 1 [.b16 (BitVec.ofInt 16 8)]))] [] [] [vL 1 eW 0#16 [(BitVec.ofInt 16 3), (BitVec.ofInt 16 5), (BitVec.ofInt 16 6)], .own 24] [vL 1 eW 0#16 [(BitVec.ofInt 16 3), (BitVec.ofInt 16 5), (BitVec.ofInt 16 6)], .own 24] (.tup [vL 1 eW 0#16 r2.1, .int .i64 r2.2]) []) ∧ True) Tryd_mixed (by kernel_rfl) ⟨⟨fun _ => (Spec1.pre (f19_ok [(BitVec.ofInt 16 3), (BitVec.ofInt 16 5), (BitVec.ofInt 16 6)] [(BitVec.ofInt 16 8)] r2 hr2) rfl rfl rfl (Le.trans (Le.mk (s := ⟨2, [(0, vL 1 eW 0#16 [(BitVec.ofInt 16 3), (BitVec.ofInt 16 5), (BitVec.ofInt 16 6)]), (1, .own 24)], [(24, .rows 28 1 1 (lstF 1 [.b16 (BitVec.ofInt 16 8)]))], [], 0⟩) (s' := ⟨2, [(0, vL 1 eW 0#16 [(BitVec.ofInt 16 3), (BitVec.ofInt 16 5), (BitVec.ofInt 16 6)]), (1, .own 24)], [(24, bL 28 1 eW 0#16 [(BitVec.ofInt 16 8)])], [], 0⟩) rfl rfl ⟨.refl _, .refl _, trivial⟩ ⟨⟨_, rfl, (BLe.of (RL.lst (enc := eW) [(BitVec.ofInt 16 8)] rfl rfl (fun _ => rfl)))⟩, trivial⟩) (Le.trans (Le.freeze (s := ⟨2, [(0, vL 1 eW 0#16 [(BitVec.ofInt 16 3), (BitVec.ofInt 16 5), (BitVec.ofInt 16 6)]), (1, .own 24)], [(24, bL 28 1 eW 0#16 [(BitVec.ofInt 16 8)])], [], 0⟩) 24 rfl rfl) (Le.mk (s' := ⟨2, [(0, vL 1 eW 0#16 [(BitVec.ofInt 16 3), (BitVec.ofInt 16 5), (BitVec.ofInt 16 6)]), (1, vL 1 eW 0#16 [(BitVec.ofInt 16 8)])], [], [], 0⟩) rfl rfl ⟨.refl _, .refl _, trivial⟩ trivial)))), fun _ => ⟨.refl _, .refl _, trivial⟩, .inl rfl⟩, trivial⟩ ?_
  refine thenQ_normal ?_
  refine AWp.seq ?_
  obtain ⟨r3, hr3, h⟩ := bind_ok h
  refine AWp.regC [] [(1, ⟨[vL 1 eW 0#16 [(BitVec.ofInt 16 3), (BitVec.ofInt 16 5), (BitVec.ofInt 16 6)], .b16 (BitVec.ofInt 16 1)], [], [], [], .tup [vL 1 eW 0#16 r3.1, .int .i64 r3.2], [], [], []⟩)] [1, 2, 3, 4, 5, 6, 7, 1000000, 1000002] [] ⟨106, [(1, vL 1 eW 0#16 [(BitVec.ofInt 16 3), (BitVec.ofInt 16 5), (BitVec.ofInt 16 6)]), (2, vL 1 eW 0#16 r1.1), (3, .int .i64 r1.2), (4, vL 1 eW 0#16 r2.1), (5, .int .i64 r2.2), (6, vL 1 eW 0#16 r3.1), (7, .int .i64 r3.2), (1000000, .elem 32 1 T0F 0 0), (1000002, .elem 20 1 T2F 0 0)], [], [], 0⟩ ((callP Tryd.prog true 23 [] [] [] [] [] [vL 1 eW 0#16 [(BitVec.ofInt 16 3), (BitVec.ofInt 16 5), (BitVec.ofInt 16 6)], .b16 (BitVec.ofInt 16 1)] [vL 1 eW 0#16 [(BitVec.ofInt 16 3), (BitVec.ofInt 16 5), (BitVec.ofInt 16 6)], .b16 (BitVec.ofInt 16 1)] (.tup [vL 1 eW 0#16 r3.1, .int .i64 r3.2]) []) ∧ True) Tryd_mixed (by kernel_rfl) ⟨⟨fun _ => (f23_ok [(BitVec.ofInt 16 3), (BitVec.ofInt 16 5), (BitVec.ofInt 16 6)] (BitVec.ofInt 16 1) r3 hr3), fun _ => ⟨.refl _, .refl _, trivial⟩, .inl rfl⟩, trivial⟩ ?_
  refine thenQ_normal ?_
  refine AWp.seq ?_
  obtain ⟨r4, hr4, h⟩ := bind_ok h
  refine AWp.regC [] [(1, ⟨[vL 1 eW 0#16 [(BitVec.ofInt 16 3), (BitVec.ofInt 16 5), (BitVec.ofInt 16 6)], .b16 (BitVec.ofInt 16 1)], [], [], [(6001, bL 28 1 eW 0#16 r4.2)], .tup [.own 6001, .int .i64 r4.1], [6001], [], []⟩)] [2, 3, 4, 5, 6, 7, 8, 9, 1000000, 1000002] [6001] ⟨106, [(2, vL 1 eW 0#16 r1.1), (3, .int .i64 r1.2), (4, vL 1 eW 0#16 r2.1), (5, .int .i64 r2.2), (6, vL 1 eW 0#16 r3.1), (7, .int .i64 r3.2), (8, .own 6001), (9, .int .i64 r4.1), (1000000, .elem 32 1 T0F 0 0), (1000002, .elem 20 1 T2F 0 0)], [(6001, bL 28 1 eW 0#16 r4.2)], [], 0⟩ ((callP Tryd.prog true 25 [] [] [] [] [] [vL 1 eW 0#16 [(BitVec.ofInt 16 3), (BitVec.ofInt 16 5), (BitVec.ofInt 16 6)], .b16 (BitVec.ofInt 16 1)] [vL 1 eW 0#16 [(BitVec.ofInt 16 3), (BitVec.ofInt 16 5), (BitVec.ofInt 16 6)], .b16 (BitVec.ofInt 16 1)] (.tup [.own 6001, .int .i64 r4.1]) [(6001, bL 28 1 eW 0#16 r4.2)]) ∧ True) Tryd_mixed (by kernel_rfl) ⟨⟨fun _ => (Spec1.ren (swapN 3000 6001) (swapN_inv 3000 6001) rfl (f25_ok [(BitVec.ofInt 16 3), (BitVec.ofInt 16 5), (BitVec.ofInt 16 6)] (BitVec.ofInt 16 1) r4 hr4)), fun _ => ⟨.refl _, .refl _, trivial⟩, .inl rfl⟩, trivial⟩ ?_
  refine thenQ_normal ?_
  refine AWp.seq ?_
  obtain ⟨r5, hr5, h⟩ := bind_ok h
  refine AWp.regC [] [(1, ⟨[.own 39], [39], [], [], .tup [vL 1 eW 0#16 r5.1, .int .i64 r5.2], [], [], []⟩)] [2, 3, 4, 5, 6, 7, 8, 9, 10, 11, 1000000, 1000002] [6001] ⟨106, [(2, vL 1 eW 0#16 r1.1), (3, .int .i64 r1.2), (4, vL 1 eW 0#16 r2.1), (5, .int .i64 r2.2), (6, vL 1 eW 0#16 r3.1), (7, .int .i64 r3.2), (8, .own 6001), (9, .int .i64 r4.1), (10, vL 1 eW 0#16 r5.1), (11, .int .i64 r5.2), (1000000, .elem 32 1 T0F 0 0), (1000002, .elem 20 1 T2F 0 0)], [(6001, bL 28 1 eW 0#16 r4.2)], [], 0⟩ ((callP Tryd.prog true 14 [] [] [(39, .rows 28 1 4 (lstF 1 [.b16 (BitVec.ofInt 16 3), .b16 (BitVec.ofInt 16 2), .b16 (BitVec.ofInt 16 5), .b16 (BitVec.ofInt 16 2)]))] [] [] [.own 39] [.own 39] (.tup [vL 1 eW 0#16 r5.1, .int .i64 r5.2]) []) ∧ True) Tryd_mixed (by kernel_rfl) ⟨⟨fun _ => (Spec1.pre (f14_ok [(BitVec.ofInt 16 3), (BitVec.ofInt 16 2), (BitVec.ofInt 16 5), (BitVec.ofInt 16 2)] r5 hr5) rfl rfl rfl (Le.trans (Le.mk (s := ⟨1, [(0, .own 39)], [(39, .rows 28 1 4 (lstF 1 [.b16 (BitVec.ofInt 16 3), .b16 (BitVec.ofInt 16 2), .b16 (BitVec.ofInt 16 5), .b16 (BitVec.ofInt 16 2)]))], [], 0⟩) (s' := ⟨1, [(0, .own 39)], [(39, bL 28 1 eW 0#16 [(BitVec.ofInt 16 3), (BitVec.ofInt 16 2), (BitVec.ofInt 16 5), (BitVec.ofInt 16 2)])], [], 0⟩) rfl rfl ⟨.refl _, trivial⟩ ⟨⟨_, rfl, (BLe.of (RL.lst (enc := eW) [(BitVec.ofInt 16 3), (BitVec.ofInt 16 2), (BitVec.ofInt 16 5), (BitVec.ofInt 16 2)] rfl rfl (fun _ => rfl)))⟩, trivial⟩) (Le.trans (Le.freeze (s := ⟨1, [(0, .own 39)], [(39, bL 28 1 eW 0#16 [(BitVec.ofInt 16 3), (BitVec.ofInt 16 2), (BitVec.ofInt 16 5), (BitVec.ofInt 16 2)])], [], 0⟩) 39 rfl rfl) (Le.mk (s' := ⟨1, [(0, vL 1 eW 0#16 [(BitVec.ofInt 16 3), (BitVec.ofInt 16 2), (BitVec.ofInt 16 5), (BitVec.ofInt 16 2)])], [], [], 0⟩) rfl rfl ⟨.refl _, trivial⟩ trivial)))), fun _ => ⟨.refl _, trivial⟩, .inl rfl⟩, trivial⟩ ?_
  refine thenQ_normal ?_
  refine AWp.seq ?_
  obtain ⟨r6, hr6, h⟩ := bind_ok h
  refine AWp.regC [] [(1, ⟨[.own 44], [44], [], [], .tup [vL 1 eW 0#16 r6.1, .int .i64 r6.2], [], [], []⟩)] [2, 3, 4, 5, 6, 7, 8, 9, 10, 11, 12, 13, 1000000, 1000002] [6001] ⟨106, [(2, vL 1 eW 0#16 r1.1), (3, .int .i64 r1.2), (4, vL 1 eW 0#16 r2.1), (5, .int .i64 r2.2), (6, vL 1 eW 0#16 r3.1), (7, .int .i64 r3.2), (8, .own 6001), (9, .int .i64 r4.1), (10, vL 1 eW 0#16 r5.1), (11, .int .i64 r5.2), (12, vL 1 eW 0#16 r6.1), (13, .int .i64 r6.2), (1000000, .elem 32 1 T0F 0 0), (1000002, .elem 20 1 T2F 0 0)], [(6001, bL 28 1 eW 0#16 r4.2)], [], 0⟩ ((callP Tryd.prog true 16 [] [] [(44, .rows 28 1 4 (lstF 1 [.b16 (BitVec.ofInt 16 3), .b16 (BitVec.ofInt 16 2), .b16 (BitVec.ofInt 16 5), .b16 (BitVec.ofInt 16 2)]))] [] [] [.own 44] [.own 44] (.tup [vL 1 eW 0#16 r6.1, .int .i64 r6.2]) []) ∧ True) Tryd_mixed (by kernel_rfl) ⟨⟨fun _ => (Spec1.pre (f16_ok [(BitVec.ofInt 16 3), (BitVec.ofInt 16 2), (BitVec.ofInt 16 5), (BitVec.ofInt 16 2)] r6 hr6) rfl rfl rfl (Le.trans (Le.mk (s := ⟨1, [(0, .own 44)], [(44, .rows 28 1 4 (lstF 1 [.b16 (BitVec.ofInt 16 3), .b16 (BitVec.ofInt 16 2), .b16 (BitVec.ofInt 16 5), .b16 (BitVec.ofInt 16 2)]))], [], 0⟩) (s' := ⟨1, [(0, .own 44)], [(44, bL 28 1 eW 0#16 [(BitVec.ofInt 16 3), (BitVec.ofInt 16 2), (BitVec.ofInt 16 5), (BitVec.ofInt 16 2)])], [], 0⟩) rfl rfl ⟨.refl _, trivial⟩ ⟨⟨_, rfl, (BLe.of (RL.lst (enc := eW) [(BitVec.ofInt 16 3), (BitVec.ofInt 16 2), (BitVec.ofInt 16 5), (BitVec.ofInt 16 2)] rfl rfl (fun _ => rfl)))⟩, trivial⟩) (Le.trans (Le.freeze (s := ⟨1, [(0, .own 44)], [(44, bL 28 1 eW 0#16 [(BitVec.ofInt 16 3), (BitVec.ofInt 16 2), (BitVec.ofInt 16 5), (BitVec.ofInt 16 2)])], [], 0⟩) 44 rfl rfl) (Le.mk (s' := ⟨1, [(0, vL 1 eW 0#16 [(BitVec.ofInt 16 3), (BitVec.ofInt 16 2), (BitVec.ofInt 16 5), (BitVec.ofInt 16 2)])], [], [], 0⟩) rfl rfl ⟨.refl _, trivial⟩ trivial)))), fun _ => ⟨.refl _, trivial⟩, .inl rfl⟩, trivial⟩ ?_
  refine thenQ_normal ?_
  refine AWp.seq ?_
  have ob0 : ((r1.2 == (0 : Int)) == true) = true → ((r1.2 == (0 : Int)) == true) = true := fun h => h
  have ob1 : true = true → (r1.2 == (0 : Int)) = true → ((r1.2 == (0 : Int)) == true) = true := fun _ h => beq_iff_eq.2 h
  have ob2 : (((r1.2 == (0 : Int)) && (r2.2 == (0 : Int))) == true) = true → (((r1.2 == (0 : Int)) && (r2.2 == (0 : Int))) == true) = true := fun h => h
  have ob3 : true = true → ((r1.2 == (0 : Int)) && (r2.2 == (0 : Int))) = true → (((r1.2 == (0 : Int)) && (r2.2 == (0 : Int))) == true) = true := fun _ h => beq_iff_eq.2 h
  have ob4 : ((((r1.2 == (0 : Int)) && (r2.2 == (0 : Int))) && (r3.2 == (0 : Int))) == true) = true → ((((r1.2 == (0 : Int)) && (r2.2 == (0 : Int))) && (r3.2 == (0 : Int))) == true) = true := fun h => h
  have ob5 : true = true → (((r1.2 == (0 : Int)) && (r2.2 == (0 : Int))) && (r3.2 == (0 : Int))) = true → ((((r1.2 == (0 : Int)) && (r2.2 == (0 : Int))) && (r3.2 == (0 : Int))) == true) = true := fun _ h => beq_iff_eq.2 h
  have ob6 : (((((r1.2 == (0 : Int)) && (r2.2 == (0 : Int))) && (r3.2 == (0 : Int))) && (r4.1 == (0 : Int))) == true) = true → (((((r1.2 == (0 : Int)) && (r2.2 == (0 : Int))) && (r3.2 == (0 : Int))) && (r4.1 == (0 : Int))) == true) = true := fun h => h
  have ob7 : true = true → ((((r1.2 == (0 : Int)) && (r2.2 == (0 : Int))) && (r3.2 == (0 : Int))) && (r4.1 == (0 : Int))) = true → (((((r1.2 == (0 : Int)) && (r2.2 == (0 : Int))) && (r3.2 == (0 : Int))) && (r4.1 == (0 : Int))) == true) = true := fun _ h => beq_iff_eq.2 h
  have ob8 : ((((((r1.2 == (0 : Int)) && (r2.2 == (0 : Int))) && (r3.2 == (0 : Int))) && (r4.1 == (0 : Int))) && (r5.2 == (0 : Int))) == true) = true → ((((((r1.2 == (0 : Int)) && (r2.2 == (0 : Int))) && (r3.2 == (0 : Int))) && (r4.1 == (0 : Int))) && (r5.2 == (0 : Int))) == true) = true := fun h => h
  have ob9 : true = true → (((((r1.2 == (0 : Int)) && (r2.2 == (0 : Int))) && (r3.2 == (0 : Int))) && (r4.1 == (0 : Int))) && (r5.2 == (0 : Int))) = true → ((((((r1.2 == (0 : Int)) && (r2.2 == (0 : Int))) && (r3.2 == (0 : Int))) && (r4.1 == (0 : Int))) && (r5.2 == (0 : Int))) == true) = true := fun _ h => beq_iff_eq.2 h
  refine AWp.regC [] [] [2, 4, 6, 8, 10, 12, 14, 1000000, 1000002] [6001] ⟨106, [(2, vL 1 eW 0#16 r1.1), (4, vL 1 eW 0#16 r2.1), (6, vL 1 eW 0#16 r3.1), (8, .own 6001), (10, vL 1 eW 0#16 r5.1), (12, vL 1 eW 0#16 r6.1), (14, .bool ((((((r1.2 == (0 : Int)) && (r2.2 == (0 : Int))) && (r3.2 == (0 : Int))) && (r4.1 == (0 : Int))) && (r5.2 == (0 : Int))) && (r6.2 == (0 : Int)))), (1000000, .elem 32 1 T0F 0 0), (1000002, .elem 20 1 T2F 0 0)], [(6001, bL 28 1 eW 0#16 r4.2)], [], 0⟩ (((((r1.2 == (0 : Int)) == true) = true → ((r1.2 == (0 : Int)) == true) = true) ∧ True) ∧ (true = true → (r1.2 == (0 : Int)) = true → ((r1.2 == (0 : Int)) == true) = true) ∧ (((((r1.2 == (0 : Int)) && (r2.2 == (0 : Int))) == true) = true → (((r1.2 == (0 : Int)) && (r2.2 == (0 : Int))) == true) = true) ∧ True) ∧ (true = true → ((r1.2 == (0 : Int)) && (r2.2 == (0 : Int))) = true → (((r1.2 == (0 : Int)) && (r2.2 == (0 : Int))) == true) = true) ∧ ((((((r1.2 == (0 : Int)) && (r2.2 == (0 : Int))) && (r3.2 == (0 : Int))) == true) = true → ((((r1.2 == (0 : Int)) && (r2.2 == (0 : Int))) && (r3.2 == (0 : Int))) == true) = true) ∧ True) ∧ (true = true → (((r1.2 == (0 : Int)) && (r2.2 == (0 : Int))) && (r3.2 == (0 : Int))) = true → ((((r1.2 == (0 : Int)) && (r2.2 == (0 : Int))) && (r3.2 == (0 : Int))) == true) = true) ∧ (((((((r1.2 == (0 : Int)) && (r2.2 == (0 : Int))) && (r3.2 == (0 : Int))) && (r4.1 == (0 : Int))) == true) = true → (((((r1.2 == (0 : Int)) && (r2.2 == (0 : Int))) && (r3.2 == (0 : Int))) && (r4.1 == (0 : Int))) == true) = true) ∧ True) ∧ (true = true → ((((r1.2 == (0 : Int)) && (r2.2 == (0 : Int))) && (r3.2 == (0 : Int))) && (r4.1 == (0 : Int))) = true → (((((r1.2 == (0 : Int)) && (r2.2 == (0 : Int))) && (r3.2 == (0 : Int))) && (r4.1 == (0 : Int))) == true) = true) ∧ ((((((((r1.2 == (0 : Int)) && (r2.2 == (0 : Int))) && (r3.2 == (0 : Int))) && (r4.1 == (0 : Int))) && (r5.2 == (0 : Int))) == true) = true → ((((((r1.2 == (0 : Int)) && (r2.2 == (0 : Int))) && (r3.2 == (0 : Int))) && (r4.1 == (0 : Int))) && (r5.2 == (0 : Int))) == true) = true) ∧ True) ∧ (true = true → (((((r1.2 == (0 : Int)) && (r2.2 == (0 : Int))) && (r3.2 == (0 : Int))) && (r4.1 == (0 : Int))) && (r5.2 == (0 : Int))) = true → ((((((r1.2 == (0 : Int)) && (r2.2 == (0 : Int))) && (r3.2 == (0 : Int))) && (r4.1 == (0 : Int))) && (r5.2 == (0 : Int))) == true) = true) ∧ True) Tryd_mixed (by kernel_rfl) ⟨⟨ob0, trivial⟩, ob1, ⟨ob2, trivial⟩, ob3, ⟨ob4, trivial⟩, ob5, ⟨ob6, trivial⟩, ob7, ⟨ob8, trivial⟩, ob9, trivial⟩ ?_
  refine thenQ_normal ?_
  refine AWp.seq ?_
  by_cases hg9_1 : ((((((r1.2 == (0 : Int)) && (r2.2 == (0 : Int))) && (r3.2 == (0 : Int))) && (r4.1 == (0 : Int))) && (r5.2 == (0 : Int))) && (r6.2 == (0 : Int))) = true
  ·
    replace h := ite_t hg9_1 h
    obtain ⟨r7, hr7, h⟩ := bind_ok h
    by_cases hg9_6 : r7 = true
    ·
      replace h := ite_t hg9_6 h
      obtain ⟨r8, hr8, h⟩ := bind_ok h
      by_cases hg9_11 : r8 = true
      ·
        replace h := ite_t hg9_11 h
        obtain ⟨r9, hr9, h⟩ := bind_ok h
        by_cases hg9_16 : r9 = true
        ·
          replace h := ite_t hg9_16 h
          obtain ⟨r10, hr10, h⟩ := bind_ok h
          by_cases hg9_21 : r10 = true
          ·
            replace h := ite_t hg9_21 h
            obtain ⟨r11, hr11, h⟩ := bind_ok h
            by_cases hg9_26 : r11 = true
            ·
              replace h := ite_t hg9_26 h
              obtain ⟨r12, hr12, h⟩ := bind_ok h
              obtain ⟨r13, hr13, h⟩ := optc_some h
              have ob10 : true = true → true = true := fun h => h
              have ob11 : true = true → true = true → true = true := fun _ h => h
              have ob12 : true = true → true = true := fun h => h
              have ob13 : true = true → true = true → true = true := fun _ h => h
              have ob14 : true = true → true = true := fun h => h
              have ob15 : true = true → true = true → true = true := fun _ h => h
              have ob16 : true = true → true = true := fun h => h
              have ob17 : true = true → true = true → true = true := fun _ h => h
              have ob18 : true = true → true = true := fun h => h
              have ob19 : true = true → true = true → true = true := fun _ h => h
              have ob20 : true = true → true = true := fun h => h
              have ob21 : true = true → true = true → true = true := fun _ h => h
              have ob22 : (r12 == true) = true → (r12 == true) = true := fun h => h
              have ob23 : (r12 == true) = true → (r12 == true) = true := fun h => h
              have ob24 : true = true → r12 = true → (r12 == true) = true := fun _ h => beq_iff_eq.2 h
              refine AWp.regC [] [(1, ⟨[], [], [], [], (.bool true), [], [0], []⟩), (4, ⟨[vL 1 eW 0#16 r1.1, vL 1 eW 0#16 [(BitVec.ofInt 16 11), (BitVec.ofInt 16 13), (BitVec.ofInt 16 14)]], [], [], [], .bool r7, [], [73], []⟩), (6, ⟨[], [], [], [], (.bool true), [], [0], []⟩), (9, ⟨[vL 1 eW 0#16 r2.1, vL 1 eW 0#16 [(BitVec.ofInt 16 8), (BitVec.ofInt 16 3), (BitVec.ofInt 16 5), (BitVec.ofInt 16 6)]], [], [], [], .bool r8, [], [78], []⟩), (11, ⟨[], [], [], [], (.bool true), [], [0], []⟩), (14, ⟨[vL 1 eW 0#16 r3.1, vL 1 eW 0#16 [(BitVec.ofInt 16 2), (BitVec.ofInt 16 4)]], [], [], [], .bool r9, [], [83], []⟩), (16, ⟨[], [], [], [], (.bool true), [], [0], []⟩), (19, ⟨[vL 1 eW 0#16 r4.2, vL 1 eW 0#16 [(BitVec.ofInt 16 6)]], [], [], [], .bool r10, [], [6001, 88], []⟩), (21, ⟨[], [], [], [], (.bool true), [], [0], []⟩), (24, ⟨[vL 1 eW 0#16 r5.1, vL 1 eW 0#16 [(BitVec.ofInt 16 2), (BitVec.ofInt 16 5)]], [], [], [], .bool r11, [], [93], []⟩), (26, ⟨[], [], [], [], (.bool true), [], [0], []⟩), (29, ⟨[vL 1 eW 0#16 r6.1, vL 1 eW 0#16 [(BitVec.ofInt 16 3), (BitVec.ofInt 16 5)]], [], [], [], .bool r12, [], [98], []⟩), (33, ⟨[vL 1 eW 0#16 r1.1], [], [], [], .str r13, [], [], [0, 2]⟩)] [0, 1000000, 1000002] [] ⟨106, [(0, .bool (r12 && (r13 == cs4))), (1000000, .elem 32 1 T0F 0 0), (1000002, .elem 20 1 T2F 0 0)], [], [], 0⟩ ((((.bool ((((((r1.2 == (0 : Int)) && (r2.2 == (0 : Int))) && (r3.2 == (0 : Int))) && (r4.1 == (0 : Int))) && (r5.2 == (0 : Int))) && (r6.2 == (0 : Int)))) : V) = (.bool true)) ∧ ((callP Tryd.prog true 18 [] [] [] [(73, .rows 28 1 3 (lstF 1 [.b16 (BitVec.ofInt 16 11), .b16 (BitVec.ofInt 16 13), .b16 (BitVec.ofInt 16 14)]))] [73] [vL 1 eW 0#16 r1.1, .own 73] [vL 1 eW 0#16 r1.1, vL 1 eW 0#16 [(BitVec.ofInt 16 11), (BitVec.ofInt 16 13), (BitVec.ofInt 16 14)]] (.bool r7) []) ∧ (true = true → true = true) ∧ True) ∧ (true = true → true = true → true = true) ∧ (((.bool r7) : V) = (.bool true)) ∧ ((callP Tryd.prog true 18 [] [] [] [(78, .rows 28 1 4 (lstF 1 [.b16 (BitVec.ofInt 16 8), .b16 (BitVec.ofInt 16 3), .b16 (BitVec.ofInt 16 5), .b16 (BitVec.ofInt 16 6)]))] [78] [vL 1 eW 0#16 r2.1, .own 78] [vL 1 eW 0#16 r2.1, vL 1 eW 0#16 [(BitVec.ofInt 16 8), (BitVec.ofInt 16 3), (BitVec.ofInt 16 5), (BitVec.ofInt 16 6)]] (.bool r8) []) ∧ (true = true → true = true) ∧ True) ∧ (true = true → true = true → true = true) ∧ (((.bool r8) : V) = (.bool true)) ∧ ((callP Tryd.prog true 18 [] [] [] [(83, .rows 28 1 2 (lstF 1 [.b16 (BitVec.ofInt 16 2), .b16 (BitVec.ofInt 16 4)]))] [83] [vL 1 eW 0#16 r3.1, .own 83] [vL 1 eW 0#16 r3.1, vL 1 eW 0#16 [(BitVec.ofInt 16 2), (BitVec.ofInt 16 4)]] (.bool r9) []) ∧ (true = true → true = true) ∧ True) ∧ (true = true → true = true → true = true) ∧ (((.bool r9) : V) = (.bool true)) ∧ ((callP Tryd.prog true 18 [] [] [] [(6001, bL 28 1 eW 0#16 r4.2), (88, .rows 28 1 1 (lstF 1 [.b16 (BitVec.ofInt 16 6)]))] [6001, 88] [.own 6001, .own 88] [vL 1 eW 0#16 r4.2, vL 1 eW 0#16 [(BitVec.ofInt 16 6)]] (.bool r10) []) ∧ (true = true → true = true) ∧ True) ∧ (true = true → true = true → true = true) ∧ (((.bool r10) : V) = (.bool true)) ∧ ((callP Tryd.prog true 18 [] [] [] [(93, .rows 28 1 2 (lstF 1 [.b16 (BitVec.ofInt 16 2), .b16 (BitVec.ofInt 16 5)]))] [93] [vL 1 eW 0#16 r5.1, .own 93] [vL 1 eW 0#16 r5.1, vL 1 eW 0#16 [(BitVec.ofInt 16 2), (BitVec.ofInt 16 5)]] (.bool r11) []) ∧ (true = true → true = true) ∧ True) ∧ (true = true → true = true → true = true) ∧ (((.bool r11) : V) = (.bool true)) ∧ ((callP Tryd.prog true 18 [] [] [] [(98, .rows 28 1 2 (lstF 1 [.b16 (BitVec.ofInt 16 3), .b16 (BitVec.ofInt 16 5)]))] [98] [vL 1 eW 0#16 r6.1, .own 98] [vL 1 eW 0#16 r6.1, vL 1 eW 0#16 [(BitVec.ofInt 16 3), (BitVec.ofInt 16 5)]] (.bool r12) []) ∧ (true = true → true = true) ∧ True) ∧ (true = true → true = true → true = true) ∧ ((callP Tryd.prog (r12 == true) 37 [(0, .elem 32 1 T0F 0 0), (2, .elem 20 1 T2F 0 0)] [] [] [] [] [vL 1 eW 0#16 r1.1] [vL 1 eW 0#16 r1.1] (.str r13) []) ∧ ((r12 == true) = true → (r12 == true) = true) ∧ True) ∧ (((r12 == true) = true → (r12 == true) = true) ∧ True) ∧ (true = true → r12 = true → (r12 == true) = true) ∧ True) Tryd_mixed (by kernel_rfl) ⟨(congrArg (fun x => ((.bool x) : V)) hg9_1), ⟨⟨fun _ => (f18_ok r1.1 [(BitVec.ofInt 16 11), (BitVec.ofInt 16 13), (BitVec.ofInt 16 14)] r7 hr7), fun _ => ⟨.refl _, (VLe.of (RL.lst (enc := eW) [(BitVec.ofInt 16 11), (BitVec.ofInt 16 13), (BitVec.ofInt 16 14)] rfl rfl (fun _ => rfl))), trivial⟩, .inr ⟨rfl, trivial⟩⟩, ob10, trivial⟩, ob11, (congrArg (fun x => ((.bool x) : V)) hg9_6), ⟨⟨fun _ => (f18_ok r2.1 [(BitVec.ofInt 16 8), (BitVec.ofInt 16 3), (BitVec.ofInt 16 5), (BitVec.ofInt 16 6)] r8 hr8), fun _ => ⟨.refl _, (VLe.of (RL.lst (enc := eW) [(BitVec.ofInt 16 8), (BitVec.ofInt 16 3), (BitVec.ofInt 16 5), (BitVec.ofInt 16 6)] rfl rfl (fun _ => rfl))), trivial⟩, .inr ⟨rfl, trivial⟩⟩, ob12, trivial⟩, ob13, (congrArg (fun x => ((.bool x) : V)) hg9_11), ⟨⟨fun _ => (f18_ok r3.1 [(BitVec.ofInt 16 2), (BitVec.ofInt 16 4)] r9 hr9), fun _ => ⟨.refl _, (VLe.of (RL.lst (enc := eW) [(BitVec.ofInt 16 2), (BitVec.ofInt 16 4)] rfl rfl (fun _ => rfl))), trivial⟩, .inr ⟨rfl, trivial⟩⟩, ob14, trivial⟩, ob15, (congrArg (fun x => ((.bool x) : V)) hg9_16), ⟨⟨fun _ => (f18_ok r4.2 [(BitVec.ofInt 16 6)] r10 hr10), fun _ => ⟨.refl _, (VLe.of (RL.lst (enc := eW) [(BitVec.ofInt 16 6)] rfl rfl (fun _ => rfl))), trivial⟩, .inr ⟨rfl, trivial⟩⟩, ob16, trivial⟩, ob17, (congrArg (fun x => ((.bool x) : V)) hg9_21), ⟨⟨fun _ => (f18_ok r5.1 [(BitVec.ofInt 16 2), (BitVec.ofInt 16 5)] r11 hr11), fun _ => ⟨.refl _, (VLe.of (RL.lst (enc := eW) [(BitVec.ofInt 16 2), (BitVec.ofInt 16 5)] rfl rfl (fun _ => rfl))), trivial⟩, .inr ⟨rfl, trivial⟩⟩, ob18, trivial⟩, ob19, (congrArg (fun x => ((.bool x) : V)) hg9_26), ⟨⟨fun _ => (f18_ok r6.1 [(BitVec.ofInt 16 3), (BitVec.ofInt 16 5)] r12 hr12), fun _ => ⟨.refl _, (VLe.of (RL.lst (enc := eW) [(BitVec.ofInt 16 3), (BitVec.ofInt 16 5)] rfl rfl (fun _ => rfl))), trivial⟩, .inr ⟨rfl, trivial⟩⟩, ob20, trivial⟩, ob21, ⟨⟨fun hc => (f37_ok r1.1 r13 (hr13 hc)), fun _ => ⟨.refl _, trivial⟩, .inl rfl⟩, ob22, trivial⟩, ⟨ob23, trivial⟩, ob24, trivial⟩ ?_
              refine thenQ_normal ?_
              have hret := Option.some.inj h
              subst hret
              refine AWp.le (Le.mk (s := ⟨106, [(0, .bool (r12 && (r13 == cs4))), (1000000, .elem 32 1 T0F 0 0), (1000002, .elem 20 1 T2F 0 0)], [], [], 0⟩) (s' := ⟨106, [(0, .bool (r12 && (r13 == cs4)))], [], [], 0⟩) rfl rfl ⟨.refl _, trivial⟩ trivial) ?_
              refine AWp.ret ?_
              exact bodyQ_ret _ rfl ⟨rfl, rfl⟩ rfl
            ·
              replace h := ite_f hg9_26 h
              have ob10 : true = true → true = true := fun h => h
              have ob11 : true = true → true = true → true = true := fun _ h => h
              have ob12 : true = true → true = true := fun h => h
              have ob13 : true = true → true = true → true = true := fun _ h => h
              have ob14 : true = true → true = true := fun h => h
              have ob15 : true = true → true = true → true = true := fun _ h => h
              have ob16 : true = true → true = true := fun h => h
              have ob17 : true = true → true = true → true = true := fun _ h => h
              have ob18 : true = true → true = true := fun h => h
              have ob19 : true = true → true = true → true = true := fun _ h => h
              have ob20 : false = true → false = true := fun h => h
              have ob21 : false = true → false = true := fun h => h
              have ob22 : true = true → false = true → false = true := fun _ h => h
              have ob23 : false = true → false = true := fun h => h
              have ob24 : true = true → false = true → false = true := fun _ h => h
              refine AWp.regC [] [(1, ⟨[], [], [], [], (.bool true), [], [0], []⟩), (4, ⟨[vL 1 eW 0#16 r1.1, vL 1 eW 0#16 [(BitVec.ofInt 16 11), (BitVec.ofInt 16 13), (BitVec.ofInt 16 14)]], [], [], [], .bool r7, [], [73], []⟩), (6, ⟨[], [], [], [], (.bool true), [], [0], []⟩), (9, ⟨[vL 1 eW 0#16 r2.1, vL 1 eW 0#16 [(BitVec.ofInt 16 8), (BitVec.ofInt 16 3), (BitVec.ofInt 16 5), (BitVec.ofInt 16 6)]], [], [], [], .bool r8, [], [78], []⟩), (11, ⟨[], [], [], [], (.bool true), [], [0], []⟩), (14, ⟨[vL 1 eW 0#16 r3.1, vL 1 eW 0#16 [(BitVec.ofInt 16 2), (BitVec.ofInt 16 4)]], [], [], [], .bool r9, [], [83], []⟩), (16, ⟨[], [], [], [], (.bool true), [], [0], []⟩), (19, ⟨[vL 1 eW 0#16 r4.2, vL 1 eW 0#16 [(BitVec.ofInt 16 6)]], [], [], [], .bool r10, [], [6001, 88], []⟩), (21, ⟨[], [], [], [], (.bool true), [], [0], []⟩), (24, ⟨[vL 1 eW 0#16 r5.1, vL 1 eW 0#16 [(BitVec.ofInt 16 2), (BitVec.ofInt 16 5)]], [], [], [], .bool r11, [], [93], []⟩), (26, ⟨[], [], [], [], (.bool false), [], [0], []⟩), (29, ⟨[], [], [], [], .bool false, [], [], []⟩), (33, ⟨[], [], [], [], .any, [], [], []⟩)] [0, 1000000, 1000002] [] ⟨106, [(0, .bool false), (1000000, .elem 32 1 T0F 0 0), (1000002, .elem 20 1 T2F 0 0)], [], [], 0⟩ ((((.bool ((((((r1.2 == (0 : Int)) && (r2.2 == (0 : Int))) && (r3.2 == (0 : Int))) && (r4.1 == (0 : Int))) && (r5.2 == (0 : Int))) && (r6.2 == (0 : Int)))) : V) = (.bool true)) ∧ ((callP Tryd.prog true 18 [] [] [] [(73, .rows 28 1 3 (lstF 1 [.b16 (BitVec.ofInt 16 11), .b16 (BitVec.ofInt 16 13), .b16 (BitVec.ofInt 16 14)]))] [73] [vL 1 eW 0#16 r1.1, .own 73] [vL 1 eW 0#16 r1.1, vL 1 eW 0#16 [(BitVec.ofInt 16 11), (BitVec.ofInt 16 13), (BitVec.ofInt 16 14)]] (.bool r7) []) ∧ (true = true → true = true) ∧ True) ∧ (true = true → true = true → true = true) ∧ (((.bool r7) : V) = (.bool true)) ∧ ((callP Tryd.prog true 18 [] [] [] [(78, .rows 28 1 4 (lstF 1 [.b16 (BitVec.ofInt 16 8), .b16 (BitVec.ofInt 16 3), .b16 (BitVec.ofInt 16 5), .b16 (BitVec.ofInt 16 6)]))] [78] [vL 1 eW 0#16 r2.1, .own 78] [vL 1 eW 0#16 r2.1, vL 1 eW 0#16 [(BitVec.ofInt 16 8), (BitVec.ofInt 16 3), (BitVec.ofInt 16 5), (BitVec.ofInt 16 6)]] (.bool r8) []) ∧ (true = true → true = true) ∧ True) ∧ (true = true → true = true → true = true) ∧ (((.bool r8) : V) = (.bool true)) ∧ ((callP Tryd.prog true 18 [] [] [] [(83, .rows 28 1 2 (lstF 1 [.b16 (BitVec.ofInt 16 2), .b16 (BitVec.ofInt 16 4)]))] [83] [vL 1 eW 0#16 r3.1, .own 83] [vL 1 eW 0#16 r3.1, vL 1 eW 0#16 [(BitVec.ofInt 16 2), (BitVec.ofInt 16 4)]] (.bool r9) []) ∧ (true = true → true = true) ∧ True) ∧ (true = true → true = true → true = true) ∧ (((.bool r9) : V) = (.bool true)) ∧ ((callP Tryd.prog true 18 [] [] [] [(6001, bL 28 1 eW 0#16 r4.2), (88, .rows 28 1 1 (lstF 1 [.b16 (BitVec.ofInt 16 6)]))] [6001, 88] [.own 6001, .own 88] [vL 1 eW 0#16 r4.2, vL 1 eW 0#16 [(BitVec.ofInt 16 6)]] (.bool r10) []) ∧ (true = true → true = true) ∧ True) ∧ (true = true → true = true → true = true) ∧ (((.bool r10) : V) = (.bool true)) ∧ ((callP Tryd.prog true 18 [] [] [] [(93, .rows 28 1 2 (lstF 1 [.b16 (BitVec.ofInt 16 2), .b16 (BitVec.ofInt 16 5)]))] [93] [vL 1 eW 0#16 r5.1, .own 93] [vL 1 eW 0#16 r5.1, vL 1 eW 0#16 [(BitVec.ofInt 16 2), (BitVec.ofInt 16 5)]] (.bool r11) []) ∧ (true = true → true = true) ∧ True) ∧ (true = true → true = true → true = true) ∧ (((.bool r11) : V) = (.bool false)) ∧ ((callP Tryd.prog false 18 [] [] [] [] [] [vL 1 eW 0#16 r6.1, .bool false] [] (.bool false) []) ∧ (false = true → false = true) ∧ (false = true → false = true) ∧ True) ∧ (true = true → false = true → false = true) ∧ ((callP Tryd.prog false 37 [] [] [] [] [] [vL 1 eW 0#16 r1.1] [] (.any) []) ∧ (false = true → false = true) ∧ True) ∧ (true = true → false = true → false = true) ∧ True) Tryd_mixed (by kernel_rfl) ⟨(congrArg (fun x => ((.bool x) : V)) hg9_1), ⟨⟨fun _ => (f18_ok r1.1 [(BitVec.ofInt 16 11), (BitVec.ofInt 16 13), (BitVec.ofInt 16 14)] r7 hr7), fun _ => ⟨.refl _, (VLe.of (RL.lst (enc := eW) [(BitVec.ofInt 16 11), (BitVec.ofInt 16 13), (BitVec.ofInt 16 14)] rfl rfl (fun _ => rfl))), trivial⟩, .inr ⟨rfl, trivial⟩⟩, ob10, trivial⟩, ob11, (congrArg (fun x => ((.bool x) : V)) hg9_6), ⟨⟨fun _ => (f18_ok r2.1 [(BitVec.ofInt 16 8), (BitVec.ofInt 16 3), (BitVec.ofInt 16 5), (BitVec.ofInt 16 6)] r8 hr8), fun _ => ⟨.refl _, (VLe.of (RL.lst (enc := eW) [(BitVec.ofInt 16 8), (BitVec.ofInt 16 3), (BitVec.ofInt 16 5), (BitVec.ofInt 16 6)] rfl rfl (fun _ => rfl))), trivial⟩, .inr ⟨rfl, trivial⟩⟩, ob12, trivial⟩, ob13, (congrArg (fun x => ((.bool x) : V)) hg9_11), ⟨⟨fun _ => (f18_ok r3.1 [(BitVec.ofInt 16 2), (BitVec.ofInt 16 4)] r9 hr9), fun _ => ⟨.refl _, (VLe.of (RL.lst (enc := eW) [(BitVec.ofInt 16 2), (BitVec.ofInt 16 4)] rfl rfl (fun _ => rfl))), trivial⟩, .inr ⟨rfl, trivial⟩⟩, ob14, trivial⟩, ob15, (congrArg (fun x => ((.bool x) : V)) hg9_16), ⟨⟨fun _ => (f18_ok r4.2 [(BitVec.ofInt 16 6)] r10 hr10), fun _ => ⟨.refl _, (VLe.of (RL.lst (enc := eW) [(BitVec.ofInt 16 6)] rfl rfl (fun _ => rfl))), trivial⟩, .inr ⟨rfl, trivial⟩⟩, ob16, trivial⟩, ob17, (congrArg (fun x => ((.bool x) : V)) hg9_21), ⟨⟨fun _ => (f18_ok r5.1 [(BitVec.ofInt 16 2), (BitVec.ofInt 16 5)] r11 hr11), fun _ => ⟨.refl _, (VLe.of (RL.lst (enc := eW) [(BitVec.ofInt 16 2), (BitVec.ofInt 16 5)] rfl rfl (fun _ => rfl))), trivial⟩, .inr ⟨rfl, trivial⟩⟩, ob18, trivial⟩, ob19, (congrArg (fun x => ((.bool x) : V)) (Bool.eq_false_iff.2 hg9_26)), ⟨⟨nofun, nofun, .inl rfl⟩, ob20, ob21, trivial⟩, ob22, ⟨⟨nofun, nofun, .inl rfl⟩, ob23, trivial⟩, ob24, trivial⟩ ?_
              refine thenQ_normal ?_
              have hret := Option.some.inj h
              subst hret
              refine AWp.le (Le.mk (s := ⟨106, [(0, .bool false), (1000000, .elem 32 1 T0F 0 0), (1000002, .elem 20 1 T2F 0 0)], [], [], 0⟩) (s' := ⟨106, [(0, .bool false)], [], [], 0⟩) rfl rfl ⟨.refl _, trivial⟩ trivial) ?_
              refine AWp.ret ?_
              exact bodyQ_ret _ rfl ⟨rfl, rfl⟩ rfl
          ·
            replace h := ite_f hg9_21 h
            have ob10 : true = true → true = true := fun h => h
            have ob11 : true = true → true = true → true = true := fun _ h => h
            have ob12 : true = true → true = true := fun h => h
            have ob13 : true = true → true = true → true = true := fun _ h => h
            have ob14 : true = true → true = true := fun h => h
            have ob15 : true = true → true = true → true = true := fun _ h => h
            have ob16 : true = true → true = true := fun h => h
            have ob17 : true = true → true = true → true = true := fun _ h => h
            have ob18 : false = true → false = true := fun h => h
            have ob19 : false = true → false = true := fun h => h
            have ob20 : true = true → false = true → false = true := fun _ h => h
            have ob21 : false = true → false = true := fun h => h
            have ob22 : false = true → false = true := fun h => h
            have ob23 : true = true → false = true → false = true := fun _ h => h
            have ob24 : false = true → false = true := fun h => h
            have ob25 : true = true → false = true → false = true := fun _ h => h
            refine AWp.regC [] [(1, ⟨[], [], [], [], (.bool true), [], [0], []⟩), (4, ⟨[vL 1 eW 0#16 r1.1, vL 1 eW 0#16 [(BitVec.ofInt 16 11), (BitVec.ofInt 16 13), (BitVec.ofInt 16 14)]], [], [], [], .bool r7, [], [73], []⟩), (6, ⟨[], [], [], [], (.bool true), [], [0], []⟩), (9, ⟨[vL 1 eW 0#16 r2.1, vL 1 eW 0#16 [(BitVec.ofInt 16 8), (BitVec.ofInt 16 3), (BitVec.ofInt 16 5), (BitVec.ofInt 16 6)]], [], [], [], .bool r8, [], [78], []⟩), (11, ⟨[], [], [], [], (.bool true), [], [0], []⟩), (14, ⟨[vL 1 eW 0#16 r3.1, vL 1 eW 0#16 [(BitVec.ofInt 16 2), (BitVec.ofInt 16 4)]], [], [], [], .bool r9, [], [83], []⟩), (16, ⟨[], [], [], [], (.bool true), [], [0], []⟩), (19, ⟨[vL 1 eW 0#16 r4.2, vL 1 eW 0#16 [(BitVec.ofInt 16 6)]], [], [], [], .bool r10, [], [6001, 88], []⟩), (21, ⟨[], [], [], [], (.bool false), [], [0], []⟩), (24, ⟨[], [], [], [], .bool false, [], [], []⟩), (29, ⟨[], [], [], [], .bool false, [], [], []⟩), (33, ⟨[], [], [], [], .any, [], [], []⟩)] [0, 1000000, 1000002] [] ⟨106, [(0, .bool false), (1000000, .elem 32 1 T0F 0 0), (1000002, .elem 20 1 T2F 0 0)], [], [], 0⟩ ((((.bool ((((((r1.2 == (0 : Int)) && (r2.2 == (0 : Int))) && (r3.2 == (0 : Int))) && (r4.1 == (0 : Int))) && (r5.2 == (0 : Int))) && (r6.2 == (0 : Int)))) : V) = (.bool true)) ∧ ((callP Tryd.prog true 18 [] [] [] [(73, .rows 28 1 3 (lstF 1 [.b16 (BitVec.ofInt 16 11), .b16 (BitVec.ofInt 16 13), .b16 (BitVec.ofInt 16 14)]))] [73] [vL 1 eW 0#16 r1.1, .own 73] [vL 1 eW 0#16 r1.1, vL 1 eW 0#16 [(BitVec.ofInt 16 11), (BitVec.ofInt 16 13), (BitVec.ofInt 16 14)]] (.bool r7) []) ∧ (true = true → true = true) ∧ True) ∧ (true = true → true = true → true = true) ∧ (((.bool r7) : V) = (.bool true)) ∧ ((callP Tryd.prog true 18 [] [] [] [(78, .rows 28 1 4 (lstF 1 [.b16 (BitVec.ofInt 16 8), .b16 (BitVec.ofInt 16 3), .b16 (BitVec.ofInt 16 5), .b16 (BitVec.ofInt 16 6)]))] [78] [vL 1 eW 0#16 r2.1, .own 78] [vL 1 eW 0#16 r2.1, vL 1 eW 0#16 [(BitVec.ofInt 16 8), (BitVec.ofInt 16 3), (BitVec.ofInt 16 5), (BitVec.ofInt 16 6)]] (.bool r8) []) ∧ (true = true → true = true) ∧ True) ∧ (true = true → true = true → true = true) ∧ (((.bool r8) : V) = (.bool true)) ∧ ((callP Tryd.prog true 18 [] [] [] [(83, .rows 28 1 2 (lstF 1 [.b16 (BitVec.ofInt 16 2), .b16 (BitVec.ofInt 16 4)]))] [83] [vL 1 eW 0#16 r3.1, .own 83] [vL 1 eW 0#16 r3.1, vL 1 eW 0#16 [(BitVec.ofInt 16 2), (BitVec.ofInt 16 4)]] (.bool r9) []) ∧ (true = true → true = true) ∧ True) ∧ (true = true → true = true → true = true) ∧ (((.bool r9) : V) = (.bool true)) ∧ ((callP Tryd.prog true 18 [] [] [] [(6001, bL 28 1 eW 0#16 r4.2), (88, .rows 28 1 1 (lstF 1 [.b16 (BitVec.ofInt 16 6)]))] [6001, 88] [.own 6001, .own 88] [vL 1 eW 0#16 r4.2, vL 1 eW 0#16 [(BitVec.ofInt 16 6)]] (.bool r10) []) ∧ (true = true → true = true) ∧ True) ∧ (true = true → true = true → true = true) ∧ (((.bool r10) : V) = (.bool false)) ∧ ((callP Tryd.prog false 18 [] [] [] [] [] [vL 1 eW 0#16 r5.1, .bool false] [] (.bool false) []) ∧ (false = true → false = true) ∧ (false = true → false = true) ∧ True) ∧ (true = true → false = true → false = true) ∧ ((callP Tryd.prog false 18 [] [] [] [] [] [vL 1 eW 0#16 r6.1, .bool false] [] (.bool false) []) ∧ (false = true → false = true) ∧ (false = true → false = true) ∧ True) ∧ (true = true → false = true → false = true) ∧ ((callP Tryd.prog false 37 [] [] [] [] [] [vL 1 eW 0#16 r1.1] [] (.any) []) ∧ (false = true → false = true) ∧ True) ∧ (true = true → false = true → false = true) ∧ True) Tryd_mixed (by kernel_rfl) ⟨(congrArg (fun x => ((.bool x) : V)) hg9_1), ⟨⟨fun _ => (f18_ok r1.1 [(BitVec.ofInt 16 11), (BitVec.ofInt 16 13), (BitVec.ofInt 16 14)] r7 hr7), fun _ => ⟨.refl _, (VLe.of (RL.lst (enc := eW) [(BitVec.ofInt 16 11), (BitVec.ofInt 16 13), (BitVec.ofInt 16 14)] rfl rfl (fun _ => rfl))), trivial⟩, .inr ⟨rfl, trivial⟩⟩, ob10, trivial⟩, ob11, (congrArg (fun x => ((.bool x) : V)) hg9_6), ⟨⟨fun _ => (f18_ok r2.1 [(BitVec.ofInt 16 8), (BitVec.ofInt 16 3), (BitVec.ofInt 16 5), (BitVec.ofInt 16 6)] r8 hr8), fun _ => ⟨.refl _, (VLe.of (RL.lst (enc := eW) [(BitVec.ofInt 16 8), (BitVec.ofInt 16 3), (BitVec.ofInt 16 5), (BitVec.ofInt 16 6)] rfl rfl (fun _ => rfl))), trivial⟩, .inr ⟨rfl, trivial⟩⟩, ob12, trivial⟩, ob13, (congrArg (fun x => ((.bool x) : V)) hg9_11), ⟨⟨fun _ => (f18_ok r3.1 [(BitVec.ofInt 16 2), (BitVec.ofInt 16 4)] r9 hr9), fun _ => ⟨.refl _, (VLe.of (RL.lst (enc := eW) [(BitVec.ofInt 16 2), (BitVec.ofInt 16 4)] rfl rfl (fun _ => rfl))), trivial⟩, .inr ⟨rfl, trivial⟩⟩, ob14, trivial⟩, ob15, (congrArg (fun x => ((.bool x) : V)) hg9_16), ⟨⟨fun _ => (f18_ok r4.2 [(BitVec.ofInt 16 6)] r10 hr10), fun _ => ⟨.refl _, (VLe.of (RL.lst (enc := eW) [(BitVec.ofInt 16 6)] rfl rfl (fun _ => rfl))), trivial⟩, .inr ⟨rfl, trivial⟩⟩, ob16, trivial⟩, ob17, (congrArg (fun x => ((.bool x) : V)) (Bool.eq_false_iff.2 hg9_21)), ⟨⟨nofun, nofun, .inl rfl⟩, ob18, ob19, trivial⟩, ob20, ⟨⟨nofun, nofun, .inl rfl⟩, ob21, ob22, trivial⟩, ob23, ⟨⟨nofun, nofun, .inl rfl⟩, ob24, trivial⟩, ob25, trivial⟩ ?_
            refine thenQ_normal ?_
            have hret := Option.some.inj h
            subst hret
            refine AWp.le (Le.mk (s := ⟨106, [(0, .bool false), (1000000, .elem 32 1 T0F 0 0), (1000002, .elem 20 1 T2F 0 0)], [], [], 0⟩) (s' := ⟨106, [(0, .bool false)], [], [], 0⟩) rfl rfl ⟨.refl _, trivial⟩ trivial) ?_
            refine AWp.ret ?_
            exact bodyQ_ret _ rfl ⟨rfl, rfl⟩ rfl
        ·
          replace h := ite_f hg9_16 h
          have ob10 : true = true → true = true := fun h => h
          have ob11 : true = true → true = true → true = true := fun _ h => h
          have ob12 : true = true → true = true := fun h => h
          have ob13 : true = true → true = true → true = true := fun _ h => h
          have ob14 : true = true → true = true := fun h => h
          have ob15 : true = true → true = true → true = true := fun _ h => h
          have ob16 : false = true → false = true := fun h => h
          have ob17 : false = true → false = true := fun h => h
          have ob18 : true = true → false = true → false = true := fun _ h => h
          have ob19 : false = true → false = true := fun h => h
          have ob20 : false = true → false = true := fun h => h
          have ob21 : true = true → false = true → false = true := fun _ h => h
          have ob22 : false = true → false = true := fun h => h
          have ob23 : false = true → false = true := fun h => h
          have ob24 : true = true → false = true → false = true := fun _ h => h
          have ob25 : false = true → false = true := fun h => h
          have ob26 : true = true → false = true → false = true := fun _ h => h
          refine AWp.regC [] [(1, ⟨[], [], [], [], (.bool true), [], [0], []⟩), (4, ⟨[vL 1 eW 0#16 r1.1, vL 1 eW 0#16 [(BitVec.ofInt 16 11), (BitVec.ofInt 16 13), (BitVec.ofInt 16 14)]], [], [], [], .bool r7, [], [73], []⟩), (6, ⟨[], [], [], [], (.bool true), [], [0], []⟩), (9, ⟨[vL 1 eW 0#16 r2.1, vL 1 eW 0#16 [(BitVec.ofInt 16 8), (BitVec.ofInt 16 3), (BitVec.ofInt 16 5), (BitVec.ofInt 16 6)]], [], [], [], .bool r8, [], [78], []⟩), (11, ⟨[], [], [], [], (.bool true), [], [0], []⟩), (14, ⟨[vL 1 eW 0#16 r3.1, vL 1 eW 0#16 [(BitVec.ofInt 16 2), (BitVec.ofInt 16 4)]], [], [], [], .bool r9, [], [83], []⟩), (16, ⟨[], [], [], [], (.bool false), [], [0], []⟩), (19, ⟨[], [], [], [], .bool false, [], [], []⟩), (24, ⟨[], [], [], [], .bool false, [], [], []⟩), (29, ⟨[], [], [], [], .bool false, [], [], []⟩), (33, ⟨[], [], [], [], .any, [], [], []⟩)] [0, 1000000, 1000002] [] ⟨106, [(0, .bool false), (1000000, .elem 32 1 T0F 0 0), (1000002, .elem 20 1 T2F 0 0)], [], [], 0⟩ ((((.bool ((((((r1.2 == (0 : Int)) && (r2.2 == (0 : Int))) && (r3.2 == (0 : Int))) && (r4.1 == (0 : Int))) && (r5.2 == (0 : Int))) && (r6.2 == (0 : Int)))) : V) = (.bool true)) ∧ ((callP Tryd.prog true 18 [] [] [] [(73, .rows 28 1 3 (lstF 1 [.b16 (BitVec.ofInt 16 11), .b16 (BitVec.ofInt 16 13), .b16 (BitVec.ofInt 16 14)]))] [73] [vL 1 eW 0#16 r1.1, .own 73] [vL 1 eW 0#16 r1.1, vL 1 eW 0#16 [(BitVec.ofInt 16 11), (BitVec.ofInt 16 13), (BitVec.ofInt 16 14)]] (.bool r7) []) ∧ (true = true → true = true) ∧ True) ∧ (true = true → true = true → true = true) ∧ (((.bool r7) : V) = (.bool true)) ∧ ((callP Tryd.prog true 18 [] [] [] [(78, .rows 28 1 4 (lstF 1 [.b16 (BitVec.ofInt 16 8), .b16 (BitVec.ofInt 16 3), .b16 (BitVec.ofInt 16 5), .b16 (BitVec.ofInt 16 6)]))] [78] [vL 1 eW 0#16 r2.1, .own 78] [vL 1 eW 0#16 r2.1, vL 1 eW 0#16 [(BitVec.ofInt 16 8), (BitVec.ofInt 16 3), (BitVec.ofInt 16 5), (BitVec.ofInt 16 6)]] (.bool r8) []) ∧ (true = true → true = true) ∧ True) ∧ (true = true → true = true → true = true) ∧ (((.bool r8) : V) = (.bool true)) ∧ ((callP Tryd.prog true 18 [] [] [] [(83, .rows 28 1 2 (lstF 1 [.b16 (BitVec.ofInt 16 2), .b16 (BitVec.ofInt 16 4)]))] [83] [vL 1 eW 0#16 r3.1, .own 83] [vL 1 eW 0#16 r3.1, vL 1 eW 0#16 [(BitVec.ofInt 16 2), (BitVec.ofInt 16 4)]] (.bool r9) []) ∧ (true = true → true = true) ∧ True) ∧ (true = true → true = true → true = true) ∧ (((.bool r9) : V) = (.bool false)) ∧ ((callP Tryd.prog false 18 [] [] [] [] [] [.own 6001, .bool false] [] (.bool false) []) ∧ (false = true → false = true) ∧ (false = true → false = true) ∧ True) ∧ (true = true → false = true → false = true) ∧ ((callP Tryd.prog false 18 [] [] [] [] [] [vL 1 eW 0#16 r5.1, .bool false] [] (.bool false) []) ∧ (false = true → false = true) ∧ (false = true → false = true) ∧ True) ∧ (true = true → false = true → false = true) ∧ ((callP Tryd.prog false 18 [] [] [] [] [] [vL 1 eW 0#16 r6.1, .bool false] [] (.bool false) []) ∧ (false = true → false = true) ∧ (false = true → false = true) ∧ True) ∧ (true = true → false = true → false = true) ∧ ((callP Tryd.prog false 37 [] [] [] [] [] [vL 1 eW 0#16 r1.1] [] (.any) []) ∧ (false = true → false = true) ∧ True) ∧ (true = true → false = true → false = true) ∧ True) Tryd_mixed (by kernel_rfl) ⟨(congrArg (fun x => ((.bool x) : V)) hg9_1), ⟨⟨fun _ => (f18_ok r1.1 [(BitVec.ofInt 16 11), (BitVec.ofInt 16 13), (BitVec.ofInt 16 14)] r7 hr7), fun _ => ⟨.refl _, (VLe.of (RL.lst (enc := eW) [(BitVec.ofInt 16 11), (BitVec.ofInt 16 13), (BitVec.ofInt 16 14)] rfl rfl (fun _ => rfl))), trivial⟩, .inr ⟨rfl, trivial⟩⟩, ob10, trivial⟩, ob11, (congrArg (fun x => ((.bool x) : V)) hg9_6), ⟨⟨fun _ => (f18_ok r2.1 [(BitVec.ofInt 16 8), (BitVec.ofInt 16 3), (BitVec.ofInt 16 5), (BitVec.ofInt 16 6)] r8 hr8), fun _ => ⟨.refl _, (VLe.of (RL.lst (enc := eW) [(BitVec.ofInt 16 8), (BitVec.ofInt 16 3), (BitVec.ofInt 16 5), (BitVec.ofInt 16 6)] rfl rfl (fun _ => rfl))), trivial⟩, .inr ⟨rfl, trivial⟩⟩, ob12, trivial⟩, ob13, (congrArg (fun x => ((.bool x) : V)) hg9_11), ⟨⟨fun _ => (f18_ok r3.1 [(BitVec.ofInt 16 2), (BitVec.ofInt 16 4)] r9 hr9), fun _ => ⟨.refl _, (VLe.of (RL.lst (enc := eW) [(BitVec.ofInt 16 2), (BitVec.ofInt 16 4)] rfl rfl (fun _ => rfl))), trivial⟩, .inr ⟨rfl, trivial⟩⟩, ob14, trivial⟩, ob15, (congrArg (fun x => ((.bool x) : V)) (Bool.eq_false_iff.2 hg9_16)), ⟨⟨nofun, nofun, .inl rfl⟩, ob16, ob17, trivial⟩, ob18, ⟨⟨nofun, nofun, .inl rfl⟩, ob19, ob20, trivial⟩, ob21, ⟨⟨nofun, nofun, .inl rfl⟩, ob22, ob23, trivial⟩, ob24, ⟨⟨nofun, nofun, .inl rfl⟩, ob25, trivial⟩, ob26, trivial⟩ ?_
          refine thenQ_normal ?_
          have hret := Option.some.inj h
          subst hret
          refine AWp.le (Le.mk (s := ⟨106, [(0, .bool false), (1000000, .elem 32 1 T0F 0 0), (1000002, .elem 20 1 T2F 0 0)], [], [], 0⟩) (s' := ⟨106, [(0, .bool false)], [], [], 0⟩) rfl rfl ⟨.refl _, trivial⟩ trivial) ?_
          refine AWp.ret ?_
          exact bodyQ_ret _ rfl ⟨rfl, rfl⟩ rfl
      ·
        replace h := ite_f hg9_11 h
        have ob10 : true = true → true = true := fun h => h
        have ob11 : true = true → true = true → true = true := fun _ h => h
        have ob12 : true = true → true = true := fun h => h
        have ob13 : true = true → true = true → true = true := fun _ h => h
        have ob14 : false = true → false = true := fun h => h
        have ob15 : false = true → false = true := fun h => h
        have ob16 : true = true → false = true → false = true := fun _ h => h
        have ob17 : false = true → false = true := fun h => h
        have ob18 : false = true → false = true := fun h => h
        have ob19 : true = true → false = true → false = true := fun _ h => h
        have ob20 : false = true → false = true := fun h => h
        have ob21 : false = true → false = true := fun h => h
        have ob22 : true = true → false = true → false = true := fun _ h => h
        have ob23 : false = true → false = true := fun h => h
        have ob24 : false = true → false = true := fun h => h
        have ob25 : true = true → false = true → false = true := fun _ h => h
        have ob26 : false = true → false = true := fun h => h
        have ob27 : true = true → false = true → false = true := fun _ h => h
        refine AWp.regC [] [(1, ⟨[], [], [], [], (.bool true), [], [0], []⟩), (4, ⟨[vL 1 eW 0#16 r1.1, vL 1 eW 0#16 [(BitVec.ofInt 16 11), (BitVec.ofInt 16 13), (BitVec.ofInt 16 14)]], [], [], [], .bool r7, [], [73], []⟩), (6, ⟨[], [], [], [], (.bool true), [], [0], []⟩), (9, ⟨[vL 1 eW 0#16 r2.1, vL 1 eW 0#16 [(BitVec.ofInt 16 8), (BitVec.ofInt 16 3), (BitVec.ofInt 16 5), (BitVec.ofInt 16 6)]], [], [], [], .bool r8, [], [78], []⟩), (11, ⟨[], [], [], [], (.bool false), [], [0], []⟩), (14, ⟨[], [], [], [], .bool false, [], [], []⟩), (19, ⟨[], [], [], [], .bool false, [], [], []⟩), (24, ⟨[], [], [], [], .bool false, [], [], []⟩), (29, ⟨[], [], [], [], .bool false, [], [], []⟩), (33, ⟨[], [], [], [], .any, [], [], []⟩)] [0, 1000000, 1000002] [] ⟨106, [(0, .bool false), (1000000, .elem 32 1 T0F 0 0), (1000002, .elem 20 1 T2F 0 0)], [], [], 0⟩ ((((.bool ((((((r1.2 == (0 : Int)) && (r2.2 == (0 : Int))) && (r3.2 == (0 : Int))) && (r4.1 == (0 : Int))) && (r5.2 == (0 : Int))) && (r6.2 == (0 : Int)))) : V) = (.bool true)) ∧ ((callP Tryd.prog true 18 [] [] [] [(73, .rows 28 1 3 (lstF 1 [.b16 (BitVec.ofInt 16 11), .b16 (BitVec.ofInt 16 13), .b16 (BitVec.ofInt 16 14)]))] [73] [vL 1 eW 0#16 r1.1, .own 73] [vL 1 eW 0#16 r1.1, vL 1 eW 0#16 [(BitVec.ofInt 16 11), (BitVec.ofInt 16 13), (BitVec.ofInt 16 14)]] (.bool r7) []) ∧ (true = true → true = true) ∧ True) ∧ (true = true → true = true → true = true) ∧ (((.bool r7) : V) = (.bool true)) ∧ ((callP Tryd.prog true 18 [] [] [] [(78, .rows 28 1 4 (lstF 1 [.b16 (BitVec.ofInt 16 8), .b16 (BitVec.ofInt 16 3), .b16 (BitVec.ofInt 16 5), .b16 (BitVec.ofInt 16 6)]))] [78] [vL 1 eW 0#16 r2.1, .own 78] [vL 1 eW 0#16 r2.1, vL 1 eW 0#16 [(BitVec.ofInt 16 8), (BitVec.ofInt 16 3), (BitVec.ofInt 16 5), (BitVec.ofInt 16 6)]] (.bool r8) []) ∧ (true = true → true = true) ∧ True) ∧ (true = true → true = true → true = true) ∧ (((.bool r8) : V) = (.bool false)) ∧ ((callP Tryd.prog false 18 [] [] [] [] [] [vL 1 eW 0#16 r3.1, .bool false] [] (.bool false) []) ∧ (false = true → false = true) ∧ (false = true → false = true) ∧ True) ∧ (true = true → false = true → false = true) ∧ ((callP Tryd.prog false 18 [] [] [] [] [] [.own 6001, .bool false] [] (.bool false) []) ∧ (false = true → false = true) ∧ (false = true → false = true) ∧ True) ∧ (true = true → false = true → false = true) ∧ ((callP Tryd.prog false 18 [] [] [] [] [] [vL 1 eW 0#16 r5.1, .bool false] [] (.bool false) []) ∧ (false = true → false = true) ∧ (false = true → false = true) ∧ True) ∧ (true = true → false = true → false = true) ∧ ((callP Tryd.prog false 18 [] [] [] [] [] [vL 1 eW 0#16 r6.1, .bool false] [] (.bool false) []) ∧ (false = true → false = true) ∧ (false = true → false = true) ∧ True) ∧ (true = true → false = true → false = true) ∧ ((callP Tryd.prog false 37 [] [] [] [] [] [vL 1 eW 0#16 r1.1] [] (.any) []) ∧ (false = true → false = true) ∧ True) ∧ (true = true → false = true → false = true) ∧ True) Tryd_mixed (by kernel_rfl) ⟨(congrArg (fun x => ((.bool x) : V)) hg9_1), ⟨⟨fun _ => (f18_ok r1.1 [(BitVec.ofInt 16 11), (BitVec.ofInt 16 13), (BitVec.ofInt 16 14)] r7 hr7), fun _ => ⟨.refl _, (VLe.of (RL.lst (enc := eW) [(BitVec.ofInt 16 11), (BitVec.ofInt 16 13), (BitVec.ofInt 16 14)] rfl rfl (fun _ => rfl))), trivial⟩, .inr ⟨rfl, trivial⟩⟩, ob10, trivial⟩, ob11, (congrArg (fun x => ((.bool x) : V)) hg9_6), ⟨⟨fun _ => (f18_ok r2.1 [(BitVec.ofInt 16 8), (BitVec.ofInt 16 3), (BitVec.ofInt 16 5), (BitVec.ofInt 16 6)] r8 hr8), fun _ => ⟨.refl _, (VLe.of (RL.lst (enc := eW) [(BitVec.ofInt 16 8), (BitVec.ofInt 16 3), (BitVec.ofInt 16 5), (BitVec.ofInt 16 6)] rfl rfl (fun _ => rfl))), trivial⟩, .inr ⟨rfl, trivial⟩⟩, ob12, trivial⟩, ob13, (congrArg (fun x => ((.bool x) : V)) (Bool.eq_false_iff.2 hg9_11)), ⟨⟨nofun, nofun, .inl rfl⟩, ob14, ob15, trivial⟩, ob16, ⟨⟨nofun, nofun, .inl rfl⟩, ob17, ob18, trivial⟩, ob19, ⟨⟨nofun, nofun, .inl rfl⟩, ob20, ob21, trivial⟩, ob22, ⟨⟨nofun, nofun, .inl rfl⟩, ob23, ob24, trivial⟩, ob25, ⟨⟨nofun, nofun, .inl rfl⟩, ob26, trivial⟩, ob27, trivial⟩ ?_
        refine thenQ_normal ?_
        have hret := Option.some.inj h
        subst hret
        refine AWp.le (Le.mk (s := ⟨106, [(0, .bool false), (1000000, .elem 32 1 T0F 0 0), (1000002, .elem 20 1 T2F 0 0)], [], [], 0⟩) (s' := ⟨106, [(0, .bool false)], [], [], 0⟩) rfl rfl ⟨.refl _, trivial⟩ trivial) ?_
        refine AWp.ret ?_
        exact bodyQ_ret _ rfl ⟨rfl, rfl⟩ rfl
    ·
      replace h := ite_f hg9_6 h
      have ob10 : true = true → true = true := fun h => h
      have ob11 : true = true → true = true → true = true := fun _ h => h
      have ob12 : false = true → false = true := fun h => h
      have ob13 : false = true → false = true := fun h => h
      have ob14 : true = true → false = true → false = true := fun _ h => h
      have ob15 : false = true → false = true := fun h => h
      have ob16 : false = true → false = true := fun h => h
      have ob17 : true = true → false = true → false = true := fun _ h => h
      have ob18 : false = true → false = true := fun h => h
      have ob19 : false = true → false = true := fun h => h
      have ob20 : true = true → false = true → false = true := fun _ h => h
      have ob21 : false = true → false = true := fun h => h
      have ob22 : false = true → false = true := fun h => h
      have ob23 : true = true → false = true → false = true := fun _ h => h
      have ob24 : false = true → false = true := fun h => h
      have ob25 : false = true → false = true := fun h => h
      have ob26 : true = true → false = true → false = true := fun _ h => h
      have ob27 : false = true → false = true := fun h => h
      have ob28 : true = true → false = true → false = true := fun _ h => h
      refine AWp.regC [] [(1, ⟨[], [], [], [], (.bool true), [], [0], []⟩), (4, ⟨[vL 1 eW 0#16 r1.1, vL 1 eW 0#16 [(BitVec.ofInt 16 11), (BitVec.ofInt 16 13), (BitVec.ofInt 16 14)]], [], [], [], .bool r7, [], [73], []⟩), (6, ⟨[], [], [], [], (.bool false), [], [0], []⟩), (9, ⟨[], [], [], [], .bool false, [], [], []⟩), (14, ⟨[], [], [], [], .bool false, [], [], []⟩), (19, ⟨[], [], [], [], .bool false, [], [], []⟩), (24, ⟨[], [], [], [], .bool false, [], [], []⟩), (29, ⟨[], [], [], [], .bool false, [], [], []⟩), (33, ⟨[], [], [], [], .any, [], [], []⟩)] [0, 1000000, 1000002] [] ⟨106, [(0, .bool false), (1000000, .elem 32 1 T0F 0 0), (1000002, .elem 20 1 T2F 0 0)], [], [], 0⟩ ((((.bool ((((((r1.2 == (0 : Int)) && (r2.2 == (0 : Int))) && (r3.2 == (0 : Int))) && (r4.1 == (0 : Int))) && (r5.2 == (0 : Int))) && (r6.2 == (0 : Int)))) : V) = (.bool true)) ∧ ((callP Tryd.prog true 18 [] [] [] [(73, .rows 28 1 3 (lstF 1 [.b16 (BitVec.ofInt 16 11), .b16 (BitVec.ofInt 16 13), .b16 (BitVec.ofInt 16 14)]))] [73] [vL 1 eW 0#16 r1.1, .own 73] [vL 1 eW 0#16 r1.1, vL 1 eW 0#16 [(BitVec.ofInt 16 11), (BitVec.ofInt 16 13), (BitVec.ofInt 16 14)]] (.bool r7) []) ∧ (true = true → true = true) ∧ True) ∧ (true = true → true = true → true = true) ∧ (((.bool r7) : V) = (.bool false)) ∧ ((callP Tryd.prog false 18 [] [] [] [] [] [vL 1 eW 0#16 r2.1, .bool false] [] (.bool false) []) ∧ (false = true → false = true) ∧ (false = true → false = true) ∧ True) ∧ (true = true → false = true → false = true) ∧ ((callP Tryd.prog false 18 [] [] [] [] [] [vL 1 eW 0#16 r3.1, .bool false] [] (.bool false) []) ∧ (false = true → false = true) ∧ (false = true → false = true) ∧ True) ∧ (true = true → false = true → false = true) ∧ ((callP Tryd.prog false 18 [] [] [] [] [] [.own 6001, .bool false] [] (.bool false) []) ∧ (false = true → false = true) ∧ (false = true → false = true) ∧ True) ∧ (true = true → false = true → false = true) ∧ ((callP Tryd.prog false 18 [] [] [] [] [] [vL 1 eW 0#16 r5.1, .bool false] [] (.bool false) []) ∧ (false = true → false = true) ∧ (false = true → false = true) ∧ True) ∧ (true = true → false = true → false = true) ∧ ((callP Tryd.prog false 18 [] [] [] [] [] [vL 1 eW 0#16 r6.1, .bool false] [] (.bool false) []) ∧ (false = true → false = true) ∧ (false = true → false = true) ∧ True) ∧ (true = true → false = true → false = true) ∧ ((callP Tryd.prog false 37 [] [] [] [] [] [vL 1 eW 0#16 r1.1] [] (.any) []) ∧ (false = true → false = true) ∧ True) ∧ (true = true → false = true → false = true) ∧ True) Tryd_mixed (by kernel_rfl) ⟨(congrArg (fun x => ((.bool x) : V)) hg9_1), ⟨⟨fun _ => (f18_ok r1.1 [(BitVec.ofInt 16 11), (BitVec.ofInt 16 13), (BitVec.ofInt 16 14)] r7 hr7), fun _ => ⟨.refl _, (VLe.of (RL.lst (enc := eW) [(BitVec.ofInt 16 11), (BitVec.ofInt 16 13), (BitVec.ofInt 16 14)] rfl rfl (fun _ => rfl))), trivial⟩, .inr ⟨rfl, trivial⟩⟩, ob10, trivial⟩, ob11, (congrArg (fun x => ((.bool x) : V)) (Bool.eq_false_iff.2 hg9_6)), ⟨⟨nofun, nofun, .inl rfl⟩, ob12, ob13, trivial⟩, ob14, ⟨⟨nofun, nofun, .inl rfl⟩, ob15, ob16, trivial⟩, ob17, ⟨⟨nofun, nofun, .inl rfl⟩, ob18, ob19, trivial⟩, ob20, ⟨⟨nofun, nofun, .inl rfl⟩, ob21, ob22, trivial⟩, ob23, ⟨⟨nofun, nofun, .inl rfl⟩, ob24, ob25, trivial⟩, ob26, ⟨⟨nofun, nofun, .inl rfl⟩, ob27, trivial⟩, ob28, trivial⟩ ?_
      refine thenQ_normal ?_
      have hret := Option.some.inj h
      subst hret
      refine AWp.le (Le.mk (s := ⟨106, [(0, .bool false), (1000000, .elem 32 1 T0F 0 0), (1000002, .elem 20 1 T2F 0 0)], [], [], 0⟩) (s' := ⟨106, [(0, .bool false)], [], [], 0⟩) rfl rfl ⟨.refl _, trivial⟩ trivial) ?_
      refine AWp.ret ?_
      exact bodyQ_ret _ rfl ⟨rfl, rfl⟩ rfl
  ·
    replace h := ite_f hg9_1 h
    have ob10 : false = true → false = true := fun h => h
    have ob11 : false = true → false = true := fun h => h
    have ob12 : true = true → false = true → false = true := fun _ h => h
    have ob13 : false = true → false = true := fun h => h
    have ob14 : false = true → false = true := fun h => h
    have ob15 : true = true → false = true → false = true := fun _ h => h
    have ob16 : false = true → false = true := fun h => h
    have ob17 : false = true → false = true := fun h => h
    have ob18 : true = true → false = true → false = true := fun _ h => h
    have ob19 : false = true → false = true := fun h => h
    have ob20 : false = true → false = true := fun h => h
    have ob21 : true = true → false = true → false = true := fun _ h => h
    have ob22 : false = true → false = true := fun h => h
    have ob23 : false = true → false = true := fun h => h
    have ob24 : true = true → false = true → false = true := fun _ h => h
    have ob25 : false = true → false = true := fun h => h
    have ob26 : false = true → false = true := fun h => h
    have ob27 : true = true → false = true → false = true := fun _ h => h
    have ob28 : false = true → false = true := fun h => h
    have ob29 : true = true → false = true → false = true := fun _ h => h
    refine AWp.regC [] [(1, ⟨[], [], [], [], (.bool false), [], [0], []⟩), (4, ⟨[], [], [], [], .bool false, [], [], []⟩), (9, ⟨[], [], [], [], .bool false, [], [], []⟩), (14, ⟨[], [], [], [], .bool false, [], [], []⟩), (19, ⟨[], [], [], [], .bool false, [], [], []⟩), (24, ⟨[], [], [], [], .bool false, [], [], []⟩), (29, ⟨[], [], [], [], .bool false, [], [], []⟩), (33, ⟨[], [], [], [], .any, [], [], []⟩)] [0, 1000000, 1000002] [] ⟨106, [(0, .bool false), (1000000, .elem 32 1 T0F 0 0), (1000002, .elem 20 1 T2F 0 0)], [], [], 0⟩ ((((.bool ((((((r1.2 == (0 : Int)) && (r2.2 == (0 : Int))) && (r3.2 == (0 : Int))) && (r4.1 == (0 : Int))) && (r5.2 == (0 : Int))) && (r6.2 == (0 : Int)))) : V) = (.bool false)) ∧ ((callP Tryd.prog false 18 [] [] [] [] [] [vL 1 eW 0#16 r1.1, .bool false] [] (.bool false) []) ∧ (false = true → false = true) ∧ (false = true → false = true) ∧ True) ∧ (true = true → false = true → false = true) ∧ ((callP Tryd.prog false 18 [] [] [] [] [] [vL 1 eW 0#16 r2.1, .bool false] [] (.bool false) []) ∧ (false = true → false = true) ∧ (false = true → false = true) ∧ True) ∧ (true = true → false = true → false = true) ∧ ((callP Tryd.prog false 18 [] [] [] [] [] [vL 1 eW 0#16 r3.1, .bool false] [] (.bool false) []) ∧ (false = true → false = true) ∧ (false = true → false = true) ∧ True) ∧ (true = true → false = true → false = true) ∧ ((callP Tryd.prog false 18 [] [] [] [] [] [.own 6001, .bool false] [] (.bool false) []) ∧ (false = true → false = true) ∧ (false = true → false = true) ∧ True) ∧ (true = true → false = true → false = true) ∧ ((callP Tryd.prog false 18 [] [] [] [] [] [vL 1 eW 0#16 r5.1, .bool false] [] (.bool false) []) ∧ (false = true → false = true) ∧ (false = true → false = true) ∧ True) ∧ (true = true → false = true → false = true) ∧ ((callP Tryd.prog false 18 [] [] [] [] [] [vL 1 eW 0#16 r6.1, .bool false] [] (.bool false) []) ∧ (false = true → false = true) ∧ (false = true → false = true) ∧ True) ∧ (true = true → false = true → false = true) ∧ ((callP Tryd.prog false 37 [] [] [] [] [] [vL 1 eW 0#16 r1.1] [] (.any) []) ∧ (false = true → false = true) ∧ True) ∧ (true = true → false = true → false = true) ∧ True) Tryd_mixed (by kernel_rfl) ⟨(congrArg (fun x => ((.bool x) : V)) (Bool.eq_false_iff.2 hg9_1)), ⟨⟨nofun, nofun, .inl rfl⟩, ob10, ob11, trivial⟩, ob12, ⟨⟨nofun, nofun, .inl rfl⟩, ob13, ob14, trivial⟩, ob15, ⟨⟨nofun, nofun, .inl rfl⟩, ob16, ob17, trivial⟩, ob18, ⟨⟨nofun, nofun, .inl rfl⟩, ob19, ob20, trivial⟩, ob21, ⟨⟨nofun, nofun, .inl rfl⟩, ob22, ob23, trivial⟩, ob24, ⟨⟨nofun, nofun, .inl rfl⟩, ob25, ob26, trivial⟩, ob27, ⟨⟨nofun, nofun, .inl rfl⟩, ob28, trivial⟩, ob29, trivial⟩ ?_
    refine thenQ_normal ?_
    have hret := Option.some.inj h
    subst hret
    refine AWp.le (Le.mk (s := ⟨106, [(0, .bool false), (1000000, .elem 32 1 T0F 0 0), (1000002, .elem 20 1 T2F 0 0)], [], [], 0⟩) (s' := ⟨106, [(0, .bool false)], [], [], 0⟩) rfl rfl ⟨.refl _, trivial⟩ trivial) ?_
    refine AWp.ret ?_
    exact bodyQ_ret _ rfl ⟨rfl, rfl⟩ rfl
def f39 (x1 : BitVec 16) : Option Bool :=
  some (decide (x1.toNat < (BitVec.ofInt 16 4096).toNat))
def f59_L0 (x1 : BitVec 16) (K1 : Nat → Option Int) : Nat → (Nat × Nat) → Option Int
  | 0, _ => none
  | k + 1, (n2, n3) =>
    if (decide (((n3 : Nat) : Int) < (16 : Int))) then (
    chk ((((n2 : Nat) : Int) + ((((x1 >>> n3) &&& (BitVec.ofInt 16 1)).toNat : Nat) : Int)) ≤ 9223372036854775807) <|
    chk ((((n3 : Nat) : Int) + (1 : Int)) ≤ 9223372036854775807) <|
    (f59_L0 x1 K1 k) ((n2 + ((x1 >>> n3) &&& (BitVec.ofInt 16 1)).toNat), (n3 + 1))
    ) else (
    K1 n2
    )
def f59 (x1 : BitVec 16) : Option Int :=
  jn (fun (n4 : Nat) =>
  some ((n4 : Nat) : Int)
  ) fun (K1 : Nat → Option Int) =>
  f59_L0 x1 K1 FUEL (0, 0)
set_option maxRecDepth 100000 in
theorem f59_ok  (x1 : BitVec 16) (r : Int) (h : f59 x1 = some r)  : Spec1 Tryd.prog 59 [] [] [] [.b16 x1] (.int .i64 r) [] := by
  unfold f59 at h
  refine Spec1.body 0 _ _ Tryd.func59 rfl Tryd.ntmps59 rfl rfl ?_
  refine AWp.seq ?_
  refine AWp.regC [] [] [0] [] ⟨17, [(0, .b16 x1)], [], [], 0⟩ (True) Tryd_mixed (by kernel_rfl) trivial ?_
  refine thenQ_normal ?_
  refine AWp.seq ?_
  refine AWp.regC [] [] [0, 3] [] ⟨17, [(0, .b16 x1), (3, .int .i64 (0 : Int))], [], [], 0⟩ (True) Tryd_mixed (by kernel_rfl) trivial ?_
  refine thenQ_normal ?_
  obtain ⟨K1, hK1, h⟩ := jn_some h
  refine AWp.join (α := Nat) (fun (n4 : Nat) => ⟨17, [(3, .int .i64 ((n4 : Nat) : Int))], [], [], 0⟩) (fun x => K1 x = some r) ?_ ?_
  ·
    refine AWp.seq ?_
    refine AWp.regC [] [] [0, 3, 4] [] ⟨17, [(0, .b16 x1), (3, .int .i64 (0 : Int)), (4, .int .i64 (0 : Int))], [], [], 0⟩ (True) Tryd_mixed (by kernel_rfl) trivial ?_
    refine thenQ_normal ?_
    refine AWp.block ?_
    refine AWp.loopL (α := Nat × (Nat × Nat)) (fun x => match x with | (_, n2, n3) => ⟨17, [(0, .b16 x1), (3, .int .i64 ((n2 : Nat) : Int)), (4, .int .i64 ((n3 : Nat) : Int))], [], [], 0⟩) (fun x => f59_L0 x1 K1 x.1 x.2 = some r) (fun x => x.1) (FUEL, 0, 0) (Le.mk (s := ⟨17, [(0, .b16 x1), (3, .int .i64 (0 : Int)), (4, .int .i64 (0 : Int))], [], [], 0⟩) (s' := ⟨17, [(0, .b16 x1), (3, .int .i64 (0 : Int)), (4, .int .i64 (0 : Int))], [], [], 0⟩) rfl rfl ⟨.refl _, .refl _, .refl _, trivial⟩ trivial) h ?_
    rintro ⟨k0, n2, n3⟩ h
    cases k0 with
    | zero => exact nomatch (show (none : Option Int) = some r from h)
    | succ k0 =>
    obtain ⟨C0, hC0⟩ : ∃ C, C = f59_L0 x1 K1 k0 := ⟨_, rfl⟩
    replace h := (f59_L0.eq_2 ..).symm.trans h
    try rw [← hC0] at h
    refine AWp.seq ?_
    refine AWp.seq ?_
    refine AWp.regC [] [] [0, 3, 4, 6] [] ⟨17, [(0, .b16 x1), (3, .int .i64 ((n2 : Nat) : Int)), (4, .int .i64 ((n3 : Nat) : Int)), (6, .bool (decide (((n3 : Nat) : Int) < (16 : Int))))], [], [], 0⟩ (True) Tryd_mixed (by kernel_rfl) trivial ?_
    refine thenQ_normal ?_
    refine AWp.cond (b := (decide (((n3 : Nat) : Int) < (16 : Int)))) (by kernel_rfl) (fun hc1 => ?_) (fun hc1 => ?_)
    ·
      replace h := ite_tb hc1 h
      refine AWp.skip ?_
      refine thenQ_normal ?_
      refine AWp.seq ?_
      refine AWp.block ?_
      have ob0 : 0 ≤ ((n3 : Nat) : Int) := by omega
      have ob1 : -9223372036854775808 ≤ ((((x1 >>> n3) &&& (BitVec.ofInt 16 1)).toNat : Nat) : Int) ∧ ((((x1 >>> n3) &&& (BitVec.ofInt 16 1)).toNat : Nat) : Int) ≤ 9223372036854775807 := ⟨by omega, by (have := (((x1 >>> n3) &&& (BitVec.ofInt 16 1)) : BitVec 16).isLt; omega)⟩
      obtain ⟨ob2p, h⟩ := chk_some h
      have ob2 : -9223372036854775808 ≤ (((n2 : Nat) : Int) + ((((x1 >>> n3) &&& (BitVec.ofInt 16 1)).toNat : Nat) : Int)) ∧ (((n2 : Nat) : Int) + ((((x1 >>> n3) &&& (BitVec.ofInt 16 1)).toNat : Nat) : Int)) ≤ 9223372036854775807 := ⟨by omega, ob2p⟩
      refine AWp.regC [] [] [0, 3, 4] [] ⟨17, [(0, .b16 x1), (3, .int .i64 (((n2 + ((x1 >>> n3) &&& (BitVec.ofInt 16 1)).toNat) : Nat) : Int)), (4, .int .i64 ((n3 : Nat) : Int))], [], [], 0⟩ ((0 ≤ ((n3 : Nat) : Int)) ∧ (-9223372036854775808 ≤ ((((x1 >>> n3) &&& (BitVec.ofInt 16 1)).toNat : Nat) : Int) ∧ ((((x1 >>> n3) &&& (BitVec.ofInt 16 1)).toNat : Nat) : Int) ≤ 9223372036854775807) ∧ (-9223372036854775808 ≤ (((n2 : Nat) : Int) + ((((x1 >>> n3) &&& (BitVec.ofInt 16 1)).toNat : Nat) : Int)) ∧ (((n2 : Nat) : Int) + ((((x1 >>> n3) &&& (BitVec.ofInt 16 1)).toNat : Nat) : Int)) ≤ 9223372036854775807) ∧ True) Tryd_mixed (by kernel_rfl) ⟨ob0, ob1, ob2, trivial⟩ ?_
      refine blockQ_normal ?_
      refine thenQ_normal ?_
      obtain ⟨ob3p, h⟩ := chk_some h
      have ob3 : -9223372036854775808 ≤ (((n3 : Nat) : Int) + (1 : Int)) ∧ (((n3 : Nat) : Int) + (1 : Int)) ≤ 9223372036854775807 := ⟨by omega, ob3p⟩
      refine AWp.regC [] [] [0, 3, 4] [] ⟨17, [(0, .b16 x1), (3, .int .i64 (((n2 + ((x1 >>> n3) &&& (BitVec.ofInt 16 1)).toNat) : Nat) : Int)), (4, .int .i64 (((n3 + 1) : Nat) : Int))], [], [], 0⟩ ((-9223372036854775808 ≤ (((n3 : Nat) : Int) + (1 : Int)) ∧ (((n3 : Nat) : Int) + (1 : Int)) ≤ 9223372036854775807) ∧ True) Tryd_mixed (by kernel_rfl) ⟨ob3, trivial⟩ ?_
      rw [hC0] at h
      exact loopQ_normal (_, (n2 + ((x1 >>> n3) &&& (BitVec.ofInt 16 1)).toNat), (n3 + 1)) (Le.mk (s := ⟨17, [(0, .b16 x1), (3, .int .i64 (((n2 + ((x1 >>> n3) &&& (BitVec.ofInt 16 1)).toNat) : Nat) : Int)), (4, .int .i64 (((n3 + 1) : Nat) : Int))], [], [], 0⟩) (s' := ⟨17, [(0, .b16 x1), (3, .int .i64 (((n2 + ((x1 >>> n3) &&& (BitVec.ofInt 16 1)).toNat) : Nat) : Int)), (4, .int .i64 (((n3 + 1) : Nat) : Int))], [], [], 0⟩) rfl rfl ⟨.refl _, .refl _, .refl _, trivial⟩ trivial) h (Nat.lt_succ_self _)
    ·
      replace h := ite_fb hc1 h
      refine AWp.exit ?_
      refine thenQ_exit ?_
      refine thenQ_exit ?_
      refine blockQ_same ?_
      exact joinQ_normal (n2) (Le.mk (s := ⟨17, [(0, .b16 x1), (3, .int .i64 ((n2 : Nat) : Int)), (4, .int .i64 ((n3 : Nat) : Int)), (6, .bool (decide (((n3 : Nat) : Int) < (16 : Int))))], [], [], 0⟩) (s' := ⟨17, [(3, .int .i64 ((n2 : Nat) : Int))], [], [], 0⟩) rfl rfl ⟨.refl _, trivial⟩ trivial) h
  ·
    rintro n4 h
    replace h := (congrFun hK1 _).symm.trans h
    refine AWp.seq ?_
    refine AWp.regC [] [] [2] [] ⟨17, [(2, .int .i64 ((n4 : Nat) : Int))], [], [], 0⟩ (True) Tryd_mixed (by kernel_rfl) trivial ?_
    refine thenQ_normal ?_
    have hret := Option.some.inj h
    subst hret
    refine AWp.le (Le.mk (s := ⟨17, [(2, .int .i64 ((n4 : Nat) : Int))], [], [], 0⟩) (s' := ⟨17, [(2, .int .i64 ((n4 : Nat) : Int))], [], [], 0⟩) rfl rfl ⟨.refl _, trivial⟩ trivial) ?_
    refine AWp.ret ?_
    exact bodyQ_ret _ rfl ⟨rfl, rfl⟩ rfl
def f40 (x1 : BitVec 16) (x2 : BitVec 16) : Option Bool :=
  (f59 x1).bind fun (r3 : Int) =>
  (f59 x2).bind fun (r4 : Int) =>
  if (r3 != r4) then (
  (f59 x1).bind fun (r5 : Int) =>
  (f59 x2).bind fun (r6 : Int) =>
  some (decide (r5 < r6))
  ) else (
  some (decide (x1.toNat < x2.toNat))
  )
set_option maxRecDepth 100000 in
theorem f40_ok  (x1 : BitVec 16) (x2 : BitVec 16) (r : Bool) (h : f40 x1 x2 = some r)  : Spec1 Tryd.prog 40 [] [] [] [.b16 x1, .b16 x2] (.bool r) [] := by
  unfold f40 at h
  refine Spec1.body 0 _ _ Tryd.func40 rfl Tryd.ntmps40 rfl rfl ?_
  refine AWp.seq ?_
  refine AWp.regC [] [] [0, 1] [] ⟨18, [(0, .b16 x1), (1, .b16 x2)], [], [], 0⟩ (True) Tryd_mixed (by kernel_rfl) trivial ?_
  refine thenQ_normal ?_
  refine AWp.seq ?_
  refine AWp.seq ?_
  obtain ⟨r3, hr3, h⟩ := bind_ok h
  obtain ⟨r4, hr4, h⟩ := bind_ok h
  refine AWp.regC [] [(1, ⟨[.b16 x1], [], [], [], .int .i64 r3, [], [], []⟩), (3, ⟨[.b16 x2], [], [], [], .int .i64 r4, [], [], []⟩)] [0, 1, 9] [] ⟨18, [(0, .b16 x1), (1, .b16 x2), (9, .bool (r3 != r4))], [], [], 0⟩ ((callP Tryd.prog true 59 [] [] [] [] [] [.b16 x1] [.b16 x1] (.int .i64 r3) []) ∧ (callP Tryd.prog true 59 [] [] [] [] [] [.b16 x2] [.b16 x2] (.int .i64 r4) []) ∧ True) Tryd_mixed (by kernel_rfl) ⟨⟨fun _ => (f59_ok x1 r3 hr3), fun _ => ⟨.refl _, trivial⟩, .inl rfl⟩, ⟨fun _ => (f59_ok x2 r4 hr4), fun _ => ⟨.refl _, trivial⟩, .inl rfl⟩, trivial⟩ ?_
  refine thenQ_normal ?_
  refine AWp.cond (b := (r3 != r4)) (by kernel_rfl) (fun hc1 => ?_) (fun hc1 => ?_)
  ·
    replace h := ite_tb hc1 h
    refine AWp.seq ?_
    obtain ⟨r5, hr5, h⟩ := bind_ok h
    obtain ⟨r6, hr6, h⟩ := bind_ok h
    refine AWp.regC [] [(1, ⟨[.b16 x1], [], [], [], .int .i64 r5, [], [], []⟩), (3, ⟨[.b16 x2], [], [], [], .int .i64 r6, [], [], []⟩)] [4] [] ⟨18, [(4, .bool (decide (r5 < r6)))], [], [], 0⟩ ((callP Tryd.prog true 59 [] [] [] [] [] [.b16 x1] [.b16 x1] (.int .i64 r5) []) ∧ (callP Tryd.prog true 59 [] [] [] [] [] [.b16 x2] [.b16 x2] (.int .i64 r6) []) ∧ True) Tryd_mixed (by kernel_rfl) ⟨⟨fun _ => (f59_ok x1 r5 hr5), fun _ => ⟨.refl _, trivial⟩, .inl rfl⟩, ⟨fun _ => (f59_ok x2 r6 hr6), fun _ => ⟨.refl _, trivial⟩, .inl rfl⟩, trivial⟩ ?_
    refine thenQ_normal ?_
    have hret := Option.some.inj h
    subst hret
    refine AWp.le (Le.mk (s := ⟨18, [(4, .bool (decide (r5 < r6)))], [], [], 0⟩) (s' := ⟨18, [(4, .bool (decide (r5 < r6)))], [], [], 0⟩) rfl rfl ⟨.refl _, trivial⟩ trivial) ?_
    refine AWp.ret ?_
    refine thenQ_ret ?_
    exact bodyQ_ret _ rfl ⟨rfl, rfl⟩ rfl
  ·
    replace h := ite_fb hc1 h
    refine AWp.skip ?_
    refine thenQ_normal ?_
    refine AWp.seq ?_
    refine AWp.regC [] [] [4] [] ⟨18, [(4, .bool (decide (x1.toNat < x2.toNat)))], [], [], 0⟩ (True) Tryd_mixed (by kernel_rfl) trivial ?_
    refine thenQ_normal ?_
    have hret := Option.some.inj h
    subst hret
    refine AWp.le (Le.mk (s := ⟨18, [(4, .bool (decide (x1.toNat < x2.toNat)))], [], [], 0⟩) (s' := ⟨18, [(4, .bool (decide (x1.toNat < x2.toNat)))], [], [], 0⟩) rfl rfl ⟨.refl _, trivial⟩ trivial) ?_
    refine AWp.ret ?_
    exact bodyQ_ret _ rfl ⟨rfl, rfl⟩ rfl
def f41 (x1 : BitVec 16) (x2 : BitVec 16) : Option Bool :=
  some ((x2 &&& ~~~x1) == (BitVec.ofInt 16 0))
set_option maxRecDepth 100000 in
theorem f41_ok  (x1 : BitVec 16) (x2 : BitVec 16) (r : Bool) (h : f41 x1 x2 = some r)  : Spec1 Tryd.prog 41 [] [] [] [.b16 x1, .b16 x2] (.bool r) [] := by
  unfold f41 at h
  refine Spec1.body 0 _ _ Tryd.func41 rfl Tryd.ntmps41 rfl rfl ?_
  refine AWp.seq ?_
  refine AWp.regC [] [] [0, 1] [] ⟨9, [(0, .b16 x1), (1, .b16 x2)], [], [], 0⟩ (True) Tryd_mixed (by kernel_rfl) trivial ?_
  refine thenQ_normal ?_
  refine AWp.seq ?_
  refine AWp.regC [] [] [4] [] ⟨9, [(4, .bool ((x2 &&& ~~~x1) == (BitVec.ofInt 16 0)))], [], [], 0⟩ (True) Tryd_mixed (by kernel_rfl) trivial ?_
  refine thenQ_normal ?_
  have hret := Option.some.inj h
  subst hret
  refine AWp.le (Le.mk (s := ⟨9, [(4, .bool ((x2 &&& ~~~x1) == (BitVec.ofInt 16 0)))], [], [], 0⟩) (s' := ⟨9, [(4, .bool ((x2 &&& ~~~x1) == (BitVec.ofInt 16 0)))], [], [], 0⟩) rfl rfl ⟨.refl _, trivial⟩ trivial) ?_
  refine AWp.ret ?_
  exact bodyQ_ret _ rfl ⟨rfl, rfl⟩ rfl
def f13_L0 (x1 : List (BitVec 16)) (K1 : Unit → Option Int) : Nat → Nat → Option Int
  | 0, _ => none
  | k + 1, n2 =>
    if (decide (((n2 : Nat) : Int) < (((x1).length : Nat) : Int))) then (
    (f39 (x1.getD n2 0#16)).bind fun (r3 : Bool) =>
    chk (((n2 : Nat) : Int) < (((x1).length : Nat) : Int)) <|
    if (!r3) then (
    some (7 : Int)
    ) else (
    optc ((decide (((n2 : Nat) : Int) > (0 : Int))) == true) (f40 (x1.getD (((((n2 : Nat) : Int) - (1 : Int))).toNat) 0#16) (x1.getD n2 0#16)) fun (r4 : Bool) =>
    chk (((decide (((n2 : Nat) : Int) > (0 : Int))) == true) = true → -9223372036854775808 ≤ (((n2 : Nat) : Int) - (1 : Int)) ∧ (((n2 : Nat) : Int) - (1 : Int)) ≤ 9223372036854775807) <|
    chk (((decide (((n2 : Nat) : Int) > (0 : Int))) == true) = true → 0 ≤ (((n2 : Nat) : Int) - (1 : Int)) ∧ (((n2 : Nat) : Int) - (1 : Int)) < (((x1).length : Nat) : Int)) <|
    chk (((decide (((n2 : Nat) : Int) > (0 : Int))) == true) = true → 0 ≤ ((n2 : Nat) : Int) ∧ ((n2 : Nat) : Int) < (((x1).length : Nat) : Int)) <|
    if ((decide (((n2 : Nat) : Int) > (0 : Int))) && (!r4)) then (
    some (1 : Int)
    ) else (
    chk ((((n2 : Nat) : Int) + (1 : Int)) ≤ 9223372036854775807) <|
    (f13_L0 x1 K1 k) (n2 + 1)
    )
    )
    ) else (
    K1 ()
    )
def f13_L2 (x1 : List (BitVec 16)) (n5 : Nat) (K3 : Unit → Option Int) : Nat → Nat → Option Int
  | 0, _ => none
  | k + 1, n6 =>
    if (decide (((n6 : Nat) : Int) < (((x1).length : Nat) : Int))) then (
    optc ((((n5 : Nat) : Int) != ((n6 : Nat) : Int)) == true) (f41 (x1.getD n5 0#16) (x1.getD n6 0#16)) fun (r7 : Bool) =>
    chk (((((n5 : Nat) : Int) != ((n6 : Nat) : Int)) == true) = true → 0 ≤ ((n5 : Nat) : Int) ∧ ((n5 : Nat) : Int) < (((x1).length : Nat) : Int)) <|
    chk (((((n5 : Nat) : Int) != ((n6 : Nat) : Int)) == true) = true → 0 ≤ ((n6 : Nat) : Int) ∧ ((n6 : Nat) : Int) < (((x1).length : Nat) : Int)) <|
    if ((((n5 : Nat) : Int) != ((n6 : Nat) : Int)) && r7) then (
    some (1 : Int)
    ) else (
    chk ((((n6 : Nat) : Int) + (1 : Int)) ≤ 9223372036854775807) <|
    (f13_L2 x1 n5 K3 k) (n6 + 1)
    )
    ) else (
    K3 ()
    )
def f13_L1 (x1 : List (BitVec 16)) (K2 : Unit → Option Int) : Nat → Nat → Option Int
  | 0, _ => none
  | k + 1, n5 =>
    if (decide (((n5 : Nat) : Int) < (((x1).length : Nat) : Int))) then (
    jn (fun (_ : Unit) =>
    chk ((((n5 : Nat) : Int) + (1 : Int)) ≤ 9223372036854775807) <|
    (f13_L1 x1 K2 k) (n5 + 1)
    ) fun (K3 : Unit → Option Int) =>
    f13_L2 x1 n5 K3 FUEL 0
    ) else (
    K2 ()
    )
def f13 (x1 : List (BitVec 16)) : Option Int :=
  if (decide ((((x1).length : Nat) : Int) > (400 : Int))) then (
  some (3 : Int)
  ) else (
  jn (fun (_ : Unit) =>
  jn (fun (_ : Unit) =>
  some (0 : Int)
  ) fun (K2 : Unit → Option Int) =>
  f13_L1 x1 K2 FUEL 0
  ) fun (K1 : Unit → Option Int) =>
  f13_L0 x1 K1 FUEL 0
  )
def f68_L1 (x1 : List (BitVec 16)) (n2 : Nat) (K3 : (Nat × List (BitVec 16)) → Option (List (BitVec 16))) : Nat → (Nat × List (BitVec 16)) → Option (List (BitVec 16))
  | 0, _ => none
  | k + 1, (n4, l5) =>
    optc ((decide (((n4 : Nat) : Int) < (((l5).length : Nat) : Int))) == true) (f40 (l5.getD n4 0#16) (x1.getD n2 0#16)) fun (r6 : Bool) =>
    chk (((decide (((n4 : Nat) : Int) < (((l5).length : Nat) : Int))) == true) = true → 0 ≤ ((n4 : Nat) : Int) ∧ ((n4 : Nat) : Int) < (((l5).length : Nat) : Int)) <|
    chk (((decide (((n4 : Nat) : Int) < (((l5).length : Nat) : Int))) == true) = true → n4 < (l5).length) <|
    chk (((decide (((n4 : Nat) : Int) < (((l5).length : Nat) : Int))) == true) = true → 0 ≤ ((n2 : Nat) : Int) ∧ ((n2 : Nat) : Int) < (((x1).length : Nat) : Int)) <|
    if ((decide (((n4 : Nat) : Int) < (((l5).length : Nat) : Int))) && r6) then (
    chk ((((n4 : Nat) : Int) + (1 : Int)) ≤ 9223372036854775807) <|
    (f68_L1 x1 n2 K3 k) ((n4 + 1), l5)
    ) else (
    K3 (n4, l5)
    )
def f68_L2 (n7 : Nat) (K4 : (List (BitVec 16)) → Option (List (BitVec 16))) : Nat → (Int × List (BitVec 16)) → Option (List (BitVec 16))
  | 0, _ => none
  | k + 1, (i10, l11) =>
    if (decide (i10 > ((n7 : Nat) : Int))) then (
    chk (-9223372036854775808 ≤ (i10 - (1 : Int)) ∧ (i10 - (1 : Int)) ≤ 9223372036854775807) <|
    chk (0 ≤ (i10 - (1 : Int)) ∧ (i10 - (1 : Int)) < (((l11).length : Nat) : Int)) <|
    chk ((((i10 - (1 : Int))).toNat) < (l11).length) <|
    chk (0 ≤ i10 ∧ i10 < (((l11).length : Nat) : Int)) <|
    chk (((i10).toNat) < (l11).length) <|
    chk (-9223372036854775808 ≤ (i10 - (1 : Int)) ∧ (i10 - (1 : Int)) ≤ 9223372036854775807) <|
    (f68_L2 n7 K4 k) ((i10 - (1 : Int)), (l11.set ((i10).toNat) (l11.getD (((i10 - (1 : Int))).toNat) 0#16)))
    ) else (
    K4 l11
    )
def f68_L0 (x1 : List (BitVec 16)) (K1 : (List (BitVec 16)) → Option (List (BitVec 16))) : Nat → (Nat × List (BitVec 16)) → Option (List (BitVec 16))
  | 0, _ => none
  | k + 1, (n2, l3) =>
    if (decide (((n2 : Nat) : Int) < (((x1).length : Nat) : Int))) then (
    jn (fun (l9 : List (BitVec 16)) =>
    chk ((((n2 : Nat) : Int) + (1 : Int)) ≤ 9223372036854775807) <|
    (f68_L0 x1 K1 k) ((n2 + 1), l9)
    ) fun (K2 : (List (BitVec 16)) → Option (List (BitVec 16))) =>
    jn (fun ((n7, l8) : Nat × List (BitVec 16)) =>
    chk (((decide (((n7 : Nat) : Int) < (((l8).length : Nat) : Int))) == true) = true → 0 ≤ ((n7 : Nat) : Int) ∧ ((n7 : Nat) : Int) < (((l8).length : Nat) : Int)) <|
    chk (((decide (((n7 : Nat) : Int) < (((l8).length : Nat) : Int))) == true) = true → n7 < (l8).length) <|
    chk (((decide (((n7 : Nat) : Int) < (((l8).length : Nat) : Int))) == true) = true → 0 ≤ ((n2 : Nat) : Int) ∧ ((n2 : Nat) : Int) < (((x1).length : Nat) : Int)) <|
    if ((decide (((n7 : Nat) : Int) < (((l8).length : Nat) : Int))) && ((l8.getD n7 0#16) == (x1.getD n2 0#16))) then (
    K2 l8
    ) else (
    chk (((l8).length + 1) * 2 ≤ 140737488355328) <|
    jn (fun (l12 : List (BitVec 16)) =>
    chk (((n2 : Nat) : Int) < (((x1).length : Nat) : Int)) <|
    chk (((n7 : Nat) : Int) < (((l12).length : Nat) : Int)) <|
    chk (n7 < (l12).length) <|
    K2 (l12.set n7 (x1.getD n2 0#16))
    ) fun (K4 : (List (BitVec 16)) → Option (List (BitVec 16))) =>
    chk (-9223372036854775808 ≤ (((((l8 ++ [(BitVec.ofInt 16 0)])).length : Nat) : Int) - (1 : Int)) ∧ (((((l8 ++ [(BitVec.ofInt 16 0)])).length : Nat) : Int) - (1 : Int)) ≤ 9223372036854775807) <|
    f68_L2 n7 K4 FUEL ((((((l8 ++ [(BitVec.ofInt 16 0)])).length : Nat) : Int) - (1 : Int)), (l8 ++ [(BitVec.ofInt 16 0)]))
    )
    ) fun (K3 : (Nat × List (BitVec 16)) → Option (List (BitVec 16))) =>
    f68_L1 x1 n2 K3 FUEL (0, l3)
    ) else (
    K1 l3
    )
def f68 (x1 : List (BitVec 16)) : Option (List (BitVec 16)) :=
  jn (fun (l13 : List (BitVec 16)) =>
  some l13
  ) fun (K1 : (List (BitVec 16)) → Option (List (BitVec 16))) =>
  f68_L0 x1 K1 FUEL (0, [])
set_option maxRecDepth 100000 in
theorem f68_ok  (x1 : List (BitVec 16)) (r : List (BitVec 16)) (h : f68 x1 = some r)  : Spec1 Tryd.prog 68 [] [] [] [vL 1 eW 0#16 x1] (.own 3000) [(3000, bL 28 1 eW 0#16 r)] := by
  unfold f68 at h
  refine Spec1.body 0 _ _ Tryd.func68 rfl Tryd.ntmps68 rfl rfl ?_
  refine AWp.seq ?_
  refine AWp.regC [] [] [0] [] ⟨72, [(0, vL 1 eW 0#16 x1)], [], [], 0⟩ (True) Tryd_mixed (by kernel_rfl) trivial ?_
  refine thenQ_normal ?_
  refine AWp.seq ?_
  refine AWp.regC [] [] [0, 3] [] ⟨72, [(0, vL 1 eW 0#16 x1), (3, .nils)], [], [], 0⟩ (True) Tryd_mixed (by kernel_rfl) trivial ?_
  refine thenQ_normal ?_
  obtain ⟨K1, hK1, h⟩ := jn_some h
  refine AWp.join (α := List (BitVec 16)) (fun (l13 : List (BitVec 16)) => ⟨72, [(3, .own 5003)], [(5003, bL 28 1 eW 0#16 l13)], [], 0⟩) (fun x => K1 x = some r) ?_ ?_
  ·
    refine AWp.seq ?_
    refine AWp.regC [] [] [0, 3, 4] [] ⟨72, [(0, vL 1 eW 0#16 x1), (3, .nils), (4, .int .i64 (0 : Int))], [], [], 0⟩ (True) Tryd_mixed (by kernel_rfl) trivial ?_
    refine thenQ_normal ?_
    refine AWp.block ?_
    refine AWp.loopL (α := Nat × (Nat × List (BitVec 16))) (fun x => match x with | (_, n2, l3) => ⟨72, [(0, vL 1 eW 0#16 x1), (3, .own 5003), (4, .int .i64 ((n2 : Nat) : Int))], [(5003, bL 28 1 eW 0#16 l3)], [], 0⟩) (fun x => f68_L0 x1 K1 x.1 x.2 = some r) (fun x => x.1) (FUEL, 0, []) (Le.trans (Le.trans (Le.nilOwn (s := ⟨72, [(0, vL 1 eW 0#16 x1), (3, .nils), (4, .int .i64 (0 : Int))], [], [], 0⟩) 3 5003 28 1 (encF eW 0#16 []) rfl rfl (Nat.le_of_ble_eq_true rfl)) (Le.mk (s' := ⟨72, [(0, vL 1 eW 0#16 x1), (3, .own 5003), (4, .int .i64 (0 : Int))], [(5003, bL 28 1 eW 0#16 [])], [], 0⟩) rfl rfl ⟨.refl _, .refl _, .refl _, trivial⟩ ⟨⟨_, rfl, .refl _⟩, trivial⟩)) (Le.mk (s := ⟨72, [(0, vL 1 eW 0#16 x1), (3, .own 5003), (4, .int .i64 (0 : Int))], [(5003, bL 28 1 eW 0#16 [])], [], 0⟩) (s' := ⟨72, [(0, vL 1 eW 0#16 x1), (3, .own 5003), (4, .int .i64 (0 : Int))], [(5003, bL 28 1 eW 0#16 [])], [], 0⟩) rfl rfl ⟨.refl _, .refl _, .refl _, trivial⟩ ⟨⟨_, rfl, .refl _⟩, trivial⟩)) h ?_
    rintro ⟨k0, n2, l3⟩ h
    cases k0 with
    | zero => exact nomatch (show (none : Option (List (BitVec 16))) = some r from h)
    | succ k0 =>
    obtain ⟨C0, hC0⟩ : ∃ C, C = f68_L0 x1 K1 k0 := ⟨_, rfl⟩
    replace h := (f68_L0.eq_2 ..).symm.trans h
    try rw [← hC0] at h
    refine AWp.seq ?_
    refine AWp.seq ?_
    refine AWp.regC [] [] [0, 3, 4, 10] [5003] ⟨72, [(0, vL 1 eW 0#16 x1), (3, .own 5003), (4, .int .i64 ((n2 : Nat) : Int)), (10, .bool (decide (((n2 : Nat) : Int) < (((x1).length : Nat) : Int))))], [(5003, bL 28 1 eW 0#16 l3)], [], 0⟩ (True) Tryd_mixed (by kernel_rfl) trivial ?_
    refine thenQ_normal ?_
    refine AWp.cond (b := (decide (((n2 : Nat) : Int) < (((x1).length : Nat) : Int)))) (by kernel_rfl) (fun hc1 => ?_) (fun hc1 => ?_)
    ·
      replace h := ite_tb hc1 h
      refine AWp.skip ?_
      refine thenQ_normal ?_
      obtain ⟨K2, hK2, h⟩ := jn_some h
      refine AWp.join (α := List (BitVec 16)) (fun (l9 : List (BitVec 16)) => ⟨72, [(0, vL 1 eW 0#16 x1), (3, .own 5003), (4, .int .i64 ((n2 : Nat) : Int))], [(5003, bL 28 1 eW 0#16 l9)], [], 0⟩) (fun x => K2 x = some r) ?_ ?_
      ·
        refine AWp.block ?_
        refine AWp.seq ?_
        refine AWp.regC [] [] [0, 3, 4, 5] [5003] ⟨72, [(0, vL 1 eW 0#16 x1), (3, .own 5003), (4, .int .i64 ((n2 : Nat) : Int)), (5, .int .i64 (0 : Int))], [(5003, bL 28 1 eW 0#16 l3)], [], 0⟩ (True) Tryd_mixed (by kernel_rfl) trivial ?_
        refine thenQ_normal ?_
        obtain ⟨K3, hK3, h⟩ := jn_some h
        refine AWp.join (α := Nat × List (BitVec 16)) (fun (x : Nat × List (BitVec 16)) => match x with | (n7, l8) => ⟨72, [(0, vL 1 eW 0#16 x1), (3, .own 5003), (4, .int .i64 ((n2 : Nat) : Int)), (5, .int .i64 ((n7 : Nat) : Int))], [(5003, bL 28 1 eW 0#16 l8)], [], 0⟩) (fun x => K3 x = some r) ?_ ?_
        ·
          refine AWp.block ?_
          refine AWp.loopL (α := Nat × (Nat × List (BitVec 16))) (fun x => match x with | (_, n4, l5) => ⟨72, [(0, vL 1 eW 0#16 x1), (3, .own 5003), (4, .int .i64 ((n2 : Nat) : Int)), (5, .int .i64 ((n4 : Nat) : Int))], [(5003, bL 28 1 eW 0#16 l5)], [], 0⟩) (fun x => f68_L1 x1 n2 K3 x.1 x.2 = some r) (fun x => x.1) (FUEL, 0, l3) (Le.mk (s := ⟨72, [(0, vL 1 eW 0#16 x1), (3, .own 5003), (4, .int .i64 ((n2 : Nat) : Int)), (5, .int .i64 (0 : Int))], [(5003, bL 28 1 eW 0#16 l3)], [], 0⟩) (s' := ⟨72, [(0, vL 1 eW 0#16 x1), (3, .own 5003), (4, .int .i64 ((n2 : Nat) : Int)), (5, .int .i64 (0 : Int))], [(5003, bL 28 1 eW 0#16 l3)], [], 0⟩) rfl rfl ⟨.refl _, .refl _, .refl _, .refl _, trivial⟩ ⟨⟨_, rfl, .refl _⟩, trivial⟩) h ?_
          rintro ⟨k1, n4, l5⟩ h
          cases k1 with
          | zero => exact nomatch (show (none : Option (List (BitVec 16))) = some r from h)
          | succ k1 =>
          obtain ⟨C1, hC1⟩ : ∃ C, C = f68_L1 x1 n2 K3 k1 := ⟨_, rfl⟩
          replace h := (f68_L1.eq_2 ..).symm.trans h
          try rw [← hC1] at h
          refine AWp.seq ?_
          refine AWp.seq ?_
          obtain ⟨r6, hr6, h⟩ := optc_some h
          obtain ⟨ob0, h⟩ := chk_some h
          have ob1 : ((decide (((n4 : Nat) : Int) < (((l5).length : Nat) : Int))) == true) = true → ((decide (((n4 : Nat) : Int) < (((l5).length : Nat) : Int))) == true) = true := fun h => h
          have ob2 : ((decide (((n4 : Nat) : Int) < (((l5).length : Nat) : Int))) == true) = true → ((decide (((n4 : Nat) : Int) < (((l5).length : Nat) : Int))) == true) = true := fun h => h
          obtain ⟨ob3, h⟩ := chk_some h
          have ob4 : ((decide (((n4 : Nat) : Int) < (((l5).length : Nat) : Int))) == true) = true → ((decide (((n4 : Nat) : Int) < (((l5).length : Nat) : Int))) == true) = true := fun h => h
          obtain ⟨ob5, h⟩ := chk_some h
          have ob6 : ((decide (((n4 : Nat) : Int) < (((l5).length : Nat) : Int))) == true) = true → ((decide (((n4 : Nat) : Int) < (((l5).length : Nat) : Int))) == true) = true := fun h => h
          have ob7 : ((decide (((n4 : Nat) : Int) < (((l5).length : Nat) : Int))) == true) = true → ((decide (((n4 : Nat) : Int) < (((l5).length : Nat) : Int))) == true) = true := fun h => h
          have ob8 : ((decide (((n4 : Nat) : Int) < (((l5).length : Nat) : Int))) == true) = true → ((decide (((n4 : Nat) : Int) < (((l5).length : Nat) : Int))) == true) = true := fun h => h
          have ob9 : ((decide (((n4 : Nat) : Int) < (((l5).length : Nat) : Int))) == true) = true → ((decide (((n4 : Nat) : Int) < (((l5).length : Nat) : Int))) == true) = true := fun h => h
          have ob10 : ((decide (((n4 : Nat) : Int) < (((l5).length : Nat) : Int))) == true) = true → ((decide (((n4 : Nat) : Int) < (((l5).length : Nat) : Int))) == true) = true := fun h => h
          have ob11 : true = true → (decide (((n4 : Nat) : Int) < (((l5).length : Nat) : Int))) = true → ((decide (((n4 : Nat) : Int) < (((l5).length : Nat) : Int))) == true) = true := fun _ h => beq_iff_eq.2 h
          refine AWp.regC [] [(13, ⟨[.b16 (l5.getD n4 0#16), .b16 (x1.getD n2 0#16)], [], [], [], .bool r6, [], [], []⟩)] [0, 3, 4, 5, 27] [5003] ⟨72, [(0, vL 1 eW 0#16 x1), (3, .own 5003), (4, .int .i64 ((n2 : Nat) : Int)), (5, .int .i64 ((n4 : Nat) : Int)), (27, .bool ((decide (((n4 : Nat) : Int) < (((l5).length : Nat) : Int))) && r6))], [(5003, bL 28 1 eW 0#16 l5)], [], 0⟩ (((((decide (((n4 : Nat) : Int) < (((l5).length : Nat) : Int))) == true) = true → 0 ≤ ((n4 : Nat) : Int) ∧ ((n4 : Nat) : Int) < (((l5).length : Nat) : Int)) ∧ (((decide (((n4 : Nat) : Int) < (((l5).length : Nat) : Int))) == true) = true → ((decide (((n4 : Nat) : Int) < (((l5).length : Nat) : Int))) == true) = true) ∧ (((decide (((n4 : Nat) : Int) < (((l5).length : Nat) : Int))) == true) = true → ((decide (((n4 : Nat) : Int) < (((l5).length : Nat) : Int))) == true) = true) ∧ True) ∧ ((((decide (((n4 : Nat) : Int) < (((l5).length : Nat) : Int))) == true) = true → n4 < (l5).length) ∧ (((decide (((n4 : Nat) : Int) < (((l5).length : Nat) : Int))) == true) = true → ((decide (((n4 : Nat) : Int) < (((l5).length : Nat) : Int))) == true) = true) ∧ True) ∧ ((((decide (((n4 : Nat) : Int) < (((l5).length : Nat) : Int))) == true) = true → 0 ≤ ((n2 : Nat) : Int) ∧ ((n2 : Nat) : Int) < (((x1).length : Nat) : Int)) ∧ (((decide (((n4 : Nat) : Int) < (((l5).length : Nat) : Int))) == true) = true → ((decide (((n4 : Nat) : Int) < (((l5).length : Nat) : Int))) == true) = true) ∧ (((decide (((n4 : Nat) : Int) < (((l5).length : Nat) : Int))) == true) = true → ((decide (((n4 : Nat) : Int) < (((l5).length : Nat) : Int))) == true) = true) ∧ True) ∧ ((((decide (((n4 : Nat) : Int) < (((l5).length : Nat) : Int))) == true) = true → ((decide (((n4 : Nat) : Int) < (((l5).length : Nat) : Int))) == true) = true) ∧ True) ∧ ((callP Tryd.prog ((decide (((n4 : Nat) : Int) < (((l5).length : Nat) : Int))) == true) 40 [] [] [] [] [] [.b16 (l5.getD n4 0#16), .b16 (x1.getD n2 0#16)] [.b16 (l5.getD n4 0#16), .b16 (x1.getD n2 0#16)] (.bool r6) []) ∧ (((decide (((n4 : Nat) : Int) < (((l5).length : Nat) : Int))) == true) = true → ((decide (((n4 : Nat) : Int) < (((l5).length : Nat) : Int))) == true) = true) ∧ (((decide (((n4 : Nat) : Int) < (((l5).length : Nat) : Int))) == true) = true → ((decide (((n4 : Nat) : Int) < (((l5).length : Nat) : Int))) == true) = true) ∧ True) ∧ (true = true → (decide (((n4 : Nat) : Int) < (((l5).length : Nat) : Int))) = true → ((decide (((n4 : Nat) : Int) < (((l5).length : Nat) : Int))) == true) = true) ∧ True) Tryd_mixed (by kernel_rfl) ⟨⟨ob0, ob1, ob2, trivial⟩, ⟨ob3, ob4, trivial⟩, ⟨ob5, ob6, ob7, trivial⟩, ⟨ob8, trivial⟩, ⟨⟨fun hc => (f40_ok (l5.getD n4 0#16) (x1.getD n2 0#16) r6 (hr6 hc)), fun _ => ⟨.refl _, .refl _, trivial⟩, .inl rfl⟩, ob9, ob10, trivial⟩, ob11, trivial⟩ ?_
          refine thenQ_normal ?_
          refine AWp.cond (b := ((decide (((n4 : Nat) : Int) < (((l5).length : Nat) : Int))) && r6)) (by kernel_rfl) (fun hc2 => ?_) (fun hc2 => ?_)
          ·
            replace h := ite_tb hc2 h
            refine AWp.skip ?_
            refine thenQ_normal ?_
            refine AWp.block ?_
            obtain ⟨ob12p, h⟩ := chk_some h
            have ob12 : -9223372036854775808 ≤ (((n4 : Nat) : Int) + (1 : Int)) ∧ (((n4 : Nat) : Int) + (1 : Int)) ≤ 9223372036854775807 := ⟨by omega, ob12p⟩
            refine AWp.regC [] [] [0, 3, 4, 5] [5003] ⟨72, [(0, vL 1 eW 0#16 x1), (3, .own 5003), (4, .int .i64 ((n2 : Nat) : Int)), (5, .int .i64 (((n4 + 1) : Nat) : Int))], [(5003, bL 28 1 eW 0#16 l5)], [], 0⟩ ((-9223372036854775808 ≤ (((n4 : Nat) : Int) + (1 : Int)) ∧ (((n4 : Nat) : Int) + (1 : Int)) ≤ 9223372036854775807) ∧ True) Tryd_mixed (by kernel_rfl) ⟨ob12, trivial⟩ ?_
            refine blockQ_normal ?_
            rw [hC1] at h
            exact loopQ_normal (_, (n4 + 1), l5) (Le.mk (s := ⟨72, [(0, vL 1 eW 0#16 x1), (3, .own 5003), (4, .int .i64 ((n2 : Nat) : Int)), (5, .int .i64 (((n4 + 1) : Nat) : Int))], [(5003, bL 28 1 eW 0#16 l5)], [], 0⟩) (s' := ⟨72, [(0, vL 1 eW 0#16 x1), (3, .own 5003), (4, .int .i64 ((n2 : Nat) : Int)), (5, .int .i64 (((n4 + 1) : Nat) : Int))], [(5003, bL 28 1 eW 0#16 l5)], [], 0⟩) rfl rfl ⟨.refl _, .refl _, .refl _, .refl _, trivial⟩ ⟨⟨_, rfl, .refl _⟩, trivial⟩) h (Nat.lt_succ_self _)
          ·
            replace h := ite_fb hc2 h
            refine AWp.exit ?_
            refine thenQ_exit ?_
            refine thenQ_exit ?_
            refine blockQ_same ?_
            exact joinQ_normal (n4, l5) (Le.mk (s := ⟨72, [(0, vL 1 eW 0#16 x1), (3, .own 5003), (4, .int .i64 ((n2 : Nat) : Int)), (5, .int .i64 ((n4 : Nat) : Int)), (27, .bool ((decide (((n4 : Nat) : Int) < (((l5).length : Nat) : Int))) && r6))], [(5003, bL 28 1 eW 0#16 l5)], [], 0⟩) (s' := ⟨72, [(0, vL 1 eW 0#16 x1), (3, .own 5003), (4, .int .i64 ((n2 : Nat) : Int)), (5, .int .i64 ((n4 : Nat) : Int))], [(5003, bL 28 1 eW 0#16 l5)], [], 0⟩) rfl rfl ⟨.refl _, .refl _, .refl _, .refl _, trivial⟩ ⟨⟨_, rfl, .refl _⟩, trivial⟩) h
        ·
          rintro ⟨n7, l8⟩ h
          replace h := (congrFun hK3 _).symm.trans h
          refine AWp.seq ?_
          refine AWp.seq ?_
          obtain ⟨ob13, h⟩ := chk_some h
          have ob14 : ((decide (((n7 : Nat) : Int) < (((l8).length : Nat) : Int))) == true) = true → ((decide (((n7 : Nat) : Int) < (((l8).length : Nat) : Int))) == true) = true := fun h => h
          have ob15 : ((decide (((n7 : Nat) : Int) < (((l8).length : Nat) : Int))) == true) = true → ((decide (((n7 : Nat) : Int) < (((l8).length : Nat) : Int))) == true) = true := fun h => h
          obtain ⟨ob16, h⟩ := chk_some h
          have ob17 : ((decide (((n7 : Nat) : Int) < (((l8).length : Nat) : Int))) == true) = true → ((decide (((n7 : Nat) : Int) < (((l8).length : Nat) : Int))) == true) = true := fun h => h
          obtain ⟨ob18, h⟩ := chk_some h
          have ob19 : ((decide (((n7 : Nat) : Int) < (((l8).length : Nat) : Int))) == true) = true → ((decide (((n7 : Nat) : Int) < (((l8).length : Nat) : Int))) == true) = true := fun h => h
          have ob20 : ((decide (((n7 : Nat) : Int) < (((l8).length : Nat) : Int))) == true) = true → ((decide (((n7 : Nat) : Int) < (((l8).length : Nat) : Int))) == true) = true := fun h => h
          have ob21 : ((decide (((n7 : Nat) : Int) < (((l8).length : Nat) : Int))) == true) = true → ((decide (((n7 : Nat) : Int) < (((l8).length : Nat) : Int))) == true) = true := fun h => h
          have ob22 : ((decide (((n7 : Nat) : Int) < (((l8).length : Nat) : Int))) == true) = true → ((decide (((n7 : Nat) : Int) < (((l8).length : Nat) : Int))) == true) = true := fun h => h
          have ob23 : ((decide (((n7 : Nat) : Int) < (((l8).length : Nat) : Int))) == true) = true → ((decide (((n7 : Nat) : Int) < (((l8).length : Nat) : Int))) == true) = true := fun h => h
          have ob24 : true = true → (decide (((n7 : Nat) : Int) < (((l8).length : Nat) : Int))) = true → ((decide (((n7 : Nat) : Int) < (((l8).length : Nat) : Int))) == true) = true := fun _ h => beq_iff_eq.2 h
          refine AWp.regC [] [] [0, 3, 4, 5, 44] [5003] ⟨72, [(0, vL 1 eW 0#16 x1), (3, .own 5003), (4, .int .i64 ((n2 : Nat) : Int)), (5, .int .i64 ((n7 : Nat) : Int)), (44, .bool ((decide (((n7 : Nat) : Int) < (((l8).length : Nat) : Int))) && ((l8.getD n7 0#16) == (x1.getD n2 0#16))))], [(5003, bL 28 1 eW 0#16 l8)], [], 0⟩ (((((decide (((n7 : Nat) : Int) < (((l8).length : Nat) : Int))) == true) = true → 0 ≤ ((n7 : Nat) : Int) ∧ ((n7 : Nat) : Int) < (((l8).length : Nat) : Int)) ∧ (((decide (((n7 : Nat) : Int) < (((l8).length : Nat) : Int))) == true) = true → ((decide (((n7 : Nat) : Int) < (((l8).length : Nat) : Int))) == true) = true) ∧ (((decide (((n7 : Nat) : Int) < (((l8).length : Nat) : Int))) == true) = true → ((decide (((n7 : Nat) : Int) < (((l8).length : Nat) : Int))) == true) = true) ∧ True) ∧ ((((decide (((n7 : Nat) : Int) < (((l8).length : Nat) : Int))) == true) = true → n7 < (l8).length) ∧ (((decide (((n7 : Nat) : Int) < (((l8).length : Nat) : Int))) == true) = true → ((decide (((n7 : Nat) : Int) < (((l8).length : Nat) : Int))) == true) = true) ∧ True) ∧ ((((decide (((n7 : Nat) : Int) < (((l8).length : Nat) : Int))) == true) = true → 0 ≤ ((n2 : Nat) : Int) ∧ ((n2 : Nat) : Int) < (((x1).length : Nat) : Int)) ∧ (((decide (((n7 : Nat) : Int) < (((l8).length : Nat) : Int))) == true) = true → ((decide (((n7 : Nat) : Int) < (((l8).length : Nat) : Int))) == true) = true) ∧ (((decide (((n7 : Nat) : Int) < (((l8).length : Nat) : Int))) == true) = true → ((decide (((n7 : Nat) : Int) < (((l8).length : Nat) : Int))) == true) = true) ∧ True) ∧ ((((decide (((n7 : Nat) : Int) < (((l8).length : Nat) : Int))) == true) = true → ((decide (((n7 : Nat) : Int) < (((l8).length : Nat) : Int))) == true) = true) ∧ True) ∧ ((((decide (((n7 : Nat) : Int) < (((l8).length : Nat) : Int))) == true) = true → ((decide (((n7 : Nat) : Int) < (((l8).length : Nat) : Int))) == true) = true) ∧ (((decide (((n7 : Nat) : Int) < (((l8).length : Nat) : Int))) == true) = true → ((decide (((n7 : Nat) : Int) < (((l8).length : Nat) : Int))) == true) = true) ∧ True) ∧ (true = true → (decide (((n7 : Nat) : Int) < (((l8).length : Nat) : Int))) = true → ((decide (((n7 : Nat) : Int) < (((l8).length : Nat) : Int))) == true) = true) ∧ True) Tryd_mixed (by kernel_rfl) ⟨⟨ob13, ob14, ob15, trivial⟩, ⟨ob16, ob17, trivial⟩, ⟨ob18, ob19, ob20, trivial⟩, ⟨ob21, trivial⟩, ⟨ob22, ob23, trivial⟩, ob24, trivial⟩ ?_
          refine thenQ_normal ?_
          refine AWp.cond (b := ((decide (((n7 : Nat) : Int) < (((l8).length : Nat) : Int))) && ((l8.getD n7 0#16) == (x1.getD n2 0#16)))) (by kernel_rfl) (fun hc3 => ?_) (fun hc3 => ?_)
          ·
            replace h := ite_tb hc3 h
            refine AWp.exit ?_
            refine thenQ_exit ?_
            refine blockQ_same ?_
            exact joinQ_normal (l8) (Le.mk (s := ⟨72, [(0, vL 1 eW 0#16 x1), (3, .own 5003), (4, .int .i64 ((n2 : Nat) : Int)), (5, .int .i64 ((n7 : Nat) : Int)), (44, .bool ((decide (((n7 : Nat) : Int) < (((l8).length : Nat) : Int))) && ((l8.getD n7 0#16) == (x1.getD n2 0#16))))], [(5003, bL 28 1 eW 0#16 l8)], [], 0⟩) (s' := ⟨72, [(0, vL 1 eW 0#16 x1), (3, .own 5003), (4, .int .i64 ((n2 : Nat) : Int))], [(5003, bL 28 1 eW 0#16 l8)], [], 0⟩) rfl rfl ⟨.refl _, .refl _, .refl _, trivial⟩ ⟨⟨_, rfl, .refl _⟩, trivial⟩) h
          ·
            replace h := ite_fb hc3 h
            refine AWp.skip ?_
            refine thenQ_normal ?_
            refine AWp.seq ?_
            obtain ⟨ob25, h⟩ := chk_some h
            refine AWp.regC [] [] [0, 3, 4, 5] [5003] ⟨72, [(0, vL 1 eW 0#16 x1), (3, .own 5003), (4, .int .i64 ((n2 : Nat) : Int)), (5, .int .i64 ((n7 : Nat) : Int))], [(5003, .rows 28 1 ((l8).length + 1) (appF (l8).length (encF eW 0#16 l8) (lstF 1 [.b16 (BitVec.ofInt 16 0)])))], [], 0⟩ ((((l8).length + 1) * 2 ≤ 140737488355328) ∧ True) Tryd_mixed (by kernel_rfl) ⟨ob25, trivial⟩ ?_
            refine thenQ_normal ?_
            refine AWp.le (Le.mk (s := ⟨72, [(0, vL 1 eW 0#16 x1), (3, .own 5003), (4, .int .i64 ((n2 : Nat) : Int)), (5, .int .i64 ((n7 : Nat) : Int))], [(5003, .rows 28 1 ((l8).length + 1) (appF (l8).length (encF eW 0#16 l8) (lstF 1 [.b16 (BitVec.ofInt 16 0)])))], [], 0⟩) (s' := ⟨72, [(0, vL 1 eW 0#16 x1), (3, .own 5003), (4, .int .i64 ((n2 : Nat) : Int)), (5, .int .i64 ((n7 : Nat) : Int))], [(5003, bL 28 1 eW 0#16 (l8 ++ [(BitVec.ofInt 16 0)]))], [], 0⟩) rfl rfl ⟨.refl _, .refl _, .refl _, .refl _, trivial⟩ ⟨⟨_, rfl, (BLe.of (RL.app (RL.self _) (RL.lst (enc := eW) [(BitVec.ofInt 16 0)] rfl rfl (fun _ => rfl))))⟩, trivial⟩) ?_
            obtain ⟨K4, hK4, h⟩ := jn_some h
            refine AWp.join (α := List (BitVec 16)) (fun (l12 : List (BitVec 16)) => ⟨72, [(0, vL 1 eW 0#16 x1), (3, .own 5003), (4, .int .i64 ((n2 : Nat) : Int)), (5, .int .i64 ((n7 : Nat) : Int))], [(5003, bL 28 1 eW 0#16 l12)], [], 0⟩) (fun x => K4 x = some r) ?_ ?_
            ·
              refine AWp.seq ?_
              obtain ⟨ob26, h⟩ := chk_some h
              refine AWp.regC [] [] [0, 3, 4, 5, 6] [5003] ⟨72, [(0, vL 1 eW 0#16 x1), (3, .own 5003), (4, .int .i64 ((n2 : Nat) : Int)), (5, .int .i64 ((n7 : Nat) : Int)), (6, .int .i64 (((((l8 ++ [(BitVec.ofInt 16 0)])).length : Nat) : Int) - (1 : Int)))], [(5003, bL 28 1 eW 0#16 (l8 ++ [(BitVec.ofInt 16 0)]))], [], 0⟩ ((-9223372036854775808 ≤ (((((l8 ++ [(BitVec.ofInt 16 0)])).length : Nat) : Int) - (1 : Int)) ∧ (((((l8 ++ [(BitVec.ofInt 16 0)])).length : Nat) : Int) - (1 : Int)) ≤ 9223372036854775807) ∧ True) Tryd_mixed (by kernel_rfl) ⟨ob26, trivial⟩ ?_
              refine thenQ_normal ?_
              refine AWp.block ?_
              refine AWp.loopL (α := Nat × (Int × List (BitVec 16))) (fun x => match x with | (_, i10, l11) => ⟨72, [(0, vL 1 eW 0#16 x1), (3, .own 5003), (4, .int .i64 ((n2 : Nat) : Int)), (5, .int .i64 ((n7 : Nat) : Int)), (6, .int .i64 i10)], [(5003, bL 28 1 eW 0#16 l11)], [], 0⟩) (fun x => f68_L2 n7 K4 x.1 x.2 = some r) (fun x => x.1) (FUEL, (((((l8 ++ [(BitVec.ofInt 16 0)])).length : Nat) : Int) - (1 : Int)), (l8 ++ [(BitVec.ofInt 16 0)])) (Le.mk (s := ⟨72, [(0, vL 1 eW 0#16 x1), (3, .own 5003), (4, .int .i64 ((n2 : Nat) : Int)), (5, .int .i64 ((n7 : Nat) : Int)), (6, .int .i64 (((((l8 ++ [(BitVec.ofInt 16 0)])).length : Nat) : Int) - (1 : Int)))], [(5003, bL 28 1 eW 0#16 (l8 ++ [(BitVec.ofInt 16 0)]))], [], 0⟩) (s' := ⟨72, [(0, vL 1 eW 0#16 x1), (3, .own 5003), (4, .int .i64 ((n2 : Nat) : Int)), (5, .int .i64 ((n7 : Nat) : Int)), (6, .int .i64 (((((l8 ++ [(BitVec.ofInt 16 0)])).length : Nat) : Int) - (1 : Int)))], [(5003, bL 28 1 eW 0#16 (l8 ++ [(BitVec.ofInt 16 0)]))], [], 0⟩) rfl rfl ⟨.refl _, .refl _, .refl _, .refl _, .refl _, trivial⟩ ⟨⟨_, rfl, .refl _⟩, trivial⟩) h ?_
              rintro ⟨k2, i10, l11⟩ h
              cases k2 with
              | zero => exact nomatch (show (none : Option (List (BitVec 16))) = some r from h)
              | succ k2 =>
              obtain ⟨C2, hC2⟩ : ∃ C, C = f68_L2 n7 K4 k2 := ⟨_, rfl⟩
              replace h := (f68_L2.eq_2 ..).symm.trans h
              try rw [← hC2] at h
              refine AWp.seq ?_
              refine AWp.seq ?_
              refine AWp.regC [] [] [0, 3, 4, 5, 6, 53] [5003] ⟨72, [(0, vL 1 eW 0#16 x1), (3, .own 5003), (4, .int .i64 ((n2 : Nat) : Int)), (5, .int .i64 ((n7 : Nat) : Int)), (6, .int .i64 i10), (53, .bool (decide (i10 > ((n7 : Nat) : Int))))], [(5003, bL 28 1 eW 0#16 l11)], [], 0⟩ (True) Tryd_mixed (by kernel_rfl) trivial ?_
              refine thenQ_normal ?_
              refine AWp.cond (b := (decide (i10 > ((n7 : Nat) : Int)))) (by kernel_rfl) (fun hc4 => ?_) (fun hc4 => ?_)
              ·
                replace h := ite_tb hc4 h
                refine AWp.skip ?_
                refine thenQ_normal ?_
                refine AWp.seq ?_
                refine AWp.block ?_
                obtain ⟨ob27, h⟩ := chk_some h
                obtain ⟨ob28, h⟩ := chk_some h
                obtain ⟨ob29, h⟩ := chk_some h
                obtain ⟨ob30, h⟩ := chk_some h
                obtain ⟨ob31, h⟩ := chk_some h
                refine AWp.regC [] [] [0, 3, 4, 5, 6] [5003] ⟨72, [(0, vL 1 eW 0#16 x1), (3, .own 5003), (4, .int .i64 ((n2 : Nat) : Int)), (5, .int .i64 ((n7 : Nat) : Int)), (6, .int .i64 i10)], [(5003, .rows 28 1 (l11).length (updF (encF eW 0#16 l11) ((i10).toNat) 0 [.b16 (l11.getD (((i10 - (1 : Int))).toNat) 0#16)]))], [], 0⟩ ((-9223372036854775808 ≤ (i10 - (1 : Int)) ∧ (i10 - (1 : Int)) ≤ 9223372036854775807) ∧ (0 ≤ (i10 - (1 : Int)) ∧ (i10 - (1 : Int)) < (((l11).length : Nat) : Int)) ∧ ((((i10 - (1 : Int))).toNat) < (l11).length) ∧ (0 ≤ i10 ∧ i10 < (((l11).length : Nat) : Int)) ∧ (((i10).toNat) < (l11).length) ∧ True) Tryd_mixed (by kernel_rfl) ⟨ob27, ob28, ob29, ob30, ob31, trivial⟩ ?_
                refine blockQ_normal ?_
                refine thenQ_normal ?_
                refine AWp.le (Le.mk (s := ⟨72, [(0, vL 1 eW 0#16 x1), (3, .own 5003), (4, .int .i64 ((n2 : Nat) : Int)), (5, .int .i64 ((n7 : Nat) : Int)), (6, .int .i64 i10)], [(5003, .rows 28 1 (l11).length (updF (encF eW 0#16 l11) ((i10).toNat) 0 [.b16 (l11.getD (((i10 - (1 : Int))).toNat) 0#16)]))], [], 0⟩) (s' := ⟨72, [(0, vL 1 eW 0#16 x1), (3, .own 5003), (4, .int .i64 ((n2 : Nat) : Int)), (5, .int .i64 ((n7 : Nat) : Int)), (6, .int .i64 i10)], [(5003, bL 28 1 eW 0#16 (l11.set ((i10).toNat) (l11.getD (((i10 - (1 : Int))).toNat) 0#16)))], [], 0⟩) rfl rfl ⟨.refl _, .refl _, .refl _, .refl _, .refl _, trivial⟩ ⟨⟨_, rfl, (BLe.of (RL.set (l11.getD (((i10 - (1 : Int))).toNat) 0#16) (RL.self _) (by intro j hj; match j, hj with | 0, _ => rfl)))⟩, trivial⟩) ?_
                obtain ⟨ob32, h⟩ := chk_some h
                refine AWp.regC [] [] [0, 3, 4, 5, 6] [5003] ⟨72, [(0, vL 1 eW 0#16 x1), (3, .own 5003), (4, .int .i64 ((n2 : Nat) : Int)), (5, .int .i64 ((n7 : Nat) : Int)), (6, .int .i64 (i10 - (1 : Int)))], [(5003, bL 28 1 eW 0#16 (l11.set ((i10).toNat) (l11.getD (((i10 - (1 : Int))).toNat) 0#16)))], [], 0⟩ ((-9223372036854775808 ≤ (i10 - (1 : Int)) ∧ (i10 - (1 : Int)) ≤ 9223372036854775807) ∧ True) Tryd_mixed (by kernel_rfl) ⟨ob32, trivial⟩ ?_
                rw [hC2] at h
                exact loopQ_normal (_, (i10 - (1 : Int)), (l11.set ((i10).toNat) (l11.getD (((i10 - (1 : Int))).toNat) 0#16))) (Le.mk (s := ⟨72, [(0, vL 1 eW 0#16 x1), (3, .own 5003), (4, .int .i64 ((n2 : Nat) : Int)), (5, .int .i64 ((n7 : Nat) : Int)), (6, .int .i64 (i10 - (1 : Int)))], [(5003, bL 28 1 eW 0#16 (l11.set ((i10).toNat) (l11.getD (((i10 - (1 : Int))).toNat) 0#16)))], [], 0⟩) (s' := ⟨72, [(0, vL 1 eW 0#16 x1), (3, .own 5003), (4, .int .i64 ((n2 : Nat) : Int)), (5, .int .i64 ((n7 : Nat) : Int)), (6, .int .i64 (i10 - (1 : Int)))], [(5003, bL 28 1 eW 0#16 (l11.set ((i10).toNat) (l11.getD (((i10 - (1 : Int))).toNat) 0#16)))], [], 0⟩) rfl rfl ⟨.refl _, .refl _, .refl _, .refl _, .refl _, trivial⟩ ⟨⟨_, rfl, .refl _⟩, trivial⟩) h (Nat.lt_succ_self _)
              ·
                replace h := ite_fb hc4 h
                refine AWp.exit ?_
                refine thenQ_exit ?_
                refine thenQ_exit ?_
                refine blockQ_same ?_
                exact joinQ_normal (l11) (Le.mk (s := ⟨72, [(0, vL 1 eW 0#16 x1), (3, .own 5003), (4, .int .i64 ((n2 : Nat) : Int)), (5, .int .i64 ((n7 : Nat) : Int)), (6, .int .i64 i10), (53, .bool (decide (i10 > ((n7 : Nat) : Int))))], [(5003, bL 28 1 eW 0#16 l11)], [], 0⟩) (s' := ⟨72, [(0, vL 1 eW 0#16 x1), (3, .own 5003), (4, .int .i64 ((n2 : Nat) : Int)), (5, .int .i64 ((n7 : Nat) : Int))], [(5003, bL 28 1 eW 0#16 l11)], [], 0⟩) rfl rfl ⟨.refl _, .refl _, .refl _, .refl _, trivial⟩ ⟨⟨_, rfl, .refl _⟩, trivial⟩) h
            ·
              rintro l12 h
              replace h := (congrFun hK4 _).symm.trans h
              obtain ⟨ob33p, h⟩ := chk_some h
              have ob33 : 0 ≤ ((n2 : Nat) : Int) ∧ ((n2 : Nat) : Int) < (((x1).length : Nat) : Int) := ⟨by omega, ob33p⟩
              obtain ⟨ob34p, h⟩ := chk_some h
              have ob34 : 0 ≤ ((n7 : Nat) : Int) ∧ ((n7 : Nat) : Int) < (((l12).length : Nat) : Int) := ⟨by omega, ob34p⟩
              obtain ⟨ob35, h⟩ := chk_some h
              refine AWp.regC [] [] [0, 3, 4] [5003] ⟨72, [(0, vL 1 eW 0#16 x1), (3, .own 5003), (4, .int .i64 ((n2 : Nat) : Int))], [(5003, .rows 28 1 (l12).length (updF (encF eW 0#16 l12) n7 0 [.b16 (x1.getD n2 0#16)]))], [], 0⟩ ((0 ≤ ((n2 : Nat) : Int) ∧ ((n2 : Nat) : Int) < (((x1).length : Nat) : Int)) ∧ (0 ≤ ((n7 : Nat) : Int) ∧ ((n7 : Nat) : Int) < (((l12).length : Nat) : Int)) ∧ (n7 < (l12).length) ∧ True) Tryd_mixed (by kernel_rfl) ⟨ob33, ob34, ob35, trivial⟩ ?_
              refine blockQ_normal ?_
              exact joinQ_normal ((l12.set n7 (x1.getD n2 0#16))) (Le.trans (Le.mk (s := ⟨72, [(0, vL 1 eW 0#16 x1), (3, .own 5003), (4, .int .i64 ((n2 : Nat) : Int))], [(5003, .rows 28 1 (l12).length (updF (encF eW 0#16 l12) n7 0 [.b16 (x1.getD n2 0#16)]))], [], 0⟩) (s' := ⟨72, [(0, vL 1 eW 0#16 x1), (3, .own 5003), (4, .int .i64 ((n2 : Nat) : Int))], [(5003, bL 28 1 eW 0#16 (l12.set n7 (x1.getD n2 0#16)))], [], 0⟩) rfl rfl ⟨.refl _, .refl _, .refl _, trivial⟩ ⟨⟨_, rfl, (BLe.of (RL.set (x1.getD n2 0#16) (RL.self _) (by intro j hj; match j, hj with | 0, _ => rfl)))⟩, trivial⟩) (Le.mk (s := ⟨72, [(0, vL 1 eW 0#16 x1), (3, .own 5003), (4, .int .i64 ((n2 : Nat) : Int))], [(5003, bL 28 1 eW 0#16 (l12.set n7 (x1.getD n2 0#16)))], [], 0⟩) (s' := ⟨72, [(0, vL 1 eW 0#16 x1), (3, .own 5003), (4, .int .i64 ((n2 : Nat) : Int))], [(5003, bL 28 1 eW 0#16 (l12.set n7 (x1.getD n2 0#16)))], [], 0⟩) rfl rfl ⟨.refl _, .refl _, .refl _, trivial⟩ ⟨⟨_, rfl, .refl _⟩, trivial⟩)) h
      ·
        rintro l9 h
        replace h := (congrFun hK2 _).symm.trans h
        obtain ⟨ob36p, h⟩ := chk_some h
        have ob36 : -9223372036854775808 ≤ (((n2 : Nat) : Int) + (1 : Int)) ∧ (((n2 : Nat) : Int) + (1 : Int)) ≤ 9223372036854775807 := ⟨by omega, ob36p⟩
        refine AWp.regC [] [] [0, 3, 4] [5003] ⟨72, [(0, vL 1 eW 0#16 x1), (3, .own 5003), (4, .int .i64 (((n2 + 1) : Nat) : Int))], [(5003, bL 28 1 eW 0#16 l9)], [], 0⟩ ((-9223372036854775808 ≤ (((n2 : Nat) : Int) + (1 : Int)) ∧ (((n2 : Nat) : Int) + (1 : Int)) ≤ 9223372036854775807) ∧ True) Tryd_mixed (by kernel_rfl) ⟨ob36, trivial⟩ ?_
        rw [hC0] at h
        exact loopQ_normal (_, (n2 + 1), l9) (Le.mk (s := ⟨72, [(0, vL 1 eW 0#16 x1), (3, .own 5003), (4, .int .i64 (((n2 + 1) : Nat) : Int))], [(5003, bL 28 1 eW 0#16 l9)], [], 0⟩) (s' := ⟨72, [(0, vL 1 eW 0#16 x1), (3, .own 5003), (4, .int .i64 (((n2 + 1) : Nat) : Int))], [(5003, bL 28 1 eW 0#16 l9)], [], 0⟩) rfl rfl ⟨.refl _, .refl _, .refl _, trivial⟩ ⟨⟨_, rfl, .refl _⟩, trivial⟩) h (Nat.lt_succ_self _)
    ·
      replace h := ite_fb hc1 h
      refine AWp.exit ?_
      refine thenQ_exit ?_
      refine thenQ_exit ?_
      refine blockQ_same ?_
      exact joinQ_normal (l3) (Le.mk (s := ⟨72, [(0, vL 1 eW 0#16 x1), (3, .own 5003), (4, .int .i64 ((n2 : Nat) : Int)), (10, .bool (decide (((n2 : Nat) : Int) < (((x1).length : Nat) : Int))))], [(5003, bL 28 1 eW 0#16 l3)], [], 0⟩) (s' := ⟨72, [(3, .own 5003)], [(5003, bL 28 1 eW 0#16 l3)], [], 0⟩) rfl rfl ⟨.refl _, trivial⟩ ⟨⟨_, rfl, .refl _⟩, trivial⟩) h
  ·
    rintro l13 h
    replace h := (congrFun hK1 _).symm.trans h
    refine AWp.seq ?_
    refine AWp.regC [] [] [2] [5003] ⟨72, [(2, .own 5003)], [(5003, bL 28 1 eW 0#16 l13)], [], 0⟩ (True) Tryd_mixed (by kernel_rfl) trivial ?_
    refine thenQ_normal ?_
    refine AWp.le (Le.trans (Le.ren (s := ⟨72, [(2, .own 5003)], [(5003, bL 28 1 eW 0#16 l13)], [], 0⟩) (swapN 5003 3000) (swapN_inv 5003 3000) rfl) (Le.mk (s' := ⟨72, [(2, .own 3000)], [(3000, bL 28 1 eW 0#16 l13)], [], 0⟩) rfl rfl ⟨.refl _, trivial⟩ ⟨⟨_, rfl, .refl _⟩, trivial⟩)) ?_
    have hret := Option.some.inj h
    subst hret
    refine AWp.le (Le.mk (s := ⟨72, [(2, .own 3000)], [(3000, bL 28 1 eW 0#16 l13)], [], 0⟩) (s' := ⟨72, [(2, .own 3000)], [(3000, bL 28 1 eW 0#16 l13)], [], 0⟩) rfl rfl ⟨.refl _, trivial⟩ ⟨⟨_, rfl, .refl _⟩, trivial⟩) ?_
    refine AWp.ret ?_
    exact bodyQ_ret _ rfl ⟨rfl, rfl⟩ rfl
def f45_L1 (r2 : List (BitVec 16)) (n3 : Nat) (K3 : Bool → Option (List (BitVec 16))) : Nat → (Bool × Nat) → Option (List (BitVec 16))
  | 0, _ => none
  | k + 1, (b5, n6) =>
    if (decide (((n6 : Nat) : Int) < (((r2).length : Nat) : Int))) then (
    jn (fun (b8 : Bool) =>
    chk ((((n6 : Nat) : Int) + (1 : Int)) ≤ 9223372036854775807) <|
    (f45_L1 r2 n3 K3 k) (b8, (n6 + 1))
    ) fun (K4 : Bool → Option (List (BitVec 16))) =>
    optc ((((n3 : Nat) : Int) != ((n6 : Nat) : Int)) == true) (f41 (r2.getD n3 0#16) (r2.getD n6 0#16)) fun (r7 : Bool) =>
    chk (((((n3 : Nat) : Int) != ((n6 : Nat) : Int)) == true) = true → 0 ≤ ((n3 : Nat) : Int) ∧ ((n3 : Nat) : Int) < (((r2).length : Nat) : Int)) <|
    chk (((((n3 : Nat) : Int) != ((n6 : Nat) : Int)) == true) = true → n3 < (r2).length) <|
    chk (((((n3 : Nat) : Int) != ((n6 : Nat) : Int)) == true) = true → 0 ≤ ((n6 : Nat) : Int) ∧ ((n6 : Nat) : Int) < (((r2).length : Nat) : Int)) <|
    chk (((((n3 : Nat) : Int) != ((n6 : Nat) : Int)) == true) = true → n6 < (r2).length) <|
    if ((((n3 : Nat) : Int) != ((n6 : Nat) : Int)) && r7) then (
    K4 false
    ) else (
    K4 b5
    )
    ) else (
    K3 b5
    )
def f45_L0 (r2 : List (BitVec 16)) (K1 : (List (BitVec 16)) → Option (List (BitVec 16))) : Nat → (Nat × List (BitVec 16)) → Option (List (BitVec 16))
  | 0, _ => none
  | k + 1, (n3, l4) =>
    if (decide (((n3 : Nat) : Int) < (((r2).length : Nat) : Int))) then (
    jn (fun (l10 : List (BitVec 16)) =>
    chk ((((n3 : Nat) : Int) + (1 : Int)) ≤ 9223372036854775807) <|
    (f45_L0 r2 K1 k) ((n3 + 1), l10)
    ) fun (K2 : (List (BitVec 16)) → Option (List (BitVec 16))) =>
    jn (fun (b9 : Bool) =>
    if b9 then (
    chk (((n3 : Nat) : Int) < (((r2).length : Nat) : Int)) <|
    chk (n3 < (r2).length) <|
    chk (((l4).length + 1) * 2 ≤ 140737488355328) <|
    K2 (l4 ++ [(r2.getD n3 0#16)])
    ) else (
    K2 l4
    )
    ) fun (K3 : Bool → Option (List (BitVec 16))) =>
    f45_L1 r2 n3 K3 FUEL (true, 0)
    ) else (
    K1 l4
    )
def f45 (x1 : List (BitVec 16)) : Option (List (BitVec 16)) :=
  (f68 x1).bind fun (r2 : List (BitVec 16)) =>
  jn (fun (l11 : List (BitVec 16)) =>
  some l11
  ) fun (K1 : (List (BitVec 16)) → Option (List (BitVec 16))) =>
  f45_L0 r2 K1 FUEL (0, [])
set_option maxRecDepth 100000 in
theorem f45_ok  (x1 : List (BitVec 16)) (r : List (BitVec 16)) (h : f45 x1 = some r)  : Spec1 Tryd.prog 45 [] [] [] [vL 1 eW 0#16 x1] (.own 3000) [(3000, bL 28 1 eW 0#16 r)] := by
  unfold f45 at h
  refine Spec1.body 0 _ _ Tryd.func45 rfl Tryd.ntmps45 rfl rfl ?_
  refine AWp.seq ?_
  refine AWp.regC [] [] [0] [] ⟨45, [(0, vL 1 eW 0#16 x1)], [], [], 0⟩ (True) Tryd_mixed (by kernel_rfl) trivial ?_
  refine thenQ_normal ?_
  refine AWp.seq ?_
  refine AWp.regC [] [] [0, 3] [] ⟨45, [(0, vL 1 eW 0#16 x1), (3, .nils)], [], [], 0⟩ (True) Tryd_mixed (by kernel_rfl) trivial ?_
  refine thenQ_normal ?_
  refine AWp.seq ?_
  obtain ⟨r2, hr2, h⟩ := bind_ok h
  refine AWp.regC [] [(1, ⟨[vL 1 eW 0#16 x1], [], [], [(6001, bL 28 1 eW 0#16 r2)], .own 6001, [6001], [], []⟩)] [3, 4] [6001] ⟨45, [(3, .nils), (4, .own 6001)], [(6001, bL 28 1 eW 0#16 r2)], [], 0⟩ ((callP Tryd.prog true 68 [] [] [] [] [] [vL 1 eW 0#16 x1] [vL 1 eW 0#16 x1] (.own 6001) [(6001, bL 28 1 eW 0#16 r2)]) ∧ True) Tryd_mixed (by kernel_rfl) ⟨⟨fun _ => (Spec1.ren (swapN 3000 6001) (swapN_inv 3000 6001) rfl (f68_ok x1 r2 hr2)), fun _ => ⟨.refl _, trivial⟩, .inl rfl⟩, trivial⟩ ?_
  refine thenQ_normal ?_
  obtain ⟨K1, hK1, h⟩ := jn_some h
  refine AWp.join (α := List (BitVec 16)) (fun (l11 : List (BitVec 16)) => ⟨45, [(3, .own 5003)], [(5003, bL 28 1 eW 0#16 l11)], [], 0⟩) (fun x => K1 x = some r) ?_ ?_
  ·
    refine AWp.seq ?_
    refine AWp.regC [] [] [3, 4, 5] [6001] ⟨45, [(3, .nils), (4, .own 6001), (5, .int .i64 (0 : Int))], [(6001, bL 28 1 eW 0#16 r2)], [], 0⟩ (True) Tryd_mixed (by kernel_rfl) trivial ?_
    refine thenQ_normal ?_
    refine AWp.block ?_
    refine AWp.loopL (α := Nat × (Nat × List (BitVec 16))) (fun x => match x with | (_, n3, l4) => ⟨45, [(3, .own 5003), (4, .own 6001), (5, .int .i64 ((n3 : Nat) : Int))], [(5003, bL 28 1 eW 0#16 l4), (6001, bL 28 1 eW 0#16 r2)], [], 0⟩) (fun x => f45_L0 r2 K1 x.1 x.2 = some r) (fun x => x.1) (FUEL, 0, []) (Le.trans (Le.trans (Le.nilOwn (s := ⟨45, [(3, .nils), (4, .own 6001), (5, .int .i64 (0 : Int))], [(6001, bL 28 1 eW 0#16 r2)], [], 0⟩) 3 5003 28 1 (encF eW 0#16 []) rfl rfl (Nat.le_of_ble_eq_true rfl)) (Le.mk (s' := ⟨45, [(3, .own 5003), (4, .own 6001), (5, .int .i64 (0 : Int))], [(6001, bL 28 1 eW 0#16 r2), (5003, bL 28 1 eW 0#16 [])], [], 0⟩) rfl rfl ⟨.refl _, .refl _, .refl _, trivial⟩ ⟨⟨_, rfl, .refl _⟩, ⟨_, rfl, .refl _⟩, trivial⟩)) (Le.mk (s := ⟨45, [(3, .own 5003), (4, .own 6001), (5, .int .i64 (0 : Int))], [(6001, bL 28 1 eW 0#16 r2), (5003, bL 28 1 eW 0#16 [])], [], 0⟩) (s' := ⟨45, [(3, .own 5003), (4, .own 6001), (5, .int .i64 (0 : Int))], [(5003, bL 28 1 eW 0#16 []), (6001, bL 28 1 eW 0#16 r2)], [], 0⟩) rfl rfl ⟨.refl _, .refl _, .refl _, trivial⟩ ⟨⟨_, rfl, .refl _⟩, ⟨_, rfl, .refl _⟩, trivial⟩)) h ?_
    rintro ⟨k0, n3, l4⟩ h
    cases k0 with
    | zero => exact nomatch (show (none : Option (List (BitVec 16))) = some r from h)
    | succ k0 =>
    obtain ⟨C0, hC0⟩ : ∃ C, C = f45_L0 r2 K1 k0 := ⟨_, rfl⟩
    replace h := (f45_L0.eq_2 ..).symm.trans h
    try rw [← hC0] at h
    refine AWp.seq ?_
    refine AWp.seq ?_
    refine AWp.regC [] [] [3, 4, 5, 13] [5003, 6001] ⟨45, [(3, .own 5003), (4, .own 6001), (5, .int .i64 ((n3 : Nat) : Int)), (13, .bool (decide (((n3 : Nat) : Int) < (((r2).length : Nat) : Int))))], [(5003, bL 28 1 eW 0#16 l4), (6001, bL 28 1 eW 0#16 r2)], [], 0⟩ (True) Tryd_mixed (by kernel_rfl) trivial ?_
    refine thenQ_normal ?_
    refine AWp.cond (b := (decide (((n3 : Nat) : Int) < (((r2).length : Nat) : Int)))) (by kernel_rfl) (fun hc1 => ?_) (fun hc1 => ?_)
    ·
      replace h := ite_tb hc1 h
      refine AWp.skip ?_
      refine thenQ_normal ?_
      obtain ⟨K2, hK2, h⟩ := jn_some h
      refine AWp.join (α := List (BitVec 16)) (fun (l10 : List (BitVec 16)) => ⟨45, [(3, .own 43), (4, .own 6001), (5, .int .i64 ((n3 : Nat) : Int))], [(43, bL 28 1 eW 0#16 l10), (6001, bL 28 1 eW 0#16 r2)], [], 0⟩) (fun x => K2 x = some r) ?_ ?_
      ·
        refine AWp.block ?_
        refine AWp.seq ?_
        refine AWp.regC [] [] [3, 4, 5, 6] [5003, 6001] ⟨45, [(3, .own 5003), (4, .own 6001), (5, .int .i64 ((n3 : Nat) : Int)), (6, .bool true)], [(5003, bL 28 1 eW 0#16 l4), (6001, bL 28 1 eW 0#16 r2)], [], 0⟩ (True) Tryd_mixed (by kernel_rfl) trivial ?_
        refine thenQ_normal ?_
        obtain ⟨K3, hK3, h⟩ := jn_some h
        refine AWp.join (α := Bool) (fun (b9 : Bool) => ⟨45, [(3, .own 5003), (4, .own 6001), (5, .int .i64 ((n3 : Nat) : Int)), (6, .bool b9)], [(5003, bL 28 1 eW 0#16 l4), (6001, bL 28 1 eW 0#16 r2)], [], 0⟩) (fun x => K3 x = some r) ?_ ?_
        ·
          refine AWp.seq ?_
          refine AWp.regC [] [] [3, 4, 5, 6, 7] [5003, 6001] ⟨45, [(3, .own 5003), (4, .own 6001), (5, .int .i64 ((n3 : Nat) : Int)), (6, .bool true), (7, .int .i64 (0 : Int))], [(5003, bL 28 1 eW 0#16 l4), (6001, bL 28 1 eW 0#16 r2)], [], 0⟩ (True) Tryd_mixed (by kernel_rfl) trivial ?_
          refine thenQ_normal ?_
          refine AWp.block ?_
          refine AWp.loopL (α := Nat × (Bool × Nat)) (fun x => match x with | (_, b5, n6) => ⟨45, [(3, .own 5003), (4, .own 6001), (5, .int .i64 ((n3 : Nat) : Int)), (6, .bool b5), (7, .int .i64 ((n6 : Nat) : Int))], [(5003, bL 28 1 eW 0#16 l4), (6001, bL 28 1 eW 0#16 r2)], [], 0⟩) (fun x => f45_L1 r2 n3 K3 x.1 x.2 = some r) (fun x => x.1) (FUEL, true, 0) (Le.mk (s := ⟨45, [(3, .own 5003), (4, .own 6001), (5, .int .i64 ((n3 : Nat) : Int)), (6, .bool true), (7, .int .i64 (0 : Int))], [(5003, bL 28 1 eW 0#16 l4), (6001, bL 28 1 eW 0#16 r2)], [], 0⟩) (s' := ⟨45, [(3, .own 5003), (4, .own 6001), (5, .int .i64 ((n3 : Nat) : Int)), (6, .bool true), (7, .int .i64 (0 : Int))], [(5003, bL 28 1 eW 0#16 l4), (6001, bL 28 1 eW 0#16 r2)], [], 0⟩) rfl rfl ⟨.refl _, .refl _, .refl _, .refl _, .refl _, trivial⟩ ⟨⟨_, rfl, .refl _⟩, ⟨_, rfl, .refl _⟩, trivial⟩) h ?_
          rintro ⟨k1, b5, n6⟩ h
          cases k1 with
          | zero => exact nomatch (show (none : Option (List (BitVec 16))) = some r from h)
          | succ k1 =>
          obtain ⟨C1, hC1⟩ : ∃ C, C = f45_L1 r2 n3 K3 k1 := ⟨_, rfl⟩
          replace h := (f45_L1.eq_2 ..).symm.trans h
          try rw [← hC1] at h
          refine AWp.seq ?_
          refine AWp.seq ?_
          refine AWp.regC [] [] [3, 4, 5, 6, 7, 19] [5003, 6001] ⟨45, [(3, .own 5003), (4, .own 6001), (5, .int .i64 ((n3 : Nat) : Int)), (6, .bool b5), (7, .int .i64 ((n6 : Nat) : Int)), (19, .bool (decide (((n6 : Nat) : Int) < (((r2).length : Nat) : Int))))], [(5003, bL 28 1 eW 0#16 l4), (6001, bL 28 1 eW 0#16 r2)], [], 0⟩ (True) Tryd_mixed (by kernel_rfl) trivial ?_
          refine thenQ_normal ?_
          refine AWp.cond (b := (decide (((n6 : Nat) : Int) < (((r2).length : Nat) : Int)))) (by kernel_rfl) (fun hc2 => ?_) (fun hc2 => ?_)
          ·
            replace h := ite_tb hc2 h
            refine AWp.skip ?_
            refine thenQ_normal ?_
            obtain ⟨K4, hK4, h⟩ := jn_some h
            refine AWp.join (α := Bool) (fun (b8 : Bool) => ⟨45, [(3, .own 5003), (4, .own 6001), (5, .int .i64 ((n3 : Nat) : Int)), (6, .bool b8), (7, .int .i64 ((n6 : Nat) : Int))], [(5003, bL 28 1 eW 0#16 l4), (6001, bL 28 1 eW 0#16 r2)], [], 0⟩) (fun x => K4 x = some r) ?_ ?_
            ·
              refine AWp.block ?_
              refine AWp.seq ?_
              obtain ⟨r7, hr7, h⟩ := optc_some h
              obtain ⟨ob0, h⟩ := chk_some h
              have ob1 : ((((n3 : Nat) : Int) != ((n6 : Nat) : Int)) == true) = true → ((((n3 : Nat) : Int) != ((n6 : Nat) : Int)) == true) = true := fun h => h
              have ob2 : ((((n3 : Nat) : Int) != ((n6 : Nat) : Int)) == true) = true → ((((n3 : Nat) : Int) != ((n6 : Nat) : Int)) == true) = true := fun h => h
              obtain ⟨ob3, h⟩ := chk_some h
              have ob4 : ((((n3 : Nat) : Int) != ((n6 : Nat) : Int)) == true) = true → ((((n3 : Nat) : Int) != ((n6 : Nat) : Int)) == true) = true := fun h => h
              obtain ⟨ob5, h⟩ := chk_some h
              have ob6 : ((((n3 : Nat) : Int) != ((n6 : Nat) : Int)) == true) = true → ((((n3 : Nat) : Int) != ((n6 : Nat) : Int)) == true) = true := fun h => h
              have ob7 : ((((n3 : Nat) : Int) != ((n6 : Nat) : Int)) == true) = true → ((((n3 : Nat) : Int) != ((n6 : Nat) : Int)) == true) = true := fun h => h
              obtain ⟨ob8, h⟩ := chk_some h
              have ob9 : ((((n3 : Nat) : Int) != ((n6 : Nat) : Int)) == true) = true → ((((n3 : Nat) : Int) != ((n6 : Nat) : Int)) == true) = true := fun h => h
              have ob10 : ((((n3 : Nat) : Int) != ((n6 : Nat) : Int)) == true) = true → ((((n3 : Nat) : Int) != ((n6 : Nat) : Int)) == true) = true := fun h => h
              have ob11 : ((((n3 : Nat) : Int) != ((n6 : Nat) : Int)) == true) = true → ((((n3 : Nat) : Int) != ((n6 : Nat) : Int)) == true) = true := fun h => h
              have ob12 : true = true → (((n3 : Nat) : Int) != ((n6 : Nat) : Int)) = true → ((((n3 : Nat) : Int) != ((n6 : Nat) : Int)) == true) = true := fun _ h => beq_iff_eq.2 h
              refine AWp.regC [] [(12, ⟨[.b16 (r2.getD n3 0#16), .b16 (r2.getD n6 0#16)], [], [], [], .bool r7, [], [], []⟩)] [3, 4, 5, 6, 7, 35] [5003, 6001] ⟨45, [(3, .own 5003), (4, .own 6001), (5, .int .i64 ((n3 : Nat) : Int)), (6, .bool b5), (7, .int .i64 ((n6 : Nat) : Int)), (35, .bool ((((n3 : Nat) : Int) != ((n6 : Nat) : Int)) && r7))], [(5003, bL 28 1 eW 0#16 l4), (6001, bL 28 1 eW 0#16 r2)], [], 0⟩ (((((((n3 : Nat) : Int) != ((n6 : Nat) : Int)) == true) = true → 0 ≤ ((n3 : Nat) : Int) ∧ ((n3 : Nat) : Int) < (((r2).length : Nat) : Int)) ∧ (((((n3 : Nat) : Int) != ((n6 : Nat) : Int)) == true) = true → ((((n3 : Nat) : Int) != ((n6 : Nat) : Int)) == true) = true) ∧ (((((n3 : Nat) : Int) != ((n6 : Nat) : Int)) == true) = true → ((((n3 : Nat) : Int) != ((n6 : Nat) : Int)) == true) = true) ∧ True) ∧ ((((((n3 : Nat) : Int) != ((n6 : Nat) : Int)) == true) = true → n3 < (r2).length) ∧ (((((n3 : Nat) : Int) != ((n6 : Nat) : Int)) == true) = true → ((((n3 : Nat) : Int) != ((n6 : Nat) : Int)) == true) = true) ∧ True) ∧ ((((((n3 : Nat) : Int) != ((n6 : Nat) : Int)) == true) = true → 0 ≤ ((n6 : Nat) : Int) ∧ ((n6 : Nat) : Int) < (((r2).length : Nat) : Int)) ∧ (((((n3 : Nat) : Int) != ((n6 : Nat) : Int)) == true) = true → ((((n3 : Nat) : Int) != ((n6 : Nat) : Int)) == true) = true) ∧ (((((n3 : Nat) : Int) != ((n6 : Nat) : Int)) == true) = true → ((((n3 : Nat) : Int) != ((n6 : Nat) : Int)) == true) = true) ∧ True) ∧ ((((((n3 : Nat) : Int) != ((n6 : Nat) : Int)) == true) = true → n6 < (r2).length) ∧ (((((n3 : Nat) : Int) != ((n6 : Nat) : Int)) == true) = true → ((((n3 : Nat) : Int) != ((n6 : Nat) : Int)) == true) = true) ∧ True) ∧ ((callP Tryd.prog ((((n3 : Nat) : Int) != ((n6 : Nat) : Int)) == true) 41 [] [] [] [] [] [.b16 (r2.getD n3 0#16), .b16 (r2.getD n6 0#16)] [.b16 (r2.getD n3 0#16), .b16 (r2.getD n6 0#16)] (.bool r7) []) ∧ (((((n3 : Nat) : Int) != ((n6 : Nat) : Int)) == true) = true → ((((n3 : Nat) : Int) != ((n6 : Nat) : Int)) == true) = true) ∧ (((((n3 : Nat) : Int) != ((n6 : Nat) : Int)) == true) = true → ((((n3 : Nat) : Int) != ((n6 : Nat) : Int)) == true) = true) ∧ True) ∧ (true = true → (((n3 : Nat) : Int) != ((n6 : Nat) : Int)) = true → ((((n3 : Nat) : Int) != ((n6 : Nat) : Int)) == true) = true) ∧ True) Tryd_mixed (by kernel_rfl) ⟨⟨ob0, ob1, ob2, trivial⟩, ⟨ob3, ob4, trivial⟩, ⟨ob5, ob6, ob7, trivial⟩, ⟨ob8, ob9, trivial⟩, ⟨⟨fun hc => (f41_ok (r2.getD n3 0#16) (r2.getD n6 0#16) r7 (hr7 hc)), fun _ => ⟨.refl _, .refl _, trivial⟩, .inl rfl⟩, ob10, ob11, trivial⟩, ob12, trivial⟩ ?_
              refine thenQ_normal ?_
              refine AWp.cond (b := ((((n3 : Nat) : Int) != ((n6 : Nat) : Int)) && r7)) (by kernel_rfl) (fun hc3 => ?_) (fun hc3 => ?_)
              ·
                replace h := ite_tb hc3 h
                refine AWp.regC [] [] [3, 4, 5, 6, 7] [5003, 6001] ⟨45, [(3, .own 5003), (4, .own 6001), (5, .int .i64 ((n3 : Nat) : Int)), (6, .bool false), (7, .int .i64 ((n6 : Nat) : Int))], [(5003, bL 28 1 eW 0#16 l4), (6001, bL 28 1 eW 0#16 r2)], [], 0⟩ (True) Tryd_mixed (by kernel_rfl) trivial ?_
                refine blockQ_normal ?_
                exact joinQ_normal (false) (Le.mk (s := ⟨45, [(3, .own 5003), (4, .own 6001), (5, .int .i64 ((n3 : Nat) : Int)), (6, .bool false), (7, .int .i64 ((n6 : Nat) : Int))], [(5003, bL 28 1 eW 0#16 l4), (6001, bL 28 1 eW 0#16 r2)], [], 0⟩) (s' := ⟨45, [(3, .own 5003), (4, .own 6001), (5, .int .i64 ((n3 : Nat) : Int)), (6, .bool false), (7, .int .i64 ((n6 : Nat) : Int))], [(5003, bL 28 1 eW 0#16 l4), (6001, bL 28 1 eW 0#16 r2)], [], 0⟩) rfl rfl ⟨.refl _, .refl _, .refl _, .refl _, .refl _, trivial⟩ ⟨⟨_, rfl, .refl _⟩, ⟨_, rfl, .refl _⟩, trivial⟩) h
              ·
                replace h := ite_fb hc3 h
                refine AWp.skip ?_
                refine blockQ_normal ?_
                exact joinQ_normal (b5) (Le.mk (s := ⟨45, [(3, .own 5003), (4, .own 6001), (5, .int .i64 ((n3 : Nat) : Int)), (6, .bool b5), (7, .int .i64 ((n6 : Nat) : Int)), (35, .bool ((((n3 : Nat) : Int) != ((n6 : Nat) : Int)) && r7))], [(5003, bL 28 1 eW 0#16 l4), (6001, bL 28 1 eW 0#16 r2)], [], 0⟩) (s' := ⟨45, [(3, .own 5003), (4, .own 6001), (5, .int .i64 ((n3 : Nat) : Int)), (6, .bool b5), (7, .int .i64 ((n6 : Nat) : Int))], [(5003, bL 28 1 eW 0#16 l4), (6001, bL 28 1 eW 0#16 r2)], [], 0⟩) rfl rfl ⟨.refl _, .refl _, .refl _, .refl _, .refl _, trivial⟩ ⟨⟨_, rfl, .refl _⟩, ⟨_, rfl, .refl _⟩, trivial⟩) h
            ·
              rintro b8 h
              replace h := (congrFun hK4 _).symm.trans h
              obtain ⟨ob13p, h⟩ := chk_some h
              have ob13 : -9223372036854775808 ≤ (((n6 : Nat) : Int) + (1 : Int)) ∧ (((n6 : Nat) : Int) + (1 : Int)) ≤ 9223372036854775807 := ⟨by omega, ob13p⟩
              refine AWp.regC [] [] [3, 4, 5, 6, 7] [5003, 6001] ⟨45, [(3, .own 5003), (4, .own 6001), (5, .int .i64 ((n3 : Nat) : Int)), (6, .bool b8), (7, .int .i64 (((n6 + 1) : Nat) : Int))], [(5003, bL 28 1 eW 0#16 l4), (6001, bL 28 1 eW 0#16 r2)], [], 0⟩ ((-9223372036854775808 ≤ (((n6 : Nat) : Int) + (1 : Int)) ∧ (((n6 : Nat) : Int) + (1 : Int)) ≤ 9223372036854775807) ∧ True) Tryd_mixed (by kernel_rfl) ⟨ob13, trivial⟩ ?_
              rw [hC1] at h
              exact loopQ_normal (_, b8, (n6 + 1)) (Le.mk (s := ⟨45, [(3, .own 5003), (4, .own 6001), (5, .int .i64 ((n3 : Nat) : Int)), (6, .bool b8), (7, .int .i64 (((n6 + 1) : Nat) : Int))], [(5003, bL 28 1 eW 0#16 l4), (6001, bL 28 1 eW 0#16 r2)], [], 0⟩) (s' := ⟨45, [(3, .own 5003), (4, .own 6001), (5, .int .i64 ((n3 : Nat) : Int)), (6, .bool b8), (7, .int .i64 (((n6 + 1) : Nat) : Int))], [(5003, bL 28 1 eW 0#16 l4), (6001, bL 28 1 eW 0#16 r2)], [], 0⟩) rfl rfl ⟨.refl _, .refl _, .refl _, .refl _, .refl _, trivial⟩ ⟨⟨_, rfl, .refl _⟩, ⟨_, rfl, .refl _⟩, trivial⟩) h (Nat.lt_succ_self _)
          ·
            replace h := ite_fb hc2 h
            refine AWp.exit ?_
            refine thenQ_exit ?_
            refine thenQ_exit ?_
            refine blockQ_same ?_
            exact joinQ_normal (b5) (Le.mk (s := ⟨45, [(3, .own 5003), (4, .own 6001), (5, .int .i64 ((n3 : Nat) : Int)), (6, .bool b5), (7, .int .i64 ((n6 : Nat) : Int)), (19, .bool (decide (((n6 : Nat) : Int) < (((r2).length : Nat) : Int))))], [(5003, bL 28 1 eW 0#16 l4), (6001, bL 28 1 eW 0#16 r2)], [], 0⟩) (s' := ⟨45, [(3, .own 5003), (4, .own 6001), (5, .int .i64 ((n3 : Nat) : Int)), (6, .bool b5)], [(5003, bL 28 1 eW 0#16 l4), (6001, bL 28 1 eW 0#16 r2)], [], 0⟩) rfl rfl ⟨.refl _, .refl _, .refl _, .refl _, trivial⟩ ⟨⟨_, rfl, .refl _⟩, ⟨_, rfl, .refl _⟩, trivial⟩) h
        ·
          rintro b9 h
          replace h := (congrFun hK3 _).symm.trans h
          refine AWp.seq ?_
          refine AWp.regC [] [] [3, 4, 5, 36] [5003, 6001] ⟨45, [(3, .own 5003), (4, .own 6001), (5, .int .i64 ((n3 : Nat) : Int)), (36, .bool b9)], [(5003, bL 28 1 eW 0#16 l4), (6001, bL 28 1 eW 0#16 r2)], [], 0⟩ (True) Tryd_mixed (by kernel_rfl) trivial ?_
          refine thenQ_normal ?_
          refine AWp.cond (b := b9) (by kernel_rfl) (fun hc4 => ?_) (fun hc4 => ?_)
          ·
            replace h := ite_tb hc4 h
            obtain ⟨ob14p, h⟩ := chk_some h
            have ob14 : 0 ≤ ((n3 : Nat) : Int) ∧ ((n3 : Nat) : Int) < (((r2).length : Nat) : Int) := ⟨by omega, ob14p⟩
            obtain ⟨ob15, h⟩ := chk_some h
            obtain ⟨ob16, h⟩ := chk_some h
            refine AWp.regC [] [] [3, 4, 5] [5003, 6001] ⟨45, [(3, .own 5003), (4, .own 6001), (5, .int .i64 ((n3 : Nat) : Int))], [(5003, .rows 28 1 ((l4).length + 1) (appF (l4).length (encF eW 0#16 l4) (lstF 1 [.b16 (r2.getD n3 0#16)]))), (6001, bL 28 1 eW 0#16 r2)], [], 0⟩ ((0 ≤ ((n3 : Nat) : Int) ∧ ((n3 : Nat) : Int) < (((r2).length : Nat) : Int)) ∧ (n3 < (r2).length) ∧ (((l4).length + 1) * 2 ≤ 140737488355328) ∧ True) Tryd_mixed (by kernel_rfl) ⟨ob14, ob15, ob16, trivial⟩ ?_
            refine blockQ_normal ?_
            exact joinQ_normal ((l4 ++ [(r2.getD n3 0#16)])) (Le.trans (Le.mk (s := ⟨45, [(3, .own 5003), (4, .own 6001), (5, .int .i64 ((n3 : Nat) : Int))], [(5003, .rows 28 1 ((l4).length + 1) (appF (l4).length (encF eW 0#16 l4) (lstF 1 [.b16 (r2.getD n3 0#16)]))), (6001, bL 28 1 eW 0#16 r2)], [], 0⟩) (s' := ⟨45, [(3, .own 5003), (4, .own 6001), (5, .int .i64 ((n3 : Nat) : Int))], [(5003, bL 28 1 eW 0#16 (l4 ++ [(r2.getD n3 0#16)])), (6001, bL 28 1 eW 0#16 r2)], [], 0⟩) rfl rfl ⟨.refl _, .refl _, .refl _, trivial⟩ ⟨⟨_, rfl, (BLe.of (RL.app (RL.self _) (RL.lst (enc := eW) [(r2.getD n3 0#16)] rfl rfl (fun _ => rfl))))⟩, ⟨_, rfl, .refl _⟩, trivial⟩) (Le.trans (Le.trans (Le.ren (s := ⟨45, [(3, .own 5003), (4, .own 6001), (5, .int .i64 ((n3 : Nat) : Int))], [(5003, bL 28 1 eW 0#16 (l4 ++ [(r2.getD n3 0#16)])), (6001, bL 28 1 eW 0#16 r2)], [], 0⟩) (swapN 5003 43) (swapN_inv 5003 43) rfl) (Le.mk (s' := ⟨45, [(3, .own 43), (4, .own 6001), (5, .int .i64 ((n3 : Nat) : Int))], [(43, bL 28 1 eW 0#16 (l4 ++ [(r2.getD n3 0#16)])), (6001, bL 28 1 eW 0#16 r2)], [], 0⟩) rfl rfl ⟨.refl _, .refl _, .refl _, trivial⟩ ⟨⟨_, rfl, .refl _⟩, ⟨_, rfl, .refl _⟩, trivial⟩)) (Le.mk (s := ⟨45, [(3, .own 43), (4, .own 6001), (5, .int .i64 ((n3 : Nat) : Int))], [(43, bL 28 1 eW 0#16 (l4 ++ [(r2.getD n3 0#16)])), (6001, bL 28 1 eW 0#16 r2)], [], 0⟩) (s' := ⟨45, [(3, .own 43), (4, .own 6001), (5, .int .i64 ((n3 : Nat) : Int))], [(43, bL 28 1 eW 0#16 (l4 ++ [(r2.getD n3 0#16)])), (6001, bL 28 1 eW 0#16 r2)], [], 0⟩) rfl rfl ⟨.refl _, .refl _, .refl _, trivial⟩ ⟨⟨_, rfl, .refl _⟩, ⟨_, rfl, .refl _⟩, trivial⟩))) h
          ·
            replace h := ite_fb hc4 h
            refine AWp.skip ?_
            refine blockQ_normal ?_
            exact joinQ_normal (l4) (Le.trans (Le.trans (Le.ren (s := ⟨45, [(3, .own 5003), (4, .own 6001), (5, .int .i64 ((n3 : Nat) : Int)), (36, .bool b9)], [(5003, bL 28 1 eW 0#16 l4), (6001, bL 28 1 eW 0#16 r2)], [], 0⟩) (swapN 5003 43) (swapN_inv 5003 43) rfl) (Le.mk (s' := ⟨45, [(3, .own 43), (4, .own 6001), (5, .int .i64 ((n3 : Nat) : Int)), (36, .bool b9)], [(43, bL 28 1 eW 0#16 l4), (6001, bL 28 1 eW 0#16 r2)], [], 0⟩) rfl rfl ⟨.refl _, .refl _, .refl _, .refl _, trivial⟩ ⟨⟨_, rfl, .refl _⟩, ⟨_, rfl, .refl _⟩, trivial⟩)) (Le.mk (s := ⟨45, [(3, .own 43), (4, .own 6001), (5, .int .i64 ((n3 : Nat) : Int)), (36, .bool b9)], [(43, bL 28 1 eW 0#16 l4), (6001, bL 28 1 eW 0#16 r2)], [], 0⟩) (s' := ⟨45, [(3, .own 43), (4, .own 6001), (5, .int .i64 ((n3 : Nat) : Int))], [(43, bL 28 1 eW 0#16 l4), (6001, bL 28 1 eW 0#16 r2)], [], 0⟩) rfl rfl ⟨.refl _, .refl _, .refl _, trivial⟩ ⟨⟨_, rfl, .refl _⟩, ⟨_, rfl, .refl _⟩, trivial⟩)) h
      ·
        rintro l10 h
        replace h := (congrFun hK2 _).symm.trans h
        obtain ⟨ob17p, h⟩ := chk_some h
        have ob17 : -9223372036854775808 ≤ (((n3 : Nat) : Int) + (1 : Int)) ∧ (((n3 : Nat) : Int) + (1 : Int)) ≤ 9223372036854775807 := ⟨by omega, ob17p⟩
        refine AWp.regC [] [] [3, 4, 5] [43, 6001] ⟨45, [(3, .own 43), (4, .own 6001), (5, .int .i64 (((n3 + 1) : Nat) : Int))], [(43, bL 28 1 eW 0#16 l10), (6001, bL 28 1 eW 0#16 r2)], [], 0⟩ ((-9223372036854775808 ≤ (((n3 : Nat) : Int) + (1 : Int)) ∧ (((n3 : Nat) : Int) + (1 : Int)) ≤ 9223372036854775807) ∧ True) Tryd_mixed (by kernel_rfl) ⟨ob17, trivial⟩ ?_
        rw [hC0] at h
        exact loopQ_normal (_, (n3 + 1), l10) (Le.trans (Le.trans (Le.ren (s := ⟨45, [(3, .own 43), (4, .own 6001), (5, .int .i64 (((n3 + 1) : Nat) : Int))], [(43, bL 28 1 eW 0#16 l10), (6001, bL 28 1 eW 0#16 r2)], [], 0⟩) (swapN 43 5003) (swapN_inv 43 5003) rfl) (Le.mk (s' := ⟨45, [(3, .own 5003), (4, .own 6001), (5, .int .i64 (((n3 + 1) : Nat) : Int))], [(5003, bL 28 1 eW 0#16 l10), (6001, bL 28 1 eW 0#16 r2)], [], 0⟩) rfl rfl ⟨.refl _, .refl _, .refl _, trivial⟩ ⟨⟨_, rfl, .refl _⟩, ⟨_, rfl, .refl _⟩, trivial⟩)) (Le.mk (s := ⟨45, [(3, .own 5003), (4, .own 6001), (5, .int .i64 (((n3 + 1) : Nat) : Int))], [(5003, bL 28 1 eW 0#16 l10), (6001, bL 28 1 eW 0#16 r2)], [], 0⟩) (s' := ⟨45, [(3, .own 5003), (4, .own 6001), (5, .int .i64 (((n3 + 1) : Nat) : Int))], [(5003, bL 28 1 eW 0#16 l10), (6001, bL 28 1 eW 0#16 r2)], [], 0⟩) rfl rfl ⟨.refl _, .refl _, .refl _, trivial⟩ ⟨⟨_, rfl, .refl _⟩, ⟨_, rfl, .refl _⟩, trivial⟩)) h (Nat.lt_succ_self _)
    ·
      replace h := ite_fb hc1 h
      refine AWp.exit ?_
      refine thenQ_exit ?_
      refine thenQ_exit ?_
      refine blockQ_same ?_
      exact joinQ_normal (l4) (Le.mk (s := ⟨45, [(3, .own 5003), (4, .own 6001), (5, .int .i64 ((n3 : Nat) : Int)), (13, .bool (decide (((n3 : Nat) : Int) < (((r2).length : Nat) : Int))))], [(5003, bL 28 1 eW 0#16 l4), (6001, bL 28 1 eW 0#16 r2)], [], 0⟩) (s' := ⟨45, [(3, .own 5003)], [(5003, bL 28 1 eW 0#16 l4)], [], 0⟩) rfl rfl ⟨.refl _, trivial⟩ ⟨⟨_, rfl, .refl _⟩, trivial⟩) h
  ·
    rintro l11 h
    replace h := (congrFun hK1 _).symm.trans h
    refine AWp.seq ?_
    refine AWp.regC [] [] [2] [5003] ⟨45, [(2, .own 5003)], [(5003, bL 28 1 eW 0#16 l11)], [], 0⟩ (True) Tryd_mixed (by kernel_rfl) trivial ?_
    refine thenQ_normal ?_
    refine AWp.le (Le.trans (Le.ren (s := ⟨45, [(2, .own 5003)], [(5003, bL 28 1 eW 0#16 l11)], [], 0⟩) (swapN 5003 3000) (swapN_inv 5003 3000) rfl) (Le.mk (s' := ⟨45, [(2, .own 3000)], [(3000, bL 28 1 eW 0#16 l11)], [], 0⟩) rfl rfl ⟨.refl _, trivial⟩ ⟨⟨_, rfl, .refl _⟩, trivial⟩)) ?_
    have hret := Option.some.inj h
    subst hret
    refine AWp.le (Le.mk (s := ⟨45, [(2, .own 3000)], [(3000, bL 28 1 eW 0#16 l11)], [], 0⟩) (s' := ⟨45, [(2, .own 3000)], [(3000, bL 28 1 eW 0#16 l11)], [], 0⟩) rfl rfl ⟨.refl _, trivial⟩ ⟨⟨_, rfl, .refl _⟩, trivial⟩) ?_
    refine AWp.ret ?_
    exact bodyQ_ret _ rfl ⟨rfl, rfl⟩ rfl
def f44_L0 (x1 : List (BitVec 16)) (K1 : Unit → Option (List (BitVec 16) × Int)) : Nat → Nat → Option (List (BitVec 16) × Int)
  | 0, _ => none
  | k + 1, n3 =>
    if (decide (((n3 : Nat) : Int) < (((x1).length : Nat) : Int))) then (
    (f39 (x1.getD n3 0#16)).bind fun (r4 : Bool) =>
    chk (((n3 : Nat) : Int) < (((x1).length : Nat) : Int)) <|
    if (!r4) then (
    some ([], (7 : Int))
    ) else (
    chk ((((n3 : Nat) : Int) + (1 : Int)) ≤ 9223372036854775807) <|
    (f44_L0 x1 K1 k) (n3 + 1)
    )
    ) else (
    K1 ()
    )
def f44 (x1 : List (BitVec 16)) (x2 : List (BitVec 16)) : Option (List (BitVec 16) × Int) :=
  jn (fun (_ : Unit) =>
  if (decide ((((x2).length : Nat) : Int) > (400 : Int))) then (
  some ([], (3 : Int))
  ) else (
  some (x2, (0 : Int))
  )
  ) fun (K1 : Unit → Option (List (BitVec 16) × Int)) =>
  f44_L0 x1 K1 FUEL 0
def f15 (x1 : List (BitVec 16)) : Option (List (BitVec 16) × Int) :=
  (f45 x1).bind fun (r2 : List (BitVec 16)) =>
  (f44 x1 r2).bind fun (r3 : List (BitVec 16) × Int) =>
  some (r3.1, r3.2)
def f47_L1 (r2 : List (BitVec 16)) (n3 : Nat) (K3 : Bool → Option (List (BitVec 16))) : Nat → (Bool × Nat) → Option (List (BitVec 16))
  | 0, _ => none
  | k + 1, (b5, n6) =>
    if (decide (((n6 : Nat) : Int) < (((r2).length : Nat) : Int))) then (
    jn (fun (b8 : Bool) =>
    chk ((((n6 : Nat) : Int) + (1 : Int)) ≤ 9223372036854775807) <|
    (f47_L1 r2 n3 K3 k) (b8, (n6 + 1))
    ) fun (K4 : Bool → Option (List (BitVec 16))) =>
    optc ((((n3 : Nat) : Int) != ((n6 : Nat) : Int)) == true) (f41 (r2.getD n6 0#16) (r2.getD n3 0#16)) fun (r7 : Bool) =>
    chk (((((n3 : Nat) : Int) != ((n6 : Nat) : Int)) == true) = true → 0 ≤ ((n6 : Nat) : Int) ∧ ((n6 : Nat) : Int) < (((r2).length : Nat) : Int)) <|
    chk (((((n3 : Nat) : Int) != ((n6 : Nat) : Int)) == true) = true → n6 < (r2).length) <|
    chk (((((n3 : Nat) : Int) != ((n6 : Nat) : Int)) == true) = true → 0 ≤ ((n3 : Nat) : Int) ∧ ((n3 : Nat) : Int) < (((r2).length : Nat) : Int)) <|
    chk (((((n3 : Nat) : Int) != ((n6 : Nat) : Int)) == true) = true → n3 < (r2).length) <|
    if ((((n3 : Nat) : Int) != ((n6 : Nat) : Int)) && r7) then (
    K4 false
    ) else (
    K4 b5
    )
    ) else (
    K3 b5
    )
def f47_L0 (r2 : List (BitVec 16)) (K1 : (List (BitVec 16)) → Option (List (BitVec 16))) : Nat → (Nat × List (BitVec 16)) → Option (List (BitVec 16))
  | 0, _ => none
  | k + 1, (n3, l4) =>
    if (decide (((n3 : Nat) : Int) < (((r2).length : Nat) : Int))) then (
    jn (fun (l10 : List (BitVec 16)) =>
    chk ((((n3 : Nat) : Int) + (1 : Int)) ≤ 9223372036854775807) <|
    (f47_L0 r2 K1 k) ((n3 + 1), l10)
    ) fun (K2 : (List (BitVec 16)) → Option (List (BitVec 16))) =>
    jn (fun (b9 : Bool) =>
    if b9 then (
    chk (((n3 : Nat) : Int) < (((r2).length : Nat) : Int)) <|
    chk (n3 < (r2).length) <|
    chk (((l4).length + 1) * 2 ≤ 140737488355328) <|
    K2 (l4 ++ [(r2.getD n3 0#16)])
    ) else (
    K2 l4
    )
    ) fun (K3 : Bool → Option (List (BitVec 16))) =>
    f47_L1 r2 n3 K3 FUEL (true, 0)
    ) else (
    K1 l4
    )
def f47 (x1 : List (BitVec 16)) : Option (List (BitVec 16)) :=
  (f68 x1).bind fun (r2 : List (BitVec 16)) =>
  jn (fun (l11 : List (BitVec 16)) =>
  some l11
  ) fun (K1 : (List (BitVec 16)) → Option (List (BitVec 16))) =>
  f47_L0 r2 K1 FUEL (0, [])
def f17 (x1 : List (BitVec 16)) : Option (List (BitVec 16) × Int) :=
  (f47 x1).bind fun (r2 : List (BitVec 16)) =>
  (f44 x1 r2).bind fun (r3 : List (BitVec 16) × Int) =>
  some (r3.1, r3.2)
def f4 (x1 : List (BitVec 16)) : Option Bool :=
  (f10 ).bind fun (r2 : Bool) =>
  if ((!r2) || (decide ((((x1).length : Nat) : Int) > (100 : Int)))) then (
  (f10 ).bind fun (r3 : Bool) =>
  some r3
  ) else (
  (f12 x1).bind fun (r4 : List (BitVec 16)) =>
  (f14 r4).bind fun (r5 : List (BitVec 16) × Int) =>
  (f15 x1).bind fun (r6 : List (BitVec 16) × Int) =>
  (f12 x1).bind fun (r7 : List (BitVec 16)) =>
  (f16 r7).bind fun (r8 : List (BitVec 16) × Int) =>
  (f17 x1).bind fun (r9 : List (BitVec 16) × Int) =>
  optc (((r5.2 == r6.2) && (r8.2 == r9.2)) == true) (f18 r5.1 r6.1) fun (r10 : Bool) =>
  optc ((((r5.2 == r6.2) && (r8.2 == r9.2)) && r10) == true) (f18 r8.1 r9.1) fun (r11 : Bool) =>
  some ((((r5.2 == r6.2) && (r8.2 == r9.2)) && r10) && r11)
  )
def f51 (x1 : List (BitVec 16)) (x2 : List (BitVec 16)) : Option Int :=
  (f13 x1).bind fun (r3 : Int) =>
  if (r3 != (0 : Int)) then (
  some r3
  ) else (
  (f13 x2).bind fun (r4 : Int) =>
  some r4
  )
def f20 (x1 : List (BitVec 16)) (x2 : List (BitVec 16)) : Option (List (BitVec 16) × Int) :=
  (f51 x1 x2).bind fun (r3 : Int) =>
  if (r3 != (0 : Int)) then (
  some ([], r3)
  ) else (
  (f15 (([] ++ x1) ++ x2)).bind fun (r4 : List (BitVec 16) × Int) =>
  chk ((0 + (x1).length) * 2 ≤ 140737488355328) <|
  chk (((0 + (x1).length) + (x2).length) * 2 ≤ 140737488355328) <|
  some (r4.1, r4.2)
  )
def f52_L1 (x1 : List (BitVec 16)) (x2 : List (BitVec 16)) (n3 : Nat) (K2 : (List (BitVec 16)) → Option (List (BitVec 16))) : Nat → (Nat × List (BitVec 16)) → Option (List (BitVec 16))
  | 0, _ => none
  | k + 1, (n5, l6) =>
    if (decide (((n5 : Nat) : Int) < (((x2).length : Nat) : Int))) then (
    chk (((n3 : Nat) : Int) < (((x1).length : Nat) : Int)) <|
    chk (((n5 : Nat) : Int) < (((x2).length : Nat) : Int)) <|
    chk (((l6).length + 1) * 2 ≤ 140737488355328) <|
    chk ((((n5 : Nat) : Int) + (1 : Int)) ≤ 9223372036854775807) <|
    (f52_L1 x1 x2 n3 K2 k) ((n5 + 1), (l6 ++ [((x1.getD n3 0#16) ||| (x2.getD n5 0#16))]))
    ) else (
    K2 l6
    )
def f52_L0 (x1 : List (BitVec 16)) (x2 : List (BitVec 16)) (K1 : (List (BitVec 16)) → Option (List (BitVec 16))) : Nat → (Nat × List (BitVec 16)) → Option (List (BitVec 16))
  | 0, _ => none
  | k + 1, (n3, l4) =>
    if (decide (((n3 : Nat) : Int) < (((x1).length : Nat) : Int))) then (
    jn (fun (l7 : List (BitVec 16)) =>
    chk ((((n3 : Nat) : Int) + (1 : Int)) ≤ 9223372036854775807) <|
    (f52_L0 x1 x2 K1 k) ((n3 + 1), l7)
    ) fun (K2 : (List (BitVec 16)) → Option (List (BitVec 16))) =>
    f52_L1 x1 x2 n3 K2 FUEL (0, l4)
    ) else (
    K1 l4
    )
def f52 (x1 : List (BitVec 16)) (x2 : List (BitVec 16)) : Option (List (BitVec 16)) :=
  jn (fun (l8 : List (BitVec 16)) =>
  some l8
  ) fun (K1 : (List (BitVec 16)) → Option (List (BitVec 16))) =>
  f52_L0 x1 x2 K1 FUEL (0, [])
def f22 (x1 : List (BitVec 16)) (x2 : List (BitVec 16)) : Option (List (BitVec 16) × Int) :=
  (f51 x1 x2).bind fun (r3 : Int) =>
  if (r3 != (0 : Int)) then (
  some ([], r3)
  ) else (
  (f52 x1 x2).bind fun (r4 : List (BitVec 16)) =>
  (f15 r4).bind fun (r5 : List (BitVec 16) × Int) =>
  some (r5.1, r5.2)
  )
def f5 (x1 : List (BitVec 16)) (x2 : List (BitVec 16)) : Option Bool :=
  (f10 ).bind fun (r3 : Bool) =>
  if (((!r3) || (decide ((((x1).length : Nat) : Int) > (20 : Int)))) || (decide ((((x2).length : Nat) : Int) > (20 : Int)))) then (
  (f10 ).bind fun (r4 : Bool) =>
  some r4
  ) else (
  (f19 x1 x2).bind fun (r5 : List (BitVec 16) × Int) =>
  (f20 x1 x2).bind fun (r6 : List (BitVec 16) × Int) =>
  (f21 x1 x2).bind fun (r7 : List (BitVec 16) × Int) =>
  (f22 x1 x2).bind fun (r8 : List (BitVec 16) × Int) =>
  optc (((r5.2 == r6.2) && (r7.2 == r8.2)) == true) (f18 r5.1 r6.1) fun (r9 : Bool) =>
  optc ((((r5.2 == r6.2) && (r7.2 == r8.2)) && r9) == true) (f18 r7.1 r8.1) fun (r10 : Bool) =>
  some ((((r5.2 == r6.2) && (r7.2 == r8.2)) && r9) && r10)
  )
def f24_L0 (x1 : List (BitVec 16)) (x2 : BitVec 16) (K1 : (List (BitVec 16)) → Option (List (BitVec 16) × Int)) : Nat → (Nat × List (BitVec 16)) → Option (List (BitVec 16) × Int)
  | 0, _ => none
  | k + 1, (n4, l5) =>
    if (decide (((n4 : Nat) : Int) < (((x1).length : Nat) : Int))) then (
    chk (((n4 : Nat) : Int) < (((x1).length : Nat) : Int)) <|
    chk (((l5).length + 1) * 2 ≤ 140737488355328) <|
    chk ((((n4 : Nat) : Int) + (1 : Int)) ≤ 9223372036854775807) <|
    (f24_L0 x1 x2 K1 k) ((n4 + 1), (l5 ++ [((x1.getD n4 0#16) &&& ~~~x2)]))
    ) else (
    K1 l5
    )
def f24 (x1 : List (BitVec 16)) (x2 : BitVec 16) : Option (List (BitVec 16) × Int) :=
  (f13 x1).bind fun (r3 : Int) =>
  if (r3 != (0 : Int)) then (
  some ([], r3)
  ) else (
  jn (fun (l6 : List (BitVec 16)) =>
  (f15 l6).bind fun (r7 : List (BitVec 16) × Int) =>
  some (r7.1, r7.2)
  ) fun (K1 : (List (BitVec 16)) → Option (List (BitVec 16) × Int)) =>
  f24_L0 x1 x2 K1 FUEL (0, [])
  )
def f26_L0 (x1 : List (BitVec 16)) (x2 : BitVec 16) (K1 : (List (BitVec 16)) → Option (Int × List (BitVec 16))) : Nat → (Nat × List (BitVec 16)) → Option (Int × List (BitVec 16))
  | 0, _ => none
  | k + 1, (n4, l5) =>
    if (decide (((n4 : Nat) : Int) < (((x1).length : Nat) : Int))) then (
    jn (fun (l6 : List (BitVec 16)) =>
    chk ((((n4 : Nat) : Int) + (1 : Int)) ≤ 9223372036854775807) <|
    (f26_L0 x1 x2 K1 k) ((n4 + 1), l6)
    ) fun (K2 : (List (BitVec 16)) → Option (Int × List (BitVec 16))) =>
    chk (((n4 : Nat) : Int) < (((x1).length : Nat) : Int)) <|
    if (((x1.getD n4 0#16) &&& x2) == (BitVec.ofInt 16 0)) then (
    chk (((n4 : Nat) : Int) < (((x1).length : Nat) : Int)) <|
    chk (((l5).length + 1) * 2 ≤ 140737488355328) <|
    K2 (l5 ++ [(x1.getD n4 0#16)])
    ) else (
    K2 l5
    )
    ) else (
    K1 l5
    )
def f26 (x1 : List (BitVec 16)) (x2 : BitVec 16) : Option (Int × List (BitVec 16)) :=
  (f13 x1).bind fun (r3 : Int) =>
  if (r3 != (0 : Int)) then (
  some (r3, [])
  ) else (
  jn (fun (l7 : List (BitVec 16)) =>
  some ((0 : Int), l7)
  ) fun (K1 : (List (BitVec 16)) → Option (Int × List (BitVec 16))) =>
  f26_L0 x1 x2 K1 FUEL (0, [])
  )
def f6 (x1 : List (BitVec 16)) (x2 : BitVec 16) (x3 : BitVec 16) : Option Bool :=
  (f10 ).bind fun (r4 : Bool) =>
  if ((!r4) || (decide ((((x1).length : Nat) : Int) > (40 : Int)))) then (
  (f10 ).bind fun (r5 : Bool) =>
  some r5
  ) else (
  (f23 x1 x2).bind fun (r6 : List (BitVec 16) × Int) =>
  (f24 x1 x2).bind fun (r7 : List (BitVec 16) × Int) =>
  (f25 x1 x2).bind fun (r8 : Int × List (BitVec 16)) =>
  (f26 x1 x2).bind fun (r9 : Int × List (BitVec 16)) =>
  optc (((r6.2 != r7.2) || (r8.1 != r9.1)) == false) (f18 r6.1 r7.1) fun (r10 : Bool) =>
  optc ((((r6.2 != r7.2) || (r8.1 != r9.1)) || (!r10)) == false) (f18 r8.2 r9.2) fun (r11 : Bool) =>
  if (((((r6.2 != r7.2) || (r8.1 != r9.1)) || (!r10)) || (!r11)) || (r6.2 != (0 : Int))) then (
  optc (((r6.2 == r7.2) && (r8.1 == r9.1)) == true) (f18 r6.1 r7.1) fun (r12 : Bool) =>
  optc ((((r6.2 == r7.2) && (r8.1 == r9.1)) && r12) == true) (f18 r8.2 r9.2) fun (r13 : Bool) =>
  some ((((r6.2 == r7.2) && (r8.1 == r9.1)) && r12) && r13)
  ) else (
  (f27 r6.1 x3).bind fun (r14 : Bool) =>
  (f27 x1 (x2 ||| x3)).bind fun (r15 : Bool) =>
  optc ((r14 == r15) == true) (f27 r8.2 x3) fun (r16 : Bool) =>
  optc ((r14 == r15) == true) (f27 x1 (x3 &&& ~~~x2)) fun (r17 : Bool) =>
  some ((r14 == r15) && (r16 == r17))
  )
  )
def f28_L0 (x1 : Int) (x2 : List (BitVec 16)) (K1 : (List (BitVec 16)) → Option (Int × Bool × List (BitVec 16))) : Nat → (Nat × List (BitVec 16)) → Option (Int × Bool × List (BitVec 16))
  | 0, _ => none
  | k + 1, (n3, l4) =>
    if (decide (((n3 : Nat) : Int) < (((x2).length : Nat) : Int))) then (
    jn (fun (l5 : List (BitVec 16)) =>
    chk ((((n3 : Nat) : Int) + (1 : Int)) ≤ 9223372036854775807) <|
    (f28_L0 x1 x2 K1 k) ((n3 + 1), l5)
    ) fun (K2 : (List (BitVec 16)) → Option (Int × Bool × List (BitVec 16))) =>
    chk (((n3 : Nat) : Int) < (((x2).length : Nat) : Int)) <|
    chk (0 ≤ ((1 : Int) + (x1 % (6 : Int)))) <|
    if (!(((x2.getD n3 0#16) &&& (((BitVec.ofInt 16 1) <<< ((((1 : Int) + (x1 % (6 : Int)))).toNat)) - (BitVec.ofInt 16 1))) == (BitVec.ofInt 16 0))) then (
    chk (((l4).length + 1) * 2 ≤ 140737488355328) <|
    K2 (l4 ++ [((x2.getD n3 0#16) &&& (((BitVec.ofInt 16 1) <<< ((((1 : Int) + (x1 % (6 : Int)))).toNat)) - (BitVec.ofInt 16 1)))])
    ) else (
    K2 l4
    )
    ) else (
    K1 l4
    )
def f28 (x1 : Int) (x2 : List (BitVec 16)) : Option (Int × Bool × List (BitVec 16)) :=
  chk (0 ≤ x1 ∧ 1 ≤ (6 : Int)) <|
  chk (-9223372036854775808 ≤ (x1 % (6 : Int)) ∧ (x1 % (6 : Int)) ≤ 9223372036854775807) <|
  chk (-9223372036854775808 ≤ ((1 : Int) + (x1 % (6 : Int))) ∧ ((1 : Int) + (x1 % (6 : Int))) ≤ 9223372036854775807) <|
  if (decide ((((x2).length : Nat) : Int) > (20 : Int))) then (
  some (((1 : Int) + (x1 % (6 : Int))), false, [])
  ) else (
  jn (fun (l6 : List (BitVec 16)) =>
  (f45 l6).bind fun (r7 : List (BitVec 16)) =>
  some (((1 : Int) + (x1 % (6 : Int))), true, r7)
  ) fun (K1 : (List (BitVec 16)) → Option (Int × Bool × List (BitVec 16))) =>
  f28_L0 x1 x2 K1 FUEL (0, [])
  )
set_option maxRecDepth 100000 in
theorem f28_ok  (x1 : Int) (x2 : List (BitVec 16)) (r : Int × Bool × List (BitVec 16)) (h : f28 x1 x2 = some r)  : Spec1 Tryd.prog 28 [] [] [] [.agg [.int .u8 x1, vL 1 eW 0#16 x2]] (.tup [.own 3000, .int .i64 r.1, .bool r.2.1]) [(3000, bL 28 1 eW 0#16 r.2.2)] := by
  unfold f28 at h
  refine Spec1.body 0 _ _ Tryd.func28 rfl Tryd.ntmps28 rfl rfl ?_
  refine AWp.seq ?_
  refine AWp.regC [] [] [1] [1] ⟨44, [(1, .ptr 1 0)], [(1, .cells 39 [.int .u8 x1, vL 1 eW 0#16 x2])], [], 0⟩ (True) Tryd_mixed (by kernel_rfl) trivial ?_
  refine thenQ_normal ?_
  refine AWp.seq ?_
  obtain ⟨ob0, h⟩ := chk_some h
  obtain ⟨ob1, h⟩ := chk_some h
  obtain ⟨ob2, h⟩ := chk_some h
  refine AWp.regC [] [] [1, 5] [1] ⟨44, [(1, .ptr 1 0), (5, .int .i64 ((1 : Int) + (x1 % (6 : Int))))], [(1, .cells 39 [.int .u8 x1, vL 1 eW 0#16 x2])], [], 0⟩ ((0 ≤ x1 ∧ 1 ≤ (6 : Int)) ∧ (-9223372036854775808 ≤ (x1 % (6 : Int)) ∧ (x1 % (6 : Int)) ≤ 9223372036854775807) ∧ (-9223372036854775808 ≤ ((1 : Int) + (x1 % (6 : Int))) ∧ ((1 : Int) + (x1 % (6 : Int))) ≤ 9223372036854775807) ∧ True) Tryd_mixed (by kernel_rfl) ⟨ob0, ob1, ob2, trivial⟩ ?_
  refine thenQ_normal ?_
  refine AWp.seq ?_
  refine AWp.seq ?_
  refine AWp.regC [] [] [1, 5, 17] [1] ⟨44, [(1, .ptr 1 0), (5, .int .i64 ((1 : Int) + (x1 % (6 : Int)))), (17, .bool (decide ((((x2).length : Nat) : Int) > (20 : Int))))], [(1, .cells 39 [.int .u8 x1, vL 1 eW 0#16 x2])], [], 0⟩ (True) Tryd_mixed (by kernel_rfl) trivial ?_
  refine thenQ_normal ?_
  refine AWp.cond (b := (decide ((((x2).length : Nat) : Int) > (20 : Int)))) (by kernel_rfl) (fun hc1 => ?_) (fun hc1 => ?_)
  ·
    replace h := ite_tb hc1 h
    refine AWp.seq ?_
    refine AWp.regC [] [] [2, 3, 4] [] ⟨44, [(2, .nils), (3, .int .i64 ((1 : Int) + (x1 % (6 : Int)))), (4, .bool false)], [], [], 0⟩ (True) Tryd_mixed (by kernel_rfl) trivial ?_
    refine thenQ_normal ?_
    refine AWp.le (Le.trans (Le.nilOwn (s := ⟨44, [(2, .nils), (3, .int .i64 ((1 : Int) + (x1 % (6 : Int)))), (4, .bool false)], [], [], 0⟩) 2 3000 28 1 (encF eW 0#16 []) rfl rfl (Nat.le_of_ble_eq_true rfl)) (Le.mk (s' := ⟨44, [(2, .own 3000), (3, .int .i64 ((1 : Int) + (x1 % (6 : Int)))), (4, .bool false)], [(3000, bL 28 1 eW 0#16 [])], [], 0⟩) rfl rfl ⟨.refl _, .refl _, .refl _, trivial⟩ ⟨⟨_, rfl, .refl _⟩, trivial⟩)) ?_
    have hret := Option.some.inj h
    subst hret
    refine AWp.le (Le.mk (s := ⟨44, [(2, .own 3000), (3, .int .i64 ((1 : Int) + (x1 % (6 : Int)))), (4, .bool false)], [(3000, bL 28 1 eW 0#16 [])], [], 0⟩) (s' := ⟨44, [(2, .own 3000), (3, .int .i64 ((1 : Int) + (x1 % (6 : Int)))), (4, .bool false)], [(3000, bL 28 1 eW 0#16 [])], [], 0⟩) rfl rfl ⟨.refl _, .refl _, .refl _, trivial⟩ ⟨⟨_, rfl, .refl _⟩, trivial⟩) ?_
    refine AWp.ret ?_
    refine thenQ_ret ?_
    exact bodyQ_ret _ rfl ⟨rfl, rfl⟩ rfl
  ·
    replace h := ite_fb hc1 h
    refine AWp.skip ?_
    refine thenQ_normal ?_
    refine AWp.seq ?_
    refine AWp.regC [] [] [1, 5, 6] [1] ⟨44, [(1, .ptr 1 0), (5, .int .i64 ((1 : Int) + (x1 % (6 : Int)))), (6, .nils)], [(1, .cells 39 [.int .u8 x1, vL 1 eW 0#16 x2])], [], 0⟩ (True) Tryd_mixed (by kernel_rfl) trivial ?_
    refine thenQ_normal ?_
    obtain ⟨K1, hK1, h⟩ := jn_some h
    refine AWp.join (α := List (BitVec 16)) (fun (l6 : List (BitVec 16)) => ⟨44, [(5, .int .i64 ((1 : Int) + (x1 % (6 : Int)))), (6, .own 5006)], [(5006, bL 28 1 eW 0#16 l6)], [], 0⟩) (fun x => K1 x = some r) ?_ ?_
    ·
      refine AWp.seq ?_
      refine AWp.regC [] [] [1, 5, 6, 7] [1] ⟨44, [(1, .ptr 1 0), (5, .int .i64 ((1 : Int) + (x1 % (6 : Int)))), (6, .nils), (7, .int .i64 (0 : Int))], [(1, .cells 39 [.int .u8 x1, vL 1 eW 0#16 x2])], [], 0⟩ (True) Tryd_mixed (by kernel_rfl) trivial ?_
      refine thenQ_normal ?_
      refine AWp.block ?_
      refine AWp.loopL (α := Nat × (Nat × List (BitVec 16))) (fun x => match x with | (_, n3, l4) => ⟨44, [(1, .ptr 1 0), (5, .int .i64 ((1 : Int) + (x1 % (6 : Int)))), (6, .own 5006), (7, .int .i64 ((n3 : Nat) : Int))], [(1, .cells 39 [.int .u8 x1, vL 1 eW 0#16 x2]), (5006, bL 28 1 eW 0#16 l4)], [], 0⟩) (fun x => f28_L0 x1 x2 K1 x.1 x.2 = some r) (fun x => x.1) (FUEL, 0, []) (Le.trans (Le.trans (Le.nilOwn (s := ⟨44, [(1, .ptr 1 0), (5, .int .i64 ((1 : Int) + (x1 % (6 : Int)))), (6, .nils), (7, .int .i64 (0 : Int))], [(1, .cells 39 [.int .u8 x1, vL 1 eW 0#16 x2])], [], 0⟩) 6 5006 28 1 (encF eW 0#16 []) rfl rfl (Nat.le_of_ble_eq_true rfl)) (Le.mk (s' := ⟨44, [(1, .ptr 1 0), (5, .int .i64 ((1 : Int) + (x1 % (6 : Int)))), (6, .own 5006), (7, .int .i64 (0 : Int))], [(1, .cells 39 [.int .u8 x1, vL 1 eW 0#16 x2]), (5006, bL 28 1 eW 0#16 [])], [], 0⟩) rfl rfl ⟨.refl _, .refl _, .refl _, .refl _, trivial⟩ ⟨⟨_, rfl, .refl _⟩, ⟨_, rfl, .refl _⟩, trivial⟩)) (Le.mk (s := ⟨44, [(1, .ptr 1 0), (5, .int .i64 ((1 : Int) + (x1 % (6 : Int)))), (6, .own 5006), (7, .int .i64 (0 : Int))], [(1, .cells 39 [.int .u8 x1, vL 1 eW 0#16 x2]), (5006, bL 28 1 eW 0#16 [])], [], 0⟩) (s' := ⟨44, [(1, .ptr 1 0), (5, .int .i64 ((1 : Int) + (x1 % (6 : Int)))), (6, .own 5006), (7, .int .i64 (0 : Int))], [(1, .cells 39 [.int .u8 x1, vL 1 eW 0#16 x2]), (5006, bL 28 1 eW 0#16 [])], [], 0⟩) rfl rfl ⟨.refl _, .refl _, .refl _, .refl _, trivial⟩ ⟨⟨_, rfl, .refl _⟩, ⟨_, rfl, .refl _⟩, trivial⟩)) h ?_
      rintro ⟨k0, n3, l4⟩ h
      cases k0 with
      | zero => exact nomatch (show (none : Option (Int × Bool × List (BitVec 16))) = some r from h)
      | succ k0 =>
      obtain ⟨C0, hC0⟩ : ∃ C, C = f28_L0 x1 x2 K1 k0 := ⟨_, rfl⟩
      replace h := (f28_L0.eq_2 ..).symm.trans h
      try rw [← hC0] at h
      refine AWp.seq ?_
      refine AWp.seq ?_
      refine AWp.regC [] [] [1, 5, 6, 7, 23] [1, 5006] ⟨44, [(1, .ptr 1 0), (5, .int .i64 ((1 : Int) + (x1 % (6 : Int)))), (6, .own 5006), (7, .int .i64 ((n3 : Nat) : Int)), (23, .bool (decide (((n3 : Nat) : Int) < (((x2).length : Nat) : Int))))], [(1, .cells 39 [.int .u8 x1, vL 1 eW 0#16 x2]), (5006, bL 28 1 eW 0#16 l4)], [], 0⟩ (True) Tryd_mixed (by kernel_rfl) trivial ?_
      refine thenQ_normal ?_
      refine AWp.cond (b := (decide (((n3 : Nat) : Int) < (((x2).length : Nat) : Int)))) (by kernel_rfl) (fun hc2 => ?_) (fun hc2 => ?_)
      ·
        replace h := ite_tb hc2 h
        refine AWp.skip ?_
        refine thenQ_normal ?_
        obtain ⟨K2, hK2, h⟩ := jn_some h
        refine AWp.join (α := List (BitVec 16)) (fun (l5 : List (BitVec 16)) => ⟨44, [(1, .ptr 1 0), (5, .int .i64 ((1 : Int) + (x1 % (6 : Int)))), (6, .own 40), (7, .int .i64 ((n3 : Nat) : Int))], [(1, .cells 39 [.int .u8 x1, vL 1 eW 0#16 x2]), (40, bL 28 1 eW 0#16 l5)], [], 0⟩) (fun x => K2 x = some r) ?_ ?_
        ·
          refine AWp.block ?_
          refine AWp.seq ?_
          obtain ⟨ob3p, h⟩ := chk_some h
          have ob3 : 0 ≤ ((n3 : Nat) : Int) ∧ ((n3 : Nat) : Int) < (((x2).length : Nat) : Int) := ⟨by omega, ob3p⟩
          obtain ⟨ob4, h⟩ := chk_some h
          refine AWp.regC [] [] [1, 5, 6, 7, 8] [1, 5006] ⟨44, [(1, .ptr 1 0), (5, .int .i64 ((1 : Int) + (x1 % (6 : Int)))), (6, .own 5006), (7, .int .i64 ((n3 : Nat) : Int)), (8, .b16 ((x2.getD n3 0#16) &&& (((BitVec.ofInt 16 1) <<< ((((1 : Int) + (x1 % (6 : Int)))).toNat)) - (BitVec.ofInt 16 1))))], [(1, .cells 39 [.int .u8 x1, vL 1 eW 0#16 x2]), (5006, bL 28 1 eW 0#16 l4)], [], 0⟩ ((0 ≤ ((n3 : Nat) : Int) ∧ ((n3 : Nat) : Int) < (((x2).length : Nat) : Int)) ∧ (0 ≤ ((1 : Int) + (x1 % (6 : Int)))) ∧ (True) ∧ True) Tryd_mixed (by kernel_rfl) ⟨ob3, ob4, trivial, trivial⟩ ?_
          refine thenQ_normal ?_
          refine AWp.seq ?_
          refine AWp.regC [] [] [1, 5, 6, 7, 8, 36] [1, 5006] ⟨44, [(1, .ptr 1 0), (5, .int .i64 ((1 : Int) + (x1 % (6 : Int)))), (6, .own 5006), (7, .int .i64 ((n3 : Nat) : Int)), (8, .b16 ((x2.getD n3 0#16) &&& (((BitVec.ofInt 16 1) <<< ((((1 : Int) + (x1 % (6 : Int)))).toNat)) - (BitVec.ofInt 16 1)))), (36, .bool (!(((x2.getD n3 0#16) &&& (((BitVec.ofInt 16 1) <<< ((((1 : Int) + (x1 % (6 : Int)))).toNat)) - (BitVec.ofInt 16 1))) == (BitVec.ofInt 16 0))))], [(1, .cells 39 [.int .u8 x1, vL 1 eW 0#16 x2]), (5006, bL 28 1 eW 0#16 l4)], [], 0⟩ (True) Tryd_mixed (by kernel_rfl) trivial ?_
          refine thenQ_normal ?_
          refine AWp.cond (b := (!(((x2.getD n3 0#16) &&& (((BitVec.ofInt 16 1) <<< ((((1 : Int) + (x1 % (6 : Int)))).toNat)) - (BitVec.ofInt 16 1))) == (BitVec.ofInt 16 0)))) (by kernel_rfl) (fun hc3 => ?_) (fun hc3 => ?_)
          ·
            replace h := ite_tb hc3 h
            obtain ⟨ob5, h⟩ := chk_some h
            refine AWp.regC [] [] [1, 5, 6, 7] [1, 5006] ⟨44, [(1, .ptr 1 0), (5, .int .i64 ((1 : Int) + (x1 % (6 : Int)))), (6, .own 5006), (7, .int .i64 ((n3 : Nat) : Int))], [(1, .cells 39 [.int .u8 x1, vL 1 eW 0#16 x2]), (5006, .rows 28 1 ((l4).length + 1) (appF (l4).length (encF eW 0#16 l4) (lstF 1 [.b16 ((x2.getD n3 0#16) &&& (((BitVec.ofInt 16 1) <<< ((((1 : Int) + (x1 % (6 : Int)))).toNat)) - (BitVec.ofInt 16 1)))])))], [], 0⟩ ((((l4).length + 1) * 2 ≤ 140737488355328) ∧ True) Tryd_mixed (by kernel_rfl) ⟨ob5, trivial⟩ ?_
            refine blockQ_normal ?_
            exact joinQ_normal ((l4 ++ [((x2.getD n3 0#16) &&& (((BitVec.ofInt 16 1) <<< ((((1 : Int) + (x1 % (6 : Int)))).toNat)) - (BitVec.ofInt 16 1)))])) (Le.trans (Le.mk (s := ⟨44, [(1, .ptr 1 0), (5, .int .i64 ((1 : Int) + (x1 % (6 : Int)))), (6, .own 5006), (7, .int .i64 ((n3 : Nat) : Int))], [(1, .cells 39 [.int .u8 x1, vL 1 eW 0#16 x2]), (5006, .rows 28 1 ((l4).length + 1) (appF (l4).length (encF eW 0#16 l4) (lstF 1 [.b16 ((x2.getD n3 0#16) &&& (((BitVec.ofInt 16 1) <<< ((((1 : Int) + (x1 % (6 : Int)))).toNat)) - (BitVec.ofInt 16 1)))])))], [], 0⟩) (s' := ⟨44, [(1, .ptr 1 0), (5, .int .i64 ((1 : Int) + (x1 % (6 : Int)))), (6, .own 5006), (7, .int .i64 ((n3 : Nat) : Int))], [(1, .cells 39 [.int .u8 x1, vL 1 eW 0#16 x2]), (5006, bL 28 1 eW 0#16 (l4 ++ [((x2.getD n3 0#16) &&& (((BitVec.ofInt 16 1) <<< ((((1 : Int) + (x1 % (6 : Int)))).toNat)) - (BitVec.ofInt 16 1)))]))], [], 0⟩) rfl rfl ⟨.refl _, .refl _, .refl _, .refl _, trivial⟩ ⟨⟨_, rfl, .refl _⟩, ⟨_, rfl, (BLe.of (RL.app (RL.self _) (RL.lst (enc := eW) [((x2.getD n3 0#16) &&& (((BitVec.ofInt 16 1) <<< ((((1 : Int) + (x1 % (6 : Int)))).toNat)) - (BitVec.ofInt 16 1)))] rfl rfl (fun _ => rfl))))⟩, trivial⟩) (Le.trans (Le.trans (Le.ren (s := ⟨44, [(1, .ptr 1 0), (5, .int .i64 ((1 : Int) + (x1 % (6 : Int)))), (6, .own 5006), (7, .int .i64 ((n3 : Nat) : Int))], [(1, .cells 39 [.int .u8 x1, vL 1 eW 0#16 x2]), (5006, bL 28 1 eW 0#16 (l4 ++ [((x2.getD n3 0#16) &&& (((BitVec.ofInt 16 1) <<< ((((1 : Int) + (x1 % (6 : Int)))).toNat)) - (BitVec.ofInt 16 1)))]))], [], 0⟩) (swapN 5006 40) (swapN_inv 5006 40) rfl) (Le.mk (s' := ⟨44, [(1, .ptr 1 0), (5, .int .i64 ((1 : Int) + (x1 % (6 : Int)))), (6, .own 40), (7, .int .i64 ((n3 : Nat) : Int))], [(1, .cells 39 [.int .u8 x1, vL 1 eW 0#16 x2]), (40, bL 28 1 eW 0#16 (l4 ++ [((x2.getD n3 0#16) &&& (((BitVec.ofInt 16 1) <<< ((((1 : Int) + (x1 % (6 : Int)))).toNat)) - (BitVec.ofInt 16 1)))]))], [], 0⟩) rfl rfl ⟨.refl _, .refl _, .refl _, .refl _, trivial⟩ ⟨⟨_, rfl, .refl _⟩, ⟨_, rfl, .refl _⟩, trivial⟩)) (Le.mk (s := ⟨44, [(1, .ptr 1 0), (5, .int .i64 ((1 : Int) + (x1 % (6 : Int)))), (6, .own 40), (7, .int .i64 ((n3 : Nat) : Int))], [(1, .cells 39 [.int .u8 x1, vL 1 eW 0#16 x2]), (40, bL 28 1 eW 0#16 (l4 ++ [((x2.getD n3 0#16) &&& (((BitVec.ofInt 16 1) <<< ((((1 : Int) + (x1 % (6 : Int)))).toNat)) - (BitVec.ofInt 16 1)))]))], [], 0⟩) (s' := ⟨44, [(1, .ptr 1 0), (5, .int .i64 ((1 : Int) + (x1 % (6 : Int)))), (6, .own 40), (7, .int .i64 ((n3 : Nat) : Int))], [(1, .cells 39 [.int .u8 x1, vL 1 eW 0#16 x2]), (40, bL 28 1 eW 0#16 (l4 ++ [((x2.getD n3 0#16) &&& (((BitVec.ofInt 16 1) <<< ((((1 : Int) + (x1 % (6 : Int)))).toNat)) - (BitVec.ofInt 16 1)))]))], [], 0⟩) rfl rfl ⟨.refl _, .refl _, .refl _, .refl _, trivial⟩ ⟨⟨_, rfl, .refl _⟩, ⟨_, rfl, .refl _⟩, trivial⟩))) h
          ·
            replace h := ite_fb hc3 h
            refine AWp.skip ?_
            refine blockQ_normal ?_
            exact joinQ_normal (l4) (Le.trans (Le.trans (Le.ren (s := ⟨44, [(1, .ptr 1 0), (5, .int .i64 ((1 : Int) + (x1 % (6 : Int)))), (6, .own 5006), (7, .int .i64 ((n3 : Nat) : Int)), (8, .b16 ((x2.getD n3 0#16) &&& (((BitVec.ofInt 16 1) <<< ((((1 : Int) + (x1 % (6 : Int)))).toNat)) - (BitVec.ofInt 16 1)))), (36, .bool (!(((x2.getD n3 0#16) &&& (((BitVec.ofInt 16 1) <<< ((((1 : Int) + (x1 % (6 : Int)))).toNat)) - (BitVec.ofInt 16 1))) == (BitVec.ofInt 16 0))))], [(1, .cells 39 [.int .u8 x1, vL 1 eW 0#16 x2]), (5006, bL 28 1 eW 0#16 l4)], [], 0⟩) (swapN 5006 40) (swapN_inv 5006 40) rfl) (Le.mk (s' := ⟨44, [(1, .ptr 1 0), (5, .int .i64 ((1 : Int) + (x1 % (6 : Int)))), (6, .own 40), (7, .int .i64 ((n3 : Nat) : Int)), (8, .b16 ((x2.getD n3 0#16) &&& (((BitVec.ofInt 16 1) <<< ((((1 : Int) + (x1 % (6 : Int)))).toNat)) - (BitVec.ofInt 16 1)))), (36, .bool (!(((x2.getD n3 0#16) &&& (((BitVec.ofInt 16 1) <<< ((((1 : Int) + (x1 % (6 : Int)))).toNat)) - (BitVec.ofInt 16 1))) == (BitVec.ofInt 16 0))))], [(1, .cells 39 [.int .u8 x1, vL 1 eW 0#16 x2]), (40, bL 28 1 eW 0#16 l4)], [], 0⟩) rfl rfl ⟨.refl _, .refl _, .refl _, .refl _, .refl _, .refl _, trivial⟩ ⟨⟨_, rfl, .refl _⟩, ⟨_, rfl, .refl _⟩, trivial⟩)) (Le.mk (s := ⟨44, [(1, .ptr 1 0), (5, .int .i64 ((1 : Int) + (x1 % (6 : Int)))), (6, .own 40), (7, .int .i64 ((n3 : Nat) : Int)), (8, .b16 ((x2.getD n3 0#16) &&& (((BitVec.ofInt 16 1) <<< ((((1 : Int) + (x1 % (6 : Int)))).toNat)) - (BitVec.ofInt 16 1)))), (36, .bool (!(((x2.getD n3 0#16) &&& (((BitVec.ofInt 16 1) <<< ((((1 : Int) + (x1 % (6 : Int)))).toNat)) - (BitVec.ofInt 16 1))) == (BitVec.ofInt 16 0))))], [(1, .cells 39 [.int .u8 x1, vL 1 eW 0#16 x2]), (40, bL 28 1 eW 0#16 l4)], [], 0⟩) (s' := ⟨44, [(1, .ptr 1 0), (5, .int .i64 ((1 : Int) + (x1 % (6 : Int)))), (6, .own 40), (7, .int .i64 ((n3 : Nat) : Int))], [(1, .cells 39 [.int .u8 x1, vL 1 eW 0#16 x2]), (40, bL 28 1 eW 0#16 l4)], [], 0⟩) rfl rfl ⟨.refl _, .refl _, .refl _, .refl _, trivial⟩ ⟨⟨_, rfl, .refl _⟩, ⟨_, rfl, .refl _⟩, trivial⟩)) h
        ·
          rintro l5 h
          replace h := (congrFun hK2 _).symm.trans h
          obtain ⟨ob6p, h⟩ := chk_some h
          have ob6 : -9223372036854775808 ≤ (((n3 : Nat) : Int) + (1 : Int)) ∧ (((n3 : Nat) : Int) + (1 : Int)) ≤ 9223372036854775807 := ⟨by omega, ob6p⟩
          refine AWp.regC [] [] [1, 5, 6, 7] [1, 40] ⟨44, [(1, .ptr 1 0), (5, .int .i64 ((1 : Int) + (x1 % (6 : Int)))), (6, .own 40), (7, .int .i64 (((n3 + 1) : Nat) : Int))], [(1, .cells 39 [.int .u8 x1, vL 1 eW 0#16 x2]), (40, bL 28 1 eW 0#16 l5)], [], 0⟩ ((-9223372036854775808 ≤ (((n3 : Nat) : Int) + (1 : Int)) ∧ (((n3 : Nat) : Int) + (1 : Int)) ≤ 9223372036854775807) ∧ True) Tryd_mixed (by kernel_rfl) ⟨ob6, trivial⟩ ?_
          rw [hC0] at h
          exact loopQ_normal (_, (n3 + 1), l5) (Le.trans (Le.trans (Le.ren (s := ⟨44, [(1, .ptr 1 0), (5, .int .i64 ((1 : Int) + (x1 % (6 : Int)))), (6, .own 40), (7, .int .i64 (((n3 + 1) : Nat) : Int))], [(1, .cells 39 [.int .u8 x1, vL 1 eW 0#16 x2]), (40, bL 28 1 eW 0#16 l5)], [], 0⟩) (swapN 40 5006) (swapN_inv 40 5006) rfl) (Le.mk (s' := ⟨44, [(1, .ptr 1 0), (5, .int .i64 ((1 : Int) + (x1 % (6 : Int)))), (6, .own 5006), (7, .int .i64 (((n3 + 1) : Nat) : Int))], [(1, .cells 39 [.int .u8 x1, vL 1 eW 0#16 x2]), (5006, bL 28 1 eW 0#16 l5)], [], 0⟩) rfl rfl ⟨.refl _, .refl _, .refl _, .refl _, trivial⟩ ⟨⟨_, rfl, .refl _⟩, ⟨_, rfl, .refl _⟩, trivial⟩)) (Le.mk (s := ⟨44, [(1, .ptr 1 0), (5, .int .i64 ((1 : Int) + (x1 % (6 : Int)))), (6, .own 5006), (7, .int .i64 (((n3 + 1) : Nat) : Int))], [(1, .cells 39 [.int .u8 x1, vL 1 eW 0#16 x2]), (5006, bL 28 1 eW 0#16 l5)], [], 0⟩) (s' := ⟨44, [(1, .ptr 1 0), (5, .int .i64 ((1 : Int) + (x1 % (6 : Int)))), (6, .own 5006), (7, .int .i64 (((n3 + 1) : Nat) : Int))], [(1, .cells 39 [.int .u8 x1, vL 1 eW 0#16 x2]), (5006, bL 28 1 eW 0#16 l5)], [], 0⟩) rfl rfl ⟨.refl _, .refl _, .refl _, .refl _, trivial⟩ ⟨⟨_, rfl, .refl _⟩, ⟨_, rfl, .refl _⟩, trivial⟩)) h (Nat.lt_succ_self _)
      ·
        replace h := ite_fb hc2 h
        refine AWp.exit ?_
        refine thenQ_exit ?_
        refine thenQ_exit ?_
        refine blockQ_same ?_
        exact joinQ_normal (l4) (Le.mk (s := ⟨44, [(1, .ptr 1 0), (5, .int .i64 ((1 : Int) + (x1 % (6 : Int)))), (6, .own 5006), (7, .int .i64 ((n3 : Nat) : Int)), (23, .bool (decide (((n3 : Nat) : Int) < (((x2).length : Nat) : Int))))], [(1, .cells 39 [.int .u8 x1, vL 1 eW 0#16 x2]), (5006, bL 28 1 eW 0#16 l4)], [], 0⟩) (s' := ⟨44, [(5, .int .i64 ((1 : Int) + (x1 % (6 : Int)))), (6, .own 5006)], [(5006, bL 28 1 eW 0#16 l4)], [], 0⟩) rfl rfl ⟨.refl _, .refl _, trivial⟩ ⟨⟨_, rfl, .refl _⟩, trivial⟩) h
    ·
      rintro l6 h
      replace h := (congrFun hK1 _).symm.trans h
      refine AWp.seq ?_
      obtain ⟨r7, hr7, h⟩ := bind_ok h
      refine AWp.regC [] [(1, ⟨[vL 1 eW 0#16 l6], [], [], [(6001, bL 28 1 eW 0#16 r7)], .own 6001, [6001], [5006], []⟩)] [2, 3, 4] [6001] ⟨44, [(2, .own 6001), (3, .int .i64 ((1 : Int) + (x1 % (6 : Int)))), (4, .bool true)], [(6001, bL 28 1 eW 0#16 r7)], [], 0⟩ ((callP Tryd.prog true 45 [] [] [] [(5006, bL 28 1 eW 0#16 l6)] [5006] [.own 5006] [vL 1 eW 0#16 l6] (.own 6001) [(6001, bL 28 1 eW 0#16 r7)]) ∧ True) Tryd_mixed (by kernel_rfl) ⟨⟨fun _ => (Spec1.ren (swapN 3000 6001) (swapN_inv 3000 6001) rfl (f45_ok l6 r7 hr7)), fun _ => ⟨.refl _, trivial⟩, .inr ⟨rfl, ⟨(fun _ _ _ _ => eW_flat _ _), trivial⟩⟩⟩, trivial⟩ ?_
      refine thenQ_normal ?_
      refine AWp.le (Le.trans (Le.ren (s := ⟨44, [(2, .own 6001), (3, .int .i64 ((1 : Int) + (x1 % (6 : Int)))), (4, .bool true)], [(6001, bL 28 1 eW 0#16 r7)], [], 0⟩) (swapN 6001 3000) (swapN_inv 6001 3000) rfl) (Le.mk (s' := ⟨44, [(2, .own 3000), (3, .int .i64 ((1 : Int) + (x1 % (6 : Int)))), (4, .bool true)], [(3000, bL 28 1 eW 0#16 r7)], [], 0⟩) rfl rfl ⟨.refl _, .refl _, .refl _, trivial⟩ ⟨⟨_, rfl, .refl _⟩, trivial⟩)) ?_
      have hret := Option.some.inj h
      subst hret
      refine AWp.le (Le.mk (s := ⟨44, [(2, .own 3000), (3, .int .i64 ((1 : Int) + (x1 % (6 : Int)))), (4, .bool true)], [(3000, bL 28 1 eW 0#16 r7)], [], 0⟩) (s' := ⟨44, [(2, .own 3000), (3, .int .i64 ((1 : Int) + (x1 % (6 : Int)))), (4, .bool true)], [(3000, bL 28 1 eW 0#16 r7)], [], 0⟩) rfl rfl ⟨.refl _, .refl _, .refl _, trivial⟩ ⟨⟨_, rfl, .refl _⟩, trivial⟩) ?_
      refine AWp.ret ?_
      exact bodyQ_ret _ rfl ⟨rfl, rfl⟩ rfl
def f7 (x1 : Int) (x2 : List (BitVec 16)) (x3 : Int) (x4 : List (BitVec 16)) (x5 : Int) (x6 : List (BitVec 16)) : Option Bool :=
  (f28 x1 x2).bind fun (r7 : Int × Bool × List (BitVec 16)) =>
  (f28 x3 x4).bind fun (r8 : Int × Bool × List (BitVec 16)) =>
  (f28 x5 x6).bind fun (r9 : Int × Bool × List (BitVec 16)) =>
  (f10 ).bind fun (r10 : Bool) =>
  if ((((!r10) || (!r7.2.1)) || (!r8.2.1)) || (!r9.2.1)) then (
  (f10 ).bind fun (r11 : Bool) =>
  some r11
  ) else (
  (f21 r7.2.2 r8.2.2).bind fun (r12 : List (BitVec 16) × Int) =>
  (f21 r8.2.2 r7.2.2).bind fun (r13 : List (BitVec 16) × Int) =>
  (f19 r8.2.2 r9.2.2).bind fun (r14 : List (BitVec 16) × Int) =>
  (f21 r7.2.2 r14.1).bind fun (r15 : List (BitVec 16) × Int) =>
  (f21 r7.2.2 r9.2.2).bind fun (r16 : List (BitVec 16) × Int) =>
  (f19 r12.1 r16.1).bind fun (r17 : List (BitVec 16) × Int) =>
  (f21 r8.2.2 r9.2.2).bind fun (r18 : List (BitVec 16) × Int) =>
  (f21 r12.1 r9.2.2).bind fun (r19 : List (BitVec 16) × Int) =>
  (f21 r7.2.2 r18.1).bind fun (r20 : List (BitVec 16) × Int) =>
  optc ((((((((((r12.2 == (0 : Int)) && (r13.2 == (0 : Int))) && (r14.2 == (0 : Int))) && (r15.2 == (0 : Int))) && (r16.2 == (0 : Int))) && (r17.2 == (0 : Int))) && (r18.2 == (0 : Int))) && (r19.2 == (0 : Int))) && (r20.2 == (0 : Int))) == true) (f18 r12.1 r13.1) fun (r21 : Bool) =>
  optc (((((((((((r12.2 == (0 : Int)) && (r13.2 == (0 : Int))) && (r14.2 == (0 : Int))) && (r15.2 == (0 : Int))) && (r16.2 == (0 : Int))) && (r17.2 == (0 : Int))) && (r18.2 == (0 : Int))) && (r19.2 == (0 : Int))) && (r20.2 == (0 : Int))) && r21) == true) (f18 r15.1 r17.1) fun (r22 : Bool) =>
  optc ((((((((((((r12.2 == (0 : Int)) && (r13.2 == (0 : Int))) && (r14.2 == (0 : Int))) && (r15.2 == (0 : Int))) && (r16.2 == (0 : Int))) && (r17.2 == (0 : Int))) && (r18.2 == (0 : Int))) && (r19.2 == (0 : Int))) && (r20.2 == (0 : Int))) && r21) && r22) == true) (f18 r19.1 r20.1) fun (r23 : Bool) =>
  some ((((((((((((r12.2 == (0 : Int)) && (r13.2 == (0 : Int))) && (r14.2 == (0 : Int))) && (r15.2 == (0 : Int))) && (r16.2 == (0 : Int))) && (r17.2 == (0 : Int))) && (r18.2 == (0 : Int))) && (r19.2 == (0 : Int))) && (r20.2 == (0 : Int))) && r21) && r22) && r23)
  )
end Go.Abs
