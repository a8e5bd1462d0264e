/- X08, part 2. -/
import Derived.Test.YtncjecbhohcfoaaDoorX08P1
namespace Go.Abs
open Go Go.Proofs
set_option maxHeartbeats 4000000
set_option maxRecDepth 100000 in
theorem f18_ok  (x1 : List (BitVec 16)) (x2 : List (BitVec 16)) (r : Bool) (h : f18 x1 x2 = some r)  : Spec1 Tryd.prog 18 [] [] [] [vL 1 eW 0#16 x1, vL 1 eW 0#16 x2] (.bool r) [] := by
  unfold f18 at h
  refine Spec1.body 0 _ _ Tryd.func18 rfl Tryd.ntmps18 rfl rfl ?_
  refine AWp.seq ?_
  refine AWp.regC [] [] [0, 1] [] ⟨26, [(0, vL 1 eW 0#16 x1), (1, vL 1 eW 0#16 x2)], [], [], 0⟩ (True) Tryd_mixed (by kernel_rfl) trivial ?_
  refine thenQ_normal ?_
  refine AWp.seq ?_
  refine AWp.seq ?_
  refine AWp.regC [] [] [0, 1, 10] [] ⟨26, [(0, vL 1 eW 0#16 x1), (1, vL 1 eW 0#16 x2), (10, .bool ((((x1).length : Nat) : Int) != (((x2).length : Nat) : Int)))], [], [], 0⟩ (True) Tryd_mixed (by kernel_rfl) trivial ?_
  refine thenQ_normal ?_
  refine AWp.cond (b := ((((x1).length : Nat) : Int) != (((x2).length : Nat) : Int))) (by kernel_rfl) (fun hc1 => ?_) (fun hc1 => ?_)
  ·
    replace h := ite_tb hc1 h
    refine AWp.seq ?_
    refine AWp.regC [] [] [4] [] ⟨26, [(4, .bool false)], [], [], 0⟩ (True) Tryd_mixed (by kernel_rfl) trivial ?_
    refine thenQ_normal ?_
    have hret := Option.some.inj h
    subst hret
    refine AWp.le (Le.mk (s := ⟨26, [(4, .bool false)], [], [], 0⟩) (s' := ⟨26, [(4, .bool false)], [], [], 0⟩) rfl rfl ⟨.refl _, trivial⟩ trivial) ?_
    refine AWp.ret ?_
    refine thenQ_ret ?_
    exact bodyQ_ret _ rfl ⟨rfl, rfl⟩ rfl
  ·
    replace h := ite_fb hc1 h
    refine AWp.skip ?_
    refine thenQ_normal ?_
    obtain ⟨K1, hK1, h⟩ := jn_some h
    refine AWp.join (α := Unit) (fun (x : Unit) => match x with | () => ⟨26, [], [], [], 0⟩) (fun x => K1 x = some r) ?_ ?_
    ·
      refine AWp.seq ?_
      refine AWp.regC [] [] [0, 1, 12, 13] [] ⟨26, [(0, vL 1 eW 0#16 x1), (1, vL 1 eW 0#16 x2), (12, .int .i64 (((x1).length : Nat) : Int)), (13, .int .i64 (0 : Int))], [], [], 0⟩ (True) Tryd_mixed (by kernel_rfl) trivial ?_
      refine thenQ_normal ?_
      refine AWp.block ?_
      refine AWp.loopL (α := Nat × Nat) (fun x => match x with | (_, n3) => ⟨26, [(0, vL 1 eW 0#16 x1), (1, vL 1 eW 0#16 x2), (12, .int .i64 (((x1).length : Nat) : Int)), (13, .int .i64 ((n3 : Nat) : Int))], [], [], 0⟩) (fun x => f18_L0 x1 x2 K1 x.1 x.2 = some r) (fun x => x.1) (FUEL, 0) (Le.mk (s := ⟨26, [(0, vL 1 eW 0#16 x1), (1, vL 1 eW 0#16 x2), (12, .int .i64 (((x1).length : Nat) : Int)), (13, .int .i64 (0 : Int))], [], [], 0⟩) (s' := ⟨26, [(0, vL 1 eW 0#16 x1), (1, vL 1 eW 0#16 x2), (12, .int .i64 (((x1).length : Nat) : Int)), (13, .int .i64 (0 : Int))], [], [], 0⟩) rfl rfl ⟨.refl _, .refl _, .refl _, .refl _, trivial⟩ trivial) h ?_
      rintro ⟨k0, n3⟩ h
      cases k0 with
      | zero => exact nomatch (show (none : Option Bool) = some r from h)
      | succ k0 =>
      obtain ⟨C0, hC0⟩ : ∃ C, C = f18_L0 x1 x2 K1 k0 := ⟨_, rfl⟩
      replace h := (f18_L0.eq_2 ..).symm.trans h
      try rw [← hC0] at h
      refine AWp.seq ?_
      refine AWp.regC [] [] [0, 1, 12, 13, 14] [] ⟨26, [(0, vL 1 eW 0#16 x1), (1, vL 1 eW 0#16 x2), (12, .int .i64 (((x1).length : Nat) : Int)), (13, .int .i64 ((n3 : Nat) : Int)), (14, .bool (decide (((n3 : Nat) : Int) < (((x1).length : Nat) : Int))))], [], [], 0⟩ (True) Tryd_mixed (by kernel_rfl) trivial ?_
      refine thenQ_normal ?_
      refine AWp.seq ?_
      refine AWp.cond (b := (decide (((n3 : Nat) : Int) < (((x1).length : Nat) : Int)))) (by kernel_rfl) (fun hc2 => ?_) (fun hc2 => ?_)
      ·
        replace h := ite_tb hc2 h
        refine AWp.skip ?_
        refine thenQ_normal ?_
        refine AWp.seq ?_
        refine AWp.block ?_
        refine AWp.seq ?_
        refine AWp.regC [] [] [0, 1, 5, 12, 13] [] ⟨26, [(0, vL 1 eW 0#16 x1), (1, vL 1 eW 0#16 x2), (5, .int .i64 ((n3 : Nat) : Int)), (12, .int .i64 (((x1).length : Nat) : Int)), (13, .int .i64 ((n3 : Nat) : Int))], [], [], 0⟩ (True) Tryd_mixed (by kernel_rfl) trivial ?_
        refine thenQ_normal ?_
        refine AWp.seq ?_
        obtain ⟨ob0p, h⟩ := chk_some h
        have ob0 : 0 ≤ ((n3 : Nat) : Int) ∧ ((n3 : Nat) : Int) < (((x1).length : Nat) : Int) := ⟨by omega, ob0p⟩
        obtain ⟨ob1p, h⟩ := chk_some h
        have ob1 : 0 ≤ ((n3 : Nat) : Int) ∧ ((n3 : Nat) : Int) < (((x2).length : Nat) : Int) := ⟨by omega, ob1p⟩
        refine AWp.regC [] [] [0, 1, 12, 13, 24] [] ⟨26, [(0, vL 1 eW 0#16 x1), (1, vL 1 eW 0#16 x2), (12, .int .i64 (((x1).length : Nat) : Int)), (13, .int .i64 ((n3 : Nat) : Int)), (24, .bool (!((x1.getD n3 0#16) == (x2.getD n3 0#16))))], [], [], 0⟩ ((0 ≤ ((n3 : Nat) : Int) ∧ ((n3 : Nat) : Int) < (((x1).length : Nat) : Int)) ∧ (0 ≤ ((n3 : Nat) : Int) ∧ ((n3 : Nat) : Int) < (((x2).length : Nat) : Int)) ∧ True) Tryd_mixed (by kernel_rfl) ⟨ob0, ob1, trivial⟩ ?_
        refine thenQ_normal ?_
        refine AWp.cond (b := (!((x1.getD n3 0#16) == (x2.getD n3 0#16)))) (by kernel_rfl) (fun hc3 => ?_) (fun hc3 => ?_)
        ·
          replace h := ite_tb hc3 h
          refine AWp.seq ?_
          refine AWp.regC [] [] [4] [] ⟨26, [(4, .bool false)], [], [], 0⟩ (True) Tryd_mixed (by kernel_rfl) trivial ?_
          refine thenQ_normal ?_
          have hret := Option.some.inj h
          subst hret
          refine AWp.le (Le.mk (s := ⟨26, [(4, .bool false)], [], [], 0⟩) (s' := ⟨26, [(4, .bool false)], [], [], 0⟩) rfl rfl ⟨.refl _, trivial⟩ trivial) ?_
          refine AWp.ret ?_
          refine blockQ_ret ?_
          refine thenQ_ret ?_
          refine thenQ_ret ?_
          refine blockQ_ret ?_
          refine joinQ_ret ?_
          exact bodyQ_ret _ rfl ⟨rfl, rfl⟩ rfl
        ·
          replace h := ite_fb hc3 h
          refine AWp.skip ?_
          refine blockQ_normal ?_
          refine thenQ_normal ?_
          obtain ⟨ob2p, h⟩ := chk_some h
          have ob2 : -9223372036854775808 ≤ (((n3 : Nat) : Int) + (1 : Int)) ∧ (((n3 : Nat) : Int) + (1 : Int)) ≤ 9223372036854775807 := ⟨by omega, ob2p⟩
          refine AWp.regC [] [] [0, 1, 12, 13] [] ⟨26, [(0, vL 1 eW 0#16 x1), (1, vL 1 eW 0#16 x2), (12, .int .i64 (((x1).length : Nat) : Int)), (13, .int .i64 (((n3 + 1) : Nat) : Int))], [], [], 0⟩ ((-9223372036854775808 ≤ (((n3 : Nat) : Int) + (1 : Int)) ∧ (((n3 : Nat) : Int) + (1 : Int)) ≤ 9223372036854775807) ∧ True) Tryd_mixed (by kernel_rfl) ⟨ob2, trivial⟩ ?_
          rw [hC0] at h
          exact loopQ_normal (_, (n3 + 1)) (Le.mk (s := ⟨26, [(0, vL 1 eW 0#16 x1), (1, vL 1 eW 0#16 x2), (12, .int .i64 (((x1).length : Nat) : Int)), (13, .int .i64 (((n3 + 1) : Nat) : Int))], [], [], 0⟩) (s' := ⟨26, [(0, vL 1 eW 0#16 x1), (1, vL 1 eW 0#16 x2), (12, .int .i64 (((x1).length : Nat) : Int)), (13, .int .i64 (((n3 + 1) : Nat) : Int))], [], [], 0⟩) rfl rfl ⟨.refl _, .refl _, .refl _, .refl _, trivial⟩ trivial) h (Nat.lt_succ_self _)
      ·
        replace h := ite_fb hc2 h
        refine AWp.exit ?_
        refine thenQ_exit ?_
        refine thenQ_exit ?_
        refine blockQ_same ?_
        exact joinQ_normal () (Le.mk (s := ⟨26, [(0, vL 1 eW 0#16 x1), (1, vL 1 eW 0#16 x2), (12, .int .i64 (((x1).length : Nat) : Int)), (13, .int .i64 ((n3 : Nat) : Int)), (14, .bool (decide (((n3 : Nat) : Int) < (((x1).length : Nat) : Int))))], [], [], 0⟩) (s' := ⟨26, [], [], [], 0⟩) rfl rfl trivial trivial) h
    ·
      rintro ⟨⟩ h
      replace h := (congrFun hK1 _).symm.trans h
      refine AWp.seq ?_
      refine AWp.regC [] [] [4] [] ⟨26, [(4, .bool true)], [], [], 0⟩ (True) Tryd_mixed (by kernel_rfl) trivial ?_
      refine thenQ_normal ?_
      have hret := Option.some.inj h
      subst hret
      refine AWp.le (Le.mk (s := ⟨26, [(4, .bool true)], [], [], 0⟩) (s' := ⟨26, [(4, .bool true)], [], [], 0⟩) rfl rfl ⟨.refl _, trivial⟩ trivial) ?_
      refine AWp.ret ?_
      exact bodyQ_ret _ rfl ⟨rfl, rfl⟩ rfl
def f87 (x1 : BitVec 16) : Option Int :=
  if (x1 == (BitVec.ofInt 16 0)) then (
  some (16 : Int)
  ) else (
  chk (27 ≤ IntKind.bits .u32) <|
  chk (0 ≤ ((IntKind.wrap .u32 ((((x1 &&& (-x1)).toNat : Nat) : Int) * (125613361 : Int))) / 2 ^ 27) ∧ ((IntKind.wrap .u32 ((((x1 &&& (-x1)).toNat : Nat) : Int) * (125613361 : Int))) / 2 ^ 27) < 32) <|
  chk ((((T0.getD (0 + ((((IntKind.wrap .u32 ((((x1 &&& (-x1)).toNat : Nat) : Int) * (125613361 : Int))) / 2 ^ 27)).toNat) * 1 + 0) 0) : Nat) : Int) ≤ 9223372036854775807) <|
  some (((T0.getD (0 + ((((IntKind.wrap .u32 ((((x1 &&& (-x1)).toNat : Nat) : Int) * (125613361 : Int))) / 2 ^ 27)).toNat) * 1 + 0) 0) : Nat) : Int)
  )
set_option maxRecDepth 100000 in
theorem f87_ok  (x1 : BitVec 16) (r : Int) (h : f87 x1 = some r)  : Spec1 Tryd.prog 87 [(0, .elem 32 1 T0F 0 0)] [] [] [.b16 x1] (.int .i64 r) [] := by
  unfold f87 at h
  refine Spec1.body 0 _ _ Tryd.func87 rfl Tryd.ntmps87 rfl rfl ?_
  refine AWp.seq ?_
  refine AWp.regC [10] [] [0, 1000000] [] ⟨15, [(0, .b16 x1), (1000000, .elem 32 1 T0F 0 0)], [], [], 0⟩ (True) Tryd_mixed (by kernel_rfl) trivial ?_
  refine thenQ_normal ?_
  refine AWp.seq ?_
  refine AWp.seq ?_
  refine AWp.regC [10] [] [0, 4, 1000000] [] ⟨15, [(0, .b16 x1), (4, .bool (x1 == (BitVec.ofInt 16 0))), (1000000, .elem 32 1 T0F 0 0)], [], [], 0⟩ (True) Tryd_mixed (by kernel_rfl) trivial ?_
  refine thenQ_normal ?_
  refine AWp.cond (b := (x1 == (BitVec.ofInt 16 0))) (by kernel_rfl) (fun hc1 => ?_) (fun hc1 => ?_)
  ·
    replace h := ite_tb hc1 h
    refine AWp.seq ?_
    refine AWp.regC [10] [] [2, 1000000] [] ⟨15, [(2, .int .i64 (16 : Int)), (1000000, .elem 32 1 T0F 0 0)], [], [], 0⟩ (True) Tryd_mixed (by kernel_rfl) trivial ?_
    refine thenQ_normal ?_
    have hret := Option.some.inj h
    subst hret
    refine AWp.le (Le.mk (s := ⟨15, [(2, .int .i64 (16 : Int)), (1000000, .elem 32 1 T0F 0 0)], [], [], 0⟩) (s' := ⟨15, [(2, .int .i64 (16 : Int))], [], [], 0⟩) rfl rfl ⟨.refl _, trivial⟩ trivial) ?_
    refine AWp.ret ?_
    refine thenQ_ret ?_
    exact bodyQ_ret _ rfl ⟨rfl, rfl⟩ rfl
  ·
    replace h := ite_fb hc1 h
    refine AWp.skip ?_
    refine thenQ_normal ?_
    refine AWp.seq ?_
    have ob0 : 0 ≤ (((x1 &&& (-x1)).toNat : Nat) : Int) ∧ (((x1 &&& (-x1)).toNat : Nat) : Int) ≤ 4294967295 := ⟨by omega, by (have := ((x1 &&& (-x1)) : BitVec 16).isLt; omega)⟩
    obtain ⟨ob1p, h⟩ := chk_some h
    have ob1 : 0 ≤ (27 : Int) ∧ 27 ≤ IntKind.bits .u32 := ⟨by omega, ob1p⟩
    obtain ⟨ob2, h⟩ := chk_some h
    obtain ⟨ob3p, h⟩ := chk_some h
    have ob3 : -9223372036854775808 ≤ (((T0.getD (0 + ((((IntKind.wrap .u32 ((((x1 &&& (-x1)).toNat : Nat) : Int) * (125613361 : Int))) / 2 ^ 27)).toNat) * 1 + 0) 0) : Nat) : Int) ∧ (((T0.getD (0 + ((((IntKind.wrap .u32 ((((x1 &&& (-x1)).toNat : Nat) : Int) * (125613361 : Int))) / 2 ^ 27)).toNat) * 1 + 0) 0) : Nat) : Int) ≤ 9223372036854775807 := ⟨by omega, ob3p⟩
    refine AWp.regC [10] [] [2, 1000000] [] ⟨15, [(2, .int .i64 (((T0.getD (0 + ((((IntKind.wrap .u32 ((((x1 &&& (-x1)).toNat : Nat) : Int) * (125613361 : Int))) / 2 ^ 27)).toNat) * 1 + 0) 0) : Nat) : Int)), (1000000, .elem 32 1 T0F 0 0)], [], [], 0⟩ ((True) ∧ (0 ≤ (((x1 &&& (-x1)).toNat : Nat) : Int) ∧ (((x1 &&& (-x1)).toNat : Nat) : Int) ≤ 4294967295) ∧ (True) ∧ (0 ≤ (27 : Int) ∧ 27 ≤ IntKind.bits .u32) ∧ (0 ≤ ((IntKind.wrap .u32 ((((x1 &&& (-x1)).toNat : Nat) : Int) * (125613361 : Int))) / 2 ^ 27) ∧ ((IntKind.wrap .u32 ((((x1 &&& (-x1)).toNat : Nat) : Int) * (125613361 : Int))) / 2 ^ 27) < 32) ∧ (-9223372036854775808 ≤ (((T0.getD (0 + ((((IntKind.wrap .u32 ((((x1 &&& (-x1)).toNat : Nat) : Int) * (125613361 : Int))) / 2 ^ 27)).toNat) * 1 + 0) 0) : Nat) : Int) ∧ (((T0.getD (0 + ((((IntKind.wrap .u32 ((((x1 &&& (-x1)).toNat : Nat) : Int) * (125613361 : Int))) / 2 ^ 27)).toNat) * 1 + 0) 0) : Nat) : Int) ≤ 9223372036854775807) ∧ True) Tryd_mixed (by kernel_rfl) ⟨trivial, ob0, trivial, ob1, ob2, ob3, trivial⟩ ?_
    refine thenQ_normal ?_
    have hret := Option.some.inj h
    subst hret
    refine AWp.le (Le.mk (s := ⟨15, [(2, .int .i64 (((T0.getD (0 + ((((IntKind.wrap .u32 ((((x1 &&& (-x1)).toNat : Nat) : Int) * (125613361 : Int))) / 2 ^ 27)).toNat) * 1 + 0) 0) : Nat) : Int)), (1000000, .elem 32 1 T0F 0 0)], [], [], 0⟩) (s' := ⟨15, [(2, .int .i64 (((T0.getD (0 + ((((IntKind.wrap .u32 ((((x1 &&& (-x1)).toNat : Nat) : Int) * (125613361 : Int))) / 2 ^ 27)).toNat) * 1 + 0) 0) : Nat) : Int))], [], [], 0⟩) rfl rfl ⟨.refl _, trivial⟩ trivial) ?_
    refine AWp.ret ?_
    exact bodyQ_ret _ rfl ⟨rfl, rfl⟩ rfl
def f76_L0 (K1 : (List Int) → Option (List Int)) : Nat → (BitVec 16 × List Int) → Option (List Int)
  | 0, _ => none
  | k + 1, (w2, l3) =>
    if (!(w2 == (BitVec.ofInt 16 0))) then (
    (f87 w2).bind fun (r4 : Int) =>
    chk (((l3).length + 1) * 8 ≤ 140737488355328) <|
    (f76_L0 K1 k) ((w2 &&& (w2 - (BitVec.ofInt 16 1))), (l3 ++ [r4]))
    ) else (
    K1 l3
    )
def f76 (x1 : BitVec 16) : Option (List Int) :=
  jn (fun (l5 : List Int) =>
  some l5
  ) fun (K1 : (List Int) → Option (List Int)) =>
  f76_L0 K1 FUEL (x1, [])
set_option maxRecDepth 100000 in
theorem f76_ok  (x1 : BitVec 16) (r : List Int) (h : f76 x1 = some r)  : Spec1 Tryd.prog 76 [(0, .elem 32 1 T0F 0 0)] [] [] [.b16 x1] (.own 3000) [(3000, bL 3 1 eI 0 r)] := by
  unfold f76 at h
  refine Spec1.body 0 _ _ Tryd.func76 rfl Tryd.ntmps76 rfl rfl ?_
  refine AWp.seq ?_
  refine AWp.regC [] [] [0, 1000000] [] ⟨16, [(0, .b16 x1), (1000000, .elem 32 1 T0F 0 0)], [], [], 0⟩ (True) Tryd_mixed (by kernel_rfl) trivial ?_
  refine thenQ_normal ?_
  refine AWp.seq ?_
  refine AWp.regC [] [] [0, 3, 1000000] [] ⟨16, [(0, .b16 x1), (3, .nils), (1000000, .elem 32 1 T0F 0 0)], [], [], 0⟩ (True) Tryd_mixed (by kernel_rfl) trivial ?_
  refine thenQ_normal ?_
  obtain ⟨K1, hK1, h⟩ := jn_some h
  refine AWp.join (α := List Int) (fun (l5 : List Int) => ⟨16, [(3, .own 5003), (1000000, .elem 32 1 T0F 0 0)], [(5003, bL 3 1 eI 0 l5)], [], 0⟩) (fun x => K1 x = some r) ?_ ?_
  ·
    refine AWp.block ?_
    refine AWp.loopL (α := Nat × (BitVec 16 × List Int)) (fun x => match x with | (_, w2, l3) => ⟨16, [(0, .b16 w2), (3, .own 5003), (1000000, .elem 32 1 T0F 0 0)], [(5003, bL 3 1 eI 0 l3)], [], 0⟩) (fun x => f76_L0 K1 x.1 x.2 = some r) (fun x => x.1) (FUEL, x1, []) (Le.trans (Le.trans (Le.nilOwn (s := ⟨16, [(0, .b16 x1), (3, .nils), (1000000, .elem 32 1 T0F 0 0)], [], [], 0⟩) 3 5003 3 1 (encF eI 0 []) rfl rfl (Nat.le_of_ble_eq_true rfl)) (Le.mk (s' := ⟨16, [(0, .b16 x1), (3, .own 5003), (1000000, .elem 32 1 T0F 0 0)], [(5003, bL 3 1 eI 0 [])], [], 0⟩) rfl rfl ⟨.refl _, .refl _, .refl _, trivial⟩ ⟨⟨_, rfl, .refl _⟩, trivial⟩)) (Le.mk (s := ⟨16, [(0, .b16 x1), (3, .own 5003), (1000000, .elem 32 1 T0F 0 0)], [(5003, bL 3 1 eI 0 [])], [], 0⟩) (s' := ⟨16, [(0, .b16 x1), (3, .own 5003), (1000000, .elem 32 1 T0F 0 0)], [(5003, bL 3 1 eI 0 [])], [], 0⟩) rfl rfl ⟨.refl _, .refl _, .refl _, trivial⟩ ⟨⟨_, rfl, .refl _⟩, trivial⟩)) h ?_
    rintro ⟨k0, w2, l3⟩ h
    cases k0 with
    | zero => exact nomatch (show (none : Option (List Int)) = some r from h)
    | succ k0 =>
    obtain ⟨C0, hC0⟩ : ∃ C, C = f76_L0 K1 k0 := ⟨_, rfl⟩
    replace h := (f76_L0.eq_2 ..).symm.trans h
    try rw [← hC0] at h
    refine AWp.seq ?_
    refine AWp.seq ?_
    refine AWp.regC [] [] [0, 3, 5, 1000000] [5003] ⟨16, [(0, .b16 w2), (3, .own 5003), (5, .bool (!(w2 == (BitVec.ofInt 16 0)))), (1000000, .elem 32 1 T0F 0 0)], [(5003, bL 3 1 eI 0 l3)], [], 0⟩ (True) Tryd_mixed (by kernel_rfl) trivial ?_
    refine thenQ_normal ?_
    refine AWp.cond (b := (!(w2 == (BitVec.ofInt 16 0)))) (by kernel_rfl) (fun hc1 => ?_) (fun hc1 => ?_)
    ·
      replace h := ite_tb hc1 h
      refine AWp.skip ?_
      refine thenQ_normal ?_
      refine AWp.seq ?_
      refine AWp.block ?_
      obtain ⟨r4, hr4, h⟩ := bind_ok h
      obtain ⟨ob0, h⟩ := chk_some h
      refine AWp.regC [] [(2, ⟨[.b16 w2], [], [], [], .int .i64 r4, [], [], [0]⟩)] [0, 3, 1000000] [5003] ⟨16, [(0, .b16 w2), (3, .own 5003), (1000000, .elem 32 1 T0F 0 0)], [(5003, .rows 3 1 ((l3).length + 1) (appF (l3).length (encF eI 0 l3) (lstF 1 [.int .i64 r4])))], [], 0⟩ ((callP Tryd.prog true 87 [(0, .elem 32 1 T0F 0 0)] [] [] [] [] [.b16 w2] [.b16 w2] (.int .i64 r4) []) ∧ (((l3).length + 1) * 8 ≤ 140737488355328) ∧ True) Tryd_mixed (by kernel_rfl) ⟨⟨fun _ => (f87_ok w2 r4 hr4), fun _ => ⟨.refl _, trivial⟩, .inl rfl⟩, ob0, trivial⟩ ?_
      refine blockQ_normal ?_
      refine thenQ_normal ?_
      refine AWp.le (Le.mk (s := ⟨16, [(0, .b16 w2), (3, .own 5003), (1000000, .elem 32 1 T0F 0 0)], [(5003, .rows 3 1 ((l3).length + 1) (appF (l3).length (encF eI 0 l3) (lstF 1 [.int .i64 r4])))], [], 0⟩) (s' := ⟨16, [(0, .b16 w2), (3, .own 5003), (1000000, .elem 32 1 T0F 0 0)], [(5003, bL 3 1 eI 0 (l3 ++ [r4]))], [], 0⟩) rfl rfl ⟨.refl _, .refl _, .refl _, trivial⟩ ⟨⟨_, rfl, (BLe.of (RL.app (RL.self _) (RL.lst (enc := eI) [r4] rfl rfl (fun _ => rfl))))⟩, trivial⟩) ?_
      refine AWp.regC [] [] [0, 3, 1000000] [5003] ⟨16, [(0, .b16 (w2 &&& (w2 - (BitVec.ofInt 16 1)))), (3, .own 5003), (1000000, .elem 32 1 T0F 0 0)], [(5003, bL 3 1 eI 0 (l3 ++ [r4]))], [], 0⟩ ((True) ∧ True) Tryd_mixed (by kernel_rfl) ⟨trivial, trivial⟩ ?_
      rw [hC0] at h
      exact loopQ_normal (_, (w2 &&& (w2 - (BitVec.ofInt 16 1))), (l3 ++ [r4])) (Le.mk (s := ⟨16, [(0, .b16 (w2 &&& (w2 - (BitVec.ofInt 16 1)))), (3, .own 5003), (1000000, .elem 32 1 T0F 0 0)], [(5003, bL 3 1 eI 0 (l3 ++ [r4]))], [], 0⟩) (s' := ⟨16, [(0, .b16 (w2 &&& (w2 - (BitVec.ofInt 16 1)))), (3, .own 5003), (1000000, .elem 32 1 T0F 0 0)], [(5003, bL 3 1 eI 0 (l3 ++ [r4]))], [], 0⟩) rfl rfl ⟨.refl _, .refl _, .refl _, trivial⟩ ⟨⟨_, rfl, .refl _⟩, trivial⟩) h (Nat.lt_succ_self _)
    ·
      replace h := ite_fb hc1 h
      refine AWp.exit ?_
      refine thenQ_exit ?_
      refine thenQ_exit ?_
      refine blockQ_same ?_
      exact joinQ_normal (l3) (Le.mk (s := ⟨16, [(0, .b16 w2), (3, .own 5003), (5, .bool (!(w2 == (BitVec.ofInt 16 0)))), (1000000, .elem 32 1 T0F 0 0)], [(5003, bL 3 1 eI 0 l3)], [], 0⟩) (s' := ⟨16, [(3, .own 5003), (1000000, .elem 32 1 T0F 0 0)], [(5003, bL 3 1 eI 0 l3)], [], 0⟩) rfl rfl ⟨.refl _, .refl _, trivial⟩ ⟨⟨_, rfl, .refl _⟩, trivial⟩) h
  ·
    rintro l5 h
    replace h := (congrFun hK1 _).symm.trans h
    refine AWp.seq ?_
    refine AWp.regC [] [] [2, 1000000] [5003] ⟨16, [(2, .own 5003), (1000000, .elem 32 1 T0F 0 0)], [(5003, bL 3 1 eI 0 l5)], [], 0⟩ (True) Tryd_mixed (by kernel_rfl) trivial ?_
    refine thenQ_normal ?_
    refine AWp.le (Le.trans (Le.ren (s := ⟨16, [(2, .own 5003), (1000000, .elem 32 1 T0F 0 0)], [(5003, bL 3 1 eI 0 l5)], [], 0⟩) (swapN 5003 3000) (swapN_inv 5003 3000) rfl) (Le.mk (s' := ⟨16, [(2, .own 3000), (1000000, .elem 32 1 T0F 0 0)], [(3000, bL 3 1 eI 0 l5)], [], 0⟩) rfl rfl ⟨.refl _, .refl _, trivial⟩ ⟨⟨_, rfl, .refl _⟩, trivial⟩)) ?_
    have hret := Option.some.inj h
    subst hret
    refine AWp.le (Le.mk (s := ⟨16, [(2, .own 3000), (1000000, .elem 32 1 T0F 0 0)], [(3000, bL 3 1 eI 0 l5)], [], 0⟩) (s' := ⟨16, [(2, .own 3000)], [(3000, bL 3 1 eI 0 l5)], [], 0⟩) rfl rfl ⟨.refl _, trivial⟩ ⟨⟨_, rfl, .refl _⟩, trivial⟩) ?_
    refine AWp.ret ?_
    exact bodyQ_ret _ rfl ⟨rfl, rfl⟩ rfl
def f106 (x1 : Int) : Option (List UInt8) :=
  if (decide (x1 < (10 : Int))) then (
  chk (-9223372036854775808 ≤ (x1 + (1 : Int)) ∧ (x1 + (1 : Int)) ≤ 9223372036854775807) <|
  chk (0 ≤ x1 ∧ x1 ≤ (x1 + (1 : Int)) ∧ (x1 + (1 : Int)) ≤ ((cs1.length : Nat) : Int)) <|
  some ((cs1.take (((x1 + (1 : Int))).toNat)).drop ((x1).toNat))
  ) else (
  chk (-9223372036854775808 ≤ (x1 * (2 : Int)) ∧ (x1 * (2 : Int)) ≤ 9223372036854775807) <|
  chk (-9223372036854775808 ≤ (x1 * (2 : Int)) ∧ (x1 * (2 : Int)) ≤ 9223372036854775807) <|
  chk (-9223372036854775808 ≤ ((x1 * (2 : Int)) + (2 : Int)) ∧ ((x1 * (2 : Int)) + (2 : Int)) ≤ 9223372036854775807) <|
  chk (0 ≤ (x1 * (2 : Int)) ∧ (x1 * (2 : Int)) ≤ ((x1 * (2 : Int)) + (2 : Int)) ∧ ((x1 * (2 : Int)) + (2 : Int)) ≤ ((cs2.length : Nat) : Int)) <|
  some ((cs2.take ((((x1 * (2 : Int)) + (2 : Int))).toNat)).drop (((x1 * (2 : Int))).toNat))
  )
set_option maxRecDepth 100000 in
theorem f106_ok  (x1 : Int) (r : List UInt8) (h : f106 x1 = some r)  : Spec1 Tryd.prog 106 [] [] [] [.int .i64 x1] (.str r) [] := by
  unfold f106 at h
  refine Spec1.body 0 _ _ Tryd.func106 rfl Tryd.ntmps106 rfl rfl ?_
  refine AWp.seq ?_
  refine AWp.regC [] [] [0] [] ⟨15, [(0, .int .i64 x1)], [], [], 0⟩ (True) Tryd_mixed (by kernel_rfl) trivial ?_
  refine thenQ_normal ?_
  refine AWp.seq ?_
  refine AWp.seq ?_
  refine AWp.regC [] [] [0, 4] [] ⟨15, [(0, .int .i64 x1), (4, .bool (decide (x1 < (10 : Int))))], [], [], 0⟩ (True) Tryd_mixed (by kernel_rfl) trivial ?_
  refine thenQ_normal ?_
  refine AWp.cond (b := (decide (x1 < (10 : Int)))) (by kernel_rfl) (fun hc1 => ?_) (fun hc1 => ?_)
  ·
    replace h := ite_tb hc1 h
    refine AWp.seq ?_
    obtain ⟨ob0, h⟩ := chk_some h
    obtain ⟨ob1, h⟩ := chk_some h
    refine AWp.regC [] [] [2] [] ⟨15, [(2, .str ((cs1.take (((x1 + (1 : Int))).toNat)).drop ((x1).toNat)))], [], [], 0⟩ ((-9223372036854775808 ≤ (x1 + (1 : Int)) ∧ (x1 + (1 : Int)) ≤ 9223372036854775807) ∧ (0 ≤ x1 ∧ x1 ≤ (x1 + (1 : Int)) ∧ (x1 + (1 : Int)) ≤ ((cs1.length : Nat) : Int)) ∧ True) Tryd_mixed (by kernel_rfl) ⟨ob0, ob1, trivial⟩ ?_
    refine thenQ_normal ?_
    have hret := Option.some.inj h
    subst hret
    refine AWp.le (Le.mk (s := ⟨15, [(2, .str ((cs1.take (((x1 + (1 : Int))).toNat)).drop ((x1).toNat)))], [], [], 0⟩) (s' := ⟨15, [(2, .str ((cs1.take (((x1 + (1 : Int))).toNat)).drop ((x1).toNat)))], [], [], 0⟩) rfl rfl ⟨.refl _, trivial⟩ trivial) ?_
    refine AWp.ret ?_
    refine thenQ_ret ?_
    exact bodyQ_ret _ rfl ⟨rfl, rfl⟩ rfl
  ·
    replace h := ite_fb hc1 h
    refine AWp.skip ?_
    refine thenQ_normal ?_
    refine AWp.seq ?_
    obtain ⟨ob2, h⟩ := chk_some h
    obtain ⟨ob3, h⟩ := chk_some h
    obtain ⟨ob4, h⟩ := chk_some h
    obtain ⟨ob5, h⟩ := chk_some h
    refine AWp.regC [] [] [2] [] ⟨15, [(2, .str ((cs2.take ((((x1 * (2 : Int)) + (2 : Int))).toNat)).drop (((x1 * (2 : Int))).toNat)))], [], [], 0⟩ ((-9223372036854775808 ≤ (x1 * (2 : Int)) ∧ (x1 * (2 : Int)) ≤ 9223372036854775807) ∧ (-9223372036854775808 ≤ (x1 * (2 : Int)) ∧ (x1 * (2 : Int)) ≤ 9223372036854775807) ∧ (-9223372036854775808 ≤ ((x1 * (2 : Int)) + (2 : Int)) ∧ ((x1 * (2 : Int)) + (2 : Int)) ≤ 9223372036854775807) ∧ (0 ≤ (x1 * (2 : Int)) ∧ (x1 * (2 : Int)) ≤ ((x1 * (2 : Int)) + (2 : Int)) ∧ ((x1 * (2 : Int)) + (2 : Int)) ≤ ((cs2.length : Nat) : Int)) ∧ True) Tryd_mixed (by kernel_rfl) ⟨ob2, ob3, ob4, ob5, trivial⟩ ?_
    refine thenQ_normal ?_
    have hret := Option.some.inj h
    subst hret
    refine AWp.le (Le.mk (s := ⟨15, [(2, .str ((cs2.take ((((x1 * (2 : Int)) + (2 : Int))).toNat)).drop (((x1 * (2 : Int))).toNat)))], [], [], 0⟩) (s' := ⟨15, [(2, .str ((cs2.take ((((x1 * (2 : Int)) + (2 : Int))).toNat)).drop (((x1 * (2 : Int))).toNat)))], [], [], 0⟩) rfl rfl ⟨.refl _, trivial⟩ trivial) ?_
    refine AWp.ret ?_
    exact bodyQ_ret _ rfl ⟨rfl, rfl⟩ rfl
def f105 (x1 : Int) : Option Int :=
  jn (fun ((i2, n3) : Int × Nat) =>
  jn (fun ((i4, n5) : Int × Nat) =>
  jn (fun ((i6, n7) : Int × Nat) =>
  chk (0 ≤ i6 ∧ i6 ≤ 255) <|
  chk (0 ≤ i6 ∧ i6 < ((cs3.length : Nat) : Int)) <|
  chk ((((cs3.getD ((i6).toNat) 0).toNat : Nat) : Int) ≤ 9223372036854775807) <|
  chk ((((n7 : Nat) : Int) + (((cs3.getD ((i6).toNat) 0).toNat : Nat) : Int)) ≤ 9223372036854775807) <|
  some (((n7 + (cs3.getD ((i6).toNat) 0).toNat) : Nat) : Int)
  ) fun (K3 : (Int × Nat) → Option Int) =>
  if (decide (i4 ≥ (256 : Int))) then (
  chk (8 ≤ IntKind.bits .u64) <|
  chk ((((n5 : Nat) : Int) + (8 : Int)) ≤ 9223372036854775807) <|
  K3 ((i4 / 2 ^ 8), (n5 + 8))
  ) else (
  K3 (i4, n5)
  )
  ) fun (K2 : (Int × Nat) → Option Int) =>
  if (decide (i2 ≥ (65536 : Int))) then (
  chk (16 ≤ IntKind.bits .u64) <|
  chk ((((n3 : Nat) : Int) + (16 : Int)) ≤ 9223372036854775807) <|
  K2 ((i2 / 2 ^ 16), (n3 + 16))
  ) else (
  K2 (i2, n3)
  )
  ) fun (K1 : (Int × Nat) → Option Int) =>
  if (decide (x1 ≥ (4294967296 : Int))) then (
  chk (32 ≤ IntKind.bits .u64) <|
  K1 ((x1 / 2 ^ 32), 32)
  ) else (
  K1 (x1, 0)
  )
set_option maxRecDepth 100000 in
theorem f105_ok  (x1 : Int) (r : Int) (h : f105 x1 = some r)  : Spec1 Tryd.prog 105 [] [] [] [.int .u64 x1] (.int .i64 r) [] := by
  unfold f105 at h
  refine Spec1.body 0 _ _ Tryd.func105 rfl Tryd.ntmps105 rfl rfl ?_
  refine AWp.seq ?_
  refine AWp.regC [] [] [0, 2] [] ⟨25, [(0, .int .u64 x1), (2, .int .i64 (0 : Int))], [], [], 0⟩ (True) Tryd_mixed (by kernel_rfl) trivial ?_
  refine thenQ_normal ?_
  obtain ⟨K1, hK1, h⟩ := jn_some h
  refine AWp.join (α := Int × Nat) (fun (x : Int × Nat) => match x with | (i2, n3) => ⟨25, [(0, .int .u64 i2), (2, .int .i64 ((n3 : Nat) : Int))], [], [], 0⟩) (fun x => K1 x = some r) ?_ ?_
  ·
    refine AWp.seq ?_
    refine AWp.regC [] [] [0, 2, 4] [] ⟨25, [(0, .int .u64 x1), (2, .int .i64 (0 : Int)), (4, .bool (decide (x1 ≥ (4294967296 : Int))))], [], [], 0⟩ (True) Tryd_mixed (by kernel_rfl) trivial ?_
    refine thenQ_normal ?_
    refine AWp.cond (b := (decide (x1 ≥ (4294967296 : Int)))) (by kernel_rfl) (fun hc1 => ?_) (fun hc1 => ?_)
    ·
      replace h := ite_tb hc1 h
      refine AWp.seq ?_
      obtain ⟨ob0p, h⟩ := chk_some h
      have ob0 : 0 ≤ (32 : Int) ∧ 32 ≤ IntKind.bits .u64 := ⟨by omega, ob0p⟩
      refine AWp.regC [] [] [0] [] ⟨25, [(0, .int .u64 (x1 / 2 ^ 32))], [], [], 0⟩ ((0 ≤ (32 : Int) ∧ 32 ≤ IntKind.bits .u64) ∧ True) Tryd_mixed (by kernel_rfl) ⟨ob0, trivial⟩ ?_
      refine thenQ_normal ?_
      refine AWp.regC [] [] [0, 2] [] ⟨25, [(0, .int .u64 (x1 / 2 ^ 32)), (2, .int .i64 (32 : Int))], [], [], 0⟩ (True) Tryd_mixed (by kernel_rfl) trivial ?_
      exact joinQ_normal ((x1 / 2 ^ 32), 32) (Le.mk (s := ⟨25, [(0, .int .u64 (x1 / 2 ^ 32)), (2, .int .i64 (32 : Int))], [], [], 0⟩) (s' := ⟨25, [(0, .int .u64 (x1 / 2 ^ 32)), (2, .int .i64 (32 : Int))], [], [], 0⟩) rfl rfl ⟨.refl _, .refl _, trivial⟩ trivial) h
    ·
      replace h := ite_fb hc1 h
      refine AWp.skip ?_
      exact joinQ_normal (x1, 0) (Le.mk (s := ⟨25, [(0, .int .u64 x1), (2, .int .i64 (0 : Int)), (4, .bool (decide (x1 ≥ (4294967296 : Int))))], [], [], 0⟩) (s' := ⟨25, [(0, .int .u64 x1), (2, .int .i64 (0 : Int))], [], [], 0⟩) rfl rfl ⟨.refl _, .refl _, trivial⟩ trivial) h
  ·
    rintro ⟨i2, n3⟩ h
    replace h := (congrFun hK1 _).symm.trans h
    obtain ⟨K2, hK2, h⟩ := jn_some h
    refine AWp.join (α := Int × Nat) (fun (x : Int × Nat) => match x with | (i4, n5) => ⟨25, [(0, .int .u64 i4), (2, .int .i64 ((n5 : Nat) : Int))], [], [], 0⟩) (fun x => K2 x = some r) ?_ ?_
    ·
      refine AWp.seq ?_
      refine AWp.regC [] [] [0, 2, 8] [] ⟨25, [(0, .int .u64 i2), (2, .int .i64 ((n3 : Nat) : Int)), (8, .bool (decide (i2 ≥ (65536 : Int))))], [], [], 0⟩ (True) Tryd_mixed (by kernel_rfl) trivial ?_
      refine thenQ_normal ?_
      refine AWp.cond (b := (decide (i2 ≥ (65536 : Int)))) (by kernel_rfl) (fun hc2 => ?_) (fun hc2 => ?_)
      ·
        replace h := ite_tb hc2 h
        refine AWp.seq ?_
        obtain ⟨ob1p, h⟩ := chk_some h
        have ob1 : 0 ≤ (16 : Int) ∧ 16 ≤ IntKind.bits .u64 := ⟨by omega, ob1p⟩
        refine AWp.regC [] [] [0, 2] [] ⟨25, [(0, .int .u64 (i2 / 2 ^ 16)), (2, .int .i64 ((n3 : Nat) : Int))], [], [], 0⟩ ((0 ≤ (16 : Int) ∧ 16 ≤ IntKind.bits .u64) ∧ True) Tryd_mixed (by kernel_rfl) ⟨ob1, trivial⟩ ?_
        refine thenQ_normal ?_
        obtain ⟨ob2p, h⟩ := chk_some h
        have ob2 : -9223372036854775808 ≤ (((n3 : Nat) : Int) + (16 : Int)) ∧ (((n3 : Nat) : Int) + (16 : Int)) ≤ 9223372036854775807 := ⟨by omega, ob2p⟩
        refine AWp.regC [] [] [0, 2] [] ⟨25, [(0, .int .u64 (i2 / 2 ^ 16)), (2, .int .i64 (((n3 + 16) : Nat) : Int))], [], [], 0⟩ ((-9223372036854775808 ≤ (((n3 : Nat) : Int) + (16 : Int)) ∧ (((n3 : Nat) : Int) + (16 : Int)) ≤ 9223372036854775807) ∧ True) Tryd_mixed (by kernel_rfl) ⟨ob2, trivial⟩ ?_
        exact joinQ_normal ((i2 / 2 ^ 16), (n3 + 16)) (Le.mk (s := ⟨25, [(0, .int .u64 (i2 / 2 ^ 16)), (2, .int .i64 (((n3 + 16) : Nat) : Int))], [], [], 0⟩) (s' := ⟨25, [(0, .int .u64 (i2 / 2 ^ 16)), (2, .int .i64 (((n3 + 16) : Nat) : Int))], [], [], 0⟩) rfl rfl ⟨.refl _, .refl _, trivial⟩ trivial) h
      ·
        replace h := ite_fb hc2 h
        refine AWp.skip ?_
        exact joinQ_normal (i2, n3) (Le.mk (s := ⟨25, [(0, .int .u64 i2), (2, .int .i64 ((n3 : Nat) : Int)), (8, .bool (decide (i2 ≥ (65536 : Int))))], [], [], 0⟩) (s' := ⟨25, [(0, .int .u64 i2), (2, .int .i64 ((n3 : Nat) : Int))], [], [], 0⟩) rfl rfl ⟨.refl _, .refl _, trivial⟩ trivial) h
    ·
      rintro ⟨i4, n5⟩ h
      replace h := (congrFun hK2 _).symm.trans h
      obtain ⟨K3, hK3, h⟩ := jn_some h
      refine AWp.join (α := Int × Nat) (fun (x : Int × Nat) => match x with | (i6, n7) => ⟨25, [(0, .int .u64 i6), (2, .int .i64 ((n7 : Nat) : Int))], [], [], 0⟩) (fun x => K3 x = some r) ?_ ?_
      ·
        refine AWp.seq ?_
        refine AWp.regC [] [] [0, 2, 14] [] ⟨25, [(0, .int .u64 i4), (2, .int .i64 ((n5 : Nat) : Int)), (14, .bool (decide (i4 ≥ (256 : Int))))], [], [], 0⟩ (True) Tryd_mixed (by kernel_rfl) trivial ?_
        refine thenQ_normal ?_
        refine AWp.cond (b := (decide (i4 ≥ (256 : Int)))) (by kernel_rfl) (fun hc3 => ?_) (fun hc3 => ?_)
        ·
          replace h := ite_tb hc3 h
          refine AWp.seq ?_
          obtain ⟨ob3p, h⟩ := chk_some h
          have ob3 : 0 ≤ (8 : Int) ∧ 8 ≤ IntKind.bits .u64 := ⟨by omega, ob3p⟩
          refine AWp.regC [] [] [0, 2] [] ⟨25, [(0, .int .u64 (i4 / 2 ^ 8)), (2, .int .i64 ((n5 : Nat) : Int))], [], [], 0⟩ ((0 ≤ (8 : Int) ∧ 8 ≤ IntKind.bits .u64) ∧ True) Tryd_mixed (by kernel_rfl) ⟨ob3, trivial⟩ ?_
          refine thenQ_normal ?_
          obtain ⟨ob4p, h⟩ := chk_some h
          have ob4 : -9223372036854775808 ≤ (((n5 : Nat) : Int) + (8 : Int)) ∧ (((n5 : Nat) : Int) + (8 : Int)) ≤ 9223372036854775807 := ⟨by omega, ob4p⟩
          refine AWp.regC [] [] [0, 2] [] ⟨25, [(0, .int .u64 (i4 / 2 ^ 8)), (2, .int .i64 (((n5 + 8) : Nat) : Int))], [], [], 0⟩ ((-9223372036854775808 ≤ (((n5 : Nat) : Int) + (8 : Int)) ∧ (((n5 : Nat) : Int) + (8 : Int)) ≤ 9223372036854775807) ∧ True) Tryd_mixed (by kernel_rfl) ⟨ob4, trivial⟩ ?_
          exact joinQ_normal ((i4 / 2 ^ 8), (n5 + 8)) (Le.mk (s := ⟨25, [(0, .int .u64 (i4 / 2 ^ 8)), (2, .int .i64 (((n5 + 8) : Nat) : Int))], [], [], 0⟩) (s' := ⟨25, [(0, .int .u64 (i4 / 2 ^ 8)), (2, .int .i64 (((n5 + 8) : Nat) : Int))], [], [], 0⟩) rfl rfl ⟨.refl _, .refl _, trivial⟩ trivial) h
        ·
          replace h := ite_fb hc3 h
          refine AWp.skip ?_
          exact joinQ_normal (i4, n5) (Le.mk (s := ⟨25, [(0, .int .u64 i4), (2, .int .i64 ((n5 : Nat) : Int)), (14, .bool (decide (i4 ≥ (256 : Int))))], [], [], 0⟩) (s' := ⟨25, [(0, .int .u64 i4), (2, .int .i64 ((n5 : Nat) : Int))], [], [], 0⟩) rfl rfl ⟨.refl _, .refl _, trivial⟩ trivial) h
      ·
        rintro ⟨i6, n7⟩ h
        replace h := (congrFun hK3 _).symm.trans h
        refine AWp.seq ?_
        obtain ⟨ob5, h⟩ := chk_some h
        obtain ⟨ob6, h⟩ := chk_some h
        obtain ⟨ob7p, h⟩ := chk_some h
        have ob7 : -9223372036854775808 ≤ (((cs3.getD ((i6).toNat) 0).toNat : Nat) : Int) ∧ (((cs3.getD ((i6).toNat) 0).toNat : Nat) : Int) ≤ 9223372036854775807 := ⟨by omega, ob7p⟩
        obtain ⟨ob8p, h⟩ := chk_some h
        have ob8 : -9223372036854775808 ≤ (((n7 : Nat) : Int) + (((cs3.getD ((i6).toNat) 0).toNat : Nat) : Int)) ∧ (((n7 : Nat) : Int) + (((cs3.getD ((i6).toNat) 0).toNat : Nat) : Int)) ≤ 9223372036854775807 := ⟨by omega, ob8p⟩
        refine AWp.regC [] [] [2] [] ⟨25, [(2, .int .i64 (((n7 + (cs3.getD ((i6).toNat) 0).toNat) : Nat) : Int))], [], [], 0⟩ ((0 ≤ i6 ∧ i6 ≤ 255) ∧ (0 ≤ i6 ∧ i6 < ((cs3.length : Nat) : Int)) ∧ (-9223372036854775808 ≤ (((cs3.getD ((i6).toNat) 0).toNat : Nat) : Int) ∧ (((cs3.getD ((i6).toNat) 0).toNat : Nat) : Int) ≤ 9223372036854775807) ∧ (-9223372036854775808 ≤ (((n7 : Nat) : Int) + (((cs3.getD ((i6).toNat) 0).toNat : Nat) : Int)) ∧ (((n7 : Nat) : Int) + (((cs3.getD ((i6).toNat) 0).toNat : Nat) : Int)) ≤ 9223372036854775807) ∧ True) Tryd_mixed (by kernel_rfl) ⟨ob5, ob6, ob7, ob8, trivial⟩ ?_
        refine thenQ_normal ?_
        have hret := Option.some.inj h
        subst hret
        refine AWp.le (Le.mk (s := ⟨25, [(2, .int .i64 (((n7 + (cs3.getD ((i6).toNat) 0).toNat) : Nat) : Int))], [], [], 0⟩) (s' := ⟨25, [(2, .int .i64 (((n7 + (cs3.getD ((i6).toNat) 0).toNat) : Nat) : Int))], [], [], 0⟩) rfl rfl ⟨.refl _, trivial⟩ trivial) ?_
        refine AWp.ret ?_
        exact bodyQ_ret _ rfl ⟨rfl, rfl⟩ rfl
def f115 (x1 : Int) : Option Int :=
  chk (-9223372036854775808 ≤ (x1 * (78913 : Int)) ∧ (x1 * (78913 : Int)) ≤ 9223372036854775807) <|
  chk (18 ≤ IntKind.bits .i64) <|
  some ((x1 * (78913 : Int)) / 2 ^ 18)
set_option maxRecDepth 100000 in
theorem f115_ok  (x1 : Int) (r : Int) (h : f115 x1 = some r)  : Spec1 Tryd.prog 115 [] [] [] [.int .i64 x1] (.int .i64 r) [] := by
  unfold f115 at h
  refine Spec1.body 0 _ _ Tryd.func115 rfl Tryd.ntmps115 rfl rfl ?_
  refine AWp.seq ?_
  refine AWp.regC [] [] [0] [] ⟨6, [(0, .int .i64 x1)], [], [], 0⟩ (True) Tryd_mixed (by kernel_rfl) trivial ?_
  refine thenQ_normal ?_
  refine AWp.seq ?_
  obtain ⟨ob0, h⟩ := chk_some h
  obtain ⟨ob1p, h⟩ := chk_some h
  have ob1 : 0 ≤ (18 : Int) ∧ 18 ≤ IntKind.bits .i64 := ⟨by omega, ob1p⟩
  refine AWp.regC [] [] [2] [] ⟨6, [(2, .int .i64 ((x1 * (78913 : Int)) / 2 ^ 18))], [], [], 0⟩ ((-9223372036854775808 ≤ (x1 * (78913 : Int)) ∧ (x1 * (78913 : Int)) ≤ 9223372036854775807) ∧ (0 ≤ (18 : Int) ∧ 18 ≤ IntKind.bits .i64) ∧ True) Tryd_mixed (by kernel_rfl) ⟨ob0, ob1, trivial⟩ ?_
  refine thenQ_normal ?_
  have hret := Option.some.inj h
  subst hret
  refine AWp.le (Le.mk (s := ⟨6, [(2, .int .i64 ((x1 * (78913 : Int)) / 2 ^ 18))], [], [], 0⟩) (s' := ⟨6, [(2, .int .i64 ((x1 * (78913 : Int)) / 2 ^ 18))], [], [], 0⟩) rfl rfl ⟨.refl _, trivial⟩ trivial) ?_
  refine AWp.ret ?_
  exact bodyQ_ret _ rfl ⟨rfl, rfl⟩ rfl
def f116 (x1 : Bool) : Option Int :=
  if x1 then (
  some (1 : Int)
  ) else (
  some (0 : Int)
  )
set_option maxRecDepth 100000 in
theorem f116_ok  (x1 : Bool) (r : Int) (h : f116 x1 = some r)  : Spec1 Tryd.prog 116 [] [] [] [.bool x1] (.int .i64 r) [] := by
  unfold f116 at h
  refine Spec1.body 0 _ _ Tryd.func116 rfl Tryd.ntmps116 rfl rfl ?_
  refine AWp.seq ?_
  refine AWp.regC [] [] [0] [] ⟨4, [(0, .bool x1)], [], [], 0⟩ (True) Tryd_mixed (by kernel_rfl) trivial ?_
  refine thenQ_normal ?_
  refine AWp.seq ?_
  refine AWp.seq ?_
  refine AWp.regC [] [] [3] [] ⟨4, [(3, .bool x1)], [], [], 0⟩ (True) Tryd_mixed (by kernel_rfl) trivial ?_
  refine thenQ_normal ?_
  refine AWp.cond (b := x1) (by kernel_rfl) (fun hc1 => ?_) (fun hc1 => ?_)
  ·
    replace h := ite_tb hc1 h
    refine AWp.seq ?_
    refine AWp.regC [] [] [2] [] ⟨4, [(2, .int .i64 (1 : Int))], [], [], 0⟩ (True) Tryd_mixed (by kernel_rfl) trivial ?_
    refine thenQ_normal ?_
    have hret := Option.some.inj h
    subst hret
    refine AWp.le (Le.mk (s := ⟨4, [(2, .int .i64 (1 : Int))], [], [], 0⟩) (s' := ⟨4, [(2, .int .i64 (1 : Int))], [], [], 0⟩) rfl rfl ⟨.refl _, trivial⟩ trivial) ?_
    refine AWp.ret ?_
    refine thenQ_ret ?_
    exact bodyQ_ret _ rfl ⟨rfl, rfl⟩ rfl
  ·
    replace h := ite_fb hc1 h
    refine AWp.skip ?_
    refine thenQ_normal ?_
    refine AWp.seq ?_
    refine AWp.regC [] [] [2] [] ⟨4, [(2, .int .i64 (0 : Int))], [], [], 0⟩ (True) Tryd_mixed (by kernel_rfl) trivial ?_
    refine thenQ_normal ?_
    have hret := Option.some.inj h
    subst hret
    refine AWp.le (Le.mk (s := ⟨4, [(2, .int .i64 (0 : Int))], [], [], 0⟩) (s' := ⟨4, [(2, .int .i64 (0 : Int))], [], [], 0⟩) rfl rfl ⟨.refl _, trivial⟩ trivial) ?_
    refine AWp.ret ?_
    exact bodyQ_ret _ rfl ⟨rfl, rfl⟩ rfl
def f107 (x1 : Int) : Option Int :=
  (f105 x1).bind fun (r2 : Int) =>
  (f115 r2).bind fun (r3 : Int) =>
  (f116 (decide (x1 ≥ (((T2.getD (0 + ((r3).toNat) * 1 + 0) 0) : Nat) : Int)))).bind fun (r4 : Int) =>
  chk (0 ≤ r3 ∧ r3 < 20) <|
  chk (-9223372036854775808 ≤ (r3 + r4) ∧ (r3 + r4) ≤ 9223372036854775807) <|
  some (r3 + r4)
set_option maxRecDepth 100000 in
theorem f107_ok  (x1 : Int) (r : Int) (h : f107 x1 = some r)  : Spec1 Tryd.prog 107 [(2, .elem 20 1 T2F 0 0)] [] [] [.int .u64 x1] (.int .i64 r) [] := by
  unfold f107 at h
  refine Spec1.body 0 _ _ Tryd.func107 rfl Tryd.ntmps107 rfl rfl ?_
  refine AWp.seq ?_
  refine AWp.regC [] [] [0, 1000002] [] ⟨15, [(0, .int .u64 x1), (1000002, .elem 20 1 T2F 0 0)], [], [], 0⟩ (True) Tryd_mixed (by kernel_rfl) trivial ?_
  refine thenQ_normal ?_
  refine AWp.seq ?_
  obtain ⟨r2, hr2, h⟩ := bind_ok h
  obtain ⟨r3, hr3, h⟩ := bind_ok h
  refine AWp.regC [] [(1, ⟨[.int .u64 x1], [], [], [], .int .i64 r2, [], [], []⟩), (2, ⟨[.int .i64 r2], [], [], [], .int .i64 r3, [], [], []⟩)] [0, 3, 1000002] [] ⟨15, [(0, .int .u64 x1), (3, .int .i64 r3), (1000002, .elem 20 1 T2F 0 0)], [], [], 0⟩ ((callP Tryd.prog true 105 [] [] [] [] [] [.int .u64 x1] [.int .u64 x1] (.int .i64 r2) []) ∧ (callP Tryd.prog true 115 [] [] [] [] [] [.int .i64 r2] [.int .i64 r2] (.int .i64 r3) []) ∧ True) Tryd_mixed (by kernel_rfl) ⟨⟨fun _ => (f105_ok x1 r2 hr2), fun _ => ⟨.refl _, trivial⟩, .inl rfl⟩, ⟨fun _ => (f115_ok r2 r3 hr3), fun _ => ⟨.refl _, trivial⟩, .inl rfl⟩, trivial⟩ ?_
  refine thenQ_normal ?_
  refine AWp.seq ?_
  obtain ⟨r4, hr4, h⟩ := bind_ok h
  obtain ⟨ob0, h⟩ := chk_some h
  obtain ⟨ob1, h⟩ := chk_some h
  refine AWp.regC [] [(6, ⟨[.bool (decide (x1 ≥ (((T2.getD (0 + ((r3).toNat) * 1 + 0) 0) : Nat) : Int)))], [], [], [], .int .i64 r4, [], [], []⟩)] [2, 1000002] [] ⟨15, [(2, .int .i64 (r3 + r4)), (1000002, .elem 20 1 T2F 0 0)], [], [], 0⟩ ((0 ≤ r3 ∧ r3 < 20) ∧ (callP Tryd.prog true 116 [] [] [] [] [] [.bool (decide (x1 ≥ (((T2.getD (0 + ((r3).toNat) * 1 + 0) 0) : Nat) : Int)))] [.bool (decide (x1 ≥ (((T2.getD (0 + ((r3).toNat) * 1 + 0) 0) : Nat) : Int)))] (.int .i64 r4) []) ∧ (-9223372036854775808 ≤ (r3 + r4) ∧ (r3 + r4) ≤ 9223372036854775807) ∧ True) Tryd_mixed (by kernel_rfl) ⟨ob0, ⟨fun _ => (f116_ok (decide (x1 ≥ (((T2.getD (0 + ((r3).toNat) * 1 + 0) 0) : Nat) : Int))) r4 hr4), fun _ => ⟨.refl _, trivial⟩, .inl rfl⟩, ob1, trivial⟩ ?_
  refine thenQ_normal ?_
  have hret := Option.some.inj h
  subst hret
  refine AWp.le (Le.mk (s := ⟨15, [(2, .int .i64 (r3 + r4)), (1000002, .elem 20 1 T2F 0 0)], [], [], 0⟩) (s' := ⟨15, [(2, .int .i64 (r3 + r4))], [], [], 0⟩) rfl rfl ⟨.refl _, trivial⟩ trivial) ?_
  refine AWp.ret ?_
  exact bodyQ_ret _ rfl ⟨rfl, rfl⟩ rfl
def f93 (x1 : Int) (x2 : Int) : Option (List UInt8) :=
  if (x2 == (10 : Int)) then (
  if ((decide ((0 : Int) ≤ x1)) && (decide (x1 < (100 : Int)))) then (
  (f106 x1).bind fun (r3 : List UInt8) =>
  some r3
  ) else (
  chk (0 ≤ x1 ∧ x1 ≤ 18446744073709551615) <|
  jn (fun (i4 : Int) =>
  (f107 i4).bind fun (_r5 : Int) =>
  none
  ) fun (K1 : Int → Option (List UInt8)) =>
  if (decide (x1 < (0 : Int))) then (
  chk (0 ≤ (0 - x1) ∧ (0 - x1) ≤ 18446744073709551615) <|
  K1 (0 - x1)
  ) else (
  K1 x1
  )
  )
  ) else (
  none
  )
set_option maxRecDepth 100000 in
theorem f93_ok  (x1 : Int) (x2 : Int) (r : List UInt8) (h : f93 x1 x2 = some r)  : Spec1 Tryd.prog 93 [(2, .elem 20 1 T2F 0 0)] [] [] [.int .i64 x1, .int .i64 x2] (.str r) [] := by
  unfold f93 at h
  refine Spec1.body 0 _ _ Tryd.func93 rfl Tryd.ntmps93 rfl rfl ?_
  refine AWp.seq ?_
  refine AWp.regC [] [] [0, 1, 1000002] [] ⟨54, [(0, .int .i64 x1), (1, .int .i64 x2), (1000002, .elem 20 1 T2F 0 0)], [], [], 0⟩ (True) Tryd_mixed (by kernel_rfl) trivial ?_
  refine thenQ_normal ?_
  refine AWp.seq ?_
  refine AWp.seq ?_
  refine AWp.regC [] [] [0, 1, 11, 1000002] [] ⟨54, [(0, .int .i64 x1), (1, .int .i64 x2), (11, .bool (x2 == (10 : Int))), (1000002, .elem 20 1 T2F 0 0)], [], [], 0⟩ (True) Tryd_mixed (by kernel_rfl) trivial ?_
  refine thenQ_normal ?_
  refine AWp.cond (b := (x2 == (10 : Int))) (by kernel_rfl) (fun hc1 => ?_) (fun hc1 => ?_)
  ·
    replace h := ite_tb hc1 h
    refine AWp.seq ?_
    refine AWp.seq ?_
    have ob0 : ((decide ((0 : Int) ≤ x1)) == true) = true → ((decide ((0 : Int) ≤ x1)) == true) = true := fun h => h
    have ob1 : true = true → (decide ((0 : Int) ≤ x1)) = true → ((decide ((0 : Int) ≤ x1)) == true) = true := fun _ h => beq_iff_eq.2 h
    refine AWp.regC [] [] [0, 17, 1000002] [] ⟨54, [(0, .int .i64 x1), (17, .bool ((decide ((0 : Int) ≤ x1)) && (decide (x1 < (100 : Int))))), (1000002, .elem 20 1 T2F 0 0)], [], [], 0⟩ (((((decide ((0 : Int) ≤ x1)) == true) = true → ((decide ((0 : Int) ≤ x1)) == true) = true) ∧ True) ∧ (true = true → (decide ((0 : Int) ≤ x1)) = true → ((decide ((0 : Int) ≤ x1)) == true) = true) ∧ True) Tryd_mixed (by kernel_rfl) ⟨⟨ob0, trivial⟩, ob1, trivial⟩ ?_
    refine thenQ_normal ?_
    refine AWp.cond (b := ((decide ((0 : Int) ≤ x1)) && (decide (x1 < (100 : Int))))) (by kernel_rfl) (fun hc2 => ?_) (fun hc2 => ?_)
    ·
      replace h := ite_tb hc2 h
      refine AWp.seq ?_
      obtain ⟨r3, hr3, h⟩ := bind_ok h
      refine AWp.regC [] [(1, ⟨[.int .i64 x1], [], [], [], .str r3, [], [], []⟩)] [4, 1000002] [] ⟨54, [(4, .str r3), (1000002, .elem 20 1 T2F 0 0)], [], [], 0⟩ ((callP Tryd.prog true 106 [] [] [] [] [] [.int .i64 x1] [.int .i64 x1] (.str r3) []) ∧ True) Tryd_mixed (by kernel_rfl) ⟨⟨fun _ => (f106_ok x1 r3 hr3), fun _ => ⟨.refl _, trivial⟩, .inl rfl⟩, trivial⟩ ?_
      refine thenQ_normal ?_
      have hret := Option.some.inj h
      subst hret
      refine AWp.le (Le.mk (s := ⟨54, [(4, .str r3), (1000002, .elem 20 1 T2F 0 0)], [], [], 0⟩) (s' := ⟨54, [(4, .str r3)], [], [], 0⟩) rfl rfl ⟨.refl _, trivial⟩ trivial) ?_
      refine AWp.ret ?_
      refine thenQ_ret ?_
      refine thenQ_ret ?_
      exact bodyQ_ret _ rfl ⟨rfl, rfl⟩ rfl
    ·
      replace h := ite_fb hc2 h
      refine AWp.skip ?_
      refine thenQ_normal ?_
      refine AWp.seq ?_
      refine AWp.regC [] [] [0, 5, 1000002] [5] ⟨54, [(0, .int .i64 x1), (5, .ptr 5 0), (1000002, .elem 20 1 T2F 0 0)], [(5, .cells 113 [.int .u8 (0 : Int), .int .u8 (0 : Int), .int .u8 (0 : Int), .int .u8 (0 : Int), .int .u8 (0 : Int), .int .u8 (0 : Int), .int .u8 (0 : Int), .int .u8 (0 : Int), .int .u8 (0 : Int), .int .u8 (0 : Int), .int .u8 (0 : Int), .int .u8 (0 : Int), .int .u8 (0 : Int), .int .u8 (0 : Int), .int .u8 (0 : Int), .int .u8 (0 : Int), .int .u8 (0 : Int), .int .u8 (0 : Int), .int .u8 (0 : Int), .int .u8 (0 : Int), .int .u8 (0 : Int), .int .u8 (0 : Int), .int .u8 (0 : Int), .int .u8 (0 : Int)])], [], 0⟩ (True) Tryd_mixed (by kernel_rfl) trivial ?_
      refine thenQ_normal ?_
      refine AWp.seq ?_
      obtain ⟨ob2, h⟩ := chk_some h
      refine AWp.regC [] [] [0, 5, 6, 1000002] [5] ⟨54, [(0, .int .i64 x1), (5, .ptr 5 0), (6, .int .u64 x1), (1000002, .elem 20 1 T2F 0 0)], [(5, .cells 113 [.int .u8 (0 : Int), .int .u8 (0 : Int), .int .u8 (0 : Int), .int .u8 (0 : Int), .int .u8 (0 : Int), .int .u8 (0 : Int), .int .u8 (0 : Int), .int .u8 (0 : Int), .int .u8 (0 : Int), .int .u8 (0 : Int), .int .u8 (0 : Int), .int .u8 (0 : Int), .int .u8 (0 : Int), .int .u8 (0 : Int), .int .u8 (0 : Int), .int .u8 (0 : Int), .int .u8 (0 : Int), .int .u8 (0 : Int), .int .u8 (0 : Int), .int .u8 (0 : Int), .int .u8 (0 : Int), .int .u8 (0 : Int), .int .u8 (0 : Int), .int .u8 (0 : Int)])], [], 0⟩ ((0 ≤ x1 ∧ x1 ≤ 18446744073709551615) ∧ True) Tryd_mixed (by kernel_rfl) ⟨ob2, trivial⟩ ?_
      refine thenQ_normal ?_
      obtain ⟨K1, hK1, h⟩ := jn_some h
      refine AWp.join (α := Int) (fun (i4 : Int) => ⟨54, [(0, .int .i64 x1), (5, .ptr 5 0), (6, .int .u64 i4), (1000002, .elem 20 1 T2F 0 0)], [(5, .cells 113 [.int .u8 (0 : Int), .int .u8 (0 : Int), .int .u8 (0 : Int), .int .u8 (0 : Int), .int .u8 (0 : Int), .int .u8 (0 : Int), .int .u8 (0 : Int), .int .u8 (0 : Int), .int .u8 (0 : Int), .int .u8 (0 : Int), .int .u8 (0 : Int), .int .u8 (0 : Int), .int .u8 (0 : Int), .int .u8 (0 : Int), .int .u8 (0 : Int), .int .u8 (0 : Int), .int .u8 (0 : Int), .int .u8 (0 : Int), .int .u8 (0 : Int), .int .u8 (0 : Int), .int .u8 (0 : Int), .int .u8 (0 : Int), .int .u8 (0 : Int), .int .u8 (0 : Int)])], [], 0⟩) (fun x => K1 x = some r) ?_ ?_
      ·
        refine AWp.seq ?_
        refine AWp.regC [] [] [0, 5, 6, 23, 1000002] [5] ⟨54, [(0, .int .i64 x1), (5, .ptr 5 0), (6, .int .u64 x1), (23, .bool (decide (x1 < (0 : Int)))), (1000002, .elem 20 1 T2F 0 0)], [(5, .cells 113 [.int .u8 (0 : Int), .int .u8 (0 : Int), .int .u8 (0 : Int), .int .u8 (0 : Int), .int .u8 (0 : Int), .int .u8 (0 : Int), .int .u8 (0 : Int), .int .u8 (0 : Int), .int .u8 (0 : Int), .int .u8 (0 : Int), .int .u8 (0 : Int), .int .u8 (0 : Int), .int .u8 (0 : Int), .int .u8 (0 : Int), .int .u8 (0 : Int), .int .u8 (0 : Int), .int .u8 (0 : Int), .int .u8 (0 : Int), .int .u8 (0 : Int), .int .u8 (0 : Int), .int .u8 (0 : Int), .int .u8 (0 : Int), .int .u8 (0 : Int), .int .u8 (0 : Int)])], [], 0⟩ (True) Tryd_mixed (by kernel_rfl) trivial ?_
        refine thenQ_normal ?_
        refine AWp.cond (b := (decide (x1 < (0 : Int)))) (by kernel_rfl) (fun hc3 => ?_) (fun hc3 => ?_)
        ·
          replace h := ite_tb hc3 h
          obtain ⟨ob3, h⟩ := chk_some h
          refine AWp.regC [] [] [0, 5, 6, 1000002] [5] ⟨54, [(0, .int .i64 x1), (5, .ptr 5 0), (6, .int .u64 (0 - x1)), (1000002, .elem 20 1 T2F 0 0)], [(5, .cells 113 [.int .u8 (0 : Int), .int .u8 (0 : Int), .int .u8 (0 : Int), .int .u8 (0 : Int), .int .u8 (0 : Int), .int .u8 (0 : Int), .int .u8 (0 : Int), .int .u8 (0 : Int), .int .u8 (0 : Int), .int .u8 (0 : Int), .int .u8 (0 : Int), .int .u8 (0 : Int), .int .u8 (0 : Int), .int .u8 (0 : Int), .int .u8 (0 : Int), .int .u8 (0 : Int), .int .u8 (0 : Int), .int .u8 (0 : Int), .int .u8 (0 : Int), .int .u8 (0 : Int), .int .u8 (0 : Int), .int .u8 (0 : Int), .int .u8 (0 : Int), .int .u8 (0 : Int)])], [], 0⟩ ((0 ≤ (0 - x1) ∧ (0 - x1) ≤ 18446744073709551615) ∧ True) Tryd_mixed (by kernel_rfl) ⟨ob3, trivial⟩ ?_
          exact joinQ_normal ((0 - x1)) (Le.mk (s := ⟨54, [(0, .int .i64 x1), (5, .ptr 5 0), (6, .int .u64 (0 - x1)), (1000002, .elem 20 1 T2F 0 0)], [(5, .cells 113 [.int .u8 (0 : Int), .int .u8 (0 : Int), .int .u8 (0 : Int), .int .u8 (0 : Int), .int .u8 (0 : Int), .int .u8 (0 : Int), .int .u8 (0 : Int), .int .u8 (0 : Int), .int .u8 (0 : Int), .int .u8 (0 : Int), .int .u8 (0 : Int), .int .u8 (0 : Int), .int .u8 (0 : Int), .int .u8 (0 : Int), .int .u8 (0 : Int), .int .u8 (0 : Int), .int .u8 (0 : Int), .int .u8 (0 : Int), .int .u8 (0 : Int), .int .u8 (0 : Int), .int .u8 (0 : Int), .int .u8 (0 : Int), .int .u8 (0 : Int), .int .u8 (0 : Int)])], [], 0⟩) (s' := ⟨54, [(0, .int .i64 x1), (5, .ptr 5 0), (6, .int .u64 (0 - x1)), (1000002, .elem 20 1 T2F 0 0)], [(5, .cells 113 [.int .u8 (0 : Int), .int .u8 (0 : Int), .int .u8 (0 : Int), .int .u8 (0 : Int), .int .u8 (0 : Int), .int .u8 (0 : Int), .int .u8 (0 : Int), .int .u8 (0 : Int), .int .u8 (0 : Int), .int .u8 (0 : Int), .int .u8 (0 : Int), .int .u8 (0 : Int), .int .u8 (0 : Int), .int .u8 (0 : Int), .int .u8 (0 : Int), .int .u8 (0 : Int), .int .u8 (0 : Int), .int .u8 (0 : Int), .int .u8 (0 : Int), .int .u8 (0 : Int), .int .u8 (0 : Int), .int .u8 (0 : Int), .int .u8 (0 : Int), .int .u8 (0 : Int)])], [], 0⟩) rfl rfl ⟨.refl _, .refl _, .refl _, .refl _, trivial⟩ ⟨⟨_, rfl, .refl _⟩, trivial⟩) h
        ·
          replace h := ite_fb hc3 h
          refine AWp.skip ?_
          exact joinQ_normal (x1) (Le.mk (s := ⟨54, [(0, .int .i64 x1), (5, .ptr 5 0), (6, .int .u64 x1), (23, .bool (decide (x1 < (0 : Int)))), (1000002, .elem 20 1 T2F 0 0)], [(5, .cells 113 [.int .u8 (0 : Int), .int .u8 (0 : Int), .int .u8 (0 : Int), .int .u8 (0 : Int), .int .u8 (0 : Int), .int .u8 (0 : Int), .int .u8 (0 : Int), .int .u8 (0 : Int), .int .u8 (0 : Int), .int .u8 (0 : Int), .int .u8 (0 : Int), .int .u8 (0 : Int), .int .u8 (0 : Int), .int .u8 (0 : Int), .int .u8 (0 : Int), .int .u8 (0 : Int), .int .u8 (0 : Int), .int .u8 (0 : Int), .int .u8 (0 : Int), .int .u8 (0 : Int), .int .u8 (0 : Int), .int .u8 (0 : Int), .int .u8 (0 : Int), .int .u8 (0 : Int)])], [], 0⟩) (s' := ⟨54, [(0, .int .i64 x1), (5, .ptr 5 0), (6, .int .u64 x1), (1000002, .elem 20 1 T2F 0 0)], [(5, .cells 113 [.int .u8 (0 : Int), .int .u8 (0 : Int), .int .u8 (0 : Int), .int .u8 (0 : Int), .int .u8 (0 : Int), .int .u8 (0 : Int), .int .u8 (0 : Int), .int .u8 (0 : Int), .int .u8 (0 : Int), .int .u8 (0 : Int), .int .u8 (0 : Int), .int .u8 (0 : Int), .int .u8 (0 : Int), .int .u8 (0 : Int), .int .u8 (0 : Int), .int .u8 (0 : Int), .int .u8 (0 : Int), .int .u8 (0 : Int), .int .u8 (0 : Int), .int .u8 (0 : Int), .int .u8 (0 : Int), .int .u8 (0 : Int), .int .u8 (0 : Int), .int .u8 (0 : Int)])], [], 0⟩) rfl rfl ⟨.refl _, .refl _, .refl _, .refl _, trivial⟩ ⟨⟨_, rfl, .refl _⟩, trivial⟩) h
      ·
        rintro i4 h
        replace h := (congrFun hK1 _).symm.trans h
        refine AWp.seq ?_
        obtain ⟨r5, hr5, h⟩ := bind_ok h
        refine AWp.regC [] [(1, ⟨[.int .u64 i4], [], [], [], .int .i64 r5, [], [], [2]⟩)] [0, 5, 6, 7, 1000002] [5] ⟨54, [(0, .int .i64 x1), (5, .ptr 5 0), (6, .int .u64 i4), (7, .int .i64 r5), (1000002, .elem 20 1 T2F 0 0)], [(5, .cells 113 [.int .u8 (0 : Int), .int .u8 (0 : Int), .int .u8 (0 : Int), .int .u8 (0 : Int), .int .u8 (0 : Int), .int .u8 (0 : Int), .int .u8 (0 : Int), .int .u8 (0 : Int), .int .u8 (0 : Int), .int .u8 (0 : Int), .int .u8 (0 : Int), .int .u8 (0 : Int), .int .u8 (0 : Int), .int .u8 (0 : Int), .int .u8 (0 : Int), .int .u8 (0 : Int), .int .u8 (0 : Int), .int .u8 (0 : Int), .int .u8 (0 : Int), .int .u8 (0 : Int), .int .u8 (0 : Int), .int .u8 (0 : Int), .int .u8 (0 : Int), .int .u8 (0 : Int)])], [], 0⟩ ((callP Tryd.prog true 107 [(2, .elem 20 1 T2F 0 0)] [] [] [] [] [.int .u64 i4] [.int .u64 i4] (.int .i64 r5) []) ∧ True) Tryd_mixed (by kernel_rfl) ⟨⟨fun _ => (f107_ok i4 r5 hr5), fun _ => ⟨.refl _, trivial⟩, .inl rfl⟩, trivial⟩ ?_
        refine thenQ_normal ?_
        refine AWp.seq ?_
        exact nomatch (show (none : Option (List UInt8)) = some r from h)
  ·
    replace h := ite_fb hc1 h
    refine AWp.skip ?_
    refine thenQ_normal ?_
    refine AWp.seq ?_
    exact nomatch (show (none : Option (List UInt8)) = some r from h)
def f88 (x1 : Int) : Option (List UInt8) :=
  (f93 x1 (10 : Int)).bind fun (r2 : List UInt8) =>
  some r2
set_option maxRecDepth 100000 in
theorem f88_ok  (x1 : Int) (r : List UInt8) (h : f88 x1 = some r)  : Spec1 Tryd.prog 88 [(2, .elem 20 1 T2F 0 0)] [] [] [.int .i64 x1] (.str r) [] := by
  unfold f88 at h
  refine Spec1.body 0 _ _ Tryd.func88 rfl Tryd.ntmps88 rfl rfl ?_
  refine AWp.seq ?_
  refine AWp.regC [] [] [0, 1000002] [] ⟨5, [(0, .int .i64 x1), (1000002, .elem 20 1 T2F 0 0)], [], [], 0⟩ (True) Tryd_mixed (by kernel_rfl) trivial ?_
  refine thenQ_normal ?_
  refine AWp.seq ?_
  obtain ⟨r2, hr2, h⟩ := bind_ok h
  refine AWp.regC [] [(1, ⟨[.int .i64 x1, .int .i64 (10 : Int)], [], [], [], .str r2, [], [], [2]⟩)] [2, 1000002] [] ⟨5, [(2, .str r2), (1000002, .elem 20 1 T2F 0 0)], [], [], 0⟩ ((callP Tryd.prog true 93 [(2, .elem 20 1 T2F 0 0)] [] [] [] [] [.int .i64 x1, .int .i64 (10 : Int)] [.int .i64 x1, .int .i64 (10 : Int)] (.str r2) []) ∧ True) Tryd_mixed (by kernel_rfl) ⟨⟨fun _ => (f93_ok x1 (10 : Int) r2 hr2), fun _ => ⟨.refl _, .refl _, trivial⟩, .inl rfl⟩, trivial⟩ ?_
  refine thenQ_normal ?_
  have hret := Option.some.inj h
  subst hret
  refine AWp.le (Le.mk (s := ⟨5, [(2, .str r2), (1000002, .elem 20 1 T2F 0 0)], [], [], 0⟩) (s' := ⟨5, [(2, .str r2)], [], [], 0⟩) rfl rfl ⟨.refl _, trivial⟩ trivial) ?_
  refine AWp.ret ?_
  exact bodyQ_ret _ rfl ⟨rfl, rfl⟩ rfl
def f77 (x1 : Int) : Option (List UInt8) :=
  (f88 x1).bind fun (r2 : List UInt8) =>
  some r2
set_option maxRecDepth 100000 in
theorem f77_ok  (x1 : Int) (r : List UInt8) (h : f77 x1 = some r)  : Spec1 Tryd.prog 77 [(2, .elem 20 1 T2F 0 0)] [] [] [.int .i64 x1] (.str r) [] := by
  unfold f77 at h
  refine Spec1.body 0 _ _ Tryd.func77 rfl Tryd.ntmps77 rfl rfl ?_
  refine AWp.seq ?_
  refine AWp.regC [] [] [0, 1000002] [] ⟨5, [(0, .int .i64 x1), (1000002, .elem 20 1 T2F 0 0)], [], [], 0⟩ (True) Tryd_mixed (by kernel_rfl) trivial ?_
  refine thenQ_normal ?_
  refine AWp.seq ?_
  obtain ⟨r2, hr2, h⟩ := bind_ok h
  refine AWp.regC [] [(1, ⟨[.int .i64 x1], [], [], [], .str r2, [], [], [2]⟩)] [2, 1000002] [] ⟨5, [(2, .str r2), (1000002, .elem 20 1 T2F 0 0)], [], [], 0⟩ ((callP Tryd.prog true 88 [(2, .elem 20 1 T2F 0 0)] [] [] [] [] [.int .i64 x1] [.int .i64 x1] (.str r2) []) ∧ True) Tryd_mixed (by kernel_rfl) ⟨⟨fun _ => (f88_ok x1 r2 hr2), fun _ => ⟨.refl _, trivial⟩, .inl rfl⟩, trivial⟩ ?_
  refine thenQ_normal ?_
  have hret := Option.some.inj h
  subst hret
  refine AWp.le (Le.mk (s := ⟨5, [(2, .str r2), (1000002, .elem 20 1 T2F 0 0)], [], [], 0⟩) (s' := ⟨5, [(2, .str r2)], [], [], 0⟩) rfl rfl ⟨.refl _, trivial⟩ trivial) ?_
  refine AWp.ret ?_
  exact bodyQ_ret _ rfl ⟨rfl, rfl⟩ rfl
def f61 (x1 : List (List UInt8)) (x2 : List UInt8) : Option (List UInt8) := joinP x1 x2
theorem f61_ok (x1 : List (List UInt8)) (x2 : List UInt8) (r : List UInt8) (h : f61 x1 x2 = some r) : Spec1 Tryd.prog 61 [] [] [] [vL 1 eS [] x1, .str x2] (.str r) [] :=
  join_spec (fun a c sep w => Any.strings_Join_none Tryd.lays156 Tryd.Builder_Extra_156 a c sep w) (fun bk o c xs sep w h1 h2 h3 h4 h5 => Any.strings_Join Tryd.lays156 Tryd.Builder_Extra_156 bk o c xs sep w h1 h2 h3 h4 h5) x1 x2 r h
def f60_L0 (K1 : (List (List UInt8)) → Option (List UInt8)) (r2 : List Int) : Nat → (Nat × List (List UInt8)) → Option (List UInt8)
  | 0, _ => none
  | k + 1, (n3, l4) =>
    if (decide (((n3 : Nat) : Int) < (((r2).length : Nat) : Int))) then (
    chk (((n3 : Nat) : Int) < (((r2).length : Nat) : Int)) <|
    chk (n3 < (r2).length) <|
    (f77 (r2.getD n3 0)).bind fun (r5 : List UInt8) =>
    chk (((l4).length + 1) * 16 ≤ 140737488355328) <|
    chk ((((n3 : Nat) : Int) + (1 : Int)) ≤ 9223372036854775807) <|
    (f60_L0 K1 r2 k) ((n3 + 1), (l4 ++ [r5]))
    ) else (
    K1 l4
    )
def f60 (x1 : BitVec 16) : Option (List UInt8) :=
  jn (fun (l6 : List (List UInt8)) =>
  (f61 l6 ([32] : List UInt8)).bind fun (r7 : List UInt8) =>
  chk (([123] : List UInt8).length + r7.length ≤ 9223372036854775807) <|
  chk ((([123] : List UInt8) ++ r7).length + ([125] : List UInt8).length ≤ 9223372036854775807) <|
  some ((([123] : List UInt8) ++ r7) ++ ([125] : List UInt8))
  ) fun (K1 : (List (List UInt8)) → Option (List UInt8)) =>
  (f76 x1).bind fun (r2 : List Int) =>
  f60_L0 K1 r2 FUEL (0, [])
set_option maxRecDepth 100000 in
theorem f60_ok  (x1 : BitVec 16) (r : List UInt8) (h : f60 x1 = some r)  : Spec1 Tryd.prog 60 [(0, .elem 32 1 T0F 0 0), (2, .elem 20 1 T2F 0 0)] [] [] [.b16 x1] (.str r) [] := by
  unfold f60 at h
  refine Spec1.body 0 _ _ Tryd.func60 rfl Tryd.ntmps60 rfl rfl ?_
  refine AWp.seq ?_
  refine AWp.regC [] [] [0, 1000000, 1000002] [] ⟨23, [(0, .b16 x1), (1000000, .elem 32 1 T0F 0 0), (1000002, .elem 20 1 T2F 0 0)], [], [], 0⟩ (True) Tryd_mixed (by kernel_rfl) trivial ?_
  refine thenQ_normal ?_
  refine AWp.seq ?_
  refine AWp.regC [] [] [0, 3, 1000000, 1000002] [] ⟨23, [(0, .b16 x1), (3, .nils), (1000000, .elem 32 1 T0F 0 0), (1000002, .elem 20 1 T2F 0 0)], [], [], 0⟩ (True) Tryd_mixed (by kernel_rfl) trivial ?_
  refine thenQ_normal ?_
  obtain ⟨K1, hK1, h⟩ := jn_some h
  refine AWp.join (α := List (List UInt8)) (fun (l6 : List (List UInt8)) => ⟨23, [(3, .own 5003), (1000000, .elem 32 1 T0F 0 0), (1000002, .elem 20 1 T2F 0 0)], [(5003, bL 9 1 eS [] l6)], [], 0⟩) (fun x => K1 x = some r) ?_ ?_
  ·
    refine AWp.seq ?_
    obtain ⟨r2, hr2, h⟩ := bind_ok h
    refine AWp.regC [] [(1, ⟨[.b16 x1], [], [], [(6001, bL 3 1 eI 0 r2)], .own 6001, [6001], [], [0]⟩)] [3, 7, 8, 9, 1000000, 1000002] [6001] ⟨23, [(3, .nils), (7, .own 6001), (8, .int .i64 (((r2).length : Nat) : Int)), (9, .int .i64 (0 : Int)), (1000000, .elem 32 1 T0F 0 0), (1000002, .elem 20 1 T2F 0 0)], [(6001, bL 3 1 eI 0 r2)], [], 0⟩ ((callP Tryd.prog true 76 [(0, .elem 32 1 T0F 0 0)] [] [] [] [] [.b16 x1] [.b16 x1] (.own 6001) [(6001, bL 3 1 eI 0 r2)]) ∧ True) Tryd_mixed (by kernel_rfl) ⟨⟨fun _ => (Spec1.ren (swapN 3000 6001) (swapN_inv 3000 6001) rfl (f76_ok x1 r2 hr2)), fun _ => ⟨.refl _, trivial⟩, .inl rfl⟩, trivial⟩ ?_
    refine thenQ_normal ?_
    refine AWp.block ?_
    refine AWp.loopL (α := Nat × (Nat × List (List UInt8))) (fun x => match x with | (_, n3, l4) => ⟨23, [(3, .own 5003), (7, .own 6001), (8, .int .i64 (((r2).length : Nat) : Int)), (9, .int .i64 ((n3 : Nat) : Int)), (1000000, .elem 32 1 T0F 0 0), (1000002, .elem 20 1 T2F 0 0)], [(5003, bL 9 1 eS [] l4), (6001, bL 3 1 eI 0 r2)], [], 0⟩) (fun x => f60_L0 K1 r2 x.1 x.2 = some r) (fun x => x.1) (FUEL, 0, []) (Le.trans (Le.trans (Le.nilOwn (s := ⟨23, [(3, .nils), (7, .own 6001), (8, .int .i64 (((r2).length : Nat) : Int)), (9, .int .i64 (0 : Int)), (1000000, .elem 32 1 T0F 0 0), (1000002, .elem 20 1 T2F 0 0)], [(6001, bL 3 1 eI 0 r2)], [], 0⟩) 3 5003 9 1 (encF eS [] []) rfl rfl (Nat.le_of_ble_eq_true rfl)) (Le.mk (s' := ⟨23, [(3, .own 5003), (7, .own 6001), (8, .int .i64 (((r2).length : Nat) : Int)), (9, .int .i64 (0 : Int)), (1000000, .elem 32 1 T0F 0 0), (1000002, .elem 20 1 T2F 0 0)], [(6001, bL 3 1 eI 0 r2), (5003, bL 9 1 eS [] [])], [], 0⟩) rfl rfl ⟨.refl _, .refl _, .refl _, .refl _, .refl _, .refl _, trivial⟩ ⟨⟨_, rfl, .refl _⟩, ⟨_, rfl, .refl _⟩, trivial⟩)) (Le.mk (s := ⟨23, [(3, .own 5003), (7, .own 6001), (8, .int .i64 (((r2).length : Nat) : Int)), (9, .int .i64 (0 : Int)), (1000000, .elem 32 1 T0F 0 0), (1000002, .elem 20 1 T2F 0 0)], [(6001, bL 3 1 eI 0 r2), (5003, bL 9 1 eS [] [])], [], 0⟩) (s' := ⟨23, [(3, .own 5003), (7, .own 6001), (8, .int .i64 (((r2).length : Nat) : Int)), (9, .int .i64 (0 : Int)), (1000000, .elem 32 1 T0F 0 0), (1000002, .elem 20 1 T2F 0 0)], [(5003, bL 9 1 eS [] []), (6001, bL 3 1 eI 0 r2)], [], 0⟩) rfl rfl ⟨.refl _, .refl _, .refl _, .refl _, .refl _, .refl _, trivial⟩ ⟨⟨_, rfl, .refl _⟩, ⟨_, rfl, .refl _⟩, trivial⟩)) h ?_
    rintro ⟨k0, n3, l4⟩ h
    cases k0 with
    | zero => exact nomatch (show (none : Option (List UInt8)) = some r from h)
    | succ k0 =>
    obtain ⟨C0, hC0⟩ : ∃ C, C = f60_L0 K1 r2 k0 := ⟨_, rfl⟩
    replace h := (f60_L0.eq_2 ..).symm.trans h
    try rw [← hC0] at h
    refine AWp.seq ?_
    refine AWp.regC [] [] [3, 7, 8, 9, 10, 1000000, 1000002] [5003, 6001] ⟨23, [(3, .own 5003), (7, .own 6001), (8, .int .i64 (((r2).length : Nat) : Int)), (9, .int .i64 ((n3 : Nat) : Int)), (10, .bool (decide (((n3 : Nat) : Int) < (((r2).length : Nat) : Int)))), (1000000, .elem 32 1 T0F 0 0), (1000002, .elem 20 1 T2F 0 0)], [(5003, bL 9 1 eS [] l4), (6001, bL 3 1 eI 0 r2)], [], 0⟩ (True) Tryd_mixed (by kernel_rfl) trivial ?_
    refine thenQ_normal ?_
    refine AWp.seq ?_
    refine AWp.cond (b := (decide (((n3 : Nat) : Int) < (((r2).length : Nat) : Int)))) (by kernel_rfl) (fun hc1 => ?_) (fun hc1 => ?_)
    ·
      replace h := ite_tb hc1 h
      refine AWp.skip ?_
      refine thenQ_normal ?_
      refine AWp.seq ?_
      refine AWp.block ?_
      refine AWp.seq ?_
      obtain ⟨ob0p, h⟩ := chk_some h
      have ob0 : 0 ≤ ((n3 : Nat) : Int) ∧ ((n3 : Nat) : Int) < (((r2).length : Nat) : Int) := ⟨by omega, ob0p⟩
      obtain ⟨ob1, h⟩ := chk_some h
      refine AWp.regC [] [] [3, 5, 7, 8, 9, 1000000, 1000002] [5003, 6001] ⟨23, [(3, .own 5003), (5, .int .i64 (r2.getD n3 0)), (7, .own 6001), (8, .int .i64 (((r2).length : Nat) : Int)), (9, .int .i64 ((n3 : Nat) : Int)), (1000000, .elem 32 1 T0F 0 0), (1000002, .elem 20 1 T2F 0 0)], [(5003, bL 9 1 eS [] l4), (6001, bL 3 1 eI 0 r2)], [], 0⟩ ((0 ≤ ((n3 : Nat) : Int) ∧ ((n3 : Nat) : Int) < (((r2).length : Nat) : Int)) ∧ (n3 < (r2).length) ∧ True) Tryd_mixed (by kernel_rfl) ⟨ob0, ob1, trivial⟩ ?_
      refine thenQ_normal ?_
      obtain ⟨r5, hr5, h⟩ := bind_ok h
      obtain ⟨ob2, h⟩ := chk_some h
      refine AWp.regC [] [(2, ⟨[.int .i64 (r2.getD n3 0)], [], [], [], .str r5, [], [], [2]⟩)] [3, 7, 8, 9, 1000000, 1000002] [5003, 6001] ⟨23, [(3, .own 5003), (7, .own 6001), (8, .int .i64 (((r2).length : Nat) : Int)), (9, .int .i64 ((n3 : Nat) : Int)), (1000000, .elem 32 1 T0F 0 0), (1000002, .elem 20 1 T2F 0 0)], [(5003, .rows 9 1 ((l4).length + 1) (appF (l4).length (encF eS [] l4) (lstF 1 [.str r5]))), (6001, bL 3 1 eI 0 r2)], [], 0⟩ ((callP Tryd.prog true 77 [(2, .elem 20 1 T2F 0 0)] [] [] [] [] [.int .i64 (r2.getD n3 0)] [.int .i64 (r2.getD n3 0)] (.str r5) []) ∧ (((l4).length + 1) * 16 ≤ 140737488355328) ∧ True) Tryd_mixed (by kernel_rfl) ⟨⟨fun _ => (f77_ok (r2.getD n3 0) r5 hr5), fun _ => ⟨.refl _, trivial⟩, .inl rfl⟩, ob2, trivial⟩ ?_
      refine blockQ_normal ?_
      refine thenQ_normal ?_
      refine AWp.le (Le.mk (s := ⟨23, [(3, .own 5003), (7, .own 6001), (8, .int .i64 (((r2).length : Nat) : Int)), (9, .int .i64 ((n3 : Nat) : Int)), (1000000, .elem 32 1 T0F 0 0), (1000002, .elem 20 1 T2F 0 0)], [(5003, .rows 9 1 ((l4).length + 1) (appF (l4).length (encF eS [] l4) (lstF 1 [.str r5]))), (6001, bL 3 1 eI 0 r2)], [], 0⟩) (s' := ⟨23, [(3, .own 5003), (7, .own 6001), (8, .int .i64 (((r2).length : Nat) : Int)), (9, .int .i64 ((n3 : Nat) : Int)), (1000000, .elem 32 1 T0F 0 0), (1000002, .elem 20 1 T2F 0 0)], [(5003, bL 9 1 eS [] (l4 ++ [r5])), (6001, bL 3 1 eI 0 r2)], [], 0⟩) rfl rfl ⟨.refl _, .refl _, .refl _, .refl _, .refl _, .refl _, trivial⟩ ⟨⟨_, rfl, (BLe.of (RL.app (RL.self _) (RL.lst (enc := eS) [r5] rfl rfl (fun _ => rfl))))⟩, ⟨_, rfl, .refl _⟩, trivial⟩) ?_
      obtain ⟨ob3p, h⟩ := chk_some h
      have ob3 : -9223372036854775808 ≤ (((n3 : Nat) : Int) + (1 : Int)) ∧ (((n3 : Nat) : Int) + (1 : Int)) ≤ 9223372036854775807 := ⟨by omega, ob3p⟩
      refine AWp.regC [] [] [3, 7, 8, 9, 1000000, 1000002] [5003, 6001] ⟨23, [(3, .own 5003), (7, .own 6001), (8, .int .i64 (((r2).length : Nat) : Int)), (9, .int .i64 (((n3 + 1) : Nat) : Int)), (1000000, .elem 32 1 T0F 0 0), (1000002, .elem 20 1 T2F 0 0)], [(5003, bL 9 1 eS [] (l4 ++ [r5])), (6001, bL 3 1 eI 0 r2)], [], 0⟩ ((-9223372036854775808 ≤ (((n3 : Nat) : Int) + (1 : Int)) ∧ (((n3 : Nat) : Int) + (1 : Int)) ≤ 9223372036854775807) ∧ True) Tryd_mixed (by kernel_rfl) ⟨ob3, trivial⟩ ?_
      rw [hC0] at h
      exact loopQ_normal (_, (n3 + 1), (l4 ++ [r5])) (Le.mk (s := ⟨23, [(3, .own 5003), (7, .own 6001), (8, .int .i64 (((r2).length : Nat) : Int)), (9, .int .i64 (((n3 + 1) : Nat) : Int)), (1000000, .elem 32 1 T0F 0 0), (1000002, .elem 20 1 T2F 0 0)], [(5003, bL 9 1 eS [] (l4 ++ [r5])), (6001, bL 3 1 eI 0 r2)], [], 0⟩) (s' := ⟨23, [(3, .own 5003), (7, .own 6001), (8, .int .i64 (((r2).length : Nat) : Int)), (9, .int .i64 (((n3 + 1) : Nat) : Int)), (1000000, .elem 32 1 T0F 0 0), (1000002, .elem 20 1 T2F 0 0)], [(5003, bL 9 1 eS [] (l4 ++ [r5])), (6001, bL 3 1 eI 0 r2)], [], 0⟩) rfl rfl ⟨.refl _, .refl _, .refl _, .refl _, .refl _, .refl _, trivial⟩ ⟨⟨_, rfl, .refl _⟩, ⟨_, rfl, .refl _⟩, trivial⟩) h (Nat.lt_succ_self _)
    ·
      replace h := ite_fb hc1 h
      refine AWp.exit ?_
      refine thenQ_exit ?_
      refine thenQ_exit ?_
      refine blockQ_same ?_
      exact joinQ_normal (l4) (Le.mk (s := ⟨23, [(3, .own 5003), (7, .own 6001), (8, .int .i64 (((r2).length : Nat) : Int)), (9, .int .i64 ((n3 : Nat) : Int)), (10, .bool (decide (((n3 : Nat) : Int) < (((r2).length : Nat) : Int)))), (1000000, .elem 32 1 T0F 0 0), (1000002, .elem 20 1 T2F 0 0)], [(5003, bL 9 1 eS [] l4), (6001, bL 3 1 eI 0 r2)], [], 0⟩) (s' := ⟨23, [(3, .own 5003), (1000000, .elem 32 1 T0F 0 0), (1000002, .elem 20 1 T2F 0 0)], [(5003, bL 9 1 eS [] l4)], [], 0⟩) rfl rfl ⟨.refl _, .refl _, .refl _, trivial⟩ ⟨⟨_, rfl, .refl _⟩, trivial⟩) h
  ·
    rintro l6 h
    replace h := (congrFun hK1 _).symm.trans h
    refine AWp.seq ?_
    obtain ⟨r7, hr7, h⟩ := bind_ok h
    obtain ⟨ob4, h⟩ := chk_some h
    obtain ⟨ob5, h⟩ := chk_some h
    refine AWp.regC [] [(1, ⟨[vL 1 eS [] l6, .str ([32] : List UInt8)], [], [], [], .str r7, [], [5003], []⟩)] [2, 1000000, 1000002] [] ⟨23, [(2, .str ((([123] : List UInt8) ++ r7) ++ ([125] : List UInt8))), (1000000, .elem 32 1 T0F 0 0), (1000002, .elem 20 1 T2F 0 0)], [], [], 0⟩ ((callP Tryd.prog true 61 [] [] [] [(5003, bL 9 1 eS [] l6)] [5003] [.own 5003, .str ([32] : List UInt8)] [vL 1 eS [] l6, .str ([32] : List UInt8)] (.str r7) []) ∧ (([123] : List UInt8).length + r7.length ≤ 9223372036854775807) ∧ ((([123] : List UInt8) ++ r7).length + ([125] : List UInt8).length ≤ 9223372036854775807) ∧ True) Tryd_mixed (by kernel_rfl) ⟨⟨fun _ => (f61_ok l6 ([32] : List UInt8) r7 hr7), fun _ => ⟨.refl _, .refl _, trivial⟩, .inr ⟨rfl, trivial⟩⟩, ob4, ob5, trivial⟩ ?_
    refine thenQ_normal ?_
    have hret := Option.some.inj h
    subst hret
    refine AWp.le (Le.mk (s := ⟨23, [(2, .str ((([123] : List UInt8) ++ r7) ++ ([125] : List UInt8))), (1000000, .elem 32 1 T0F 0 0), (1000002, .elem 20 1 T2F 0 0)], [], [], 0⟩) (s' := ⟨23, [(2, .str ((([123] : List UInt8) ++ r7) ++ ([125] : List UInt8)))], [], [], 0⟩) rfl rfl ⟨.refl _, trivial⟩ trivial) ?_
    refine AWp.ret ?_
    exact bodyQ_ret _ rfl ⟨rfl, rfl⟩ rfl
def f37_L0 (x1 : List (BitVec 16)) (K1 : (List (List UInt8)) → Option (List UInt8)) : Nat → (Nat × List (List UInt8)) → Option (List UInt8)
  | 0, _ => none
  | k + 1, (n2, l3) =>
    if (decide (((n2 : Nat) : Int) < (((x1).length : Nat) : Int))) then (
    chk (((n2 : Nat) : Int) < (((x1).length : Nat) : Int)) <|
    (f60 (x1.getD n2 0#16)).bind fun (r4 : List UInt8) =>
    chk (((l3).length + 1) * 16 ≤ 140737488355328) <|
    chk ((((n2 : Nat) : Int) + (1 : Int)) ≤ 9223372036854775807) <|
    (f37_L0 x1 K1 k) ((n2 + 1), (l3 ++ [r4]))
    ) else (
    K1 l3
    )
def f37 (x1 : List (BitVec 16)) : Option (List UInt8) :=
  jn (fun (l5 : List (List UInt8)) =>
  (f61 l5 ([32] : List UInt8)).bind fun (r6 : List UInt8) =>
  some r6
  ) fun (K1 : (List (List UInt8)) → Option (List UInt8)) =>
  f37_L0 x1 K1 FUEL (0, [])
set_option maxRecDepth 100000 in
theorem f37_ok  (x1 : List (BitVec 16)) (r : List UInt8) (h : f37 x1 = some r)  : Spec1 Tryd.prog 37 [(0, .elem 32 1 T0F 0 0), (2, .elem 20 1 T2F 0 0)] [] [] [vL 1 eW 0#16 x1] (.str r) [] := by
  unfold f37 at h
  refine Spec1.body 0 _ _ Tryd.func37 rfl Tryd.ntmps37 rfl rfl ?_
  refine AWp.seq ?_
  refine AWp.regC [] [] [0, 1000000, 1000002] [] ⟨20, [(0, vL 1 eW 0#16 x1), (1000000, .elem 32 1 T0F 0 0), (1000002, .elem 20 1 T2F 0 0)], [], [], 0⟩ (True) Tryd_mixed (by kernel_rfl) trivial ?_
  refine thenQ_normal ?_
  refine AWp.seq ?_
  refine AWp.regC [] [] [0, 3, 1000000, 1000002] [] ⟨20, [(0, vL 1 eW 0#16 x1), (3, .nils), (1000000, .elem 32 1 T0F 0 0), (1000002, .elem 20 1 T2F 0 0)], [], [], 0⟩ (True) Tryd_mixed (by kernel_rfl) trivial ?_
  refine thenQ_normal ?_
  obtain ⟨K1, hK1, h⟩ := jn_some h
  refine AWp.join (α := List (List UInt8)) (fun (l5 : List (List UInt8)) => ⟨20, [(3, .own 5003), (1000000, .elem 32 1 T0F 0 0), (1000002, .elem 20 1 T2F 0 0)], [(5003, bL 9 1 eS [] l5)], [], 0⟩) (fun x => K1 x = some r) ?_ ?_
  ·
    refine AWp.seq ?_
    refine AWp.regC [] [] [3, 6, 7, 8, 1000000, 1000002] [] ⟨20, [(3, .nils), (6, vL 1 eW 0#16 x1), (7, .int .i64 (((x1).length : Nat) : Int)), (8, .int .i64 (0 : Int)), (1000000, .elem 32 1 T0F 0 0), (1000002, .elem 20 1 T2F 0 0)], [], [], 0⟩ (True) Tryd_mixed (by kernel_rfl) trivial ?_
    refine thenQ_normal ?_
    refine AWp.block ?_
    refine AWp.loopL (α := Nat × (Nat × List (List UInt8))) (fun x => match x with | (_, n2, l3) => ⟨20, [(3, .own 5003), (6, vL 1 eW 0#16 x1), (7, .int .i64 (((x1).length : Nat) : Int)), (8, .int .i64 ((n2 : Nat) : Int)), (1000000, .elem 32 1 T0F 0 0), (1000002, .elem 20 1 T2F 0 0)], [(5003, bL 9 1 eS [] l3)], [], 0⟩) (fun x => f37_L0 x1 K1 x.1 x.2 = some r) (fun x => x.1) (FUEL, 0, []) (Le.trans (Le.trans (Le.nilOwn (s := ⟨20, [(3, .nils), (6, vL 1 eW 0#16 x1), (7, .int .i64 (((x1).length : Nat) : Int)), (8, .int .i64 (0 : Int)), (1000000, .elem 32 1 T0F 0 0), (1000002, .elem 20 1 T2F 0 0)], [], [], 0⟩) 3 5003 9 1 (encF eS [] []) rfl rfl (Nat.le_of_ble_eq_true rfl)) (Le.mk (s' := ⟨20, [(3, .own 5003), (6, vL 1 eW 0#16 x1), (7, .int .i64 (((x1).length : Nat) : Int)), (8, .int .i64 (0 : Int)), (1000000, .elem 32 1 T0F 0 0), (1000002, .elem 20 1 T2F 0 0)], [(5003, bL 9 1 eS [] [])], [], 0⟩) rfl rfl ⟨.refl _, .refl _, .refl _, .refl _, .refl _, .refl _, trivial⟩ ⟨⟨_, rfl, .refl _⟩, trivial⟩)) (Le.mk (s := ⟨20, [(3, .own 5003), (6, vL 1 eW 0#16 x1), (7, .int .i64 (((x1).length : Nat) : Int)), (8, .int .i64 (0 : Int)), (1000000, .elem 32 1 T0F 0 0), (1000002, .elem 20 1 T2F 0 0)], [(5003, bL 9 1 eS [] [])], [], 0⟩) (s' := ⟨20, [(3, .own 5003), (6, vL 1 eW 0#16 x1), (7, .int .i64 (((x1).length : Nat) : Int)), (8, .int .i64 (0 : Int)), (1000000, .elem 32 1 T0F 0 0), (1000002, .elem 20 1 T2F 0 0)], [(5003, bL 9 1 eS [] [])], [], 0⟩) rfl rfl ⟨.refl _, .refl _, .refl _, .refl _, .refl _, .refl _, trivial⟩ ⟨⟨_, rfl, .refl _⟩, trivial⟩)) h ?_
    rintro ⟨k0, n2, l3⟩ h
    cases k0 with
    | zero => exact nomatch (show (none : Option (List UInt8)) = some r from h)
    | succ k0 =>
    obtain ⟨C0, hC0⟩ : ∃ C, C = f37_L0 x1 K1 k0 := ⟨_, rfl⟩
    replace h := (f37_L0.eq_2 ..).symm.trans h
    try rw [← hC0] at h
    refine AWp.seq ?_
    refine AWp.regC [] [] [3, 6, 7, 8, 9, 1000000, 1000002] [5003] ⟨20, [(3, .own 5003), (6, vL 1 eW 0#16 x1), (7, .int .i64 (((x1).length : Nat) : Int)), (8, .int .i64 ((n2 : Nat) : Int)), (9, .bool (decide (((n2 : Nat) : Int) < (((x1).length : Nat) : Int)))), (1000000, .elem 32 1 T0F 0 0), (1000002, .elem 20 1 T2F 0 0)], [(5003, bL 9 1 eS [] l3)], [], 0⟩ (True) Tryd_mixed (by kernel_rfl) trivial ?_
    refine thenQ_normal ?_
    refine AWp.seq ?_
    refine AWp.cond (b := (decide (((n2 : Nat) : Int) < (((x1).length : Nat) : Int)))) (by kernel_rfl) (fun hc1 => ?_) (fun hc1 => ?_)
    ·
      replace h := ite_tb hc1 h
      refine AWp.skip ?_
      refine thenQ_normal ?_
      refine AWp.seq ?_
      refine AWp.block ?_
      refine AWp.seq ?_
      obtain ⟨ob0p, h⟩ := chk_some h
      have ob0 : 0 ≤ ((n2 : Nat) : Int) ∧ ((n2 : Nat) : Int) < (((x1).length : Nat) : Int) := ⟨by omega, ob0p⟩
      refine AWp.regC [] [] [3, 5, 6, 7, 8, 1000000, 1000002] [5003] ⟨20, [(3, .own 5003), (5, .b16 (x1.getD n2 0#16)), (6, vL 1 eW 0#16 x1), (7, .int .i64 (((x1).length : Nat) : Int)), (8, .int .i64 ((n2 : Nat) : Int)), (1000000, .elem 32 1 T0F 0 0), (1000002, .elem 20 1 T2F 0 0)], [(5003, bL 9 1 eS [] l3)], [], 0⟩ ((0 ≤ ((n2 : Nat) : Int) ∧ ((n2 : Nat) : Int) < (((x1).length : Nat) : Int)) ∧ True) Tryd_mixed (by kernel_rfl) ⟨ob0, trivial⟩ ?_
      refine thenQ_normal ?_
      obtain ⟨r4, hr4, h⟩ := bind_ok h
      obtain ⟨ob1, h⟩ := chk_some h
      refine AWp.regC [] [(2, ⟨[.b16 (x1.getD n2 0#16)], [], [], [], .str r4, [], [], [0, 2]⟩)] [3, 6, 7, 8, 1000000, 1000002] [5003] ⟨20, [(3, .own 5003), (6, vL 1 eW 0#16 x1), (7, .int .i64 (((x1).length : Nat) : Int)), (8, .int .i64 ((n2 : Nat) : Int)), (1000000, .elem 32 1 T0F 0 0), (1000002, .elem 20 1 T2F 0 0)], [(5003, .rows 9 1 ((l3).length + 1) (appF (l3).length (encF eS [] l3) (lstF 1 [.str r4])))], [], 0⟩ ((callP Tryd.prog true 60 [(0, .elem 32 1 T0F 0 0), (2, .elem 20 1 T2F 0 0)] [] [] [] [] [.b16 (x1.getD n2 0#16)] [.b16 (x1.getD n2 0#16)] (.str r4) []) ∧ (((l3).length + 1) * 16 ≤ 140737488355328) ∧ True) Tryd_mixed (by kernel_rfl) ⟨⟨fun _ => (f60_ok (x1.getD n2 0#16) r4 hr4), fun _ => ⟨.refl _, trivial⟩, .inl rfl⟩, ob1, trivial⟩ ?_
      refine blockQ_normal ?_
      refine thenQ_normal ?_
      refine AWp.le (Le.mk (s := ⟨20, [(3, .own 5003), (6, vL 1 eW 0#16 x1), (7, .int .i64 (((x1).length : Nat) : Int)), (8, .int .i64 ((n2 : Nat) : Int)), (1000000, .elem 32 1 T0F 0 0), (1000002, .elem 20 1 T2F 0 0)], [(5003, .rows 9 1 ((l3).length + 1) (appF (l3).length (encF eS [] l3) (lstF 1 [.str r4])))], [], 0⟩) (s' := ⟨20, [(3, .own 5003), (6, vL 1 eW 0#16 x1), (7, .int .i64 (((x1).length : Nat) : Int)), (8, .int .i64 ((n2 : Nat) : Int)), (1000000, .elem 32 1 T0F 0 0), (1000002, .elem 20 1 T2F 0 0)], [(5003, bL 9 1 eS [] (l3 ++ [r4]))], [], 0⟩) rfl rfl ⟨.refl _, .refl _, .refl _, .refl _, .refl _, .refl _, trivial⟩ ⟨⟨_, rfl, (BLe.of (RL.app (RL.self _) (RL.lst (enc := eS) [r4] rfl rfl (fun _ => rfl))))⟩, trivial⟩) ?_
      obtain ⟨ob2p, h⟩ := chk_some h
      have ob2 : -9223372036854775808 ≤ (((n2 : Nat) : Int) + (1 : Int)) ∧ (((n2 : Nat) : Int) + (1 : Int)) ≤ 9223372036854775807 := ⟨by omega, ob2p⟩
      refine AWp.regC [] [] [3, 6, 7, 8, 1000000, 1000002] [5003] ⟨20, [(3, .own 5003), (6, vL 1 eW 0#16 x1), (7, .int .i64 (((x1).length : Nat) : Int)), (8, .int .i64 (((n2 + 1) : Nat) : Int)), (1000000, .elem 32 1 T0F 0 0), (1000002, .elem 20 1 T2F 0 0)], [(5003, bL 9 1 eS [] (l3 ++ [r4]))], [], 0⟩ ((-9223372036854775808 ≤ (((n2 : Nat) : Int) + (1 : Int)) ∧ (((n2 : Nat) : Int) + (1 : Int)) ≤ 9223372036854775807) ∧ True) Tryd_mixed (by kernel_rfl) ⟨ob2, trivial⟩ ?_
      rw [hC0] at h
      exact loopQ_normal (_, (n2 + 1), (l3 ++ [r4])) (Le.mk (s := ⟨20, [(3, .own 5003), (6, vL 1 eW 0#16 x1), (7, .int .i64 (((x1).length : Nat) : Int)), (8, .int .i64 (((n2 + 1) : Nat) : Int)), (1000000, .elem 32 1 T0F 0 0), (1000002, .elem 20 1 T2F 0 0)], [(5003, bL 9 1 eS [] (l3 ++ [r4]))], [], 0⟩) (s' := ⟨20, [(3, .own 5003), (6, vL 1 eW 0#16 x1), (7, .int .i64 (((x1).length : Nat) : Int)), (8, .int .i64 (((n2 + 1) : Nat) : Int)), (1000000, .elem 32 1 T0F 0 0), (1000002, .elem 20 1 T2F 0 0)], [(5003, bL 9 1 eS [] (l3 ++ [r4]))], [], 0⟩) rfl rfl ⟨.refl _, .refl _, .refl _, .refl _, .refl _, .refl _, trivial⟩ ⟨⟨_, rfl, .refl _⟩, trivial⟩) h (Nat.lt_succ_self _)
    ·
      replace h := ite_fb hc1 h
      refine AWp.exit ?_
      refine thenQ_exit ?_
      refine thenQ_exit ?_
      refine blockQ_same ?_
      exact joinQ_normal (l3) (Le.mk (s := ⟨20, [(3, .own 5003), (6, vL 1 eW 0#16 x1), (7, .int .i64 (((x1).length : Nat) : Int)), (8, .int .i64 ((n2 : Nat) : Int)), (9, .bool (decide (((n2 : Nat) : Int) < (((x1).length : Nat) : Int)))), (1000000, .elem 32 1 T0F 0 0), (1000002, .elem 20 1 T2F 0 0)], [(5003, bL 9 1 eS [] l3)], [], 0⟩) (s' := ⟨20, [(3, .own 5003), (1000000, .elem 32 1 T0F 0 0), (1000002, .elem 20 1 T2F 0 0)], [(5003, bL 9 1 eS [] l3)], [], 0⟩) rfl rfl ⟨.refl _, .refl _, .refl _, trivial⟩ ⟨⟨_, rfl, .refl _⟩, trivial⟩) h
  ·
    rintro l5 h
    replace h := (congrFun hK1 _).symm.trans h
    refine AWp.seq ?_
    obtain ⟨r6, hr6, h⟩ := bind_ok h
    refine AWp.regC [] [(1, ⟨[vL 1 eS [] l5, .str ([32] : List UInt8)], [], [], [], .str r6, [], [5003], []⟩)] [2, 1000000, 1000002] [] ⟨20, [(2, .str r6), (1000000, .elem 32 1 T0F 0 0), (1000002, .elem 20 1 T2F 0 0)], [], [], 0⟩ ((callP Tryd.prog true 61 [] [] [] [(5003, bL 9 1 eS [] l5)] [5003] [.own 5003, .str ([32] : List UInt8)] [vL 1 eS [] l5, .str ([32] : List UInt8)] (.str r6) []) ∧ True) Tryd_mixed (by kernel_rfl) ⟨⟨fun _ => (f61_ok l5 ([32] : List UInt8) r6 hr6), fun _ => ⟨.refl _, .refl _, trivial⟩, .inr ⟨rfl, trivial⟩⟩, trivial⟩ ?_
    refine thenQ_normal ?_
    have hret := Option.some.inj h
    subst hret
    refine AWp.le (Le.mk (s := ⟨20, [(2, .str r6), (1000000, .elem 32 1 T0F 0 0), (1000002, .elem 20 1 T2F 0 0)], [], [], 0⟩) (s' := ⟨20, [(2, .str r6)], [], [], 0⟩) rfl rfl ⟨.refl _, trivial⟩ trivial) ?_
    refine AWp.ret ?_
    exact bodyQ_ret _ rfl ⟨rfl, rfl⟩ rfl
def f10  : Option Bool :=
  (f21 [(BitVec.ofInt 16 3), (BitVec.ofInt 16 5), (BitVec.ofInt 16 6)] [(BitVec.ofInt 16 8)]).bind fun (r1 : List (BitVec 16) × Int) =>
  (f19 [(BitVec.ofInt 16 3), (BitVec.ofInt 16 5), (BitVec.ofInt 16 6)] [(BitVec.ofInt 16 8)]).bind fun (r2 : List (BitVec 16) × Int) =>
  (f23 [(BitVec.ofInt 16 3), (BitVec.ofInt 16 5), (BitVec.ofInt 16 6)] (BitVec.ofInt 16 1)).bind fun (r3 : List (BitVec 16) × Int) =>
  (f25 [(BitVec.ofInt 16 3), (BitVec.ofInt 16 5), (BitVec.ofInt 16 6)] (BitVec.ofInt 16 1)).bind fun (r4 : Int × List (BitVec 16)) =>
  (f14 [(BitVec.ofInt 16 3), (BitVec.ofInt 16 2), (BitVec.ofInt 16 5), (BitVec.ofInt 16 2)]).bind fun (r5 : List (BitVec 16) × Int) =>
  (f16 [(BitVec.ofInt 16 3), (BitVec.ofInt 16 2), (BitVec.ofInt 16 5), (BitVec.ofInt 16 2)]).bind fun (r6 : List (BitVec 16) × Int) =>
  if ((((((r1.2 == (0 : Int)) && (r2.2 == (0 : Int))) && (r3.2 == (0 : Int))) && (r4.1 == (0 : Int))) && (r5.2 == (0 : Int))) && (r6.2 == (0 : Int))) = true then (
  (f18 r1.1 [(BitVec.ofInt 16 11), (BitVec.ofInt 16 13), (BitVec.ofInt 16 14)]).bind fun (r7 : Bool) =>
  if r7 = true then (
  (f18 r2.1 [(BitVec.ofInt 16 8), (BitVec.ofInt 16 3), (BitVec.ofInt 16 5), (BitVec.ofInt 16 6)]).bind fun (r8 : Bool) =>
  if r8 = true then (
  (f18 r3.1 [(BitVec.ofInt 16 2), (BitVec.ofInt 16 4)]).bind fun (r9 : Bool) =>
  if r9 = true then (
  (f18 r4.2 [(BitVec.ofInt 16 6)]).bind fun (r10 : Bool) =>
  if r10 = true then (
  (f18 r5.1 [(BitVec.ofInt 16 2), (BitVec.ofInt 16 5)]).bind fun (r11 : Bool) =>
  if r11 = true then (
  (f18 r6.1 [(BitVec.ofInt 16 3), (BitVec.ofInt 16 5)]).bind fun (r12 : Bool) =>
  optc (r12 == true) (f37 r1.1) fun (r13 : List UInt8) =>
  some (r12 && (r13 == cs4))
  ) else (
  some false
  )
  ) else (
  some false
  )
  ) else (
  some false
  )
  ) else (
  some false
  )
  ) else (
  some false
  )
  ) else (
  some false
  )
set_option maxRecDepth 100000 in
theorem f10_ok   (r : Bool) (h : f10 = some r)  : Spec1 Tryd.prog 10 [(0, .elem 32 1 T0F 0 0), (2, .elem 20 1 T2F 0 0)] [] [] [] (.bool r) [] := by
  unfold f10 at h
  refine Spec1.body 0 _ _ Tryd.func10 rfl Tryd.ntmps10 rfl rfl ?_
  refine AWp.seq ?_
  refine AWp.regC [] [] [1000000, 1000002] [] ⟨106, [(1000000, .elem 32 1 T0F 0 0), (1000002, .elem 20 1 T2F 0 0)], [], [], 0⟩ (True) Tryd_mixed (by kernel_rfl) trivial ?_
  refine thenQ_normal ?_
  refine AWp.seq ?_
  refine AWp.regC [] [] [1, 1000000, 1000002] [15] ⟨106, [(1, .own 15), (1000000, .elem 32 1 T0F 0 0), (1000002, .elem 20 1 T2F 0 0)], [(15, .rows 28 1 3 (lstF 1 [.b16 (BitVec.ofInt 16 3), .b16 (BitVec.ofInt 16 5), .b16 (BitVec.ofInt 16 6)]))], [], 0⟩ (True) Tryd_mixed (by kernel_rfl) trivial ?_
  refine thenQ_normal ?_
  refine AWp.le (Le.mk (s := ⟨106, [(1, .own 15), (1000000, .elem 32 1 T0F 0 0), (1000002, .elem 20 1 T2F 0 0)], [(15, .rows 28 1 3 (lstF 1 [.b16 (BitVec.ofInt 16 3), .b16 (BitVec.ofInt 16 5), .b16 (BitVec.ofInt 16 6)]))], [], 0⟩) (s' := ⟨106, [(1, .own 15), (1000000, .elem 32 1 T0F 0 0), (1000002, .elem 20 1 T2F 0 0)], [(15, bL 28 1 eW 0#16 [(BitVec.ofInt 16 3), (BitVec.ofInt 16 5), (BitVec.ofInt 16 6)])], [], 0⟩) rfl rfl ⟨.refl _, .refl _, .refl _, trivial⟩ ⟨⟨_, rfl, (BLe.of (RL.lst (enc := eW) [(BitVec.ofInt 16 3), (BitVec.ofInt 16 5), (BitVec.ofInt 16 6)] rfl rfl (fun _ => rfl)))⟩, trivial⟩) ?_
  refine AWp.seq ?_
  refine AWp.le (Le.trans (Le.freeze (s := ⟨106, [(1, .own 15), (1000000, .elem 32 1 T0F 0 0), (1000002, .elem 20 1 T2F 0 0)], [(15, bL 28 1 eW 0#16 [(BitVec.ofInt 16 3), (BitVec.ofInt 16 5), (BitVec.ofInt 16 6)])], [], 0⟩) 15 rfl rfl) (Le.mk (s' := ⟨106, [(1, vL 1 eW 0#16 [(BitVec.ofInt 16 3), (BitVec.ofInt 16 5), (BitVec.ofInt 16 6)]), (1000000, .elem 32 1 T0F 0 0), (1000002, .elem 20 1 T2F 0 0)], [], [], 0⟩) rfl rfl ⟨.refl _, .refl _, .refl _, trivial⟩ trivial)) ?_
  obtain ⟨r1, hr1, h⟩ := bind_ok h
  refine AWp.regC [] [(2, ⟨[vL 1 eW 0#16 [(BitVec.ofInt 16 3), (BitVec.ofInt 16 5), (BitVec.ofInt 16 6)], .own 18], [18], [], [], .tup [vL 1 eW 0#16 r1.1, .int .i64 r1.2], [], [], []⟩)] [1, 2, 3, 1000000, 1000002] [] ⟨106, [(1, vL 1 eW 0#16 [(BitVec.ofInt 16 3), (BitVec.ofInt 16 5), (BitVec.ofInt 16 6)]), (2, vL 1 eW 0#16 r1.1), (3, .int .i64 r1.2), (1000000, .elem 32 1 T0F 0 0), (1000002, .elem 20 1 T2F 0 0)], [], [], 0⟩ ((callP Tryd.prog true 21 [] [] [(18, .rows 28 1 1 (lstF 1 [.b16 (BitVec.ofInt 16 8)]))] [] [] [vL 1 eW 0#16 [(BitVec.ofInt 16 3), (BitVec.ofInt 16 5), (BitVec.ofInt 16 6)], .own 18] [vL 1 eW 0#16 [(BitVec.ofInt 16 3), (BitVec.ofInt 16 5), (BitVec.ofInt 16 6)], .own 18] (.tup [vL 1 eW 0#16 r1.1, .int .i64 r1.2]) []) ∧ True) Tryd_mixed (by kernel_rfl) ⟨⟨fun _ => (Spec1.pre (f21_ok [(BitVec.ofInt 16 3), (BitVec.ofInt 16 5), (BitVec.ofInt 16 6)] [(BitVec.ofInt 16 8)] r1 hr1) rfl rfl rfl (Le.trans (Le.mk (s := ⟨2, [(0, vL 1 eW 0#16 [(BitVec.ofInt 16 3), (BitVec.ofInt 16 5), (BitVec.ofInt 16 6)]), (1, .own 18)], [(18, .rows 28 1 1 (lstF 1 [.b16 (BitVec.ofInt 16 8)]))], [], 0⟩) (s' := ⟨2, [(0, vL 1 eW 0#16 [(BitVec.ofInt 16 3), (BitVec.ofInt 16 5), (BitVec.ofInt 16 6)]), (1, .own 18)], [(18, bL 28 1 eW 0#16 [(BitVec.ofInt 16 8)])], [], 0⟩) rfl rfl ⟨.refl _, .refl _, trivial⟩ ⟨⟨_, rfl, (BLe.of (RL.lst (enc := eW) [(BitVec.ofInt 16 8)] rfl rfl (fun _ => rfl)))⟩, trivial⟩) (Le.trans (Le.freeze (s := ⟨2, [(0, vL 1 eW 0#16 [(BitVec.ofInt 16 3), (BitVec.ofInt 16 5), (BitVec.ofInt 16 6)]), (1, .own 18)], [(18, bL 28 1 eW 0#16 [(BitVec.ofInt 16 8)])], [], 0⟩) 18 rfl rfl) (Le.mk (s' := ⟨2, [(0, vL 1 eW 0#16 [(BitVec.ofInt 16 3), (BitVec.ofInt 16 5), (BitVec.ofInt 16 6)]), (1, vL 1 eW 0#16 [(BitVec.ofInt 16 8)])], [], [], 0⟩) rfl rfl ⟨.refl _, .refl _, trivial⟩ trivial)))), fun _ => ⟨.refl _, .refl _, trivial⟩, .inl rfl⟩, trivial⟩ ?_
  refine thenQ_normal ?_
  refine AWp.seq ?_
  obtain ⟨r2, hr2, h⟩ := bind_ok h
  refine AWp.regC [] [(2, ⟨[vL 1 eW 0#16 [(BitVec.ofInt 16 3), (BitVec.ofInt 16 5), (BitVec.ofInt 16 6)], .own 24], [24], [], [], .tup [vL 1 eW 0#16 r2.1, .int .i64 r2.2], [], [], []⟩)] [1, 2, 3, 4, 5, 1000000, 1000002] [] ⟨106, [(1, vL 1 eW 0#16 [(BitVec.ofInt 16 3), (BitVec.ofInt 16 5), (BitVec.ofInt 16 6)]), (2, vL 1 eW 0#16 r1.1), (3, .int .i64 r1.2), (4, vL 1 eW 0#16 r2.1), (5, .int .i64 r2.2), (1000000, .elem 32 1 T0F 0 0), (1000002, .elem 20 1 T2F 0 0)], [], [], 0⟩ ((callP Tryd.prog true 19 [] [] [(24, .rows 28 1 1 (lstF 1 [.b16 (BitVec.ofInt 16 8)]))] [] [] [vL 1 eW 0#16 [(BitVec.ofInt 16 3), (BitVec.ofInt 16 5), (BitVec.ofInt 16 6)], .own 24] [vL 1 eW 0#16 [(BitVec.ofInt 16 3), (BitVec.ofInt 16 5), (BitVec.ofInt 16 6)], .own 24] (.tup [vL 1 eW 0#16 r2.1, .int .i64 r2.2]) []) ∧ True) Tryd_mixed (by kernel_rfl) ⟨⟨fun _ => (Spec1.pre (f19_ok [(BitVec.ofInt 16 3), (BitVec.ofInt 16 5), (BitVec.ofInt 16 6)] [(BitVec.ofInt 16 8)] r2 hr2) rfl rfl rfl (Le.trans (Le.mk (s := ⟨2, [(0, vL 1 eW 0#16 [(BitVec.ofInt 16 3), (BitVec.ofInt 16 5), (BitVec.ofInt 16 6)]), (1, .own 24)], [(24, .rows 28 1 1 (lstF 1 [.b16 (BitVec.ofInt 16 8)]))], [], 0⟩) (s' := ⟨2, [(0, vL 1 eW 0#16 [(BitVec.ofInt 16 3), (BitVec.ofInt 16 5), (BitVec.ofInt 16 6)]), (1, .own 24)], [(24, bL 28 1 eW 0#16 [(BitVec.ofInt 16 8)])], [], 0⟩) rfl rfl ⟨.refl _, .refl _, trivial⟩ ⟨⟨_, rfl, (BLe.of (RL.lst (enc := eW) [(BitVec.ofInt 16 8)] rfl rfl (fun _ => rfl)))⟩, trivial⟩) (Le.trans (Le.freeze (s := ⟨2, [(0, vL 1 eW 0#16 [(BitVec.ofInt 16 3), (BitVec.ofInt 16 5), (BitVec.ofInt 16 6)]), (1, .own 24)], [(24, bL 28 1 eW 0#16 [(BitVec.ofInt 16 8)])], [], 0⟩) 24 rfl rfl) (Le.mk (s' := ⟨2, [(0, vL 1 eW 0#16 [(BitVec.ofInt 16 3), (BitVec.ofInt 16 5), (BitVec.ofInt 16 6)]), (1, vL 1 eW 0#16 [(BitVec.ofInt 16 8)])], [], [], 0⟩) rfl rfl ⟨.refl _, .refl _, trivial⟩ trivial)))), fun _ => ⟨.refl _, .refl _, trivial⟩, .inl rfl⟩, trivial⟩ ?_
  refine thenQ_normal ?_
  refine AWp.seq ?_
  obtain ⟨r3, hr3, h⟩ := bind_ok h
  refine AWp.regC [] [(1, ⟨[vL 1 eW 0#16 [(BitVec.ofInt 16 3), (BitVec.ofInt 16 5), (BitVec.ofInt 16 6)], .b16 (BitVec.ofInt 16 1)], [], [], [], .tup [vL 1 eW 0#16 r3.1, .int .i64 r3.2], [], [], []⟩)] [1, 2, 3, 4, 5, 6, 7, 1000000, 1000002] [] ⟨106, [(1, vL 1 eW 0#16 [(BitVec.ofInt 16 3), (BitVec.ofInt 16 5), (BitVec.ofInt 16 6)]), (2, vL 1 eW 0#16 r1.1), (3, .int .i64 r1.2), (4, vL 1 eW 0#16 r2.1), (5, .int .i64 r2.2), (6, vL 1 eW 0#16 r3.1), (7, .int .i64 r3.2), (1000000, .elem 32 1 T0F 0 0), (1000002, .elem 20 1 T2F 0 0)], [], [], 0⟩ ((callP Tryd.prog true 23 [] [] [] [] [] [vL 1 eW 0#16 [(BitVec.ofInt 16 3), (BitVec.ofInt 16 5), (BitVec.ofInt 16 6)], .b16 (BitVec.ofInt 16 1)] [vL 1 eW 0#16 [(BitVec.ofInt 16 3), (BitVec.ofInt 16 5), (BitVec.ofInt 16 6)], .b16 (BitVec.ofInt 16 1)] (.tup [vL 1 eW 0#16 r3.1, .int .i64 r3.2]) []) ∧ True) Tryd_mixed (by kernel_rfl) ⟨⟨fun _ => (f23_ok [(BitVec.ofInt 16 3), (BitVec.ofInt 16 5), (BitVec.ofInt 16 6)] (BitVec.ofInt 16 1) r3 hr3), fun _ => ⟨.refl _, .refl _, trivial⟩, .inl rfl⟩, trivial⟩ ?_
  refine thenQ_normal ?_
  refine AWp.seq ?_
  obtain ⟨r4, hr4, h⟩ := bind_ok h
  refine AWp.regC [] [(1, ⟨[vL 1 eW 0#16 [(BitVec.ofInt 16 3), (BitVec.ofInt 16 5), (BitVec.ofInt 16 6)], .b16 (BitVec.ofInt 16 1)], [], [], [(6001, bL 28 1 eW 0#16 r4.2)], .tup [.own 6001, .int .i64 r4.1], [6001], [], []⟩)] [2, 3, 4, 5, 6, 7, 8, 9, 1000000, 1000002] [6001] ⟨106, [(2, vL 1 eW 0#16 r1.1), (3, .int .i64 r1.2), (4, vL 1 eW 0#16 r2.1), (5, .int .i64 r2.2), (6, vL 1 eW 0#16 r3.1), (7, .int .i64 r3.2), (8, .own 6001), (9, .int .i64 r4.1), (1000000, .elem 32 1 T0F 0 0), (1000002, .elem 20 1 T2F 0 0)], [(6001, bL 28 1 eW 0#16 r4.2)], [], 0⟩ ((callP Tryd.prog true 25 [] [] [] [] [] [vL 1 eW 0#16 [(BitVec.ofInt 16 3), (BitVec.ofInt 16 5), (BitVec.ofInt 16 6)], .b16 (BitVec.ofInt 16 1)] [vL 1 eW 0#16 [(BitVec.ofInt 16 3), (BitVec.ofInt 16 5), (BitVec.ofInt 16 6)], .b16 (BitVec.ofInt 16 1)] (.tup [.own 6001, .int .i64 r4.1]) [(6001, bL 28 1 eW 0#16 r4.2)]) ∧ True) Tryd_mixed (by kernel_rfl) ⟨⟨fun _ => (Spec1.ren (swapN 3000 6001) (swapN_inv 3000 6001) rfl (f25_ok [(BitVec.ofInt 16 3), (BitVec.ofInt 16 5), (BitVec.ofInt 16 6)] (BitVec.ofInt 16 1) r4 hr4)), fun _ => ⟨.refl _, .refl _, trivial⟩, .inl rfl⟩, trivial⟩ ?_
  refine thenQ_normal ?_
  refine AWp.seq ?_
  obtain ⟨r5, hr5, h⟩ := bind_ok h
  refine AWp.regC [] [(1, ⟨[.own 39], [39], [], [], .tup [vL 1 eW 0#16 r5.1, .int .i64 r5.2], [], [], []⟩)] [2, 3, 4, 5, 6, 7, 8, 9, 10, 11, 1000000, 1000002] [6001] ⟨106, [(2, vL 1 eW 0#16 r1.1), (3, .int .i64 r1.2), (4, vL 1 eW 0#16 r2.1), (5, .int .i64 r2.2), (6, vL 1 eW 0#16 r3.1), (7, .int .i64 r3.2), (8, .own 6001), (9, .int .i64 r4.1), (10, vL 1 eW 0#16 r5.1), (11, .int .i64 r5.2), (1000000, .elem 32 1 T0F 0 0), (1000002, .elem 20 1 T2F 0 0)], [(6001, bL 28 1 eW 0#16 r4.2)], [], 0⟩ ((callP Tryd.prog true 14 [] [] [(39, .rows 28 1 4 (lstF 1 [.b16 (BitVec.ofInt 16 3), .b16 (BitVec.ofInt 16 2), .b16 (BitVec.ofInt 16 5), .b16 (BitVec.ofInt 16 2)]))] [] [] [.own 39] [.own 39] (.tup [vL 1 eW 0#16 r5.1, .int .i64 r5.2]) []) ∧ True) Tryd_mixed (by kernel_rfl) ⟨⟨fun _ => (Spec1.pre (f14_ok [(BitVec.ofInt 16 3), (BitVec.ofInt 16 2), (BitVec.ofInt 16 5), (BitVec.ofInt 16 2)] r5 hr5) rfl rfl rfl (Le.trans (Le.mk (s := ⟨1, [(0, .own 39)], [(39, .rows 28 1 4 (lstF 1 [.b16 (BitVec.ofInt 16 3), .b16 (BitVec.ofInt 16 2), .b16 (BitVec.ofInt 16 5), .b16 (BitVec.ofInt 16 2)]))], [], 0⟩) (s' := ⟨1, [(0, .own 39)], [(39, bL 28 1 eW 0#16 [(BitVec.ofInt 16 3), (BitVec.ofInt 16 2), (BitVec.ofInt 16 5), (BitVec.ofInt 16 2)])], [], 0⟩) rfl rfl ⟨.refl _, trivial⟩ ⟨⟨_, rfl, (BLe.of (RL.lst (enc := eW) [(BitVec.ofInt 16 3), (BitVec.ofInt 16 2), (BitVec.ofInt 16 5), (BitVec.ofInt 16 2)] rfl rfl (fun _ => rfl)))⟩, trivial⟩) (Le.trans (Le.freeze (s := ⟨1, [(0, .own 39)], [(39, bL 28 1 eW 0#16 [(BitVec.ofInt 16 3), (BitVec.ofInt 16 2), (BitVec.ofInt 16 5), (BitVec.ofInt 16 2)])], [], 0⟩) 39 rfl rfl) (Le.mk (s' := ⟨1, [(0, vL 1 eW 0#16 [(BitVec.ofInt 16 3), (BitVec.ofInt 16 2), (BitVec.ofInt 16 5), (BitVec.ofInt 16 2)])], [], [], 0⟩) rfl rfl ⟨.refl _, trivial⟩ trivial)))), fun _ => ⟨.refl _, trivial⟩, .inl rfl⟩, trivial⟩ ?_
  refine thenQ_normal ?_
  refine AWp.seq ?_
  obtain ⟨r6, hr6, h⟩ := bind_ok h
  refine AWp.regC [] [(1, ⟨[.own 44], [44], [], [], .tup [vL 1 eW 0#16 r6.1, .int .i64 r6.2], [], [], []⟩)] [2, 3, 4, 5, 6, 7, 8, 9, 10, 11, 12, 13, 1000000, 1000002] [6001] ⟨106, [(2, vL 1 eW 0#16 r1.1), (3, .int .i64 r1.2), (4, vL 1 eW 0#16 r2.1), (5, .int .i64 r2.2), (6, vL 1 eW 0#16 r3.1), (7, .int .i64 r3.2), (8, .own 6001), (9, .int .i64 r4.1), (10, vL 1 eW 0#16 r5.1), (11, .int .i64 r5.2), (12, vL 1 eW 0#16 r6.1), (13, .int .i64 r6.2), (1000000, .elem 32 1 T0F 0 0), (1000002, .elem 20 1 T2F 0 0)], [(6001, bL 28 1 eW 0#16 r4.2)], [], 0⟩ ((callP Tryd.prog true 16 [] [] [(44, .rows 28 1 4 (lstF 1 [.b16 (BitVec.ofInt 16 3), .b16 (BitVec.ofInt 16 2), .b16 (BitVec.ofInt 16 5), .b16 (BitVec.ofInt 16 2)]))] [] [] [.own 44] [.own 44] (.tup [vL 1 eW 0#16 r6.1, .int .i64 r6.2]) []) ∧ True) Tryd_mixed (by kernel_rfl) ⟨⟨fun _ => (Spec1.pre (f16_ok [(BitVec.ofInt 16 3), (BitVec.ofInt 16 2), (BitVec.ofInt 16 5), (BitVec.ofInt 16 2)] r6 hr6) rfl rfl rfl (Le.trans (Le.mk (s := ⟨1, [(0, .own 44)], [(44, .rows 28 1 4 (lstF 1 [.b16 (BitVec.ofInt 16 3), .b16 (BitVec.ofInt 16 2), .b16 (BitVec.ofInt 16 5), .b16 (BitVec.ofInt 16 2)]))], [], 0⟩) (s' := ⟨1, [(0, .own 44)], [(44, bL 28 1 eW 0#16 [(BitVec.ofInt 16 3), (BitVec.ofInt 16 2), (BitVec.ofInt 16 5), (BitVec.ofInt 16 2)])], [], 0⟩) rfl rfl ⟨.refl _, trivial⟩ ⟨⟨_, rfl, (BLe.of (RL.lst (enc := eW) [(BitVec.ofInt 16 3), (BitVec.ofInt 16 2), (BitVec.ofInt 16 5), (BitVec.ofInt 16 2)] rfl rfl (fun _ => rfl)))⟩, trivial⟩) (Le.trans (Le.freeze (s := ⟨1, [(0, .own 44)], [(44, bL 28 1 eW 0#16 [(BitVec.ofInt 16 3), (BitVec.ofInt 16 2), (BitVec.ofInt 16 5), (BitVec.ofInt 16 2)])], [], 0⟩) 44 rfl rfl) (Le.mk (s' := ⟨1, [(0, vL 1 eW 0#16 [(BitVec.ofInt 16 3), (BitVec.ofInt 16 2), (BitVec.ofInt 16 5), (BitVec.ofInt 16 2)])], [], [], 0⟩) rfl rfl ⟨.refl _, trivial⟩ trivial)))), fun _ => ⟨.refl _, trivial⟩, .inl rfl⟩, trivial⟩ ?_
  refine thenQ_normal ?_
  refine AWp.seq ?_
  have ob0 : ((r1.2 == (0 : Int)) == true) = true → ((r1.2 == (0 : Int)) == true) = true := fun h => h
  have ob1 : true = true → (r1.2 == (0 : Int)) = true → ((r1.2 == (0 : Int)) == true) = true := fun _ h => beq_iff_eq.2 h
  have ob2 : (((r1.2 == (0 : Int)) && (r2.2 == (0 : Int))) == true) = true → (((r1.2 == (0 : Int)) && (r2.2 == (0 : Int))) == true) = true := fun h => h
  have ob3 : true = true → ((r1.2 == (0 : Int)) && (r2.2 == (0 : Int))) = true → (((r1.2 == (0 : Int)) && (r2.2 == (0 : Int))) == true) = true := fun _ h => beq_iff_eq.2 h
  have ob4 : ((((r1.2 == (0 : Int)) && (r2.2 == (0 : Int))) && (r3.2 == (0 : Int))) == true) = true → ((((r1.2 == (0 : Int)) && (r2.2 == (0 : Int))) && (r3.2 == (0 : Int))) == true) = true := fun h => h
  have ob5 : true = true → (((r1.2 == (0 : Int)) && (r2.2 == (0 : Int))) && (r3.2 == (0 : Int))) = true → ((((r1.2 == (0 : Int)) && (r2.2 == (0 : Int))) && (r3.2 == (0 : Int))) == true) = true := fun _ h => beq_iff_eq.2 h
  have ob6 : (((((r1.2 == (0 : Int)) && (r2.2 == (0 : Int))) && (r3.2 == (0 : Int))) && (r4.1 == (0 : Int))) == true) = true → (((((r1.2 == (0 : Int)) && (r2.2 == (0 : Int))) && (r3.2 == (0 : Int))) && (r4.1 == (0 : Int))) == true) = true := fun h => h
  have ob7 : true = true → ((((r1.2 == (0 : Int)) && (r2.2 == (0 : Int))) && (r3.2 == (0 : Int))) && (r4.1 == (0 : Int))) = true → (((((r1.2 == (0 : Int)) && (r2.2 == (0 : Int))) && (r3.2 == (0 : Int))) && (r4.1 == (0 : Int))) == true) = true := fun _ h => beq_iff_eq.2 h
  have ob8 : ((((((r1.2 == (0 : Int)) && (r2.2 == (0 : Int))) && (r3.2 == (0 : Int))) && (r4.1 == (0 : Int))) && (r5.2 == (0 : Int))) == true) = true → ((((((r1.2 == (0 : Int)) && (r2.2 == (0 : Int))) && (r3.2 == (0 : Int))) && (r4.1 == (0 : Int))) && (r5.2 == (0 : Int))) == true) = true := fun h => h
  have ob9 : true = true → (((((r1.2 == (0 : Int)) && (r2.2 == (0 : Int))) && (r3.2 == (0 : Int))) && (r4.1 == (0 : Int))) && (r5.2 == (0 : Int))) = true → ((((((r1.2 == (0 : Int)) && (r2.2 == (0 : Int))) && (r3.2 == (0 : Int))) && (r4.1 == (0 : Int))) && (r5.2 == (0 : Int))) == true) = true := fun _ h => beq_iff_eq.2 h
  refine AWp.regC [] [] [2, 4, 6, 8, 10, 12, 14, 1000000, 1000002] [6001] ⟨106, [(2, vL 1 eW 0#16 r1.1), (4, vL 1 eW 0#16 r2.1), (6, vL 1 eW 0#16 r3.1), (8, .own 6001), (10, vL 1 eW 0#16 r5.1), (12, vL 1 eW 0#16 r6.1), (14, .bool ((((((r1.2 == (0 : Int)) && (r2.2 == (0 : Int))) && (r3.2 == (0 : Int))) && (r4.1 == (0 : Int))) && (r5.2 == (0 : Int))) && (r6.2 == (0 : Int)))), (1000000, .elem 32 1 T0F 0 0), (1000002, .elem 20 1 T2F 0 0)], [(6001, bL 28 1 eW 0#16 r4.2)], [], 0⟩ (((((r1.2 == (0 : Int)) == true) = true → ((r1.2 == (0 : Int)) == true) = true) ∧ True) ∧ (true = true → (r1.2 == (0 : Int)) = true → ((r1.2 == (0 : Int)) == true) = true) ∧ (((((r1.2 == (0 : Int)) && (r2.2 == (0 : Int))) == true) = true → (((r1.2 == (0 : Int)) && (r2.2 == (0 : Int))) == true) = true) ∧ True) ∧ (true = true → ((r1.2 == (0 : Int)) && (r2.2 == (0 : Int))) = true → (((r1.2 == (0 : Int)) && (r2.2 == (0 : Int))) == true) = true) ∧ ((((((r1.2 == (0 : Int)) && (r2.2 == (0 : Int))) && (r3.2 == (0 : Int))) == true) = true → ((((r1.2 == (0 : Int)) && (r2.2 == (0 : Int))) && (r3.2 == (0 : Int))) == true) = true) ∧ True) ∧ (true = true → (((r1.2 == (0 : Int)) && (r2.2 == (0 : Int))) && (r3.2 == (0 : Int))) = true → ((((r1.2 == (0 : Int)) && (r2.2 == (0 : Int))) && (r3.2 == (0 : Int))) == true) = true) ∧ (((((((r1.2 == (0 : Int)) && (r2.2 == (0 : Int))) && (r3.2 == (0 : Int))) && (r4.1 == (0 : Int))) == true) = true → (((((r1.2 == (0 : Int)) && (r2.2 == (0 : Int))) && (r3.2 == (0 : Int))) && (r4.1 == (0 : Int))) == true) = true) ∧ True) ∧ (true = true → ((((r1.2 == (0 : Int)) && (r2.2 == (0 : Int))) && (r3.2 == (0 : Int))) && (r4.1 == (0 : Int))) = true → (((((r1.2 == (0 : Int)) && (r2.2 == (0 : Int))) && (r3.2 == (0 : Int))) && (r4.1 == (0 : Int))) == true) = true) ∧ ((((((((r1.2 == (0 : Int)) && (r2.2 == (0 : Int))) && (r3.2 == (0 : Int))) && (r4.1 == (0 : Int))) && (r5.2 == (0 : Int))) == true) = true → ((((((r1.2 == (0 : Int)) && (r2.2 == (0 : Int))) && (r3.2 == (0 : Int))) && (r4.1 == (0 : Int))) && (r5.2 == (0 : Int))) == true) = true) ∧ True) ∧ (true = true → (((((r1.2 == (0 : Int)) && (r2.2 == (0 : Int))) && (r3.2 == (0 : Int))) && (r4.1 == (0 : Int))) && (r5.2 == (0 : Int))) = true → ((((((r1.2 == (0 : Int)) && (r2.2 == (0 : Int))) && (r3.2 == (0 : Int))) && (r4.1 == (0 : Int))) && (r5.2 == (0 : Int))) == true) = true) ∧ True) Tryd_mixed (by kernel_rfl) ⟨⟨ob0, trivial⟩, ob1, ⟨ob2, trivial⟩, ob3, ⟨ob4, trivial⟩, ob5, ⟨ob6, trivial⟩, ob7, ⟨ob8, trivial⟩, ob9, trivial⟩ ?_
  refine thenQ_normal ?_
  refine AWp.seq ?_
  by_cases hg9_1 : ((((((r1.2 == (0 : Int)) && (r2.2 == (0 : Int))) && (r3.2 == (0 : Int))) && (r4.1 == (0 : Int))) && (r5.2 == (0 : Int))) && (r6.2 == (0 : Int))) = true
  ·
    replace h := ite_t hg9_1 h
    obtain ⟨r7, hr7, h⟩ := bind_ok h
    by_cases hg9_6 : r7 = true
    ·
      replace h := ite_t hg9_6 h
      obtain ⟨r8, hr8, h⟩ := bind_ok h
      by_cases hg9_11 : r8 = true
      ·
        replace h := ite_t hg9_11 h
        obtain ⟨r9, hr9, h⟩ := bind_ok h
        by_cases hg9_16 : r9 = true
        ·
          replace h := ite_t hg9_16 h
          obtain ⟨r10, hr10, h⟩ := bind_ok h
          by_cases hg9_21 : r10 = true
          ·
            replace h := ite_t hg9_21 h
            obtain ⟨r11, hr11, h⟩ := bind_ok h
            by_cases hg9_26 : r11 = true
            ·
              replace h := ite_t hg9_26 h
              obtain ⟨r12, hr12, h⟩ := bind_ok h
              obtain ⟨r13, hr13, h⟩ := optc_some h
              have ob10 : true = true → true = true := fun h => h
              have ob11 : true = true → true = true → true = true := fun _ h => h
              have ob12 : true = true → true = true := fun h => h
              have ob13 : true = true → true = true → true = true := fun _ h => h
              have ob14 : true = true → true = true := fun h => h
              have ob15 : true = true → true = true → true = true := fun _ h => h
              have ob16 : true = true → true = true := fun h => h
              have ob17 : true = true → true = true → true = true := fun _ h => h
              have ob18 : true = true → true = true := fun h => h
              have ob19 : true = true → true = true → true = true := fun _ h => h
              have ob20 : true = true → true = true := fun h => h
              have ob21 : true = true → true = true → true = true := fun _ h => h
              have ob22 : (r12 == true) = true → (r12 == true) = true := fun h => h
              have ob23 : (r12 == true) = true → (r12 == true) = true := fun h => h
              have ob24 : true = true → r12 = true → (r12 == true) = true := fun _ h => beq_iff_eq.2 h
              refine AWp.regC [] [(1, ⟨[], [], [], [], (.bool true), [], [0], []⟩), (4, ⟨[vL 1 eW 0#16 r1.1, vL 1 eW 0#16 [(BitVec.ofInt 16 11), (BitVec.ofInt 16 13), (BitVec.ofInt 16 14)]], [], [], [], .bool r7, [], [73], []⟩), (6, ⟨[], [], [], [], (.bool true), [], [0], []⟩), (9, ⟨[vL 1 eW 0#16 r2.1, vL 1 eW 0#16 [(BitVec.ofInt 16 8), (BitVec.ofInt 16 3), (BitVec.ofInt 16 5), (BitVec.ofInt 16 6)]], [], [], [], .bool r8, [], [78], []⟩), (11, ⟨[], [], [], [], (.bool true), [], [0], []⟩), (14, ⟨[vL 1 eW 0#16 r3.1, vL 1 eW 0#16 [(BitVec.ofInt 16 2), (BitVec.ofInt 16 4)]], [], [], [], .bool r9, [], [83], []⟩), (16, ⟨[], [], [], [], (.bool true), [], [0], []⟩), (19, ⟨[vL 1 eW 0#16 r4.2, vL 1 eW 0#16 [(BitVec.ofInt 16 6)]], [], [], [], .bool r10, [], [6001, 88], []⟩), (21, ⟨[], [], [], [], (.bool true), [], [0], []⟩), (24, ⟨[vL 1 eW 0#16 r5.1, vL 1 eW 0#16 [(BitVec.ofInt 16 2), (BitVec.ofInt 16 5)]], [], [], [], .bool r11, [], [93], []⟩), (26, ⟨[], [], [], [], (.bool true), [], [0], []⟩), (29, ⟨[vL 1 eW 0#16 r6.1, vL 1 eW 0#16 [(BitVec.ofInt 16 3), (BitVec.ofInt 16 5)]], [], [], [], .bool r12, [], [98], []⟩), (33, ⟨[vL 1 eW 0#16 r1.1], [], [], [], .str r13, [], [], [0, 2]⟩)] [0, 1000000, 1000002] [] ⟨106, [(0, .bool (r12 && (r13 == cs4))), (1000000, .elem 32 1 T0F 0 0), (1000002, .elem 20 1 T2F 0 0)], [], [], 0⟩ ((((.bool ((((((r1.2 == (0 : Int)) && (r2.2 == (0 : Int))) && (r3.2 == (0 : Int))) && (r4.1 == (0 : Int))) && (r5.2 == (0 : Int))) && (r6.2 == (0 : Int)))) : V) = (.bool true)) ∧ ((callP Tryd.prog true 18 [] [] [] [(73, .rows 28 1 3 (lstF 1 [.b16 (BitVec.ofInt 16 11), .b16 (BitVec.ofInt 16 13), .b16 (BitVec.ofInt 16 14)]))] [73] [vL 1 eW 0#16 r1.1, .own 73] [vL 1 eW 0#16 r1.1, vL 1 eW 0#16 [(BitVec.ofInt 16 11), (BitVec.ofInt 16 13), (BitVec.ofInt 16 14)]] (.bool r7) []) ∧ (true = true → true = true) ∧ True) ∧ (true = true → true = true → true = true) ∧ (((.bool r7) : V) = (.bool true)) ∧ ((callP Tryd.prog true 18 [] [] [] [(78, .rows 28 1 4 (lstF 1 [.b16 (BitVec.ofInt 16 8), .b16 (BitVec.ofInt 16 3), .b16 (BitVec.ofInt 16 5), .b16 (BitVec.ofInt 16 6)]))] [78] [vL 1 eW 0#16 r2.1, .own 78] [vL 1 eW 0#16 r2.1, vL 1 eW 0#16 [(BitVec.ofInt 16 8), (BitVec.ofInt 16 3), (BitVec.ofInt 16 5), (BitVec.ofInt 16 6)]] (.bool r8) []) ∧ (true = true → true = true) ∧ True) ∧ (true = true → true = true → true = true) ∧ (((.bool r8) : V) = (.bool true)) ∧ ((callP Tryd.prog true 18 [] [] [] [(83, .rows 28 1 2 (lstF 1 [.b16 (BitVec.ofInt 16 2), .b16 (BitVec.ofInt 16 4)]))] [83] [vL 1 eW 0#16 r3.1, .own 83] [vL 1 eW 0#16 r3.1, vL 1 eW 0#16 [(BitVec.ofInt 16 2), (BitVec.ofInt 16 4)]] (.bool r9) []) ∧ (true = true → true = true) ∧ True) ∧ (true = true → true = true → true = true) ∧ (((.bool r9) : V) = (.bool true)) ∧ ((callP Tryd.prog true 18 [] [] [] [(6001, bL 28 1 eW 0#16 r4.2), (88, .rows 28 1 1 (lstF 1 [.b16 (BitVec.ofInt 16 6)]))] [6001, 88] [.own 6001, .own 88] [vL 1 eW 0#16 r4.2, vL 1 eW 0#16 [(BitVec.ofInt 16 6)]] (.bool r10) []) ∧ (true = true → true = true) ∧ True) ∧ (true = true → true = true → true = true) ∧ (((.bool r10) : V) = (.bool true)) ∧ ((callP Tryd.prog true 18 [] [] [] [(93, .rows 28 1 2 (lstF 1 [.b16 (BitVec.ofInt 16 2), .b16 (BitVec.ofInt 16 5)]))] [93] [vL 1 eW 0#16 r5.1, .own 93] [vL 1 eW 0#16 r5.1, vL 1 eW 0#16 [(BitVec.ofInt 16 2), (BitVec.ofInt 16 5)]] (.bool r11) []) ∧ (true = true → true = true) ∧ True) ∧ (true = true → true = true → true = true) ∧ (((.bool r11) : V) = (.bool true)) ∧ ((callP Tryd.prog true 18 [] [] [] [(98, .rows 28 1 2 (lstF 1 [.b16 (BitVec.ofInt 16 3), .b16 (BitVec.ofInt 16 5)]))] [98] [vL 1 eW 0#16 r6.1, .own 98] [vL 1 eW 0#16 r6.1, vL 1 eW 0#16 [(BitVec.ofInt 16 3), (BitVec.ofInt 16 5)]] (.bool r12) []) ∧ (true = true → true = true) ∧ True) ∧ (true = true → true = true → true = true) ∧ ((callP Tryd.prog (r12 == true) 37 [(0, .elem 32 1 T0F 0 0), (2, .elem 20 1 T2F 0 0)] [] [] [] [] [vL 1 eW 0#16 r1.1] [vL 1 eW 0#16 r1.1] (.str r13) []) ∧ ((r12 == true) = true → (r12 == true) = true) ∧ True) ∧ (((r12 == true) = true → (r12 == true) = true) ∧ True) ∧ (true = true → r12 = true → (r12 == true) = true) ∧ True) Tryd_mixed (by kernel_rfl) ⟨(congrArg (fun x => ((.bool x) : V)) hg9_1), ⟨⟨fun _ => (f18_ok r1.1 [(BitVec.ofInt 16 11), (BitVec.ofInt 16 13), (BitVec.ofInt 16 14)] r7 hr7), fun _ => ⟨.refl _, (VLe.of (RL.lst (enc := eW) [(BitVec.ofInt 16 11), (BitVec.ofInt 16 13), (BitVec.ofInt 16 14)] rfl rfl (fun _ => rfl))), trivial⟩, .inr ⟨rfl, trivial⟩⟩, ob10, trivial⟩, ob11, (congrArg (fun x => ((.bool x) : V)) hg9_6), ⟨⟨fun _ => (f18_ok r2.1 [(BitVec.ofInt 16 8), (BitVec.ofInt 16 3), (BitVec.ofInt 16 5), (BitVec.ofInt 16 6)] r8 hr8), fun _ => ⟨.refl _, (VLe.of (RL.lst (enc := eW) [(BitVec.ofInt 16 8), (BitVec.ofInt 16 3), (BitVec.ofInt 16 5), (BitVec.ofInt 16 6)] rfl rfl (fun _ => rfl))), trivial⟩, .inr ⟨rfl, trivial⟩⟩, ob12, trivial⟩, ob13, (congrArg (fun x => ((.bool x) : V)) hg9_11), ⟨⟨fun _ => (f18_ok r3.1 [(BitVec.ofInt 16 2), (BitVec.ofInt 16 4)] r9 hr9), fun _ => ⟨.refl _, (VLe.of (RL.lst (enc := eW) [(BitVec.ofInt 16 2), (BitVec.ofInt 16 4)] rfl rfl (fun _ => rfl))), trivial⟩, .inr ⟨rfl, trivial⟩⟩, ob14, trivial⟩, ob15, (congrArg (fun x => ((.bool x) : V)) hg9_16), ⟨⟨fun _ => (f18_ok r4.2 [(BitVec.ofInt 16 6)] r10 hr10), fun _ => ⟨.refl _, (VLe.of (RL.lst (enc := eW) [(BitVec.ofInt 16 6)] rfl rfl (fun _ => rfl))), trivial⟩, .inr ⟨rfl, trivial⟩⟩, ob16, trivial⟩, ob17, (congrArg (fun x => ((.bool x) : V)) hg9_21), ⟨⟨fun _ => (f18_ok r5.1 [(BitVec.ofInt 16 2), (BitVec.ofInt 16 5)] r11 hr11), fun _ => ⟨.refl _, (VLe.of (RL.lst (enc := eW) [(BitVec.ofInt 16 2), (BitVec.ofInt 16 5)] rfl rfl (fun _ => rfl))), trivial⟩, .inr ⟨rfl, trivial⟩⟩, ob18, trivial⟩, ob19, (congrArg (fun x => ((.bool x) : V)) hg9_26), ⟨⟨fun _ => (f18_ok r6.1 [(BitVec.ofInt 16 3), (BitVec.ofInt 16 5)] r12 hr12), fun _ => ⟨.refl _, (VLe.of (RL.lst (enc := eW) [(BitVec.ofInt 16 3), (BitVec.ofInt 16 5)] rfl rfl (fun _ => rfl))), trivial⟩, .inr ⟨rfl, trivial⟩⟩, ob20, trivial⟩, ob21, ⟨⟨fun hc => (f37_ok r1.1 r13 (hr13 hc)), fun _ => ⟨.refl _, trivial⟩, .inl rfl⟩, ob22, trivial⟩, ⟨ob23, trivial⟩, ob24, trivial⟩ ?_
              refine thenQ_normal ?_
              have hret := Option.some.inj h
              subst hret
              refine AWp.le (Le.mk (s := ⟨106, [(0, .bool (r12 && (r13 == cs4))), (1000000, .elem 32 1 T0F 0 0), (1000002, .elem 20 1 T2F 0 0)], [], [], 0⟩) (s' := ⟨106, [(0, .bool (r12 && (r13 == cs4)))], [], [], 0⟩) rfl rfl ⟨.refl _, trivial⟩ trivial) ?_
              refine AWp.ret ?_
              exact bodyQ_ret _ rfl ⟨rfl, rfl⟩ rfl
            ·
              replace h := ite_f hg9_26 h
              have ob10 : true = true → true = true := fun h => h
              have ob11 : true = true → true = true → true = true := fun _ h => h
              have ob12 : true = true → true = true := fun h => h
              have ob13 : true = true → true = true → true = true := fun _ h => h
              have ob14 : true = true → true = true := fun h => h
              have ob15 : true = true → true = true → true = true := fun _ h => h
              have ob16 : true = true → true = true := fun h => h
              have ob17 : true = true → true = true → true = true := fun _ h => h
              have ob18 : true = true → true = true := fun h => h
              have ob19 : true = true → true = true → true = true := fun _ h => h
              have ob20 : false = true → false = true := fun h => h
              have ob21 : false = true → false = true := fun h => h
              have ob22 : true = true → false = true → false = true := fun _ h => h
              have ob23 : false = true → false = true := fun h => h
              have ob24 : true = true → false = true → false = true := fun _ h => h
              refine AWp.regC [] [(1, ⟨[], [], [], [], (.bool true), [], [0], []⟩), (4, ⟨[vL 1 eW 0#16 r1.1, vL 1 eW 0#16 [(BitVec.ofInt 16 11), (BitVec.ofInt 16 13), (BitVec.ofInt 16 14)]], [], [], [], .bool r7, [], [73], []⟩), (6, ⟨[], [], [], [], (.bool true), [], [0], []⟩), (9, ⟨[vL 1 eW 0#16 r2.1, vL 1 eW 0#16 [(BitVec.ofInt 16 8), (BitVec.ofInt 16 3), (BitVec.ofInt 16 5), (BitVec.ofInt 16 6)]], [], [], [], .bool r8, [], [78], []⟩), (11, ⟨[], [], [], [], (.bool true), [], [0], []⟩), (14, ⟨[vL 1 eW 0#16 r3.1, vL 1 eW 0#16 [(BitVec.ofInt 16 2), (BitVec.ofInt 16 4)]], [], [], [], .bool r9, [], [83], []⟩), (16, ⟨[], [], [], [], (.bool true), [], [0], []⟩), (19, ⟨[vL 1 eW 0#16 r4.2, vL 1 eW 0#16 [(BitVec.ofInt 16 6)]], [], [], [], .bool r10, [], [6001, 88], []⟩), (21, ⟨[], [], [], [], (.bool true), [], [0], []⟩), (24, ⟨[vL 1 eW 0#16 r5.1, vL 1 eW 0#16 [(BitVec.ofInt 16 2), (BitVec.ofInt 16 5)]], [], [], [], .bool r11, [], [93], []⟩), (26, ⟨[], [], [], [], (.bool false), [], [0], []⟩), (29, ⟨[], [], [], [], .bool false, [], [], []⟩), (33, ⟨[], [], [], [], .any, [], [], []⟩)] [0, 1000000, 1000002] [] ⟨106, [(0, .bool false), (1000000, .elem 32 1 T0F 0 0), (1000002, .elem 20 1 T2F 0 0)], [], [], 0⟩ ((((.bool ((((((r1.2 == (0 : Int)) && (r2.2 == (0 : Int))) && (r3.2 == (0 : Int))) && (r4.1 == (0 : Int))) && (r5.2 == (0 : Int))) && (r6.2 == (0 : Int)))) : V) = (.bool true)) ∧ ((callP Tryd.prog true 18 [] [] [] [(73, .rows 28 1 3 (lstF 1 [.b16 (BitVec.ofInt 16 11), .b16 (BitVec.ofInt 16 13), .b16 (BitVec.ofInt 16 14)]))] [73] [vL 1 eW 0#16 r1.1, .own 73] [vL 1 eW 0#16 r1.1, vL 1 eW 0#16 [(BitVec.ofInt 16 11), (BitVec.ofInt 16 13), (BitVec.ofInt 16 14)]] (.bool r7) []) ∧ (true = true → true = true) ∧ True) ∧ (true = true → true = true → true = true) ∧ (((.bool r7) : V) = (.bool true)) ∧ ((callP Tryd.prog true 18 [] [] [] [(78, .rows 28 1 4 (lstF 1 [.b16 (BitVec.ofInt 16 8), .b16 (BitVec.ofInt 16 3), .b16 (BitVec.ofInt 16 5), .b16 (BitVec.ofInt 16 6)]))] [78] [vL 1 eW 0#16 r2.1, .own 78] [vL 1 eW 0#16 r2.1, vL 1 eW 0#16 [(BitVec.ofInt 16 8), (BitVec.ofInt 16 3), (BitVec.ofInt 16 5), (BitVec.ofInt 16 6)]] (.bool r8) []) ∧ (true = true → true = true) ∧ True) ∧ (true = true → true = true → true = true) ∧ (((.bool r8) : V) = (.bool true)) ∧ ((callP Tryd.prog true 18 [] [] [] [(83, .rows 28 1 2 (lstF 1 [.b16 (BitVec.ofInt 16 2), .b16 (BitVec.ofInt 16 4)]))] [83] [vL 1 eW 0#16 r3.1, .own 83] [vL 1 eW 0#16 r3.1, vL 1 eW 0#16 [(BitVec.ofInt 16 2), (BitVec.ofInt 16 4)]] (.bool r9) []) ∧ (true = true → true = true) ∧ True) ∧ (true = true → true = true → true = true) ∧ (((.bool r9) : V) = (.bool true)) ∧ ((callP Tryd.prog true 18 [] [] [] [(6001, bL 28 1 eW 0#16 r4.2), (88, .rows 28 1 1 (lstF 1 [.b16 (BitVec.ofInt 16 6)]))] [6001, 88] [.own 6001, .own 88] [vL 1 eW 0#16 r4.2, vL 1 eW 0#16 [(BitVec.ofInt 16 6)]] (.bool r10) []) ∧ (true = true → true = true) ∧ True) ∧ (true = true → true = true → true = true) ∧ (((.bool r10) : V) = (.bool true)) ∧ ((callP Tryd.prog true 18 [] [] [] [(93, .rows 28 1 2 (lstF 1 [.b16 (BitVec.ofInt 16 2), .b16 (BitVec.ofInt 16 5)]))] [93] [vL 1 eW 0#16 r5.1, .own 93] [vL 1 eW 0#16 r5.1, vL 1 eW 0#16 [(BitVec.ofInt 16 2), (BitVec.ofInt 16 5)]] (.bool r11) []) ∧ (true = true → true = true) ∧ True) ∧ (true = true → true = true → true = true) ∧ (((.bool r11) : V) = (.bool false)) ∧ ((callP Tryd.prog false 18 [] [] [] [] [] [vL 1 eW 0#16 r6.1, .bool false] [] (.bool false) []) ∧ (false = true → false = true) ∧ (false = true → false = true) ∧ True) ∧ (true = true → false = true → false = true) ∧ ((callP Tryd.prog false 37 [] [] [] [] [] [vL 1 eW 0#16 r1.1] [] (.any) []) ∧ (false = true → false = true) ∧ True) ∧ (true = true → false = true → false = true) ∧ True) Tryd_mixed (by kernel_rfl) ⟨(congrArg (fun x => ((.bool x) : V)) hg9_1), ⟨⟨fun _ => (f18_ok r1.1 [(BitVec.ofInt 16 11), (BitVec.ofInt 16 13), (BitVec.ofInt 16 14)] r7 hr7), fun _ => ⟨.refl _, (VLe.of (RL.lst (enc := eW) [(BitVec.ofInt 16 11), (BitVec.ofInt 16 13), (BitVec.ofInt 16 14)] rfl rfl (fun _ => rfl))), trivial⟩, .inr ⟨rfl, trivial⟩⟩, ob10, trivial⟩, ob11, (congrArg (fun x => ((.bool x) : V)) hg9_6), ⟨⟨fun _ => (f18_ok r2.1 [(BitVec.ofInt 16 8), (BitVec.ofInt 16 3), (BitVec.ofInt 16 5), (BitVec.ofInt 16 6)] r8 hr8), fun _ => ⟨.refl _, (VLe.of (RL.lst (enc := eW) [(BitVec.ofInt 16 8), (BitVec.ofInt 16 3), (BitVec.ofInt 16 5), (BitVec.ofInt 16 6)] rfl rfl (fun _ => rfl))), trivial⟩, .inr ⟨rfl, trivial⟩⟩, ob12, trivial⟩, ob13, (congrArg (fun x => ((.bool x) : V)) hg9_11), ⟨⟨fun _ => (f18_ok r3.1 [(BitVec.ofInt 16 2), (BitVec.ofInt 16 4)] r9 hr9), fun _ => ⟨.refl _, (VLe.of (RL.lst (enc := eW) [(BitVec.ofInt 16 2), (BitVec.ofInt 16 4)] rfl rfl (fun _ => rfl))), trivial⟩, .inr ⟨rfl, trivial⟩⟩, ob14, trivial⟩, ob15, (congrArg (fun x => ((.bool x) : V)) hg9_16), ⟨⟨fun _ => (f18_ok r4.2 [(BitVec.ofInt 16 6)] r10 hr10), fun _ => ⟨.refl _, (VLe.of (RL.lst (enc := eW) [(BitVec.ofInt 16 6)] rfl rfl (fun _ => rfl))), trivial⟩, .inr ⟨rfl, trivial⟩⟩, ob16, trivial⟩, ob17, (congrArg (fun x => ((.bool x) : V)) hg9_21), ⟨⟨fun _ => (f18_ok r5.1 [(BitVec.ofInt 16 2), (BitVec.ofInt 16 5)] r11 hr11), fun _ => ⟨.refl _, (VLe.of (RL.lst (enc := eW) [(BitVec.ofInt 16 2), (BitVec.ofInt 16 5)] rfl rfl (fun _ => rfl))), trivial⟩, .inr ⟨rfl, trivial⟩⟩, ob18, trivial⟩, ob19, (congrArg (fun x => ((.bool x) : V)) (Bool.eq_false_iff.2 hg9_26)), ⟨⟨nofun, nofun, .inl rfl⟩, ob20, ob21, trivial⟩, ob22, ⟨⟨nofun, nofun, .inl rfl⟩, ob23, trivial⟩, ob24, trivial⟩ ?_
              refine thenQ_normal ?_
              have hret := Option.some.inj h
              subst hret
              refine AWp.le (Le.mk (s := ⟨106, [(0, .bool false), (1000000, .elem 32 1 T0F 0 0), (1000002, .elem 20 1 T2F 0 0)], [], [], 0⟩) (s' := ⟨106, [(0, .bool false)], [], [], 0⟩) rfl rfl ⟨.refl _, trivial⟩ trivial) ?_
              refine AWp.ret ?_
              exact bodyQ_ret _ rfl ⟨rfl, rfl⟩ rfl
          ·
            replace h := ite_f hg9_21 h
            have ob10 : true = true → true = true := fun h => h
            have ob11 : true = true → true = true → true = true := fun _ h => h
            have ob12 : true = true → true = true := fun h => h
            have ob13 : true = true → true = true → true = true := fun _ h => h
            have ob14 : true = true → true = true := fun h => h
            have ob15 : true = true → true = true → true = true := fun _ h => h
            have ob16 : true = true → true = true := fun h => h
            have ob17 : true = true → true = true → true = true := fun _ h => h
            have ob18 : false = true → false = true := fun h => h
            have ob19 : false = true → false = true := fun h => h
            have ob20 : true = true → false = true → false = true := fun _ h => h
            have ob21 : false = true → false = true := fun h => h
            have ob22 : false = true → false = true := fun h => h
            have ob23 : true = true → false = true → false = true := fun _ h => h
            have ob24 : false = true → false = true := fun h => h
            have ob25 : true = true → false = true → false = true := fun _ h => h
            refine AWp.regC [] [(1, ⟨[], [], [], [], (.bool true), [], [0], []⟩), (4, ⟨[vL 1 eW 0#16 r1.1, vL 1 eW 0#16 [(BitVec.ofInt 16 11), (BitVec.ofInt 16 13), (BitVec.ofInt 16 14)]], [], [], [], .bool r7, [], [73], []⟩), (6, ⟨[], [], [], [], (.bool true), [], [0], []⟩), (9, ⟨[vL 1 eW 0#16 r2.1, vL 1 eW 0#16 [(BitVec.ofInt 16 8), (BitVec.ofInt 16 3), (BitVec.ofInt 16 5), (BitVec.ofInt 16 6)]], [], [], [], .bool r8, [], [78], []⟩), (11, ⟨[], [], [], [], (.bool true), [], [0], []⟩), (14, ⟨[vL 1 eW 0#16 r3.1, vL 1 eW 0#16 [(BitVec.ofInt 16 2), (BitVec.ofInt 16 4)]], [], [], [], .bool r9, [], [83], []⟩), (16, ⟨[], [], [], [], (.bool true), [], [0], []⟩), (19, ⟨[vL 1 eW 0#16 r4.2, vL 1 eW 0#16 [(BitVec.ofInt 16 6)]], [], [], [], .bool r10, [], [6001, 88], []⟩), (21, ⟨[], [], [], [], (.bool false), [], [0], []⟩), (24, ⟨[], [], [], [], .bool false, [], [], []⟩), (29, ⟨[], [], [], [], .bool false, [], [], []⟩), (33, ⟨[], [], [], [], .any, [], [], []⟩)] [0, 1000000, 1000002] [] ⟨106, [(0, .bool false), (1000000, .elem 32 1 T0F 0 0), (1000002, .elem 20 1 T2F 0 0)], [], [], 0⟩ ((((.bool ((((((r1.2 == (0 : Int)) && (r2.2 == (0 : Int))) && (r3.2 == (0 : Int))) && (r4.1 == (0 : Int))) && (r5.2 == (0 : Int))) && (r6.2 == (0 : Int)))) : V) = (.bool true)) ∧ ((callP Tryd.prog true 18 [] [] [] [(73, .rows 28 1 3 (lstF 1 [.b16 (BitVec.ofInt 16 11), .b16 (BitVec.ofInt 16 13), .b16 (BitVec.ofInt 16 14)]))] [73] [vL 1 eW 0#16 r1.1, .own 73] [vL 1 eW 0#16 r1.1, vL 1 eW 0#16 [(BitVec.ofInt 16 11), (BitVec.ofInt 16 13), (BitVec.ofInt 16 14)]] (.bool r7) []) ∧ (true = true → true = true) ∧ True) ∧ (true = true → true = true → true = true) ∧ (((.bool r7) : V) = (.bool true)) ∧ ((callP Tryd.prog true 18 [] [] [] [(78, .rows 28 1 4 (lstF 1 [.b16 (BitVec.ofInt 16 8), .b16 (BitVec.ofInt 16 3), .b16 (BitVec.ofInt 16 5), .b16 (BitVec.ofInt 16 6)]))] [78] [vL 1 eW 0#16 r2.1, .own 78] [vL 1 eW 0#16 r2.1, vL 1 eW 0#16 [(BitVec.ofInt 16 8), (BitVec.ofInt 16 3), (BitVec.ofInt 16 5), (BitVec.ofInt 16 6)]] (.bool r8) []) ∧ (true = true → true = true) ∧ True) ∧ (true = true → true = true → true = true) ∧ (((.bool r8) : V) = (.bool true)) ∧ ((callP Tryd.prog true 18 [] [] [] [(83, .rows 28 1 2 (lstF 1 [.b16 (BitVec.ofInt 16 2), .b16 (BitVec.ofInt 16 4)]))] [83] [vL 1 eW 0#16 r3.1, .own 83] [vL 1 eW 0#16 r3.1, vL 1 eW 0#16 [(BitVec.ofInt 16 2), (BitVec.ofInt 16 4)]] (.bool r9) []) ∧ (true = true → true = true) ∧ True) ∧ (true = true → true = true → true = true) ∧ (((.bool r9) : V) = (.bool true)) ∧ ((callP Tryd.prog true 18 [] [] [] [(6001, bL 28 1 eW 0#16 r4.2), (88, .rows 28 1 1 (lstF 1 [.b16 (BitVec.ofInt 16 6)]))] [6001, 88] [.own 6001, .own 88] [vL 1 eW 0#16 r4.2, vL 1 eW 0#16 [(BitVec.ofInt 16 6)]] (.bool r10) []) ∧ (true = true → true = true) ∧ True) ∧ (true = true → true = true → true = true) ∧ (((.bool r10) : V) = (.bool false)) ∧ ((callP Tryd.prog false 18 [] [] [] [] [] [vL 1 eW 0#16 r5.1, .bool false] [] (.bool false) []) ∧ (false = true → false = true) ∧ (false = true → false = true) ∧ True) ∧ (true = true → false = true → false = true) ∧ ((callP Tryd.prog false 18 [] [] [] [] [] [vL 1 eW 0#16 r6.1, .bool false] [] (.bool false) []) ∧ (false = true → false = true) ∧ (false = true → false = true) ∧ True) ∧ (true = true → false = true → false = true) ∧ ((callP Tryd.prog false 37 [] [] [] [] [] [vL 1 eW 0#16 r1.1] [] (.any) []) ∧ (false = true → false = true) ∧ True) ∧ (true = true → false = true → false = true) ∧ True) Tryd_mixed (by kernel_rfl) ⟨(congrArg (fun x => ((.bool x) : V)) hg9_1), ⟨⟨fun _ => (f18_ok r1.1 [(BitVec.ofInt 16 11), (BitVec.ofInt 16 13), (BitVec.ofInt 16 14)] r7 hr7), fun _ => ⟨.refl _, (VLe.of (RL.lst (enc := eW) [(BitVec.ofInt 16 11), (BitVec.ofInt 16 13), (BitVec.ofInt 16 14)] rfl rfl (fun _ => rfl))), trivial⟩, .inr ⟨rfl, trivial⟩⟩, ob10, trivial⟩, ob11, (congrArg (fun x => ((.bool x) : V)) hg9_6), ⟨⟨fun _ => (f18_ok r2.1 [(BitVec.ofInt 16 8), (BitVec.ofInt 16 3), (BitVec.ofInt 16 5), (BitVec.ofInt 16 6)] r8 hr8), fun _ => ⟨.refl _, (VLe.of (RL.lst (enc := eW) [(BitVec.ofInt 16 8), (BitVec.ofInt 16 3), (BitVec.ofInt 16 5), (BitVec.ofInt 16 6)] rfl rfl (fun _ => rfl))), trivial⟩, .inr ⟨rfl, trivial⟩⟩, ob12, trivial⟩, ob13, (congrArg (fun x => ((.bool x) : V)) hg9_11), ⟨⟨fun _ => (f18_ok r3.1 [(BitVec.ofInt 16 2), (BitVec.ofInt 16 4)] r9 hr9), fun _ => ⟨.refl _, (VLe.of (RL.lst (enc := eW) [(BitVec.ofInt 16 2), (BitVec.ofInt 16 4)] rfl rfl (fun _ => rfl))), trivial⟩, .inr ⟨rfl, trivial⟩⟩, ob14, trivial⟩, ob15, (congrArg (fun x => ((.bool x) : V)) hg9_16), ⟨⟨fun _ => (f18_ok r4.2 [(BitVec.ofInt 16 6)] r10 hr10), fun _ => ⟨.refl _, (VLe.of (RL.lst (enc := eW) [(BitVec.ofInt 16 6)] rfl rfl (fun _ => rfl))), trivial⟩, .inr ⟨rfl, trivial⟩⟩, ob16, trivial⟩, ob17, (congrArg (fun x => ((.bool x) : V)) (Bool.eq_false_iff.2 hg9_21)), ⟨⟨nofun, nofun, .inl rfl⟩, ob18, ob19, trivial⟩, ob20, ⟨⟨nofun, nofun, .inl rfl⟩, ob21, ob22, trivial⟩, ob23, ⟨⟨nofun, nofun, .inl rfl⟩, ob24, trivial⟩, ob25, trivial⟩ ?_
            refine thenQ_normal ?_
            have hret := Option.some.inj h
            subst hret
            refine AWp.le (Le.mk (s := ⟨106, [(0, .bool false), (1000000, .elem 32 1 T0F 0 0), (1000002, .elem 20 1 T2F 0 0)], [], [], 0⟩) (s' := ⟨106, [(0, .bool false)], [], [], 0⟩) rfl rfl ⟨.refl _, trivial⟩ trivial) ?_
            refine AWp.ret ?_
            exact bodyQ_ret _ rfl ⟨rfl, rfl⟩ rfl
        ·
          replace h := ite_f hg9_16 h
          have ob10 : true = true → true = true := fun h => h
          have ob11 : true = true → true = true → true = true := fun _ h => h
          have ob12 : true = true → true = true := fun h => h
          have ob13 : true = true → true = true → true = true := fun _ h => h
          have ob14 : true = true → true = true := fun h => h
          have ob15 : true = true → true = true → true = true := fun _ h => h
          have ob16 : false = true → false = true := fun h => h
          have ob17 : false = true → false = true := fun h => h
          have ob18 : true = true → false = true → false = true := fun _ h => h
          have ob19 : false = true → false = true := fun h => h
          have ob20 : false = true → false = true := fun h => h
          have ob21 : true = true → false = true → false = true := fun _ h => h
          have ob22 : false = true → false = true := fun h => h
          have ob23 : false = true → false = true := fun h => h
          have ob24 : true = true → false = true → false = true := fun _ h => h
          have ob25 : false = true → false = true := fun h => h
          have ob26 : true = true → false = true → false = true := fun _ h => h
          refine AWp.regC [] [(1, ⟨[], [], [], [], (.bool true), [], [0], []⟩), (4, ⟨[vL 1 eW 0#16 r1.1, vL 1 eW 0#16 [(BitVec.ofInt 16 11), (BitVec.ofInt 16 13), (BitVec.ofInt 16 14)]], [], [], [], .bool r7, [], [73], []⟩), (6, ⟨[], [], [], [], (.bool true), [], [0], []⟩), (9, ⟨[vL 1 eW 0#16 r2.1, vL 1 eW 0#16 [(BitVec.ofInt 16 8), (BitVec.ofInt 16 3), (BitVec.ofInt 16 5), (BitVec.ofInt 16 6)]], [], [], [], .bool r8, [], [78], []⟩), (11, ⟨[], [], [], [], (.bool true), [], [0], []⟩), (14, ⟨[vL 1 eW 0#16 r3.1, vL 1 eW 0#16 [(BitVec.ofInt 16 2), (BitVec.ofInt 16 4)]], [], [], [], .bool r9, [], [83], []⟩), (16, ⟨[], [], [], [], (.bool false), [], [0], []⟩), (19, ⟨[], [], [], [], .bool false, [], [], []⟩), (24, ⟨[], [], [], [], .bool false, [], [], []⟩), (29, ⟨[], [], [], [], .bool false, [], [], []⟩), (33, ⟨[], [], [], [], .any, [], [], []⟩)] [0, 1000000, 1000002] [] ⟨106, [(0, .bool false), (1000000, .elem 32 1 T0F 0 0), (1000002, .elem 20 1 T2F 0 0)], [], [], 0⟩ ((((.bool ((((((r1.2 == (0 : Int)) && (r2.2 == (0 : Int))) && (r3.2 == (0 : Int))) && (r4.1 == (0 : Int))) && (r5.2 == (0 : Int))) && (r6.2 == (0 : Int)))) : V) = (.bool true)) ∧ ((callP Tryd.prog true 18 [] [] [] [(73, .rows 28 1 3 (lstF 1 [.b16 (BitVec.ofInt 16 11), .b16 (BitVec.ofInt 16 13), .b16 (BitVec.ofInt 16 14)]))] [73] [vL 1 eW 0#16 r1.1, .own 73] [vL 1 eW 0#16 r1.1, vL 1 eW 0#16 [(BitVec.ofInt 16 11), (BitVec.ofInt 16 13), (BitVec.ofInt 16 14)]] (.bool r7) []) ∧ (true = true → true = true) ∧ True) ∧ (true = true → true = true → true = true) ∧ (((.bool r7) : V) = (.bool true)) ∧ ((callP Tryd.prog true 18 [] [] [] [(78, .rows 28 1 4 (lstF 1 [.b16 (BitVec.ofInt 16 8), .b16 (BitVec.ofInt 16 3), .b16 (BitVec.ofInt 16 5), .b16 (BitVec.ofInt 16 6)]))] [78] [vL 1 eW 0#16 r2.1, .own 78] [vL 1 eW 0#16 r2.1, vL 1 eW 0#16 [(BitVec.ofInt 16 8), (BitVec.ofInt 16 3), (BitVec.ofInt 16 5), (BitVec.ofInt 16 6)]] (.bool r8) []) ∧ (true = true → true = true) ∧ True) ∧ (true = true → true = true → true = true) ∧ (((.bool r8) : V) = (.bool true)) ∧ ((callP Tryd.prog true 18 [] [] [] [(83, .rows 28 1 2 (lstF 1 [.b16 (BitVec.ofInt 16 2), .b16 (BitVec.ofInt 16 4)]))] [83] [vL 1 eW 0#16 r3.1, .own 83] [vL 1 eW 0#16 r3.1, vL 1 eW 0#16 [(BitVec.ofInt 16 2), (BitVec.ofInt 16 4)]] (.bool r9) []) ∧ (true = true → true = true) ∧ True) ∧ (true = true → true = true → true = true) ∧ (((.bool r9) : V) = (.bool false)) ∧ ((callP Tryd.prog false 18 [] [] [] [] [] [.own 6001, .bool false] [] (.bool false) []) ∧ (false = true → false = true) ∧ (false = true → false = true) ∧ True) ∧ (true = true → false = true → false = true) ∧ ((callP Tryd.prog false 18 [] [] [] [] [] [vL 1 eW 0#16 r5.1, .bool false] [] (.bool false) []) ∧ (false = true → false = true) ∧ (false = true → false = true) ∧ True) ∧ (true = true → false = true → false = true) ∧ ((callP Tryd.prog false 18 [] [] [] [] [] [vL 1 eW 0#16 r6.1, .bool false] [] (.bool false) []) ∧ (false = true → false = true) ∧ (false = true → false = true) ∧ True) ∧ (true = true → false = true → false = true) ∧ ((callP Tryd.prog false 37 [] [] [] [] [] [vL 1 eW 0#16 r1.1] [] (.any) []) ∧ (false = true → false = true) ∧ True) ∧ (true = true → false = true → false = true) ∧ True) Tryd_mixed (by kernel_rfl) ⟨(congrArg (fun x => ((.bool x) : V)) hg9_1), ⟨⟨fun _ => (f18_ok r1.1 [(BitVec.ofInt 16 11), (BitVec.ofInt 16 13), (BitVec.ofInt 16 14)] r7 hr7), fun _ => ⟨.refl _, (VLe.of (RL.lst (enc := eW) [(BitVec.ofInt 16 11), (BitVec.ofInt 16 13), (BitVec.ofInt 16 14)] rfl rfl (fun _ => rfl))), trivial⟩, .inr ⟨rfl, trivial⟩⟩, ob10, trivial⟩, ob11, (congrArg (fun x => ((.bool x) : V)) hg9_6), ⟨⟨fun _ => (f18_ok r2.1 [(BitVec.ofInt 16 8), (BitVec.ofInt 16 3), (BitVec.ofInt 16 5), (BitVec.ofInt 16 6)] r8 hr8), fun _ => ⟨.refl _, (VLe.of (RL.lst (enc := eW) [(BitVec.ofInt 16 8), (BitVec.ofInt 16 3), (BitVec.ofInt 16 5), (BitVec.ofInt 16 6)] rfl rfl (fun _ => rfl))), trivial⟩, .inr ⟨rfl, trivial⟩⟩, ob12, trivial⟩, ob13, (congrArg (fun x => ((.bool x) : V)) hg9_11), ⟨⟨fun _ => (f18_ok r3.1 [(BitVec.ofInt 16 2), (BitVec.ofInt 16 4)] r9 hr9), fun _ => ⟨.refl _, (VLe.of (RL.lst (enc := eW) [(BitVec.ofInt 16 2), (BitVec.ofInt 16 4)] rfl rfl (fun _ => rfl))), trivial⟩, .inr ⟨rfl, trivial⟩⟩, ob14, trivial⟩, ob15, (congrArg (fun x => ((.bool x) : V)) (Bool.eq_false_iff.2 hg9_16)), ⟨⟨nofun, nofun, .inl rfl⟩, ob16, ob17, trivial⟩, ob18, ⟨⟨nofun, nofun, .inl rfl⟩, ob19, ob20, trivial⟩, ob21, ⟨⟨nofun, nofun, .inl rfl⟩, ob22, ob23, trivial⟩, ob24, ⟨⟨nofun, nofun, .inl rfl⟩, ob25, trivial⟩, ob26, trivial⟩ ?_
          refine thenQ_normal ?_
          have hret := Option.some.inj h
          subst hret
          refine AWp.le (Le.mk (s := ⟨106, [(0, .bool false), (1000000, .elem 32 1 T0F 0 0), (1000002, .elem 20 1 T2F 0 0)], [], [], 0⟩) (s' := ⟨106, [(0, .bool false)], [], [], 0⟩) rfl rfl ⟨.refl _, trivial⟩ trivial) ?_
          refine AWp.ret ?_
          exact bodyQ_ret _ rfl ⟨rfl, rfl⟩ rfl
      ·
        replace h := ite_f hg9_11 h
        have ob10 : true = true → true = true := fun h => h
        have ob11 : true = true → true = true → true = true := fun _ h => h
        have ob12 : true = true → true = true := fun h => h
        have ob13 : true = true → true = true → true = true := fun _ h => h
        have ob14 : false = true → false = true := fun h => h
        have ob15 : false = true → false = true := fun h => h
        have ob16 : true = true → false = true → false = true := fun _ h => h
        have ob17 : false = true → false = true := fun h => h
        have ob18 : false = true → false = true := fun h => h
        have ob19 : true = true → false = true → false = true := fun _ h => h
        have ob20 : false = true → false = true := fun h => h
        have ob21 : false = true → false = true := fun h => h
        have ob22 : true = true → false = true → false = true := fun _ h => h
        have ob23 : false = true → false = true := fun h => h
        have ob24 : false = true → false = true := fun h => h
        have ob25 : true = true → false = true → false = true := fun _ h => h
        have ob26 : false = true → false = true := fun h => h
        have ob27 : true = true → false = true → false = true := fun _ h => h
        refine AWp.regC [] [(1, ⟨[], [], [], [], (.bool true), [], [0], []⟩), (4, ⟨[vL 1 eW 0#16 r1.1, vL 1 eW 0#16 [(BitVec.ofInt 16 11), (BitVec.ofInt 16 13), (BitVec.ofInt 16 14)]], [], [], [], .bool r7, [], [73], []⟩), (6, ⟨[], [], [], [], (.bool true), [], [0], []⟩), (9, ⟨[vL 1 eW 0#16 r2.1, vL 1 eW 0#16 [(BitVec.ofInt 16 8), (BitVec.ofInt 16 3), (BitVec.ofInt 16 5), (BitVec.ofInt 16 6)]], [], [], [], .bool r8, [], [78], []⟩), (11, ⟨[], [], [], [], (.bool false), [], [0], []⟩), (14, ⟨[], [], [], [], .bool false, [], [], []⟩), (19, ⟨[], [], [], [], .bool false, [], [], []⟩), (24, ⟨[], [], [], [], .bool false, [], [], []⟩), (29, ⟨[], [], [], [], .bool false, [], [], []⟩), (33, ⟨[], [], [], [], .any, [], [], []⟩)] [0, 1000000, 1000002] [] ⟨106, [(0, .bool false), (1000000, .elem 32 1 T0F 0 0), (1000002, .elem 20 1 T2F 0 0)], [], [], 0⟩ ((((.bool ((((((r1.2 == (0 : Int)) && (r2.2 == (0 : Int))) && (r3.2 == (0 : Int))) && (r4.1 == (0 : Int))) && (r5.2 == (0 : Int))) && (r6.2 == (0 : Int)))) : V) = (.bool true)) ∧ ((callP Tryd.prog true 18 [] [] [] [(73, .rows 28 1 3 (lstF 1 [.b16 (BitVec.ofInt 16 11), .b16 (BitVec.ofInt 16 13), .b16 (BitVec.ofInt 16 14)]))] [73] [vL 1 eW 0#16 r1.1, .own 73] [vL 1 eW 0#16 r1.1, vL 1 eW 0#16 [(BitVec.ofInt 16 11), (BitVec.ofInt 16 13), (BitVec.ofInt 16 14)]] (.bool r7) []) ∧ (true = true → true = true) ∧ True) ∧ (true = true → true = true → true = true) ∧ (((.bool r7) : V) = (.bool true)) ∧ ((callP Tryd.prog true 18 [] [] [] [(78, .rows 28 1 4 (lstF 1 [.b16 (BitVec.ofInt 16 8), .b16 (BitVec.ofInt 16 3), .b16 (BitVec.ofInt 16 5), .b16 (BitVec.ofInt 16 6)]))] [78] [vL 1 eW 0#16 r2.1, .own 78] [vL 1 eW 0#16 r2.1, vL 1 eW 0#16 [(BitVec.ofInt 16 8), (BitVec.ofInt 16 3), (BitVec.ofInt 16 5), (BitVec.ofInt 16 6)]] (.bool r8) []) ∧ (true = true → true = true) ∧ True) ∧ (true = true → true = true → true = true) ∧ (((.bool r8) : V) = (.bool false)) ∧ ((callP Tryd.prog false 18 [] [] [] [] [] [vL 1 eW 0#16 r3.1, .bool false] [] (.bool false) []) ∧ (false = true → false = true) ∧ (false = true → false = true) ∧ True) ∧ (true = true → false = true → false = true) ∧ ((callP Tryd.prog false 18 [] [] [] [] [] [.own 6001, .bool false] [] (.bool false) []) ∧ (false = true → false = true) ∧ (false = true → false = true) ∧ True) ∧ (true = true → false = true → false = true) ∧ ((callP Tryd.prog false 18 [] [] [] [] [] [vL 1 eW 0#16 r5.1, .bool false] [] (.bool false) []) ∧ (false = true → false = true) ∧ (false = true → false = true) ∧ True) ∧ (true = true → false = true → false = true) ∧ ((callP Tryd.prog false 18 [] [] [] [] [] [vL 1 eW 0#16 r6.1, .bool false] [] (.bool false) []) ∧ (false = true → false = true) ∧ (false = true → false = true) ∧ True) ∧ (true = true → false = true → false = true) ∧ ((callP Tryd.prog false 37 [] [] [] [] [] [vL 1 eW 0#16 r1.1] [] (.any) []) ∧ (false = true → false = true) ∧ True) ∧ (true = true → false = true → false = true) ∧ True) Tryd_mixed (by kernel_rfl) ⟨(congrArg (fun x => ((.bool x) : V)) hg9_1), ⟨⟨fun _ => (f18_ok r1.1 [(BitVec.ofInt 16 11), (BitVec.ofInt 16 13), (BitVec.ofInt 16 14)] r7 hr7), fun _ => ⟨.refl _, (VLe.of (RL.lst (enc := eW) [(BitVec.ofInt 16 11), (BitVec.ofInt 16 13), (BitVec.ofInt 16 14)] rfl rfl (fun _ => rfl))), trivial⟩, .inr ⟨rfl, trivial⟩⟩, ob10, trivial⟩, ob11, (congrArg (fun x => ((.bool x) : V)) hg9_6), ⟨⟨fun _ => (f18_ok r2.1 [(BitVec.ofInt 16 8), (BitVec.ofInt 16 3), (BitVec.ofInt 16 5), (BitVec.ofInt 16 6)] r8 hr8), fun _ => ⟨.refl _, (VLe.of (RL.lst (enc := eW) [(BitVec.ofInt 16 8), (BitVec.ofInt 16 3), (BitVec.ofInt 16 5), (BitVec.ofInt 16 6)] rfl rfl (fun _ => rfl))), trivial⟩, .inr ⟨rfl, trivial⟩⟩, ob12, trivial⟩, ob13, (congrArg (fun x => ((.bool x) : V)) (Bool.eq_false_iff.2 hg9_11)), ⟨⟨nofun, nofun, .inl rfl⟩, ob14, ob15, trivial⟩, ob16, ⟨⟨nofun, nofun, .inl rfl⟩, ob17, ob18, trivial⟩, ob19, ⟨⟨nofun, nofun, .inl rfl⟩, ob20, ob21, trivial⟩, ob22, ⟨⟨nofun, nofun, .inl rfl⟩, ob23, ob24, trivial⟩, ob25, ⟨⟨nofun, nofun, .inl rfl⟩, ob26, trivial⟩, ob27, trivial⟩ ?_
        refine thenQ_normal ?_
        have hret := Option.some.inj h
        subst hret
        refine AWp.le (Le.mk (s := ⟨106, [(0, .bool false), (1000000, .elem 32 1 T0F 0 0), (1000002, .elem 20 1 T2F 0 0)], [], [], 0⟩) (s' := ⟨106, [(0, .bool false)], [], [], 0⟩) rfl rfl ⟨.refl _, trivial⟩ trivial) ?_
        refine AWp.ret ?_
        exact bodyQ_ret _ rfl ⟨rfl, rfl⟩ rfl
    ·
      replace h := ite_f hg9_6 h
      have ob10 : true = true → true = true := fun h => h
      have ob11 : true = true → true = true → true = true := fun _ h => h
      have ob12 : false = true → false = true := fun h => h
      have ob13 : false = true → false = true := fun h => h
      have ob14 : true = true → false = true → false = true := fun _ h => h
      have ob15 : false = true → false = true := fun h => h
      have ob16 : false = true → false = true := fun h => h
      have ob17 : true = true → false = true → false = true := fun _ h => h
      have ob18 : false = true → false = true := fun h => h
      have ob19 : false = true → false = true := fun h => h
      have ob20 : true = true → false = true → false = true := fun _ h => h
      have ob21 : false = true → false = true := fun h => h
      have ob22 : false = true → false = true := fun h => h
      have ob23 : true = true → false = true → false = true := fun _ h => h
      have ob24 : false = true → false = true := fun h => h
      have ob25 : false = true → false = true := fun h => h
      have ob26 : true = true → false = true → false = true := fun _ h => h
      have ob27 : false = true → false = true := fun h => h
      have ob28 : true = true → false = true → false = true := fun _ h => h
      refine AWp.regC [] [(1, ⟨[], [], [], [], (.bool true), [], [0], []⟩), (4, ⟨[vL 1 eW 0#16 r1.1, vL 1 eW 0#16 [(BitVec.ofInt 16 11), (BitVec.ofInt 16 13), (BitVec.ofInt 16 14)]], [], [], [], .bool r7, [], [73], []⟩), (6, ⟨[], [], [], [], (.bool false), [], [0], []⟩), (9, ⟨[], [], [], [], .bool false, [], [], []⟩), (14, ⟨[], [], [], [], .bool false, [], [], []⟩), (19, ⟨[], [], [], [], .bool false, [], [], []⟩), (24, ⟨[], [], [], [], .bool false, [], [], []⟩), (29, ⟨[], [], [], [], .bool false, [], [], []⟩), (33, ⟨[], [], [], [], .any, [], [], []⟩)] [0, 1000000, 1000002] [] ⟨106, [(0, .bool false), (1000000, .elem 32 1 T0F 0 0), (1000002, .elem 20 1 T2F 0 0)], [], [], 0⟩ ((((.bool ((((((r1.2 == (0 : Int)) && (r2.2 == (0 : Int))) && (r3.2 == (0 : Int))) && (r4.1 == (0 : Int))) && (r5.2 == (0 : Int))) && (r6.2 == (0 : Int)))) : V) = (.bool true)) ∧ ((callP Tryd.prog true 18 [] [] [] [(73, .rows 28 1 3 (lstF 1 [.b16 (BitVec.ofInt 16 11), .b16 (BitVec.ofInt 16 13), .b16 (BitVec.ofInt 16 14)]))] [73] [vL 1 eW 0#16 r1.1, .own 73] [vL 1 eW 0#16 r1.1, vL 1 eW 0#16 [(BitVec.ofInt 16 11), (BitVec.ofInt 16 13), (BitVec.ofInt 16 14)]] (.bool r7) []) ∧ (true = true → true = true) ∧ True) ∧ (true = true → true = true → true = true) ∧ (((.bool r7) : V) = (.bool false)) ∧ ((callP Tryd.prog false 18 [] [] [] [] [] [vL 1 eW 0#16 r2.1, .bool false] [] (.bool false) []) ∧ (false = true → false = true) ∧ (false = true → false = true) ∧ True) ∧ (true = true → false = true → false = true) ∧ ((callP Tryd.prog false 18 [] [] [] [] [] [vL 1 eW 0#16 r3.1, .bool false] [] (.bool false) []) ∧ (false = true → false = true) ∧ (false = true → false = true) ∧ True) ∧ (true = true → false = true → false = true) ∧ ((callP Tryd.prog false 18 [] [] [] [] [] [.own 6001, .bool false] [] (.bool false) []) ∧ (false = true → false = true) ∧ (false = true → false = true) ∧ True) ∧ (true = true → false = true → false = true) ∧ ((callP Tryd.prog false 18 [] [] [] [] [] [vL 1 eW 0#16 r5.1, .bool false] [] (.bool false) []) ∧ (false = true → false = true) ∧ (false = true → false = true) ∧ True) ∧ (true = true → false = true → false = true) ∧ ((callP Tryd.prog false 18 [] [] [] [] [] [vL 1 eW 0#16 r6.1, .bool false] [] (.bool false) []) ∧ (false = true → false = true) ∧ (false = true → false = true) ∧ True) ∧ (true = true → false = true → false = true) ∧ ((callP Tryd.prog false 37 [] [] [] [] [] [vL 1 eW 0#16 r1.1] [] (.any) []) ∧ (false = true → false = true) ∧ True) ∧ (true = true → false = true → false = true) ∧ True) Tryd_mixed (by kernel_rfl) ⟨(congrArg (fun x => ((.bool x) : V)) hg9_1), ⟨⟨fun _ => (f18_ok r1.1 [(BitVec.ofInt 16 11), (BitVec.ofInt 16 13), (BitVec.ofInt 16 14)] r7 hr7), fun _ => ⟨.refl _, (VLe.of (RL.lst (enc := eW) [(BitVec.ofInt 16 11), (BitVec.ofInt 16 13), (BitVec.ofInt 16 14)] rfl rfl (fun _ => rfl))), trivial⟩, .inr ⟨rfl, trivial⟩⟩, ob10, trivial⟩, ob11, (congrArg (fun x => ((.bool x) : V)) (Bool.eq_false_iff.2 hg9_6)), ⟨⟨nofun, nofun, .inl rfl⟩, ob12, ob13, trivial⟩, ob14, ⟨⟨nofun, nofun, .inl rfl⟩, ob15, ob16, trivial⟩, ob17, ⟨⟨nofun, nofun, .inl rfl⟩, ob18, ob19, trivial⟩, ob20, ⟨⟨nofun, nofun, .inl rfl⟩, ob21, ob22, trivial⟩, ob23, ⟨⟨nofun, nofun, .inl rfl⟩, ob24, ob25, trivial⟩, ob26, ⟨⟨nofun, nofun, .inl rfl⟩, ob27, trivial⟩, ob28, trivial⟩ ?_
      refine thenQ_normal ?_
      have hret := Option.some.inj h
      subst hret
      refine AWp.le (Le.mk (s := ⟨106, [(0, .bool false), (1000000, .elem 32 1 T0F 0 0), (1000002, .elem 20 1 T2F 0 0)], [], [], 0⟩) (s' := ⟨106, [(0, .bool false)], [], [], 0⟩) rfl rfl ⟨.refl _, trivial⟩ trivial) ?_
      refine AWp.ret ?_
      exact bodyQ_ret _ rfl ⟨rfl, rfl⟩ rfl
  ·
    replace h := ite_f hg9_1 h
    have ob10 : false = true → false = true := fun h => h
    have ob11 : false = true → false = true := fun h => h
    have ob12 : true = true → false = true → false = true := fun _ h => h
    have ob13 : false = true → false = true := fun h => h
    have ob14 : false = true → false = true := fun h => h
    have ob15 : true = true → false = true → false = true := fun _ h => h
    have ob16 : false = true → false = true := fun h => h
    have ob17 : false = true → false = true := fun h => h
    have ob18 : true = true → false = true → false = true := fun _ h => h
    have ob19 : false = true → false = true := fun h => h
    have ob20 : false = true → false = true := fun h => h
    have ob21 : true = true → false = true → false = true := fun _ h => h
    have ob22 : false = true → false = true := fun h => h
    have ob23 : false = true → false = true := fun h => h
    have ob24 : true = true → false = true → false = true := fun _ h => h
    have ob25 : false = true → false = true := fun h => h
    have ob26 : false = true → false = true := fun h => h
    have ob27 : true = true → false = true → false = true := fun _ h => h
    have ob28 : false = true → false = true := fun h => h
    have ob29 : true = true → false = true → false = true := fun _ h => h
    refine AWp.regC [] [(1, ⟨[], [], [], [], (.bool false), [], [0], []⟩), (4, ⟨[], [], [], [], .bool false, [], [], []⟩), (9, ⟨[], [], [], [], .bool false, [], [], []⟩), (14, ⟨[], [], [], [], .bool false, [], [], []⟩), (19, ⟨[], [], [], [], .bool false, [], [], []⟩), (24, ⟨[], [], [], [], .bool false, [], [], []⟩), (29, ⟨[], [], [], [], .bool false, [], [], []⟩), (33, ⟨[], [], [], [], .any, [], [], []⟩)] [0, 1000000, 1000002] [] ⟨106, [(0, .bool false), (1000000, .elem 32 1 T0F 0 0), (1000002, .elem 20 1 T2F 0 0)], [], [], 0⟩ ((((.bool ((((((r1.2 == (0 : Int)) && (r2.2 == (0 : Int))) && (r3.2 == (0 : Int))) && (r4.1 == (0 : Int))) && (r5.2 == (0 : Int))) && (r6.2 == (0 : Int)))) : V) = (.bool false)) ∧ ((callP Tryd.prog false 18 [] [] [] [] [] [vL 1 eW 0#16 r1.1, .bool false] [] (.bool false) []) ∧ (false = true → false = true) ∧ (false = true → false = true) ∧ True) ∧ (true = true → false = true → false = true) ∧ ((callP Tryd.prog false 18 [] [] [] [] [] [vL 1 eW 0#16 r2.1, .bool false] [] (.bool false) []) ∧ (false = true → false = true) ∧ (false = true → false = true) ∧ True) ∧ (true = true → false = true → false = true) ∧ ((callP Tryd.prog false 18 [] [] [] [] [] [vL 1 eW 0#16 r3.1, .bool false] [] (.bool false) []) ∧ (false = true → false = true) ∧ (false = true → false = true) ∧ True) ∧ (true = true → false = true → false = true) ∧ ((callP Tryd.prog false 18 [] [] [] [] [] [.own 6001, .bool false] [] (.bool false) []) ∧ (false = true → false = true) ∧ (false = true → false = true) ∧ True) ∧ (true = true → false = true → false = true) ∧ ((callP Tryd.prog false 18 [] [] [] [] [] [vL 1 eW 0#16 r5.1, .bool false] [] (.bool false) []) ∧ (false = true → false = true) ∧ (false = true → false = true) ∧ True) ∧ (true = true → false = true → false = true) ∧ ((callP Tryd.prog false 18 [] [] [] [] [] [vL 1 eW 0#16 r6.1, .bool false] [] (.bool false) []) ∧ (false = true → false = true) ∧ (false = true → false = true) ∧ True) ∧ (true = true → false = true → false = true) ∧ ((callP Tryd.prog false 37 [] [] [] [] [] [vL 1 eW 0#16 r1.1] [] (.any) []) ∧ (false = true → false = true) ∧ True) ∧ (true = true → false = true → false = true) ∧ True) Tryd_mixed (by kernel_rfl) ⟨(congrArg (fun x => ((.bool x) : V)) (Bool.eq_false_iff.2 hg9_1)), ⟨⟨nofun, nofun, .inl rfl⟩, ob10, ob11, trivial⟩, ob12, ⟨⟨nofun, nofun, .inl rfl⟩, ob13, ob14, trivial⟩, ob15, ⟨⟨nofun, nofun, .inl rfl⟩, ob16, ob17, trivial⟩, ob18, ⟨⟨nofun, nofun, .inl rfl⟩, ob19, ob20, trivial⟩, ob21, ⟨⟨nofun, nofun, .inl rfl⟩, ob22, ob23, trivial⟩, ob24, ⟨⟨nofun, nofun, .inl rfl⟩, ob25, ob26, trivial⟩, ob27, ⟨⟨nofun, nofun, .inl rfl⟩, ob28, trivial⟩, ob29, trivial⟩ ?_
    refine thenQ_normal ?_
    have hret := Option.some.inj h
    subst hret
    refine AWp.le (Le.mk (s := ⟨106, [(0, .bool false), (1000000, .elem 32 1 T0F 0 0), (1000002, .elem 20 1 T2F 0 0)], [], [], 0⟩) (s' := ⟨106, [(0, .bool false)], [], [], 0⟩) rfl rfl ⟨.refl _, trivial⟩ trivial) ?_
    refine AWp.ret ?_
    exact bodyQ_ret _ rfl ⟨rfl, rfl⟩ rfl
def f39 (x1 : BitVec 16) : Option Bool :=
  some (decide (x1.toNat < (BitVec.ofInt 16 4096).toNat))
def f59_L0 (x1 : BitVec 16) (K1 : Nat → Option Int) : Nat → (Nat × Nat) → Option Int
  | 0, _ => none
  | k + 1, (n2, n3) =>
    if (decide (((n3 : Nat) : Int) < (16 : Int))) then (
    chk ((((n2 : Nat) : Int) + ((((x1 >>> n3) &&& (BitVec.ofInt 16 1)).toNat : Nat) : Int)) ≤ 9223372036854775807) <|
    chk ((((n3 : Nat) : Int) + (1 : Int)) ≤ 9223372036854775807) <|
    (f59_L0 x1 K1 k) ((n2 + ((x1 >>> n3) &&& (BitVec.ofInt 16 1)).toNat), (n3 + 1))
    ) else (
    K1 n2
    )
def f59 (x1 : BitVec 16) : Option Int :=
  jn (fun (n4 : Nat) =>
  some ((n4 : Nat) : Int)
  ) fun (K1 : Nat → Option Int) =>
  f59_L0 x1 K1 FUEL (0, 0)
set_option maxRecDepth 100000 in
theorem f59_ok  (x1 : BitVec 16) (r : Int) (h : f59 x1 = some r)  : Spec1 Tryd.prog 59 [] [] [] [.b16 x1] (.int .i64 r) [] := by
  unfold f59 at h
  refine Spec1.body 0 _ _ Tryd.func59 rfl Tryd.ntmps59 rfl rfl ?_
  refine AWp.seq ?_
  refine AWp.regC [] [] [0] [] ⟨17, [(0, .b16 x1)], [], [], 0⟩ (True) Tryd_mixed (by kernel_rfl) trivial ?_
  refine thenQ_normal ?_
  refine AWp.seq ?_
  refine AWp.regC [] [] [0, 3] [] ⟨17, [(0, .b16 x1), (3, .int .i64 (0 : Int))], [], [], 0⟩ (True) Tryd_mixed (by kernel_rfl) trivial ?_
  refine thenQ_normal ?_
  obtain ⟨K1, hK1, h⟩ := jn_some h
  refine AWp.join (α := Nat) (fun (n4 : Nat) => ⟨17, [(3, .int .i64 ((n4 : Nat) : Int))], [], [], 0⟩) (fun x => K1 x = some r) ?_ ?_
  ·
    refine AWp.seq ?_
    refine AWp.regC [] [] [0, 3, 4] [] ⟨17, [(0, .b16 x1), (3, .int .i64 (0 : Int)), (4, .int .i64 (0 : Int))], [], [], 0⟩ (True) Tryd_mixed (by kernel_rfl) trivial ?_
    refine thenQ_normal ?_
    refine AWp.block ?_
    refine AWp.loopL (α := Nat × (Nat × Nat)) (fun x => match x with | (_, n2, n3) => ⟨17, [(0, .b16 x1), (3, .int .i64 ((n2 : Nat) : Int)), (4, .int .i64 ((n3 : Nat) : Int))], [], [], 0⟩) (fun x => f59_L0 x1 K1 x.1 x.2 = some r) (fun x => x.1) (FUEL, 0, 0) (Le.mk (s := ⟨17, [(0, .b16 x1), (3, .int .i64 (0 : Int)), (4, .int .i64 (0 : Int))], [], [], 0⟩) (s' := ⟨17, [(0, .b16 x1), (3, .int .i64 (0 : Int)), (4, .int .i64 (0 : Int))], [], [], 0⟩) rfl rfl ⟨.refl _, .refl _, .refl _, trivial⟩ trivial) h ?_
    rintro ⟨k0, n2, n3⟩ h
    cases k0 with
    | zero => exact nomatch (show (none : Option Int) = some r from h)
    | succ k0 =>
    obtain ⟨C0, hC0⟩ : ∃ C, C = f59_L0 x1 K1 k0 := ⟨_, rfl⟩
    replace h := (f59_L0.eq_2 ..).symm.trans h
    try rw [← hC0] at h
    refine AWp.seq ?_
    refine AWp.seq ?_
    refine AWp.regC [] [] [0, 3, 4, 6] [] ⟨17, [(0, .b16 x1), (3, .int .i64 ((n2 : Nat) : Int)), (4, .int .i64 ((n3 : Nat) : Int)), (6, .bool (decide (((n3 : Nat) : Int) < (16 : Int))))], [], [], 0⟩ (True) Tryd_mixed (by kernel_rfl) trivial ?_
    refine thenQ_normal ?_
    refine AWp.cond (b := (decide (((n3 : Nat) : Int) < (16 : Int)))) (by kernel_rfl) (fun hc1 => ?_) (fun hc1 => ?_)
    ·
      replace h := ite_tb hc1 h
      refine AWp.skip ?_
      refine thenQ_normal ?_
      refine AWp.seq ?_
      refine AWp.block ?_
      have ob0 : 0 ≤ ((n3 : Nat) : Int) := by omega
      have ob1 : -9223372036854775808 ≤ ((((x1 >>> n3) &&& (BitVec.ofInt 16 1)).toNat : Nat) : Int) ∧ ((((x1 >>> n3) &&& (BitVec.ofInt 16 1)).toNat : Nat) : Int) ≤ 9223372036854775807 := ⟨by omega, by (have := (((x1 >>> n3) &&& (BitVec.ofInt 16 1)) : BitVec 16).isLt; omega)⟩
      obtain ⟨ob2p, h⟩ := chk_some h
      have ob2 : -9223372036854775808 ≤ (((n2 : Nat) : Int) + ((((x1 >>> n3) &&& (BitVec.ofInt 16 1)).toNat : Nat) : Int)) ∧ (((n2 : Nat) : Int) + ((((x1 >>> n3) &&& (BitVec.ofInt 16 1)).toNat : Nat) : Int)) ≤ 9223372036854775807 := ⟨by omega, ob2p⟩
      refine AWp.regC [] [] [0, 3, 4] [] ⟨17, [(0, .b16 x1), (3, .int .i64 (((n2 + ((x1 >>> n3) &&& (BitVec.ofInt 16 1)).toNat) : Nat) : Int)), (4, .int .i64 ((n3 : Nat) : Int))], [], [], 0⟩ ((0 ≤ ((n3 : Nat) : Int)) ∧ (-9223372036854775808 ≤ ((((x1 >>> n3) &&& (BitVec.ofInt 16 1)).toNat : Nat) : Int) ∧ ((((x1 >>> n3) &&& (BitVec.ofInt 16 1)).toNat : Nat) : Int) ≤ 9223372036854775807) ∧ (-9223372036854775808 ≤ (((n2 : Nat) : Int) + ((((x1 >>> n3) &&& (BitVec.ofInt 16 1)).toNat : Nat) : Int)) ∧ (((n2 : Nat) : Int) + ((((x1 >>> n3) &&& (BitVec.ofInt 16 1)).toNat : Nat) : Int)) ≤ 9223372036854775807) ∧ True) Tryd_mixed (by kernel_rfl) ⟨ob0, ob1, ob2, trivial⟩ ?_
      refine blockQ_normal ?_
      refine thenQ_normal ?_
      obtain ⟨ob3p, h⟩ := chk_some h
      have ob3 : -9223372036854775808 ≤ (((n3 : Nat) : Int) + (1 : Int)) ∧ (((n3 : Nat) : Int) + (1 : Int)) ≤ 9223372036854775807 := ⟨by omega, ob3p⟩
      refine AWp.regC [] [] [0, 3, 4] [] ⟨17, [(0, .b16 x1), (3, .int .i64 (((n2 + ((x1 >>> n3) &&& (BitVec.ofInt 16 1)).toNat) : Nat) : Int)), (4, .int .i64 (((n3 + 1) : Nat) : Int))], [], [], 0⟩ ((-9223372036854775808 ≤ (((n3 : Nat) : Int) + (1 : Int)) ∧ (((n3 : Nat) : Int) + (1 : Int)) ≤ 9223372036854775807) ∧ True) Tryd_mixed (by kernel_rfl) ⟨ob3, trivial⟩ ?_
      rw [hC0] at h
      exact loopQ_normal (_, (n2 + ((x1 >>> n3) &&& (BitVec.ofInt 16 1)).toNat), (n3 + 1)) (Le.mk (s := ⟨17, [(0, .b16 x1), (3, .int .i64 (((n2 + ((x1 >>> n3) &&& (BitVec.ofInt 16 1)).toNat) : Nat) : Int)), (4, .int .i64 (((n3 + 1) : Nat) : Int))], [], [], 0⟩) (s' := ⟨17, [(0, .b16 x1), (3, .int .i64 (((n2 + ((x1 >>> n3) &&& (BitVec.ofInt 16 1)).toNat) : Nat) : Int)), (4, .int .i64 (((n3 + 1) : Nat) : Int))], [], [], 0⟩) rfl rfl ⟨.refl _, .refl _, .refl _, trivial⟩ trivial) h (Nat.lt_succ_self _)
    ·
      replace h := ite_fb hc1 h
      refine AWp.exit ?_
      refine thenQ_exit ?_
      refine thenQ_exit ?_
      refine blockQ_same ?_
      exact joinQ_normal (n2) (Le.mk (s := ⟨17, [(0, .b16 x1), (3, .int .i64 ((n2 : Nat) : Int)), (4, .int .i64 ((n3 : Nat) : Int)), (6, .bool (decide (((n3 : Nat) : Int) < (16 : Int))))], [], [], 0⟩) (s' := ⟨17, [(3, .int .i64 ((n2 : Nat) : Int))], [], [], 0⟩) rfl rfl ⟨.refl _, trivial⟩ trivial) h
  ·
    rintro n4 h
    replace h := (congrFun hK1 _).symm.trans h
    refine AWp.seq ?_
    refine AWp.regC [] [] [2] [] ⟨17, [(2, .int .i64 ((n4 : Nat) : Int))], [], [], 0⟩ (True) Tryd_mixed (by kernel_rfl) trivial ?_
    refine thenQ_normal ?_
    have hret := Option.some.inj h
    subst hret
    refine AWp.le (Le.mk (s := ⟨17, [(2, .int .i64 ((n4 : Nat) : Int))], [], [], 0⟩) (s' := ⟨17, [(2, .int .i64 ((n4 : Nat) : Int))], [], [], 0⟩) rfl rfl ⟨.refl _, trivial⟩ trivial) ?_
    refine AWp.ret ?_
    exact bodyQ_ret _ rfl ⟨rfl, rfl⟩ rfl
def f40 (x1 : BitVec 16) (x2 : BitVec 16) : Option Bool :=
  (f59 x1).bind fun (r3 : Int) =>
  (f59 x2).bind fun (r4 : Int) =>
  if (r3 != r4) then (
  (f59 x1).bind fun (r5 : Int) =>
  (f59 x2).bind fun (r6 : Int) =>
  some (decide (r5 < r6))
  ) else (
  some (decide (x1.toNat < x2.toNat))
  )
def f41 (x1 : BitVec 16) (x2 : BitVec 16) : Option Bool :=
  some ((x2 &&& ~~~x1) == (BitVec.ofInt 16 0))
set_option maxRecDepth 100000 in
theorem f41_ok  (x1 : BitVec 16) (x2 : BitVec 16) (r : Bool) (h : f41 x1 x2 = some r)  : Spec1 Tryd.prog 41 [] [] [] [.b16 x1, .b16 x2] (.bool r) [] := by
  unfold f41 at h
  refine Spec1.body 0 _ _ Tryd.func41 rfl Tryd.ntmps41 rfl rfl ?_
  refine AWp.seq ?_
  refine AWp.regC [] [] [0, 1] [] ⟨9, [(0, .b16 x1), (1, .b16 x2)], [], [], 0⟩ (True) Tryd_mixed (by kernel_rfl) trivial ?_
  refine thenQ_normal ?_
  refine AWp.seq ?_
  refine AWp.regC [] [] [4] [] ⟨9, [(4, .bool ((x2 &&& ~~~x1) == (BitVec.ofInt 16 0)))], [], [], 0⟩ (True) Tryd_mixed (by kernel_rfl) trivial ?_
  refine thenQ_normal ?_
  have hret := Option.some.inj h
  subst hret
  refine AWp.le (Le.mk (s := ⟨9, [(4, .bool ((x2 &&& ~~~x1) == (BitVec.ofInt 16 0)))], [], [], 0⟩) (s' := ⟨9, [(4, .bool ((x2 &&& ~~~x1) == (BitVec.ofInt 16 0)))], [], [], 0⟩) rfl rfl ⟨.refl _, trivial⟩ trivial) ?_
  refine AWp.ret ?_
  exact bodyQ_ret _ rfl ⟨rfl, rfl⟩ rfl
def f13_L0 (x1 : List (BitVec 16)) (K1 : Unit → Option Int) : Nat → Nat → Option Int
  | 0, _ => none
  | k + 1, n2 =>
    if (decide (((n2 : Nat) : Int) < (((x1).length : Nat) : Int))) then (
    (f39 (x1.getD n2 0#16)).bind fun (r3 : Bool) =>
    chk (((n2 : Nat) : Int) < (((x1).length : Nat) : Int)) <|
    if (!r3) then (
    some (7 : Int)
    ) else (
    optc ((decide (((n2 : Nat) : Int) > (0 : Int))) == true) (f40 (x1.getD (((((n2 : Nat) : Int) - (1 : Int))).toNat) 0#16) (x1.getD n2 0#16)) fun (r4 : Bool) =>
    chk (((decide (((n2 : Nat) : Int) > (0 : Int))) == true) = true → -9223372036854775808 ≤ (((n2 : Nat) : Int) - (1 : Int)) ∧ (((n2 : Nat) : Int) - (1 : Int)) ≤ 9223372036854775807) <|
    chk (((decide (((n2 : Nat) : Int) > (0 : Int))) == true) = true → 0 ≤ (((n2 : Nat) : Int) - (1 : Int)) ∧ (((n2 : Nat) : Int) - (1 : Int)) < (((x1).length : Nat) : Int)) <|
    chk (((decide (((n2 : Nat) : Int) > (0 : Int))) == true) = true → 0 ≤ ((n2 : Nat) : Int) ∧ ((n2 : Nat) : Int) < (((x1).length : Nat) : Int)) <|
    if ((decide (((n2 : Nat) : Int) > (0 : Int))) && (!r4)) then (
    some (1 : Int)
    ) else (
    chk ((((n2 : Nat) : Int) + (1 : Int)) ≤ 9223372036854775807) <|
    (f13_L0 x1 K1 k) (n2 + 1)
    )
    )
    ) else (
    K1 ()
    )
def f13_L2 (x1 : List (BitVec 16)) (n5 : Nat) (K3 : Unit → Option Int) : Nat → Nat → Option Int
  | 0, _ => none
  | k + 1, n6 =>
    if (decide (((n6 : Nat) : Int) < (((x1).length : Nat) : Int))) then (
    optc ((((n5 : Nat) : Int) != ((n6 : Nat) : Int)) == true) (f41 (x1.getD n5 0#16) (x1.getD n6 0#16)) fun (r7 : Bool) =>
    chk (((((n5 : Nat) : Int) != ((n6 : Nat) : Int)) == true) = true → 0 ≤ ((n5 : Nat) : Int) ∧ ((n5 : Nat) : Int) < (((x1).length : Nat) : Int)) <|
    chk (((((n5 : Nat) : Int) != ((n6 : Nat) : Int)) == true) = true → 0 ≤ ((n6 : Nat) : Int) ∧ ((n6 : Nat) : Int) < (((x1).length : Nat) : Int)) <|
    if ((((n5 : Nat) : Int) != ((n6 : Nat) : Int)) && r7) then (
    some (1 : Int)
    ) else (
    chk ((((n6 : Nat) : Int) + (1 : Int)) ≤ 9223372036854775807) <|
    (f13_L2 x1 n5 K3 k) (n6 + 1)
    )
    ) else (
    K3 ()
    )
def f13_L1 (x1 : List (BitVec 16)) (K2 : Unit → Option Int) : Nat → Nat → Option Int
  | 0, _ => none
  | k + 1, n5 =>
    if (decide (((n5 : Nat) : Int) < (((x1).length : Nat) : Int))) then (
    jn (fun (_ : Unit) =>
    chk ((((n5 : Nat) : Int) + (1 : Int)) ≤ 9223372036854775807) <|
    (f13_L1 x1 K2 k) (n5 + 1)
    ) fun (K3 : Unit → Option Int) =>
    f13_L2 x1 n5 K3 FUEL 0
    ) else (
    K2 ()
    )
def f13 (x1 : List (BitVec 16)) : Option Int :=
  if (decide ((((x1).length : Nat) : Int) > (400 : Int))) then (
  some (3 : Int)
  ) else (
  jn (fun (_ : Unit) =>
  jn (fun (_ : Unit) =>
  some (0 : Int)
  ) fun (K2 : Unit → Option Int) =>
  f13_L1 x1 K2 FUEL 0
  ) fun (K1 : Unit → Option Int) =>
  f13_L0 x1 K1 FUEL 0
  )
def f68_L1 (x1 : List (BitVec 16)) (n2 : Nat) (K3 : (Nat × List (BitVec 16)) → Option (List (BitVec 16))) : Nat → (Nat × List (BitVec 16)) → Option (List (BitVec 16))
  | 0, _ => none
  | k + 1, (n4, l5) =>
    optc ((decide (((n4 : Nat) : Int) < (((l5).length : Nat) : Int))) == true) (f40 (l5.getD n4 0#16) (x1.getD n2 0#16)) fun (r6 : Bool) =>
    chk (((decide (((n4 : Nat) : Int) < (((l5).length : Nat) : Int))) == true) = true → 0 ≤ ((n4 : Nat) : Int) ∧ ((n4 : Nat) : Int) < (((l5).length : Nat) : Int)) <|
    chk (((decide (((n4 : Nat) : Int) < (((l5).length : Nat) : Int))) == true) = true → n4 < (l5).length) <|
    chk (((decide (((n4 : Nat) : Int) < (((l5).length : Nat) : Int))) == true) = true → 0 ≤ ((n2 : Nat) : Int) ∧ ((n2 : Nat) : Int) < (((x1).length : Nat) : Int)) <|
    if ((decide (((n4 : Nat) : Int) < (((l5).length : Nat) : Int))) && r6) then (
    chk ((((n4 : Nat) : Int) + (1 : Int)) ≤ 9223372036854775807) <|
    (f68_L1 x1 n2 K3 k) ((n4 + 1), l5)
    ) else (
    K3 (n4, l5)
    )
def f68_L2 (n7 : Nat) (K4 : (List (BitVec 16)) → Option (List (BitVec 16))) : Nat → (Int × List (BitVec 16)) → Option (List (BitVec 16))
  | 0, _ => none
  | k + 1, (i10, l11) =>
    if (decide (i10 > ((n7 : Nat) : Int))) then (
    chk (-9223372036854775808 ≤ (i10 - (1 : Int)) ∧ (i10 - (1 : Int)) ≤ 9223372036854775807) <|
    chk (0 ≤ (i10 - (1 : Int)) ∧ (i10 - (1 : Int)) < (((l11).length : Nat) : Int)) <|
    chk ((((i10 - (1 : Int))).toNat) < (l11).length) <|
    chk (0 ≤ i10 ∧ i10 < (((l11).length : Nat) : Int)) <|
    chk (((i10).toNat) < (l11).length) <|
    chk (-9223372036854775808 ≤ (i10 - (1 : Int)) ∧ (i10 - (1 : Int)) ≤ 9223372036854775807) <|
    (f68_L2 n7 K4 k) ((i10 - (1 : Int)), (l11.set ((i10).toNat) (l11.getD (((i10 - (1 : Int))).toNat) 0#16)))
    ) else (
    K4 l11
    )
def f68_L0 (x1 : List (BitVec 16)) (K1 : (List (BitVec 16)) → Option (List (BitVec 16))) : Nat → (Nat × List (BitVec 16)) → Option (List (BitVec 16))
  | 0, _ => none
  | k + 1, (n2, l3) =>
    if (decide (((n2 : Nat) : Int) < (((x1).length : Nat) : Int))) then (
    jn (fun (l9 : List (BitVec 16)) =>
    chk ((((n2 : Nat) : Int) + (1 : Int)) ≤ 9223372036854775807) <|
    (f68_L0 x1 K1 k) ((n2 + 1), l9)
    ) fun (K2 : (List (BitVec 16)) → Option (List (BitVec 16))) =>
    jn (fun ((n7, l8) : Nat × List (BitVec 16)) =>
    chk (((decide (((n7 : Nat) : Int) < (((l8).length : Nat) : Int))) == true) = true → 0 ≤ ((n7 : Nat) : Int) ∧ ((n7 : Nat) : Int) < (((l8).length : Nat) : Int)) <|
    chk (((decide (((n7 : Nat) : Int) < (((l8).length : Nat) : Int))) == true) = true → n7 < (l8).length) <|
    chk (((decide (((n7 : Nat) : Int) < (((l8).length : Nat) : Int))) == true) = true → 0 ≤ ((n2 : Nat) : Int) ∧ ((n2 : Nat) : Int) < (((x1).length : Nat) : Int)) <|
    if ((decide (((n7 : Nat) : Int) < (((l8).length : Nat) : Int))) && ((l8.getD n7 0#16) == (x1.getD n2 0#16))) then (
    K2 l8
    ) else (
    chk (((l8).length + 1) * 2 ≤ 140737488355328) <|
    jn (fun (l12 : List (BitVec 16)) =>
    chk (((n2 : Nat) : Int) < (((x1).length : Nat) : Int)) <|
    chk (((n7 : Nat) : Int) < (((l12).length : Nat) : Int)) <|
    chk (n7 < (l12).length) <|
    K2 (l12.set n7 (x1.getD n2 0#16))
    ) fun (K4 : (List (BitVec 16)) → Option (List (BitVec 16))) =>
    chk (-9223372036854775808 ≤ (((((l8 ++ [(BitVec.ofInt 16 0)])).length : Nat) : Int) - (1 : Int)) ∧ (((((l8 ++ [(BitVec.ofInt 16 0)])).length : Nat) : Int) - (1 : Int)) ≤ 9223372036854775807) <|
    f68_L2 n7 K4 FUEL ((((((l8 ++ [(BitVec.ofInt 16 0)])).length : Nat) : Int) - (1 : Int)), (l8 ++ [(BitVec.ofInt 16 0)]))
    )
    ) fun (K3 : (Nat × List (BitVec 16)) → Option (List (BitVec 16))) =>
    f68_L1 x1 n2 K3 FUEL (0, l3)
    ) else (
    K1 l3
    )
def f68 (x1 : List (BitVec 16)) : Option (List (BitVec 16)) :=
  jn (fun (l13 : List (BitVec 16)) =>
  some l13
  ) fun (K1 : (List (BitVec 16)) → Option (List (BitVec 16))) =>
  f68_L0 x1 K1 FUEL (0, [])
def f45_L1 (r2 : List (BitVec 16)) (n3 : Nat) (K3 : Bool → Option (List (BitVec 16))) : Nat → (Bool × Nat) → Option (List (BitVec 16))
  | 0, _ => none
  | k + 1, (b5, n6) =>
    if (decide (((n6 : Nat) : Int) < (((r2).length : Nat) : Int))) then (
    jn (fun (b8 : Bool) =>
    chk ((((n6 : Nat) : Int) + (1 : Int)) ≤ 9223372036854775807) <|
    (f45_L1 r2 n3 K3 k) (b8, (n6 + 1))
    ) fun (K4 : Bool → Option (List (BitVec 16))) =>
    optc ((((n3 : Nat) : Int) != ((n6 : Nat) : Int)) == true) (f41 (r2.getD n3 0#16) (r2.getD n6 0#16)) fun (r7 : Bool) =>
    chk (((((n3 : Nat) : Int) != ((n6 : Nat) : Int)) == true) = true → 0 ≤ ((n3 : Nat) : Int) ∧ ((n3 : Nat) : Int) < (((r2).length : Nat) : Int)) <|
    chk (((((n3 : Nat) : Int) != ((n6 : Nat) : Int)) == true) = true → n3 < (r2).length) <|
    chk (((((n3 : Nat) : Int) != ((n6 : Nat) : Int)) == true) = true → 0 ≤ ((n6 : Nat) : Int) ∧ ((n6 : Nat) : Int) < (((r2).length : Nat) : Int)) <|
    chk (((((n3 : Nat) : Int) != ((n6 : Nat) : Int)) == true) = true → n6 < (r2).length) <|
    if ((((n3 : Nat) : Int) != ((n6 : Nat) : Int)) && r7) then (
    K4 false
    ) else (
    K4 b5
    )
    ) else (
    K3 b5
    )
def f45_L0 (r2 : List (BitVec 16)) (K1 : (List (BitVec 16)) → Option (List (BitVec 16))) : Nat → (Nat × List (BitVec 16)) → Option (List (BitVec 16))
  | 0, _ => none
  | k + 1, (n3, l4) =>
    if (decide (((n3 : Nat) : Int) < (((r2).length : Nat) : Int))) then (
    jn (fun (l10 : List (BitVec 16)) =>
    chk ((((n3 : Nat) : Int) + (1 : Int)) ≤ 9223372036854775807) <|
    (f45_L0 r2 K1 k) ((n3 + 1), l10)
    ) fun (K2 : (List (BitVec 16)) → Option (List (BitVec 16))) =>
    jn (fun (b9 : Bool) =>
    if b9 then (
    chk (((n3 : Nat) : Int) < (((r2).length : Nat) : Int)) <|
    chk (n3 < (r2).length) <|
    chk (((l4).length + 1) * 2 ≤ 140737488355328) <|
    K2 (l4 ++ [(r2.getD n3 0#16)])
    ) else (
    K2 l4
    )
    ) fun (K3 : Bool → Option (List (BitVec 16))) =>
    f45_L1 r2 n3 K3 FUEL (true, 0)
    ) else (
    K1 l4
    )
def f45 (x1 : List (BitVec 16)) : Option (List (BitVec 16)) :=
  (f68 x1).bind fun (r2 : List (BitVec 16)) =>
  jn (fun (l11 : List (BitVec 16)) =>
  some l11
  ) fun (K1 : (List (BitVec 16)) → Option (List (BitVec 16))) =>
  f45_L0 r2 K1 FUEL (0, [])
def f44_L0 (x1 : List (BitVec 16)) (K1 : Unit → Option (List (BitVec 16) × Int)) : Nat → Nat → Option (List (BitVec 16) × Int)
  | 0, _ => none
  | k + 1, n3 =>
    if (decide (((n3 : Nat) : Int) < (((x1).length : Nat) : Int))) then (
    (f39 (x1.getD n3 0#16)).bind fun (r4 : Bool) =>
    chk (((n3 : Nat) : Int) < (((x1).length : Nat) : Int)) <|
    if (!r4) then (
    some ([], (7 : Int))
    ) else (
    chk ((((n3 : Nat) : Int) + (1 : Int)) ≤ 9223372036854775807) <|
    (f44_L0 x1 K1 k) (n3 + 1)
    )
    ) else (
    K1 ()
    )
def f44 (x1 : List (BitVec 16)) (x2 : List (BitVec 16)) : Option (List (BitVec 16) × Int) :=
  jn (fun (_ : Unit) =>
  if (decide ((((x2).length : Nat) : Int) > (400 : Int))) then (
  some ([], (3 : Int))
  ) else (
  some (x2, (0 : Int))
  )
  ) fun (K1 : Unit → Option (List (BitVec 16) × Int)) =>
  f44_L0 x1 K1 FUEL 0
def f15 (x1 : List (BitVec 16)) : Option (List (BitVec 16) × Int) :=
  (f45 x1).bind fun (r2 : List (BitVec 16)) =>
  (f44 x1 r2).bind fun (r3 : List (BitVec 16) × Int) =>
  some (r3.1, r3.2)
def f47_L1 (r2 : List (BitVec 16)) (n3 : Nat) (K3 : Bool → Option (List (BitVec 16))) : Nat → (Bool × Nat) → Option (List (BitVec 16))
  | 0, _ => none
  | k + 1, (b5, n6) =>
    if (decide (((n6 : Nat) : Int) < (((r2).length : Nat) : Int))) then (
    jn (fun (b8 : Bool) =>
    chk ((((n6 : Nat) : Int) + (1 : Int)) ≤ 9223372036854775807) <|
    (f47_L1 r2 n3 K3 k) (b8, (n6 + 1))
    ) fun (K4 : Bool → Option (List (BitVec 16))) =>
    optc ((((n3 : Nat) : Int) != ((n6 : Nat) : Int)) == true) (f41 (r2.getD n6 0#16) (r2.getD n3 0#16)) fun (r7 : Bool) =>
    chk (((((n3 : Nat) : Int) != ((n6 : Nat) : Int)) == true) = true → 0 ≤ ((n6 : Nat) : Int) ∧ ((n6 : Nat) : Int) < (((r2).length : Nat) : Int)) <|
    chk (((((n3 : Nat) : Int) != ((n6 : Nat) : Int)) == true) = true → n6 < (r2).length) <|
    chk (((((n3 : Nat) : Int) != ((n6 : Nat) : Int)) == true) = true → 0 ≤ ((n3 : Nat) : Int) ∧ ((n3 : Nat) : Int) < (((r2).length : Nat) : Int)) <|
    chk (((((n3 : Nat) : Int) != ((n6 : Nat) : Int)) == true) = true → n3 < (r2).length) <|
    if ((((n3 : Nat) : Int) != ((n6 : Nat) : Int)) && r7) then (
    K4 false
    ) else (
    K4 b5
    )
    ) else (
    K3 b5
    )
def f47_L0 (r2 : List (BitVec 16)) (K1 : (List (BitVec 16)) → Option (List (BitVec 16))) : Nat → (Nat × List (BitVec 16)) → Option (List (BitVec 16))
  | 0, _ => none
  | k + 1, (n3, l4) =>
    if (decide (((n3 : Nat) : Int) < (((r2).length : Nat) : Int))) then (
    jn (fun (l10 : List (BitVec 16)) =>
    chk ((((n3 : Nat) : Int) + (1 : Int)) ≤ 9223372036854775807) <|
    (f47_L0 r2 K1 k) ((n3 + 1), l10)
    ) fun (K2 : (List (BitVec 16)) → Option (List (BitVec 16))) =>
    jn (fun (b9 : Bool) =>
    if b9 then (
    chk (((n3 : Nat) : Int) < (((r2).length : Nat) : Int)) <|
    chk (n3 < (r2).length) <|
    chk (((l4).length + 1) * 2 ≤ 140737488355328) <|
    K2 (l4 ++ [(r2.getD n3 0#16)])
    ) else (
    K2 l4
    )
    ) fun (K3 : Bool → Option (List (BitVec 16))) =>
    f47_L1 r2 n3 K3 FUEL (true, 0)
    ) else (
    K1 l4
    )
def f47 (x1 : List (BitVec 16)) : Option (List (BitVec 16)) :=
  (f68 x1).bind fun (r2 : List (BitVec 16)) =>
  jn (fun (l11 : List (BitVec 16)) =>
  some l11
  ) fun (K1 : (List (BitVec 16)) → Option (List (BitVec 16))) =>
  f47_L0 r2 K1 FUEL (0, [])
def f17 (x1 : List (BitVec 16)) : Option (List (BitVec 16) × Int) :=
  (f47 x1).bind fun (r2 : List (BitVec 16)) =>
  (f44 x1 r2).bind fun (r3 : List (BitVec 16) × Int) =>
  some (r3.1, r3.2)
def f4 (x1 : List (BitVec 16)) : Option Bool :=
  (f10 ).bind fun (r2 : Bool) =>
  if ((!r2) || (decide ((((x1).length : Nat) : Int) > (100 : Int)))) then (
  (f10 ).bind fun (r3 : Bool) =>
  some r3
  ) else (
  (f12 x1).bind fun (r4 : List (BitVec 16)) =>
  (f14 r4).bind fun (r5 : List (BitVec 16) × Int) =>
  (f15 x1).bind fun (r6 : List (BitVec 16) × Int) =>
  (f12 x1).bind fun (r7 : List (BitVec 16)) =>
  (f16 r7).bind fun (r8 : List (BitVec 16) × Int) =>
  (f17 x1).bind fun (r9 : List (BitVec 16) × Int) =>
  optc (((r5.2 == r6.2) && (r8.2 == r9.2)) == true) (f18 r5.1 r6.1) fun (r10 : Bool) =>
  optc ((((r5.2 == r6.2) && (r8.2 == r9.2)) && r10) == true) (f18 r8.1 r9.1) fun (r11 : Bool) =>
  some ((((r5.2 == r6.2) && (r8.2 == r9.2)) && r10) && r11)
  )
def f29_L0 (x1 : List (BitVec 16)) (x2 : BitVec 16) (K1 : Unit → Option Bool) : Nat → Nat → Option Bool
  | 0, _ => none
  | k + 1, n3 =>
    if (decide (((n3 : Nat) : Int) < (((x1).length : Nat) : Int))) then (
    (f41 x2 (x1.getD n3 0#16)).bind fun (r4 : Bool) =>
    chk (((n3 : Nat) : Int) < (((x1).length : Nat) : Int)) <|
    if r4 then (
    some true
    ) else (
    chk ((((n3 : Nat) : Int) + (1 : Int)) ≤ 9223372036854775807) <|
    (f29_L0 x1 x2 K1 k) (n3 + 1)
    )
    ) else (
    K1 ()
    )
def f29 (x1 : List (BitVec 16)) (x2 : BitVec 16) : Option Bool :=
  jn (fun (_ : Unit) =>
  some false
  ) fun (K1 : Unit → Option Bool) =>
  f29_L0 x1 x2 K1 FUEL 0
set_option maxRecDepth 100000 in
theorem f29_ok  (x1 : List (BitVec 16)) (x2 : BitVec 16) (r : Bool) (h : f29 x1 x2 = some r)  : Spec1 Tryd.prog 29 [] [] [] [vL 1 eW 0#16 x1, .b16 x2] (.bool r) [] := by
  unfold f29 at h
  refine Spec1.body 0 _ _ Tryd.func29 rfl Tryd.ntmps29 rfl rfl ?_
  refine AWp.seq ?_
  refine AWp.regC [] [] [0, 1] [] ⟨18, [(0, vL 1 eW 0#16 x1), (1, .b16 x2)], [], [], 0⟩ (True) Tryd_mixed (by kernel_rfl) trivial ?_
  refine thenQ_normal ?_
  obtain ⟨K1, hK1, h⟩ := jn_some h
  refine AWp.join (α := Unit) (fun (x : Unit) => match x with | () => ⟨18, [], [], [], 0⟩) (fun x => K1 x = some r) ?_ ?_
  ·
    refine AWp.seq ?_
    refine AWp.regC [] [] [0, 1, 5] [] ⟨18, [(0, vL 1 eW 0#16 x1), (1, .b16 x2), (5, .int .i64 (0 : Int))], [], [], 0⟩ (True) Tryd_mixed (by kernel_rfl) trivial ?_
    refine thenQ_normal ?_
    refine AWp.block ?_
    refine AWp.loopL (α := Nat × Nat) (fun x => match x with | (_, n3) => ⟨18, [(0, vL 1 eW 0#16 x1), (1, .b16 x2), (5, .int .i64 ((n3 : Nat) : Int))], [], [], 0⟩) (fun x => f29_L0 x1 x2 K1 x.1 x.2 = some r) (fun x => x.1) (FUEL, 0) (Le.mk (s := ⟨18, [(0, vL 1 eW 0#16 x1), (1, .b16 x2), (5, .int .i64 (0 : Int))], [], [], 0⟩) (s' := ⟨18, [(0, vL 1 eW 0#16 x1), (1, .b16 x2), (5, .int .i64 (0 : Int))], [], [], 0⟩) rfl rfl ⟨.refl _, .refl _, .refl _, trivial⟩ trivial) h ?_
    rintro ⟨k0, n3⟩ h
    cases k0 with
    | zero => exact nomatch (show (none : Option Bool) = some r from h)
    | succ k0 =>
    obtain ⟨C0, hC0⟩ : ∃ C, C = f29_L0 x1 x2 K1 k0 := ⟨_, rfl⟩
    replace h := (f29_L0.eq_2 ..).symm.trans h
    try rw [← hC0] at h
    refine AWp.seq ?_
    refine AWp.seq ?_
    refine AWp.regC [] [] [0, 1, 5, 9] [] ⟨18, [(0, vL 1 eW 0#16 x1), (1, .b16 x2), (5, .int .i64 ((n3 : Nat) : Int)), (9, .bool (decide (((n3 : Nat) : Int) < (((x1).length : Nat) : Int))))], [], [], 0⟩ (True) Tryd_mixed (by kernel_rfl) trivial ?_
    refine thenQ_normal ?_
    refine AWp.cond (b := (decide (((n3 : Nat) : Int) < (((x1).length : Nat) : Int)))) (by kernel_rfl) (fun hc1 => ?_) (fun hc1 => ?_)
    ·
      replace h := ite_tb hc1 h
      refine AWp.skip ?_
      refine thenQ_normal ?_
      refine AWp.seq ?_
      refine AWp.block ?_
      refine AWp.seq ?_
      obtain ⟨r4, hr4, h⟩ := bind_ok h
      obtain ⟨ob0p, h⟩ := chk_some h
      have ob0 : 0 ≤ ((n3 : Nat) : Int) ∧ ((n3 : Nat) : Int) < (((x1).length : Nat) : Int) := ⟨by omega, ob0p⟩
      refine AWp.regC [] [(5, ⟨[.b16 x2, .b16 (x1.getD n3 0#16)], [], [], [], .bool r4, [], [], []⟩)] [0, 1, 5, 17] [] ⟨18, [(0, vL 1 eW 0#16 x1), (1, .b16 x2), (5, .int .i64 ((n3 : Nat) : Int)), (17, .bool r4)], [], [], 0⟩ ((0 ≤ ((n3 : Nat) : Int) ∧ ((n3 : Nat) : Int) < (((x1).length : Nat) : Int)) ∧ (callP Tryd.prog true 41 [] [] [] [] [] [.b16 x2, .b16 (x1.getD n3 0#16)] [.b16 x2, .b16 (x1.getD n3 0#16)] (.bool r4) []) ∧ True) Tryd_mixed (by kernel_rfl) ⟨ob0, ⟨fun _ => (f41_ok x2 (x1.getD n3 0#16) r4 hr4), fun _ => ⟨.refl _, .refl _, trivial⟩, .inl rfl⟩, trivial⟩ ?_
      refine thenQ_normal ?_
      refine AWp.cond (b := r4) (by kernel_rfl) (fun hc2 => ?_) (fun hc2 => ?_)
      ·
        replace h := ite_tb hc2 h
        refine AWp.seq ?_
        refine AWp.regC [] [] [4] [] ⟨18, [(4, .bool true)], [], [], 0⟩ (True) Tryd_mixed (by kernel_rfl) trivial ?_
        refine thenQ_normal ?_
        have hret := Option.some.inj h
        subst hret
        refine AWp.le (Le.mk (s := ⟨18, [(4, .bool true)], [], [], 0⟩) (s' := ⟨18, [(4, .bool true)], [], [], 0⟩) rfl rfl ⟨.refl _, trivial⟩ trivial) ?_
        refine AWp.ret ?_
        refine blockQ_ret ?_
        refine thenQ_ret ?_
        refine thenQ_ret ?_
        refine blockQ_ret ?_
        refine joinQ_ret ?_
        exact bodyQ_ret _ rfl ⟨rfl, rfl⟩ rfl
      ·
        replace h := ite_fb hc2 h
        refine AWp.skip ?_
        refine blockQ_normal ?_
        refine thenQ_normal ?_
        obtain ⟨ob1p, h⟩ := chk_some h
        have ob1 : -9223372036854775808 ≤ (((n3 : Nat) : Int) + (1 : Int)) ∧ (((n3 : Nat) : Int) + (1 : Int)) ≤ 9223372036854775807 := ⟨by omega, ob1p⟩
        refine AWp.regC [] [] [0, 1, 5] [] ⟨18, [(0, vL 1 eW 0#16 x1), (1, .b16 x2), (5, .int .i64 (((n3 + 1) : Nat) : Int))], [], [], 0⟩ ((-9223372036854775808 ≤ (((n3 : Nat) : Int) + (1 : Int)) ∧ (((n3 : Nat) : Int) + (1 : Int)) ≤ 9223372036854775807) ∧ True) Tryd_mixed (by kernel_rfl) ⟨ob1, trivial⟩ ?_
        rw [hC0] at h
        exact loopQ_normal (_, (n3 + 1)) (Le.mk (s := ⟨18, [(0, vL 1 eW 0#16 x1), (1, .b16 x2), (5, .int .i64 (((n3 + 1) : Nat) : Int))], [], [], 0⟩) (s' := ⟨18, [(0, vL 1 eW 0#16 x1), (1, .b16 x2), (5, .int .i64 (((n3 + 1) : Nat) : Int))], [], [], 0⟩) rfl rfl ⟨.refl _, .refl _, .refl _, trivial⟩ trivial) h (Nat.lt_succ_self _)
    ·
      replace h := ite_fb hc1 h
      refine AWp.exit ?_
      refine thenQ_exit ?_
      refine thenQ_exit ?_
      refine blockQ_same ?_
      exact joinQ_normal () (Le.mk (s := ⟨18, [(0, vL 1 eW 0#16 x1), (1, .b16 x2), (5, .int .i64 ((n3 : Nat) : Int)), (9, .bool (decide (((n3 : Nat) : Int) < (((x1).length : Nat) : Int))))], [], [], 0⟩) (s' := ⟨18, [], [], [], 0⟩) rfl rfl trivial trivial) h
  ·
    rintro ⟨⟩ h
    replace h := (congrFun hK1 _).symm.trans h
    refine AWp.seq ?_
    refine AWp.regC [] [] [4] [] ⟨18, [(4, .bool false)], [], [], 0⟩ (True) Tryd_mixed (by kernel_rfl) trivial ?_
    refine thenQ_normal ?_
    have hret := Option.some.inj h
    subst hret
    refine AWp.le (Le.mk (s := ⟨18, [(4, .bool false)], [], [], 0⟩) (s' := ⟨18, [(4, .bool false)], [], [], 0⟩) rfl rfl ⟨.refl _, trivial⟩ trivial) ?_
    refine AWp.ret ?_
    exact bodyQ_ret _ rfl ⟨rfl, rfl⟩ rfl
def f56 (x1 : BitVec 16) (x2 : List (BitVec 16)) : Option (Bool × List (BitVec 16)) :=
  (f27 x2 x1).bind fun (r3 : Bool) =>
  some ((!r3), x2)
def f73c_L0 (x1 : List (BitVec 16)) (K1 : (List (BitVec 16)) → Option (Int × List (BitVec 16))) : Nat → (Nat × List (BitVec 16)) → Option (Int × List (BitVec 16))
  | 0, _ => none
  | k + 1, (n3, l4) =>
    if (decide (((n3 : Nat) : Int) < (((x1).length : Nat) : Int))) then (
    (f56 (x1.getD n3 0#16) l4).bind fun (r5 : Bool × List (BitVec 16)) =>
    chk (((n3 : Nat) : Int) < (((x1).length : Nat) : Int)) <|
    if r5.1 then (
    some (((n3 : Nat) : Int), r5.2)
    ) else (
    chk ((((n3 : Nat) : Int) + (1 : Int)) ≤ 9223372036854775807) <|
    (f73c_L0 x1 K1 k) ((n3 + 1), r5.2)
    )
    ) else (
    K1 l4
    )
def f73c (x1 : List (BitVec 16)) (x2 : List (BitVec 16)) : Option (Int × List (BitVec 16)) :=
  jn (fun (l6 : List (BitVec 16)) =>
  some ((-1 : Int), l6)
  ) fun (K1 : (List (BitVec 16)) → Option (Int × List (BitVec 16))) =>
  f73c_L0 x1 K1 FUEL (0, x2)
def f53c (x1 : List (BitVec 16)) (x2 : List (BitVec 16)) : Option (Bool × List (BitVec 16)) :=
  (f73c x1 x2).bind fun (r3 : Int × List (BitVec 16)) =>
  some ((decide (r3.1 ≥ (0 : Int))), r3.2)
def f30 (x1 : List (BitVec 16)) (x2 : List (BitVec 16)) : Option Bool :=
  (f53c x1 x2).bind fun (r3 : Bool × List (BitVec 16)) =>
  some (!r3.1)
def f31_L0 (x1 : List (BitVec 16)) (x2 : List (BitVec 16)) (K1 : Unit → Option Bool) : Nat → Nat → Option Bool
  | 0, _ => none
  | k + 1, n3 =>
    if (decide (((n3 : Nat) : Int) < (((x1).length : Nat) : Int))) then (
    (f29 x2 (x1.getD n3 0#16)).bind fun (r4 : Bool) =>
    chk (((n3 : Nat) : Int) < (((x1).length : Nat) : Int)) <|
    if (!r4) then (
    some false
    ) else (
    chk ((((n3 : Nat) : Int) + (1 : Int)) ≤ 9223372036854775807) <|
    (f31_L0 x1 x2 K1 k) (n3 + 1)
    )
    ) else (
    K1 ()
    )
def f31 (x1 : List (BitVec 16)) (x2 : List (BitVec 16)) : Option Bool :=
  jn (fun (_ : Unit) =>
  some true
  ) fun (K1 : Unit → Option Bool) =>
  f31_L0 x1 x2 K1 FUEL 0
def f32_L0 (x1 : List (BitVec 16)) (K1 : (BitVec 16) → Option (BitVec 16)) : Nat → (BitVec 16 × Nat) → Option (BitVec 16)
  | 0, _ => none
  | k + 1, (w2, n3) =>
    if (decide (((n3 : Nat) : Int) < (((x1).length : Nat) : Int))) then (
    chk (((n3 : Nat) : Int) < (((x1).length : Nat) : Int)) <|
    chk ((((n3 : Nat) : Int) + (1 : Int)) ≤ 9223372036854775807) <|
    (f32_L0 x1 K1 k) ((w2 ||| (x1.getD n3 0#16)), (n3 + 1))
    ) else (
    K1 w2
    )
def f32 (x1 : List (BitVec 16)) : Option (BitVec 16) :=
  jn (fun (w4 : BitVec 16) =>
  some w4
  ) fun (K1 : (BitVec 16) → Option (BitVec 16)) =>
  f32_L0 x1 K1 FUEL ((BitVec.ofInt 16 0), 0)
def f33_L0 (x1 : List (BitVec 16)) (K1 : (BitVec 16) → Option (BitVec 16)) : Nat → (BitVec 16 × Nat) → Option (BitVec 16)
  | 0, _ => none
  | k + 1, (w2, n3) =>
    if (decide (((n3 : Nat) : Int) < (((x1).length : Nat) : Int))) then (
    chk (((n3 : Nat) : Int) < (((x1).length : Nat) : Int)) <|
    chk ((((n3 : Nat) : Int) + (1 : Int)) ≤ 9223372036854775807) <|
    (f33_L0 x1 K1 k) ((w2 ||| (x1.getD n3 0#16)), (n3 + 1))
    ) else (
    K1 w2
    )
def f33 (x1 : List (BitVec 16)) : Option (BitVec 16) :=
  jn (fun (w4 : BitVec 16) =>
  some w4
  ) fun (K1 : (BitVec 16) → Option (BitVec 16)) =>
  f33_L0 x1 K1 FUEL ((BitVec.ofInt 16 0), 0)
def f34 (x1 : Int) (x2 : List (BitVec 16)) : Option (Int × List (BitVec 16)) :=
  some (x1, x2)
set_option maxRecDepth 100000 in
theorem f34_ok  (x1 : Int) (x2 : List (BitVec 16)) (r : Int × List (BitVec 16)) (h : f34 x1 x2 = some r)  : Spec1 Tryd.prog 34 [] [2000] [(2000, .cells 22 [vL 1 eW 0#16 x2])] [.int .i64 x1, .fn (.func 35) [.ptr 2000 0]] (.fn (.func 57) [.ptr 3500 0, .ptr 3501 0]) [(2000, .cells 22 [vL 1 eW 0#16 r.2]), (3500, .cells 3 [.int .i64 r.1]), (3501, .cells 48 [.fn (.func 35) [.ptr 2000 0]])] := by
  unfold f34 at h
  refine Spec1.body 0 _ _ Tryd.func34 rfl Tryd.ntmps34 rfl rfl ?_
  refine AWp.seq ?_
  refine AWp.regC [] [] [2, 3] [2, 3, 2000] ⟨6, [(2, .ptr 2 0), (3, .ptr 3 0)], [(2, .cells 3 [.int .i64 x1]), (3, .cells 48 [.fn (.func 35) [.ptr 2000 0]]), (2000, .cells 22 [vL 1 eW 0#16 x2])], [2000], 0⟩ (True) Tryd_mixed (by kernel_rfl) trivial ?_
  refine thenQ_normal ?_
  refine AWp.seq ?_
  refine AWp.regC [] [] [4] [2, 3, 2000] ⟨6, [(4, .fn (.func 57) [.ptr 2 0, .ptr 3 0])], [(2, .cells 3 [.int .i64 x1]), (3, .cells 48 [.fn (.func 35) [.ptr 2000 0]]), (2000, .cells 22 [vL 1 eW 0#16 x2])], [2000], 0⟩ (True) Tryd_mixed (by kernel_rfl) trivial ?_
  refine thenQ_normal ?_
  refine AWp.le (Le.trans (Le.ren (s := ⟨6, [(4, .fn (.func 57) [.ptr 2 0, .ptr 3 0])], [(2, .cells 3 [.int .i64 x1]), (3, .cells 48 [.fn (.func 35) [.ptr 2000 0]]), (2000, .cells 22 [vL 1 eW 0#16 x2])], [2000], 0⟩) (swapN 2 3500) (swapN_inv 2 3500) rfl) (Le.mk (s' := ⟨6, [(4, .fn (.func 57) [.ptr 3500 0, .ptr 3 0])], [(3500, .cells 3 [.int .i64 x1]), (3, .cells 48 [.fn (.func 35) [.ptr 2000 0]]), (2000, .cells 22 [vL 1 eW 0#16 x2])], [2000], 0⟩) rfl rfl ⟨.refl _, trivial⟩ ⟨⟨_, rfl, .refl _⟩, ⟨_, rfl, .refl _⟩, ⟨_, rfl, .refl _⟩, trivial⟩)) ?_
  refine AWp.le (Le.trans (Le.ren (s := ⟨6, [(4, .fn (.func 57) [.ptr 3500 0, .ptr 3 0])], [(3500, .cells 3 [.int .i64 x1]), (3, .cells 48 [.fn (.func 35) [.ptr 2000 0]]), (2000, .cells 22 [vL 1 eW 0#16 x2])], [2000], 0⟩) (swapN 3 3501) (swapN_inv 3 3501) rfl) (Le.mk (s' := ⟨6, [(4, .fn (.func 57) [.ptr 3500 0, .ptr 3501 0])], [(3500, .cells 3 [.int .i64 x1]), (3501, .cells 48 [.fn (.func 35) [.ptr 2000 0]]), (2000, .cells 22 [vL 1 eW 0#16 x2])], [2000], 0⟩) rfl rfl ⟨.refl _, trivial⟩ ⟨⟨_, rfl, .refl _⟩, ⟨_, rfl, .refl _⟩, ⟨_, rfl, .refl _⟩, trivial⟩)) ?_
  have hret := Option.some.inj h
  subst hret
  refine AWp.le (Le.mk (s := ⟨6, [(4, .fn (.func 57) [.ptr 3500 0, .ptr 3501 0])], [(3500, .cells 3 [.int .i64 x1]), (3501, .cells 48 [.fn (.func 35) [.ptr 2000 0]]), (2000, .cells 22 [vL 1 eW 0#16 x2])], [2000], 0⟩) (s' := ⟨6, [(4, .fn (.func 57) [.ptr 3500 0, .ptr 3501 0])], [(2000, .cells 22 [vL 1 eW 0#16 x2]), (3500, .cells 3 [.int .i64 x1]), (3501, .cells 48 [.fn (.func 35) [.ptr 2000 0]])], [2000], 0⟩) rfl rfl ⟨.refl _, trivial⟩ ⟨⟨_, rfl, .refl _⟩, ⟨_, rfl, .refl _⟩, ⟨_, rfl, .refl _⟩, trivial⟩) ?_
  refine AWp.ret ?_
  exact bodyQ_ret _ rfl ⟨rfl, rfl⟩ rfl
def f58 (x1 : BitVec 16) : Option (BitVec 16) :=
  some x1
set_option maxRecDepth 100000 in
theorem f58_ok  (x1 : BitVec 16) (r : BitVec 16) (h : f58 x1 = some r)  : Spec1 Tryd.prog 58 [] [] [] [.b16 x1] (.fn (.func 74) [.ptr 3500 0]) [(3500, .cells 28 [.b16 r])] := by
  unfold f58 at h
  refine Spec1.body 0 _ _ Tryd.func58 rfl Tryd.ntmps58 rfl rfl ?_
  refine AWp.seq ?_
  refine AWp.regC [] [] [1] [1] ⟨4, [(1, .ptr 1 0)], [(1, .cells 28 [.b16 x1])], [], 0⟩ (True) Tryd_mixed (by kernel_rfl) trivial ?_
  refine thenQ_normal ?_
  refine AWp.seq ?_
  refine AWp.regC [] [] [2] [1] ⟨4, [(2, .fn (.func 74) [.ptr 1 0])], [(1, .cells 28 [.b16 x1])], [], 0⟩ (True) Tryd_mixed (by kernel_rfl) trivial ?_
  refine thenQ_normal ?_
  refine AWp.le (Le.trans (Le.ren (s := ⟨4, [(2, .fn (.func 74) [.ptr 1 0])], [(1, .cells 28 [.b16 x1])], [], 0⟩) (swapN 1 3500) (swapN_inv 1 3500) rfl) (Le.mk (s' := ⟨4, [(2, .fn (.func 74) [.ptr 3500 0])], [(3500, .cells 28 [.b16 x1])], [], 0⟩) rfl rfl ⟨.refl _, trivial⟩ ⟨⟨_, rfl, .refl _⟩, trivial⟩)) ?_
  have hret := Option.some.inj h
  subst hret
  refine AWp.le (Le.mk (s := ⟨4, [(2, .fn (.func 74) [.ptr 3500 0])], [(3500, .cells 28 [.b16 x1])], [], 0⟩) (s' := ⟨4, [(2, .fn (.func 74) [.ptr 3500 0])], [(3500, .cells 28 [.b16 x1])], [], 0⟩) rfl rfl ⟨.refl _, trivial⟩ ⟨⟨_, rfl, .refl _⟩, trivial⟩) ?_
  refine AWp.ret ?_
  exact bodyQ_ret _ rfl ⟨rfl, rfl⟩ rfl
def f35 (x1 : BitVec 16) (x2 : List (BitVec 16)) : Option (Bool × List (BitVec 16)) :=
  (f29 x2 x1).bind fun (r3 : Bool) =>
  some (r3, x2)
set_option maxRecDepth 100000 in
theorem f35_ok  (x1 : BitVec 16) (x2 : List (BitVec 16)) (r : Bool × List (BitVec 16)) (h : f35 x1 x2 = some r)  : Spec1 Tryd.prog 35 [] [2000] [(2000, .cells 22 [vL 1 eW 0#16 x2])] [.b16 x1, .ptr 2000 0] (.bool r.1) [(2000, .cells 22 [vL 1 eW 0#16 r.2])] := by
  unfold f35 at h
  refine Spec1.body 0 _ _ Tryd.func35 rfl Tryd.ntmps35 rfl rfl ?_
  refine AWp.seq ?_
  refine AWp.regC [] [] [0, 1] [2000] ⟨7, [(0, .b16 x1), (1, .ptr 2000 0)], [(2000, .cells 22 [vL 1 eW 0#16 x2])], [2000], 0⟩ (True) Tryd_mixed (by kernel_rfl) trivial ?_
  refine thenQ_normal ?_
  refine AWp.seq ?_
  obtain ⟨r3, hr3, h⟩ := bind_ok h
  refine AWp.regC [] [(2, ⟨[vL 1 eW 0#16 x2, .b16 x1], [], [], [], .bool r3, [], [], []⟩)] [3] [2000] ⟨7, [(3, .bool r3)], [(2000, .cells 22 [vL 1 eW 0#16 x2])], [2000], 0⟩ ((callP Tryd.prog true 29 [] [] [] [] [] [vL 1 eW 0#16 x2, .b16 x1] [vL 1 eW 0#16 x2, .b16 x1] (.bool r3) []) ∧ True) Tryd_mixed (by kernel_rfl) ⟨⟨fun _ => (f29_ok x2 x1 r3 hr3), fun _ => ⟨.refl _, .refl _, trivial⟩, .inl rfl⟩, trivial⟩ ?_
  refine thenQ_normal ?_
  have hret := Option.some.inj h
  subst hret
  refine AWp.le (Le.mk (s := ⟨7, [(3, .bool r3)], [(2000, .cells 22 [vL 1 eW 0#16 x2])], [2000], 0⟩) (s' := ⟨7, [(3, .bool r3)], [(2000, .cells 22 [vL 1 eW 0#16 x2])], [2000], 0⟩) rfl rfl ⟨.refl _, trivial⟩ ⟨⟨_, rfl, .refl _⟩, trivial⟩) ?_
  refine AWp.ret ?_
  exact bodyQ_ret _ rfl ⟨rfl, rfl⟩ rfl
def f75_L1 (r10 : List Int) (i11 : Int) (K2 : (BitVec 16) → Option (Bool × Nat × List (BitVec 16) × Int × List (BitVec 16) × Int × List (BitVec 16) × BitVec 16 × Nat)) : Nat → (BitVec 16 × Nat) → Option (Bool × Nat × List (BitVec 16) × Int × List (BitVec 16) × Int × List (BitVec 16) × BitVec 16 × Nat)
  | 0, _ => none
  | k + 1, (w20, n21) =>
    if (decide (((n21 : Nat) : Int) < (((r10).length : Nat) : Int))) then (
    jn (fun (w22 : BitVec 16) =>
    chk ((((n21 : Nat) : Int) + (1 : Int)) ≤ 9223372036854775807) <|
    (f75_L1 r10 i11 K2 k) (w22, (n21 + 1))
    ) fun (K3 : (BitVec 16) → Option (Bool × Nat × List (BitVec 16) × Int × List (BitVec 16) × Int × List (BitVec 16) × BitVec 16 × Nat)) =>
    chk (((n21 : Nat) : Int) < (((r10).length : Nat) : Int)) <|
    chk (n21 < (r10).length) <|
    chk (n21 ≤ IntKind.bits .u32) <|
    if ((bitsI .and .u32 (i11 / 2 ^ n21) (1 : Int)) == (1 : Int)) then (
    chk (0 ≤ (r10.getD n21 0)) <|
    K3 (w20 ||| ((BitVec.ofInt 16 1) <<< (((r10.getD n21 0)).toNat)))
    ) else (
    K3 w20
    )
    ) else (
    K2 w20
    )
def f75_L0 (Y70003 : (List (BitVec 16) × Int × List (BitVec 16) × Int × List (BitVec 16) × BitVec 16 × Nat) → (BitVec 16) → Option (Nat × (List (BitVec 16) × Int × List (BitVec 16) × Int × List (BitVec 16) × BitVec 16 × Nat))) (r10 : List Int) (K1 : (BitVec 16 × List (BitVec 16) × Int × Int × List (BitVec 16) × List (BitVec 16) × Nat × Nat) → Option (Bool × Nat × List (BitVec 16) × Int × List (BitVec 16) × Int × List (BitVec 16) × BitVec 16 × Nat)) : Nat → (Int × BitVec 16 × List (BitVec 16) × Int × Int × List (BitVec 16) × List (BitVec 16) × Nat × Nat) → Option (Bool × Nat × List (BitVec 16) × Int × List (BitVec 16) × Int × List (BitVec 16) × BitVec 16 × Nat)
  | 0, _ => none
  | k + 1, (i11, w12, l13, i14, i15, l16, l17, n18, n19) =>
    chk ((r10).length ≤ IntKind.bits .u32 ∧ 0 ≤ ((1 : Int) * 2 ^ ((r10).length)) ∧ ((1 : Int) * 2 ^ ((r10).length)) ≤ 4294967295) <|
    if (decide (i11 < ((1 : Int) * 2 ^ ((r10).length)))) then (
    jn (fun (w23 : BitVec 16) =>
    jn (fun ((w25, l26, i27, i28, l29, l30, n31, n32) : BitVec 16 × List (BitVec 16) × Int × Int × List (BitVec 16) × List (BitVec 16) × Nat × Nat) =>
    if (i11 == (0 : Int)) then (
    K1 (w25, l26, i27, i28, l29, l30, n31, n32)
    ) else (
    chk (0 ≤ (i11 + (bitsI .and .u32 i11 (IntKind.wrap .u32 (0 - i11)))) ∧ (i11 + (bitsI .and .u32 i11 (IntKind.wrap .u32 (0 - i11)))) ≤ 4294967295) <|
    chk (0 ≤ (bitsI .xor .u32 i11 (i11 + (bitsI .and .u32 i11 (IntKind.wrap .u32 (0 - i11))))) ∧ 1 ≤ (bitsI .and .u32 i11 (IntKind.wrap .u32 (0 - i11))) ∧ 0 ≤ ((bitsI .xor .u32 i11 (i11 + (bitsI .and .u32 i11 (IntKind.wrap .u32 (0 - i11))))) / (bitsI .and .u32 i11 (IntKind.wrap .u32 (0 - i11)))) ∧ ((bitsI .xor .u32 i11 (i11 + (bitsI .and .u32 i11 (IntKind.wrap .u32 (0 - i11))))) / (bitsI .and .u32 i11 (IntKind.wrap .u32 (0 - i11)))) ≤ 4294967295) <|
    chk (2 ≤ IntKind.bits .u32) <|
    (f75_L0 Y70003 r10 K1 k) ((bitsI .or .u32 (i11 + (bitsI .and .u32 i11 (IntKind.wrap .u32 (0 - i11)))) (((bitsI .xor .u32 i11 (i11 + (bitsI .and .u32 i11 (IntKind.wrap .u32 (0 - i11))))) / (bitsI .and .u32 i11 (IntKind.wrap .u32 (0 - i11)))) / 2 ^ 2)), w25, l26, i27, i28, l29, l30, n31, n32)
    )
    ) fun (K4 : (BitVec 16 × List (BitVec 16) × Int × Int × List (BitVec 16) × List (BitVec 16) × Nat × Nat) → Option (Bool × Nat × List (BitVec 16) × Int × List (BitVec 16) × Int × List (BitVec 16) × BitVec 16 × Nat)) =>
    chk (n19 = 0) <|
    (Y70003 (l13, i15, l16, i14, l17, w12, n18) w23).bind fun (r24 : Nat × (List (BitVec 16) × Int × List (BitVec 16) × Int × List (BitVec 16) × BitVec 16 × Nat)) =>
    if r24.1 = 0 then (
    if (!true) then (
    some (false, 0, r24.2.1, r24.2.2.1, r24.2.2.2.1, r24.2.2.2.2.1, r24.2.2.2.2.2.1, r24.2.2.2.2.2.2.1, r24.2.2.2.2.2.2.2)
    ) else (
    K4 (r24.2.2.2.2.2.2.1, r24.2.1, r24.2.2.2.2.1, r24.2.2.1, r24.2.2.2.1, r24.2.2.2.2.2.1, r24.2.2.2.2.2.2.2, 0)
    )
    ) else (
    if (!false) then (
    some (false, r24.1, r24.2.1, r24.2.2.1, r24.2.2.2.1, r24.2.2.2.2.1, r24.2.2.2.2.2.1, r24.2.2.2.2.2.2.1, r24.2.2.2.2.2.2.2)
    ) else (
    K4 (r24.2.2.2.2.2.2.1, r24.2.1, r24.2.2.2.2.1, r24.2.2.1, r24.2.2.2.1, r24.2.2.2.2.2.1, r24.2.2.2.2.2.2.2, r24.1)
    )
    )
    ) fun (K2 : (BitVec 16) → Option (Bool × Nat × List (BitVec 16) × Int × List (BitVec 16) × Int × List (BitVec 16) × BitVec 16 × Nat)) =>
    f75_L1 r10 i11 K2 FUEL ((BitVec.ofInt 16 0), 0)
    ) else (
    K1 (w12, l13, i14, i15, l16, l17, n18, n19)
    )
def f75 (Y70003 : (List (BitVec 16) × Int × List (BitVec 16) × Int × List (BitVec 16) × BitVec 16 × Nat) → (BitVec 16) → Option (Nat × (List (BitVec 16) × Int × List (BitVec 16) × Int × List (BitVec 16) × BitVec 16 × Nat))) (x1 : BitVec 16) (x2 : Int) (x3 : List (BitVec 16)) (x4 : Int) (x5 : List (BitVec 16)) (x6 : Int) (x7 : List (BitVec 16)) (x8 : BitVec 16) (x9 : Nat) : Option (Bool × Nat × List (BitVec 16) × Int × List (BitVec 16) × Int × List (BitVec 16) × BitVec 16 × Nat) :=
  (f76 x1).bind fun (r10 : List Int) =>
  if ((decide (x2 < (0 : Int))) || (decide (x2 > (((r10).length : Nat) : Int)))) then (
  some (true, 0, x3, x4, x5, x6, x7, x8, x9)
  ) else (
  jn (fun ((w24, l25, i26, i27, l28, l29, n30, n31) : BitVec 16 × List (BitVec 16) × Int × Int × List (BitVec 16) × List (BitVec 16) × Nat × Nat) =>
  some (true, n31, l25, i27, l28, i26, l29, w24, n30)
  ) fun (K1 : (BitVec 16 × List (BitVec 16) × Int × Int × List (BitVec 16) × List (BitVec 16) × Nat × Nat) → Option (Bool × Nat × List (BitVec 16) × Int × List (BitVec 16) × Int × List (BitVec 16) × BitVec 16 × Nat)) =>
  chk (0 ≤ x2 ∧ (x2).toNat ≤ IntKind.bits .u32 ∧ 0 ≤ ((1 : Int) * 2 ^ ((x2).toNat)) ∧ ((1 : Int) * 2 ^ ((x2).toNat)) ≤ 4294967295) <|
  chk (0 ≤ (((1 : Int) * 2 ^ ((x2).toNat)) - (1 : Int)) ∧ (((1 : Int) * 2 ^ ((x2).toNat)) - (1 : Int)) ≤ 4294967295) <|
  f75_L0 Y70003 r10 K1 FUEL ((((1 : Int) * 2 ^ ((x2).toNat)) - (1 : Int)), x8, x3, x6, x4, x5, x7, x9, 0)
  )
set_option maxRecDepth 100000 in
theorem f75_ok (C70003 : YC) (C70002 : YC) (Y70003 : (List (BitVec 16) × Int × List (BitVec 16) × Int × List (BitVec 16) × BitVec 16 × Nat) → (BitVec 16) → Option (Nat × (List (BitVec 16) × Int × List (BitVec 16) × Int × List (BitVec 16) × BitVec 16 × Nat))) (x1 : BitVec 16) (x2 : Int) (x3 : List (BitVec 16)) (x4 : Int) (x5 : List (BitVec 16)) (x6 : Int) (x7 : List (BitVec 16)) (x8 : BitVec 16) (x9 : Nat) (r : Bool × Nat × List (BitVec 16) × Int × List (BitVec 16) × Int × List (BitVec 16) × BitVec 16 × Nat) (h : f75 Y70003 x1 x2 x3 x4 x5 x6 x7 x8 x9 = some r) (hY70003 : ∀ s x r, Y70003 s x = some r → YSpec Tryd.prog 70003 [6002, 10003, 10004] C70003 [3, 5, 7, 6001, 6002, 10003, 10004, 16001, 70002] [(3, .cells 22 [vL 1 eW 0#16 s.1]), (5, .cells 5 [.int .u8 s.2.1]), (7, .cells 22 [.own 6200]), (5900, bL 28 1 eW 0#16 s.2.2.1), (6001, .cells 3 [.int .i64 s.2.2.2.1]), (6002, .cells 48 [.fn (.func 35) [.ptr 3 0]]), (6200, bL 28 1 eW 0#16 s.2.2.2.2.1), (10003, .cells 48 [.own 70002]), (10004, .cells 22 [.own 5900]), (16001, .cells 28 [.b16 s.2.2.2.2.2.1]), (70002, .yld (some ([5, 7], C70002)) s.2.2.2.2.2.2)] [.b16 x] r.1 [(3, .cells 22 [vL 1 eW 0#16 r.2.1]), (5, .cells 5 [.int .u8 r.2.2.1]), (7, .cells 22 [.own 6200]), (5900, bL 28 1 eW 0#16 r.2.2.2.1), (6001, .cells 3 [.int .i64 r.2.2.2.2.1]), (6002, .cells 48 [.fn (.func 35) [.ptr 3 0]]), (6200, bL 28 1 eW 0#16 r.2.2.2.2.2.1), (10003, .cells 48 [.own 70002]), (10004, .cells 22 [.own 5900]), (16001, .cells 28 [.b16 r.2.2.2.2.2.2.1]), (70002, .yld (some ([5, 7], C70002)) r.2.2.2.2.2.2.2)]) : Spec1 Tryd.prog 75 [(0, .elem 32 1 T0F 0 0)] [70003, 3, 5, 7, 6001, 6002, 10003, 10004, 16001, 70002] [(70003, .yld (some ([6002, 10003, 10004], C70003)) 0), (3, .cells 22 [vL 1 eW 0#16 x3]), (5, .cells 5 [.int .u8 x4]), (7, .cells 22 [.own 6200]), (5900, bL 28 1 eW 0#16 x5), (6001, .cells 3 [.int .i64 x6]), (6002, .cells 48 [.fn (.func 35) [.ptr 3 0]]), (6200, bL 28 1 eW 0#16 x7), (10003, .cells 48 [.own 70002]), (10004, .cells 22 [.own 5900]), (16001, .cells 28 [.b16 x8]), (70002, .yld (some ([5, 7], C70002)) x9)] [.b16 x1, .int .i64 x2, .own 70003] (.bool r.1) [(70003, .yld (some ([6002, 10003, 10004], C70003)) r.2.1), (3, .cells 22 [vL 1 eW 0#16 r.2.2.1]), (5, .cells 5 [.int .u8 r.2.2.2.1]), (7, .cells 22 [.own 6200]), (5900, bL 28 1 eW 0#16 r.2.2.2.2.1), (6001, .cells 3 [.int .i64 r.2.2.2.2.2.1]), (6002, .cells 48 [.fn (.func 35) [.ptr 3 0]]), (6200, bL 28 1 eW 0#16 r.2.2.2.2.2.2.1), (10003, .cells 48 [.own 70002]), (10004, .cells 22 [.own 5900]), (16001, .cells 28 [.b16 r.2.2.2.2.2.2.2.1]), (70002, .yld (some ([5, 7], C70002)) r.2.2.2.2.2.2.2.2)] := by
  unfold f75 at h
  refine Spec1.body 30000 _ _ Tryd.func75 rfl Tryd.ntmps75 rfl rfl ?_
  refine AWp.seq ?_
  refine AWp.regC [57] [] [0, 1, 2, 1000000] [3, 5, 7, 5900, 6001, 6002, 6200, 10003, 10004, 16001, 70002, 70003] ⟨70, [(0, .b16 x1), (1, .int .i64 x2), (2, .own 70003), (1000000, .elem 32 1 T0F 0 0)], [(3, .cells 22 [vL 1 eW 0#16 x3]), (5, .cells 5 [.int .u8 x4]), (7, .cells 22 [.own 6200]), (5900, bL 28 1 eW 0#16 x5), (6001, .cells 3 [.int .i64 x6]), (6002, .cells 48 [.fn (.func 35) [.ptr 3 0]]), (6200, bL 28 1 eW 0#16 x7), (10003, .cells 48 [.own 70002]), (10004, .cells 22 [.own 5900]), (16001, .cells 28 [.b16 x8]), (70002, .yld (some ([5, 7], C70002)) x9), (70003, .yld (some ([6002, 10003, 10004], C70003)) 0)], [70003, 3, 5, 7, 6001, 6002, 10003, 10004, 16001, 70002], 30000⟩ (True) Tryd_mixed (by kernel_rfl) trivial ?_
  refine thenQ_normal ?_
  refine AWp.seq ?_
  obtain ⟨r10, hr10, h⟩ := bind_ok h
  refine AWp.regC [57] [(1, ⟨[.b16 x1], [], [], [(36001, bL 3 1 eI 0 r10)], .own 36001, [36001], [], [0]⟩)] [1, 2, 7, 1000000] [3, 5, 7, 5900, 6001, 6002, 6200, 10003, 10004, 16001, 36001, 70002, 70003] ⟨70, [(1, .int .i64 x2), (2, .own 70003), (7, .own 36001), (1000000, .elem 32 1 T0F 0 0)], [(3, .cells 22 [vL 1 eW 0#16 x3]), (5, .cells 5 [.int .u8 x4]), (7, .cells 22 [.own 6200]), (5900, bL 28 1 eW 0#16 x5), (6001, .cells 3 [.int .i64 x6]), (6002, .cells 48 [.fn (.func 35) [.ptr 3 0]]), (6200, bL 28 1 eW 0#16 x7), (10003, .cells 48 [.own 70002]), (10004, .cells 22 [.own 5900]), (16001, .cells 28 [.b16 x8]), (36001, bL 3 1 eI 0 r10), (70002, .yld (some ([5, 7], C70002)) x9), (70003, .yld (some ([6002, 10003, 10004], C70003)) 0)], [70003, 3, 5, 7, 6001, 6002, 10003, 10004, 16001, 70002], 30000⟩ ((callP Tryd.prog true 76 [(0, .elem 32 1 T0F 0 0)] [] [] [] [] [.b16 x1] [.b16 x1] (.own 36001) [(36001, bL 3 1 eI 0 r10)]) ∧ True) Tryd_mixed (by kernel_rfl) ⟨⟨fun _ => (Spec1.ren (swapN 3000 36001) (swapN_inv 3000 36001) rfl (f76_ok x1 r10 hr10)), fun _ => ⟨.refl _, trivial⟩, .inl rfl⟩, trivial⟩ ?_
  refine thenQ_normal ?_
  refine AWp.seq ?_
  refine AWp.seq ?_
  have ob0 : ((decide (x2 < (0 : Int))) == false) = true → ((decide (x2 < (0 : Int))) == false) = true := fun h => h
  have ob1 : ((decide (x2 < (0 : Int))) == false) = true → ((decide (x2 < (0 : Int))) == false) = true := fun h => h
  have ob2 : ((decide (x2 < (0 : Int))) == false) = true → ((decide (x2 < (0 : Int))) == false) = true := fun h => h
  have ob3 : true = true → (decide (x2 < (0 : Int))) = false → ((decide (x2 < (0 : Int))) == false) = true := fun _ h => beq_iff_eq.2 h
  refine AWp.regC [57] [] [1, 2, 7, 23, 1000000] [3, 5, 7, 5900, 6001, 6002, 6200, 10003, 10004, 16001, 36001, 70002, 70003] ⟨70, [(1, .int .i64 x2), (2, .own 70003), (7, .own 36001), (23, .bool ((decide (x2 < (0 : Int))) || (decide (x2 > (((r10).length : Nat) : Int))))), (1000000, .elem 32 1 T0F 0 0)], [(3, .cells 22 [vL 1 eW 0#16 x3]), (5, .cells 5 [.int .u8 x4]), (7, .cells 22 [.own 6200]), (5900, bL 28 1 eW 0#16 x5), (6001, .cells 3 [.int .i64 x6]), (6002, .cells 48 [.fn (.func 35) [.ptr 3 0]]), (6200, bL 28 1 eW 0#16 x7), (10003, .cells 48 [.own 70002]), (10004, .cells 22 [.own 5900]), (16001, .cells 28 [.b16 x8]), (36001, bL 3 1 eI 0 r10), (70002, .yld (some ([5, 7], C70002)) x9), (70003, .yld (some ([6002, 10003, 10004], C70003)) 0)], [70003, 3, 5, 7, 6001, 6002, 10003, 10004, 16001, 70002], 30000⟩ (((((decide (x2 < (0 : Int))) == false) = true → ((decide (x2 < (0 : Int))) == false) = true) ∧ True) ∧ ((((decide (x2 < (0 : Int))) == false) = true → ((decide (x2 < (0 : Int))) == false) = true) ∧ (((decide (x2 < (0 : Int))) == false) = true → ((decide (x2 < (0 : Int))) == false) = true) ∧ True) ∧ (true = true → (decide (x2 < (0 : Int))) = false → ((decide (x2 < (0 : Int))) == false) = true) ∧ True) Tryd_mixed (by kernel_rfl) ⟨⟨ob0, trivial⟩, ⟨ob1, ob2, trivial⟩, ob3, trivial⟩ ?_
  refine thenQ_normal ?_
  refine AWp.cond (b := ((decide (x2 < (0 : Int))) || (decide (x2 > (((r10).length : Nat) : Int))))) (by kernel_rfl) (fun hc1 => ?_) (fun hc1 => ?_)
  ·
    replace h := ite_tb hc1 h
    refine AWp.seq ?_
    refine AWp.regC [57] [] [6, 1000000] [3, 5, 7, 5900, 6001, 6002, 6200, 10003, 10004, 16001, 70002, 70003] ⟨70, [(6, .bool true), (1000000, .elem 32 1 T0F 0 0)], [(3, .cells 22 [vL 1 eW 0#16 x3]), (5, .cells 5 [.int .u8 x4]), (7, .cells 22 [.own 6200]), (5900, bL 28 1 eW 0#16 x5), (6001, .cells 3 [.int .i64 x6]), (6002, .cells 48 [.fn (.func 35) [.ptr 3 0]]), (6200, bL 28 1 eW 0#16 x7), (10003, .cells 48 [.own 70002]), (10004, .cells 22 [.own 5900]), (16001, .cells 28 [.b16 x8]), (70002, .yld (some ([5, 7], C70002)) x9), (70003, .yld (some ([6002, 10003, 10004], C70003)) 0)], [70003, 3, 5, 7, 6001, 6002, 10003, 10004, 16001, 70002], 30000⟩ (True) Tryd_mixed (by kernel_rfl) trivial ?_
    refine thenQ_normal ?_
    have hret := Option.some.inj h
    subst hret
    refine AWp.le (Le.mk (s := ⟨70, [(6, .bool true), (1000000, .elem 32 1 T0F 0 0)], [(3, .cells 22 [vL 1 eW 0#16 x3]), (5, .cells 5 [.int .u8 x4]), (7, .cells 22 [.own 6200]), (5900, bL 28 1 eW 0#16 x5), (6001, .cells 3 [.int .i64 x6]), (6002, .cells 48 [.fn (.func 35) [.ptr 3 0]]), (6200, bL 28 1 eW 0#16 x7), (10003, .cells 48 [.own 70002]), (10004, .cells 22 [.own 5900]), (16001, .cells 28 [.b16 x8]), (70002, .yld (some ([5, 7], C70002)) x9), (70003, .yld (some ([6002, 10003, 10004], C70003)) 0)], [70003, 3, 5, 7, 6001, 6002, 10003, 10004, 16001, 70002], 30000⟩) (s' := ⟨70, [(6, .bool true)], [(70003, .yld (some ([6002, 10003, 10004], C70003)) 0), (3, .cells 22 [vL 1 eW 0#16 x3]), (5, .cells 5 [.int .u8 x4]), (7, .cells 22 [.own 6200]), (5900, bL 28 1 eW 0#16 x5), (6001, .cells 3 [.int .i64 x6]), (6002, .cells 48 [.fn (.func 35) [.ptr 3 0]]), (6200, bL 28 1 eW 0#16 x7), (10003, .cells 48 [.own 70002]), (10004, .cells 22 [.own 5900]), (16001, .cells 28 [.b16 x8]), (70002, .yld (some ([5, 7], C70002)) x9)], [70003, 3, 5, 7, 6001, 6002, 10003, 10004, 16001, 70002], 30000⟩) rfl rfl ⟨.refl _, trivial⟩ ⟨⟨_, rfl, .refl _⟩, ⟨_, rfl, .refl _⟩, ⟨_, rfl, .refl _⟩, ⟨_, rfl, .refl _⟩, ⟨_, rfl, .refl _⟩, ⟨_, rfl, .refl _⟩, ⟨_, rfl, .refl _⟩, ⟨_, rfl, .refl _⟩, ⟨_, rfl, .refl _⟩, ⟨_, rfl, .refl _⟩, ⟨_, rfl, .refl _⟩, ⟨_, rfl, .refl _⟩, trivial⟩) ?_
    refine AWp.ret ?_
    refine thenQ_ret ?_
    exact bodyQ_ret _ rfl ⟨rfl, rfl⟩ rfl
  ·
    replace h := ite_fb hc1 h
    refine AWp.skip ?_
    refine thenQ_normal ?_
    obtain ⟨K1, hK1, h⟩ := jn_some h
    refine AWp.join (α := BitVec 16 × List (BitVec 16) × Int × Int × List (BitVec 16) × List (BitVec 16) × Nat × Nat) (fun (x : BitVec 16 × List (BitVec 16) × Int × Int × List (BitVec 16) × List (BitVec 16) × Nat × Nat) => match x with | (w24, l25, i26, i27, l28, l29, n30, n31) => ⟨70, [(1000000, .elem 32 1 T0F 0 0)], [(3, .cells 22 [vL 1 eW 0#16 l25]), (5, .cells 5 [.int .u8 i27]), (7, .cells 22 [.own 6200]), (5900, bL 28 1 eW 0#16 l28), (6001, .cells 3 [.int .i64 i26]), (6002, .cells 48 [.fn (.func 35) [.ptr 3 0]]), (6200, bL 28 1 eW 0#16 l29), (10003, .cells 48 [.own 70002]), (10004, .cells 22 [.own 5900]), (16001, .cells 28 [.b16 w24]), (70002, .yld (some ([5, 7], C70002)) n30), (70003, .yld (some ([6002, 10003, 10004], C70003)) n31)], [70003, 3, 5, 7, 6001, 6002, 10003, 10004, 16001, 70002], 30000⟩) (fun x => K1 x = some r) ?_ ?_
    ·
      refine AWp.seq ?_
      obtain ⟨ob4, h⟩ := chk_some h
      obtain ⟨ob5, h⟩ := chk_some h
      refine AWp.regC [57] [] [2, 7, 8, 1000000] [3, 5, 7, 5900, 6001, 6002, 6200, 10003, 10004, 16001, 36001, 70002, 70003] ⟨70, [(2, .own 70003), (7, .own 36001), (8, .int .u32 (((1 : Int) * 2 ^ ((x2).toNat)) - (1 : Int))), (1000000, .elem 32 1 T0F 0 0)], [(3, .cells 22 [vL 1 eW 0#16 x3]), (5, .cells 5 [.int .u8 x4]), (7, .cells 22 [.own 6200]), (5900, bL 28 1 eW 0#16 x5), (6001, .cells 3 [.int .i64 x6]), (6002, .cells 48 [.fn (.func 35) [.ptr 3 0]]), (6200, bL 28 1 eW 0#16 x7), (10003, .cells 48 [.own 70002]), (10004, .cells 22 [.own 5900]), (16001, .cells 28 [.b16 x8]), (36001, bL 3 1 eI 0 r10), (70002, .yld (some ([5, 7], C70002)) x9), (70003, .yld (some ([6002, 10003, 10004], C70003)) 0)], [70003, 3, 5, 7, 6001, 6002, 10003, 10004, 16001, 70002], 30000⟩ ((0 ≤ x2 ∧ (x2).toNat ≤ IntKind.bits .u32 ∧ 0 ≤ ((1 : Int) * 2 ^ ((x2).toNat)) ∧ ((1 : Int) * 2 ^ ((x2).toNat)) ≤ 4294967295) ∧ (0 ≤ (((1 : Int) * 2 ^ ((x2).toNat)) - (1 : Int)) ∧ (((1 : Int) * 2 ^ ((x2).toNat)) - (1 : Int)) ≤ 4294967295) ∧ True) Tryd_mixed (by kernel_rfl) ⟨ob4, ob5, trivial⟩ ?_
      refine thenQ_normal ?_
      refine AWp.block ?_
      refine AWp.loopL (α := Nat × (Int × BitVec 16 × List (BitVec 16) × Int × Int × List (BitVec 16) × List (BitVec 16) × Nat × Nat)) (fun x => match x with | (_, i11, w12, l13, i14, i15, l16, l17, n18, n19) => ⟨70, [(2, .own 70003), (7, .own 36001), (8, .int .u32 i11), (1000000, .elem 32 1 T0F 0 0)], [(3, .cells 22 [vL 1 eW 0#16 l13]), (5, .cells 5 [.int .u8 i15]), (7, .cells 22 [.own 6200]), (5900, bL 28 1 eW 0#16 l16), (6001, .cells 3 [.int .i64 i14]), (6002, .cells 48 [.fn (.func 35) [.ptr 3 0]]), (6200, bL 28 1 eW 0#16 l17), (10003, .cells 48 [.own 70002]), (10004, .cells 22 [.own 5900]), (16001, .cells 28 [.b16 w12]), (36001, bL 3 1 eI 0 r10), (70002, .yld (some ([5, 7], C70002)) n18), (70003, .yld (some ([6002, 10003, 10004], C70003)) n19)], [70003, 3, 5, 7, 6001, 6002, 10003, 10004, 16001, 70002], 30000⟩) (fun x => f75_L0 Y70003 r10 K1 x.1 x.2 = some r) (fun x => x.1) (FUEL, (((1 : Int) * 2 ^ ((x2).toNat)) - (1 : Int)), x8, x3, x6, x4, x5, x7, x9, 0) (Le.mk (s := ⟨70, [(2, .own 70003), (7, .own 36001), (8, .int .u32 (((1 : Int) * 2 ^ ((x2).toNat)) - (1 : Int))), (1000000, .elem 32 1 T0F 0 0)], [(3, .cells 22 [vL 1 eW 0#16 x3]), (5, .cells 5 [.int .u8 x4]), (7, .cells 22 [.own 6200]), (5900, bL 28 1 eW 0#16 x5), (6001, .cells 3 [.int .i64 x6]), (6002, .cells 48 [.fn (.func 35) [.ptr 3 0]]), (6200, bL 28 1 eW 0#16 x7), (10003, .cells 48 [.own 70002]), (10004, .cells 22 [.own 5900]), (16001, .cells 28 [.b16 x8]), (36001, bL 3 1 eI 0 r10), (70002, .yld (some ([5, 7], C70002)) x9), (70003, .yld (some ([6002, 10003, 10004], C70003)) 0)], [70003, 3, 5, 7, 6001, 6002, 10003, 10004, 16001, 70002], 30000⟩) (s' := ⟨70, [(2, .own 70003), (7, .own 36001), (8, .int .u32 (((1 : Int) * 2 ^ ((x2).toNat)) - (1 : Int))), (1000000, .elem 32 1 T0F 0 0)], [(3, .cells 22 [vL 1 eW 0#16 x3]), (5, .cells 5 [.int .u8 x4]), (7, .cells 22 [.own 6200]), (5900, bL 28 1 eW 0#16 x5), (6001, .cells 3 [.int .i64 x6]), (6002, .cells 48 [.fn (.func 35) [.ptr 3 0]]), (6200, bL 28 1 eW 0#16 x7), (10003, .cells 48 [.own 70002]), (10004, .cells 22 [.own 5900]), (16001, .cells 28 [.b16 x8]), (36001, bL 3 1 eI 0 r10), (70002, .yld (some ([5, 7], C70002)) x9), (70003, .yld (some ([6002, 10003, 10004], C70003)) 0)], [70003, 3, 5, 7, 6001, 6002, 10003, 10004, 16001, 70002], 30000⟩) rfl rfl ⟨.refl _, .refl _, .refl _, .refl _, trivial⟩ ⟨⟨_, rfl, .refl _⟩, ⟨_, rfl, .refl _⟩, ⟨_, rfl, .refl _⟩, ⟨_, rfl, .refl _⟩, ⟨_, rfl, .refl _⟩, ⟨_, rfl, .refl _⟩, ⟨_, rfl, .refl _⟩, ⟨_, rfl, .refl _⟩, ⟨_, rfl, .refl _⟩, ⟨_, rfl, .refl _⟩, ⟨_, rfl, .refl _⟩, ⟨_, rfl, .refl _⟩, ⟨_, rfl, .refl _⟩, trivial⟩) h ?_
      rintro ⟨k0, i11, w12, l13, i14, i15, l16, l17, n18, n19⟩ h
      cases k0 with
      | zero => exact nomatch (show (none : Option (Bool × Nat × List (BitVec 16) × Int × List (BitVec 16) × Int × List (BitVec 16) × BitVec 16 × Nat)) = some r from h)
      | succ k0 =>
      obtain ⟨C0, hC0⟩ : ∃ C, C = f75_L0 Y70003 r10 K1 k0 := ⟨_, rfl⟩
      replace h := (f75_L0.eq_2 ..).symm.trans h
      try rw [← hC0] at h
      refine AWp.seq ?_
      refine AWp.seq ?_
      obtain ⟨ob6p, h⟩ := chk_some h
      have ob6 : 0 ≤ (((r10).length : Nat) : Int) ∧ (r10).length ≤ IntKind.bits .u32 ∧ 0 ≤ ((1 : Int) * 2 ^ ((r10).length)) ∧ ((1 : Int) * 2 ^ ((r10).length)) ≤ 4294967295 := ⟨by omega, ob6p.1, ob6p.2.1, ob6p.2.2⟩
      refine AWp.regC [57] [] [2, 7, 8, 31, 1000000] [3, 5, 7, 5900, 6001, 6002, 6200, 10003, 10004, 16001, 36001, 70002, 70003] ⟨70, [(2, .own 70003), (7, .own 36001), (8, .int .u32 i11), (31, .bool (decide (i11 < ((1 : Int) * 2 ^ ((r10).length))))), (1000000, .elem 32 1 T0F 0 0)], [(3, .cells 22 [vL 1 eW 0#16 l13]), (5, .cells 5 [.int .u8 i15]), (7, .cells 22 [.own 6200]), (5900, bL 28 1 eW 0#16 l16), (6001, .cells 3 [.int .i64 i14]), (6002, .cells 48 [.fn (.func 35) [.ptr 3 0]]), (6200, bL 28 1 eW 0#16 l17), (10003, .cells 48 [.own 70002]), (10004, .cells 22 [.own 5900]), (16001, .cells 28 [.b16 w12]), (36001, bL 3 1 eI 0 r10), (70002, .yld (some ([5, 7], C70002)) n18), (70003, .yld (some ([6002, 10003, 10004], C70003)) n19)], [70003, 3, 5, 7, 6001, 6002, 10003, 10004, 16001, 70002], 30000⟩ ((0 ≤ (((r10).length : Nat) : Int) ∧ (r10).length ≤ IntKind.bits .u32 ∧ 0 ≤ ((1 : Int) * 2 ^ ((r10).length)) ∧ ((1 : Int) * 2 ^ ((r10).length)) ≤ 4294967295) ∧ True) Tryd_mixed (by kernel_rfl) ⟨ob6, trivial⟩ ?_
      refine thenQ_normal ?_
      refine AWp.cond (b := (decide (i11 < ((1 : Int) * 2 ^ ((r10).length))))) (by kernel_rfl) (fun hc2 => ?_) (fun hc2 => ?_)
      ·
        replace h := ite_tb hc2 h
        refine AWp.skip ?_
        refine thenQ_normal ?_
        refine AWp.block ?_
        refine AWp.seq ?_
        refine AWp.regC [57] [] [2, 7, 8, 9, 1000000] [3, 5, 7, 5900, 6001, 6002, 6200, 10003, 10004, 16001, 36001, 70002, 70003] ⟨70, [(2, .own 70003), (7, .own 36001), (8, .int .u32 i11), (9, .b16 (BitVec.ofInt 16 0)), (1000000, .elem 32 1 T0F 0 0)], [(3, .cells 22 [vL 1 eW 0#16 l13]), (5, .cells 5 [.int .u8 i15]), (7, .cells 22 [.own 6200]), (5900, bL 28 1 eW 0#16 l16), (6001, .cells 3 [.int .i64 i14]), (6002, .cells 48 [.fn (.func 35) [.ptr 3 0]]), (6200, bL 28 1 eW 0#16 l17), (10003, .cells 48 [.own 70002]), (10004, .cells 22 [.own 5900]), (16001, .cells 28 [.b16 w12]), (36001, bL 3 1 eI 0 r10), (70002, .yld (some ([5, 7], C70002)) n18), (70003, .yld (some ([6002, 10003, 10004], C70003)) n19)], [70003, 3, 5, 7, 6001, 6002, 10003, 10004, 16001, 70002], 30000⟩ (True) Tryd_mixed (by kernel_rfl) trivial ?_
        refine thenQ_normal ?_
        obtain ⟨K2, hK2, h⟩ := jn_some h
        refine AWp.join (α := BitVec 16) (fun (w23 : BitVec 16) => ⟨70, [(2, .own 70003), (7, .own 36001), (8, .int .u32 i11), (9, .b16 w23), (1000000, .elem 32 1 T0F 0 0)], [(3, .cells 22 [vL 1 eW 0#16 l13]), (5, .cells 5 [.int .u8 i15]), (7, .cells 22 [.own 6200]), (5900, bL 28 1 eW 0#16 l16), (6001, .cells 3 [.int .i64 i14]), (6002, .cells 48 [.fn (.func 35) [.ptr 3 0]]), (6200, bL 28 1 eW 0#16 l17), (10003, .cells 48 [.own 70002]), (10004, .cells 22 [.own 5900]), (16001, .cells 28 [.b16 w12]), (36001, bL 3 1 eI 0 r10), (70002, .yld (some ([5, 7], C70002)) n18), (70003, .yld (some ([6002, 10003, 10004], C70003)) n19)], [70003, 3, 5, 7, 6001, 6002, 10003, 10004, 16001, 70002], 30000⟩) (fun x => K2 x = some r) ?_ ?_
        ·
          refine AWp.seq ?_
          refine AWp.regC [57] [] [2, 7, 8, 9, 32, 33, 34, 1000000] [3, 5, 7, 5900, 6001, 6002, 6200, 10003, 10004, 16001, 36001, 70002, 70003] ⟨70, [(2, .own 70003), (7, .own 36001), (8, .int .u32 i11), (9, .b16 (BitVec.ofInt 16 0)), (32, .own 36001), (33, .int .i64 (((r10).length : Nat) : Int)), (34, .int .i64 (0 : Int)), (1000000, .elem 32 1 T0F 0 0)], [(3, .cells 22 [vL 1 eW 0#16 l13]), (5, .cells 5 [.int .u8 i15]), (7, .cells 22 [.own 6200]), (5900, bL 28 1 eW 0#16 l16), (6001, .cells 3 [.int .i64 i14]), (6002, .cells 48 [.fn (.func 35) [.ptr 3 0]]), (6200, bL 28 1 eW 0#16 l17), (10003, .cells 48 [.own 70002]), (10004, .cells 22 [.own 5900]), (16001, .cells 28 [.b16 w12]), (36001, bL 3 1 eI 0 r10), (70002, .yld (some ([5, 7], C70002)) n18), (70003, .yld (some ([6002, 10003, 10004], C70003)) n19)], [70003, 3, 5, 7, 6001, 6002, 10003, 10004, 16001, 70002], 30000⟩ (True) Tryd_mixed (by kernel_rfl) trivial ?_
          refine thenQ_normal ?_
          refine AWp.block ?_
          refine AWp.loopL (α := Nat × (BitVec 16 × Nat)) (fun x => match x with | (_, w20, n21) => ⟨70, [(2, .own 70003), (7, .own 36001), (8, .int .u32 i11), (9, .b16 w20), (32, .own 36001), (33, .int .i64 (((r10).length : Nat) : Int)), (34, .int .i64 ((n21 : Nat) : Int)), (1000000, .elem 32 1 T0F 0 0)], [(3, .cells 22 [vL 1 eW 0#16 l13]), (5, .cells 5 [.int .u8 i15]), (7, .cells 22 [.own 6200]), (5900, bL 28 1 eW 0#16 l16), (6001, .cells 3 [.int .i64 i14]), (6002, .cells 48 [.fn (.func 35) [.ptr 3 0]]), (6200, bL 28 1 eW 0#16 l17), (10003, .cells 48 [.own 70002]), (10004, .cells 22 [.own 5900]), (16001, .cells 28 [.b16 w12]), (36001, bL 3 1 eI 0 r10), (70002, .yld (some ([5, 7], C70002)) n18), (70003, .yld (some ([6002, 10003, 10004], C70003)) n19)], [70003, 3, 5, 7, 6001, 6002, 10003, 10004, 16001, 70002], 30000⟩) (fun x => f75_L1 r10 i11 K2 x.1 x.2 = some r) (fun x => x.1) (FUEL, (BitVec.ofInt 16 0), 0) (Le.mk (s := ⟨70, [(2, .own 70003), (7, .own 36001), (8, .int .u32 i11), (9, .b16 (BitVec.ofInt 16 0)), (32, .own 36001), (33, .int .i64 (((r10).length : Nat) : Int)), (34, .int .i64 (0 : Int)), (1000000, .elem 32 1 T0F 0 0)], [(3, .cells 22 [vL 1 eW 0#16 l13]), (5, .cells 5 [.int .u8 i15]), (7, .cells 22 [.own 6200]), (5900, bL 28 1 eW 0#16 l16), (6001, .cells 3 [.int .i64 i14]), (6002, .cells 48 [.fn (.func 35) [.ptr 3 0]]), (6200, bL 28 1 eW 0#16 l17), (10003, .cells 48 [.own 70002]), (10004, .cells 22 [.own 5900]), (16001, .cells 28 [.b16 w12]), (36001, bL 3 1 eI 0 r10), (70002, .yld (some ([5, 7], C70002)) n18), (70003, .yld (some ([6002, 10003, 10004], C70003)) n19)], [70003, 3, 5, 7, 6001, 6002, 10003, 10004, 16001, 70002], 30000⟩) (s' := ⟨70, [(2, .own 70003), (7, .own 36001), (8, .int .u32 i11), (9, .b16 (BitVec.ofInt 16 0)), (32, .own 36001), (33, .int .i64 (((r10).length : Nat) : Int)), (34, .int .i64 (0 : Int)), (1000000, .elem 32 1 T0F 0 0)], [(3, .cells 22 [vL 1 eW 0#16 l13]), (5, .cells 5 [.int .u8 i15]), (7, .cells 22 [.own 6200]), (5900, bL 28 1 eW 0#16 l16), (6001, .cells 3 [.int .i64 i14]), (6002, .cells 48 [.fn (.func 35) [.ptr 3 0]]), (6200, bL 28 1 eW 0#16 l17), (10003, .cells 48 [.own 70002]), (10004, .cells 22 [.own 5900]), (16001, .cells 28 [.b16 w12]), (36001, bL 3 1 eI 0 r10), (70002, .yld (some ([5, 7], C70002)) n18), (70003, .yld (some ([6002, 10003, 10004], C70003)) n19)], [70003, 3, 5, 7, 6001, 6002, 10003, 10004, 16001, 70002], 30000⟩) rfl rfl ⟨.refl _, .refl _, .refl _, .refl _, .refl _, .refl _, .refl _, .refl _, trivial⟩ ⟨⟨_, rfl, .refl _⟩, ⟨_, rfl, .refl _⟩, ⟨_, rfl, .refl _⟩, ⟨_, rfl, .refl _⟩, ⟨_, rfl, .refl _⟩, ⟨_, rfl, .refl _⟩, ⟨_, rfl, .refl _⟩, ⟨_, rfl, .refl _⟩, ⟨_, rfl, .refl _⟩, ⟨_, rfl, .refl _⟩, ⟨_, rfl, .refl _⟩, ⟨_, rfl, .refl _⟩, ⟨_, rfl, .refl _⟩, trivial⟩) h ?_
          rintro ⟨k1, w20, n21⟩ h
          cases k1 with
          | zero => exact nomatch (show (none : Option (Bool × Nat × List (BitVec 16) × Int × List (BitVec 16) × Int × List (BitVec 16) × BitVec 16 × Nat)) = some r from h)
          | succ k1 =>
          obtain ⟨C1, hC1⟩ : ∃ C, C = f75_L1 r10 i11 K2 k1 := ⟨_, rfl⟩
          replace h := (f75_L1.eq_2 ..).symm.trans h
          try rw [← hC1] at h
          refine AWp.seq ?_
          refine AWp.regC [57] [] [2, 7, 8, 9, 32, 33, 34, 35, 1000000] [3, 5, 7, 5900, 6001, 6002, 6200, 10003, 10004, 16001, 36001, 70002, 70003] ⟨70, [(2, .own 70003), (7, .own 36001), (8, .int .u32 i11), (9, .b16 w20), (32, .own 36001), (33, .int .i64 (((r10).length : Nat) : Int)), (34, .int .i64 ((n21 : Nat) : Int)), (35, .bool (decide (((n21 : Nat) : Int) < (((r10).length : Nat) : Int)))), (1000000, .elem 32 1 T0F 0 0)], [(3, .cells 22 [vL 1 eW 0#16 l13]), (5, .cells 5 [.int .u8 i15]), (7, .cells 22 [.own 6200]), (5900, bL 28 1 eW 0#16 l16), (6001, .cells 3 [.int .i64 i14]), (6002, .cells 48 [.fn (.func 35) [.ptr 3 0]]), (6200, bL 28 1 eW 0#16 l17), (10003, .cells 48 [.own 70002]), (10004, .cells 22 [.own 5900]), (16001, .cells 28 [.b16 w12]), (36001, bL 3 1 eI 0 r10), (70002, .yld (some ([5, 7], C70002)) n18), (70003, .yld (some ([6002, 10003, 10004], C70003)) n19)], [70003, 3, 5, 7, 6001, 6002, 10003, 10004, 16001, 70002], 30000⟩ (True) Tryd_mixed (by kernel_rfl) trivial ?_
          refine thenQ_normal ?_
          refine AWp.seq ?_
          refine AWp.cond (b := (decide (((n21 : Nat) : Int) < (((r10).length : Nat) : Int)))) (by kernel_rfl) (fun hc3 => ?_) (fun hc3 => ?_)
          ·
            replace h := ite_tb hc3 h
            refine AWp.skip ?_
            refine thenQ_normal ?_
            obtain ⟨K3, hK3, h⟩ := jn_some h
            refine AWp.join (α := BitVec 16) (fun (w22 : BitVec 16) => ⟨70, [(2, .own 70003), (7, .own 36001), (8, .int .u32 i11), (9, .b16 w22), (32, .own 36001), (33, .int .i64 (((r10).length : Nat) : Int)), (34, .int .i64 ((n21 : Nat) : Int)), (1000000, .elem 32 1 T0F 0 0)], [(3, .cells 22 [vL 1 eW 0#16 l13]), (5, .cells 5 [.int .u8 i15]), (7, .cells 22 [.own 6200]), (5900, bL 28 1 eW 0#16 l16), (6001, .cells 3 [.int .i64 i14]), (6002, .cells 48 [.fn (.func 35) [.ptr 3 0]]), (6200, bL 28 1 eW 0#16 l17), (10003, .cells 48 [.own 70002]), (10004, .cells 22 [.own 5900]), (16001, .cells 28 [.b16 w12]), (36001, bL 3 1 eI 0 r10), (70002, .yld (some ([5, 7], C70002)) n18), (70003, .yld (some ([6002, 10003, 10004], C70003)) n19)], [70003, 3, 5, 7, 6001, 6002, 10003, 10004, 16001, 70002], 30000⟩) (fun x => K3 x = some r) ?_ ?_
            ·
              refine AWp.block ?_
              refine AWp.seq ?_
              obtain ⟨ob7p, h⟩ := chk_some h
              have ob7 : 0 ≤ ((n21 : Nat) : Int) ∧ ((n21 : Nat) : Int) < (((r10).length : Nat) : Int) := ⟨by omega, ob7p⟩
              obtain ⟨ob8, h⟩ := chk_some h
              refine AWp.regC [57] [] [2, 7, 8, 9, 10, 11, 32, 33, 34, 1000000] [3, 5, 7, 5900, 6001, 6002, 6200, 10003, 10004, 16001, 36001, 70002, 70003] ⟨70, [(2, .own 70003), (7, .own 36001), (8, .int .u32 i11), (9, .b16 w20), (10, .int .i64 ((n21 : Nat) : Int)), (11, .int .i64 (r10.getD n21 0)), (32, .own 36001), (33, .int .i64 (((r10).length : Nat) : Int)), (34, .int .i64 ((n21 : Nat) : Int)), (1000000, .elem 32 1 T0F 0 0)], [(3, .cells 22 [vL 1 eW 0#16 l13]), (5, .cells 5 [.int .u8 i15]), (7, .cells 22 [.own 6200]), (5900, bL 28 1 eW 0#16 l16), (6001, .cells 3 [.int .i64 i14]), (6002, .cells 48 [.fn (.func 35) [.ptr 3 0]]), (6200, bL 28 1 eW 0#16 l17), (10003, .cells 48 [.own 70002]), (10004, .cells 22 [.own 5900]), (16001, .cells 28 [.b16 w12]), (36001, bL 3 1 eI 0 r10), (70002, .yld (some ([5, 7], C70002)) n18), (70003, .yld (some ([6002, 10003, 10004], C70003)) n19)], [70003, 3, 5, 7, 6001, 6002, 10003, 10004, 16001, 70002], 30000⟩ ((0 ≤ ((n21 : Nat) : Int) ∧ ((n21 : Nat) : Int) < (((r10).length : Nat) : Int)) ∧ (n21 < (r10).length) ∧ True) Tryd_mixed (by kernel_rfl) ⟨ob7, ob8, trivial⟩ ?_
              refine thenQ_normal ?_
              refine AWp.seq ?_
              obtain ⟨ob9p, h⟩ := chk_some h
              have ob9 : 0 ≤ ((n21 : Nat) : Int) ∧ n21 ≤ IntKind.bits .u32 := ⟨by omega, ob9p⟩
              refine AWp.regC [57] [] [2, 7, 8, 9, 11, 32, 33, 34, 43, 1000000] [3, 5, 7, 5900, 6001, 6002, 6200, 10003, 10004, 16001, 36001, 70002, 70003] ⟨70, [(2, .own 70003), (7, .own 36001), (8, .int .u32 i11), (9, .b16 w20), (11, .int .i64 (r10.getD n21 0)), (32, .own 36001), (33, .int .i64 (((r10).length : Nat) : Int)), (34, .int .i64 ((n21 : Nat) : Int)), (43, .bool ((bitsI .and .u32 (i11 / 2 ^ n21) (1 : Int)) == (1 : Int))), (1000000, .elem 32 1 T0F 0 0)], [(3, .cells 22 [vL 1 eW 0#16 l13]), (5, .cells 5 [.int .u8 i15]), (7, .cells 22 [.own 6200]), (5900, bL 28 1 eW 0#16 l16), (6001, .cells 3 [.int .i64 i14]), (6002, .cells 48 [.fn (.func 35) [.ptr 3 0]]), (6200, bL 28 1 eW 0#16 l17), (10003, .cells 48 [.own 70002]), (10004, .cells 22 [.own 5900]), (16001, .cells 28 [.b16 w12]), (36001, bL 3 1 eI 0 r10), (70002, .yld (some ([5, 7], C70002)) n18), (70003, .yld (some ([6002, 10003, 10004], C70003)) n19)], [70003, 3, 5, 7, 6001, 6002, 10003, 10004, 16001, 70002], 30000⟩ ((0 ≤ ((n21 : Nat) : Int) ∧ n21 ≤ IntKind.bits .u32) ∧ True) Tryd_mixed (by kernel_rfl) ⟨ob9, trivial⟩ ?_
              refine thenQ_normal ?_
              refine AWp.cond (b := ((bitsI .and .u32 (i11 / 2 ^ n21) (1 : Int)) == (1 : Int))) (by kernel_rfl) (fun hc4 => ?_) (fun hc4 => ?_)
              ·
                replace h := ite_tb hc4 h
                obtain ⟨ob10, h⟩ := chk_some h
                refine AWp.regC [57] [] [2, 7, 8, 9, 32, 33, 34, 1000000] [3, 5, 7, 5900, 6001, 6002, 6200, 10003, 10004, 16001, 36001, 70002, 70003] ⟨70, [(2, .own 70003), (7, .own 36001), (8, .int .u32 i11), (9, .b16 (w20 ||| ((BitVec.ofInt 16 1) <<< (((r10.getD n21 0)).toNat)))), (32, .own 36001), (33, .int .i64 (((r10).length : Nat) : Int)), (34, .int .i64 ((n21 : Nat) : Int)), (1000000, .elem 32 1 T0F 0 0)], [(3, .cells 22 [vL 1 eW 0#16 l13]), (5, .cells 5 [.int .u8 i15]), (7, .cells 22 [.own 6200]), (5900, bL 28 1 eW 0#16 l16), (6001, .cells 3 [.int .i64 i14]), (6002, .cells 48 [.fn (.func 35) [.ptr 3 0]]), (6200, bL 28 1 eW 0#16 l17), (10003, .cells 48 [.own 70002]), (10004, .cells 22 [.own 5900]), (16001, .cells 28 [.b16 w12]), (36001, bL 3 1 eI 0 r10), (70002, .yld (some ([5, 7], C70002)) n18), (70003, .yld (some ([6002, 10003, 10004], C70003)) n19)], [70003, 3, 5, 7, 6001, 6002, 10003, 10004, 16001, 70002], 30000⟩ ((0 ≤ (r10.getD n21 0)) ∧ True) Tryd_mixed (by kernel_rfl) ⟨ob10, trivial⟩ ?_
                refine blockQ_normal ?_
                exact joinQ_normal ((w20 ||| ((BitVec.ofInt 16 1) <<< (((r10.getD n21 0)).toNat)))) (Le.mk (s := ⟨70, [(2, .own 70003), (7, .own 36001), (8, .int .u32 i11), (9, .b16 (w20 ||| ((BitVec.ofInt 16 1) <<< (((r10.getD n21 0)).toNat)))), (32, .own 36001), (33, .int .i64 (((r10).length : Nat) : Int)), (34, .int .i64 ((n21 : Nat) : Int)), (1000000, .elem 32 1 T0F 0 0)], [(3, .cells 22 [vL 1 eW 0#16 l13]), (5, .cells 5 [.int .u8 i15]), (7, .cells 22 [.own 6200]), (5900, bL 28 1 eW 0#16 l16), (6001, .cells 3 [.int .i64 i14]), (6002, .cells 48 [.fn (.func 35) [.ptr 3 0]]), (6200, bL 28 1 eW 0#16 l17), (10003, .cells 48 [.own 70002]), (10004, .cells 22 [.own 5900]), (16001, .cells 28 [.b16 w12]), (36001, bL 3 1 eI 0 r10), (70002, .yld (some ([5, 7], C70002)) n18), (70003, .yld (some ([6002, 10003, 10004], C70003)) n19)], [70003, 3, 5, 7, 6001, 6002, 10003, 10004, 16001, 70002], 30000⟩) (s' := ⟨70, [(2, .own 70003), (7, .own 36001), (8, .int .u32 i11), (9, .b16 (w20 ||| ((BitVec.ofInt 16 1) <<< (((r10.getD n21 0)).toNat)))), (32, .own 36001), (33, .int .i64 (((r10).length : Nat) : Int)), (34, .int .i64 ((n21 : Nat) : Int)), (1000000, .elem 32 1 T0F 0 0)], [(3, .cells 22 [vL 1 eW 0#16 l13]), (5, .cells 5 [.int .u8 i15]), (7, .cells 22 [.own 6200]), (5900, bL 28 1 eW 0#16 l16), (6001, .cells 3 [.int .i64 i14]), (6002, .cells 48 [.fn (.func 35) [.ptr 3 0]]), (6200, bL 28 1 eW 0#16 l17), (10003, .cells 48 [.own 70002]), (10004, .cells 22 [.own 5900]), (16001, .cells 28 [.b16 w12]), (36001, bL 3 1 eI 0 r10), (70002, .yld (some ([5, 7], C70002)) n18), (70003, .yld (some ([6002, 10003, 10004], C70003)) n19)], [70003, 3, 5, 7, 6001, 6002, 10003, 10004, 16001, 70002], 30000⟩) rfl rfl ⟨.refl _, .refl _, .refl _, .refl _, .refl _, .refl _, .refl _, .refl _, trivial⟩ ⟨⟨_, rfl, .refl _⟩, ⟨_, rfl, .refl _⟩, ⟨_, rfl, .refl _⟩, ⟨_, rfl, .refl _⟩, ⟨_, rfl, .refl _⟩, ⟨_, rfl, .refl _⟩, ⟨_, rfl, .refl _⟩, ⟨_, rfl, .refl _⟩, ⟨_, rfl, .refl _⟩, ⟨_, rfl, .refl _⟩, ⟨_, rfl, .refl _⟩, ⟨_, rfl, .refl _⟩, ⟨_, rfl, .refl _⟩, trivial⟩) h
              ·
                replace h := ite_fb hc4 h
                refine AWp.skip ?_
                refine blockQ_normal ?_
                exact joinQ_normal (w20) (Le.mk (s := ⟨70, [(2, .own 70003), (7, .own 36001), (8, .int .u32 i11), (9, .b16 w20), (11, .int .i64 (r10.getD n21 0)), (32, .own 36001), (33, .int .i64 (((r10).length : Nat) : Int)), (34, .int .i64 ((n21 : Nat) : Int)), (43, .bool ((bitsI .and .u32 (i11 / 2 ^ n21) (1 : Int)) == (1 : Int))), (1000000, .elem 32 1 T0F 0 0)], [(3, .cells 22 [vL 1 eW 0#16 l13]), (5, .cells 5 [.int .u8 i15]), (7, .cells 22 [.own 6200]), (5900, bL 28 1 eW 0#16 l16), (6001, .cells 3 [.int .i64 i14]), (6002, .cells 48 [.fn (.func 35) [.ptr 3 0]]), (6200, bL 28 1 eW 0#16 l17), (10003, .cells 48 [.own 70002]), (10004, .cells 22 [.own 5900]), (16001, .cells 28 [.b16 w12]), (36001, bL 3 1 eI 0 r10), (70002, .yld (some ([5, 7], C70002)) n18), (70003, .yld (some ([6002, 10003, 10004], C70003)) n19)], [70003, 3, 5, 7, 6001, 6002, 10003, 10004, 16001, 70002], 30000⟩) (s' := ⟨70, [(2, .own 70003), (7, .own 36001), (8, .int .u32 i11), (9, .b16 w20), (32, .own 36001), (33, .int .i64 (((r10).length : Nat) : Int)), (34, .int .i64 ((n21 : Nat) : Int)), (1000000, .elem 32 1 T0F 0 0)], [(3, .cells 22 [vL 1 eW 0#16 l13]), (5, .cells 5 [.int .u8 i15]), (7, .cells 22 [.own 6200]), (5900, bL 28 1 eW 0#16 l16), (6001, .cells 3 [.int .i64 i14]), (6002, .cells 48 [.fn (.func 35) [.ptr 3 0]]), (6200, bL 28 1 eW 0#16 l17), (10003, .cells 48 [.own 70002]), (10004, .cells 22 [.own 5900]), (16001, .cells 28 [.b16 w12]), (36001, bL 3 1 eI 0 r10), (70002, .yld (some ([5, 7], C70002)) n18), (70003, .yld (some ([6002, 10003, 10004], C70003)) n19)], [70003, 3, 5, 7, 6001, 6002, 10003, 10004, 16001, 70002], 30000⟩) rfl rfl ⟨.refl _, .refl _, .refl _, .refl _, .refl _, .refl _, .refl _, .refl _, trivial⟩ ⟨⟨_, rfl, .refl _⟩, ⟨_, rfl, .refl _⟩, ⟨_, rfl, .refl _⟩, ⟨_, rfl, .refl _⟩, ⟨_, rfl, .refl _⟩, ⟨_, rfl, .refl _⟩, ⟨_, rfl, .refl _⟩, ⟨_, rfl, .refl _⟩, ⟨_, rfl, .refl _⟩, ⟨_, rfl, .refl _⟩, ⟨_, rfl, .refl _⟩, ⟨_, rfl, .refl _⟩, ⟨_, rfl, .refl _⟩, trivial⟩) h
            ·
              rintro w22 h
              replace h := (congrFun hK3 _).symm.trans h
              obtain ⟨ob11p, h⟩ := chk_some h
              have ob11 : -9223372036854775808 ≤ (((n21 : Nat) : Int) + (1 : Int)) ∧ (((n21 : Nat) : Int) + (1 : Int)) ≤ 9223372036854775807 := ⟨by omega, ob11p⟩
              refine AWp.regC [57] [] [2, 7, 8, 9, 32, 33, 34, 1000000] [3, 5, 7, 5900, 6001, 6002, 6200, 10003, 10004, 16001, 36001, 70002, 70003] ⟨70, [(2, .own 70003), (7, .own 36001), (8, .int .u32 i11), (9, .b16 w22), (32, .own 36001), (33, .int .i64 (((r10).length : Nat) : Int)), (34, .int .i64 (((n21 + 1) : Nat) : Int)), (1000000, .elem 32 1 T0F 0 0)], [(3, .cells 22 [vL 1 eW 0#16 l13]), (5, .cells 5 [.int .u8 i15]), (7, .cells 22 [.own 6200]), (5900, bL 28 1 eW 0#16 l16), (6001, .cells 3 [.int .i64 i14]), (6002, .cells 48 [.fn (.func 35) [.ptr 3 0]]), (6200, bL 28 1 eW 0#16 l17), (10003, .cells 48 [.own 70002]), (10004, .cells 22 [.own 5900]), (16001, .cells 28 [.b16 w12]), (36001, bL 3 1 eI 0 r10), (70002, .yld (some ([5, 7], C70002)) n18), (70003, .yld (some ([6002, 10003, 10004], C70003)) n19)], [70003, 3, 5, 7, 6001, 6002, 10003, 10004, 16001, 70002], 30000⟩ ((-9223372036854775808 ≤ (((n21 : Nat) : Int) + (1 : Int)) ∧ (((n21 : Nat) : Int) + (1 : Int)) ≤ 9223372036854775807) ∧ True) Tryd_mixed (by kernel_rfl) ⟨ob11, trivial⟩ ?_
              rw [hC1] at h
              exact loopQ_normal (_, w22, (n21 + 1)) (Le.mk (s := ⟨70, [(2, .own 70003), (7, .own 36001), (8, .int .u32 i11), (9, .b16 w22), (32, .own 36001), (33, .int .i64 (((r10).length : Nat) : Int)), (34, .int .i64 (((n21 + 1) : Nat) : Int)), (1000000, .elem 32 1 T0F 0 0)], [(3, .cells 22 [vL 1 eW 0#16 l13]), (5, .cells 5 [.int .u8 i15]), (7, .cells 22 [.own 6200]), (5900, bL 28 1 eW 0#16 l16), (6001, .cells 3 [.int .i64 i14]), (6002, .cells 48 [.fn (.func 35) [.ptr 3 0]]), (6200, bL 28 1 eW 0#16 l17), (10003, .cells 48 [.own 70002]), (10004, .cells 22 [.own 5900]), (16001, .cells 28 [.b16 w12]), (36001, bL 3 1 eI 0 r10), (70002, .yld (some ([5, 7], C70002)) n18), (70003, .yld (some ([6002, 10003, 10004], C70003)) n19)], [70003, 3, 5, 7, 6001, 6002, 10003, 10004, 16001, 70002], 30000⟩) (s' := ⟨70, [(2, .own 70003), (7, .own 36001), (8, .int .u32 i11), (9, .b16 w22), (32, .own 36001), (33, .int .i64 (((r10).length : Nat) : Int)), (34, .int .i64 (((n21 + 1) : Nat) : Int)), (1000000, .elem 32 1 T0F 0 0)], [(3, .cells 22 [vL 1 eW 0#16 l13]), (5, .cells 5 [.int .u8 i15]), (7, .cells 22 [.own 6200]), (5900, bL 28 1 eW 0#16 l16), (6001, .cells 3 [.int .i64 i14]), (6002, .cells 48 [.fn (.func 35) [.ptr 3 0]]), (6200, bL 28 1 eW 0#16 l17), (10003, .cells 48 [.own 70002]), (10004, .cells 22 [.own 5900]), (16001, .cells 28 [.b16 w12]), (36001, bL 3 1 eI 0 r10), (70002, .yld (some ([5, 7], C70002)) n18), (70003, .yld (some ([6002, 10003, 10004], C70003)) n19)], [70003, 3, 5, 7, 6001, 6002, 10003, 10004, 16001, 70002], 30000⟩) rfl rfl ⟨.refl _, .refl _, .refl _, .refl _, .refl _, .refl _, .refl _, .refl _, trivial⟩ ⟨⟨_, rfl, .refl _⟩, ⟨_, rfl, .refl _⟩, ⟨_, rfl, .refl _⟩, ⟨_, rfl, .refl _⟩, ⟨_, rfl, .refl _⟩, ⟨_, rfl, .refl _⟩, ⟨_, rfl, .refl _⟩, ⟨_, rfl, .refl _⟩, ⟨_, rfl, .refl _⟩, ⟨_, rfl, .refl _⟩, ⟨_, rfl, .refl _⟩, ⟨_, rfl, .refl _⟩, ⟨_, rfl, .refl _⟩, trivial⟩) h (Nat.lt_succ_self _)
          ·
            replace h := ite_fb hc3 h
            refine AWp.exit ?_
            refine thenQ_exit ?_
            refine thenQ_exit ?_
            refine blockQ_same ?_
            exact joinQ_normal (w20) (Le.mk (s := ⟨70, [(2, .own 70003), (7, .own 36001), (8, .int .u32 i11), (9, .b16 w20), (32, .own 36001), (33, .int .i64 (((r10).length : Nat) : Int)), (34, .int .i64 ((n21 : Nat) : Int)), (35, .bool (decide (((n21 : Nat) : Int) < (((r10).length : Nat) : Int)))), (1000000, .elem 32 1 T0F 0 0)], [(3, .cells 22 [vL 1 eW 0#16 l13]), (5, .cells 5 [.int .u8 i15]), (7, .cells 22 [.own 6200]), (5900, bL 28 1 eW 0#16 l16), (6001, .cells 3 [.int .i64 i14]), (6002, .cells 48 [.fn (.func 35) [.ptr 3 0]]), (6200, bL 28 1 eW 0#16 l17), (10003, .cells 48 [.own 70002]), (10004, .cells 22 [.own 5900]), (16001, .cells 28 [.b16 w12]), (36001, bL 3 1 eI 0 r10), (70002, .yld (some ([5, 7], C70002)) n18), (70003, .yld (some ([6002, 10003, 10004], C70003)) n19)], [70003, 3, 5, 7, 6001, 6002, 10003, 10004, 16001, 70002], 30000⟩) (s' := ⟨70, [(2, .own 70003), (7, .own 36001), (8, .int .u32 i11), (9, .b16 w20), (1000000, .elem 32 1 T0F 0 0)], [(3, .cells 22 [vL 1 eW 0#16 l13]), (5, .cells 5 [.int .u8 i15]), (7, .cells 22 [.own 6200]), (5900, bL 28 1 eW 0#16 l16), (6001, .cells 3 [.int .i64 i14]), (6002, .cells 48 [.fn (.func 35) [.ptr 3 0]]), (6200, bL 28 1 eW 0#16 l17), (10003, .cells 48 [.own 70002]), (10004, .cells 22 [.own 5900]), (16001, .cells 28 [.b16 w12]), (36001, bL 3 1 eI 0 r10), (70002, .yld (some ([5, 7], C70002)) n18), (70003, .yld (some ([6002, 10003, 10004], C70003)) n19)], [70003, 3, 5, 7, 6001, 6002, 10003, 10004, 16001, 70002], 30000⟩) rfl rfl ⟨.refl _, .refl _, .refl _, .refl _, .refl _, trivial⟩ ⟨⟨_, rfl, .refl _⟩, ⟨_, rfl, .refl _⟩, ⟨_, rfl, .refl _⟩, ⟨_, rfl, .refl _⟩, ⟨_, rfl, .refl _⟩, ⟨_, rfl, .refl _⟩, ⟨_, rfl, .refl _⟩, ⟨_, rfl, .refl _⟩, ⟨_, rfl, .refl _⟩, ⟨_, rfl, .refl _⟩, ⟨_, rfl, .refl _⟩, ⟨_, rfl, .refl _⟩, ⟨_, rfl, .refl _⟩, trivial⟩) h
        ·
          rintro w23 h
          replace h := (congrFun hK2 _).symm.trans h
          obtain ⟨K4, hK4, h⟩ := jn_some h
          refine AWp.join (α := BitVec 16 × List (BitVec 16) × Int × Int × List (BitVec 16) × List (BitVec 16) × Nat × Nat) (fun (x : BitVec 16 × List (BitVec 16) × Int × Int × List (BitVec 16) × List (BitVec 16) × Nat × Nat) => match x with | (w25, l26, i27, i28, l29, l30, n31, n32) => ⟨70, [(2, .own 70003), (7, .own 36001), (8, .int .u32 i11), (1000000, .elem 32 1 T0F 0 0)], [(3, .cells 22 [vL 1 eW 0#16 l26]), (5, .cells 5 [.int .u8 i28]), (7, .cells 22 [.own 6200]), (5900, bL 28 1 eW 0#16 l29), (6001, .cells 3 [.int .i64 i27]), (6002, .cells 48 [.fn (.func 35) [.ptr 3 0]]), (6200, bL 28 1 eW 0#16 l30), (10003, .cells 48 [.own 70002]), (10004, .cells 22 [.own 5900]), (16001, .cells 28 [.b16 w25]), (36001, bL 3 1 eI 0 r10), (70002, .yld (some ([5, 7], C70002)) n31), (70003, .yld (some ([6002, 10003, 10004], C70003)) n32)], [70003, 3, 5, 7, 6001, 6002, 10003, 10004, 16001, 70002], 30000⟩) (fun x => K4 x = some r) ?_ ?_
          ·
            refine AWp.seq ?_
            obtain ⟨hz5, h⟩ := chk_some h
            refine AWp.le (Le.mk (s' := ⟨70, [(2, .own 70003), (7, .own 36001), (8, .int .u32 i11), (9, .b16 w23), (1000000, .elem 32 1 T0F 0 0)], [(3, .cells 22 [vL 1 eW 0#16 l13]), (5, .cells 5 [.int .u8 i15]), (7, .cells 22 [.own 6200]), (5900, bL 28 1 eW 0#16 l16), (6001, .cells 3 [.int .i64 i14]), (6002, .cells 48 [.fn (.func 35) [.ptr 3 0]]), (6200, bL 28 1 eW 0#16 l17), (10003, .cells 48 [.own 70002]), (10004, .cells 22 [.own 5900]), (16001, .cells 28 [.b16 w12]), (36001, bL 3 1 eI 0 r10), (70002, .yld (some ([5, 7], C70002)) n18), (70003, .yld (some ([6002, 10003, 10004], C70003)) 0)], [70003, 3, 5, 7, 6001, 6002, 10003, 10004, 16001, 70002], 30000⟩) rfl rfl ⟨.refl _, .refl _, .refl _, .refl _, .refl _, trivial⟩ ⟨⟨_, rfl, .refl _⟩, ⟨_, rfl, .refl _⟩, ⟨_, rfl, .refl _⟩, ⟨_, rfl, .refl _⟩, ⟨_, rfl, .refl _⟩, ⟨_, rfl, .refl _⟩, ⟨_, rfl, .refl _⟩, ⟨_, rfl, .refl _⟩, ⟨_, rfl, .refl _⟩, ⟨_, rfl, .refl _⟩, ⟨_, rfl, .refl _⟩, ⟨_, rfl, .refl _⟩, ⟨_, rfl, BLe.yldEq hz5⟩, trivial⟩) ?_
            obtain ⟨r24, hr24, h⟩ := bind_ok h
            by_cases hy_r24 : r24.1 = 0
            ·
              replace h := ite_t hy_r24 h
              refine AWp.regC [57] [(2, ⟨[.b16 w23], [70003, 3, 5, 7, 5900, 6001, 6002, 6200, 10003, 10004, 16001, 70002], [3, 5, 7, 6001, 6002, 10003, 10004, 16001, 70002], [(70003, .yld (some ([6002, 10003, 10004], C70003)) 0), (3, .cells 22 [vL 1 eW 0#16 r24.2.1]), (5, .cells 5 [.int .u8 r24.2.2.1]), (7, .cells 22 [.own 6200]), (5900, bL 28 1 eW 0#16 r24.2.2.2.1), (6001, .cells 3 [.int .i64 r24.2.2.2.2.1]), (6002, .cells 48 [.fn (.func 35) [.ptr 3 0]]), (6200, bL 28 1 eW 0#16 r24.2.2.2.2.2.1), (10003, .cells 48 [.own 70002]), (10004, .cells 22 [.own 5900]), (16001, .cells 28 [.b16 r24.2.2.2.2.2.2.1]), (70002, .yld (some ([5, 7], C70002)) r24.2.2.2.2.2.2.2)], .bool true, [5900, 6200], [], []⟩)] [2, 7, 8, 52, 1000000] [3, 5, 7, 5900, 6001, 6002, 6200, 10003, 10004, 16001, 36001, 70002, 70003] ⟨70, [(2, .own 70003), (7, .own 36001), (8, .int .u32 i11), (52, .bool (!true)), (1000000, .elem 32 1 T0F 0 0)], [(3, .cells 22 [vL 1 eW 0#16 r24.2.1]), (5, .cells 5 [.int .u8 r24.2.2.1]), (7, .cells 22 [.own 6200]), (5900, bL 28 1 eW 0#16 r24.2.2.2.1), (6001, .cells 3 [.int .i64 r24.2.2.2.2.1]), (6002, .cells 48 [.fn (.func 35) [.ptr 3 0]]), (6200, bL 28 1 eW 0#16 r24.2.2.2.2.2.1), (10003, .cells 48 [.own 70002]), (10004, .cells 22 [.own 5900]), (16001, .cells 28 [.b16 r24.2.2.2.2.2.2.1]), (36001, bL 3 1 eI 0 r10), (70002, .yld (some ([5, 7], C70002)) r24.2.2.2.2.2.2.2), (70003, .yld (some ([6002, 10003, 10004], C70003)) 0)], [70003, 3, 5, 7, 6001, 6002, 10003, 10004, 16001, 70002], 30000⟩ ((([(70003, .yld (some ([6002, 10003, 10004], C70003)) 0), (3, .cells 22 [vL 1 eW 0#16 r24.2.1]), (5, .cells 5 [.int .u8 r24.2.2.1]), (7, .cells 22 [.own 6200]), (5900, bL 28 1 eW 0#16 r24.2.2.2.1), (6001, .cells 3 [.int .i64 r24.2.2.2.2.1]), (6002, .cells 48 [.fn (.func 35) [.ptr 3 0]]), (6200, bL 28 1 eW 0#16 r24.2.2.2.2.2.1), (10003, .cells 48 [.own 70002]), (10004, .cells 22 [.own 5900]), (16001, .cells 28 [.b16 r24.2.2.2.2.2.2.1]), (70002, .yld (some ([5, 7], C70002)) r24.2.2.2.2.2.2.2)] : Heap) = (70003, .yld (some ([6002, 10003, 10004], C70003)) 0) :: [(3, .cells 22 [vL 1 eW 0#16 r24.2.1]), (5, .cells 5 [.int .u8 r24.2.2.1]), (7, .cells 22 [.own 6200]), (5900, bL 28 1 eW 0#16 r24.2.2.2.1), (6001, .cells 3 [.int .i64 r24.2.2.2.2.1]), (6002, .cells 48 [.fn (.func 35) [.ptr 3 0]]), (6200, bL 28 1 eW 0#16 r24.2.2.2.2.2.1), (10003, .cells 48 [.own 70002]), (10004, .cells 22 [.own 5900]), (16001, .cells 28 [.b16 r24.2.2.2.2.2.2.1]), (70002, .yld (some ([5, 7], C70002)) r24.2.2.2.2.2.2.2)] ∧ V.bool true = V.bool (0 == 0) ∧ YSpec Tryd.prog 70003 [6002, 10003, 10004] C70003 [3, 5, 7, 6001, 6002, 10003, 10004, 16001, 70002] [(3, .cells 22 [vL 1 eW 0#16 l13]), (5, .cells 5 [.int .u8 i15]), (7, .cells 22 [.own 6200]), (5900, bL 28 1 eW 0#16 l16), (6001, .cells 3 [.int .i64 i14]), (6002, .cells 48 [.fn (.func 35) [.ptr 3 0]]), (6200, bL 28 1 eW 0#16 l17), (10003, .cells 48 [.own 70002]), (10004, .cells 22 [.own 5900]), (16001, .cells 28 [.b16 w12]), (70002, .yld (some ([5, 7], C70002)) n18)] [.b16 w23] 0 [(3, .cells 22 [vL 1 eW 0#16 r24.2.1]), (5, .cells 5 [.int .u8 r24.2.2.1]), (7, .cells 22 [.own 6200]), (5900, bL 28 1 eW 0#16 r24.2.2.2.1), (6001, .cells 3 [.int .i64 r24.2.2.2.2.1]), (6002, .cells 48 [.fn (.func 35) [.ptr 3 0]]), (6200, bL 28 1 eW 0#16 r24.2.2.2.2.2.1), (10003, .cells 48 [.own 70002]), (10004, .cells 22 [.own 5900]), (16001, .cells 28 [.b16 r24.2.2.2.2.2.2.1]), (70002, .yld (some ([5, 7], C70002)) r24.2.2.2.2.2.2.2)] ∧ VLes [.b16 w23] [.b16 w23]) ∧ True) Tryd_mixed (by kernel_rfl) ⟨⟨rfl, rfl, (YSpec.zero (hY70003 _ _ r24 hr24) hy_r24), ⟨.refl _, trivial⟩⟩, trivial⟩ ?_
              refine thenQ_normal ?_
              refine AWp.cond (b := (!true)) (by kernel_rfl) (fun hc7 => ?_) (fun hc7 => ?_)
              ·
                replace h := ite_tb hc7 h
                refine AWp.seq ?_
                refine AWp.regC [57] [] [6, 1000000] [3, 5, 7, 5900, 6001, 6002, 6200, 10003, 10004, 16001, 70002, 70003] ⟨70, [(6, .bool false), (1000000, .elem 32 1 T0F 0 0)], [(3, .cells 22 [vL 1 eW 0#16 r24.2.1]), (5, .cells 5 [.int .u8 r24.2.2.1]), (7, .cells 22 [.own 6200]), (5900, bL 28 1 eW 0#16 r24.2.2.2.1), (6001, .cells 3 [.int .i64 r24.2.2.2.2.1]), (6002, .cells 48 [.fn (.func 35) [.ptr 3 0]]), (6200, bL 28 1 eW 0#16 r24.2.2.2.2.2.1), (10003, .cells 48 [.own 70002]), (10004, .cells 22 [.own 5900]), (16001, .cells 28 [.b16 r24.2.2.2.2.2.2.1]), (70002, .yld (some ([5, 7], C70002)) r24.2.2.2.2.2.2.2), (70003, .yld (some ([6002, 10003, 10004], C70003)) 0)], [70003, 3, 5, 7, 6001, 6002, 10003, 10004, 16001, 70002], 30000⟩ (True) Tryd_mixed (by kernel_rfl) trivial ?_
                refine thenQ_normal ?_
                have hret := Option.some.inj h
                subst hret
                refine AWp.le (Le.mk (s := ⟨70, [(6, .bool false), (1000000, .elem 32 1 T0F 0 0)], [(3, .cells 22 [vL 1 eW 0#16 r24.2.1]), (5, .cells 5 [.int .u8 r24.2.2.1]), (7, .cells 22 [.own 6200]), (5900, bL 28 1 eW 0#16 r24.2.2.2.1), (6001, .cells 3 [.int .i64 r24.2.2.2.2.1]), (6002, .cells 48 [.fn (.func 35) [.ptr 3 0]]), (6200, bL 28 1 eW 0#16 r24.2.2.2.2.2.1), (10003, .cells 48 [.own 70002]), (10004, .cells 22 [.own 5900]), (16001, .cells 28 [.b16 r24.2.2.2.2.2.2.1]), (70002, .yld (some ([5, 7], C70002)) r24.2.2.2.2.2.2.2), (70003, .yld (some ([6002, 10003, 10004], C70003)) 0)], [70003, 3, 5, 7, 6001, 6002, 10003, 10004, 16001, 70002], 30000⟩) (s' := ⟨70, [(6, .bool false)], [(70003, .yld (some ([6002, 10003, 10004], C70003)) 0), (3, .cells 22 [vL 1 eW 0#16 r24.2.1]), (5, .cells 5 [.int .u8 r24.2.2.1]), (7, .cells 22 [.own 6200]), (5900, bL 28 1 eW 0#16 r24.2.2.2.1), (6001, .cells 3 [.int .i64 r24.2.2.2.2.1]), (6002, .cells 48 [.fn (.func 35) [.ptr 3 0]]), (6200, bL 28 1 eW 0#16 r24.2.2.2.2.2.1), (10003, .cells 48 [.own 70002]), (10004, .cells 22 [.own 5900]), (16001, .cells 28 [.b16 r24.2.2.2.2.2.2.1]), (70002, .yld (some ([5, 7], C70002)) r24.2.2.2.2.2.2.2)], [70003, 3, 5, 7, 6001, 6002, 10003, 10004, 16001, 70002], 30000⟩) rfl rfl ⟨.refl _, trivial⟩ ⟨⟨_, rfl, .refl _⟩, ⟨_, rfl, .refl _⟩, ⟨_, rfl, .refl _⟩, ⟨_, rfl, .refl _⟩, ⟨_, rfl, .refl _⟩, ⟨_, rfl, .refl _⟩, ⟨_, rfl, .refl _⟩, ⟨_, rfl, .refl _⟩, ⟨_, rfl, .refl _⟩, ⟨_, rfl, .refl _⟩, ⟨_, rfl, .refl _⟩, ⟨_, rfl, .refl _⟩, trivial⟩) ?_
                refine AWp.ret ?_
                refine joinQ_ret ?_
                refine blockQ_ret ?_
                refine thenQ_ret ?_
                refine blockQ_ret ?_
                refine joinQ_ret ?_
                exact bodyQ_ret _ rfl ⟨rfl, rfl⟩ rfl
              ·
                replace h := ite_fb hc7 h
                refine AWp.skip ?_
                exact joinQ_normal (r24.2.2.2.2.2.2.1, r24.2.1, r24.2.2.2.2.1, r24.2.2.1, r24.2.2.2.1, r24.2.2.2.2.2.1, r24.2.2.2.2.2.2.2, 0) (Le.mk (s := ⟨70, [(2, .own 70003), (7, .own 36001), (8, .int .u32 i11), (52, .bool (!true)), (1000000, .elem 32 1 T0F 0 0)], [(3, .cells 22 [vL 1 eW 0#16 r24.2.1]), (5, .cells 5 [.int .u8 r24.2.2.1]), (7, .cells 22 [.own 6200]), (5900, bL 28 1 eW 0#16 r24.2.2.2.1), (6001, .cells 3 [.int .i64 r24.2.2.2.2.1]), (6002, .cells 48 [.fn (.func 35) [.ptr 3 0]]), (6200, bL 28 1 eW 0#16 r24.2.2.2.2.2.1), (10003, .cells 48 [.own 70002]), (10004, .cells 22 [.own 5900]), (16001, .cells 28 [.b16 r24.2.2.2.2.2.2.1]), (36001, bL 3 1 eI 0 r10), (70002, .yld (some ([5, 7], C70002)) r24.2.2.2.2.2.2.2), (70003, .yld (some ([6002, 10003, 10004], C70003)) 0)], [70003, 3, 5, 7, 6001, 6002, 10003, 10004, 16001, 70002], 30000⟩) (s' := ⟨70, [(2, .own 70003), (7, .own 36001), (8, .int .u32 i11), (1000000, .elem 32 1 T0F 0 0)], [(3, .cells 22 [vL 1 eW 0#16 r24.2.1]), (5, .cells 5 [.int .u8 r24.2.2.1]), (7, .cells 22 [.own 6200]), (5900, bL 28 1 eW 0#16 r24.2.2.2.1), (6001, .cells 3 [.int .i64 r24.2.2.2.2.1]), (6002, .cells 48 [.fn (.func 35) [.ptr 3 0]]), (6200, bL 28 1 eW 0#16 r24.2.2.2.2.2.1), (10003, .cells 48 [.own 70002]), (10004, .cells 22 [.own 5900]), (16001, .cells 28 [.b16 r24.2.2.2.2.2.2.1]), (36001, bL 3 1 eI 0 r10), (70002, .yld (some ([5, 7], C70002)) r24.2.2.2.2.2.2.2), (70003, .yld (some ([6002, 10003, 10004], C70003)) 0)], [70003, 3, 5, 7, 6001, 6002, 10003, 10004, 16001, 70002], 30000⟩) rfl rfl ⟨.refl _, .refl _, .refl _, .refl _, trivial⟩ ⟨⟨_, rfl, .refl _⟩, ⟨_, rfl, .refl _⟩, ⟨_, rfl, .refl _⟩, ⟨_, rfl, .refl _⟩, ⟨_, rfl, .refl _⟩, ⟨_, rfl, .refl _⟩, ⟨_, rfl, .refl _⟩, ⟨_, rfl, .refl _⟩, ⟨_, rfl, .refl _⟩, ⟨_, rfl, .refl _⟩, ⟨_, rfl, .refl _⟩, ⟨_, rfl, .refl _⟩, ⟨_, rfl, .refl _⟩, trivial⟩) h
            ·
              replace h := ite_f hy_r24 h
              refine AWp.regC [57] [(2, ⟨[.b16 w23], [70003, 3, 5, 7, 5900, 6001, 6002, 6200, 10003, 10004, 16001, 70002], [3, 5, 7, 6001, 6002, 10003, 10004, 16001, 70002], [(70003, .yld (some ([6002, 10003, 10004], C70003)) r24.1), (3, .cells 22 [vL 1 eW 0#16 r24.2.1]), (5, .cells 5 [.int .u8 r24.2.2.1]), (7, .cells 22 [.own 6200]), (5900, bL 28 1 eW 0#16 r24.2.2.2.1), (6001, .cells 3 [.int .i64 r24.2.2.2.2.1]), (6002, .cells 48 [.fn (.func 35) [.ptr 3 0]]), (6200, bL 28 1 eW 0#16 r24.2.2.2.2.2.1), (10003, .cells 48 [.own 70002]), (10004, .cells 22 [.own 5900]), (16001, .cells 28 [.b16 r24.2.2.2.2.2.2.1]), (70002, .yld (some ([5, 7], C70002)) r24.2.2.2.2.2.2.2)], .bool false, [5900, 6200], [], []⟩)] [2, 7, 8, 52, 1000000] [3, 5, 7, 5900, 6001, 6002, 6200, 10003, 10004, 16001, 36001, 70002, 70003] ⟨70, [(2, .own 70003), (7, .own 36001), (8, .int .u32 i11), (52, .bool (!false)), (1000000, .elem 32 1 T0F 0 0)], [(3, .cells 22 [vL 1 eW 0#16 r24.2.1]), (5, .cells 5 [.int .u8 r24.2.2.1]), (7, .cells 22 [.own 6200]), (5900, bL 28 1 eW 0#16 r24.2.2.2.1), (6001, .cells 3 [.int .i64 r24.2.2.2.2.1]), (6002, .cells 48 [.fn (.func 35) [.ptr 3 0]]), (6200, bL 28 1 eW 0#16 r24.2.2.2.2.2.1), (10003, .cells 48 [.own 70002]), (10004, .cells 22 [.own 5900]), (16001, .cells 28 [.b16 r24.2.2.2.2.2.2.1]), (36001, bL 3 1 eI 0 r10), (70002, .yld (some ([5, 7], C70002)) r24.2.2.2.2.2.2.2), (70003, .yld (some ([6002, 10003, 10004], C70003)) r24.1)], [70003, 3, 5, 7, 6001, 6002, 10003, 10004, 16001, 70002], 30000⟩ ((([(70003, .yld (some ([6002, 10003, 10004], C70003)) r24.1), (3, .cells 22 [vL 1 eW 0#16 r24.2.1]), (5, .cells 5 [.int .u8 r24.2.2.1]), (7, .cells 22 [.own 6200]), (5900, bL 28 1 eW 0#16 r24.2.2.2.1), (6001, .cells 3 [.int .i64 r24.2.2.2.2.1]), (6002, .cells 48 [.fn (.func 35) [.ptr 3 0]]), (6200, bL 28 1 eW 0#16 r24.2.2.2.2.2.1), (10003, .cells 48 [.own 70002]), (10004, .cells 22 [.own 5900]), (16001, .cells 28 [.b16 r24.2.2.2.2.2.2.1]), (70002, .yld (some ([5, 7], C70002)) r24.2.2.2.2.2.2.2)] : Heap) = (70003, .yld (some ([6002, 10003, 10004], C70003)) r24.1) :: [(3, .cells 22 [vL 1 eW 0#16 r24.2.1]), (5, .cells 5 [.int .u8 r24.2.2.1]), (7, .cells 22 [.own 6200]), (5900, bL 28 1 eW 0#16 r24.2.2.2.1), (6001, .cells 3 [.int .i64 r24.2.2.2.2.1]), (6002, .cells 48 [.fn (.func 35) [.ptr 3 0]]), (6200, bL 28 1 eW 0#16 r24.2.2.2.2.2.1), (10003, .cells 48 [.own 70002]), (10004, .cells 22 [.own 5900]), (16001, .cells 28 [.b16 r24.2.2.2.2.2.2.1]), (70002, .yld (some ([5, 7], C70002)) r24.2.2.2.2.2.2.2)] ∧ V.bool false = V.bool (r24.1 == 0) ∧ YSpec Tryd.prog 70003 [6002, 10003, 10004] C70003 [3, 5, 7, 6001, 6002, 10003, 10004, 16001, 70002] [(3, .cells 22 [vL 1 eW 0#16 l13]), (5, .cells 5 [.int .u8 i15]), (7, .cells 22 [.own 6200]), (5900, bL 28 1 eW 0#16 l16), (6001, .cells 3 [.int .i64 i14]), (6002, .cells 48 [.fn (.func 35) [.ptr 3 0]]), (6200, bL 28 1 eW 0#16 l17), (10003, .cells 48 [.own 70002]), (10004, .cells 22 [.own 5900]), (16001, .cells 28 [.b16 w12]), (70002, .yld (some ([5, 7], C70002)) n18)] [.b16 w23] r24.1 [(3, .cells 22 [vL 1 eW 0#16 r24.2.1]), (5, .cells 5 [.int .u8 r24.2.2.1]), (7, .cells 22 [.own 6200]), (5900, bL 28 1 eW 0#16 r24.2.2.2.1), (6001, .cells 3 [.int .i64 r24.2.2.2.2.1]), (6002, .cells 48 [.fn (.func 35) [.ptr 3 0]]), (6200, bL 28 1 eW 0#16 r24.2.2.2.2.2.1), (10003, .cells 48 [.own 70002]), (10004, .cells 22 [.own 5900]), (16001, .cells 28 [.b16 r24.2.2.2.2.2.2.1]), (70002, .yld (some ([5, 7], C70002)) r24.2.2.2.2.2.2.2)] ∧ VLes [.b16 w23] [.b16 w23]) ∧ True) Tryd_mixed (by kernel_rfl) ⟨⟨rfl, bool_ne hy_r24, (hY70003 _ _ r24 hr24), ⟨.refl _, trivial⟩⟩, trivial⟩ ?_
              refine thenQ_normal ?_
              refine AWp.cond (b := (!false)) (by kernel_rfl) (fun hc8 => ?_) (fun hc8 => ?_)
              ·
                replace h := ite_tb hc8 h
                refine AWp.seq ?_
                refine AWp.regC [57] [] [6, 1000000] [3, 5, 7, 5900, 6001, 6002, 6200, 10003, 10004, 16001, 70002, 70003] ⟨70, [(6, .bool false), (1000000, .elem 32 1 T0F 0 0)], [(3, .cells 22 [vL 1 eW 0#16 r24.2.1]), (5, .cells 5 [.int .u8 r24.2.2.1]), (7, .cells 22 [.own 6200]), (5900, bL 28 1 eW 0#16 r24.2.2.2.1), (6001, .cells 3 [.int .i64 r24.2.2.2.2.1]), (6002, .cells 48 [.fn (.func 35) [.ptr 3 0]]), (6200, bL 28 1 eW 0#16 r24.2.2.2.2.2.1), (10003, .cells 48 [.own 70002]), (10004, .cells 22 [.own 5900]), (16001, .cells 28 [.b16 r24.2.2.2.2.2.2.1]), (70002, .yld (some ([5, 7], C70002)) r24.2.2.2.2.2.2.2), (70003, .yld (some ([6002, 10003, 10004], C70003)) r24.1)], [70003, 3, 5, 7, 6001, 6002, 10003, 10004, 16001, 70002], 30000⟩ (True) Tryd_mixed (by kernel_rfl) trivial ?_
                refine thenQ_normal ?_
                have hret := Option.some.inj h
                subst hret
                refine AWp.le (Le.mk (s := ⟨70, [(6, .bool false), (1000000, .elem 32 1 T0F 0 0)], [(3, .cells 22 [vL 1 eW 0#16 r24.2.1]), (5, .cells 5 [.int .u8 r24.2.2.1]), (7, .cells 22 [.own 6200]), (5900, bL 28 1 eW 0#16 r24.2.2.2.1), (6001, .cells 3 [.int .i64 r24.2.2.2.2.1]), (6002, .cells 48 [.fn (.func 35) [.ptr 3 0]]), (6200, bL 28 1 eW 0#16 r24.2.2.2.2.2.1), (10003, .cells 48 [.own 70002]), (10004, .cells 22 [.own 5900]), (16001, .cells 28 [.b16 r24.2.2.2.2.2.2.1]), (70002, .yld (some ([5, 7], C70002)) r24.2.2.2.2.2.2.2), (70003, .yld (some ([6002, 10003, 10004], C70003)) r24.1)], [70003, 3, 5, 7, 6001, 6002, 10003, 10004, 16001, 70002], 30000⟩) (s' := ⟨70, [(6, .bool false)], [(70003, .yld (some ([6002, 10003, 10004], C70003)) r24.1), (3, .cells 22 [vL 1 eW 0#16 r24.2.1]), (5, .cells 5 [.int .u8 r24.2.2.1]), (7, .cells 22 [.own 6200]), (5900, bL 28 1 eW 0#16 r24.2.2.2.1), (6001, .cells 3 [.int .i64 r24.2.2.2.2.1]), (6002, .cells 48 [.fn (.func 35) [.ptr 3 0]]), (6200, bL 28 1 eW 0#16 r24.2.2.2.2.2.1), (10003, .cells 48 [.own 70002]), (10004, .cells 22 [.own 5900]), (16001, .cells 28 [.b16 r24.2.2.2.2.2.2.1]), (70002, .yld (some ([5, 7], C70002)) r24.2.2.2.2.2.2.2)], [70003, 3, 5, 7, 6001, 6002, 10003, 10004, 16001, 70002], 30000⟩) rfl rfl ⟨.refl _, trivial⟩ ⟨⟨_, rfl, .refl _⟩, ⟨_, rfl, .refl _⟩, ⟨_, rfl, .refl _⟩, ⟨_, rfl, .refl _⟩, ⟨_, rfl, .refl _⟩, ⟨_, rfl, .refl _⟩, ⟨_, rfl, .refl _⟩, ⟨_, rfl, .refl _⟩, ⟨_, rfl, .refl _⟩, ⟨_, rfl, .refl _⟩, ⟨_, rfl, .refl _⟩, ⟨_, rfl, .refl _⟩, trivial⟩) ?_
                refine AWp.ret ?_
                refine joinQ_ret ?_
                refine blockQ_ret ?_
                refine thenQ_ret ?_
                refine blockQ_ret ?_
                refine joinQ_ret ?_
                exact bodyQ_ret _ rfl ⟨rfl, rfl⟩ rfl
              ·
                replace h := ite_fb hc8 h
                refine AWp.skip ?_
                exact joinQ_normal (r24.2.2.2.2.2.2.1, r24.2.1, r24.2.2.2.2.1, r24.2.2.1, r24.2.2.2.1, r24.2.2.2.2.2.1, r24.2.2.2.2.2.2.2, r24.1) (Le.mk (s := ⟨70, [(2, .own 70003), (7, .own 36001), (8, .int .u32 i11), (52, .bool (!false)), (1000000, .elem 32 1 T0F 0 0)], [(3, .cells 22 [vL 1 eW 0#16 r24.2.1]), (5, .cells 5 [.int .u8 r24.2.2.1]), (7, .cells 22 [.own 6200]), (5900, bL 28 1 eW 0#16 r24.2.2.2.1), (6001, .cells 3 [.int .i64 r24.2.2.2.2.1]), (6002, .cells 48 [.fn (.func 35) [.ptr 3 0]]), (6200, bL 28 1 eW 0#16 r24.2.2.2.2.2.1), (10003, .cells 48 [.own 70002]), (10004, .cells 22 [.own 5900]), (16001, .cells 28 [.b16 r24.2.2.2.2.2.2.1]), (36001, bL 3 1 eI 0 r10), (70002, .yld (some ([5, 7], C70002)) r24.2.2.2.2.2.2.2), (70003, .yld (some ([6002, 10003, 10004], C70003)) r24.1)], [70003, 3, 5, 7, 6001, 6002, 10003, 10004, 16001, 70002], 30000⟩) (s' := ⟨70, [(2, .own 70003), (7, .own 36001), (8, .int .u32 i11), (1000000, .elem 32 1 T0F 0 0)], [(3, .cells 22 [vL 1 eW 0#16 r24.2.1]), (5, .cells 5 [.int .u8 r24.2.2.1]), (7, .cells 22 [.own 6200]), (5900, bL 28 1 eW 0#16 r24.2.2.2.1), (6001, .cells 3 [.int .i64 r24.2.2.2.2.1]), (6002, .cells 48 [.fn (.func 35) [.ptr 3 0]]), (6200, bL 28 1 eW 0#16 r24.2.2.2.2.2.1), (10003, .cells 48 [.own 70002]), (10004, .cells 22 [.own 5900]), (16001, .cells 28 [.b16 r24.2.2.2.2.2.2.1]), (36001, bL 3 1 eI 0 r10), (70002, .yld (some ([5, 7], C70002)) r24.2.2.2.2.2.2.2), (70003, .yld (some ([6002, 10003, 10004], C70003)) r24.1)], [70003, 3, 5, 7, 6001, 6002, 10003, 10004, 16001, 70002], 30000⟩) rfl rfl ⟨.refl _, .refl _, .refl _, .refl _, trivial⟩ ⟨⟨_, rfl, .refl _⟩, ⟨_, rfl, .refl _⟩, ⟨_, rfl, .refl _⟩, ⟨_, rfl, .refl _⟩, ⟨_, rfl, .refl _⟩, ⟨_, rfl, .refl _⟩, ⟨_, rfl, .refl _⟩, ⟨_, rfl, .refl _⟩, ⟨_, rfl, .refl _⟩, ⟨_, rfl, .refl _⟩, ⟨_, rfl, .refl _⟩, ⟨_, rfl, .refl _⟩, ⟨_, rfl, .refl _⟩, trivial⟩) h
          ·
            rintro ⟨w25, l26, i27, i28, l29, l30, n31, n32⟩ h
            replace h := (congrFun hK4 _).symm.trans h
            refine AWp.seq ?_
            refine AWp.seq ?_
            refine AWp.regC [57] [] [2, 7, 8, 54, 1000000] [3, 5, 7, 5900, 6001, 6002, 6200, 10003, 10004, 16001, 36001, 70002, 70003] ⟨70, [(2, .own 70003), (7, .own 36001), (8, .int .u32 i11), (54, .bool (i11 == (0 : Int))), (1000000, .elem 32 1 T0F 0 0)], [(3, .cells 22 [vL 1 eW 0#16 l26]), (5, .cells 5 [.int .u8 i28]), (7, .cells 22 [.own 6200]), (5900, bL 28 1 eW 0#16 l29), (6001, .cells 3 [.int .i64 i27]), (6002, .cells 48 [.fn (.func 35) [.ptr 3 0]]), (6200, bL 28 1 eW 0#16 l30), (10003, .cells 48 [.own 70002]), (10004, .cells 22 [.own 5900]), (16001, .cells 28 [.b16 w25]), (36001, bL 3 1 eI 0 r10), (70002, .yld (some ([5, 7], C70002)) n31), (70003, .yld (some ([6002, 10003, 10004], C70003)) n32)], [70003, 3, 5, 7, 6001, 6002, 10003, 10004, 16001, 70002], 30000⟩ (True) Tryd_mixed (by kernel_rfl) trivial ?_
            refine thenQ_normal ?_
            refine AWp.cond (b := (i11 == (0 : Int))) (by kernel_rfl) (fun hc9 => ?_) (fun hc9 => ?_)
            ·
              replace h := ite_tb hc9 h
              refine AWp.exit ?_
              refine thenQ_exit ?_
              refine blockQ_other (by decide) ?_
              refine thenQ_exit ?_
              refine blockQ_same ?_
              exact joinQ_normal (w25, l26, i27, i28, l29, l30, n31, n32) (Le.mk (s := ⟨70, [(2, .own 70003), (7, .own 36001), (8, .int .u32 i11), (54, .bool (i11 == (0 : Int))), (1000000, .elem 32 1 T0F 0 0)], [(3, .cells 22 [vL 1 eW 0#16 l26]), (5, .cells 5 [.int .u8 i28]), (7, .cells 22 [.own 6200]), (5900, bL 28 1 eW 0#16 l29), (6001, .cells 3 [.int .i64 i27]), (6002, .cells 48 [.fn (.func 35) [.ptr 3 0]]), (6200, bL 28 1 eW 0#16 l30), (10003, .cells 48 [.own 70002]), (10004, .cells 22 [.own 5900]), (16001, .cells 28 [.b16 w25]), (36001, bL 3 1 eI 0 r10), (70002, .yld (some ([5, 7], C70002)) n31), (70003, .yld (some ([6002, 10003, 10004], C70003)) n32)], [70003, 3, 5, 7, 6001, 6002, 10003, 10004, 16001, 70002], 30000⟩) (s' := ⟨70, [(1000000, .elem 32 1 T0F 0 0)], [(3, .cells 22 [vL 1 eW 0#16 l26]), (5, .cells 5 [.int .u8 i28]), (7, .cells 22 [.own 6200]), (5900, bL 28 1 eW 0#16 l29), (6001, .cells 3 [.int .i64 i27]), (6002, .cells 48 [.fn (.func 35) [.ptr 3 0]]), (6200, bL 28 1 eW 0#16 l30), (10003, .cells 48 [.own 70002]), (10004, .cells 22 [.own 5900]), (16001, .cells 28 [.b16 w25]), (70002, .yld (some ([5, 7], C70002)) n31), (70003, .yld (some ([6002, 10003, 10004], C70003)) n32)], [70003, 3, 5, 7, 6001, 6002, 10003, 10004, 16001, 70002], 30000⟩) rfl rfl ⟨.refl _, trivial⟩ ⟨⟨_, rfl, .refl _⟩, ⟨_, rfl, .refl _⟩, ⟨_, rfl, .refl _⟩, ⟨_, rfl, .refl _⟩, ⟨_, rfl, .refl _⟩, ⟨_, rfl, .refl _⟩, ⟨_, rfl, .refl _⟩, ⟨_, rfl, .refl _⟩, ⟨_, rfl, .refl _⟩, ⟨_, rfl, .refl _⟩, ⟨_, rfl, .refl _⟩, ⟨_, rfl, .refl _⟩, trivial⟩) h
            ·
              replace h := ite_fb hc9 h
              refine AWp.skip ?_
              refine thenQ_normal ?_
              refine AWp.seq ?_
              refine AWp.regC [57] [] [2, 7, 8, 12, 1000000] [3, 5, 7, 5900, 6001, 6002, 6200, 10003, 10004, 16001, 36001, 70002, 70003] ⟨70, [(2, .own 70003), (7, .own 36001), (8, .int .u32 i11), (12, .int .u32 (bitsI .and .u32 i11 (IntKind.wrap .u32 (0 - i11)))), (1000000, .elem 32 1 T0F 0 0)], [(3, .cells 22 [vL 1 eW 0#16 l26]), (5, .cells 5 [.int .u8 i28]), (7, .cells 22 [.own 6200]), (5900, bL 28 1 eW 0#16 l29), (6001, .cells 3 [.int .i64 i27]), (6002, .cells 48 [.fn (.func 35) [.ptr 3 0]]), (6200, bL 28 1 eW 0#16 l30), (10003, .cells 48 [.own 70002]), (10004, .cells 22 [.own 5900]), (16001, .cells 28 [.b16 w25]), (36001, bL 3 1 eI 0 r10), (70002, .yld (some ([5, 7], C70002)) n31), (70003, .yld (some ([6002, 10003, 10004], C70003)) n32)], [70003, 3, 5, 7, 6001, 6002, 10003, 10004, 16001, 70002], 30000⟩ ((True) ∧ True) Tryd_mixed (by kernel_rfl) ⟨trivial, trivial⟩ ?_
              refine thenQ_normal ?_
              refine AWp.seq ?_
              obtain ⟨ob12, h⟩ := chk_some h
              refine AWp.regC [57] [] [2, 7, 8, 12, 13, 1000000] [3, 5, 7, 5900, 6001, 6002, 6200, 10003, 10004, 16001, 36001, 70002, 70003] ⟨70, [(2, .own 70003), (7, .own 36001), (8, .int .u32 i11), (12, .int .u32 (bitsI .and .u32 i11 (IntKind.wrap .u32 (0 - i11)))), (13, .int .u32 (i11 + (bitsI .and .u32 i11 (IntKind.wrap .u32 (0 - i11))))), (1000000, .elem 32 1 T0F 0 0)], [(3, .cells 22 [vL 1 eW 0#16 l26]), (5, .cells 5 [.int .u8 i28]), (7, .cells 22 [.own 6200]), (5900, bL 28 1 eW 0#16 l29), (6001, .cells 3 [.int .i64 i27]), (6002, .cells 48 [.fn (.func 35) [.ptr 3 0]]), (6200, bL 28 1 eW 0#16 l30), (10003, .cells 48 [.own 70002]), (10004, .cells 22 [.own 5900]), (16001, .cells 28 [.b16 w25]), (36001, bL 3 1 eI 0 r10), (70002, .yld (some ([5, 7], C70002)) n31), (70003, .yld (some ([6002, 10003, 10004], C70003)) n32)], [70003, 3, 5, 7, 6001, 6002, 10003, 10004, 16001, 70002], 30000⟩ ((0 ≤ (i11 + (bitsI .and .u32 i11 (IntKind.wrap .u32 (0 - i11)))) ∧ (i11 + (bitsI .and .u32 i11 (IntKind.wrap .u32 (0 - i11)))) ≤ 4294967295) ∧ True) Tryd_mixed (by kernel_rfl) ⟨ob12, trivial⟩ ?_
              refine thenQ_normal ?_
              obtain ⟨ob13, h⟩ := chk_some h
              obtain ⟨ob14p, h⟩ := chk_some h
              have ob14 : 0 ≤ (2 : Int) ∧ 2 ≤ IntKind.bits .u32 := ⟨by omega, ob14p⟩
              refine AWp.regC [57] [] [2, 7, 8, 1000000] [3, 5, 7, 5900, 6001, 6002, 6200, 10003, 10004, 16001, 36001, 70002, 70003] ⟨70, [(2, .own 70003), (7, .own 36001), (8, .int .u32 (bitsI .or .u32 (i11 + (bitsI .and .u32 i11 (IntKind.wrap .u32 (0 - i11)))) (((bitsI .xor .u32 i11 (i11 + (bitsI .and .u32 i11 (IntKind.wrap .u32 (0 - i11))))) / (bitsI .and .u32 i11 (IntKind.wrap .u32 (0 - i11)))) / 2 ^ 2))), (1000000, .elem 32 1 T0F 0 0)], [(3, .cells 22 [vL 1 eW 0#16 l26]), (5, .cells 5 [.int .u8 i28]), (7, .cells 22 [.own 6200]), (5900, bL 28 1 eW 0#16 l29), (6001, .cells 3 [.int .i64 i27]), (6002, .cells 48 [.fn (.func 35) [.ptr 3 0]]), (6200, bL 28 1 eW 0#16 l30), (10003, .cells 48 [.own 70002]), (10004, .cells 22 [.own 5900]), (16001, .cells 28 [.b16 w25]), (36001, bL 3 1 eI 0 r10), (70002, .yld (some ([5, 7], C70002)) n31), (70003, .yld (some ([6002, 10003, 10004], C70003)) n32)], [70003, 3, 5, 7, 6001, 6002, 10003, 10004, 16001, 70002], 30000⟩ ((0 ≤ (bitsI .xor .u32 i11 (i11 + (bitsI .and .u32 i11 (IntKind.wrap .u32 (0 - i11))))) ∧ 1 ≤ (bitsI .and .u32 i11 (IntKind.wrap .u32 (0 - i11))) ∧ 0 ≤ ((bitsI .xor .u32 i11 (i11 + (bitsI .and .u32 i11 (IntKind.wrap .u32 (0 - i11))))) / (bitsI .and .u32 i11 (IntKind.wrap .u32 (0 - i11)))) ∧ ((bitsI .xor .u32 i11 (i11 + (bitsI .and .u32 i11 (IntKind.wrap .u32 (0 - i11))))) / (bitsI .and .u32 i11 (IntKind.wrap .u32 (0 - i11)))) ≤ 4294967295) ∧ (0 ≤ (2 : Int) ∧ 2 ≤ IntKind.bits .u32) ∧ True) Tryd_mixed (by kernel_rfl) ⟨ob13, ob14, trivial⟩ ?_
              refine blockQ_normal ?_
              rw [hC0] at h
              exact loopQ_normal (_, (bitsI .or .u32 (i11 + (bitsI .and .u32 i11 (IntKind.wrap .u32 (0 - i11)))) (((bitsI .xor .u32 i11 (i11 + (bitsI .and .u32 i11 (IntKind.wrap .u32 (0 - i11))))) / (bitsI .and .u32 i11 (IntKind.wrap .u32 (0 - i11)))) / 2 ^ 2)), w25, l26, i27, i28, l29, l30, n31, n32) (Le.mk (s := ⟨70, [(2, .own 70003), (7, .own 36001), (8, .int .u32 (bitsI .or .u32 (i11 + (bitsI .and .u32 i11 (IntKind.wrap .u32 (0 - i11)))) (((bitsI .xor .u32 i11 (i11 + (bitsI .and .u32 i11 (IntKind.wrap .u32 (0 - i11))))) / (bitsI .and .u32 i11 (IntKind.wrap .u32 (0 - i11)))) / 2 ^ 2))), (1000000, .elem 32 1 T0F 0 0)], [(3, .cells 22 [vL 1 eW 0#16 l26]), (5, .cells 5 [.int .u8 i28]), (7, .cells 22 [.own 6200]), (5900, bL 28 1 eW 0#16 l29), (6001, .cells 3 [.int .i64 i27]), (6002, .cells 48 [.fn (.func 35) [.ptr 3 0]]), (6200, bL 28 1 eW 0#16 l30), (10003, .cells 48 [.own 70002]), (10004, .cells 22 [.own 5900]), (16001, .cells 28 [.b16 w25]), (36001, bL 3 1 eI 0 r10), (70002, .yld (some ([5, 7], C70002)) n31), (70003, .yld (some ([6002, 10003, 10004], C70003)) n32)], [70003, 3, 5, 7, 6001, 6002, 10003, 10004, 16001, 70002], 30000⟩) (s' := ⟨70, [(2, .own 70003), (7, .own 36001), (8, .int .u32 (bitsI .or .u32 (i11 + (bitsI .and .u32 i11 (IntKind.wrap .u32 (0 - i11)))) (((bitsI .xor .u32 i11 (i11 + (bitsI .and .u32 i11 (IntKind.wrap .u32 (0 - i11))))) / (bitsI .and .u32 i11 (IntKind.wrap .u32 (0 - i11)))) / 2 ^ 2))), (1000000, .elem 32 1 T0F 0 0)], [(3, .cells 22 [vL 1 eW 0#16 l26]), (5, .cells 5 [.int .u8 i28]), (7, .cells 22 [.own 6200]), (5900, bL 28 1 eW 0#16 l29), (6001, .cells 3 [.int .i64 i27]), (6002, .cells 48 [.fn (.func 35) [.ptr 3 0]]), (6200, bL 28 1 eW 0#16 l30), (10003, .cells 48 [.own 70002]), (10004, .cells 22 [.own 5900]), (16001, .cells 28 [.b16 w25]), (36001, bL 3 1 eI 0 r10), (70002, .yld (some ([5, 7], C70002)) n31), (70003, .yld (some ([6002, 10003, 10004], C70003)) n32)], [70003, 3, 5, 7, 6001, 6002, 10003, 10004, 16001, 70002], 30000⟩) rfl rfl ⟨.refl _, .refl _, .refl _, .refl _, trivial⟩ ⟨⟨_, rfl, .refl _⟩, ⟨_, rfl, .refl _⟩, ⟨_, rfl, .refl _⟩, ⟨_, rfl, .refl _⟩, ⟨_, rfl, .refl _⟩, ⟨_, rfl, .refl _⟩, ⟨_, rfl, .refl _⟩, ⟨_, rfl, .refl _⟩, ⟨_, rfl, .refl _⟩, ⟨_, rfl, .refl _⟩, ⟨_, rfl, .refl _⟩, ⟨_, rfl, .refl _⟩, ⟨_, rfl, .refl _⟩, trivial⟩) h (Nat.lt_succ_self _)
      ·
        replace h := ite_fb hc2 h
        refine AWp.exit ?_
        refine thenQ_exit ?_
        refine thenQ_exit ?_
        refine blockQ_same ?_
        exact joinQ_normal (w12, l13, i14, i15, l16, l17, n18, n19) (Le.mk (s := ⟨70, [(2, .own 70003), (7, .own 36001), (8, .int .u32 i11), (31, .bool (decide (i11 < ((1 : Int) * 2 ^ ((r10).length))))), (1000000, .elem 32 1 T0F 0 0)], [(3, .cells 22 [vL 1 eW 0#16 l13]), (5, .cells 5 [.int .u8 i15]), (7, .cells 22 [.own 6200]), (5900, bL 28 1 eW 0#16 l16), (6001, .cells 3 [.int .i64 i14]), (6002, .cells 48 [.fn (.func 35) [.ptr 3 0]]), (6200, bL 28 1 eW 0#16 l17), (10003, .cells 48 [.own 70002]), (10004, .cells 22 [.own 5900]), (16001, .cells 28 [.b16 w12]), (36001, bL 3 1 eI 0 r10), (70002, .yld (some ([5, 7], C70002)) n18), (70003, .yld (some ([6002, 10003, 10004], C70003)) n19)], [70003, 3, 5, 7, 6001, 6002, 10003, 10004, 16001, 70002], 30000⟩) (s' := ⟨70, [(1000000, .elem 32 1 T0F 0 0)], [(3, .cells 22 [vL 1 eW 0#16 l13]), (5, .cells 5 [.int .u8 i15]), (7, .cells 22 [.own 6200]), (5900, bL 28 1 eW 0#16 l16), (6001, .cells 3 [.int .i64 i14]), (6002, .cells 48 [.fn (.func 35) [.ptr 3 0]]), (6200, bL 28 1 eW 0#16 l17), (10003, .cells 48 [.own 70002]), (10004, .cells 22 [.own 5900]), (16001, .cells 28 [.b16 w12]), (70002, .yld (some ([5, 7], C70002)) n18), (70003, .yld (some ([6002, 10003, 10004], C70003)) n19)], [70003, 3, 5, 7, 6001, 6002, 10003, 10004, 16001, 70002], 30000⟩) rfl rfl ⟨.refl _, trivial⟩ ⟨⟨_, rfl, .refl _⟩, ⟨_, rfl, .refl _⟩, ⟨_, rfl, .refl _⟩, ⟨_, rfl, .refl _⟩, ⟨_, rfl, .refl _⟩, ⟨_, rfl, .refl _⟩, ⟨_, rfl, .refl _⟩, ⟨_, rfl, .refl _⟩, ⟨_, rfl, .refl _⟩, ⟨_, rfl, .refl _⟩, ⟨_, rfl, .refl _⟩, ⟨_, rfl, .refl _⟩, trivial⟩) h
    ·
      rintro ⟨w24, l25, i26, i27, l28, l29, n30, n31⟩ h
      replace h := (congrFun hK1 _).symm.trans h
      refine AWp.seq ?_
      refine AWp.regC [57] [] [6, 1000000] [3, 5, 7, 5900, 6001, 6002, 6200, 10003, 10004, 16001, 70002, 70003] ⟨70, [(6, .bool true), (1000000, .elem 32 1 T0F 0 0)], [(3, .cells 22 [vL 1 eW 0#16 l25]), (5, .cells 5 [.int .u8 i27]), (7, .cells 22 [.own 6200]), (5900, bL 28 1 eW 0#16 l28), (6001, .cells 3 [.int .i64 i26]), (6002, .cells 48 [.fn (.func 35) [.ptr 3 0]]), (6200, bL 28 1 eW 0#16 l29), (10003, .cells 48 [.own 70002]), (10004, .cells 22 [.own 5900]), (16001, .cells 28 [.b16 w24]), (70002, .yld (some ([5, 7], C70002)) n30), (70003, .yld (some ([6002, 10003, 10004], C70003)) n31)], [70003, 3, 5, 7, 6001, 6002, 10003, 10004, 16001, 70002], 30000⟩ (True) Tryd_mixed (by kernel_rfl) trivial ?_
      refine thenQ_normal ?_
      have hret := Option.some.inj h
      subst hret
      refine AWp.le (Le.mk (s := ⟨70, [(6, .bool true), (1000000, .elem 32 1 T0F 0 0)], [(3, .cells 22 [vL 1 eW 0#16 l25]), (5, .cells 5 [.int .u8 i27]), (7, .cells 22 [.own 6200]), (5900, bL 28 1 eW 0#16 l28), (6001, .cells 3 [.int .i64 i26]), (6002, .cells 48 [.fn (.func 35) [.ptr 3 0]]), (6200, bL 28 1 eW 0#16 l29), (10003, .cells 48 [.own 70002]), (10004, .cells 22 [.own 5900]), (16001, .cells 28 [.b16 w24]), (70002, .yld (some ([5, 7], C70002)) n30), (70003, .yld (some ([6002, 10003, 10004], C70003)) n31)], [70003, 3, 5, 7, 6001, 6002, 10003, 10004, 16001, 70002], 30000⟩) (s' := ⟨70, [(6, .bool true)], [(70003, .yld (some ([6002, 10003, 10004], C70003)) n31), (3, .cells 22 [vL 1 eW 0#16 l25]), (5, .cells 5 [.int .u8 i27]), (7, .cells 22 [.own 6200]), (5900, bL 28 1 eW 0#16 l28), (6001, .cells 3 [.int .i64 i26]), (6002, .cells 48 [.fn (.func 35) [.ptr 3 0]]), (6200, bL 28 1 eW 0#16 l29), (10003, .cells 48 [.own 70002]), (10004, .cells 22 [.own 5900]), (16001, .cells 28 [.b16 w24]), (70002, .yld (some ([5, 7], C70002)) n30)], [70003, 3, 5, 7, 6001, 6002, 10003, 10004, 16001, 70002], 30000⟩) rfl rfl ⟨.refl _, trivial⟩ ⟨⟨_, rfl, .refl _⟩, ⟨_, rfl, .refl _⟩, ⟨_, rfl, .refl _⟩, ⟨_, rfl, .refl _⟩, ⟨_, rfl, .refl _⟩, ⟨_, rfl, .refl _⟩, ⟨_, rfl, .refl _⟩, ⟨_, rfl, .refl _⟩, ⟨_, rfl, .refl _⟩, ⟨_, rfl, .refl _⟩, ⟨_, rfl, .refl _⟩, ⟨_, rfl, .refl _⟩, trivial⟩) ?_
      refine AWp.ret ?_
      exact bodyQ_ret _ rfl ⟨rfl, rfl⟩ rfl
def f74_L0 (Y70003 : (List (BitVec 16) × Int × List (BitVec 16) × Int × List (BitVec 16) × BitVec 16 × Nat) → (BitVec 16) → Option (Nat × (List (BitVec 16) × Int × List (BitVec 16) × Int × List (BitVec 16) × BitVec 16 × Nat))) : Nat → (Nat × BitVec 16 × List (BitVec 16) × Int × Int × List (BitVec 16) × List (BitVec 16) × Nat × Nat) → Option (Nat × List (BitVec 16) × Int × List (BitVec 16) × Int × List (BitVec 16) × BitVec 16 × Nat)
  | 0, _ => none
  | k + 1, (n8, w9, l10, i11, i12, l13, l14, n15, n16) =>
    chk (n16 = 0) <|
    (f64 w9).bind fun (r17 : Int) =>
    if (decide (((n8 : Nat) : Int) ≤ r17)) = true then (
    (f75 Y70003 w9 ((n8 : Nat) : Int) l10 i12 l13 i11 l14 w9 n15).bind fun (r18 : Bool × Nat × List (BitVec 16) × Int × List (BitVec 16) × Int × List (BitVec 16) × BitVec 16 × Nat) =>
    if r18.1 then (
    chk ((((n8 : Nat) : Int) + (1 : Int)) ≤ 9223372036854775807) <|
    (f74_L0 Y70003 k) ((n8 + 1), r18.2.2.2.2.2.2.2.1, r18.2.2.1, r18.2.2.2.2.2.1, r18.2.2.2.1, r18.2.2.2.2.1, r18.2.2.2.2.2.2.1, r18.2.2.2.2.2.2.2.2, r18.2.1)
    ) else (
    some (r18.2.1, r18.2.2.1, r18.2.2.2.1, r18.2.2.2.2.1, r18.2.2.2.2.2.1, r18.2.2.2.2.2.2.1, r18.2.2.2.2.2.2.2.1, r18.2.2.2.2.2.2.2.2)
    )
    ) else (
    some (0, l10, i12, l13, i11, l14, w9, n15)
    )
def f74 (Y70003 : (List (BitVec 16) × Int × List (BitVec 16) × Int × List (BitVec 16) × BitVec 16 × Nat) → (BitVec 16) → Option (Nat × (List (BitVec 16) × Int × List (BitVec 16) × Int × List (BitVec 16) × BitVec 16 × Nat))) (x1 : List (BitVec 16)) (x2 : Int) (x3 : List (BitVec 16)) (x4 : Int) (x5 : List (BitVec 16)) (x6 : BitVec 16) (x7 : Nat) : Option (Nat × List (BitVec 16) × Int × List (BitVec 16) × Int × List (BitVec 16) × BitVec 16 × Nat) :=
  f74_L0 Y70003 FUEL (0, x6, x1, x4, x2, x3, x5, x7, 0)
set_option maxRecDepth 100000 in
theorem f74_ok (C70003 : YC) (C70002 : YC) (Y70003 : (List (BitVec 16) × Int × List (BitVec 16) × Int × List (BitVec 16) × BitVec 16 × Nat) → (BitVec 16) → Option (Nat × (List (BitVec 16) × Int × List (BitVec 16) × Int × List (BitVec 16) × BitVec 16 × Nat))) (x1 : List (BitVec 16)) (x2 : Int) (x3 : List (BitVec 16)) (x4 : Int) (x5 : List (BitVec 16)) (x6 : BitVec 16) (x7 : Nat) (r : Nat × List (BitVec 16) × Int × List (BitVec 16) × Int × List (BitVec 16) × BitVec 16 × Nat) (h : f74 Y70003 x1 x2 x3 x4 x5 x6 x7 = some r) (hY70003 : ∀ s x r, Y70003 s x = some r → YSpec Tryd.prog 70003 [6002, 10003, 10004] C70003 [3, 5, 7, 6001, 6002, 10003, 10004, 16001, 70002] [(3, .cells 22 [vL 1 eW 0#16 s.1]), (5, .cells 5 [.int .u8 s.2.1]), (7, .cells 22 [.own 6200]), (5900, bL 28 1 eW 0#16 s.2.2.1), (6001, .cells 3 [.int .i64 s.2.2.2.1]), (6002, .cells 48 [.fn (.func 35) [.ptr 3 0]]), (6200, bL 28 1 eW 0#16 s.2.2.2.2.1), (10003, .cells 48 [.own 70002]), (10004, .cells 22 [.own 5900]), (16001, .cells 28 [.b16 s.2.2.2.2.2.1]), (70002, .yld (some ([5, 7], C70002)) s.2.2.2.2.2.2)] [.b16 x] r.1 [(3, .cells 22 [vL 1 eW 0#16 r.2.1]), (5, .cells 5 [.int .u8 r.2.2.1]), (7, .cells 22 [.own 6200]), (5900, bL 28 1 eW 0#16 r.2.2.2.1), (6001, .cells 3 [.int .i64 r.2.2.2.2.1]), (6002, .cells 48 [.fn (.func 35) [.ptr 3 0]]), (6200, bL 28 1 eW 0#16 r.2.2.2.2.2.1), (10003, .cells 48 [.own 70002]), (10004, .cells 22 [.own 5900]), (16001, .cells 28 [.b16 r.2.2.2.2.2.2.1]), (70002, .yld (some ([5, 7], C70002)) r.2.2.2.2.2.2.2)]) : Spec1 Tryd.prog 74 [(0, .elem 32 1 T0F 0 0)] [70003, 3, 5, 7, 6001, 6002, 10003, 10004, 16001, 70002] [(70003, .yld (some ([6002, 10003, 10004], C70003)) 0), (3, .cells 22 [vL 1 eW 0#16 x1]), (5, .cells 5 [.int .u8 x2]), (7, .cells 22 [.own 6200]), (5900, bL 28 1 eW 0#16 x3), (6001, .cells 3 [.int .i64 x4]), (6002, .cells 48 [.fn (.func 35) [.ptr 3 0]]), (6200, bL 28 1 eW 0#16 x5), (10003, .cells 48 [.own 70002]), (10004, .cells 22 [.own 5900]), (16001, .cells 28 [.b16 x6]), (70002, .yld (some ([5, 7], C70002)) x7)] [.own 70003, .ptr 16001 0] (.tup []) [(70003, .yld (some ([6002, 10003, 10004], C70003)) r.1), (3, .cells 22 [vL 1 eW 0#16 r.2.1]), (5, .cells 5 [.int .u8 r.2.2.1]), (7, .cells 22 [.own 6200]), (5900, bL 28 1 eW 0#16 r.2.2.2.1), (6001, .cells 3 [.int .i64 r.2.2.2.2.1]), (6002, .cells 48 [.fn (.func 35) [.ptr 3 0]]), (6200, bL 28 1 eW 0#16 r.2.2.2.2.2.1), (10003, .cells 48 [.own 70002]), (10004, .cells 22 [.own 5900]), (16001, .cells 28 [.b16 r.2.2.2.2.2.2.1]), (70002, .yld (some ([5, 7], C70002)) r.2.2.2.2.2.2.2)] := by
  unfold f74 at h
  refine Spec1.body 20000 _ _ Tryd.func74 rfl Tryd.ntmps74 rfl rfl ?_
  refine AWp.seq ?_
  refine AWp.regC [] [] [0, 1, 3, 1000000] [3, 5, 7, 5900, 6001, 6002, 6200, 10003, 10004, 16001, 70002, 70003] ⟨16, [(0, .own 70003), (1, .ptr 16001 0), (3, .int .i64 (0 : Int)), (1000000, .elem 32 1 T0F 0 0)], [(3, .cells 22 [vL 1 eW 0#16 x1]), (5, .cells 5 [.int .u8 x2]), (7, .cells 22 [.own 6200]), (5900, bL 28 1 eW 0#16 x3), (6001, .cells 3 [.int .i64 x4]), (6002, .cells 48 [.fn (.func 35) [.ptr 3 0]]), (6200, bL 28 1 eW 0#16 x5), (10003, .cells 48 [.own 70002]), (10004, .cells 22 [.own 5900]), (16001, .cells 28 [.b16 x6]), (70002, .yld (some ([5, 7], C70002)) x7), (70003, .yld (some ([6002, 10003, 10004], C70003)) 0)], [70003, 3, 5, 7, 6001, 6002, 10003, 10004, 16001, 70002], 20000⟩ (True) Tryd_mixed (by kernel_rfl) trivial ?_
  refine thenQ_normal ?_
  refine AWp.block ?_
  refine AWp.loopL (α := Nat × (Nat × BitVec 16 × List (BitVec 16) × Int × Int × List (BitVec 16) × List (BitVec 16) × Nat × Nat)) (fun x => match x with | (_, n8, w9, l10, i11, i12, l13, l14, n15, n16) => ⟨16, [(0, .own 70003), (1, .ptr 16001 0), (3, .int .i64 ((n8 : Nat) : Int)), (1000000, .elem 32 1 T0F 0 0)], [(3, .cells 22 [vL 1 eW 0#16 l10]), (5, .cells 5 [.int .u8 i12]), (7, .cells 22 [.own 6200]), (5900, bL 28 1 eW 0#16 l13), (6001, .cells 3 [.int .i64 i11]), (6002, .cells 48 [.fn (.func 35) [.ptr 3 0]]), (6200, bL 28 1 eW 0#16 l14), (10003, .cells 48 [.own 70002]), (10004, .cells 22 [.own 5900]), (16001, .cells 28 [.b16 w9]), (70002, .yld (some ([5, 7], C70002)) n15), (70003, .yld (some ([6002, 10003, 10004], C70003)) n16)], [70003, 3, 5, 7, 6001, 6002, 10003, 10004, 16001, 70002], 20000⟩) (fun x => f74_L0 Y70003 x.1 x.2 = some r) (fun x => x.1) (FUEL, 0, x6, x1, x4, x2, x3, x5, x7, 0) (Le.mk (s := ⟨16, [(0, .own 70003), (1, .ptr 16001 0), (3, .int .i64 (0 : Int)), (1000000, .elem 32 1 T0F 0 0)], [(3, .cells 22 [vL 1 eW 0#16 x1]), (5, .cells 5 [.int .u8 x2]), (7, .cells 22 [.own 6200]), (5900, bL 28 1 eW 0#16 x3), (6001, .cells 3 [.int .i64 x4]), (6002, .cells 48 [.fn (.func 35) [.ptr 3 0]]), (6200, bL 28 1 eW 0#16 x5), (10003, .cells 48 [.own 70002]), (10004, .cells 22 [.own 5900]), (16001, .cells 28 [.b16 x6]), (70002, .yld (some ([5, 7], C70002)) x7), (70003, .yld (some ([6002, 10003, 10004], C70003)) 0)], [70003, 3, 5, 7, 6001, 6002, 10003, 10004, 16001, 70002], 20000⟩) (s' := ⟨16, [(0, .own 70003), (1, .ptr 16001 0), (3, .int .i64 (0 : Int)), (1000000, .elem 32 1 T0F 0 0)], [(3, .cells 22 [vL 1 eW 0#16 x1]), (5, .cells 5 [.int .u8 x2]), (7, .cells 22 [.own 6200]), (5900, bL 28 1 eW 0#16 x3), (6001, .cells 3 [.int .i64 x4]), (6002, .cells 48 [.fn (.func 35) [.ptr 3 0]]), (6200, bL 28 1 eW 0#16 x5), (10003, .cells 48 [.own 70002]), (10004, .cells 22 [.own 5900]), (16001, .cells 28 [.b16 x6]), (70002, .yld (some ([5, 7], C70002)) x7), (70003, .yld (some ([6002, 10003, 10004], C70003)) 0)], [70003, 3, 5, 7, 6001, 6002, 10003, 10004, 16001, 70002], 20000⟩) rfl rfl ⟨.refl _, .refl _, .refl _, .refl _, trivial⟩ ⟨⟨_, rfl, .refl _⟩, ⟨_, rfl, .refl _⟩, ⟨_, rfl, .refl _⟩, ⟨_, rfl, .refl _⟩, ⟨_, rfl, .refl _⟩, ⟨_, rfl, .refl _⟩, ⟨_, rfl, .refl _⟩, ⟨_, rfl, .refl _⟩, ⟨_, rfl, .refl _⟩, ⟨_, rfl, .refl _⟩, ⟨_, rfl, .refl _⟩, ⟨_, rfl, .refl _⟩, trivial⟩) h ?_
  rintro ⟨k0, n8, w9, l10, i11, i12, l13, l14, n15, n16⟩ h
  cases k0 with
  | zero => exact nomatch (show (none : Option (Nat × List (BitVec 16) × Int × List (BitVec 16) × Int × List (BitVec 16) × BitVec 16 × Nat)) = some r from h)
  | succ k0 =>
  obtain ⟨C0, hC0⟩ : ∃ C, C = f74_L0 Y70003 k0 := ⟨_, rfl⟩
  replace h := (f74_L0.eq_2 ..).symm.trans h
  try rw [← hC0] at h
  refine AWp.seq ?_
  refine AWp.seq ?_
  obtain ⟨hz1, h⟩ := chk_some h
  refine AWp.le (Le.mk (s' := ⟨16, [(0, .own 70003), (1, .ptr 16001 0), (3, .int .i64 ((n8 : Nat) : Int)), (1000000, .elem 32 1 T0F 0 0)], [(3, .cells 22 [vL 1 eW 0#16 l10]), (5, .cells 5 [.int .u8 i12]), (7, .cells 22 [.own 6200]), (5900, bL 28 1 eW 0#16 l13), (6001, .cells 3 [.int .i64 i11]), (6002, .cells 48 [.fn (.func 35) [.ptr 3 0]]), (6200, bL 28 1 eW 0#16 l14), (10003, .cells 48 [.own 70002]), (10004, .cells 22 [.own 5900]), (16001, .cells 28 [.b16 w9]), (70002, .yld (some ([5, 7], C70002)) n15), (70003, .yld (some ([6002, 10003, 10004], C70003)) 0)], [70003, 3, 5, 7, 6001, 6002, 10003, 10004, 16001, 70002], 20000⟩) rfl rfl ⟨.refl _, .refl _, .refl _, .refl _, trivial⟩ ⟨⟨_, rfl, .refl _⟩, ⟨_, rfl, .refl _⟩, ⟨_, rfl, .refl _⟩, ⟨_, rfl, .refl _⟩, ⟨_, rfl, .refl _⟩, ⟨_, rfl, .refl _⟩, ⟨_, rfl, .refl _⟩, ⟨_, rfl, .refl _⟩, ⟨_, rfl, .refl _⟩, ⟨_, rfl, .refl _⟩, ⟨_, rfl, .refl _⟩, ⟨_, rfl, BLe.yldEq hz1⟩, trivial⟩) ?_
  obtain ⟨r17, hr17, h⟩ := bind_ok h
  by_cases hg1_4 : (decide (((n8 : Nat) : Int) ≤ r17)) = true
  ·
    replace h := ite_t hg1_4 h
    obtain ⟨r18, hr18, h⟩ := bind_ok h
    have ob0 : true = true → true = true := fun h => h
    have ob1 : true = true → true = true := fun h => h
    have ob2 : true = true → true = true := fun h => h
    refine AWp.regC [] [(2, ⟨[.b16 w9], [], [], [], .int .i64 r17, [], [], []⟩), (4, ⟨[], [], [], [], (.bool true), [], [0], []⟩), (8, ⟨[.b16 w9, .int .i64 ((n8 : Nat) : Int), .own 70003], [70003, 3, 5, 7, 5900, 6001, 6002, 6200, 10003, 10004, 16001, 70002], [70003, 3, 5, 7, 6001, 6002, 10003, 10004, 16001, 70002], [(70003, .yld (some ([6002, 10003, 10004], C70003)) r18.2.1), (3, .cells 22 [vL 1 eW 0#16 r18.2.2.1]), (5, .cells 5 [.int .u8 r18.2.2.2.1]), (7, .cells 22 [.own 6200]), (5900, bL 28 1 eW 0#16 r18.2.2.2.2.1), (6001, .cells 3 [.int .i64 r18.2.2.2.2.2.1]), (6002, .cells 48 [.fn (.func 35) [.ptr 3 0]]), (6200, bL 28 1 eW 0#16 r18.2.2.2.2.2.2.1), (10003, .cells 48 [.own 70002]), (10004, .cells 22 [.own 5900]), (16001, .cells 28 [.b16 r18.2.2.2.2.2.2.2.1]), (70002, .yld (some ([5, 7], C70002)) r18.2.2.2.2.2.2.2.2)], .bool r18.1, [5900, 6200], [], [0]⟩)] [0, 1, 3, 13, 1000000] [3, 5, 7, 5900, 6001, 6002, 6200, 10003, 10004, 16001, 70002, 70003] ⟨16, [(0, .own 70003), (1, .ptr 16001 0), (3, .int .i64 ((n8 : Nat) : Int)), (13, .bool r18.1), (1000000, .elem 32 1 T0F 0 0)], [(3, .cells 22 [vL 1 eW 0#16 r18.2.2.1]), (5, .cells 5 [.int .u8 r18.2.2.2.1]), (7, .cells 22 [.own 6200]), (5900, bL 28 1 eW 0#16 r18.2.2.2.2.1), (6001, .cells 3 [.int .i64 r18.2.2.2.2.2.1]), (6002, .cells 48 [.fn (.func 35) [.ptr 3 0]]), (6200, bL 28 1 eW 0#16 r18.2.2.2.2.2.2.1), (10003, .cells 48 [.own 70002]), (10004, .cells 22 [.own 5900]), (16001, .cells 28 [.b16 r18.2.2.2.2.2.2.2.1]), (70002, .yld (some ([5, 7], C70002)) r18.2.2.2.2.2.2.2.2), (70003, .yld (some ([6002, 10003, 10004], C70003)) r18.2.1)], [70003, 3, 5, 7, 6001, 6002, 10003, 10004, 16001, 70002], 20000⟩ ((callP Tryd.prog true 64 [] [] [] [] [] [.b16 w9] [.b16 w9] (.int .i64 r17) []) ∧ (((.bool (decide (((n8 : Nat) : Int) ≤ r17))) : V) = (.bool true)) ∧ ((callP Tryd.prog true 75 [(0, .elem 32 1 T0F 0 0)] [70003, 3, 5, 7, 6001, 6002, 10003, 10004, 16001, 70002] [(70003, .yld (some ([6002, 10003, 10004], C70003)) 0), (3, .cells 22 [vL 1 eW 0#16 l10]), (5, .cells 5 [.int .u8 i12]), (7, .cells 22 [.own 6200]), (5900, bL 28 1 eW 0#16 l13), (6001, .cells 3 [.int .i64 i11]), (6002, .cells 48 [.fn (.func 35) [.ptr 3 0]]), (6200, bL 28 1 eW 0#16 l14), (10003, .cells 48 [.own 70002]), (10004, .cells 22 [.own 5900]), (16001, .cells 28 [.b16 w9]), (70002, .yld (some ([5, 7], C70002)) n15)] [] [] [.b16 w9, .int .i64 ((n8 : Nat) : Int), .own 70003] [.b16 w9, .int .i64 ((n8 : Nat) : Int), .own 70003] (.bool r18.1) [(70003, .yld (some ([6002, 10003, 10004], C70003)) r18.2.1), (3, .cells 22 [vL 1 eW 0#16 r18.2.2.1]), (5, .cells 5 [.int .u8 r18.2.2.2.1]), (7, .cells 22 [.own 6200]), (5900, bL 28 1 eW 0#16 r18.2.2.2.2.1), (6001, .cells 3 [.int .i64 r18.2.2.2.2.2.1]), (6002, .cells 48 [.fn (.func 35) [.ptr 3 0]]), (6200, bL 28 1 eW 0#16 r18.2.2.2.2.2.2.1), (10003, .cells 48 [.own 70002]), (10004, .cells 22 [.own 5900]), (16001, .cells 28 [.b16 r18.2.2.2.2.2.2.2.1]), (70002, .yld (some ([5, 7], C70002)) r18.2.2.2.2.2.2.2.2)]) ∧ (true = true → true = true) ∧ (true = true → true = true) ∧ (true = true → true = true) ∧ True) ∧ (True) ∧ True) Tryd_mixed (by kernel_rfl) ⟨⟨fun _ => (f64_ok w9 r17 hr17), fun _ => ⟨.refl _, trivial⟩, .inl rfl⟩, (congrArg (fun x => ((.bool x) : V)) hg1_4), ⟨⟨fun _ => (f75_ok C70003 C70002 Y70003 w9 ((n8 : Nat) : Int) l10 i12 l13 i11 l14 w9 n15 r18 hr18 hY70003), fun _ => ⟨.refl _, .refl _, .refl _, trivial⟩, .inl rfl⟩, ob0, ob1, ob2, trivial⟩, trivial, trivial⟩ ?_
    refine thenQ_normal ?_
    refine AWp.cond (b := r18.1) (by kernel_rfl) (fun hc3 => ?_) (fun hc3 => ?_)
    ·
      replace h := ite_tb hc3 h
      refine AWp.skip ?_
      refine thenQ_normal ?_
      refine AWp.seq ?_
      refine AWp.block ?_
      refine AWp.skip ?_
      refine blockQ_normal ?_
      refine thenQ_normal ?_
      obtain ⟨ob4p, h⟩ := chk_some h
      have ob4 : -9223372036854775808 ≤ (((n8 : Nat) : Int) + (1 : Int)) ∧ (((n8 : Nat) : Int) + (1 : Int)) ≤ 9223372036854775807 := ⟨by omega, ob4p⟩
      refine AWp.regC [] [] [0, 1, 3, 1000000] [3, 5, 7, 5900, 6001, 6002, 6200, 10003, 10004, 16001, 70002, 70003] ⟨16, [(0, .own 70003), (1, .ptr 16001 0), (3, .int .i64 (((n8 + 1) : Nat) : Int)), (1000000, .elem 32 1 T0F 0 0)], [(3, .cells 22 [vL 1 eW 0#16 r18.2.2.1]), (5, .cells 5 [.int .u8 r18.2.2.2.1]), (7, .cells 22 [.own 6200]), (5900, bL 28 1 eW 0#16 r18.2.2.2.2.1), (6001, .cells 3 [.int .i64 r18.2.2.2.2.2.1]), (6002, .cells 48 [.fn (.func 35) [.ptr 3 0]]), (6200, bL 28 1 eW 0#16 r18.2.2.2.2.2.2.1), (10003, .cells 48 [.own 70002]), (10004, .cells 22 [.own 5900]), (16001, .cells 28 [.b16 r18.2.2.2.2.2.2.2.1]), (70002, .yld (some ([5, 7], C70002)) r18.2.2.2.2.2.2.2.2), (70003, .yld (some ([6002, 10003, 10004], C70003)) r18.2.1)], [70003, 3, 5, 7, 6001, 6002, 10003, 10004, 16001, 70002], 20000⟩ ((-9223372036854775808 ≤ (((n8 : Nat) : Int) + (1 : Int)) ∧ (((n8 : Nat) : Int) + (1 : Int)) ≤ 9223372036854775807) ∧ True) Tryd_mixed (by kernel_rfl) ⟨ob4, trivial⟩ ?_
      rw [hC0] at h
      exact loopQ_normal (_, (n8 + 1), r18.2.2.2.2.2.2.2.1, r18.2.2.1, r18.2.2.2.2.2.1, r18.2.2.2.1, r18.2.2.2.2.1, r18.2.2.2.2.2.2.1, r18.2.2.2.2.2.2.2.2, r18.2.1) (Le.mk (s := ⟨16, [(0, .own 70003), (1, .ptr 16001 0), (3, .int .i64 (((n8 + 1) : Nat) : Int)), (1000000, .elem 32 1 T0F 0 0)], [(3, .cells 22 [vL 1 eW 0#16 r18.2.2.1]), (5, .cells 5 [.int .u8 r18.2.2.2.1]), (7, .cells 22 [.own 6200]), (5900, bL 28 1 eW 0#16 r18.2.2.2.2.1), (6001, .cells 3 [.int .i64 r18.2.2.2.2.2.1]), (6002, .cells 48 [.fn (.func 35) [.ptr 3 0]]), (6200, bL 28 1 eW 0#16 r18.2.2.2.2.2.2.1), (10003, .cells 48 [.own 70002]), (10004, .cells 22 [.own 5900]), (16001, .cells 28 [.b16 r18.2.2.2.2.2.2.2.1]), (70002, .yld (some ([5, 7], C70002)) r18.2.2.2.2.2.2.2.2), (70003, .yld (some ([6002, 10003, 10004], C70003)) r18.2.1)], [70003, 3, 5, 7, 6001, 6002, 10003, 10004, 16001, 70002], 20000⟩) (s' := ⟨16, [(0, .own 70003), (1, .ptr 16001 0), (3, .int .i64 (((n8 + 1) : Nat) : Int)), (1000000, .elem 32 1 T0F 0 0)], [(3, .cells 22 [vL 1 eW 0#16 r18.2.2.1]), (5, .cells 5 [.int .u8 r18.2.2.2.1]), (7, .cells 22 [.own 6200]), (5900, bL 28 1 eW 0#16 r18.2.2.2.2.1), (6001, .cells 3 [.int .i64 r18.2.2.2.2.2.1]), (6002, .cells 48 [.fn (.func 35) [.ptr 3 0]]), (6200, bL 28 1 eW 0#16 r18.2.2.2.2.2.2.1), (10003, .cells 48 [.own 70002]), (10004, .cells 22 [.own 5900]), (16001, .cells 28 [.b16 r18.2.2.2.2.2.2.2.1]), (70002, .yld (some ([5, 7], C70002)) r18.2.2.2.2.2.2.2.2), (70003, .yld (some ([6002, 10003, 10004], C70003)) r18.2.1)], [70003, 3, 5, 7, 6001, 6002, 10003, 10004, 16001, 70002], 20000⟩) rfl rfl ⟨.refl _, .refl _, .refl _, .refl _, trivial⟩ ⟨⟨_, rfl, .refl _⟩, ⟨_, rfl, .refl _⟩, ⟨_, rfl, .refl _⟩, ⟨_, rfl, .refl _⟩, ⟨_, rfl, .refl _⟩, ⟨_, rfl, .refl _⟩, ⟨_, rfl, .refl _⟩, ⟨_, rfl, .refl _⟩, ⟨_, rfl, .refl _⟩, ⟨_, rfl, .refl _⟩, ⟨_, rfl, .refl _⟩, ⟨_, rfl, .refl _⟩, trivial⟩) h (Nat.lt_succ_self _)
    ·
      replace h := ite_fb hc3 h
      refine AWp.exit ?_
      refine thenQ_exit ?_
      refine thenQ_exit ?_
      refine blockQ_same ?_
      have hret := Option.some.inj h
      subst hret
      exact bodyQ_le (Le.mk (s := ⟨16, [(0, .own 70003), (1, .ptr 16001 0), (3, .int .i64 ((n8 : Nat) : Int)), (13, .bool r18.1), (1000000, .elem 32 1 T0F 0 0)], [(3, .cells 22 [vL 1 eW 0#16 r18.2.2.1]), (5, .cells 5 [.int .u8 r18.2.2.2.1]), (7, .cells 22 [.own 6200]), (5900, bL 28 1 eW 0#16 r18.2.2.2.2.1), (6001, .cells 3 [.int .i64 r18.2.2.2.2.2.1]), (6002, .cells 48 [.fn (.func 35) [.ptr 3 0]]), (6200, bL 28 1 eW 0#16 r18.2.2.2.2.2.2.1), (10003, .cells 48 [.own 70002]), (10004, .cells 22 [.own 5900]), (16001, .cells 28 [.b16 r18.2.2.2.2.2.2.2.1]), (70002, .yld (some ([5, 7], C70002)) r18.2.2.2.2.2.2.2.2), (70003, .yld (some ([6002, 10003, 10004], C70003)) r18.2.1)], [70003, 3, 5, 7, 6001, 6002, 10003, 10004, 16001, 70002], 20000⟩) (s' := ⟨16, [], [(70003, .yld (some ([6002, 10003, 10004], C70003)) r18.2.1), (3, .cells 22 [vL 1 eW 0#16 r18.2.2.1]), (5, .cells 5 [.int .u8 r18.2.2.2.1]), (7, .cells 22 [.own 6200]), (5900, bL 28 1 eW 0#16 r18.2.2.2.2.1), (6001, .cells 3 [.int .i64 r18.2.2.2.2.2.1]), (6002, .cells 48 [.fn (.func 35) [.ptr 3 0]]), (6200, bL 28 1 eW 0#16 r18.2.2.2.2.2.2.1), (10003, .cells 48 [.own 70002]), (10004, .cells 22 [.own 5900]), (16001, .cells 28 [.b16 r18.2.2.2.2.2.2.2.1]), (70002, .yld (some ([5, 7], C70002)) r18.2.2.2.2.2.2.2.2)], [70003, 3, 5, 7, 6001, 6002, 10003, 10004, 16001, 70002], 20000⟩) rfl rfl trivial ⟨⟨_, rfl, .refl _⟩, ⟨_, rfl, .refl _⟩, ⟨_, rfl, .refl _⟩, ⟨_, rfl, .refl _⟩, ⟨_, rfl, .refl _⟩, ⟨_, rfl, .refl _⟩, ⟨_, rfl, .refl _⟩, ⟨_, rfl, .refl _⟩, ⟨_, rfl, .refl _⟩, ⟨_, rfl, .refl _⟩, ⟨_, rfl, .refl _⟩, ⟨_, rfl, .refl _⟩, trivial⟩) (bodyQ_normal _ rfl ⟨rfl, rfl⟩ rfl)
  ·
    replace h := ite_f hg1_4 h
    have ob0 : false = true → false = true := fun h => h
    have ob1 : false = true → false = true := fun h => h
    have ob2 : false = true → false = true := fun h => h
    have ob3 : true = true → false = true → false = true := fun _ h => h
    refine AWp.regC [] [(2, ⟨[.b16 w9], [], [], [], .int .i64 r17, [], [], []⟩), (4, ⟨[], [], [], [], (.bool false), [], [0], []⟩), (8, ⟨[], [], [], [], .bool false, [], [], []⟩)] [0, 1, 3, 13, 1000000] [3, 5, 7, 5900, 6001, 6002, 6200, 10003, 10004, 16001, 70002, 70003] ⟨16, [(0, .own 70003), (1, .ptr 16001 0), (3, .int .i64 ((n8 : Nat) : Int)), (13, .bool false), (1000000, .elem 32 1 T0F 0 0)], [(3, .cells 22 [vL 1 eW 0#16 l10]), (5, .cells 5 [.int .u8 i12]), (7, .cells 22 [.own 6200]), (5900, bL 28 1 eW 0#16 l13), (6001, .cells 3 [.int .i64 i11]), (6002, .cells 48 [.fn (.func 35) [.ptr 3 0]]), (6200, bL 28 1 eW 0#16 l14), (10003, .cells 48 [.own 70002]), (10004, .cells 22 [.own 5900]), (16001, .cells 28 [.b16 w9]), (70002, .yld (some ([5, 7], C70002)) n15), (70003, .yld (some ([6002, 10003, 10004], C70003)) 0)], [70003, 3, 5, 7, 6001, 6002, 10003, 10004, 16001, 70002], 20000⟩ ((callP Tryd.prog true 64 [] [] [] [] [] [.b16 w9] [.b16 w9] (.int .i64 r17) []) ∧ (((.bool (decide (((n8 : Nat) : Int) ≤ r17))) : V) = (.bool false)) ∧ ((callP Tryd.prog false 75 [] [] [] [] [] [.b16 w9, .int .i64 ((n8 : Nat) : Int), .own 70003] [] (.bool false) []) ∧ (false = true → false = true) ∧ (false = true → false = true) ∧ (false = true → false = true) ∧ True) ∧ (true = true → false = true → false = true) ∧ True) Tryd_mixed (by kernel_rfl) ⟨⟨fun _ => (f64_ok w9 r17 hr17), fun _ => ⟨.refl _, trivial⟩, .inl rfl⟩, (congrArg (fun x => ((.bool x) : V)) (Bool.eq_false_iff.2 hg1_4)), ⟨⟨nofun, nofun, .inl rfl⟩, ob0, ob1, ob2, trivial⟩, ob3, trivial⟩ ?_
    refine thenQ_normal ?_
    refine AWp.cond (b := false) (by kernel_rfl) (fun hc => ?_) (fun hc => ?_)
    ·
      cases hc
    ·
      clear hc
      refine AWp.exit ?_
      refine thenQ_exit ?_
      refine thenQ_exit ?_
      refine blockQ_same ?_
      have hret := Option.some.inj h
      subst hret
      exact bodyQ_le (Le.mk (s := ⟨16, [(0, .own 70003), (1, .ptr 16001 0), (3, .int .i64 ((n8 : Nat) : Int)), (13, .bool false), (1000000, .elem 32 1 T0F 0 0)], [(3, .cells 22 [vL 1 eW 0#16 l10]), (5, .cells 5 [.int .u8 i12]), (7, .cells 22 [.own 6200]), (5900, bL 28 1 eW 0#16 l13), (6001, .cells 3 [.int .i64 i11]), (6002, .cells 48 [.fn (.func 35) [.ptr 3 0]]), (6200, bL 28 1 eW 0#16 l14), (10003, .cells 48 [.own 70002]), (10004, .cells 22 [.own 5900]), (16001, .cells 28 [.b16 w9]), (70002, .yld (some ([5, 7], C70002)) n15), (70003, .yld (some ([6002, 10003, 10004], C70003)) 0)], [70003, 3, 5, 7, 6001, 6002, 10003, 10004, 16001, 70002], 20000⟩) (s' := ⟨16, [], [(70003, .yld (some ([6002, 10003, 10004], C70003)) 0), (3, .cells 22 [vL 1 eW 0#16 l10]), (5, .cells 5 [.int .u8 i12]), (7, .cells 22 [.own 6200]), (5900, bL 28 1 eW 0#16 l13), (6001, .cells 3 [.int .i64 i11]), (6002, .cells 48 [.fn (.func 35) [.ptr 3 0]]), (6200, bL 28 1 eW 0#16 l14), (10003, .cells 48 [.own 70002]), (10004, .cells 22 [.own 5900]), (16001, .cells 28 [.b16 w9]), (70002, .yld (some ([5, 7], C70002)) n15)], [70003, 3, 5, 7, 6001, 6002, 10003, 10004, 16001, 70002], 20000⟩) rfl rfl trivial ⟨⟨_, rfl, .refl _⟩, ⟨_, rfl, .refl _⟩, ⟨_, rfl, .refl _⟩, ⟨_, rfl, .refl _⟩, ⟨_, rfl, .refl _⟩, ⟨_, rfl, .refl _⟩, ⟨_, rfl, .refl _⟩, ⟨_, rfl, .refl _⟩, ⟨_, rfl, .refl _⟩, ⟨_, rfl, .refl _⟩, ⟨_, rfl, .refl _⟩, ⟨_, rfl, .refl _⟩, trivial⟩) (bodyQ_normal _ rfl ⟨rfl, rfl⟩ rfl)
def f57_Y70003 (Y70002 : (List (BitVec 16) × Int × Int × List (BitVec 16)) → (BitVec 16) → Option (Nat × (List (BitVec 16) × Int × Int × List (BitVec 16)))) : (List (BitVec 16) × Int × List (BitVec 16) × Int × List (BitVec 16) × BitVec 16 × Nat) → (BitVec 16) → Option (Nat × (List (BitVec 16) × Int × List (BitVec 16) × Int × List (BitVec 16) × BitVec 16 × Nat))
  | (l7, i9, l10, i8, l11, w6, n12), x13 =>
    (f27 l10 x13).bind fun (r14 : Bool) =>
    if r14 = true then (
    some (0, (l7, i9, l10, i8, l11, w6, n12))
    ) else (
    (f35 x13 l7).bind fun (r15 : Bool × List (BitVec 16)) =>
    if (!r15.1) then (
    some (0, (r15.2, i9, l10, i8, l11, w6, n12))
    ) else (
    chk (((l10).length + 1) * 2 ≤ 140737488355328) <|
    chk (n12 = 0) <|
    (Y70002 (r15.2, i9, i8, l11) x13).bind fun (r16 : Nat × (List (BitVec 16) × Int × Int × List (BitVec 16))) =>
    if r16.1 = 0 then (
    if (!true) then (
    some (2, (r16.2.1, r16.2.2.1, (l10 ++ [x13]), r16.2.2.2.1, r16.2.2.2.2, w6, 0))
    ) else (
    some (0, (r16.2.1, r16.2.2.1, (l10 ++ [x13]), r16.2.2.2.1, r16.2.2.2.2, w6, 0))
    )
    ) else (
    if (!false) then (
    some (2, (r16.2.1, r16.2.2.1, (l10 ++ [x13]), r16.2.2.2.1, r16.2.2.2.2, w6, r16.1))
    ) else (
    some (0, (r16.2.1, r16.2.2.1, (l10 ++ [x13]), r16.2.2.2.1, r16.2.2.2.2, w6, r16.1))
    )
    )
    )
    )
def f57 (Y70002 : (List (BitVec 16) × Int × Int × List (BitVec 16)) → (BitVec 16) → Option (Nat × (List (BitVec 16) × Int × Int × List (BitVec 16)))) (x1 : List (BitVec 16)) (x2 : Int) (x3 : Int) (x4 : List (BitVec 16)) : Option (Nat × List (BitVec 16) × Int × Int × List (BitVec 16)) :=
  if ((decide (x3 < (0 : Int))) || (decide (x3 > (12 : Int)))) then (
  some (0, x1, x2, x3, x4)
  ) else (
  (f58 (((BitVec.ofInt 16 1) <<< ((x3).toNat)) - (BitVec.ofInt 16 1))).bind fun (r5 : BitVec 16) =>
  chk (0 ≤ x3) <|
  (f74 (f57_Y70003 Y70002) x1 x2 [] x3 x4 r5 0).bind fun (r17 : Nat × List (BitVec 16) × Int × List (BitVec 16) × Int × List (BitVec 16) × BitVec 16 × Nat) =>
  chk (r17.1 ≠ 1) <|
  if r17.1 = 0 then (
  some (r17.2.2.2.2.2.2.2, r17.2.1, r17.2.2.1, r17.2.2.2.2.1, r17.2.2.2.2.2.1)
  ) else (
  if r17.1 = 2 then (
  some (r17.2.2.2.2.2.2.2, r17.2.1, r17.2.2.1, r17.2.2.2.2.1, r17.2.2.2.2.2.1)
  ) else (
  none
  )
  )
  )
end Go.Abs
