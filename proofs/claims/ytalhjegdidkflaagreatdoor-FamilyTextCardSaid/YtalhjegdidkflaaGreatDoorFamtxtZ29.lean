/- Part 29 of the proof: X8t, Val8t, Txt8b, Aw8t, F8tLaw3. -/
import Derived.Test.YtalhjegdidkflaaGreatDoorFamtxtZ28
namespace Go.Abs
open Go Go.Proofs
set_option maxHeartbeats 4000000
set_option maxRecDepth 100000 in
theorem f22_ok  (x1 : List UInt8) (r : BitVec 16) (h : f22 x1 = some r)  : Spec1 Tryz.prog 22 [] [] [] [.str x1] (.b16 r) [] := by
  unfold f22 at h
  refine Spec1.body 0 _ _ Tryz.func22 rfl Tryz.ntmps22 rfl rfl ?_
  refine q2rq [] [] ⟨43, [(0, .str x1)], [], [], 0⟩ trivial ?_
  refine q2rq [] [] ⟨43, [(0, .str x1), (3, .b16 (q2w16 0)), (4, .i (-1 : Int))], [], [], 0⟩ trivial ?_
  obtain ⟨K1, hK1, h⟩ := jn_some h
  refine AWp.join (α := BitVec 16) (fun (w8 : BitVec 16) => ⟨43, [(3, .b16 w8)], [], [], 0⟩) (fun x => K1 x = some r) ?_ ?_
  ·
    refine q2rq [] [] ⟨43, [(0, .str x1), (3, .b16 (q2w16 0)), (4, .i (-1 : Int)), (5, .i (0 : Int))], [], [], 0⟩ trivial ?_
    refine AWp.block ?_
    refine AWp.loopL (α := Nat × (BitVec 16 × Int × Nat)) (fun x => match x with | (_, w2, i3, n4) => ⟨43, [(0, .str x1), (3, .b16 w2), (4, .i i3), (5, .i (n4 : Int))], [], [], 0⟩) (fun x => f22_L0 x1 K1 x.1 x.2 = some r) (fun x => x.1) (FUEL, (q2w16 0), (-1 : Int), 0) (Le.mk (s' := ⟨43, [(0, .str x1), (3, .b16 (q2w16 0)), (4, .i (-1 : Int)), (5, .i (0 : Int))], [], [], 0⟩) rfl rfl ⟨.refl _, .refl _, .refl _, .refl _, trivial⟩ trivial) h ?_
    rintro ⟨k0, w2, i3, n4⟩ h
    cases k0 with
    | zero => exact nomatch (show (none : Option (BitVec 16)) = some r from h)
    | succ k0 =>
    obtain ⟨C0, hC0⟩ : ∃ C, C = f22_L0 x1 K1 k0 := ⟨_, rfl⟩
    replace h := (f22_L0.eq_2 ..).symm.trans h
    try rw [← hC0] at h
    refine AWp.seq ?_
    refine q2rq [] [] ⟨43, [(0, .str x1), (3, .b16 w2), (4, .i i3), (5, .i (n4 : Int)), (9, .bool (decide ((n4 : Int) < (lZ x1))))], [], [], 0⟩ trivial ?_
    refine AWp.cond (b := (decide ((n4 : Int) < (lZ x1)))) (by kernel_rfl) (fun hc1 => ?_) (fun hc1 => ?_)
    ·
      replace h := ite_tb hc1 h
      refine AWp.skip ?_
      refine thenQ_normal ?_
      obtain ⟨K2, hK2, h⟩ := jn_some h
      refine AWp.join (α := BitVec 16 × Int) (fun (x : BitVec 16 × Int) => match x with | (w5, i6) => ⟨43, [(0, .str x1), (3, .b16 w5), (4, .i i6), (5, .i (n4 : Int))], [], [], 0⟩) (fun x => K2 x = some r) ?_ ?_
      ·
        refine AWp.block ?_
        refine AWp.seq ?_
        refine AWp.seq ?_
        obtain ⟨ob0p, h⟩ := chk_some h
        have ob0 : 0 ≤ (n4 : Int) ∧ (n4 : Int) < ((x1.length : Nat) : Int) := ⟨by omega, ob0p⟩
        obtain ⟨ob1, h⟩ := chk_some h
        have ob2 := idA (((decide ((((x1.getD n4 0).toNat : Nat) : Int) ≥ (48 : Int))) == true) = true)
        have ob3 := idA (((decide ((((x1.getD n4 0).toNat : Nat) : Int) ≥ (48 : Int))) == true) = true)
        have ob4 := idA (((decide ((((x1.getD n4 0).toNat : Nat) : Int) ≥ (48 : Int))) == true) = true)
        have ob5 := bqA (decide ((((x1.getD n4 0).toNat : Nat) : Int) ≥ (48 : Int))) true
        refine q2rr [] [] ⟨43, [(0, .str x1), (3, .b16 w2), (4, .i i3), (5, .i (n4 : Int)), (21, .bool ((decide ((((x1.getD n4 0).toNat : Nat) : Int) ≥ (48 : Int))) && (decide ((((x1.getD n4 0).toNat : Nat) : Int) ≤ (57 : Int)))))], [], [], 0⟩ (an4 ob0 (And.intro ob1 (an2 ob2 ob3)) (an1 ob4) ob5) ?_
        refine thenQ_normal ?_
        refine AWp.cond (b := ((decide ((((x1.getD n4 0).toNat : Nat) : Int) ≥ (48 : Int))) && (decide ((((x1.getD n4 0).toNat : Nat) : Int) ≤ (57 : Int))))) (by kernel_rfl) (fun hc2 => ?_) (fun hc2 => ?_)
        ·
          replace h := ite_tb hc2 h
          refine AWp.seq ?_
          obtain ⟨ob6, ob7p, h⟩ := ck2 h
          have ob7 : 0 ≤ (n4 : Int) ∧ (n4 : Int) < ((x1.length : Nat) : Int) := ⟨by omega, ob7p⟩
          obtain ⟨ob8, ob9, ob10, h⟩ := ck3 h
          refine q2rr [] [] ⟨43, [(0, .str x1), (3, .b16 w2), (4, .i (min (((10 : Int) * (max i3 (0 : Int))) + ((((x1.getD n4 0).toNat : Nat) : Int) - (48 : Int))) (99 : Int))), (5, .i (n4 : Int))], [], [], 0⟩ (an5 ob6 ob7 ob8 ob9 ob10) ?_
          refine thenQ_normal ?_
          refine AWp.exit ?_
          refine thenQ_exit ?_
          refine blockQ_same ?_
          exact joinQ_normal (w2, (min (((10 : Int) * (max i3 (0 : Int))) + ((((x1.getD n4 0).toNat : Nat) : Int) - (48 : Int))) (99 : Int))) (Le.mk rfl rfl ⟨.refl _, .refl _, .refl _, .refl _, trivial⟩ trivial) h
        ·
          replace h := ite_fb hc2 h
          refine AWp.skip ?_
          refine thenQ_normal ?_
          obtain ⟨K3, hK3, h⟩ := jn_some h
          refine AWp.join (α := BitVec 16) (fun (w7 : BitVec 16) => ⟨43, [(0, .str x1), (3, .b16 w7), (5, .i (n4 : Int))], [], [], 0⟩) (fun x => K3 x = some r) ?_ ?_
          ·
            refine AWp.seq ?_
            have ob11 := idA (((decide (i3 ≥ (0 : Int))) == true) = true)
            have ob12 := bqA (decide (i3 ≥ (0 : Int))) true
            refine q2rr [] [] ⟨43, [(0, .str x1), (3, .b16 w2), (4, .i i3), (5, .i (n4 : Int)), (37, .bool ((decide (i3 ≥ (0 : Int))) && (decide (i3 < (16 : Int)))))], [], [], 0⟩ (an2 (an1 ob11) ob12) ?_
            refine thenQ_normal ?_
            refine AWp.cond (b := ((decide (i3 ≥ (0 : Int))) && (decide (i3 < (16 : Int))))) (by kernel_rfl) (fun hc3 => ?_) (fun hc3 => ?_)
            ·
              replace h := ite_tb hc3 h
              obtain ⟨ob13, h⟩ := chk_some h
              refine q2rr [] [] ⟨43, [(0, .str x1), (3, .b16 (w2 ||| ((q2w16 1) <<< ((i3).toNat)))), (5, .i (n4 : Int))], [], [], 0⟩ (an1 ob13) ?_
              exact joinQ_normal ((w2 ||| ((q2w16 1) <<< ((i3).toNat)))) (Le.mk rfl rfl ⟨.refl _, .refl _, .refl _, trivial⟩ trivial) h
            ·
              replace h := ite_fb hc3 h
              refine AWp.skip ?_
              exact joinQ_normal (w2) (Le.mk rfl rfl ⟨.refl _, .refl _, .refl _, trivial⟩ trivial) h
          ·
            rintro w7 h
            replace h := (congrFun hK3 _).symm.trans h
            refine q2rr [] [] ⟨43, [(0, .str x1), (3, .b16 w7), (4, .i (-1 : Int)), (5, .i (n4 : Int))], [], [], 0⟩ trivial ?_
            refine blockQ_normal ?_
            exact joinQ_normal (w7, (-1 : Int)) (Le.mk rfl rfl ⟨.refl _, .refl _, .refl _, .refl _, trivial⟩ trivial) h
      ·
        rintro ⟨w5, i6⟩ h
        replace h := (congrFun hK2 _).symm.trans h
        obtain ⟨ob14p, h⟩ := chk_some h
        have ob14 : -9223372036854775808 ≤ ((n4 : Int) + (1 : Int)) ∧ ((n4 : Int) + (1 : Int)) ≤ 9223372036854775807 := ⟨by omega, ob14p⟩
        refine q2rr [] [] ⟨43, [(0, .str x1), (3, .b16 w5), (4, .i i6), (5, .i (((n4 + 1) : Nat) : Int))], [], [], 0⟩ (an1 ob14) ?_
        rw [hC0] at h
        exact loopQ_normal (_, w5, i6, (n4 + 1)) (Le.mk rfl rfl ⟨.refl _, .refl _, .refl _, .refl _, trivial⟩ trivial) h (Nat.lt_succ_self _)
    ·
      replace h := ite_fb hc1 h
      refine AWp.exit ?_
      refine thenQ_exit ?_
      refine thenQ_exit ?_
      refine blockQ_same ?_
      exact joinQ_normal (w2) (Le.mk rfl rfl ⟨.refl _, trivial⟩ trivial) h
  ·
    rintro w8 h
    replace h := (congrFun hK1 _).symm.trans h
    refine q2rq [] [] ⟨43, [(2, .b16 w8)], [], [], 0⟩ trivial ?_
    have hret := Option.some.inj h
    subst hret
    refine AWp.le (Le.mk (s' := ⟨43, [(2, .b16 w8)], [], [], 0⟩) rfl rfl ⟨.refl _, trivial⟩ trivial) ?_
    refine AWp.ret ?_
    exact bodyQ_ret _ rfl ⟨rfl, rfl⟩ rfl
def f23_L0 (x1 : BitVec 16) (K1 : (List UInt8) → Option (List UInt8)) : Nat → (List UInt8 × Nat) → Option (List UInt8)
  | 0, _ => none
  | k + 1, (s2, n3) =>
    if (decide ((n3 : Int) < (16 : Int))) then (
    jn (fun (s4 : List UInt8) =>
    chk (((n3 : Int) + (1 : Int)) ≤ 9223372036854775807) <|
    (f23_L0 x1 K1 k) (s4, (n3 + 1))
    ) fun (K2 : (List UInt8) → Option (List UInt8)) =>
    if (((x1 >>> n3) &&& (BitVec.ofInt 16 1)) == (BitVec.ofInt 16 0)) then (
    K2 s2
    ) else (
    jn (fun (s5 : List UInt8) =>
    jn (fun (s6 : List UInt8) =>
    chk (1 ≤ (10 : Int)) <|
    chk (((48 : Int) + (((n3 % 10) : Nat) : Int)) ≤ 9223372036854775807) <|
    chk ((((48 + (n3 % 10)) : Nat) : Int) ≤ 255) <|
    chk (s6.length + [UInt8.ofNat (48 + (n3 % 10))].length ≤ 9223372036854775807) <|
    K2 (s6 ++ [UInt8.ofNat (48 + (n3 % 10))])
    ) fun (K4 : (List UInt8) → Option (List UInt8)) =>
    if (decide ((n3 : Int) ≥ (10 : Int))) then (
    chk (s5.length + ([49] : List UInt8).length ≤ 9223372036854775807) <|
    K4 (s5 ++ ([49] : List UInt8))
    ) else (
    K4 s5
    )
    ) fun (K3 : (List UInt8) → Option (List UInt8)) =>
    if (!(s2 == ([123] : List UInt8))) then (
    chk (s2.length + ([32] : List UInt8).length ≤ 9223372036854775807) <|
    K3 (s2 ++ ([32] : List UInt8))
    ) else (
    K3 s2
    )
    )
    ) else (
    K1 s2
    )
def f23 (x1 : BitVec 16) : Option (List UInt8) :=
  jn (fun (s7 : List UInt8) =>
  chk (s7.length + ([125] : List UInt8).length ≤ 9223372036854775807) <|
  some (s7 ++ ([125] : List UInt8))
  ) fun (K1 : (List UInt8) → Option (List UInt8)) =>
  f23_L0 x1 K1 FUEL (([123] : List UInt8), 0)
set_option maxRecDepth 100000 in
theorem f23_ok  (x1 : BitVec 16) (r : List UInt8) (h : f23 x1 = some r)  : Spec1 Tryz.prog 23 [] [] [] [.b16 x1] (.str r) [] := by
  unfold f23 at h
  refine Spec1.body 0 _ _ Tryz.func23 rfl Tryz.ntmps23 rfl rfl ?_
  refine q2rq [] [] ⟨32, [(0, .b16 x1)], [], [], 0⟩ trivial ?_
  refine q2rq [] [] ⟨32, [(0, .b16 x1), (3, .str ([123] : List UInt8))], [], [], 0⟩ trivial ?_
  obtain ⟨K1, hK1, h⟩ := jn_some h
  refine AWp.join (α := List UInt8) (fun (s7 : List UInt8) => ⟨32, [(3, .str s7)], [], [], 0⟩) (fun x => K1 x = some r) ?_ ?_
  ·
    refine q2rq [] [] ⟨32, [(0, .b16 x1), (3, .str ([123] : List UInt8)), (4, .i (0 : Int))], [], [], 0⟩ trivial ?_
    refine AWp.block ?_
    refine AWp.loopL (α := Nat × (List UInt8 × Nat)) (fun x => match x with | (_, s2, n3) => ⟨32, [(0, .b16 x1), (3, .str s2), (4, .i (n3 : Int))], [], [], 0⟩) (fun x => f23_L0 x1 K1 x.1 x.2 = some r) (fun x => x.1) (FUEL, ([123] : List UInt8), 0) (Le.mk (s' := ⟨32, [(0, .b16 x1), (3, .str ([123] : List UInt8)), (4, .i (0 : Int))], [], [], 0⟩) rfl rfl ⟨.refl _, .refl _, .refl _, trivial⟩ trivial) h ?_
    rintro ⟨k0, s2, n3⟩ h
    cases k0 with
    | zero => exact nomatch (show (none : Option (List UInt8)) = some r from h)
    | succ k0 =>
    obtain ⟨C0, hC0⟩ : ∃ C, C = f23_L0 x1 K1 k0 := ⟨_, rfl⟩
    replace h := (f23_L0.eq_2 ..).symm.trans h
    try rw [← hC0] at h
    refine AWp.seq ?_
    refine q2rq [] [] ⟨32, [(0, .b16 x1), (3, .str s2), (4, .i (n3 : Int)), (6, .bool (decide ((n3 : Int) < (16 : Int))))], [], [], 0⟩ trivial ?_
    refine AWp.cond (b := (decide ((n3 : Int) < (16 : Int)))) (by kernel_rfl) (fun hc1 => ?_) (fun hc1 => ?_)
    ·
      replace h := ite_tb hc1 h
      refine AWp.skip ?_
      refine thenQ_normal ?_
      obtain ⟨K2, hK2, h⟩ := jn_some h
      refine AWp.join (α := List UInt8) (fun (s4 : List UInt8) => ⟨32, [(0, .b16 x1), (3, .str s4), (4, .i (n3 : Int))], [], [], 0⟩) (fun x => K2 x = some r) ?_ ?_
      ·
        refine AWp.block ?_
        refine AWp.seq ?_
        refine AWp.seq ?_
        have ob0 : 0 ≤ (n3 : Int) := by omega
        refine q2rr [] [] ⟨32, [(0, .b16 x1), (3, .str s2), (4, .i (n3 : Int)), (13, .bool (((x1 >>> n3) &&& (q2w16 1)) == (q2w16 0)))], [], [], 0⟩ (an1 ob0) ?_
        refine thenQ_normal ?_
        refine AWp.cond (b := (((x1 >>> n3) &&& (q2w16 1)) == (q2w16 0))) (by kernel_rfl) (fun hc2 => ?_) (fun hc2 => ?_)
        ·
          replace h := ite_tb hc2 h
          refine AWp.exit ?_
          refine thenQ_exit ?_
          refine blockQ_same ?_
          exact joinQ_normal (s2) (Le.mk rfl rfl ⟨.refl _, .refl _, .refl _, trivial⟩ trivial) h
        ·
          replace h := ite_fb hc2 h
          refine AWp.skip ?_
          refine thenQ_normal ?_
          obtain ⟨K3, hK3, h⟩ := jn_some h
          refine AWp.join (α := List UInt8) (fun (s5 : List UInt8) => ⟨32, [(0, .b16 x1), (3, .str s5), (4, .i (n3 : Int))], [], [], 0⟩) (fun x => K3 x = some r) ?_ ?_
          ·
            refine q2rq [] [] ⟨32, [(0, .b16 x1), (3, .str s2), (4, .i (n3 : Int)), (15, .bool (!(s2 == ([123] : List UInt8))))], [], [], 0⟩ trivial ?_
            refine AWp.cond (b := (!(s2 == ([123] : List UInt8)))) (by kernel_rfl) (fun hc3 => ?_) (fun hc3 => ?_)
            ·
              replace h := ite_tb hc3 h
              obtain ⟨ob1, h⟩ := chk_some h
              refine q2rr [] [] ⟨32, [(0, .b16 x1), (3, .str (s2 ++ ([32] : List UInt8))), (4, .i (n3 : Int))], [], [], 0⟩ (an1 ob1) ?_
              exact joinQ_normal ((s2 ++ ([32] : List UInt8))) (Le.mk rfl rfl ⟨.refl _, .refl _, .refl _, trivial⟩ trivial) h
            ·
              replace h := ite_fb hc3 h
              refine AWp.skip ?_
              exact joinQ_normal (s2) (Le.mk rfl rfl ⟨.refl _, .refl _, .refl _, trivial⟩ trivial) h
          ·
            rintro s5 h
            replace h := (congrFun hK3 _).symm.trans h
            obtain ⟨K4, hK4, h⟩ := jn_some h
            refine AWp.join (α := List UInt8) (fun (s6 : List UInt8) => ⟨32, [(0, .b16 x1), (3, .str s6), (4, .i (n3 : Int))], [], [], 0⟩) (fun x => K4 x = some r) ?_ ?_
            ·
              refine q2rq [] [] ⟨32, [(0, .b16 x1), (3, .str s5), (4, .i (n3 : Int)), (19, .bool (decide ((n3 : Int) ≥ (10 : Int))))], [], [], 0⟩ trivial ?_
              refine AWp.cond (b := (decide ((n3 : Int) ≥ (10 : Int)))) (by kernel_rfl) (fun hc4 => ?_) (fun hc4 => ?_)
              ·
                replace h := ite_tb hc4 h
                obtain ⟨ob2, h⟩ := chk_some h
                refine q2rr [] [] ⟨32, [(0, .b16 x1), (3, .str (s5 ++ ([49] : List UInt8))), (4, .i (n3 : Int))], [], [], 0⟩ (an1 ob2) ?_
                exact joinQ_normal ((s5 ++ ([49] : List UInt8))) (Le.mk rfl rfl ⟨.refl _, .refl _, .refl _, trivial⟩ trivial) h
              ·
                replace h := ite_fb hc4 h
                refine AWp.skip ?_
                exact joinQ_normal (s5) (Le.mk rfl rfl ⟨.refl _, .refl _, .refl _, trivial⟩ trivial) h
            ·
              rintro s6 h
              replace h := (congrFun hK4 _).symm.trans h
              obtain ⟨ob3p, h⟩ := chk_some h
              have ob3 : 0 ≤ (n3 : Int) ∧ 1 ≤ (10 : Int) := ⟨by omega, ob3p⟩
              obtain ⟨ob4p, h⟩ := chk_some h
              have ob4 : -9223372036854775808 ≤ ((48 : Int) + (((n3 % 10) : Nat) : Int)) ∧ ((48 : Int) + (((n3 % 10) : Nat) : Int)) ≤ 9223372036854775807 := ⟨by omega, ob4p⟩
              obtain ⟨ob5p, h⟩ := chk_some h
              have ob5 : 0 ≤ (((48 + (n3 % 10)) : Nat) : Int) ∧ (((48 + (n3 % 10)) : Nat) : Int) ≤ 255 := ⟨by omega, ob5p⟩
              have ob6 : ∀ i, i < 1 → isByte ((lstF 1 [.int .u8 (((48 + (n3 % 10)) : Nat) : Int)]) i 0) := fun i hi => match i, hi with | 0, _ => trivial
              obtain ⟨ob7, h⟩ := chk_some h
              refine q2rr [] [] ⟨32, [(0, .b16 x1), (3, .str (s6 ++ [UInt8.ofNat (48 + (n3 % 10))])), (4, .i (n3 : Int))], [], [], 0⟩ (an5 ob3 ob4 ob5 ob6 ob7) ?_
              refine blockQ_normal ?_
              exact joinQ_normal ((s6 ++ [UInt8.ofNat (48 + (n3 % 10))])) (Le.mk rfl rfl ⟨.refl _, .refl _, .refl _, trivial⟩ trivial) h
      ·
        rintro s4 h
        replace h := (congrFun hK2 _).symm.trans h
        obtain ⟨ob8p, h⟩ := chk_some h
        have ob8 : -9223372036854775808 ≤ ((n3 : Int) + (1 : Int)) ∧ ((n3 : Int) + (1 : Int)) ≤ 9223372036854775807 := ⟨by omega, ob8p⟩
        refine q2rr [] [] ⟨32, [(0, .b16 x1), (3, .str s4), (4, .i (((n3 + 1) : Nat) : Int))], [], [], 0⟩ (an1 ob8) ?_
        rw [hC0] at h
        exact loopQ_normal (_, s4, (n3 + 1)) (Le.mk rfl rfl ⟨.refl _, .refl _, .refl _, trivial⟩ trivial) h (Nat.lt_succ_self _)
    ·
      replace h := ite_fb hc1 h
      refine AWp.exit ?_
      refine thenQ_exit ?_
      refine thenQ_exit ?_
      refine blockQ_same ?_
      exact joinQ_normal (s2) (Le.mk rfl rfl ⟨.refl _, trivial⟩ trivial) h
  ·
    rintro s7 h
    replace h := (congrFun hK1 _).symm.trans h
    refine AWp.seq ?_
    obtain ⟨ob9, h⟩ := chk_some h
    refine q2rr [] [] ⟨32, [(2, .str (s7 ++ ([125] : List UInt8)))], [], [], 0⟩ (an1 ob9) ?_
    refine thenQ_normal ?_
    have hret := Option.some.inj h
    subst hret
    refine AWp.le (Le.mk (s' := ⟨32, [(2, .str (s7 ++ ([125] : List UInt8)))], [], [], 0⟩) rfl rfl ⟨.refl _, trivial⟩ trivial) ?_
    refine AWp.ret ?_
    exact bodyQ_ret _ rfl ⟨rfl, rfl⟩ rfl
def f24 (x1 : BitVec 16) : Option Bool :=
  some (decide (x1.toNat < (BitVec.ofInt 16 4096).toNat))
set_option maxRecDepth 100000 in
theorem f24_ok  (x1 : BitVec 16) (r : Bool) (h : f24 x1 = some r)  : Spec1 Tryz.prog 24 [] [] [] [.b16 x1] (.bool r) [] := by
  unfold f24 at h
  refine Spec1.body 0 _ _ Tryz.func24 rfl Tryz.ntmps24 rfl rfl ?_
  refine q2rq [] [] ⟨5, [(0, .b16 x1)], [], [], 0⟩ trivial ?_
  refine q2rq [] [] ⟨5, [(2, .bool (decide (x1.toNat < (q2w16 4096).toNat)))], [], [], 0⟩ trivial ?_
  have hret := Option.some.inj h
  subst hret
  refine AWp.le (Le.mk (s' := ⟨5, [(2, .bool (decide (x1.toNat < (q2w16 4096).toNat)))], [], [], 0⟩) rfl rfl ⟨.refl _, trivial⟩ trivial) ?_
  refine AWp.ret ?_
  exact bodyQ_ret _ rfl ⟨rfl, rfl⟩ rfl
def f47_L0 (x1 : BitVec 16) (K1 : Nat → Option Int) : Nat → (Nat × Nat) → Option Int
  | 0, _ => none
  | k + 1, (n2, n3) =>
    if (decide ((n3 : Int) < (16 : Int))) then (
    chk (((n2 : Int) + ((((x1 >>> n3) &&& (BitVec.ofInt 16 1)).toNat : Nat) : Int)) ≤ 9223372036854775807) <|
    chk (((n3 : Int) + (1 : Int)) ≤ 9223372036854775807) <|
    (f47_L0 x1 K1 k) ((n2 + ((x1 >>> n3) &&& (BitVec.ofInt 16 1)).toNat), (n3 + 1))
    ) else (
    K1 n2
    )
def f47 (x1 : BitVec 16) : Option Int :=
  jn (fun (n4 : Nat) =>
  some (n4 : Int)
  ) fun (K1 : Nat → Option Int) =>
  f47_L0 x1 K1 FUEL (0, 0)
set_option maxRecDepth 100000 in
theorem f47_ok  (x1 : BitVec 16) (r : Int) (h : f47 x1 = some r)  : Spec1 Tryz.prog 47 [] [] [] [.b16 x1] (.int .i64 r) [] := by
  unfold f47 at h
  refine Spec1.body 0 _ _ Tryz.func47 rfl Tryz.ntmps47 rfl rfl ?_
  refine q2rq [] [] ⟨17, [(0, .b16 x1)], [], [], 0⟩ trivial ?_
  refine q2rq [] [] ⟨17, [(0, .b16 x1), (3, .i (0 : Int))], [], [], 0⟩ trivial ?_
  obtain ⟨K1, hK1, h⟩ := jn_some h
  refine AWp.join (α := Nat) (fun (n4 : Nat) => ⟨17, [(3, .i (n4 : Int))], [], [], 0⟩) (fun x => K1 x = some r) ?_ ?_
  ·
    refine q2rq [] [] ⟨17, [(0, .b16 x1), (3, .i (0 : Int)), (4, .i (0 : Int))], [], [], 0⟩ trivial ?_
    refine AWp.block ?_
    refine AWp.loopL (α := Nat × (Nat × Nat)) (fun x => match x with | (_, n2, n3) => ⟨17, [(0, .b16 x1), (3, .i (n2 : Int)), (4, .i (n3 : Int))], [], [], 0⟩) (fun x => f47_L0 x1 K1 x.1 x.2 = some r) (fun x => x.1) (FUEL, 0, 0) (Le.mk (s' := ⟨17, [(0, .b16 x1), (3, .i (0 : Int)), (4, .i (0 : Int))], [], [], 0⟩) rfl rfl ⟨.refl _, .refl _, .refl _, trivial⟩ trivial) h ?_
    rintro ⟨k0, n2, n3⟩ h
    cases k0 with
    | zero => exact nomatch (show (none : Option Int) = some r from h)
    | succ k0 =>
    obtain ⟨C0, hC0⟩ : ∃ C, C = f47_L0 x1 K1 k0 := ⟨_, rfl⟩
    replace h := (f47_L0.eq_2 ..).symm.trans h
    try rw [← hC0] at h
    refine AWp.seq ?_
    refine q2rq [] [] ⟨17, [(0, .b16 x1), (3, .i (n2 : Int)), (4, .i (n3 : Int)), (6, .bool (decide ((n3 : Int) < (16 : Int))))], [], [], 0⟩ trivial ?_
    refine AWp.cond (b := (decide ((n3 : Int) < (16 : Int)))) (by kernel_rfl) (fun hc1 => ?_) (fun hc1 => ?_)
    ·
      replace h := ite_tb hc1 h
      refine AWp.skip ?_
      refine thenQ_normal ?_
      refine AWp.seq ?_
      refine AWp.block ?_
      have ob0 : 0 ≤ (n3 : Int) := by omega
      have ob1 : -9223372036854775808 ≤ ((((x1 >>> n3) &&& (q2w16 1)).toNat : Nat) : Int) ∧ ((((x1 >>> n3) &&& (q2w16 1)).toNat : Nat) : Int) ≤ 9223372036854775807 := ⟨by omega, by (have := (((x1 >>> n3) &&& (q2w16 1)) : BitVec 16).isLt; omega)⟩
      obtain ⟨ob2p, h⟩ := chk_some h
      have ob2 : -9223372036854775808 ≤ ((n2 : Int) + ((((x1 >>> n3) &&& (q2w16 1)).toNat : Nat) : Int)) ∧ ((n2 : Int) + ((((x1 >>> n3) &&& (q2w16 1)).toNat : Nat) : Int)) ≤ 9223372036854775807 := ⟨by omega, ob2p⟩
      refine q2rr [] [] ⟨17, [(0, .b16 x1), (3, .i (((n2 + ((x1 >>> n3) &&& (q2w16 1)).toNat) : Nat) : Int)), (4, .i (n3 : Int))], [], [], 0⟩ (an3 ob0 ob1 ob2) ?_
      refine blockQ_normal ?_
      refine thenQ_normal ?_
      obtain ⟨ob3p, h⟩ := chk_some h
      have ob3 : -9223372036854775808 ≤ ((n3 : Int) + (1 : Int)) ∧ ((n3 : Int) + (1 : Int)) ≤ 9223372036854775807 := ⟨by omega, ob3p⟩
      refine q2rr [] [] ⟨17, [(0, .b16 x1), (3, .i (((n2 + ((x1 >>> n3) &&& (q2w16 1)).toNat) : Nat) : Int)), (4, .i (((n3 + 1) : Nat) : Int))], [], [], 0⟩ (an1 ob3) ?_
      rw [hC0] at h
      exact loopQ_normal (_, (n2 + ((x1 >>> n3) &&& (q2w16 1)).toNat), (n3 + 1)) (Le.mk rfl rfl ⟨.refl _, .refl _, .refl _, trivial⟩ trivial) h (Nat.lt_succ_self _)
    ·
      replace h := ite_fb hc1 h
      refine AWp.exit ?_
      refine thenQ_exit ?_
      refine thenQ_exit ?_
      refine blockQ_same ?_
      exact joinQ_normal (n2) (Le.mk rfl rfl ⟨.refl _, trivial⟩ trivial) h
  ·
    rintro n4 h
    replace h := (congrFun hK1 _).symm.trans h
    refine q2rq [] [] ⟨17, [(2, .i (n4 : Int))], [], [], 0⟩ trivial ?_
    have hret := Option.some.inj h
    subst hret
    refine AWp.le (Le.mk (s' := ⟨17, [(2, .i (n4 : Int))], [], [], 0⟩) rfl rfl ⟨.refl _, trivial⟩ trivial) ?_
    refine AWp.ret ?_
    exact bodyQ_ret _ rfl ⟨rfl, rfl⟩ rfl
def f27 (x1 : BitVec 16) (x2 : BitVec 16) : Option Bool :=
  (f47 x1).bind fun (r3 : Int) =>
  (f47 x2).bind fun (r4 : Int) =>
  if (r3 != r4) then (
  (f47 x1).bind fun (r5 : Int) =>
  (f47 x2).bind fun (r6 : Int) =>
  some (decide (r5 < r6))
  ) else (
  some (decide (x1.toNat < x2.toNat))
  )
set_option maxRecDepth 100000 in
theorem f27_ok  (x1 : BitVec 16) (x2 : BitVec 16) (r : Bool) (h : f27 x1 x2 = some r)  : Spec1 Tryz.prog 27 [] [] [] [.b16 x1, .b16 x2] (.bool r) [] := by
  unfold f27 at h
  refine Spec1.body 0 _ _ Tryz.func27 rfl Tryz.ntmps27 rfl rfl ?_
  refine q2rq [] [] ⟨18, [(0, .b16 x1), (1, .b16 x2)], [], [], 0⟩ trivial ?_
  refine AWp.seq ?_
  refine AWp.seq ?_
  obtain ⟨r3, hr3, h⟩ := bind_ok h
  obtain ⟨r4, hr4, h⟩ := bind_ok h
  refine q2rr [] [(1, ⟨[.b16 x1], [], [], [], .i r3, [], [], []⟩), (3, ⟨[.b16 x2], [], [], [], .i r4, [], [], []⟩)] ⟨18, [(0, .b16 x1), (1, .b16 x2), (9, .bool (r3 != r4))], [], [], 0⟩ (an2 (cpT (f47_ok _ _ hr3)) (cpT (f47_ok _ _ hr4))) ?_
  refine thenQ_normal ?_
  refine AWp.cond (b := (r3 != r4)) (by kernel_rfl) (fun hc1 => ?_) (fun hc1 => ?_)
  ·
    replace h := ite_tb hc1 h
    refine AWp.seq ?_
    obtain ⟨r5, hr5, h⟩ := bind_ok h
    obtain ⟨r6, hr6, h⟩ := bind_ok h
    refine q2rr [] [(1, ⟨[.b16 x1], [], [], [], .i r5, [], [], []⟩), (3, ⟨[.b16 x2], [], [], [], .i r6, [], [], []⟩)] ⟨18, [(4, .bool (decide (r5 < r6)))], [], [], 0⟩ (an2 (cpT (f47_ok _ _ hr5)) (cpT (f47_ok _ _ hr6))) ?_
    refine thenQ_normal ?_
    have hret := Option.some.inj h
    subst hret
    refine AWp.le (Le.mk (s' := ⟨18, [(4, .bool (decide (r5 < r6)))], [], [], 0⟩) rfl rfl ⟨.refl _, trivial⟩ trivial) ?_
    refine AWp.ret ?_
    refine thenQ_ret ?_
    exact bodyQ_ret _ rfl ⟨rfl, rfl⟩ rfl
  ·
    replace h := ite_fb hc1 h
    refine AWp.skip ?_
    refine thenQ_normal ?_
    refine q2rq [] [] ⟨18, [(4, .bool (decide (x1.toNat < x2.toNat)))], [], [], 0⟩ trivial ?_
    have hret := Option.some.inj h
    subst hret
    refine AWp.le (Le.mk (s' := ⟨18, [(4, .bool (decide (x1.toNat < x2.toNat)))], [], [], 0⟩) rfl rfl ⟨.refl _, trivial⟩ trivial) ?_
    refine AWp.ret ?_
    exact bodyQ_ret _ rfl ⟨rfl, rfl⟩ rfl
def f28 (x1 : BitVec 16) (x2 : BitVec 16) : Option Bool :=
  some ((x2 &&& ~~~x1) == (BitVec.ofInt 16 0))
set_option maxRecDepth 100000 in
theorem f28_ok  (x1 : BitVec 16) (x2 : BitVec 16) (r : Bool) (h : f28 x1 x2 = some r)  : Spec1 Tryz.prog 28 [] [] [] [.b16 x1, .b16 x2] (.bool r) [] := by
  unfold f28 at h
  refine Spec1.body 0 _ _ Tryz.func28 rfl Tryz.ntmps28 rfl rfl ?_
  refine q2rq [] [] ⟨9, [(0, .b16 x1), (1, .b16 x2)], [], [], 0⟩ trivial ?_
  refine q2rq [] [] ⟨9, [(4, .bool ((x2 &&& ~~~x1) == (q2w16 0)))], [], [], 0⟩ trivial ?_
  have hret := Option.some.inj h
  subst hret
  refine AWp.le (Le.mk (s' := ⟨9, [(4, .bool ((x2 &&& ~~~x1) == (q2w16 0)))], [], [], 0⟩) rfl rfl ⟨.refl _, trivial⟩ trivial) ?_
  refine AWp.ret ?_
  exact bodyQ_ret _ rfl ⟨rfl, rfl⟩ rfl
def f10_L0 (x1 : List (BitVec 16)) (K1 : Unit → Option Int) : Nat → Nat → Option Int
  | 0, _ => none
  | k + 1, n2 =>
    if (decide ((n2 : Int) < (((x1).length : Nat) : Int))) then (
    (f24 (x1.getD n2 0#16)).bind fun (r3 : Bool) =>
    chk ((n2 : Int) < (((x1).length : Nat) : Int)) <|
    if (!r3) then (
    some (7 : Int)
    ) else (
    optc ((decide ((n2 : Int) > (0 : Int))) == true) (f27 (x1.getD ((((n2 : Int) - (1 : Int))).toNat) 0#16) (x1.getD n2 0#16)) fun (r4 : Bool) =>
    chk (((decide ((n2 : Int) > (0 : Int))) == true) = true → -9223372036854775808 ≤ ((n2 : Int) - (1 : Int)) ∧ ((n2 : Int) - (1 : Int)) ≤ 9223372036854775807) <|
    chk (((decide ((n2 : Int) > (0 : Int))) == true) = true → 0 ≤ ((n2 : Int) - (1 : Int)) ∧ ((n2 : Int) - (1 : Int)) < (((x1).length : Nat) : Int)) <|
    chk (((decide ((n2 : Int) > (0 : Int))) == true) = true → 0 ≤ (n2 : Int) ∧ (n2 : Int) < (((x1).length : Nat) : Int)) <|
    if ((decide ((n2 : Int) > (0 : Int))) && (!r4)) then (
    some (1 : Int)
    ) else (
    chk (((n2 : Int) + (1 : Int)) ≤ 9223372036854775807) <|
    (f10_L0 x1 K1 k) (n2 + 1)
    )
    )
    ) else (
    K1 ()
    )
def f10_L2 (x1 : List (BitVec 16)) (n5 : Nat) (K3 : Unit → Option Int) : Nat → Nat → Option Int
  | 0, _ => none
  | k + 1, n6 =>
    if (decide ((n6 : Int) < (((x1).length : Nat) : Int))) then (
    optc (((n5 : Int) != (n6 : Int)) == true) (f28 (x1.getD n5 0#16) (x1.getD n6 0#16)) fun (r7 : Bool) =>
    chk ((((n5 : Int) != (n6 : Int)) == true) = true → 0 ≤ (n5 : Int) ∧ (n5 : Int) < (((x1).length : Nat) : Int)) <|
    chk ((((n5 : Int) != (n6 : Int)) == true) = true → 0 ≤ (n6 : Int) ∧ (n6 : Int) < (((x1).length : Nat) : Int)) <|
    if (((n5 : Int) != (n6 : Int)) && r7) then (
    some (1 : Int)
    ) else (
    chk (((n6 : Int) + (1 : Int)) ≤ 9223372036854775807) <|
    (f10_L2 x1 n5 K3 k) (n6 + 1)
    )
    ) else (
    K3 ()
    )
def f10_L1 (x1 : List (BitVec 16)) (K2 : Unit → Option Int) : Nat → Nat → Option Int
  | 0, _ => none
  | k + 1, n5 =>
    if (decide ((n5 : Int) < (((x1).length : Nat) : Int))) then (
    jn (fun (_ : Unit) =>
    chk (((n5 : Int) + (1 : Int)) ≤ 9223372036854775807) <|
    (f10_L1 x1 K2 k) (n5 + 1)
    ) fun (K3 : Unit → Option Int) =>
    f10_L2 x1 n5 K3 FUEL 0
    ) else (
    K2 ()
    )
abbrev f10z0 (n2 : Nat) := ((decide ((n2 : Int) > (0 : Int))) == true)
abbrev f10z1 (n5 : Nat) (n6 : Nat) := (((n5 : Int) != (n6 : Int)) == true)
def f10 (x1 : List (BitVec 16)) : Option Int :=
  if (decide ((((x1).length : Nat) : Int) > (400 : Int))) then (
  some (3 : Int)
  ) else (
  jn (fun (_ : Unit) =>
  jn (fun (_ : Unit) =>
  some (0 : Int)
  ) fun (K2 : Unit → Option Int) =>
  f10_L1 x1 K2 FUEL 0
  ) fun (K1 : Unit → Option Int) =>
  f10_L0 x1 K1 FUEL 0
  )
set_option maxRecDepth 100000 in
theorem f10_ok  (x1 : List (BitVec 16)) (r : Int) (h : f10 x1 = some r)  : Spec1 Tryz.prog 10 [] [] [] [vL 1 eW 0#16 x1] (.int .i64 r) [] := by
  unfold f10 at h
  refine Spec1.body 0 _ _ Tryz.func10 rfl Tryz.ntmps10 rfl rfl ?_
  refine q2rq [] [] ⟨62, [(0, q2aW x1)], [], [], 0⟩ trivial ?_
  refine AWp.seq ?_
  refine q2rq [] [] ⟨62, [(0, q2aW x1), (8, .bool (decide ((lZ x1) > (400 : Int))))], [], [], 0⟩ trivial ?_
  refine AWp.cond (b := (decide ((lZ x1) > (400 : Int)))) (by kernel_rfl) (fun hc1 => ?_) (fun hc1 => ?_)
  ·
    replace h := ite_tb hc1 h
    refine q2rq [] [] ⟨62, [(2, .i (3 : Int))], [], [], 0⟩ trivial ?_
    have hret := Option.some.inj h
    subst hret
    refine AWp.le (Le.mk (s' := ⟨62, [(2, .i (3 : Int))], [], [], 0⟩) rfl rfl ⟨.refl _, trivial⟩ trivial) ?_
    refine AWp.ret ?_
    refine thenQ_ret ?_
    exact bodyQ_ret _ rfl ⟨rfl, rfl⟩ rfl
  ·
    replace h := ite_fb hc1 h
    refine AWp.skip ?_
    refine thenQ_normal ?_
    obtain ⟨K1, hK1, h⟩ := jn_some h
    refine AWp.join (α := Unit) (fun (x : Unit) => match x with | () => ⟨62, [(0, q2aW x1)], [], [], 0⟩) (fun x => K1 x = some r) ?_ ?_
    ·
      refine q2rq [] [] ⟨62, [(0, q2aW x1), (3, .i (0 : Int))], [], [], 0⟩ trivial ?_
      refine AWp.block ?_
      refine AWp.loopL (α := Nat × Nat) (fun x => match x with | (_, n2) => ⟨62, [(0, q2aW x1), (3, .i (n2 : Int))], [], [], 0⟩) (fun x => f10_L0 x1 K1 x.1 x.2 = some r) (fun x => x.1) (FUEL, 0) (Le.mk (s' := ⟨62, [(0, q2aW x1), (3, .i (0 : Int))], [], [], 0⟩) rfl rfl ⟨.refl _, .refl _, trivial⟩ trivial) h ?_
      rintro ⟨k0, n2⟩ h
      cases k0 with
      | zero => exact nomatch (show (none : Option Int) = some r from h)
      | succ k0 =>
      obtain ⟨C0, hC0⟩ : ∃ C, C = f10_L0 x1 K1 k0 := ⟨_, rfl⟩
      replace h := (f10_L0.eq_2 ..).symm.trans h
      try rw [← hC0] at h
      refine AWp.seq ?_
      refine q2rq [] [] ⟨62, [(0, q2aW x1), (3, .i (n2 : Int)), (12, .bool (decide ((n2 : Int) < (lZ x1))))], [], [], 0⟩ trivial ?_
      refine AWp.cond (b := (decide ((n2 : Int) < (lZ x1)))) (by kernel_rfl) (fun hc2 => ?_) (fun hc2 => ?_)
      ·
        replace h := ite_tb hc2 h
        refine AWp.skip ?_
        refine thenQ_normal ?_
        refine AWp.seq ?_
        refine AWp.block ?_
        refine AWp.seq ?_
        refine AWp.seq ?_
        obtain ⟨r3, hr3, h⟩ := bind_ok h
        obtain ⟨ob0p, h⟩ := chk_some h
        have ob0 : 0 ≤ (n2 : Int) ∧ (n2 : Int) < (((x1).length : Nat) : Int) := ⟨by omega, ob0p⟩
        refine q2rr [] [(4, ⟨[.b16 (x1.getD n2 0#16)], [], [], [], .bool r3, [], [], []⟩)] ⟨62, [(0, q2aW x1), (3, .i (n2 : Int)), (20, .bool (!r3))], [], [], 0⟩ (an2 ob0 (cpT (f24_ok _ _ hr3))) ?_
        refine thenQ_normal ?_
        refine AWp.cond (b := (!r3)) (by kernel_rfl) (fun hc3 => ?_) (fun hc3 => ?_)
        ·
          replace h := ite_tb hc3 h
          refine q2rq [] [] ⟨62, [(2, .i (7 : Int))], [], [], 0⟩ trivial ?_
          have hret := Option.some.inj h
          subst hret
          refine AWp.le (Le.mk (s' := ⟨62, [(2, .i (7 : Int))], [], [], 0⟩) rfl rfl ⟨.refl _, trivial⟩ trivial) ?_
          refine AWp.ret ?_
          refine thenQ_ret ?_
          refine blockQ_ret ?_
          refine thenQ_ret ?_
          refine thenQ_ret ?_
          refine blockQ_ret ?_
          refine joinQ_ret ?_
          exact bodyQ_ret _ rfl ⟨rfl, rfl⟩ rfl
        ·
          replace h := ite_fb hc3 h
          refine AWp.skip ?_
          refine thenQ_normal ?_
          refine AWp.seq ?_
          obtain ⟨r4, hr4, h⟩ := optc_some h
          obtain ⟨ob1, h⟩ := chk_some h
          have ob2 := idA ((f10z0 n2) = true)
          obtain ⟨ob3, h⟩ := chk_some h
          have ob4 := idA ((f10z0 n2) = true)
          have ob5 := idA ((f10z0 n2) = true)
          have ob6 := idA ((f10z0 n2) = true)
          obtain ⟨ob7, h⟩ := chk_some h
          have ob8 := idA ((f10z0 n2) = true)
          have ob9 := idA ((f10z0 n2) = true)
          have ob10 := idA ((f10z0 n2) = true)
          have ob11 := idA ((f10z0 n2) = true)
          have ob12 := idA ((f10z0 n2) = true)
          have ob13 := idA ((f10z0 n2) = true)
          have ob14 : true = true → (decide ((n2 : Int) > (0 : Int))) = true → (f10z0 n2) = true := fun _ h => beq_iff_eq.2 h
          refine q2rr [] [(12, ⟨[.b16 (x1.getD ((((n2 : Int) - (1 : Int))).toNat) 0#16), .b16 (x1.getD n2 0#16)], [], [], [], .bool r4, [], [], []⟩)] ⟨62, [(0, q2aW x1), (3, .i (n2 : Int)), (35, .bool ((decide ((n2 : Int) > (0 : Int))) && (!r4)))], [], [], 0⟩ (ac6 (And.intro ob1 (an1 ob2)) (And.intro ob3 (an2 ob4 ob5)) (an1 ob6) (And.intro ob7 (an2 ob8 ob9)) (an1 ob10) (And.intro (cpC fun hc => (f27_ok _ _ _ (hr4 hc))) (an2 ob11 ob12)) (an2 (an1 ob13) ob14)) ?_
          refine thenQ_normal ?_
          refine AWp.cond (b := ((decide ((n2 : Int) > (0 : Int))) && (!r4))) (by kernel_rfl) (fun hc4 => ?_) (fun hc4 => ?_)
          ·
            replace h := ite_tb hc4 h
            refine q2rq [] [] ⟨62, [(2, .i (1 : Int))], [], [], 0⟩ trivial ?_
            have hret := Option.some.inj h
            subst hret
            refine AWp.le (Le.mk (s' := ⟨62, [(2, .i (1 : Int))], [], [], 0⟩) rfl rfl ⟨.refl _, trivial⟩ trivial) ?_
            refine AWp.ret ?_
            refine blockQ_ret ?_
            refine thenQ_ret ?_
            refine thenQ_ret ?_
            refine blockQ_ret ?_
            refine joinQ_ret ?_
            exact bodyQ_ret _ rfl ⟨rfl, rfl⟩ rfl
          ·
            replace h := ite_fb hc4 h
            refine AWp.skip ?_
            refine blockQ_normal ?_
            refine thenQ_normal ?_
            obtain ⟨ob15p, h⟩ := chk_some h
            have ob15 : -9223372036854775808 ≤ ((n2 : Int) + (1 : Int)) ∧ ((n2 : Int) + (1 : Int)) ≤ 9223372036854775807 := ⟨by omega, ob15p⟩
            refine q2rr [] [] ⟨62, [(0, q2aW x1), (3, .i (((n2 + 1) : Nat) : Int))], [], [], 0⟩ (an1 ob15) ?_
            rw [hC0] at h
            exact loopQ_normal (_, (n2 + 1)) (Le.mk rfl rfl ⟨.refl _, .refl _, trivial⟩ trivial) h (Nat.lt_succ_self _)
      ·
        replace h := ite_fb hc2 h
        refine AWp.exit ?_
        refine thenQ_exit ?_
        refine thenQ_exit ?_
        refine blockQ_same ?_
        exact joinQ_normal () (Le.mk rfl rfl ⟨.refl _, trivial⟩ trivial) h
    ·
      rintro ⟨⟩ h
      replace h := (congrFun hK1 _).symm.trans h
      obtain ⟨K2, hK2, h⟩ := jn_some h
      refine AWp.join (α := Unit) (fun (x : Unit) => match x with | () => ⟨62, [], [], [], 0⟩) (fun x => K2 x = some r) ?_ ?_
      ·
        refine q2rq [] [] ⟨62, [(0, q2aW x1), (4, .i (0 : Int))], [], [], 0⟩ trivial ?_
        refine AWp.block ?_
        refine AWp.loopL (α := Nat × Nat) (fun x => match x with | (_, n5) => ⟨62, [(0, q2aW x1), (4, .i (n5 : Int))], [], [], 0⟩) (fun x => f10_L1 x1 K2 x.1 x.2 = some r) (fun x => x.1) (FUEL, 0) (Le.mk (s' := ⟨62, [(0, q2aW x1), (4, .i (0 : Int))], [], [], 0⟩) rfl rfl ⟨.refl _, .refl _, trivial⟩ trivial) h ?_
        rintro ⟨k1, n5⟩ h
        cases k1 with
        | zero => exact nomatch (show (none : Option Int) = some r from h)
        | succ k1 =>
        obtain ⟨C1, hC1⟩ : ∃ C, C = f10_L1 x1 K2 k1 := ⟨_, rfl⟩
        replace h := (f10_L1.eq_2 ..).symm.trans h
        try rw [← hC1] at h
        refine AWp.seq ?_
        refine q2rq [] [] ⟨62, [(0, q2aW x1), (4, .i (n5 : Int)), (39, .bool (decide ((n5 : Int) < (lZ x1))))], [], [], 0⟩ trivial ?_
        refine AWp.cond (b := (decide ((n5 : Int) < (lZ x1)))) (by kernel_rfl) (fun hc5 => ?_) (fun hc5 => ?_)
        ·
          replace h := ite_tb hc5 h
          refine AWp.skip ?_
          refine thenQ_normal ?_
          obtain ⟨K3, hK3, h⟩ := jn_some h
          refine AWp.join (α := Unit) (fun (x : Unit) => match x with | () => ⟨62, [(0, q2aW x1), (4, .i (n5 : Int))], [], [], 0⟩) (fun x => K3 x = some r) ?_ ?_
          ·
            refine AWp.block ?_
            refine q2rq [] [] ⟨62, [(0, q2aW x1), (4, .i (n5 : Int)), (5, .i (0 : Int))], [], [], 0⟩ trivial ?_
            refine AWp.block ?_
            refine AWp.loopL (α := Nat × Nat) (fun x => match x with | (_, n6) => ⟨62, [(0, q2aW x1), (4, .i (n5 : Int)), (5, .i (n6 : Int))], [], [], 0⟩) (fun x => f10_L2 x1 n5 K3 x.1 x.2 = some r) (fun x => x.1) (FUEL, 0) (Le.mk (s' := ⟨62, [(0, q2aW x1), (4, .i (n5 : Int)), (5, .i (0 : Int))], [], [], 0⟩) rfl rfl ⟨.refl _, .refl _, .refl _, trivial⟩ trivial) h ?_
            rintro ⟨k2, n6⟩ h
            cases k2 with
            | zero => exact nomatch (show (none : Option Int) = some r from h)
            | succ k2 =>
            obtain ⟨C2, hC2⟩ : ∃ C, C = f10_L2 x1 n5 K3 k2 := ⟨_, rfl⟩
            replace h := (f10_L2.eq_2 ..).symm.trans h
            try rw [← hC2] at h
            refine AWp.seq ?_
            refine q2rq [] [] ⟨62, [(0, q2aW x1), (4, .i (n5 : Int)), (5, .i (n6 : Int)), (45, .bool (decide ((n6 : Int) < (lZ x1))))], [], [], 0⟩ trivial ?_
            refine AWp.cond (b := (decide ((n6 : Int) < (lZ x1)))) (by kernel_rfl) (fun hc6 => ?_) (fun hc6 => ?_)
            ·
              replace h := ite_tb hc6 h
              refine AWp.skip ?_
              refine thenQ_normal ?_
              refine AWp.seq ?_
              refine AWp.block ?_
              refine AWp.seq ?_
              obtain ⟨r7, hr7, h⟩ := optc_some h
              obtain ⟨ob16, h⟩ := chk_some h
              have ob17 := idA ((f10z1 n5 n6) = true)
              have ob18 := idA ((f10z1 n5 n6) = true)
              have ob19 := idA ((f10z1 n5 n6) = true)
              obtain ⟨ob20, h⟩ := chk_some h
              have ob21 := idA ((f10z1 n5 n6) = true)
              have ob22 := idA ((f10z1 n5 n6) = true)
              have ob23 := idA ((f10z1 n5 n6) = true)
              have ob24 := idA ((f10z1 n5 n6) = true)
              have ob25 := idA ((f10z1 n5 n6) = true)
              have ob26 : true = true → ((n5 : Int) != (n6 : Int)) = true → (f10z1 n5 n6) = true := fun _ h => beq_iff_eq.2 h
              refine q2rr [] [(12, ⟨[.b16 (x1.getD n5 0#16), .b16 (x1.getD n6 0#16)], [], [], [], .bool r7, [], [], []⟩)] ⟨62, [(0, q2aW x1), (4, .i (n5 : Int)), (5, .i (n6 : Int)), (61, .bool (((n5 : Int) != (n6 : Int)) && r7))], [], [], 0⟩ (an6 (And.intro ob16 (an2 ob17 ob18)) (an1 ob19) (And.intro ob20 (an2 ob21 ob22)) (an1 ob23) (And.intro (cpC fun hc => (f28_ok _ _ _ (hr7 hc))) (an2 ob24 ob25)) ob26) ?_
              refine thenQ_normal ?_
              refine AWp.cond (b := (((n5 : Int) != (n6 : Int)) && r7)) (by kernel_rfl) (fun hc7 => ?_) (fun hc7 => ?_)
              ·
                replace h := ite_tb hc7 h
                refine q2rq [] [] ⟨62, [(2, .i (1 : Int))], [], [], 0⟩ trivial ?_
                have hret := Option.some.inj h
                subst hret
                refine AWp.le (Le.mk (s' := ⟨62, [(2, .i (1 : Int))], [], [], 0⟩) rfl rfl ⟨.refl _, trivial⟩ trivial) ?_
                refine AWp.ret ?_
                refine blockQ_ret ?_
                refine thenQ_ret ?_
                refine thenQ_ret ?_
                refine blockQ_ret ?_
                refine blockQ_ret ?_
                refine joinQ_ret ?_
                refine thenQ_ret ?_
                refine blockQ_ret ?_
                refine joinQ_ret ?_
                exact bodyQ_ret _ rfl ⟨rfl, rfl⟩ rfl
              ·
                replace h := ite_fb hc7 h
                refine AWp.skip ?_
                refine blockQ_normal ?_
                refine thenQ_normal ?_
                obtain ⟨ob27p, h⟩ := chk_some h
                have ob27 : -9223372036854775808 ≤ ((n6 : Int) + (1 : Int)) ∧ ((n6 : Int) + (1 : Int)) ≤ 9223372036854775807 := ⟨by omega, ob27p⟩
                refine q2rr [] [] ⟨62, [(0, q2aW x1), (4, .i (n5 : Int)), (5, .i (((n6 + 1) : Nat) : Int))], [], [], 0⟩ (an1 ob27) ?_
                rw [hC2] at h
                exact loopQ_normal (_, (n6 + 1)) (Le.mk rfl rfl ⟨.refl _, .refl _, .refl _, trivial⟩ trivial) h (Nat.lt_succ_self _)
            ·
              replace h := ite_fb hc6 h
              refine AWp.exit ?_
              refine thenQ_exit ?_
              refine thenQ_exit ?_
              refine blockQ_same ?_
              refine blockQ_normal ?_
              exact joinQ_normal () (Le.mk rfl rfl ⟨.refl _, .refl _, trivial⟩ trivial) h
          ·
            rintro ⟨⟩ h
            replace h := (congrFun hK3 _).symm.trans h
            obtain ⟨ob28p, h⟩ := chk_some h
            have ob28 : -9223372036854775808 ≤ ((n5 : Int) + (1 : Int)) ∧ ((n5 : Int) + (1 : Int)) ≤ 9223372036854775807 := ⟨by omega, ob28p⟩
            refine q2rr [] [] ⟨62, [(0, q2aW x1), (4, .i (((n5 + 1) : Nat) : Int))], [], [], 0⟩ (an1 ob28) ?_
            rw [hC1] at h
            exact loopQ_normal (_, (n5 + 1)) (Le.mk rfl rfl ⟨.refl _, .refl _, trivial⟩ trivial) h (Nat.lt_succ_self _)
        ·
          replace h := ite_fb hc5 h
          refine AWp.exit ?_
          refine thenQ_exit ?_
          refine thenQ_exit ?_
          refine blockQ_same ?_
          exact joinQ_normal () (Le.mk rfl rfl trivial trivial) h
      ·
        rintro ⟨⟩ h
        replace h := (congrFun hK2 _).symm.trans h
        refine q2rq [] [] ⟨62, [(2, .i (0 : Int))], [], [], 0⟩ trivial ?_
        have hret := Option.some.inj h
        subst hret
        refine AWp.le (Le.mk (s' := ⟨62, [(2, .i (0 : Int))], [], [], 0⟩) rfl rfl ⟨.refl _, trivial⟩ trivial) ?_
        refine AWp.ret ?_
        exact bodyQ_ret _ rfl ⟨rfl, rfl⟩ rfl
def f6_L0 (x1 : List UInt8) (K1 : (Nat × List (BitVec 16)) → Option (Int × List (BitVec 16))) : Nat → (Nat × Nat × List (BitVec 16)) → Option (Int × List (BitVec 16))
  | 0, _ => none
  | k + 1, (n2, n3, l4) =>
    if (decide ((n3 : Int) < ((x1.length : Nat) : Int))) then (
    jn (fun ((n5, l6) : Nat × List (BitVec 16)) =>
    chk (((n3 : Int) + (1 : Int)) ≤ 9223372036854775807) <|
    (f6_L0 x1 K1 k) (n5, (n3 + 1), l6)
    ) fun (K2 : (Nat × List (BitVec 16)) → Option (Int × List (BitVec 16))) =>
    chk ((n3 : Int) < ((x1.length : Nat) : Int)) <|
    if ((((x1.getD n3 0).toNat : Nat) : Int) != (125 : Int)) then (
    K2 (n2, l4)
    ) else (
    (f22 ((x1.take (n3 + 1)).drop n2)).bind fun (r7 : BitVec 16) =>
    chk (((n3 : Int) + (1 : Int)) ≤ 9223372036854775807) <|
    chk ((n2 : Int) ≤ (((n3 + 1) : Nat) : Int) ∧ (((n3 + 1) : Nat) : Int) ≤ ((x1.length : Nat) : Int)) <|
    chk (((l4).length + 1) * 2 ≤ 140737488355328) <|
    (f23 r7).bind fun (r8 : List UInt8) =>
    optc ((!(r8 == ((x1.take (n3 + 1)).drop n2))) == false) (f24 r7) fun (r9 : Bool) =>
    chk (((n3 : Int) + (1 : Int)) ≤ 9223372036854775807) <|
    chk ((n2 : Int) ≤ (((n3 + 1) : Nat) : Int) ∧ (((n3 + 1) : Nat) : Int) ≤ ((x1.length : Nat) : Int)) <|
    chk ((((!(r8 == ((x1.take (n3 + 1)).drop n2))) || (!r9)) == false) = true → -9223372036854775808 ≤ ((n3 : Int) + (1 : Int)) ∧ ((n3 : Int) + (1 : Int)) ≤ 9223372036854775807) <|
    chk (((((!(r8 == ((x1.take (n3 + 1)).drop n2))) || (!r9)) == false) && ((decide ((((n3 + 1) : Nat) : Int) < ((x1.length : Nat) : Int))) == true)) = true → -9223372036854775808 ≤ ((n3 : Int) + (1 : Int)) ∧ ((n3 : Int) + (1 : Int)) ≤ 9223372036854775807) <|
    chk (((((!(r8 == ((x1.take (n3 + 1)).drop n2))) || (!r9)) == false) && ((decide ((((n3 + 1) : Nat) : Int) < ((x1.length : Nat) : Int))) == true)) = true → 0 ≤ (((n3 + 1) : Nat) : Int) ∧ (((n3 + 1) : Nat) : Int) < ((x1.length : Nat) : Int)) <|
    chk ((((((!(r8 == ((x1.take (n3 + 1)).drop n2))) || (!r9)) == false) && ((decide ((((n3 + 1) : Nat) : Int) < ((x1.length : Nat) : Int))) == true)) && (((((x1.getD (n3 + 1) 0).toNat : Nat) : Int) != (32 : Int)) == false)) = true → -9223372036854775808 ≤ ((n3 : Int) + (2 : Int)) ∧ ((n3 : Int) + (2 : Int)) ≤ 9223372036854775807) <|
    chk (((((!(r8 == ((x1.take (n3 + 1)).drop n2))) || (!r9)) == false) && ((decide ((((n3 + 1) : Nat) : Int) < ((x1.length : Nat) : Int))) == true)) = true → ((((!(r8 == ((x1.take (n3 + 1)).drop n2))) || (!r9)) == false) && ((decide ((((n3 + 1) : Nat) : Int) < ((x1.length : Nat) : Int))) == true)) = true → ((((x1.getD (n3 + 1) 0).toNat : Nat) : Int) != (32 : Int)) = false → (((((!(r8 == ((x1.take (n3 + 1)).drop n2))) || (!r9)) == false) && ((decide ((((n3 + 1) : Nat) : Int) < ((x1.length : Nat) : Int))) == true)) && (((((x1.getD (n3 + 1) 0).toNat : Nat) : Int) != (32 : Int)) == false)) = true) <|
    chk ((((!(r8 == ((x1.take (n3 + 1)).drop n2))) || (!r9)) == false) = true → (((!(r8 == ((x1.take (n3 + 1)).drop n2))) || (!r9)) == false) = true → (decide ((((n3 + 1) : Nat) : Int) < ((x1.length : Nat) : Int))) = true → ((((!(r8 == ((x1.take (n3 + 1)).drop n2))) || (!r9)) == false) && ((decide ((((n3 + 1) : Nat) : Int) < ((x1.length : Nat) : Int))) == true)) = true) <|
    if (((!(r8 == ((x1.take (n3 + 1)).drop n2))) || (!r9)) || ((decide ((((n3 + 1) : Nat) : Int) < ((x1.length : Nat) : Int))) && (((((x1.getD (n3 + 1) 0).toNat : Nat) : Int) != (32 : Int)) || ((((n3 + 2) : Nat) : Int) == ((x1.length : Nat) : Int))))) then (
    some ((2 : Int), [])
    ) else (
    chk (((n3 : Int) + (2 : Int)) ≤ 9223372036854775807) <|
    K2 ((n3 + 2), (l4 ++ [r7]))
    )
    )
    ) else (
    K1 (n2, l4)
    )
theorem f6_L0_e2 (x1 : List UInt8) (K1 : (Nat × List (BitVec 16)) → Option (Int × List (BitVec 16))) (k : Nat) (n2 : Nat) (n3 : Nat) (l4 : List (BitVec 16)) : f6_L0 x1 K1 (k + 1) (n2, n3, l4) =
    if (decide ((n3 : Int) < ((x1.length : Nat) : Int))) then (
    jn (fun ((n5, l6) : Nat × List (BitVec 16)) =>
    chk (((n3 : Int) + (1 : Int)) ≤ 9223372036854775807) <|
    (f6_L0 x1 K1 k) (n5, (n3 + 1), l6)
    ) fun (K2 : (Nat × List (BitVec 16)) → Option (Int × List (BitVec 16))) =>
    chk ((n3 : Int) < ((x1.length : Nat) : Int)) <|
    if ((((x1.getD n3 0).toNat : Nat) : Int) != (125 : Int)) then (
    K2 (n2, l4)
    ) else (
    (f22 ((x1.take (n3 + 1)).drop n2)).bind fun (r7 : BitVec 16) =>
    chk (((n3 : Int) + (1 : Int)) ≤ 9223372036854775807) <|
    chk ((n2 : Int) ≤ (((n3 + 1) : Nat) : Int) ∧ (((n3 + 1) : Nat) : Int) ≤ ((x1.length : Nat) : Int)) <|
    chk (((l4).length + 1) * 2 ≤ 140737488355328) <|
    (f23 r7).bind fun (r8 : List UInt8) =>
    optc ((!(r8 == ((x1.take (n3 + 1)).drop n2))) == false) (f24 r7) fun (r9 : Bool) =>
    chk (((n3 : Int) + (1 : Int)) ≤ 9223372036854775807) <|
    chk ((n2 : Int) ≤ (((n3 + 1) : Nat) : Int) ∧ (((n3 + 1) : Nat) : Int) ≤ ((x1.length : Nat) : Int)) <|
    chk ((((!(r8 == ((x1.take (n3 + 1)).drop n2))) || (!r9)) == false) = true → -9223372036854775808 ≤ ((n3 : Int) + (1 : Int)) ∧ ((n3 : Int) + (1 : Int)) ≤ 9223372036854775807) <|
    chk (((((!(r8 == ((x1.take (n3 + 1)).drop n2))) || (!r9)) == false) && ((decide ((((n3 + 1) : Nat) : Int) < ((x1.length : Nat) : Int))) == true)) = true → -9223372036854775808 ≤ ((n3 : Int) + (1 : Int)) ∧ ((n3 : Int) + (1 : Int)) ≤ 9223372036854775807) <|
    chk (((((!(r8 == ((x1.take (n3 + 1)).drop n2))) || (!r9)) == false) && ((decide ((((n3 + 1) : Nat) : Int) < ((x1.length : Nat) : Int))) == true)) = true → 0 ≤ (((n3 + 1) : Nat) : Int) ∧ (((n3 + 1) : Nat) : Int) < ((x1.length : Nat) : Int)) <|
    chk ((((((!(r8 == ((x1.take (n3 + 1)).drop n2))) || (!r9)) == false) && ((decide ((((n3 + 1) : Nat) : Int) < ((x1.length : Nat) : Int))) == true)) && (((((x1.getD (n3 + 1) 0).toNat : Nat) : Int) != (32 : Int)) == false)) = true → -9223372036854775808 ≤ ((n3 : Int) + (2 : Int)) ∧ ((n3 : Int) + (2 : Int)) ≤ 9223372036854775807) <|
    chk (((((!(r8 == ((x1.take (n3 + 1)).drop n2))) || (!r9)) == false) && ((decide ((((n3 + 1) : Nat) : Int) < ((x1.length : Nat) : Int))) == true)) = true → ((((!(r8 == ((x1.take (n3 + 1)).drop n2))) || (!r9)) == false) && ((decide ((((n3 + 1) : Nat) : Int) < ((x1.length : Nat) : Int))) == true)) = true → ((((x1.getD (n3 + 1) 0).toNat : Nat) : Int) != (32 : Int)) = false → (((((!(r8 == ((x1.take (n3 + 1)).drop n2))) || (!r9)) == false) && ((decide ((((n3 + 1) : Nat) : Int) < ((x1.length : Nat) : Int))) == true)) && (((((x1.getD (n3 + 1) 0).toNat : Nat) : Int) != (32 : Int)) == false)) = true) <|
    chk ((((!(r8 == ((x1.take (n3 + 1)).drop n2))) || (!r9)) == false) = true → (((!(r8 == ((x1.take (n3 + 1)).drop n2))) || (!r9)) == false) = true → (decide ((((n3 + 1) : Nat) : Int) < ((x1.length : Nat) : Int))) = true → ((((!(r8 == ((x1.take (n3 + 1)).drop n2))) || (!r9)) == false) && ((decide ((((n3 + 1) : Nat) : Int) < ((x1.length : Nat) : Int))) == true)) = true) <|
    if (((!(r8 == ((x1.take (n3 + 1)).drop n2))) || (!r9)) || ((decide ((((n3 + 1) : Nat) : Int) < ((x1.length : Nat) : Int))) && (((((x1.getD (n3 + 1) 0).toNat : Nat) : Int) != (32 : Int)) || ((((n3 + 2) : Nat) : Int) == ((x1.length : Nat) : Int))))) then (
    some ((2 : Int), [])
    ) else (
    chk (((n3 : Int) + (2 : Int)) ≤ 9223372036854775807) <|
    K2 ((n3 + 2), (l4 ++ [r7]))
    )
    )
    ) else (
    K1 (n2, l4)
    ) := rfl
abbrev f6z0 : Heap := [(3000, bL 30 1 eW 0#16 [])]
abbrev f6z1 (x1 : List UInt8) (n2 : Nat) (n3 : Nat) (r7 : BitVec 16) : List (Nat × V) := [(0, .str x1), (4, .own 5004), (5, .int .i64 (n2 : Int)), (6, .int .i64 (n3 : Int)), (7, .b16 r7)]
abbrev f6z2 : List (Nat × V) := [(2, .own 3000), (3, .int .i64 (0 : Int))]
abbrev f6z3 : List (Nat × V) := [(2, .own 3000), (3, .int .i64 (2 : Int))]
abbrev f6z4 : List (Nat × V) := [(2, .nils), (3, .int .i64 (2 : Int))]
abbrev f6z5 (l11 : List (BitVec 16)) : Heap := [(5004, bL 30 1 eW 0#16 l11)]
def f6 (x1 : List UInt8) : Option (Int × List (BitVec 16)) :=
  if (x1 == []) then (
  some ((0 : Int), [])
  ) else (
  jn (fun ((n10, l11) : Nat × List (BitVec 16)) =>
  chk ((((x1.length : Nat) : Int) + (1 : Int)) ≤ 9223372036854775807) <|
  if ((n10 : Int) != (((x1.length + 1) : Nat) : Int)) then (
  some ((2 : Int), [])
  ) else (
  (f10 l11).bind fun (r12 : Int) =>
  if (r12 != (0 : Int)) then (
  some (r12, [])
  ) else (
  some ((0 : Int), l11)
  )
  )
  ) fun (K1 : (Nat × List (BitVec 16)) → Option (Int × List (BitVec 16))) =>
  f6_L0 x1 K1 FUEL (0, 0, [])
  )
set_option maxRecDepth 100000 in
theorem f6_ok  (x1 : List UInt8) (r : Int × List (BitVec 16)) (h : f6 x1 = some r)  : Spec1 Tryz.prog 6 [] [] [] [.str x1] (.tup [.own 3000, .int .i64 r.1]) [(3000, bL 30 1 eW 0#16 r.2)] := by
  unfold f6 at h
  refine Spec1.body 0 _ _ Tryz.func6 rfl Tryz.ntmps6 rfl rfl ?_
  refine q2rq [] [] ⟨79, [(0, .str x1)], [], [], 0⟩ trivial ?_
  refine q2rq [] [] ⟨79, [(0, .str x1), (4, .nils)], [], [], 0⟩ trivial ?_
  refine AWp.seq ?_
  refine q2rq [] [] ⟨79, [(0, .str x1), (4, .nils), (10, .bool (x1 == []))], [], [], 0⟩ trivial ?_
  refine AWp.cond (b := (x1 == [])) (by kernel_rfl) (fun hc1 => ?_) (fun hc1 => ?_)
  ·
    replace h := ite_tb hc1 h
    refine q2rq [] [] ⟨79, [(2, .nils), (3, .i (0 : Int))], [], [], 0⟩ trivial ?_
    refine AWp.le (Le.trans (Le.nilOwn 2 3000 30 1 (encF eW 0#16 []) rfl rfl (Nat.le_of_ble_eq_true rfl)) (Le.mk (s' := ⟨79, (f6z2), (f6z0), [], 0⟩) rfl rfl ⟨.refl _, .refl _, trivial⟩ ⟨⟨_, rfl, .refl _⟩, trivial⟩)) ?_
    have hret := Option.some.inj h
    subst hret
    refine AWp.le (Le.mk (s' := ⟨79, (f6z2), (f6z0), [], 0⟩) rfl rfl ⟨.refl _, .refl _, trivial⟩ ⟨⟨_, rfl, .refl _⟩, trivial⟩) ?_
    refine AWp.ret ?_
    refine thenQ_ret ?_
    exact bodyQ_ret _ rfl ⟨rfl, rfl⟩ rfl
  ·
    replace h := ite_fb hc1 h
    refine AWp.skip ?_
    refine thenQ_normal ?_
    refine q2rq [] [] ⟨79, [(0, .str x1), (4, .nils), (5, .i (0 : Int))], [], [], 0⟩ trivial ?_
    obtain ⟨K1, hK1, h⟩ := jn_some h
    refine AWp.join (α := Nat × List (BitVec 16)) (fun (x : Nat × List (BitVec 16)) => match x with | (n10, l11) => ⟨79, [(0, .str x1), (4, .own 5004), (5, .i (n10 : Int))], (f6z5 l11), [], 0⟩) (fun x => K1 x = some r) ?_ ?_
    ·
      refine q2rq [] [] ⟨79, [(0, .str x1), (4, .nils), (5, .i (0 : Int)), (6, .i (0 : Int))], [], [], 0⟩ trivial ?_
      refine AWp.block ?_
      refine AWp.loopL (α := Nat × (Nat × Nat × List (BitVec 16))) (fun x => match x with | (_, n2, n3, l4) => ⟨79, [(0, .str x1), (4, .own 5004), (5, .i (n2 : Int)), (6, .i (n3 : Int))], [(5004, q2bW_30 l4)], [], 0⟩) (fun x => f6_L0 x1 K1 x.1 x.2 = some r) (fun x => x.1) (FUEL, 0, 0, []) (Le.trans (Le.trans (Le.nilOwn 4 5004 30 1 (encF eW 0#16 []) rfl rfl (Nat.le_of_ble_eq_true rfl)) (Le.mk (s' := ⟨79, [(0, .str x1), (4, .own 5004), (5, .i (0 : Int)), (6, .i (0 : Int))], [(5004, q2bW_30 [])], [], 0⟩) rfl rfl ⟨.refl _, .refl _, .refl _, .refl _, trivial⟩ ⟨⟨_, rfl, .refl _⟩, trivial⟩)) (Le.mk (s' := ⟨79, [(0, .str x1), (4, .own 5004), (5, .i (0 : Int)), (6, .i (0 : Int))], [(5004, q2bW_30 [])], [], 0⟩) rfl rfl ⟨.refl _, .refl _, .refl _, .refl _, trivial⟩ ⟨⟨_, rfl, .refl _⟩, trivial⟩)) h ?_
      rintro ⟨k0, n2, n3, l4⟩ h
      cases k0 with
      | zero => exact nomatch (show (none : Option (Int × List (BitVec 16))) = some r from h)
      | succ k0 =>
      obtain ⟨C0, hC0⟩ : ∃ C, C = f6_L0 x1 K1 k0 := ⟨_, rfl⟩
      replace h := (f6_L0_e2 ..).symm.trans h
      try rw [← hC0] at h
      refine AWp.seq ?_
      refine q2rq [] [] ⟨79, [(0, .str x1), (4, .own 5004), (5, .i (n2 : Int)), (6, .i (n3 : Int)), (15, .bool (decide ((n3 : Int) < (lZ x1))))], [(5004, q2bW_30 l4)], [], 0⟩ trivial ?_
      refine AWp.cond (b := (decide ((n3 : Int) < (lZ x1)))) (by kernel_rfl) (fun hc2 => ?_) (fun hc2 => ?_)
      ·
        replace h := ite_tb hc2 h
        refine AWp.skip ?_
        refine thenQ_normal ?_
        obtain ⟨K2, hK2, h⟩ := jn_some h
        refine AWp.join (α := Nat × List (BitVec 16)) (fun (x : Nat × List (BitVec 16)) => match x with | (n5, l6) => ⟨79, [(0, .str x1), (4, .own 5004), (5, .i (n5 : Int)), (6, .i (n3 : Int))], [(5004, q2bW_30 l6)], [], 0⟩) (fun x => K2 x = some r) ?_ ?_
        ·
          refine AWp.block ?_
          refine AWp.seq ?_
          refine AWp.seq ?_
          obtain ⟨ob0p, h⟩ := chk_some h
          have ob0 : 0 ≤ (n3 : Int) ∧ (n3 : Int) < ((x1.length : Nat) : Int) := ⟨by omega, ob0p⟩
          refine q2rr [] [] ⟨79, [(0, .str x1), (4, .own 5004), (5, .i (n2 : Int)), (6, .i (n3 : Int)), (21, .bool ((((x1.getD n3 0).toNat : Nat) : Int) != (125 : Int)))], [(5004, q2bW_30 l4)], [], 0⟩ (an1 ob0) ?_
          refine thenQ_normal ?_
          refine AWp.cond (b := ((((x1.getD n3 0).toNat : Nat) : Int) != (125 : Int))) (by kernel_rfl) (fun hc3 => ?_) (fun hc3 => ?_)
          ·
            replace h := ite_tb hc3 h
            refine AWp.exit ?_
            refine thenQ_exit ?_
            refine blockQ_same ?_
            exact joinQ_normal (n2, l4) (Le.mk rfl rfl ⟨.refl _, .refl _, .refl _, .refl _, trivial⟩ ⟨⟨_, rfl, .refl _⟩, trivial⟩) h
          ·
            replace h := ite_fb hc3 h
            refine AWp.skip ?_
            refine thenQ_normal ?_
            refine AWp.seq ?_
            obtain ⟨r7, hr7, h⟩ := bind_ok h
            obtain ⟨ob1p, h⟩ := chk_some h
            have ob1 : -9223372036854775808 ≤ ((n3 : Int) + (1 : Int)) ∧ ((n3 : Int) + (1 : Int)) ≤ 9223372036854775807 := ⟨by omega, ob1p⟩
            obtain ⟨ob2p, h⟩ := chk_some h
            have ob2 : 0 ≤ (n2 : Int) ∧ (n2 : Int) ≤ (((n3 + 1) : Nat) : Int) ∧ (((n3 + 1) : Nat) : Int) ≤ ((x1.length : Nat) : Int) := ⟨by omega, ob2p.1, ob2p.2⟩
            refine q2rr [] [(5, ⟨[.str ((x1.take (n3 + 1)).drop n2)], [], [], [], .b16 r7, [], [], []⟩)] ⟨79, (f6z1 x1 n2 n3 r7), [(5004, q2bW_30 l4)], [], 0⟩ (an3 ob1 ob2 (cpT (f22_ok _ _ hr7))) ?_
            refine thenQ_normal ?_
            refine AWp.seq ?_
            obtain ⟨ob3, h⟩ := chk_some h
            refine q2rr [] [] ⟨79, (f6z1 x1 n2 n3 r7), [(5004, .rows 30 1 ((l4).length + 1) (appF (l4).length (encF eW 0#16 l4) (lstF 1 [.b16 r7])))], [], 0⟩ (an1 ob3) ?_
            refine thenQ_normal ?_
            refine AWp.le (Le.mk (s' := ⟨79, (f6z1 x1 n2 n3 r7), [(5004, q2bW_30 (l4 ++ [r7]))], [], 0⟩) rfl rfl ⟨.refl _, .refl _, .refl _, .refl _, .refl _, trivial⟩ ⟨⟨_, rfl, (BLe.of (RL.app (RL.self _) (RL.lst (enc := eW) [r7] rfl rfl (fun _ => rfl))))⟩, trivial⟩) ?_
            refine AWp.seq ?_
            refine AWp.seq ?_
            obtain ⟨r8, hr8, h⟩ := bind_ok h
            obtain ⟨r9, hr9, h⟩ := optc_some h
            obtain ⟨ob4p, h⟩ := chk_some h
            have ob4 : -9223372036854775808 ≤ ((n3 : Int) + (1 : Int)) ∧ ((n3 : Int) + (1 : Int)) ≤ 9223372036854775807 := ⟨by omega, ob4p⟩
            obtain ⟨ob5p, h⟩ := chk_some h
            have ob5 : 0 ≤ (n2 : Int) ∧ (n2 : Int) ≤ (((n3 + 1) : Nat) : Int) ∧ (((n3 + 1) : Nat) : Int) ≤ ((x1.length : Nat) : Int) := ⟨by omega, ob5p.1, ob5p.2⟩
            have ob6 := idA (((!(r8 == ((x1.take (n3 + 1)).drop n2))) == false) = true)
            have ob7 := idA (((!(r8 == ((x1.take (n3 + 1)).drop n2))) == false) = true)
            have ob8 := bqA (!(r8 == ((x1.take (n3 + 1)).drop n2))) false
            obtain ⟨ob9, h⟩ := chk_some h
            have ob10 := idA ((((!(r8 == ((x1.take (n3 + 1)).drop n2))) || (!r9)) == false) = true)
            have ob11 := idA ((((!(r8 == ((x1.take (n3 + 1)).drop n2))) || (!r9)) == false) = true)
            have ob12 := idA ((((!(r8 == ((x1.take (n3 + 1)).drop n2))) || (!r9)) == false) = true)
            have ob13 := idA ((((!(r8 == ((x1.take (n3 + 1)).drop n2))) || (!r9)) == false) = true)
            have ob14 := idA ((((!(r8 == ((x1.take (n3 + 1)).drop n2))) || (!r9)) == false) = true)
            obtain ⟨ob15, h⟩ := chk_some h
            have ob16 := idA (((((!(r8 == ((x1.take (n3 + 1)).drop n2))) || (!r9)) == false) && ((decide ((((n3 + 1) : Nat) : Int) < (lZ x1))) == true)) = true)
            obtain ⟨ob17, h⟩ := chk_some h
            have ob18 := idA (((((!(r8 == ((x1.take (n3 + 1)).drop n2))) || (!r9)) == false) && ((decide ((((n3 + 1) : Nat) : Int) < (lZ x1))) == true)) = true)
            have ob19 := idA (((((!(r8 == ((x1.take (n3 + 1)).drop n2))) || (!r9)) == false) && ((decide ((((n3 + 1) : Nat) : Int) < (lZ x1))) == true)) = true)
            have ob20 := idA (((((!(r8 == ((x1.take (n3 + 1)).drop n2))) || (!r9)) == false) && ((decide ((((n3 + 1) : Nat) : Int) < (lZ x1))) == true)) = true)
            have ob21 := idA (((((!(r8 == ((x1.take (n3 + 1)).drop n2))) || (!r9)) == false) && ((decide ((((n3 + 1) : Nat) : Int) < (lZ x1))) == true)) = true)
            obtain ⟨ob22, h⟩ := chk_some h
            have ob23 := idA ((((((!(r8 == ((x1.take (n3 + 1)).drop n2))) || (!r9)) == false) && ((decide ((((n3 + 1) : Nat) : Int) < (lZ x1))) == true)) && (((((x1.getD (n3 + 1) 0).toNat : Nat) : Int) != (32 : Int)) == false)) = true)
            have ob24 := idA ((((((!(r8 == ((x1.take (n3 + 1)).drop n2))) || (!r9)) == false) && ((decide ((((n3 + 1) : Nat) : Int) < (lZ x1))) == true)) && (((((x1.getD (n3 + 1) 0).toNat : Nat) : Int) != (32 : Int)) == false)) = true)
            have ob25 := idA ((((((!(r8 == ((x1.take (n3 + 1)).drop n2))) || (!r9)) == false) && ((decide ((((n3 + 1) : Nat) : Int) < (lZ x1))) == true)) && (((((x1.getD (n3 + 1) 0).toNat : Nat) : Int) != (32 : Int)) == false)) = true)
            have ob26 := idA ((((((!(r8 == ((x1.take (n3 + 1)).drop n2))) || (!r9)) == false) && ((decide ((((n3 + 1) : Nat) : Int) < (lZ x1))) == true)) && (((((x1.getD (n3 + 1) 0).toNat : Nat) : Int) != (32 : Int)) == false)) = true)
            obtain ⟨ob27, h⟩ := chk_some h
            have ob28 := idA (((((!(r8 == ((x1.take (n3 + 1)).drop n2))) || (!r9)) == false) && ((decide ((((n3 + 1) : Nat) : Int) < (lZ x1))) == true)) = true)
            obtain ⟨ob29, h⟩ := chk_some h
            have ob30 := idA ((((!(r8 == ((x1.take (n3 + 1)).drop n2))) || (!r9)) == false) = true)
            have ob31 := bqA ((!(r8 == ((x1.take (n3 + 1)).drop n2))) || (!r9)) false
            refine q2rr [] [(1, ⟨[.b16 r7], [], [], [], .str r8, [], [], []⟩), (10, ⟨[.b16 r7], [], [], [], .bool r9, [], [], []⟩)] ⟨79, [(0, .str x1), (4, .own 5004), (6, .i (n3 : Int)), (65, .bool (((!(r8 == ((x1.take (n3 + 1)).drop n2))) || (!r9)) || ((decide ((((n3 + 1) : Nat) : Int) < (lZ x1))) && (((((x1.getD (n3 + 1) 0).toNat : Nat) : Int) != (32 : Int)) || ((((n3 + 2) : Nat) : Int) == (lZ x1))))))], [(5004, q2bW_30 (l4 ++ [r7]))], [], 0⟩ (ac6 (cpT (f23_ok _ _ hr8)) ob4 ob5 (And.intro (cpC fun hc => (f24_ok _ _ (hr9 hc))) (an1 ob6)) (an1 ob7) ob8 (ac6 (And.intro ob9 (an1 ob10)) (an1 ob11) (an2 ob12 ob13) (an1 ob14) (And.intro ob15 (an1 ob16)) (And.intro ob17 (an2 ob18 ob19)) (ac6 (an1 ob20) (an1 ob21) (And.intro ob22 (an1 ob23)) (an1 ob24) (an2 ob25 ob26) (And.intro ob27 (an1 ob28)) (an2 (And.intro ob29 (an1 ob30)) ob31)))) ?_
            refine thenQ_normal ?_
            refine AWp.cond (b := (((!(r8 == ((x1.take (n3 + 1)).drop n2))) || (!r9)) || ((decide ((((n3 + 1) : Nat) : Int) < (lZ x1))) && (((((x1.getD (n3 + 1) 0).toNat : Nat) : Int) != (32 : Int)) || ((((n3 + 2) : Nat) : Int) == (lZ x1)))))) (by kernel_rfl) (fun hc4 => ?_) (fun hc4 => ?_)
            ·
              replace h := ite_tb hc4 h
              refine q2rq [] [] ⟨79, (f6z4), [], [], 0⟩ trivial ?_
              refine AWp.le (Le.trans (Le.nilOwn 2 3000 30 1 (encF eW 0#16 []) rfl rfl (Nat.le_of_ble_eq_true rfl)) (Le.mk (s' := ⟨79, (f6z3), (f6z0), [], 0⟩) rfl rfl ⟨.refl _, .refl _, trivial⟩ ⟨⟨_, rfl, .refl _⟩, trivial⟩)) ?_
              have hret := Option.some.inj h
              subst hret
              refine AWp.le (Le.mk (s' := ⟨79, (f6z3), (f6z0), [], 0⟩) rfl rfl ⟨.refl _, .refl _, trivial⟩ ⟨⟨_, rfl, .refl _⟩, trivial⟩) ?_
              refine AWp.ret ?_
              refine thenQ_ret ?_
              refine blockQ_ret ?_
              refine joinQ_ret ?_
              refine thenQ_ret ?_
              refine blockQ_ret ?_
              refine joinQ_ret ?_
              exact bodyQ_ret _ rfl ⟨rfl, rfl⟩ rfl
            ·
              replace h := ite_fb hc4 h
              refine AWp.skip ?_
              refine thenQ_normal ?_
              obtain ⟨ob32p, h⟩ := chk_some h
              have ob32 : -9223372036854775808 ≤ ((n3 : Int) + (2 : Int)) ∧ ((n3 : Int) + (2 : Int)) ≤ 9223372036854775807 := ⟨by omega, ob32p⟩
              refine q2rr [] [] ⟨79, [(0, .str x1), (4, .own 5004), (5, .i (((n3 + 2) : Nat) : Int)), (6, .i (n3 : Int))], [(5004, q2bW_30 (l4 ++ [r7]))], [], 0⟩ (an1 ob32) ?_
              refine blockQ_normal ?_
              exact joinQ_normal ((n3 + 2), (l4 ++ [r7])) (Le.mk rfl rfl ⟨.refl _, .refl _, .refl _, .refl _, trivial⟩ ⟨⟨_, rfl, .refl _⟩, trivial⟩) h
        ·
          rintro ⟨n5, l6⟩ h
          replace h := (congrFun hK2 _).symm.trans h
          obtain ⟨ob33p, h⟩ := chk_some h
          have ob33 : -9223372036854775808 ≤ ((n3 : Int) + (1 : Int)) ∧ ((n3 : Int) + (1 : Int)) ≤ 9223372036854775807 := ⟨by omega, ob33p⟩
          refine q2rr [] [] ⟨79, [(0, .str x1), (4, .own 5004), (5, .i (n5 : Int)), (6, .i (((n3 + 1) : Nat) : Int))], [(5004, q2bW_30 l6)], [], 0⟩ (an1 ob33) ?_
          rw [hC0] at h
          exact loopQ_normal (_, n5, (n3 + 1), l6) (Le.mk rfl rfl ⟨.refl _, .refl _, .refl _, .refl _, trivial⟩ ⟨⟨_, rfl, .refl _⟩, trivial⟩) h (Nat.lt_succ_self _)
      ·
        replace h := ite_fb hc2 h
        refine AWp.exit ?_
        refine thenQ_exit ?_
        refine thenQ_exit ?_
        refine blockQ_same ?_
        exact joinQ_normal (n2, l4) (Le.mk rfl rfl ⟨.refl _, .refl _, .refl _, trivial⟩ ⟨⟨_, rfl, .refl _⟩, trivial⟩) h
    ·
      rintro ⟨n10, l11⟩ h
      replace h := (congrFun hK1 _).symm.trans h
      refine AWp.seq ?_
      refine AWp.seq ?_
      obtain ⟨ob34p, h⟩ := chk_some h
      have ob34 : -9223372036854775808 ≤ (((x1.length : Nat) : Int) + (1 : Int)) ∧ (((x1.length : Nat) : Int) + (1 : Int)) ≤ 9223372036854775807 := ⟨by omega, ob34p⟩
      refine q2rr [] [] ⟨79, [(4, .own 5004), (72, .bool ((n10 : Int) != (((x1.length + 1) : Nat) : Int)))], (f6z5 l11), [], 0⟩ (an1 ob34) ?_
      refine thenQ_normal ?_
      refine AWp.cond (b := ((n10 : Int) != (((x1.length + 1) : Nat) : Int))) (by kernel_rfl) (fun hc5 => ?_) (fun hc5 => ?_)
      ·
        replace h := ite_tb hc5 h
        refine q2rq [] [] ⟨79, (f6z4), [], [], 0⟩ trivial ?_
        refine AWp.le (Le.trans (Le.nilOwn 2 3000 30 1 (encF eW 0#16 []) rfl rfl (Nat.le_of_ble_eq_true rfl)) (Le.mk (s' := ⟨79, (f6z3), (f6z0), [], 0⟩) rfl rfl ⟨.refl _, .refl _, trivial⟩ ⟨⟨_, rfl, .refl _⟩, trivial⟩)) ?_
        have hret := Option.some.inj h
        subst hret
        refine AWp.le (Le.mk (s' := ⟨79, (f6z3), (f6z0), [], 0⟩) rfl rfl ⟨.refl _, .refl _, trivial⟩ ⟨⟨_, rfl, .refl _⟩, trivial⟩) ?_
        refine AWp.ret ?_
        refine thenQ_ret ?_
        exact bodyQ_ret _ rfl ⟨rfl, rfl⟩ rfl
      ·
        replace h := ite_fb hc5 h
        refine AWp.skip ?_
        refine thenQ_normal ?_
        refine AWp.seq ?_
        refine AWp.seq ?_
        obtain ⟨r12, hr12, h⟩ := bind_ok h
        refine q2rr [] [(1, ⟨[q2aW l11], [], [], [], .i r12, [], [5004], []⟩)] ⟨79, [(4, .own 5004), (8, .i r12)], (f6z5 l11), [], 0⟩ (an1 (cpL (c := true) (f6z5 l11) [5004] [.own 5004] (fun _ => (f10_ok _ _ hr12)) (fun _ => ⟨.refl _, trivial⟩) (.inr ⟨rfl, trivial⟩))) ?_
        refine thenQ_normal ?_
        refine q2rq [] [] ⟨79, [(4, .own 5004), (8, .i r12), (76, .bool (r12 != (0 : Int)))], (f6z5 l11), [], 0⟩ trivial ?_
        refine AWp.cond (b := (r12 != (0 : Int))) (by kernel_rfl) (fun hc6 => ?_) (fun hc6 => ?_)
        ·
          replace h := ite_tb hc6 h
          refine q2rq [] [] ⟨79, [(2, .nils), (3, .i r12)], [], [], 0⟩ trivial ?_
          refine AWp.le (Le.trans (Le.nilOwn 2 3000 30 1 (encF eW 0#16 []) rfl rfl (Nat.le_of_ble_eq_true rfl)) (Le.mk (s' := ⟨79, [(2, .own 3000), (3, .i r12)], (f6z0), [], 0⟩) rfl rfl ⟨.refl _, .refl _, trivial⟩ ⟨⟨_, rfl, .refl _⟩, trivial⟩)) ?_
          have hret := Option.some.inj h
          subst hret
          refine AWp.le (Le.mk (s' := ⟨79, [(2, .own 3000), (3, .i r12)], (f6z0), [], 0⟩) rfl rfl ⟨.refl _, .refl _, trivial⟩ ⟨⟨_, rfl, .refl _⟩, trivial⟩) ?_
          refine AWp.ret ?_
          refine thenQ_ret ?_
          exact bodyQ_ret _ rfl ⟨rfl, rfl⟩ rfl
        ·
          replace h := ite_fb hc6 h
          refine AWp.skip ?_
          refine thenQ_normal ?_
          refine q2rq [] [] ⟨79, [(2, .own 5004), (3, .i (0 : Int))], (f6z5 l11), [], 0⟩ trivial ?_
          refine AWp.le (Le.trans (Le.ren (swapN 5004 3000) (swapN_inv 5004 3000) rfl) (Le.mk (s' := ⟨79, (f6z2), [(3000, q2bW_30 l11)], [], 0⟩) rfl rfl ⟨.refl _, .refl _, trivial⟩ ⟨⟨_, rfl, .refl _⟩, trivial⟩)) ?_
          have hret := Option.some.inj h
          subst hret
          refine AWp.le (Le.mk (s' := ⟨79, (f6z2), [(3000, q2bW_30 l11)], [], 0⟩) rfl rfl ⟨.refl _, .refl _, trivial⟩ ⟨⟨_, rfl, .refl _⟩, trivial⟩) ?_
          refine AWp.ret ?_
          exact bodyQ_ret _ rfl ⟨rfl, rfl⟩ rfl
def f9_L0 (x1 : List (BitVec 16)) (K1 : (List UInt8) → Option (List UInt8)) : Nat → (List UInt8 × Nat) → Option (List UInt8)
  | 0, _ => none
  | k + 1, (s2, n3) =>
    if (decide ((n3 : Int) < (((x1).length : Nat) : Int))) then (
    jn (fun (s4 : List UInt8) =>
    (f23 (x1.getD n3 0#16)).bind fun (r5 : List UInt8) =>
    chk ((n3 : Int) < (((x1).length : Nat) : Int)) <|
    chk (s4.length + r5.length ≤ 9223372036854775807) <|
    chk (((n3 : Int) + (1 : Int)) ≤ 9223372036854775807) <|
    (f9_L0 x1 K1 k) ((s4 ++ r5), (n3 + 1))
    ) fun (K2 : (List UInt8) → Option (List UInt8)) =>
    if (decide ((n3 : Int) > (0 : Int))) then (
    chk (s2.length + ([32] : List UInt8).length ≤ 9223372036854775807) <|
    K2 (s2 ++ ([32] : List UInt8))
    ) else (
    K2 s2
    )
    ) else (
    K1 s2
    )
def f9 (x1 : List (BitVec 16)) : Option (List UInt8) :=
  jn (fun (s6 : List UInt8) =>
  some s6
  ) fun (K1 : (List UInt8) → Option (List UInt8)) =>
  f9_L0 x1 K1 FUEL ([], 0)
set_option maxRecDepth 100000 in
theorem f9_ok  (x1 : List (BitVec 16)) (r : List UInt8) (h : f9 x1 = some r)  : Spec1 Tryz.prog 9 [] [] [] [vL 1 eW 0#16 x1] (.str r) [] := by
  unfold f9 at h
  refine Spec1.body 0 _ _ Tryz.func9 rfl Tryz.ntmps9 rfl rfl ?_
  refine q2rq [] [] ⟨23, [(0, q2aW x1)], [], [], 0⟩ trivial ?_
  refine q2rq [] [] ⟨23, [(0, q2aW x1), (3, .str [])], [], [], 0⟩ trivial ?_
  obtain ⟨K1, hK1, h⟩ := jn_some h
  refine AWp.join (α := List UInt8) (fun (s6 : List UInt8) => ⟨23, [(3, .str s6)], [], [], 0⟩) (fun x => K1 x = some r) ?_ ?_
  ·
    refine q2rq [] [] ⟨23, [(0, q2aW x1), (3, .str []), (4, .i (0 : Int))], [], [], 0⟩ trivial ?_
    refine AWp.block ?_
    refine AWp.loopL (α := Nat × (List UInt8 × Nat)) (fun x => match x with | (_, s2, n3) => ⟨23, [(0, q2aW x1), (3, .str s2), (4, .i (n3 : Int))], [], [], 0⟩) (fun x => f9_L0 x1 K1 x.1 x.2 = some r) (fun x => x.1) (FUEL, [], 0) (Le.mk (s' := ⟨23, [(0, q2aW x1), (3, .str []), (4, .i (0 : Int))], [], [], 0⟩) rfl rfl ⟨.refl _, .refl _, .refl _, trivial⟩ trivial) h ?_
    rintro ⟨k0, s2, n3⟩ h
    cases k0 with
    | zero => exact nomatch (show (none : Option (List UInt8)) = some r from h)
    | succ k0 =>
    obtain ⟨C0, hC0⟩ : ∃ C, C = f9_L0 x1 K1 k0 := ⟨_, rfl⟩
    replace h := (f9_L0.eq_2 ..).symm.trans h
    try rw [← hC0] at h
    refine AWp.seq ?_
    refine q2rq [] [] ⟨23, [(0, q2aW x1), (3, .str s2), (4, .i (n3 : Int)), (8, .bool (decide ((n3 : Int) < (lZ x1))))], [], [], 0⟩ trivial ?_
    refine AWp.cond (b := (decide ((n3 : Int) < (lZ x1)))) (by kernel_rfl) (fun hc1 => ?_) (fun hc1 => ?_)
    ·
      replace h := ite_tb hc1 h
      refine AWp.skip ?_
      refine thenQ_normal ?_
      refine AWp.seq ?_
      refine AWp.block ?_
      obtain ⟨K2, hK2, h⟩ := jn_some h
      refine AWp.join (α := List UInt8) (fun (s4 : List UInt8) => ⟨23, [(0, q2aW x1), (3, .str s4), (4, .i (n3 : Int))], [], [], 0⟩) (fun x => K2 x = some r) ?_ ?_
      ·
        refine q2rq [] [] ⟨23, [(0, q2aW x1), (3, .str s2), (4, .i (n3 : Int)), (12, .bool (decide ((n3 : Int) > (0 : Int))))], [], [], 0⟩ trivial ?_
        refine AWp.cond (b := (decide ((n3 : Int) > (0 : Int)))) (by kernel_rfl) (fun hc2 => ?_) (fun hc2 => ?_)
        ·
          replace h := ite_tb hc2 h
          obtain ⟨ob0, h⟩ := chk_some h
          refine q2rr [] [] ⟨23, [(0, q2aW x1), (3, .str (s2 ++ ([32] : List UInt8))), (4, .i (n3 : Int))], [], [], 0⟩ (an1 ob0) ?_
          exact joinQ_normal ((s2 ++ ([32] : List UInt8))) (Le.mk rfl rfl ⟨.refl _, .refl _, .refl _, trivial⟩ trivial) h
        ·
          replace h := ite_fb hc2 h
          refine AWp.skip ?_
          exact joinQ_normal (s2) (Le.mk rfl rfl ⟨.refl _, .refl _, .refl _, trivial⟩ trivial) h
      ·
        rintro s4 h
        replace h := (congrFun hK2 _).symm.trans h
        obtain ⟨r5, hr5, h⟩ := bind_ok h
        obtain ⟨ob1p, h⟩ := chk_some h
        have ob1 : 0 ≤ (n3 : Int) ∧ (n3 : Int) < (((x1).length : Nat) : Int) := ⟨by omega, ob1p⟩
        obtain ⟨ob2, h⟩ := chk_some h
        refine q2rr [] [(5, ⟨[.b16 (x1.getD n3 0#16)], [], [], [], .str r5, [], [], []⟩)] ⟨23, [(0, q2aW x1), (3, .str (s4 ++ r5)), (4, .i (n3 : Int))], [], [], 0⟩ (an3 ob1 (cpT (f23_ok _ _ hr5)) ob2) ?_
        refine blockQ_normal ?_
        refine thenQ_normal ?_
        obtain ⟨ob3p, h⟩ := chk_some h
        have ob3 : -9223372036854775808 ≤ ((n3 : Int) + (1 : Int)) ∧ ((n3 : Int) + (1 : Int)) ≤ 9223372036854775807 := ⟨by omega, ob3p⟩
        refine q2rr [] [] ⟨23, [(0, q2aW x1), (3, .str (s4 ++ r5)), (4, .i (((n3 + 1) : Nat) : Int))], [], [], 0⟩ (an1 ob3) ?_
        rw [hC0] at h
        exact loopQ_normal (_, (s4 ++ r5), (n3 + 1)) (Le.mk rfl rfl ⟨.refl _, .refl _, .refl _, trivial⟩ trivial) h (Nat.lt_succ_self _)
    ·
      replace h := ite_fb hc1 h
      refine AWp.exit ?_
      refine thenQ_exit ?_
      refine thenQ_exit ?_
      refine blockQ_same ?_
      exact joinQ_normal (s2) (Le.mk rfl rfl ⟨.refl _, trivial⟩ trivial) h
  ·
    rintro s6 h
    replace h := (congrFun hK1 _).symm.trans h
    refine q2rq [] [] ⟨23, [(2, .str s6)], [], [], 0⟩ trivial ?_
    have hret := Option.some.inj h
    subst hret
    refine AWp.le (Le.mk (s' := ⟨23, [(2, .str s6)], [], [], 0⟩) rfl rfl ⟨.refl _, trivial⟩ trivial) ?_
    refine AWp.ret ?_
    exact bodyQ_ret _ rfl ⟨rfl, rfl⟩ rfl
def f3 (x1 : List (BitVec 16)) (x2 : List UInt8) : Option Bool :=
  (f4 ).bind fun (r3 : Bool) =>
  if (((!r3) || (decide ((((x1).length : Nat) : Int) > (40 : Int)))) || (decide (((x2.length : Nat) : Int) > (400 : Int)))) then (
  (f4 ).bind fun (r4 : Bool) =>
  some r4
  ) else (
  (f5 x2).bind fun (r5 : Int × List (BitVec 16)) =>
  (f6 x2).bind fun (r6 : Int × List (BitVec 16)) =>
  (f7 x1).bind fun (r7 : List UInt8) =>
  (f5 r7).bind fun (r8 : Int × List (BitVec 16)) =>
  optc ((r5.1 != r6.1) == false) (f8 r5.2 r6.2) fun (r9 : Bool) =>
  optc (((r5.1 != r6.1) || (!r9)) == false) (f9 x1) fun (r10 : List UInt8) =>
  if (((r5.1 != r6.1) || (!r9)) || (!(r7 == r10))) then (
  some false
  ) else (
  (f10 x1).bind fun (r11 : Int) =>
  if (r11 != (0 : Int)) then (
  some (r8.1 != (0 : Int))
  ) else (
  optc ((r8.1 == (0 : Int)) == true) (f8 r8.2 x1) fun (r12 : Bool) =>
  some ((r8.1 == (0 : Int)) && r12)
  )
  )
  )
set_option maxRecDepth 100000 in
theorem f3_ok  (x1 : List (BitVec 16)) (x2 : List UInt8) (r : Bool) (h : f3 x1 x2 = some r)  : Spec1 Tryz.prog 3 [(1, .elem 32 1 T1F 0 0), (2, errG), (3, errG), (4, .tab .u64 Lib.pow10Tab)] [] [] [vL 1 eW 0#16 x1, .str x2] (.bool r) [] := by
  unfold f3 at h
  refine Spec1.body 0 _ _ Tryz.func3 rfl Tryz.ntmps3 rfl rfl ?_
  refine q2rq [] [] ⟨69, [(0, q2aW x1), (1, .str x2), (1000001, .elem 32 1 T1F 0 0), (1000002, errG), (1000003, errG), (1000004, .tab .u64 Lib.pow10Tab)], [], [], 0⟩ trivial ?_
  refine AWp.seq ?_
  refine AWp.seq ?_
  obtain ⟨r3, hr3, h⟩ := bind_ok h
  have ob0 := idA (((!r3) == false) = true)
  have ob1 := idA (((!r3) == false) = true)
  have ob2 := bqA (!r3) false
  have ob3 := idA ((((!r3) || (decide ((lZ x1) > (40 : Int)))) == false) = true)
  have ob4 := idA ((((!r3) || (decide ((lZ x1) > (40 : Int)))) == false) = true)
  have ob5 := bqA ((!r3) || (decide ((lZ x1) > (40 : Int)))) false
  refine q2rr [] [(0, ⟨[], [], [], [], .bool r3, [], [], [1, 4]⟩)] ⟨69, [(0, q2aW x1), (1, .str x2), (23, .bool (((!r3) || (decide ((lZ x1) > (40 : Int)))) || (decide ((lZ x2) > (400 : Int))))), (1000001, .elem 32 1 T1F 0 0), (1000002, errG), (1000003, errG), (1000004, .tab .u64 Lib.pow10Tab)], [], [], 0⟩ (ac6 (cpT (f4_ok _ hr3)) (an1 ob0) (an1 ob1) ob2 (an1 ob3) (an1 ob4) (an1 ob5)) ?_
  refine thenQ_normal ?_
  refine AWp.cond (b := (((!r3) || (decide ((lZ x1) > (40 : Int)))) || (decide ((lZ x2) > (400 : Int))))) (by kernel_rfl) (fun hc1 => ?_) (fun hc1 => ?_)
  ·
    replace h := ite_tb hc1 h
    refine AWp.seq ?_
    obtain ⟨r4, hr4, h⟩ := bind_ok h
    refine q2rr [] [(0, ⟨[], [], [], [], .bool r4, [], [], [1, 4]⟩)] ⟨69, [(4, .bool r4), (1000001, .elem 32 1 T1F 0 0), (1000002, errG), (1000003, errG), (1000004, .tab .u64 Lib.pow10Tab)], [], [], 0⟩ (an1 (cpT (f4_ok _ hr4))) ?_
    refine thenQ_normal ?_
    have hret := Option.some.inj h
    subst hret
    refine AWp.le (Le.mk (s' := ⟨69, [(4, .bool r4)], [], [], 0⟩) rfl rfl ⟨.refl _, trivial⟩ trivial) ?_
    refine AWp.ret ?_
    refine thenQ_ret ?_
    exact bodyQ_ret _ rfl ⟨rfl, rfl⟩ rfl
  ·
    replace h := ite_fb hc1 h
    refine AWp.skip ?_
    refine thenQ_normal ?_
    refine AWp.seq ?_
    obtain ⟨r5, hr5, h⟩ := bind_ok h
    refine q2rr [] [(1, ⟨[.str x2], [], [], [(6001, q2bW_30 r5.2)], .tup [.own 6001, .i r5.1], [6001], [], [1, 2, 3, 4]⟩)] ⟨69, [(0, q2aW x1), (1, .str x2), (5, .own 6001), (6, .i r5.1), (1000001, .elem 32 1 T1F 0 0), (1000002, errG), (1000003, errG), (1000004, .tab .u64 Lib.pow10Tab)], [(6001, q2bW_30 r5.2)], [], 0⟩ (an1 (cpT (Spec1.ren (swapN 3000 6001) (swapN_inv 3000 6001) rfl (f5_ok _ _ hr5)))) ?_
    refine thenQ_normal ?_
    refine AWp.seq ?_
    obtain ⟨r6, hr6, h⟩ := bind_ok h
    refine q2rr [] [(1, ⟨[.str x2], [], [], [(6002, q2bW_30 r6.2)], .tup [.own 6002, .i r6.1], [6002], [], []⟩)] ⟨69, [(0, q2aW x1), (5, .own 6001), (6, .i r5.1), (7, .own 6002), (8, .i r6.1), (1000001, .elem 32 1 T1F 0 0), (1000002, errG), (1000003, errG), (1000004, .tab .u64 Lib.pow10Tab)], [(6001, q2bW_30 r5.2), (6002, q2bW_30 r6.2)], [], 0⟩ (an1 (cpT (Spec1.ren (swapN 3000 6002) (swapN_inv 3000 6002) rfl (f6_ok _ _ hr6)))) ?_
    refine thenQ_normal ?_
    refine AWp.seq ?_
    obtain ⟨r7, hr7, h⟩ := bind_ok h
    refine q2rr [] [(1, ⟨[q2aW x1], [], [], [], .str r7, [], [], [1, 4]⟩)] ⟨69, [(0, q2aW x1), (5, .own 6001), (6, .i r5.1), (7, .own 6002), (8, .i r6.1), (9, .str r7), (1000001, .elem 32 1 T1F 0 0), (1000002, errG), (1000003, errG), (1000004, .tab .u64 Lib.pow10Tab)], [(6001, q2bW_30 r5.2), (6002, q2bW_30 r6.2)], [], 0⟩ (an1 (cpT (f7_ok _ _ hr7))) ?_
    refine thenQ_normal ?_
    refine AWp.seq ?_
    obtain ⟨r8, hr8, h⟩ := bind_ok h
    refine q2rr [] [(1, ⟨[.str r7], [], [], [(6003, q2bW_30 r8.2)], .tup [.own 6003, .i r8.1], [6003], [], [1, 2, 3, 4]⟩)] ⟨69, [(0, q2aW x1), (5, .own 6001), (6, .i r5.1), (7, .own 6002), (8, .i r6.1), (9, .str r7), (10, .own 6003), (11, .i r8.1), (1000001, .elem 32 1 T1F 0 0), (1000002, errG), (1000003, errG), (1000004, .tab .u64 Lib.pow10Tab)], [(6001, q2bW_30 r5.2), (6002, q2bW_30 r6.2), (6003, q2bW_30 r8.2)], [], 0⟩ (an1 (cpT (Spec1.ren (swapN 3000 6003) (swapN_inv 3000 6003) rfl (f5_ok _ _ hr8)))) ?_
    refine thenQ_normal ?_
    refine AWp.seq ?_
    refine AWp.seq ?_
    obtain ⟨r9, hr9, h⟩ := optc_some h
    obtain ⟨r10, hr10, h⟩ := optc_some h
    have ob6 := idA (((r5.1 != r6.1) == false) = true)
    have ob7 := idA (((r5.1 != r6.1) == false) = true)
    have ob8 := idA (((r5.1 != r6.1) == false) = true)
    have ob9 := bqA (r5.1 != r6.1) false
    have ob10 := idA ((((r5.1 != r6.1) || (!r9)) == false) = true)
    have ob11 := idA ((((r5.1 != r6.1) || (!r9)) == false) = true)
    have ob12 := idA ((((r5.1 != r6.1) || (!r9)) == false) = true)
    have ob13 := bqA ((r5.1 != r6.1) || (!r9)) false
    refine q2rr [] [(6, ⟨[q2aW r5.2, q2aW r6.2], [], [], [], .bool r9, [], [6001, 6002], []⟩), (12, ⟨[q2aW x1], [], [], [], .str r10, [], [], []⟩)] ⟨69, [(0, q2aW x1), (10, .own 6003), (11, .i r8.1), (56, .bool (((r5.1 != r6.1) || (!r9)) || (!(r7 == r10)))), (1000001, .elem 32 1 T1F 0 0), (1000002, errG), (1000003, errG), (1000004, .tab .u64 Lib.pow10Tab)], [(6003, q2bW_30 r8.2)], [], 0⟩ (an6 (And.intro (cpL [(6001, q2bW_30 r5.2), (6002, q2bW_30 r6.2)] [6001, 6002] [.own 6001, .own 6002] (fun hc => (f8_ok _ _ _ (hr9 hc))) (fun _ => ⟨.refl _, .refl _, trivial⟩) (.inr ⟨rfl, trivial⟩)) (an2 ob6 ob7)) (an1 ob8) ob9 (And.intro (cpC fun hc => (f9_ok _ _ (hr10 hc))) (an1 ob10)) (an2 ob11 ob12) ob13) ?_
    refine thenQ_normal ?_
    refine AWp.cond (b := (((r5.1 != r6.1) || (!r9)) || (!(r7 == r10)))) (by kernel_rfl) (fun hc2 => ?_) (fun hc2 => ?_)
    ·
      replace h := ite_tb hc2 h
      refine q2rq [] [] ⟨69, [(4, .bool false), (1000001, .elem 32 1 T1F 0 0), (1000002, errG), (1000003, errG), (1000004, .tab .u64 Lib.pow10Tab)], [], [], 0⟩ trivial ?_
      have hret := Option.some.inj h
      subst hret
      refine AWp.le (Le.mk (s' := ⟨69, [(4, .bool false)], [], [], 0⟩) rfl rfl ⟨.refl _, trivial⟩ trivial) ?_
      refine AWp.ret ?_
      refine thenQ_ret ?_
      exact bodyQ_ret _ rfl ⟨rfl, rfl⟩ rfl
    ·
      replace h := ite_fb hc2 h
      refine AWp.skip ?_
      refine thenQ_normal ?_
      refine AWp.seq ?_
      refine AWp.seq ?_
      obtain ⟨r11, hr11, h⟩ := bind_ok h
      refine q2rr [] [(1, ⟨[q2aW x1], [], [], [], .i r11, [], [], []⟩)] ⟨69, [(0, q2aW x1), (10, .own 6003), (11, .i r8.1), (59, .bool (r11 != (0 : Int))), (1000001, .elem 32 1 T1F 0 0), (1000002, errG), (1000003, errG), (1000004, .tab .u64 Lib.pow10Tab)], [(6003, q2bW_30 r8.2)], [], 0⟩ (an1 (cpT (f10_ok _ _ hr11))) ?_
      refine thenQ_normal ?_
      refine AWp.cond (b := (r11 != (0 : Int))) (by kernel_rfl) (fun hc3 => ?_) (fun hc3 => ?_)
      ·
        replace h := ite_tb hc3 h
        refine q2rq [] [] ⟨69, [(4, .bool (r8.1 != (0 : Int))), (1000001, .elem 32 1 T1F 0 0), (1000002, errG), (1000003, errG), (1000004, .tab .u64 Lib.pow10Tab)], [], [], 0⟩ trivial ?_
        have hret := Option.some.inj h
        subst hret
        refine AWp.le (Le.mk (s' := ⟨69, [(4, .bool (r8.1 != (0 : Int)))], [], [], 0⟩) rfl rfl ⟨.refl _, trivial⟩ trivial) ?_
        refine AWp.ret ?_
        refine thenQ_ret ?_
        exact bodyQ_ret _ rfl ⟨rfl, rfl⟩ rfl
      ·
        replace h := ite_fb hc3 h
        refine AWp.skip ?_
        refine thenQ_normal ?_
        refine AWp.seq ?_
        obtain ⟨r12, hr12, h⟩ := optc_some h
        have ob14 := idA (((r8.1 == (0 : Int)) == true) = true)
        have ob15 := idA (((r8.1 == (0 : Int)) == true) = true)
        have ob16 := bqA (r8.1 == (0 : Int)) true
        refine q2rr [] [(5, ⟨[q2aW r8.2, q2aW x1], [], [], [], .bool r12, [], [6003], []⟩)] ⟨69, [(4, .bool ((r8.1 == (0 : Int)) && r12)), (1000001, .elem 32 1 T1F 0 0), (1000002, errG), (1000003, errG), (1000004, .tab .u64 Lib.pow10Tab)], [], [], 0⟩ (an2 (And.intro (cpL [(6003, q2bW_30 r8.2)] [6003] [.own 6003, q2aW x1] (fun hc => (f8_ok _ _ _ (hr12 hc))) (fun _ => ⟨.refl _, .refl _, trivial⟩) (.inr ⟨rfl, trivial⟩)) (an2 ob14 ob15)) ob16) ?_
        refine thenQ_normal ?_
        have hret := Option.some.inj h
        subst hret
        refine AWp.le (Le.mk (s' := ⟨69, [(4, .bool ((r8.1 == (0 : Int)) && r12))], [], [], 0⟩) rfl rfl ⟨.refl _, trivial⟩ trivial) ?_
        refine AWp.ret ?_
        exact bodyQ_ret _ rfl ⟨rfl, rfl⟩ rfl
end Go.Abs
namespace Go.Abs
theorem f47_L0_eq (x : BitVec 16) (K : Nat → Option Int) : ∀ (c k acc i : Nat), i + c = 16 → c < k → acc ≤ i → f47_L0 x K k (acc, i) = K (acc + bsum x.toNat i c)
  | 0, k, acc, i, hi, hk, ha => by
    obtain ⟨k, rfl⟩ : ∃ q, k = q + 1 := ⟨k - 1, by omega⟩
    rw [f47_L0.eq_2, if_neg (by simp; omega)]
    simp [bsum]
  | c + 1, k, acc, i, hi, hk, ha => by
    obtain ⟨k, rfl⟩ : ∃ q, k = q + 1 := ⟨k - 1, by omega⟩
    rw [f47_L0.eq_2, if_pos (by simp; omega)]
    have hb : x.toNat / 2 ^ i % 2 < 2 := Nat.mod_lt _ (by decide)
    unfold chk
    rw [bit_toNat, if_pos (by omega), if_pos (by omega), f47_L0_eq x K c k _ (i + 1) (by omega) (by omega) (by omega)]
    simp only [bsum, Nat.add_assoc]
theorem f47_eq (x : BitVec 16) : f47 x = some (sz x : Int) := by
  unfold f47 jn
  dsimp only
  rw [f47_L0_eq x _ 16 FUEL 0 0 rfl (by unfold FUEL; omega) (Nat.le_refl _), Nat.zero_add]
  rfl
theorem f27_eq (a b : BitVec 16) : f27 a b = some (ltS a b) := by
  unfold f27 ltS
  rw [f47_eq, f47_eq]
  by_cases h : sz a = sz b
  · simp [h]
  · simp [h]
    intro e; omega
theorem and_hi (n : Nat) (h : n < 65536) : (n &&& 61440 = 0) ↔ n < 4096 := by
  have e : (n &&& 61440) >>> 12 = n / 4096 := by
    rw [Nat.shiftRight_and_distrib, Nat.shiftRight_eq_div_pow]
    show (n / 4096) &&& 15 = n / 4096
    rw [show (15 : Nat) = 2 ^ 4 - 1 from rfl, Nat.and_two_pow_sub_one_eq_mod]
    omega
  constructor
  · intro h0
    rw [h0] at e
    simp at e
    omega
  · intro hn
    apply Nat.eq_of_testBit_eq
    intro i
    rw [Nat.testBit_and, Nat.zero_testBit]
    by_cases hi : i < 12
    · have : Nat.testBit 61440 i = false := by
        rw [show (61440 : Nat) = 2 ^ 12 * 15 from rfl, Nat.testBit_two_pow_mul]
        simp; omega
      rw [this, Bool.and_false]
    · have : n.testBit i = false := Nat.testBit_lt_two_pow (Nat.lt_of_lt_of_le hn (Nat.pow_le_pow_right (n := 2) (by decide) (by omega : 12 ≤ i)))
      rw [this, Bool.false_and]
theorem outside_eq (x : BitVec 16) : ((x &&& (BitVec.ofInt 16 61440)) == (BitVec.ofInt 16 0)) = decide (x.toNat < 4096) := by
  have h := and_hi x.toNat x.isLt
  rw [Bool.eq_iff_iff, beq_iff_eq, decide_eq_true_eq, ← h]
  constructor
  · intro e
    have := congrArg BitVec.toNat e
    simpa using this
  · intro e
    apply BitVec.eq_of_toNat_eq
    simpa using e
theorem f24_eq (x : BitVec 16) : f24 x = some (decide (x.toNat < 4096)) := rfl
theorem f28_eq (x y : BitVec 16) : f28 x y = some (sub y x) := rfl
theorem f64_eq (y s : BitVec 16) : f64 y s = some (sub y s, s) := rfl
theorem f72_L0_eq (x : List (BitVec 16)) (K : (BitVec 16) → Option (Int × BitVec 16)) (s : BitVec 16) (hx : x.length ≤ 65536) : ∀ (c k n : Nat), n + c = x.length → c < k →
    (∃ m : Nat, f72_L0 x K k (n, s) = some ((m : Int), s) ∧ (x.drop n).any (fun y => sub y s) = true) ∨ (f72_L0 x K k (n, s) = K s ∧ (x.drop n).any (fun y => sub y s) = false)
  | 0, k, n, hn, hk => by
    obtain ⟨k, rfl⟩ : ∃ q, k = q + 1 := ⟨k - 1, by omega⟩
    rw [f72_L0.eq_2, if_neg (by simp; omega)]
    exact .inr ⟨rfl, by rw [List.drop_eq_nil_of_le (by omega)]; rfl⟩
  | c + 1, k, n, hn, hk => by
    obtain ⟨k, rfl⟩ : ∃ q, k = q + 1 := ⟨k - 1, by omega⟩
    have hlt : n < x.length := by omega
    have hg : x.getD n 0#16 = x[n] := by simp [List.getD_eq_getElem?_getD, hlt]
    rw [f72_L0.eq_2, if_pos (by simp; omega), f64_eq, hg, List.drop_eq_getElem_cons hlt]
    simp only [Option.bind_some, List.any_cons]
    unfold chk
    rw [if_pos (by omega)]
    by_cases h : sub x[n] s = true
    · rw [if_pos h]; exact .inl ⟨n, rfl, by rw [h]; rfl⟩
    · rw [if_neg h, if_pos (by omega)]
      have h : sub x[n] s = false := by simpa using h
      rw [h, Bool.false_or]
      exact f72_L0_eq x K s hx c k (n + 1) (by omega) (by omega)
theorem f41_eq (x : List (BitVec 16)) (s : BitVec 16) (hx : x.length ≤ 65536) : f41 x s = some (x.any fun y => sub y s) := by
  unfold f41 f50 f72 jn
  dsimp only
  rcases f72_L0_eq x (fun w6 => some (-1, w6)) s hx x.length FUEL 0 (by omega) (by unfold FUEL; omega) with ⟨m, h1, h2⟩ | ⟨h1, h2⟩
  · rw [h1]; rw [List.drop_zero] at h2; rw [h2]; simp
  · rw [h1]; rw [List.drop_zero] at h2; rw [h2]; simp

def scan0 (x : List (BitVec 16)) : Nat → Nat → Option Int
  | 0, _ => none
  | c + 1, n => if (x.getD n 0#16).toNat < 4096 then (if decide (n > 0) && !(ltS (x.getD (n - 1) 0#16) (x.getD n 0#16)) then some 1 else scan0 x c (n + 1)) else some 7
def orK (e : Option Int) (K : Unit → Option Int) : Option Int := match e with
  | some e => some e
  | none => K ()

theorem f21_L0_eq (x : List (BitVec 16)) (K : Unit → Option Int) (hx : x.length ≤ 65536) : ∀ (c k n : Nat), n + c = x.length → c < k → f21_L0 x K k n = orK (scan0 x c n) K
  | 0, k, n, hn, hk => by
    obtain ⟨k, rfl⟩ : ∃ q, k = q + 1 := ⟨k - 1, by omega⟩
    rw [f21_L0.eq_2, if_neg (by simp; omega)]
    rfl
  | c + 1, k, n, hn, hk => by
    obtain ⟨k, rfl⟩ : ∃ q, k = q + 1 := ⟨k - 1, by omega⟩
    have ih := f21_L0_eq x K hx c k (n + 1) (by omega) (by omega)
    rw [f21_L0.eq_2, if_pos (by simp; omega)]
    unfold chk scan0
    rw [if_pos (by omega), outside_eq]
    by_cases hr : (x.getD n 0#16).toNat < 4096
    · rw [if_pos hr, if_neg (by simp only [hr]; simp)]
      obtain ⟨r, h1, h2⟩ := f40_eq (x.getD (((n : Int) - 1).toNat) 0#16) (x.getD n 0#16)
      have hn1 : ((n : Int) - 1).toNat = n - 1 := by omega
      rw [hn1] at h1 h2
      unfold optc
      by_cases h0 : n > 0
      · have h0' : ((decide ((n : Int) > 0)) == true) = true := by simp; omega
        rw [if_pos h0', hn1, h1]
        simp only [Option.bind_some]
        rw [if_pos (by omega), if_pos (by omega)]
        by_cases hl : ltS (x.getD (n - 1) 0#16) (x.getD n 0#16) = true
        · have : ¬ (r ≥ 0) := fun h => by rw [h2.1 h] at hl; cases hl
          rw [if_neg (by simp [this]), if_pos (by omega), ih, hl]
          simp
        · have hl : ltS (x.getD (n - 1) 0#16) (x.getD n 0#16) = false := by simpa using hl
          rw [if_pos (by simp [h2.2 hl]; omega), hl]
          simp [h0, orK]
      · have h0' : ¬ ((decide ((n : Int) > 0)) == true) = true := by simp; omega
        have h0'' : ¬ (decide ((n : Int) > 0)) = true := by simp; omega
        rw [if_neg h0']
        dsimp only
        rw [if_pos (fun h => absurd h h0'), if_pos (fun h => absurd h h0'), if_neg (by simp; omega), if_pos (by omega), ih, if_neg (by simp; omega)]
    · rw [if_neg hr, if_pos (by simp only [hr]; simp)]
      rfl

theorem f10_L0_eq (x : List (BitVec 16)) (K : Unit → Option Int) (hx : x.length ≤ 65536) : ∀ (c k n : Nat), n + c = x.length → c < k → f10_L0 x K k n = orK (scan0 x c n) K
  | 0, k, n, hn, hk => by
    obtain ⟨k, rfl⟩ : ∃ q, k = q + 1 := ⟨k - 1, by omega⟩
    rw [f10_L0.eq_2, if_neg (by simp; omega)]
    rfl
  | c + 1, k, n, hn, hk => by
    obtain ⟨k, rfl⟩ : ∃ q, k = q + 1 := ⟨k - 1, by omega⟩
    have ih := f10_L0_eq x K hx c k (n + 1) (by omega) (by omega)
    rw [f10_L0.eq_2, if_pos (by simp; omega), f24_eq]
    simp only [Option.bind_some]
    unfold chk scan0
    rw [if_pos (by omega)]
    by_cases hr : (x.getD n 0#16).toNat < 4096
    · rw [if_pos hr, if_neg (by simp only [hr]; simp)]
      have hn1 : ((n : Int) - 1).toNat = n - 1 := by omega
      unfold optc
      by_cases h0 : n > 0
      · have h0' : ((decide ((n : Int) > 0)) == true) = true := by simp; omega
        rw [if_pos h0', hn1, f27_eq]
        simp only [Option.bind_some]
        rw [if_pos (by omega), if_pos (by omega), if_pos (by omega)]
        by_cases hl : ltS (x.getD (n - 1) 0#16) (x.getD n 0#16) = true
        · rw [hl, if_neg (by simp), if_pos (by omega), ih]
          simp
        · have hl : ltS (x.getD (n - 1) 0#16) (x.getD n 0#16) = false := by simpa using hl
          rw [hl, if_pos (by simp; omega)]
          simp [h0, orK]
      · have h0' : ¬ ((decide ((n : Int) > 0)) == true) = true := by simp; omega
        rw [if_neg h0']
        dsimp only
        rw [if_pos (fun h => absurd h h0'), if_pos (fun h => absurd h h0'), if_pos (fun h => absurd h h0'), if_neg (by simp; omega), if_pos (by omega), ih, if_neg (by simp; omega)]
    · rw [if_neg hr, if_pos (by simp only [hr]; simp)]
      rfl
/-- a later set of the list that holds an earlier one -/
def bad1 (x : List (BitVec 16)) : Nat → Nat → Bool
  | 0, _ => false
  | c + 1, n => (x.take n).any (fun y => sub y (x.getD n 0#16)) || bad1 x c (n + 1)
theorem f21_L1_eq (x : List (BitVec 16)) (K : Unit → Option Int) (hx : x.length ≤ 65536) : ∀ (c k n : Nat), n + c = x.length → c < k → f21_L1 x K k n = if bad1 x c n = true then some 1 else K ()
  | 0, k, n, hn, hk => by
    obtain ⟨k, rfl⟩ : ∃ q, k = q + 1 := ⟨k - 1, by omega⟩
    rw [f21_L1.eq_2, if_neg (by simp; omega), if_neg (by simp [bad1])]
  | c + 1, k, n, hn, hk => by
    obtain ⟨k, rfl⟩ : ∃ q, k = q + 1 := ⟨k - 1, by omega⟩
    have ih := f21_L1_eq x K hx c k (n + 1) (by omega) (by omega)
    rw [f21_L1.eq_2, if_pos (by simp; omega), f41_eq _ _ (by simp; omega)]
    simp only [Option.bind_some]
    unfold chk
    rw [if_pos (by omega), if_pos (by omega)]
    by_cases h : ((x.take n).any fun y => sub y (x.getD n 0#16)) = true
    · rw [if_pos h, if_pos (by simp only [bad1, h, Bool.true_or])]
    · rw [if_neg h, if_pos (by omega), ih]
      have h : ((x.take n).any fun y => sub y (x.getD n 0#16)) = false := by simpa using h
      simp only [bad1, h, Bool.false_or]
def badk (x : List (BitVec 16)) (i : Nat) : Nat → Nat → Bool
  | 0, _ => false
  | c + 1, n => (i != n && sub (x.getD n 0#16) (x.getD i 0#16)) || badk x i c (n + 1)
theorem f10_L2_eq (x : List (BitVec 16)) (i : Nat) (K : Unit → Option Int) (hi : i < x.length) (hx : x.length ≤ 65536) : ∀ (c k n : Nat), n + c = x.length → c < k → f10_L2 x i K k n = if badk x i c n = true then some 1 else K ()
  | 0, k, n, hn, hk => by
    obtain ⟨k, rfl⟩ : ∃ q, k = q + 1 := ⟨k - 1, by omega⟩
    rw [f10_L2.eq_2, if_neg (by simp; omega), if_neg (by simp [badk])]
  | c + 1, k, n, hn, hk => by
    obtain ⟨k, rfl⟩ : ∃ q, k = q + 1 := ⟨k - 1, by omega⟩
    have ih := f10_L2_eq x i K hi hx c k (n + 1) (by omega) (by omega)
    have hin : ((i : Int) != (n : Int)) = (i != n) := by
      rw [Bool.eq_iff_iff]; simp; omega
    rw [f10_L2.eq_2, if_pos (by simp; omega), f28_eq, hin]
    unfold chk optc
    by_cases h : (i != n) = true
    · rw [h]
      simp only [Option.bind_some, beq_self_eq_true, if_true, Bool.true_and]
      rw [if_pos (fun _ => by omega), if_pos (fun _ => by omega)]
      by_cases hs : sub (x.getD n 0#16) (x.getD i 0#16) = true
      · rw [if_pos hs]
        simp only [badk, h, hs, Bool.and_self, Bool.true_or, if_true]
      · rw [if_neg hs, if_pos (by omega), ih]
        have hs : sub (x.getD n 0#16) (x.getD i 0#16) = false := by simpa using hs
        simp only [badk, h, hs, Bool.and_false, Bool.false_or]
    · have h : (i != n) = false := by simpa using h
      rw [h]
      simp only [Bool.false_and, Bool.false_eq_true, if_false, beq_iff_eq, false_implies, if_true]
      rw [if_pos (by omega), ih]
      simp only [badk, h, Bool.false_and, Bool.false_or]
def bad2 (x : List (BitVec 16)) : Nat → Nat → Bool
  | 0, _ => false
  | c + 1, n => badk x n x.length 0 || bad2 x c (n + 1)
theorem f10_L1_eq (x : List (BitVec 16)) (K : Unit → Option Int) (hx : x.length ≤ 65536) : ∀ (c k n : Nat), n + c = x.length → c < k → f10_L1 x K k n = if bad2 x c n = true then some 1 else K ()
  | 0, k, n, hn, hk => by
    obtain ⟨k, rfl⟩ : ∃ q, k = q + 1 := ⟨k - 1, by omega⟩
    rw [f10_L1.eq_2, if_neg (by simp; omega), if_neg (by simp [bad2])]
  | c + 1, k, n, hn, hk => by
    obtain ⟨k, rfl⟩ : ∃ q, k = q + 1 := ⟨k - 1, by omega⟩
    have ih := f10_L1_eq x K hx c k (n + 1) (by omega) (by omega)
    rw [f10_L1.eq_2, if_pos (by simp; omega)]
    unfold jn
    dsimp only
    rw [f10_L2_eq x n _ (by omega) hx x.length FUEL 0 (by omega) (by unfold FUEL; omega)]
    unfold chk
    by_cases h : badk x n x.length 0 = true
    · rw [if_pos h, if_pos (by simp only [bad2, h, Bool.true_or])]
    · rw [if_neg h, if_pos (by omega), ih]
      have h : badk x n x.length 0 = false := by simpa using h
      simp only [bad2, h, Bool.false_or]

theorem scan0_none (x : List (BitVec 16)) : ∀ (c n : Nat), scan0 x c n = none → ∀ m, n ≤ m → m < n + c → m > 0 → ltS (x.getD (m - 1) 0#16) (x.getD m 0#16) = true
  | 0, n, _, m, h1, h2, _ => by omega
  | c + 1, n, h, m, h1, h2, h3 => by
    unfold scan0 at h
    split at h
    · split at h
      · cases h
      · rename_i h4
        by_cases e : m = n
        · subst e
          simpa [h3] using h4
        · exact scan0_none x c (n + 1) h m (by omega) (by omega) h3
    · cases h
theorem key_mono (x : List (BitVec 16)) (h : scan0 x x.length 0 = none) (i : Nat) : ∀ d, i + d + 1 < x.length → key (x.getD i 0#16) < key (x.getD (i + d + 1) 0#16)
  | 0, hd => by
    have := ltS_key.1 (scan0_none x _ 0 h (i + 1) (by omega) (by omega) (by omega))
    simpa using this
  | d + 1, hd => by
    have h1 := key_mono x h i d (by omega)
    have h2 := ltS_key.1 (scan0_none x _ 0 h (i + (d + 1) + 1) (by omega) (by omega) (by omega))
    rw [show i + (d + 1) + 1 - 1 = i + d + 1 by omega] at h2
    omega
theorem bad1_iff (x : List (BitVec 16)) : ∀ (c n : Nat), n + c = x.length → (bad1 x c n = true ↔ ∃ m j, n ≤ m ∧ m < x.length ∧ j < m ∧ sub (x.getD j 0#16) (x.getD m 0#16) = true)
  | 0, n, hn => by
    simp only [bad1, Bool.false_eq_true, false_iff]
    rintro ⟨m, j, h1, h2, _⟩; omega
  | c + 1, n, hn => by
    simp only [bad1, Bool.or_eq_true, bad1_iff x c (n + 1) (by omega), List.any_eq_true]
    constructor
    · rintro (⟨y, hy, hs⟩ | ⟨m, j, h1, h2, h3, h4⟩)
      · obtain ⟨j, hj, rfl⟩ := List.getElem_of_mem hy
        have hj' : j < n := by simp at hj; omega
        refine ⟨n, j, Nat.le_refl _, by omega, hj', ?_⟩
        have hl : j < x.length := by omega
        simpa [List.getD_eq_getElem?_getD, hl] using hs
      · exact ⟨m, j, by omega, h2, h3, h4⟩
    · rintro ⟨m, j, h1, h2, h3, h4⟩
      by_cases e : m = n
      · subst e
        refine .inl ⟨x.getD j 0#16, ?_, h4⟩
        have hl : j < x.length := by omega
        have : x.getD j 0#16 = (x.take m)[j]'(by simp; omega) := by simp [List.getD_eq_getElem?_getD, hl]
        rw [this]; exact List.getElem_mem _
      · exact .inr ⟨m, j, by omega, h2, h3, h4⟩
theorem badk_iff (x : List (BitVec 16)) (i : Nat) : ∀ (c n : Nat), n + c = x.length → (badk x i c n = true ↔ ∃ k, n ≤ k ∧ k < x.length ∧ i ≠ k ∧ sub (x.getD k 0#16) (x.getD i 0#16) = true)
  | 0, n, hn => by
    simp only [badk, Bool.false_eq_true, false_iff]
    rintro ⟨m, h1, h2, _⟩; omega
  | c + 1, n, hn => by
    simp only [badk, Bool.or_eq_true, Bool.and_eq_true, bne_iff_ne, badk_iff x i c (n + 1) (by omega)]
    constructor
    · rintro (⟨h1, h2⟩ | ⟨k, h1, h2, h3⟩)
      · exact ⟨n, Nat.le_refl _, by omega, h1, h2⟩
      · exact ⟨k, by omega, h2, h3⟩
    · rintro ⟨k, h1, h2, h3, h4⟩
      by_cases e : k = n
      · subst e; exact .inl ⟨h3, h4⟩
      · exact .inr ⟨k, by omega, h2, h3, h4⟩
theorem bad2_iff (x : List (BitVec 16)) : ∀ (c n : Nat), n + c = x.length → (bad2 x c n = true ↔ ∃ i k, n ≤ i ∧ i < x.length ∧ k < x.length ∧ i ≠ k ∧ sub (x.getD k 0#16) (x.getD i 0#16) = true)
  | 0, n, hn => by
    simp only [bad2, Bool.false_eq_true, false_iff]
    rintro ⟨m, j, h1, h2, _⟩; omega
  | c + 1, n, hn => by
    simp only [bad2, Bool.or_eq_true, badk_iff x n x.length 0 (by omega), bad2_iff x c (n + 1) (by omega)]
    constructor
    · rintro (⟨k, _, h2, h3, h4⟩ | ⟨i, k, h1, h2, h3, h4, h5⟩)
      · exact ⟨n, k, Nat.le_refl _, by omega, h2, h3, h4⟩
      · exact ⟨i, k, by omega, h2, h3, h4, h5⟩
    · rintro ⟨i, k, h1, h2, h3, h4, h5⟩
      by_cases e : i = n
      · subst e; exact .inl ⟨k, by omega, h3, h4, h5⟩
      · exact .inr ⟨i, k, by omega, h2, h3, h4, h5⟩
theorem bad_eq (x : List (BitVec 16)) (h : scan0 x x.length 0 = none) : bad1 x x.length 0 = bad2 x x.length 0 := by
  rw [Bool.eq_iff_iff, bad1_iff x _ 0 (by omega), bad2_iff x _ 0 (by omega)]
  constructor
  · rintro ⟨m, j, _, h2, h3, h4⟩
    exact ⟨m, j, by omega, h2, by omega, by omega, h4⟩
  · rintro ⟨i, k, _, h2, h3, h4, h5⟩
    rcases Nat.lt_or_gt_of_ne h4 with hlt | hlt
    · exfalso
      obtain ⟨d, rfl⟩ : ∃ d, k = i + d + 1 := ⟨k - i - 1, by omega⟩
      have hk := key_mono x h i d h3
      obtain ⟨h6, h7⟩ := sub_sz h5
      have hb := (x.getD i 0#16).isLt
      have hb2 := (x.getD (i + d + 1) 0#16).isLt
      have hk2 := hk
      unfold key at hk
      have : sz (x.getD (i + d + 1) 0#16) = sz (x.getD i 0#16) := by omega
      rw [h7 this] at hk2
      omega
    · exact ⟨i, k, by omega, h2, hlt, h5⟩
theorem f21_big (x : List (BitVec 16)) (h : 400 < x.length) : f21 x = some 3 := by
  unfold f21; rw [if_pos (by simp; omega)]
theorem f10_big (x : List (BitVec 16)) (h : 400 < x.length) : f10 x = some 3 := by
  unfold f10; rw [if_pos (by simp; omega)]
theorem f21_val (x : List (BitVec 16)) (h : x.length ≤ 400) : f21 x = orK (scan0 x x.length 0) fun _ => if bad1 x x.length 0 = true then some 1 else some 0 := by
  unfold f21; rw [if_neg (by simp; omega)]
  rw [jn_eq, f21_L0_eq x _ (by omega) x.length FUEL 0 (by omega) (fuel_lt (by omega))]
  refine congrArg (orK (scan0 x x.length 0)) (funext fun _ => ?_)
  rw [jn_eq, f21_L1_eq x _ (by omega) x.length FUEL 0 (by omega) (fuel_lt (by omega))]
theorem f10_val (x : List (BitVec 16)) (h : x.length ≤ 400) : f10 x = orK (scan0 x x.length 0) fun _ => if bad2 x x.length 0 = true then some 1 else some 0 := by
  unfold f10; rw [if_neg (by simp; omega)]
  rw [jn_eq, f10_L0_eq x _ (by omega) x.length FUEL 0 (by omega) (fuel_lt (by omega))]
  refine congrArg (orK (scan0 x x.length 0)) (funext fun _ => ?_)
  rw [jn_eq, f10_L1_eq x _ (by omega) x.length FUEL 0 (by omega) (fuel_lt (by omega))]
theorem f21_f13 (x : List (BitVec 16)) : ∃ e, f21 x = some e ∧ f10 x = some e := by
  by_cases h : 400 < x.length
  · exact ⟨3, f21_big x h, f10_big x h⟩
  · rw [f21_val x (by omega), f10_val x (by omega)]
    cases hs : scan0 x x.length 0 with
    | some e => simp only [orK]; exact ⟨e, rfl, rfl⟩
    | none =>
      simp only [orK]
      rw [bad_eq x hs]
      split
      · exact ⟨1, rfl, rfl⟩
      · exact ⟨0, rfl, rfl⟩
end Go.Abs
namespace Go.Abs
open Go Go.Lib
/-! ### members -/
theorem low_bit : ∀ (c w : Nat), w ≠ 0 → w < 2 ^ c → ∃ i q, i < c ∧ w = 2 ^ (i + 1) * q + 2 ^ i
  | 0, w, h0, h => absurd h0 (by simp at h; omega)
  | c + 1, w, h0, h => by
    rw [Nat.pow_succ] at h
    rcases Nat.mod_two_eq_zero_or_one w with hw | hw
    · obtain ⟨i, q, hi, e⟩ := low_bit c (w / 2) (by omega) (by omega)
      refine ⟨i + 1, q, by omega, ?_⟩
      have : w = 2 * (w / 2) := by omega
      rw [this, e, Nat.mul_add, ← Nat.mul_assoc, Nat.pow_succ 2 (i + 1), Nat.pow_succ 2 i]
      rw [Nat.mul_comm 2 (2 ^ i * 2), Nat.mul_comm 2 (2 ^ i)]
    · refine ⟨0, w / 2, by omega, ?_⟩
      omega
theorem low_and (c i q : Nat) (hi : i < c) (h : 2 ^ (i + 1) * q + 2 ^ i < 2 ^ c) : (2 ^ (i + 1) * q + 2 ^ i) &&& (2 ^ c - (2 ^ (i + 1) * q + 2 ^ i)) = 2 ^ i := by
  obtain ⟨d, rfl⟩ : ∃ d, c = (i + 1) + d := ⟨c - (i + 1), by omega⟩
  have hp : 2 ^ (i + 1) = 2 ^ i + 2 ^ i := by rw [Nat.pow_succ]; omega
  have hp0 : 0 < 2 ^ i := Nat.pow_pos (by decide)
  rw [Nat.pow_add 2 (i + 1) d] at h
  have hq : q < 2 ^ d := by
    refine Classical.byContradiction fun hge => ?_
    have := Nat.mul_le_mul_left (2 ^ (i + 1)) (Nat.le_of_not_lt hge)
    omega
  have e : 2 ^ (i + 1 + d) - (2 ^ (i + 1) * q + 2 ^ i) = 2 ^ (i + 1) * (2 ^ d - (q + 1)) + 2 ^ i := by
    rw [Nat.pow_add 2 (i + 1) d, Nat.mul_sub, Nat.mul_add, Nat.mul_one]
    have := Nat.mul_le_mul_left (2 ^ (i + 1)) (Nat.succ_le_of_lt hq)
    rw [Nat.succ_eq_add_one, Nat.mul_add, Nat.mul_one] at this
    omega
  rw [e]
  apply Nat.eq_of_testBit_eq
  intro j
  rw [Nat.testBit_and, Nat.testBit_two_pow_mul_add _ (by omega), Nat.testBit_two_pow_mul_add _ (by omega), Nat.testBit_two_pow_sub_succ hq, Nat.testBit_two_pow]
  by_cases hj : j < i + 1
  · rw [if_pos hj, if_pos hj, Bool.and_self]
  · rw [if_neg hj, if_neg hj]
    have : ¬ i = j := by omega
    simp [this]
    intro a _
    exact a
theorem low_drop (i q : Nat) : (2 ^ (i + 1) * q + 2 ^ i) &&& (2 ^ (i + 1) * q + 2 ^ i - 1) = 2 ^ (i + 1) * q := by
  have hp : 2 ^ (i + 1) = 2 ^ i + 2 ^ i := by rw [Nat.pow_succ]; omega
  have hp0 : 0 < 2 ^ i := Nat.pow_pos (by decide)
  have e : 2 ^ (i + 1) * q + 2 ^ i - 1 = 2 ^ (i + 1) * q + (2 ^ i - 1) := by omega
  have e2 : 2 ^ (i + 1) * q = 2 ^ (i + 1) * q + 0 := rfl
  rw [e]
  conv => rhs; rw [e2]
  apply Nat.eq_of_testBit_eq
  intro j
  rw [Nat.testBit_and, Nat.testBit_two_pow_mul_add _ (by omega), Nat.testBit_two_pow_mul_add _ (by omega), Nat.testBit_two_pow_mul_add _ (by omega), Nat.testBit_two_pow, Nat.testBit_two_pow_sub_one]
  by_cases hj : j < i + 1
  · rw [if_pos hj, if_pos hj, if_pos hj, Nat.zero_testBit]
    by_cases e3 : i = j
    · subst e3; simp
    · simp [e3]
  · rw [if_neg hj, if_neg hj, if_neg hj, Bool.and_self]
theorem low_mem (i q : Nat) (hi : i < 16) : memP (2 ^ (i + 1) * q + 2 ^ i) 16 = i :: memP (2 ^ (i + 1) * q) 16 := by
  have hp0 : 0 < 2 ^ i := Nat.pow_pos (by decide)
  have hb : ∀ j, (2 ^ (i + 1) * q + 2 ^ i) / 2 ^ j % 2 = if j < i then 0 else if j = i then 1 else (2 ^ (i + 1) * q) / 2 ^ j % 2 := by
    intro j
    by_cases h1 : j < i
    · rw [if_pos h1]
      obtain ⟨d, rfl⟩ : ∃ d, i = j + 1 + d := ⟨i - j - 1, by omega⟩
      have : 2 ^ (j + 1 + d + 1) * q + 2 ^ (j + 1 + d) = 2 ^ j * (2 * (2 ^ d * 2 * q + 2 ^ d)) := by
        rw [Nat.pow_succ 2 (j + 1 + d), Nat.pow_add 2 (j + 1) d, Nat.pow_succ 2 j, Nat.mul_add, Nat.mul_add]
        simp only [Nat.mul_assoc]
      rw [this, Nat.mul_div_cancel_left _ (Nat.pow_pos (by decide)), Nat.mul_mod_right]
    · rw [if_neg h1]
      by_cases h2 : j = i
      · subst h2
        rw [if_pos rfl, Nat.pow_succ, Nat.mul_assoc, Nat.mul_add_div (Nat.pow_pos (by decide)), Nat.div_self (Nat.pow_pos (by decide))]
        omega
      · rw [if_neg h2]
        obtain ⟨d, rfl⟩ : ∃ d, j = (i + 1) + d := ⟨j - (i + 1), by omega⟩
        have hlt : 2 ^ i < 2 ^ (i + 1) := by rw [Nat.pow_succ]; omega
        rw [Nat.pow_add 2 (i + 1) d, ← Nat.div_div_eq_div_mul, ← Nat.div_div_eq_div_mul, Nat.mul_add_div (Nat.pow_pos (by decide)), Nat.mul_div_cancel_left _ (Nat.pow_pos (by decide)), Nat.div_eq_of_lt hlt, Nat.add_zero]
  have hz : ∀ j, j ≤ i → (2 ^ (i + 1) * q) / 2 ^ j % 2 = 0 := by
    intro j h1
    obtain ⟨d, rfl⟩ : ∃ d, i = j + d := ⟨i - j, by omega⟩
    have : 2 ^ (j + d + 1) * q = 2 ^ j * (2 * (2 ^ d * q)) := by
      rw [Nat.pow_succ 2 (j + d), Nat.pow_add 2 j d, Nat.mul_comm (2 ^ j * 2 ^ d) 2]
      simp only [Nat.mul_assoc, Nat.mul_left_comm]
    rw [this, Nat.mul_div_cancel_left _ (Nat.pow_pos (by decide)), Nat.mul_mod_right]
  have hs : List.range 16 = List.range i ++ (i :: (List.range (15 - i)).map (i + 1 + ·)) := by
    have : 16 = i + (1 + (15 - i)) := by omega
    conv => lhs; rw [this]
    rw [List.range_add, List.range_add, List.map_append, List.map_map]
    simp [Function.comp_def, Nat.add_assoc]
  unfold memP
  rw [hs, List.filter_append, List.filter_append, List.filter_cons, List.filter_cons]
  have f1 : ∀ (v : Nat), (∀ j, j < i → v / 2 ^ j % 2 = 0) → (List.range i).filter (fun j => decide (v / 2 ^ j % 2 = 1)) = [] := by
    intro v hv
    rw [List.filter_eq_nil_iff]
    intro j hj
    have := hv j (List.mem_range.1 hj)
    simp [this]
  have hbi : (2 ^ (i + 1) * q + 2 ^ i) / 2 ^ i % 2 = 1 := by rw [hb i, if_neg (by omega), if_pos rfl]
  rw [f1 _ (fun j hj => by rw [hb j, if_pos hj]), f1 _ (fun j hj => hz j (by omega)), if_pos (by rw [hbi]; rfl), if_neg (by rw [hz i (Nat.le_refl _)]; decide), List.nil_append, List.nil_append]
  congr 1
  refine List.filter_congr fun j hj => ?_
  obtain ⟨d, _, rfl⟩ := List.mem_map.1 hj
  rw [hb, if_neg (by omega), if_neg (by omega)]
theorem tz_all : ((List.range 16).all fun i => decide (27 ≤ IntKind.bits .u32 ∧ (0 ≤ (IntKind.wrap .u32 (((2 ^ i : Nat) : Int) * 125613361)) / 2 ^ 27 ∧ (IntKind.wrap .u32 (((2 ^ i : Nat) : Int) * 125613361)) / 2 ^ 27 < 32) ∧ T1.getD (0 + (((IntKind.wrap .u32 (((2 ^ i : Nat) : Int) * 125613361)) / 2 ^ 27)).toNat * 1 + 0) 0 = i)) = true := by kernel_rfl
theorem f65_eq {x : BitVec 16} {i q : Nat} (hi : i < 16) (h : x.toNat = 2 ^ (i + 1) * q + 2 ^ i) : f65 x = some (i : Int) := by
  have hp0 : 0 < 2 ^ i := Nat.pow_pos (by decide)
  have hne : ¬ (x == BitVec.ofInt 16 0) = true := by
    intro e
    rw [beq_iff_eq] at e
    rw [e] at h
    have : (BitVec.ofInt 16 0).toNat = 0 := rfl
    omega
  have ea : (x &&& (-x)).toNat = 2 ^ i := by
    have hx := x.isLt
    rw [BitVec.toNat_and, BitVec.toNat_neg, h]
    rw [h] at hx
    rw [Nat.mod_eq_of_lt (by omega)]
    exact low_and 16 i q hi hx
  have ht := List.all_eq_true.1 tz_all i (List.mem_range.2 hi)
  rw [decide_eq_true_eq] at ht
  unfold f65
  rw [if_neg hne, ea, chk_pos ht.1, chk_pos ht.2.1, ht.2.2, chk_pos (by omega)]
theorem f42_L0_eq (K : List Int → Option (List Int)) : ∀ (n : Nat) (x : BitVec 16) (k : Nat) (l : List Int), x.toNat ≤ n → n + 1 < k → l.length + n ≤ 1000000 →
    f42_L0 K k (x, l) = K (l ++ (memP x.toNat 16).map fun i : Nat => (i : Int)) := by
  have hz : memP (0#16).toNat 16 = [] := by decide
  intro n
  induction n with
  | zero =>
    intro x k l hx hk hl
    obtain ⟨k, rfl⟩ : ∃ q, k = q + 1 := ⟨k - 1, by omega⟩
    have e : x = 0#16 := BitVec.eq_of_toNat_eq (by simp; omega)
    subst e
    rw [f42_L0.eq_2, if_neg (by decide), hz]; simp
  | succ n ih =>
    intro x k l hx hk hl
    obtain ⟨k, rfl⟩ : ∃ q, k = q + 1 := ⟨k - 1, by omega⟩
    by_cases h0 : x.toNat = 0
    · have e : x = 0#16 := BitVec.eq_of_toNat_eq (by simp; omega)
      subst e
      rw [f42_L0.eq_2, if_neg (by decide), hz]; simp
    · obtain ⟨i, q, hi, e⟩ := low_bit 16 x.toNat h0 x.isLt
      have hp0 : 0 < 2 ^ i := Nat.pow_pos (by decide)
      have hne : (!(x == (BitVec.ofInt 16 0))) = true := by
        have : x ≠ 0#16 := fun e => h0 (by rw [e]; rfl)
        simpa using this
      have ed : (x &&& (x - BitVec.ofInt 16 1)).toNat = 2 ^ (i + 1) * q := by
        have hxl := x.isLt
        have e1 : (x - BitVec.ofInt 16 1).toNat = x.toNat - 1 := by
          rw [BitVec.toNat_sub]
          have : (BitVec.ofInt 16 1).toNat = 1 := rfl
          rw [this]; omega
        rw [BitVec.toNat_and, e1, e]
        exact low_drop i q
      rw [f42_L0.eq_2, if_pos hne, f65_eq hi e, some_bind, chk_pos (by omega), ih _ k _ (by rw [ed]; omega) (by omega) (by simp; omega), ed, e, low_mem i q hi]
      simp
theorem f42_eq (x : BitVec 16) : f42 x = some ((memP x.toNat 16).map fun i : Nat => (i : Int)) := by
  have := x.isLt
  unfold f42
  rw [jn_eq, f42_L0_eq _ 65536 x FUEL [] (by omega) (by unfold FUEL; omega) (by simp)]
  simp
/-! ### the text of a set, by the program -/
theorem itw_len {i : Nat} (h : i < 16) : (itw i).length ≤ 2 := by
  rw [itw_eq i h]; split <;> simp
theorem tail_len : ∀ (L : List Nat), (∀ i, i ∈ L → i < 16) → (joinTail [32] (L.map itw)).length ≤ 3 * L.length
  | [], _ => by simp [joinTail]
  | i :: L, h => by
    have h1 := itw_len (h i (List.mem_cons_self ..))
    have h2 := tail_len L fun j hj => h j (List.mem_cons_of_mem _ hj)
    rw [List.map_cons, joinTail_cons, List.length_append, List.length_append, List.length_cons]
    simp only [List.length_cons, List.length_nil]
    omega
theorem join_len (L : List Nat) (h : ∀ i, i ∈ L → i < 16) : (join (L.map itw) [32]).length ≤ 3 * L.length := by
  cases L with
  | nil => simp [join_nil]
  | cons i L =>
    have h1 := itw_len (h i (List.mem_cons_self ..))
    have h2 := tail_len L fun j hj => h j (List.mem_cons_of_mem _ hj)
    rw [List.map_cons, join_cons, List.length_append, List.length_cons]
    omega
theorem memP_len16 (x : Nat) : (memP x 16).length ≤ 16 := by
  have := List.length_filter_le (fun i => decide (x / 2 ^ i % 2 = 1)) (List.range 16)
  rw [List.length_range] at this
  exact this
theorem textP_len (x : BitVec 16) : (textP x).length ≤ 50 := by
  have h1 := join_len (memP x.toNat 16) fun i hi => memP_small hi
  have h2 := memP_len16 x.toNat
  unfold textP txtW
  simp
  omega
theorem map_fold8 {α β : Type} (g : α → β) : ∀ (l : List α) (out : List β), l.foldl (fun out a => out ++ [g a]) out = out ++ l.map g
  | [], out => by simp
  | a :: l, out => by rw [List.foldl_cons, map_fold8 g l]; simp
theorem mp_get8 (L : List Nat) (n : Nat) (h : n < L.length) : (L.map fun i : Nat => (i : Int)).getD n 0 = ((L.getD n 0 : Nat) : Int) := by
  simp [List.getD_eq_getElem?_getD, h]
theorem getD_mem8 {α : Type} (L : List α) (n : Nat) (d : α) (h : n < L.length) : L.getD n d ∈ L := by
  rw [List.getD_eq_getElem?_getD, List.getElem?_eq_getElem h]
  exact List.getElem_mem _
theorem f25_eq (x : BitVec 16) : f25 x = some (textP x) := by
  have h1 := join_len (memP x.toNat 16) fun i hi => memP_small hi
  have h2 := memP_len16 x.toNat
  have h3 : ∀ i, i ∈ memP x.toNat 16 → i < 16 := fun i hi => memP_small hi
  unfold f25 textP txtW
  rw [jn_eq, f42_eq, some_bind]
  generalize memP x.toNat 16 = L at *
  have hl : (L.map fun i : Nat => (i : Int)).length = L.length := List.length_map _
  have hf := fold_up (f25_L0 (fun (l6 : List (List UInt8)) => (f26 l6 ([32] : List UInt8)).bind fun (r7 : List UInt8) =>
      chk (([123] : List UInt8).length + r7.length ≤ 9223372036854775807) <| chk ((([123] : List UInt8) ++ r7).length + ([125] : List UInt8).length ≤ 9223372036854775807) <| some ((([123] : List UInt8) ++ r7) ++ ([125] : List UInt8))) (L.map fun i : Nat => (i : Int))) (L.map fun i : Nat => (i : Int)) 0 (fun n l => l.length ≤ n) (fun out v => out ++ [Lib.itoa v]) _ (fun k n l hn hi => by
    rw [hl] at hn
    have := h3 _ (getD_mem8 L n 0 hn)
    rw [f25_L0.eq_2, ifd_pos (by rw [hl]; omega), chk_pos (by rw [hl]; omega), chk_pos (by rw [hl]; omega), mp_get8 L n hn]
    unfold f43 itoaO
    rw [if_pos (by omega), some_bind, chk_pos (by omega), chk_pos (by omega)]) (fun n l hn hi => by simp; omega) (fun k l hi => by
    rw [f25_L0.eq_2, ifd_neg (by omega)]) L.length FUEL 0 [] (by rw [hl]; omega) (fuel_lt (by omega)) (by simp)
  rw [List.drop_zero, map_fold8, List.nil_append, List.map_map] at hf
  refine Eq.trans hf ?_
  have e : List.map (Lib.itoa ∘ fun i : Nat => (i : Int)) L = L.map itw := rfl
  rw [e]
  unfold f26 joinP
  rw [if_pos (by rw [List.length_map]; omega), some_bind, chk_pos (by simp; omega), chk_pos (by simp; omega)]
  simp
/-! ### by the reference -/
theorem joinTail_app (sep : List UInt8) (a b : List (List UInt8)) : joinTail sep (a ++ b) = joinTail sep a ++ joinTail sep b := by
  simp [joinTail]
theorem join_snoc (ws : List (List UInt8)) (w sep : List UInt8) : join (ws ++ [w]) sep = if ws = [] then w else join ws sep ++ sep ++ w := by
  cases ws with
  | nil => rw [if_pos rfl]; exact join_one w sep
  | cons a r =>
    rw [if_neg (by simp), List.cons_append, join_cons, join_cons, joinTail_app]
    simp [joinTail]
theorem bit0 (x : BitVec 16) (n : Nat) : (((x >>> n) &&& (BitVec.ofInt 16 1)) == (BitVec.ofInt 16 0)) = decide (x.toNat / 2 ^ n % 2 = 0) := by
  have h := bit_toNat x n
  rw [Bool.eq_iff_iff, beq_iff_eq, decide_eq_true_eq, ← h]
  constructor
  · intro e; rw [e]; rfl
  · intro e; exact BitVec.eq_of_toNat_eq e
theorem f23_L0_eq (x : BitVec 16) (K : List UInt8 → Option (List UInt8)) : ∀ (c k n : Nat), n + c = 16 → c < k → f23_L0 x K k (123 :: join ((memP x.toNat n).map itw) [32], n) = K (123 :: join ((memP x.toNat 16).map itw) [32])
  | 0, k, n, hn, hk => by
    obtain ⟨k, rfl⟩ : ∃ q, k = q + 1 := ⟨k - 1, by omega⟩
    obtain rfl : n = 16 := by omega
    rw [f23_L0.eq_2, ifd_neg (by omega)]
  | c + 1, k, n, hn, hk => by
    obtain ⟨k, rfl⟩ : ∃ q, k = q + 1 := ⟨k - 1, by omega⟩
    have ih := f23_L0_eq x K c k (n + 1) (by omega) (by omega)
    have hb := memP_succ x.toNat n
    have hL3 : ∀ i, i ∈ memP x.toNat n → i < 16 := fun i hi => by have := List.mem_range.1 (List.mem_filter.1 hi).1; omega
    have hlen : (memP x.toNat n).length ≤ 16 := by
      have := List.length_filter_le (fun i => decide (x.toNat / 2 ^ i % 2 = 1)) (List.range n)
      rw [List.length_range] at this
      unfold memP; omega
    have hj := join_len (memP x.toNat n) hL3
    rw [f23_L0.eq_2, ifd_pos (by omega), jn_eq, bit0]
    rcases bit_01 x.toNat n with h0 | h1
    · rw [ifd_pos h0]
      dsimp only
      rw [chk_pos (by omega), ← ih, hb, if_neg (by omega), List.append_nil]
    · rw [ifd_neg (by omega)]
      rw [if_pos h1] at hb
      rw [hb, List.map_append, List.map_singleton, join_snoc] at ih
      generalize memP x.toNat n = L at *
      have hne : (L.map itw = []) ↔ L = [] := by simp
      have hd : UInt8.ofNat (48 + n % 10) :: [] = [UInt8.ofNat (48 + n % 10)] := rfl
      have hit := itw_eq n (by omega)
      rw [jn_eq]
      have hemp : (!((123 :: join (L.map itw) [32] : List UInt8) == [123])) = !decide (L = []) := by
        cases L with
        | nil => rfl
        | cons i L =>
          have : join (itw i :: List.map itw L) [32] ≠ [] := by
            rw [join_cons]
            have := (itw_dig i).1
            simp [this]
          simp [this]
      rw [hemp]
      have step : ∀ s5 : List UInt8, s5.length ≤ 1000 → (jn (fun (s6 : List UInt8) =>
          chk (1 ≤ (10 : Int)) <| chk (((48 : Int) + (((n % 10) : Nat) : Int)) ≤ 9223372036854775807) <| chk ((((48 + (n % 10)) : Nat) : Int) ≤ 255) <|
          chk (s6.length + [UInt8.ofNat (48 + (n % 10))].length ≤ 9223372036854775807) <|
          chk (((n : Int) + (1 : Int)) ≤ 9223372036854775807) <| (f23_L0 x K k) (s6 ++ [UInt8.ofNat (48 + (n % 10))], (n + 1))
          ) fun (K4 : (List UInt8) → Option (List UInt8)) => if (decide ((n : Int) ≥ (10 : Int))) = true then (chk (s5.length + ([49] : List UInt8).length ≤ 9223372036854775807) <| K4 (s5 ++ ([49] : List UInt8))) else (K4 s5)) = f23_L0 x K k (s5 ++ itw n, n + 1) := by
        intro s5 hs
        rw [jn_eq, hit]
        by_cases h10 : n < 10
        · rw [ifd_neg (by omega), if_pos h10]
          dsimp only
          rw [chk_pos (by omega), chk_pos (by omega), chk_pos (by omega), chk_pos (by simp; omega), chk_pos (by omega), show n % 10 = n from by omega]
        · rw [ifd_pos (by omega), if_neg h10, chk_pos (by simp; omega)]
          dsimp only
          rw [chk_pos (by omega), chk_pos (by omega), chk_pos (by omega), chk_pos (by simp; omega), chk_pos (by omega)]
          simp
      by_cases hL : L = []
      · rw [decide_eq_true hL, if_neg (by simp)]
        refine (step _ (by simp; omega)).trans ?_
        rw [← ih, if_pos (hne.2 hL), hL]
        simp [join_nil]
      · rw [decide_eq_false hL, if_pos (by simp), chk_pos (by simp; omega)]
        refine (step _ (by simp; omega)).trans ?_
        rw [← ih, if_neg (fun e => hL (hne.1 e))]
        simp
theorem f23_eq (x : BitVec 16) : f23 x = some (textP x) := by
  have h1 := join_len (memP x.toNat 16) fun i hi => memP_small hi
  have h2 := memP_len16 x.toNat
  have h := f23_L0_eq x (fun (s7 : List UInt8) => chk (s7.length + ([125] : List UInt8).length ≤ 9223372036854775807) <| some (s7 ++ ([125] : List UInt8))) 16 FUEL 0 (by omega) (fuel_lt (by omega))
  unfold f23 textP txtW
  rw [jn_eq]
  refine Eq.trans h ?_
  rw [chk_pos (by simp; omega)]
  simp
/-- the numbers in a text -/
theorem f22_L0_eq (x : List UInt8) (hx : x.length ≤ 1000000) (K : BitVec 16 → Option (BitVec 16)) : ∀ (c k n : Nat) (w : BitVec 16) (i : Int), n + c = x.length → c < k → -1 ≤ i → i ≤ 99 → f22_L0 x K k (w, i, n) = K (scanM (x.drop n) i w)
  | 0, k, n, w, i, hn, hk, h1, h2 => by
    obtain ⟨k, rfl⟩ : ∃ q, k = q + 1 := ⟨k - 1, by omega⟩
    rw [f22_L0.eq_2, ifd_neg (by omega), List.drop_eq_nil_of_le (by omega)]
    rfl
  | c + 1, k, n, w, i, hn, hk, h1, h2 => by
    obtain ⟨k, rfl⟩ : ∃ q, k = q + 1 := ⟨k - 1, by omega⟩
    have ih := f22_L0_eq x hx K c k (n + 1)
    rw [f22_L0.eq_2, ifd_pos (by omega), jn_eq, chk_pos (by omega), chk_pos (by intro; omega), getD_drop x n 0 (by omega), scanM]
    have hb := (x.getD n 0).toNat_lt
    by_cases hd : 48 ≤ (x.getD n 0).toNat ∧ (x.getD n 0).toNat ≤ 57
    · rw [if_pos (by simp only [Bool.and_eq_true, decide_eq_true_eq]; omega), if_pos hd, chk_pos (by omega), chk_pos (by omega), chk_pos (by omega), chk_pos (by omega), chk_pos (by omega)]
      dsimp only
      rw [chk_pos (by omega), ih _ _ (by omega) (by omega) (by omega) (by omega)]
    · rw [if_neg (by simp only [Bool.and_eq_true, decide_eq_true_eq]; omega), if_neg hd, jn_eq]
      by_cases hi : 0 ≤ i ∧ i < 16
      · rw [if_pos (by simp only [Bool.and_eq_true, decide_eq_true_eq]; omega), if_pos hi, chk_pos (by omega)]
        dsimp only
        rw [chk_pos (by omega), ih _ _ (by omega) (by omega) (by omega) (by omega)]
      · rw [if_neg (by simp only [Bool.and_eq_true, decide_eq_true_eq]; omega), if_neg hi]
        dsimp only
        rw [chk_pos (by omega), ih _ _ (by omega) (by omega) (by omega) (by omega)]
theorem f22_eq (x : List UInt8) (hx : x.length ≤ 1000000) : f22 x = some (scanM x (-1) 0#16) := by
  unfold f22
  rw [jn_eq, show (BitVec.ofInt 16 0) = 0#16 from rfl, f22_L0_eq x hx _ x.length FUEL 0 _ _ (by omega) (fuel_lt (by omega)) (by omega) (by omega), List.drop_zero]
/-! ### a set out of a text, by the program -/
def stepA (t : List UInt8) : Option Nat := match atoiAll t with
  | .ok v => if v < 12 then some v.toNat else none
  | _ => none
def prsW : List (List UInt8) → BitVec 16 → Option (BitVec 16)
  | [], w => some w
  | t :: r, w => (stepA t).bind fun i => prsW r (w ||| ((BitVec.ofInt 16 1) <<< i))
theorem stepA_itw {i : Nat} (h : i < 12) : stepA (itw i) = some i := by
  unfold stepA itw
  rw [atoi_itoa (i : Int) (by omega) (by omega)]
  dsimp only
  rw [if_pos (by omega), Int.toNat_natCast]
theorem prsW_map : ∀ (L : List Nat) (w : BitVec 16), (∀ i, i ∈ L → i < 12) → prsW (L.map itw) w = some (orL L w)
  | [], w, _ => rfl
  | i :: L, w, h => by
    rw [List.map_cons, prsW, stepA_itw (h i (List.mem_cons_self ..))]
    exact prsW_map L _ fun j hj => h j (List.mem_cons_of_mem _ hj)
theorem mem_small {x : BitVec 16} (h : x.toNat < 4096) {i : Nat} (hi : i ∈ memP x.toNat 16) : i < 12 := by
  unfold memP at hi
  rw [List.mem_filter, decide_eq_true_eq] at hi
  refine Classical.byContradiction fun hge => ?_
  have : 2 ^ 12 ≤ 2 ^ i := Nat.pow_le_pow_right (by decide) (by omega)
  rw [Nat.div_eq_of_lt (by omega)] at hi
  exact absurd hi.2 (by decide)
theorem prsW_text {x : BitVec 16} (h : x.toNat < 4096) : prsW ((memP x.toNat 16).map itw) 0#16 = some x := by
  rw [prsW_map _ _ fun i hi => mem_small h hi, orL_mem]
theorem or_small {a b : BitVec 16} (ha : a.toNat < 4096) (hb : b.toNat < 4096) : (a ||| b).toNat < 4096 := by
  rw [BitVec.toNat_or]
  exact Nat.or_lt_two_pow (n := 12) ha hb
theorem shl_small {i : Nat} (h : i < 12) : ((BitVec.ofInt 16 1) <<< i).toNat < 4096 := by
  have e1 : ((BitVec.ofInt 16 1) <<< i).toNat = 2 ^ i := by
    rw [BitVec.toNat_shiftLeft]
    show 1 <<< i % 2 ^ 16 = 2 ^ i
    rw [Nat.one_shiftLeft, Nat.mod_eq_of_lt (Nat.pow_lt_pow_right (by decide) (by omega))]
  rw [e1]
  show 2 ^ i < 2 ^ 12
  exact Nat.pow_lt_pow_right (by decide) h
theorem prsW_small : ∀ (ws : List (List UInt8)) (w r : BitVec 16), (∀ t, t ∈ ws → DigW t) → w.toNat < 4096 → prsW ws w = some r → r.toNat < 4096
  | [], w, r, _, hw, h => by cases h; exact hw
  | t :: ws, w, r, hd, hw, h => by
    rw [prsW] at h
    obtain ⟨i, hi, h2⟩ := Option.bind_eq_some_iff.1 h
    have hi12 : i < 12 := by
      unfold stepA at hi
      split at hi
      · rename_i v hv
        have := atoi_dig (hd t (List.mem_cons_self ..)) hv
        split at hi
        · cases hi; omega
        · cases hi
      · cases hi
    exact prsW_small ws _ r (fun x hx => hd x (List.mem_cons_of_mem _ hx)) (or_small hw (shl_small hi12)) h2
theorem f18_L0_eq (K : BitVec 16 → Option (BitVec 16 × Int)) (ws : List (List UInt8)) (hd : ∀ t, t ∈ ws → DigW t ∧ t.length ≤ 1000000) (hl : ws.length ≤ 10000000) : ∀ (c k n : Nat) (w : BitVec 16), n + c = ws.length → c < k →
    f18_L0 K ws k (w, n) = match prsW (ws.drop n) w with | some r => K r | none => some (BitVec.ofInt 16 0, 2)
  | 0, k, n, w, hn, hk => by
    obtain ⟨k, rfl⟩ : ∃ q, k = q + 1 := ⟨k - 1, by omega⟩
    rw [f18_L0.eq_2, ifd_neg (by omega), List.drop_eq_nil_of_le (by omega)]
    rfl
  | c + 1, k, n, w, hn, hk => by
    obtain ⟨k, rfl⟩ : ∃ q, k = q + 1 := ⟨k - 1, by omega⟩
    obtain ⟨h1, h2⟩ := hd _ (getD_mem8 ws n [] (by omega))
    rw [f18_L0.eq_2, ifd_pos (by omega), chk_pos (by omega), chk_pos (by omega), getD_drop ws n [] (by omega), prsW]
    unfold f38 atoiO
    rw [if_pos (by omega)]
    generalize ws.getD n [] = t at h1 h2 ⊢
    unfold stepA
    cases ha : atoiAll t with
    | ok v =>
      have hv := atoi_dig h1 ha
      dsimp only
      rw [some_bind]
      by_cases h12 : v < 12
      · rw [if_neg (by simp; omega), if_pos h12, some_bind]
        dsimp only
        rw [chk_pos hv, chk_pos (by omega), f18_L0_eq K ws hd hl c k (n + 1) _ (by omega) (by omega)]
      · rw [if_pos (by simp; omega), if_neg h12]
        rfl
    | _ => rfl
theorem f18_eq (t : List UInt8) (ht : t.length ≤ 1000000) : f18 t = some (match okT t with | some x => (x, 0) | none => (0#16, 2)) := by
  have hp : (fun x : Nat => (f37 (x : Int)).getD false) = pD := by
    funext x
    unfold f37 pD
    show (decide ((x : Int) < 48) || decide ((x : Int) > 57)) = _
    congr 1
    · rw [decide_eq_decide]; omega
    · rw [decide_eq_decide]; omega
  have hd := fields_dig t
  have hlen : ∀ w, w ∈ (goFieldsP pD ⟨t.toArray⟩).map (·.data.toList) → w.length ≤ 1000000 := by
    intro w hw
    unfold goFieldsP at hw
    rw [List.map_map] at hw
    obtain ⟨q, _, rfl⟩ := List.mem_map.1 hw
    show ((⟨t.toArray⟩ : ByteArray).extract q.1 q.2).data.toList.length ≤ 1000000
    rw [extract_toList]
    unfold exL
    simp
    omega
  have hn := fields_len pD ⟨t.toArray⟩
  have hsz : (⟨t.toArray⟩ : ByteArray).size = t.length := by simp [ByteArray.size]
  have htext : ∀ x : BitVec 16, x.toNat < 4096 → textP x = t → prsW ((goFieldsP pD ⟨t.toArray⟩).map (·.data.toList)) 0#16 = some x := by
    intro x hx e
    subst e
    have e0 : (goFieldsP pD ⟨(textP x).toArray⟩).map (·.data.toList) = fldL pD (textP x) none := fields_ascii pD (textP x) (txtW_small _ (words_dig _))
    rw [e0]
    have := fldL_txt ((memP x.toNat 16).map itw) (words_dig _)
    unfold textP
    rw [this]
    exact prsW_text hx
  unfold f18
  rw [jn_eq]
  unfold f36 fieldsO
  rw [if_pos ht, some_bind, hp, show (BitVec.ofInt 16 0) = 0#16 from rfl]
  rw [f18_L0_eq _ _ (fun w hw => ⟨hd w hw, hlen w hw⟩) (by rw [List.length_map]; omega) _ FUEL 0 0#16 (Nat.zero_add _) (fuel_lt (by rw [List.length_map]; omega)), List.drop_zero]
  cases hw : prsW ((goFieldsP pD ⟨t.toArray⟩).map (·.data.toList)) 0#16 with
  | none =>
    dsimp only
    cases ho : okT t with
    | none => rfl
    | some x =>
      obtain ⟨h1, h2⟩ := okT_some ho
      rw [htext x h2 h1] at hw
      cases hw
  | some r =>
    dsimp only
    rw [f25_eq, some_bind]
    have hr := prsW_small _ _ r hd (by decide) hw
    by_cases e : textP r = t
    · rw [if_neg (by simp [e])]
      have := okT_text r
      rw [e, if_pos hr] at this
      rw [this]
    · rw [if_pos (by simpa using e)]
      cases ho : okT t with
      | none => rfl
      | some x =>
        obtain ⟨h1, h2⟩ := okT_some ho
        rw [htext x h2 h1] at hw
        cases hw
        exact absurd h1 e
end Go.Abs
namespace Go.Abs
open Go Go.Lib
theorem ftail_len : ∀ (f : List (BitVec 16)), (joinTail [32] (f.map textP)).length ≤ 51 * f.length
  | [] => by simp [joinTail]
  | x :: f => by
    have h1 := textP_len x
    have h2 := ftail_len f
    rw [List.map_cons, joinTail_cons, List.length_append, List.length_append, List.length_cons]
    simp only [List.length_cons, List.length_nil]
    omega
theorem famT_len (f : List (BitVec 16)) : (famT f).length ≤ 51 * f.length := by
  unfold famT
  cases f with
  | nil => simp [join_nil]
  | cons x f =>
    have h1 := textP_len x
    have h2 := ftail_len f
    rw [List.map_cons, join_cons, List.length_append, List.length_cons]
    omega
theorem f7_eq (f : List (BitVec 16)) (hf : f.length ≤ 1000) : f7 f = some (famT f) := by
  unfold f7
  rw [jn_eq]
  have h := fold_up (f7_L0 f (fun (l5 : List (List UInt8)) => (f26 l5 ([32] : List UInt8)).bind fun (r6 : List UInt8) => some r6)) f 0#16 (fun n l => l.length ≤ n) (fun out v => out ++ [textP v]) _ (fun k n l hn hi => by
    rw [f7_L0.eq_2, ifd_pos (by omega), chk_pos (by omega), f25_eq, some_bind, chk_pos (by omega), chk_pos (by omega)]) (fun n l hn hi => by simp; omega) (fun k l hi => by
    rw [f7_L0.eq_2, ifd_neg (by omega)]) f.length FUEL 0 [] (by omega) (fuel_lt (by omega)) (by simp)
  rw [List.drop_zero, map_fold8, List.nil_append] at h
  refine Eq.trans h ?_
  have hl := famT_len f
  unfold famT at hl ⊢
  unfold f26 joinP
  rw [if_pos (by rw [List.length_map]; omega), some_bind]
def scan : Nat → List Bool → List (BitVec 16)
  | _, [] => []
  | i, b :: t => if b then BitVec.ofInt 16 ((i : Nat) : Int) :: scan (i + 1) t else scan (i + 1) t
theorem f11_L2_eq (l9 : List Bool) (K3 : (List (BitVec 16)) → Option (List (BitVec 16) × Int)) : ∀ (k n : Nat) (acc : List (BitVec 16)), n ≤ l9.length → l9.length - n < k → l9.length ≤ 65536 → acc.length ≤ n →
    f11_L2 l9 K3 k (n, acc) = K3 (acc ++ scan n (l9.drop n)) := by
  intro k
  induction k with
  | zero => intro n acc hn hk; omega
  | succ k ih =>
    intro n acc hn hk hl ha
    rw [f11_L2.eq_2]
    by_cases h : n < l9.length
    · rw [if_pos (by simp; omega)]
      rw [List.drop_eq_getElem_cons h]
      have hg : l9.getD n false = l9[n] := by simp [List.getD_eq_getElem?_getD, h]
      unfold jn
      simp only [scan]
      unfold chk
      rw [if_pos (by omega), if_pos h, hg]
      split
      · rw [if_pos (by omega), if_pos (by omega), ih (n + 1) _ (by omega) (by omega) hl (by simp; omega)]
        simp
      · rw [if_pos (by omega), ih (n + 1) _ (by omega) (by omega) hl (by omega)]
    · have e : n = l9.length := by omega
      subst e
      rw [if_neg (by simp)]
      simp [scan]
def f11' (x1 : List (BitVec 16)) (x2 : List (BitVec 16)) : Option (List (BitVec 16) × Int) :=
  (f29 x1 x2).bind fun (r3 : Int) =>
  if (r3 != (0 : Int)) then (
  some ([], r3)
  ) else (
  jn (fun (l9 : List Bool) =>
  jn (fun (l13 : List (BitVec 16)) =>
  (f31 l13).bind fun (r14 : List (BitVec 16)) =>
  (f30 r14).bind fun (r15 : List (BitVec 16) × Int) =>
  some (r15.1, r15.2)
  ) fun (K3 : (List (BitVec 16)) → Option (List (BitVec 16) × Int)) =>
  if l9.length ≤ 65536 then K3 (scan 0 l9) else f11_L2 l9 K3 FUEL (0, [])
  ) fun (K1 : (List Bool) → Option (List (BitVec 16) × Int)) =>
  f11_L0 x1 x2 K1 FUEL (0, (List.replicate 4096 false))
  )
theorem f11_eq (x1 x2 : List (BitVec 16)) : f11 x1 x2 = f11' x1 x2 := by
  unfold f11 f11'
  refine congrArg (Option.bind (f29 x1 x2)) (funext fun r3 => ?_)
  by_cases h : (r3 != (0 : Int)) = true
  · rw [if_pos h, if_pos h]
  · rw [if_neg h, if_neg h]
    refine congrArg (fun K1 => f11_L0 x1 x2 K1 FUEL (0, List.replicate 4096 false)) (funext fun l9 => ?_)
    unfold jn
    dsimp only
    by_cases hl : l9.length ≤ 65536
    · rw [if_pos hl, f11_L2_eq l9 _ FUEL 0 [] (by omega) (by unfold FUEL; omega) hl (by simp)]
      simp
    · rw [if_neg hl]
theorem t11 : f11 [BitVec.ofInt 16 3, BitVec.ofInt 16 5, BitVec.ofInt 16 6] [BitVec.ofInt 16 8] = some ([11#16, 13#16, 14#16], 0) := by
  rw [f11_eq]; kernel_rfl
/-- texts that the kernel can reckon -/
def itc (i : Nat) : List UInt8 := if i < 10 then [UInt8.ofNat (48 + i)] else [49, UInt8.ofNat (48 + i % 10)]
theorem textP_c (x : BitVec 16) : textP x = txtW ((memP x.toNat 16).map itc) := by
  unfold textP
  congr 1
  exact List.map_congr_left fun i hi => itw_eq i (memP_small hi)
def famC (f : List (BitVec 16)) : List UInt8 := join (f.map fun x => txtW ((memP x.toNat 16).map itc)) [32]
theorem famT_c (f : List (BitVec 16)) : famT f = famC f := by
  unfold famT famC
  congr 1
  exact List.map_congr_left fun x _ => textP_c x
theorem famC_cs : famC [11#16, 13#16, 14#16] = cs1 := by kernel_rfl
theorem f4_true : f4 = some true := by
  have h7 : f7 [11#16, 13#16, 14#16] = some cs1 := by rw [f7_eq _ (by decide), famT_c, famC_cs]
  unfold f4
  rw [t11, some_bind]
  dsimp only
  rw [h7]
  refine Eq.trans (b := some true) ?_ rfl
  kernel_rfl
end Go.Abs
namespace Go.Abs
open Go Go.Lib
theorem ixB_cons (b : UInt8) (l : List UInt8) (c : UInt8) : ixB (b :: l) c = if b == c then 0 else if ixB l c == -1 then -1 else ixB l c + 1 := by
  rw [← ixB_eq, ← ixB_eq]; rfl
theorem brk_none : ∀ (s : List UInt8), brk s = none → ixB s 125 = -1
  | [], _ => rfl
  | b :: t, h => by
    rw [brk] at h
    by_cases e : b = 125
    · rw [if_pos e] at h; cases h
    · rw [if_neg e, Option.map_eq_none_iff] at h
      rw [ixB_cons, if_neg (by simpa using e), brk_none t h]
      rfl
theorem brk_some : ∀ (s t r : List UInt8), brk s = some (t, r) → ∃ n : Nat, ixB s 125 = (n : Int) ∧ n < s.length ∧ t = s.take (n + 1) ∧ r = s.drop (n + 1)
  | [], _, _, h => by cases h
  | b :: s, t, r, h => by
    rw [brk] at h
    by_cases e : b = 125
    · rw [if_pos e] at h
      cases h
      exact ⟨0, by rw [ixB_cons, if_pos (by simpa using e)]; rfl, by simp, by simp [e], by simp⟩
    · rw [if_neg e] at h
      obtain ⟨⟨t', r'⟩, h1, h2⟩ := Option.map_eq_some_iff.1 h
      cases h2
      obtain ⟨n, h3, h4, h5, h6⟩ := brk_some s t' r' h1
      refine ⟨n + 1, ?_, by simp; omega, by rw [h5]; rfl, by rw [h6]; rfl⟩
      rw [ixB_cons, if_neg (by simpa using e), h3, if_neg (by simp)]
      rfl
theorem okT_nil : okT [] = none := by
  cases h : okT [] with
  | none => rfl
  | some x =>
    have := (okT_some h).1
    unfold textP txtW at this
    cases this
theorem f20_eq (b : UInt8) (r : List UInt8) (hr : r.length ≤ 1000000) : f20 (b :: r) [32] = some (if b = 32 then (r, true) else (b :: r, false)) := by
  unfold f20 f39 f59
  rw [chk_pos (by intro; simp; omega), some_bind]
  have e1 : (decide ((((b :: r).length : Nat) : Int) ≥ ((([32] : List UInt8).length : Nat) : Int))) = true := by simp; omega
  have e2 : ((b :: r).take ([32] : List UInt8).length == [32]) = decide (b = 32) := by
    rw [Bool.eq_iff_iff]; simp
  rw [e1, e2, Bool.true_and]
  by_cases h : b = 32
  · rw [decide_eq_true h, if_pos h, if_neg (by simp), chk_pos (by simp; omega), some_bind]
    rfl
  · rw [decide_eq_false h, if_neg h, if_pos (by rfl), some_bind]
theorem len_all : ((List.range 256).all fun j => decide ((cs2.getD j 0).toNat ≤ if j < 16 then 4 else 8)) = true := by kernel_rfl
theorem len_of {j : Nat} (h : j < 256) : (cs2.getD j 0).toNat ≤ if j < 16 then 4 else 8 := by
  have := List.all_eq_true.1 len_all j (List.mem_range.2 h)
  simpa using this
theorem f19_eq {x : BitVec 16} (h : x.toNat < 4096) : ∃ m : Int, f19 x = some m ∧ m ≤ 12 := by
  have hc : cs2.length = 256 := by kernel_rfl
  unfold f19
  rw [jn_eq, show (BitVec.ofInt 16 256).toNat = 256 from rfl]
  by_cases hx : x.toNat ≥ 256
  · rw [ifd_pos hx]
    dsimp only
    have e : (x >>> 8).toNat = x.toNat / 256 := by rw [BitVec.toNat_ushiftRight, Nat.shiftRight_eq_div_pow]
    have hj := len_of (j := x.toNat / 256) (by omega)
    rw [if_pos (by omega)] at hj
    rw [e, hc, chk_pos (by omega), chk_pos (by omega), chk_pos (by omega), chk_pos (by omega)]
    exact ⟨_, rfl, by omega⟩
  · rw [ifd_neg hx]
    dsimp only
    have hj := len_of (j := x.toNat) (by omega)
    have : (cs2.getD x.toNat 0).toNat ≤ 8 := by split at hj <;> omega
    rw [hc, chk_pos (by omega), chk_pos (by omega), chk_pos (by omega), chk_pos (by omega)]
    exact ⟨_, rfl, by omega⟩
abbrev RPar := Option (Int × List (BitVec 16))
theorem f5_L0_eq (K : List (BitVec 16) → RPar) : ∀ (k : Nat) (s : List UInt8) (l : List (BitVec 16)), s ≠ [] → s.length < k → l.length + s.length ≤ 1000000 →
    f5_L0 K k (s, l) = match specL k s l with | none => some (2, []) | some r => K r
  | 0, s, l, _, h, _ => by omega
  | k + 1, s, l, hs, hk, hl => by
    have h125 : (125 : Int).toNat.toUInt8 = 125 := rfl
    rw [f5_L0.eq_2, if_pos (by simpa using hs)]
    unfold f17 ixbO
    rw [some_bind, h125, specL]
    cases hb : brk s with
    | none =>
      rw [brk_none s hb, chk_pos (by omega), show ((-1 : Int) + 1).toNat = 0 from rfl, List.take_zero, f18_eq [] (by simp), okT_nil, some_bind, chk_pos (by omega)]
      dsimp only
      rw [show (((2 : Int) != 0) == false) = false from rfl, optc_f, if_pos (by rfl)]
      rfl
    | some q =>
      obtain ⟨t, r⟩ := q
      obtain ⟨n, h1, h2, h3, h4⟩ := brk_some s t r hb
      have hlt : t.length ≤ s.length := by rw [h3, List.length_take]; omega
      have hlr : r.length + (n + 1) = s.length := by rw [h4, List.length_drop]; omega
      rw [h1, chk_pos (by omega), show ((n : Int) + 1).toNat = n + 1 from by omega, ← h3, ← h4, f18_eq t (by omega), some_bind, chk_pos (by omega), some_bind]
      dsimp only
      cases ho : okT t with
      | none =>
        dsimp only
        rw [show (((2 : Int) != 0) == false) = false from rfl, optc_f, if_pos (by rfl)]
        rfl
      | some x =>
        obtain ⟨m, hm, hm2⟩ := f19_eq (okT_some ho).2
        dsimp only
        rw [show (((0 : Int) != 0) == false) = true from rfl, optc_t, hm, some_bind, some_bind, if_neg (by simp; omega), chk_pos (by omega), chk_pos (by omega)]
        cases r with
        | nil => rw [if_pos (by rfl), if_pos rfl]
        | cons b r =>
          rw [if_neg (by simp), if_neg (by simp), f20_eq b r (by simp at hlr; omega), some_bind]
          by_cases e : b = 32
          · rw [if_pos e]
            dsimp only
            by_cases hr : r = []
            · rw [if_pos (by simp [hr]), if_neg (fun h => h.2 (by simpa using hr))]
            · rw [if_neg (by simp [hr]), if_pos ⟨by simp [e], by simpa using hr⟩]
              exact f5_L0_eq K k r (l ++ [x]) hr (by simp at hlr; omega) (by simp at hlr ⊢; omega)
          · rw [if_neg e]
            dsimp only
            rw [if_pos (by simp), if_neg (fun h => e (by simpa using h.1))]
/-- what both answer -/
def finT (v : Int) (l : List (BitVec 16)) : Int × List (BitVec 16) := if v ≠ 0 then (v, []) else (0, l)
theorem f5_eq (s : List UInt8) (hs : s.length ≤ 100000) (v : List (BitVec 16) → Int) (hv : ∀ l, f21 l = some (v l)) :
    f5 s = some (if s = [] then finT (v []) [] else match specL 1000000 s [] with | none => (2, []) | some l => finT (v l) l) := by
  have hfin : ∀ l : List (BitVec 16), ((f21 l).bind fun (r9 : Int) => if (r9 != (0 : Int)) = true then some (r9, []) else some ((0 : Int), l)) = some (finT (v l) l) := by
    intro l
    rw [hv, some_bind]
    unfold finT
    by_cases h : v l = 0
    · rw [if_neg (by simp [h]), if_neg (by simp [h])]
    · rw [if_pos (by simpa using h), if_pos h]
  have hF : ∀ (F G : Nat) (s : List UInt8) (l : List (BitVec 16)), s.length < F → F ≤ G → specL F s l = specL G s l := by
    intro F
    induction F with
    | zero => intro G s l h; omega
    | succ F ih =>
      intro G s l h hG
      obtain ⟨G, rfl⟩ : ∃ q, G = q + 1 := ⟨G - 1, by omega⟩
      rw [specL, specL]
      cases hb : brk s with
      | none => rfl
      | some q =>
        obtain ⟨t, r⟩ := q
        obtain ⟨n, _, h2, _, h4⟩ := brk_some s t r hb
        rw [some_bind, some_bind]
        cases okT t with
        | none => rfl
        | some x =>
          rw [some_bind, some_bind]
          dsimp only
          split
          · rfl
          · split
            · refine ih G _ _ ?_ (by omega)
              rw [h4, List.length_tail, List.length_drop]; omega
            · rfl
  unfold f5
  rw [jn_eq]
  by_cases h : s = []
  · subst h
    rw [if_pos rfl]
    have hfu : FUEL = (FUEL - 1) + 1 := by unfold FUEL; rfl
    rw [hfu, f5_L0.eq_2, if_neg (by simp)]
    exact hfin []
  · rw [if_neg h, f5_L0_eq _ FUEL s [] h (fuel_lt (by omega)) (by simp; omega), ← hF 1000000 FUEL s [] (by omega) (by unfold FUEL; omega)]
    cases specL 1000000 s [] with
    | none => rfl
    | some l => exact hfin l
theorem brk_no : ∀ (s : List UInt8), (∀ b, b ∈ s → b ≠ 125) → brk s = none
  | [], _ => rfl
  | b :: s, h => by rw [brk, if_neg (h b (List.mem_cons_self ..)), brk_no s fun x hx => h x (List.mem_cons_of_mem _ hx)]; rfl
theorem take_snoc8 {α : Type} (l : List α) (j : Nat) (d : α) (h : j < l.length) : l.take (j + 1) = l.take j ++ [l.getD j d] := by
  rw [List.take_add_one]
  simp [List.getD_eq_getElem?_getD, h]
theorem specL_none {F : Nat} {s : List UInt8} {l : List (BitVec 16)} (h : brk s = none) : specL F s l = none := by
  cases F with
  | zero => rfl
  | succ F => rw [specL, h]; rfl
theorem f6_L0_eq (x : List UInt8) (hx : x.length ≤ 1000000) (K : Nat × List (BitVec 16) → RPar) (R : List (BitVec 16) → RPar) (hK1 : ∀ n l, n ≤ x.length → K (n, l) = some (2, [])) (hK2 : ∀ l, K (x.length + 1, l) = R l) :
    ∀ (m k F n2 n3 : Nat) (l : List (BitVec 16)), n3 + m = x.length → n2 ≤ n3 → (∀ b, b ∈ (x.take n3).drop n2 → b ≠ 125) → m < k → m < F → l.length ≤ n3 →
      f6_L0 x K k (n2, n3, l) = match specL F (x.drop n2) l with | none => some (2, []) | some r => R r := by
  intro m
  induction m using Nat.strongRecOn with
  | ind m ihm =>
    intro k F n2 n3 l hn h23 hno hk hF hl
    obtain ⟨k, rfl⟩ : ∃ q, k = q + 1 := ⟨k - 1, by omega⟩
    obtain ⟨F, rfl⟩ : ∃ q, F = q + 1 := ⟨F - 1, by omega⟩
    by_cases hm : m = 0
    · rw [f6_L0.eq_2, ifd_neg (by omega), hK1 n2 l (by omega)]
      have e : (x.take n3).drop n2 = x.drop n2 := by rw [List.take_of_length_le (by omega)]
      rw [e] at hno
      rw [specL_none (brk_no _ hno)]
    · have hlt : n3 < x.length := by omega
      have hpc : (x.take (n3 + 1)).drop n2 = (x.take n3).drop n2 ++ [x.getD n3 0] := by
        rw [take_snoc8 x n3 0 hlt, List.drop_append_of_le_length (by rw [List.length_take]; omega)]
      have hall : x.drop n2 = (x.take n3).drop n2 ++ x.getD n3 0 :: x.drop (n3 + 1) := by
        have : x = x.take n3 ++ x.drop n3 := (List.take_append_drop n3 x).symm
        conv => lhs; rw [this]
        rw [List.drop_append_of_le_length (by rw [List.length_take]; omega), getD_drop x n3 0 hlt]
      rw [f6_L0.eq_2, ifd_pos (by omega), jn_eq, chk_pos (by omega)]
      by_cases hb : x.getD n3 0 = 125
      · have hb' : (x.getD n3 0).toNat = 125 := by rw [hb]; rfl
        rw [if_neg (by rw [hb']; simp)]
        have hbr : brk (x.drop n2) = some ((x.take (n3 + 1)).drop n2, x.drop (n3 + 1)) := by
          rw [hall, hpc, hb]
          exact brk_app _ _ hno
        have hpl : ((x.take (n3 + 1)).drop n2).length ≤ 1000000 := by
          rw [List.length_drop, List.length_take]; omega
        rw [specL, hbr, some_bind]
        dsimp only
        generalize (x.take (n3 + 1)).drop n2 = p at hpl ⊢
        rw [f22_eq p hpl, some_bind, chk_pos (by omega), chk_pos (by omega), chk_pos (by omega), f23_eq, some_bind]
        unfold okT
        generalize scanM p (-1) 0#16 = κ
        have hd1 : x.drop (n3 + 1) = [] ↔ n3 + 1 = x.length := by
          rw [List.drop_eq_nil_iff]; omega
        by_cases ht : textP κ = p
        · have e1 : (!(textP κ == p)) = false := by simp [ht]
          rw [e1, show ((false == false) : Bool) = true from rfl, optc_t, f24_eq, some_bind]
          by_cases h4 : κ.toNat < 4096
          · rw [if_pos (show textP κ = p ∧ κ.toNat < 4096 from ⟨ht, h4⟩), some_bind, decide_eq_true h4]
            simp only [Bool.not_true, Bool.or_false, Bool.false_or]
            rw [chk_pos (by omega), chk_pos (by omega), chk_pos (by intro; omega), chk_pos (by intro; omega), chk_pos (by
              intro h
              simp at h
              omega), chk_pos (by intro; omega), chk_pos (by intro h1 _ h3; rw [h1, h3]; rfl), chk_pos (by intro h1 _ h3; rw [h1, h3]; rfl)]
            by_cases hend : n3 + 1 = x.length
            · rw [if_neg (by simp; omega), chk_pos (by omega)]
              try dsimp only
              rw [chk_pos (by omega), if_pos (hd1.2 hend)]
              obtain ⟨k, rfl⟩ : ∃ q, k = q + 1 := ⟨k - 1, by omega⟩
              rw [f6_L0.eq_2, ifd_neg (by omega), show n3 + 2 = x.length + 1 from by omega, hK2]
            · rw [if_neg (fun h => hend (hd1.1 h))]
              have hg : x.drop (n3 + 1) = x.getD (n3 + 1) 0 :: x.drop (n3 + 2) := getD_drop x (n3 + 1) 0 (by omega)
              rw [hg]
              have hd2 : x.drop (n3 + 2) = [] ↔ n3 + 2 = x.length := by
                rw [List.drop_eq_nil_iff]; omega
              have h32 : (((x.getD (n3 + 1) 0).toNat : Nat) : Int) = 32 ↔ x.getD (n3 + 1) 0 = 32 := by
                constructor
                · intro h
                  exact UInt8.toNat_inj.1 (show (x.getD (n3 + 1) 0).toNat = (32 : UInt8).toNat from by
                    have : (32 : UInt8).toNat = 32 := rfl
                    omega)
                · intro h; rw [h]; rfl
              by_cases hc : x.getD (n3 + 1) 0 = 32 ∧ n3 + 2 ≠ x.length
              · have hc1 : (((x.getD (n3 + 1) 0).toNat : Nat) : Int) = 32 := h32.2 hc.1
                rw [if_neg (by
                  rw [hc1]
                  simp
                  intro _
                  omega), chk_pos (by omega)]
                try dsimp only
                rw [chk_pos (by omega), if_pos ⟨by rw [hc.1]; rfl, fun h => hc.2 (hd2.1 h)⟩]
                obtain ⟨k, rfl⟩ : ∃ q, k = q + 1 := ⟨k - 1, by omega⟩
                rw [f6_L0.eq_2, ifd_pos (by omega), jn_eq, chk_pos (by omega), if_pos (by rw [hc1]; rfl)]
                dsimp only
                rw [chk_pos (by omega)]
                show _ = match specL F (x.drop (n3 + 2)) (l ++ [κ]) with | none => some (2, []) | some r => R r
                refine ihm (m - 2) (by omega) k F (n3 + 2) (n3 + 1 + 1) (l ++ [κ]) (by omega) (by omega) ?_ (by omega) (by omega) (by simp; omega)
                intro b hb2
                rw [show n3 + 1 + 1 = n3 + 2 from rfl, List.drop_eq_nil_of_le (by rw [List.length_take]; omega)] at hb2
                cases hb2
              · rw [if_pos (by
                  simp only [Bool.and_eq_true, Bool.or_eq_true, decide_eq_true_eq, bne_iff_ne, beq_iff_eq, ne_eq]
                  refine ⟨by omega, ?_⟩
                  by_cases h3 : x.getD (n3 + 1) 0 = 32
                  · refine .inr ?_
                    have : n3 + 2 = x.length := Classical.byContradiction fun h => hc ⟨h3, h⟩
                    omega
                  · exact .inl fun h => h3 (h32.1 h)), if_neg (by
                  rintro ⟨h1, h2⟩
                  exact hc ⟨by simpa using h1, fun h => h2 (hd2.2 h)⟩)]
          · rw [if_neg (show ¬ (textP κ = p ∧ κ.toNat < 4096) from fun h => h4 h.2), decide_eq_false h4]
            simp only [Bool.not_false, Bool.or_true, Bool.true_or]
            rw [chk_pos (by omega), chk_pos (by omega), chk_pos (by intro; omega), chk_pos (by intro; omega), chk_pos (by
              intro h
              simp at h), chk_pos (by intro; omega), chk_pos (by intro h1 _ h3; rw [h1, h3]; rfl), chk_pos (by intro h1 _ h3; rw [h1, h3]; rfl), if_pos trivial]
            rfl
        · have e1 : (!(textP κ == p)) = true := by simpa using ht
          rw [e1, show ((true == false) : Bool) = false from rfl, optc_f, if_neg (show ¬ (textP κ = p ∧ κ.toNat < 4096) from fun h => ht h.1)]
          simp only [Bool.true_or]
          rw [chk_pos (by omega), chk_pos (by omega), chk_pos (by intro; omega), chk_pos (by intro; omega), chk_pos (by
            intro h
            simp at h), chk_pos (by intro; omega), chk_pos (by intro h1 _ h3; rw [h1, h3]; rfl), chk_pos (by intro h1 _ h3; rw [h1, h3]; rfl), if_pos trivial]
          rfl
      · have hbi : (((x.getD n3 0).toNat : Nat) : Int) ≠ 125 := by
          intro h
          exact hb (UInt8.toNat_inj.1 (show (x.getD n3 0).toNat = (125 : UInt8).toNat from by
            have : (125 : UInt8).toNat = 125 := rfl
            omega))
        rw [if_pos (by simpa using hbi)]
        dsimp only
        rw [chk_pos (by omega)]
        refine ihm (m - 1) (by omega) k (F + 1) n2 (n3 + 1) l (by omega) (by omega) ?_ (by omega) (by omega) (by omega)
        intro b hb2
        rw [hpc] at hb2
        rcases List.mem_append.1 hb2 with hb2 | hb2
        · exact hno b hb2
        · rw [List.mem_singleton] at hb2
          rw [hb2]; exact hb
theorem f6_eq (s : List UInt8) (hs : s.length ≤ 100000) (v : List (BitVec 16) → Int) (hv : ∀ l, f10 l = some (v l)) (hv0 : v [] = 0) :
    f6 s = some (if s = [] then finT (v []) [] else match specL 1000000 s [] with | none => (2, []) | some l => finT (v l) l) := by
  unfold f6
  by_cases h : s = []
  · rw [if_pos (by simpa using h), if_pos h, hv0]
    rfl
  · rw [if_neg (by simpa using h), if_neg h, jn_eq]
    rw [f6_L0_eq s (by omega) _ (fun l => some (finT (v l) l)) (fun n l hn => by
      dsimp only
      rw [chk_pos (by omega), if_pos (by simp; omega)]) (fun l => by
      dsimp only
      rw [chk_pos (by omega), if_neg (by simp), hv, some_bind]
      unfold finT
      by_cases h0 : v l = 0
      · rw [if_neg (by simp [h0]), if_neg (by simp [h0])]
      · rw [if_pos (by simpa using h0), if_pos h0]) s.length FUEL 1000000 0 0 [] (by omega) (Nat.le_refl _) (fun b hb => by simp at hb) (fuel_lt (by omega)) (by omega) (by simp), List.drop_zero]
    cases specL 1000000 s [] <;> rfl
/-! ### Format -/
theorem f9_L0_eq (f : List (BitVec 16)) (hf : f.length ≤ 1000) (K : List UInt8 → Option (List UInt8)) : ∀ (c k n : Nat), n + c = f.length → c < k → f9_L0 f K k (famT (f.take n), n) = K (famT f)
  | 0, k, n, hn, hk => by
    obtain ⟨k, rfl⟩ : ∃ q, k = q + 1 := ⟨k - 1, by omega⟩
    rw [f9_L0.eq_2, ifd_neg (by omega), List.take_of_length_le (by omega)]
  | c + 1, k, n, hn, hk => by
    obtain ⟨k, rfl⟩ : ∃ q, k = q + 1 := ⟨k - 1, by omega⟩
    have ih := f9_L0_eq f hf K c k (n + 1) (by omega) (by omega)
    have hl := famT_len (f.take n)
    rw [List.length_take] at hl
    have ht := textP_len (f.getD n 0#16)
    have hj : famT (f.take (n + 1)) = if n = 0 then textP (f.getD n 0#16) else famT (f.take n) ++ [32] ++ textP (f.getD n 0#16) := by
      unfold famT
      rw [take_snoc8 f n 0#16 (by omega), List.map_append, List.map_singleton, join_snoc]
      by_cases h0 : n = 0
      · rw [if_pos h0, h0, List.take_zero, List.map_nil, if_pos rfl]
      · rw [if_neg h0, if_neg]
        intro e
        rw [List.map_eq_nil_iff, List.take_eq_nil_iff] at e
        rcases e with e | e
        · exact h0 e
        · rw [e] at hn; simp at hn
    rw [f9_L0.eq_2, ifd_pos (by omega), jn_eq]
    by_cases h0 : n = 0
    · rw [ifd_neg (by omega)]
      dsimp only
      rw [f23_eq, some_bind, chk_pos (by omega), chk_pos (by omega), chk_pos (by omega), ← ih, hj, if_pos h0, h0, List.take_zero]
      rfl
    · rw [ifd_pos (by omega), chk_pos (by simp; omega)]
      dsimp only
      rw [f23_eq, some_bind, chk_pos (by omega), chk_pos (by rw [List.length_append]; simp only [List.length_cons, List.length_nil]; omega), chk_pos (by omega), ← ih, hj, if_neg h0]
theorem f9_eq (f : List (BitVec 16)) (hf : f.length ≤ 1000) : f9 f = some (famT f) := by
  unfold f9
  rw [jn_eq]
  exact f9_L0_eq f hf _ f.length FUEL 0 (by omega) (fuel_lt (by omega))
theorem f8_refl (l : List (BitVec 16)) (hl : l.length ≤ 1000000) : f8 l l = some true := by
  unfold f8
  rw [if_neg (by simp), jn_eq]
  have : ∀ (m k n : Nat), n + m = l.length → m < k → f8_L0 l l (fun _ => some true) k n = some true := by
    intro m
    induction m with
    | zero =>
      intro k n hn hk
      obtain ⟨k, rfl⟩ : ∃ z, k = z + 1 := ⟨k - 1, by omega⟩
      rw [f8_L0.eq_2, ifd_neg (by omega)]
    | succ m ih =>
      intro k n hn hk
      obtain ⟨k, rfl⟩ : ∃ z, k = z + 1 := ⟨k - 1, by omega⟩
      rw [f8_L0.eq_2, ifd_pos (by omega), chk_pos (by omega), chk_pos (by omega), if_neg (by simp), chk_pos (by omega)]
      exact ih k (n + 1) (by omega) (by omega)
  exact this l.length FUEL 0 (by omega) (fuel_lt (by omega))
theorem scan0_big (x : List (BitVec 16)) : ∀ (c n : Nat), n + c = x.length → (∃ i, n ≤ i ∧ i < x.length ∧ 4096 ≤ (x.getD i 0#16).toNat) → ∃ e, scan0 x c n = some e ∧ e ≠ 0
  | 0, n, hn, ⟨i, h1, h2, _⟩ => by omega
  | c + 1, n, hn, ⟨i, h1, h2, h3⟩ => by
    unfold scan0
    by_cases h4 : (x.getD n 0#16).toNat < 4096
    · rw [if_pos h4]
      split
      · exact ⟨1, rfl, by decide⟩
      · refine scan0_big x c (n + 1) (by omega) ⟨i, ?_, h2, h3⟩
        rcases Nat.lt_or_ge n i with h5 | h5
        · exact h5
        · obtain rfl : i = n := by omega
          omega
    · rw [if_neg h4]
      exact ⟨7, rfl, by decide⟩
theorem valid_big {x : List (BitVec 16)} {e : Int} (hl : x.length ≤ 400) (h : f10 x = some e) (hb : ¬ ∀ y, y ∈ x → y.toNat < 4096) : e ≠ 0 := by
  have : ∃ i, 0 ≤ i ∧ i < x.length ∧ 4096 ≤ (x.getD i 0#16).toNat := by
    refine Classical.byContradiction fun hn => hb fun y hy => ?_
    obtain ⟨i, hi, rfl⟩ := List.getElem_of_mem hy
    refine Classical.byContradiction fun hge => hn ⟨i, Nat.zero_le _, hi, ?_⟩
    rw [List.getD_eq_getElem?_getD, List.getElem?_eq_getElem hi]
    show 4096 ≤ x[i].toNat
    omega
  obtain ⟨e', h1, h2⟩ := scan0_big x x.length 0 (by omega) this
  rw [f10_val x hl, h1] at h
  unfold orK at h
  cases h
  exact h2
theorem specL_len : ∀ (F : Nat) (s : List UInt8) (l r : List (BitVec 16)), specL F s l = some r → r.length ≤ l.length + s.length
  | 0, _, _, _, h => by cases h
  | F + 1, s, l, r, h => by
    rw [specL] at h
    obtain ⟨q, hq, h⟩ := Option.bind_eq_some_iff.1 h
    obtain ⟨x, hx, h⟩ := Option.bind_eq_some_iff.1 h
    obtain ⟨n, _, h2, _, h4⟩ := brk_some s q.1 q.2 hq
    split at h
    · cases h; simp; omega
    · split at h
      · have := specL_len F _ _ r h
        rw [h4, List.length_tail, List.length_drop, List.length_append] at this
        simp at this
        omega
      · cases h
theorem f3_true (f : List (BitVec 16)) (s : List UInt8) {p : Prop} (_ : p) : f3 f s = some true := by
  have hval : ∀ l : List (BitVec 16), ∃ e, f21 l = some e ∧ f10 l = some e := f21_f13
  obtain ⟨v, hv⟩ : ∃ v : List (BitVec 16) → Int, ∀ l, f21 l = some (v l) ∧ f10 l = some (v l) := ⟨fun l => (hval l).choose, fun l => (hval l).choose_spec⟩
  have hv0 : v [] = 0 := by
    have h1 := (hv []).2
    have h2 : f10 [] = some 0 := by
      rw [f10_val [] (by simp)]; rfl
    rw [h2] at h1
    exact (Option.some.inj h1).symm
  unfold f3
  rw [f4_true, some_bind]
  by_cases hg : f.length ≤ 40 ∧ s.length ≤ 400
  · rw [if_neg (by simp; omega)]
    have hfl := famT_len f
    rw [f5_eq s (by omega) v fun l => (hv l).1, some_bind, f6_eq s (by omega) v (fun l => (hv l).2) hv0, some_bind, f7_eq f (by omega), some_bind, f5_eq (famT f) (by omega) v fun l => (hv l).1, some_bind]
    have hlen : (if s = [] then finT (v []) [] else match specL 1000000 s [] with | none => (2, []) | some l => finT (v l) l).2.length ≤ 1000000 := by
      have hfin : ∀ l : List (BitVec 16), (finT (v l) l).2.length ≤ l.length := fun l => by unfold finT; split <;> simp
      split
      · exact Nat.le_trans (hfin []) (by simp)
      · cases hsp : specL 1000000 s [] with
        | none => simp
        | some l =>
          have h1 := specL_len _ _ _ _ hsp
          have h2 := hfin l
          simp at h1
          show (finT (v l) l).2.length ≤ _
          omega
    generalize (if s = [] then finT (v []) [] else match specL 1000000 s [] with | none => (2, []) | some l => finT (v l) l) = A at hlen ⊢
    have e1 : ((A.1 != A.1) == false) = true := by simp
    have e2 : (((A.1 != A.1) || (!true)) == false) = true := by simp
    rw [e1, optc_t, f8_refl A.2 hlen, some_bind, e2, optc_t, f9_eq f (by omega), some_bind, if_neg (by simp), (hv f).2, some_bind]
    have hB : (if famT f = [] then finT (v []) [] else match specL 1000000 (famT f) [] with | none => (2, []) | some l => finT (v l) l) = if ∀ y, y ∈ f → y.toNat < 4096 then finT (v f) f else (2, []) := by
      cases f with
      | nil => rw [if_pos (by rfl), if_pos (by simp)]
      | cons x r =>
        have hne : famT (x :: r) ≠ [] := by
          unfold famT
          rw [List.map_cons, join_cons]
          obtain ⟨t, h1, _, _⟩ := text_no x
          rw [h1]; simp
        rw [if_neg hne, specL_fam (by simp at hg; omega)]
        by_cases ha : ∀ y, y ∈ x :: r → y.toNat < 4096
        · rw [if_pos ha, if_pos ha]
        · rw [if_neg ha, if_neg ha]
    rw [hB]
    by_cases ha : ∀ y, y ∈ f → y.toNat < 4096
    · rw [if_pos ha]
      by_cases he : v f = 0
      · have : finT (v f) f = (0, f) := by unfold finT; rw [if_neg (by simp [he])]
        rw [this, he, if_neg (by simp), show (((0 : Int) == 0) == true) = true from rfl, optc_t, f8_refl f (by omega), some_bind]
        rfl
      · have : finT (v f) f = (v f, []) := by unfold finT; rw [if_pos he]
        rw [this, if_pos (by simpa using he)]
        simp [he]
    · rw [if_neg ha]
      have := valid_big (by omega) (hv f).2 ha
      rw [if_pos (by simpa using this)]
      rfl
  · rw [if_pos (by simp; omega)]
    rfl
end Go.Abs
