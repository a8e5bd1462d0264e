/- Part 22 of the proof: Xtp. -/
import Derived.Test.YtjgboohpholnbaaDoorTpcotZ21
namespace Go.Abs
open Go Go.Proofs
set_option maxHeartbeats 4000000
def f87_L0 (K1 : (List (BitVec 16)) → Option (List (BitVec 16))) (r2 : List (BitVec 16)) : Nat → (Nat × List (BitVec 16)) → Option (List (BitVec 16))
  | 0, _ => none
  | k + 1, (n3, l4) =>
    if (decide ((n3 : Int) < (((r2).length : Nat) : Int))) then (
    jn (fun (l6 : List (BitVec 16)) =>
    chk (((n3 : Int) + (1 : Int)) ≤ 9223372036854775807) <|
    (f87_L0 K1 r2 k) ((n3 + 1), l6)
    ) fun (K2 : (List (BitVec 16)) → Option (List (BitVec 16))) =>
    chk ((n3 : Int) < (((r2).length : Nat) : Int)) <|
    chk (n3 < (r2).length) <|
    (f31 l4 (r2.getD n3 0#16)).bind fun (r5 : Bool) =>
    if (!r5) then (
    chk (((l4).length + 1) * 2 ≤ 140737488355328) <|
    K2 (l4 ++ [(r2.getD n3 0#16)])
    ) else (
    K2 l4
    )
    ) else (
    K1 l4
    )
abbrev f87z0 (r2 : List (BitVec 16)) (n3 : Nat) : List (Nat × V) := [(3, .own 5003), (7, .own 6001), (8, .int .i64 (((r2).length : Nat) : Int)), (9, .int .i64 (n3 : Int))]
abbrev f87z1 (r2 : List (BitVec 16)) (n3 : Nat) : List (Nat × V) := [(3, .own 20), (7, .own 6001), (8, .int .i64 (((r2).length : Nat) : Int)), (9, .int .i64 (n3 : Int))]
abbrev f87z2 (l4 : List (BitVec 16)) (r2 : List (BitVec 16)) : Heap := [(5003, bL 49 1 eW 0#16 l4), (6001, bL 49 1 eW 0#16 r2)]
def f87 (x1 : List (BitVec 16)) : Option (List (BitVec 16)) :=
  jn (fun (l7 : List (BitVec 16)) =>
  some l7
  ) fun (K1 : (List (BitVec 16)) → Option (List (BitVec 16))) =>
  (f100 x1).bind fun (r2 : List (BitVec 16)) =>
  f87_L0 K1 r2 FUEL (0, [])
set_option maxRecDepth 100000 in
theorem f87_ok  (x1 : List (BitVec 16)) (r : List (BitVec 16)) (h : f87 x1 = some r)  : Spec1 Tryd.prog 87 [] [] [] [vL 1 eW 0#16 x1] (.own 3000) [(3000, bL 49 1 eW 0#16 r)] := by
  unfold f87 at h
  refine Spec1.body 0 _ _ Tryd.func87 rfl Tryd.ntmps87 rfl rfl ?_
  refine q2rq [] [] ⟨23, [(0, q2aW x1)], [], [], 0⟩ trivial ?_
  refine q2rq [] [] ⟨23, [(0, q2aW x1), (3, .nils)], [], [], 0⟩ trivial ?_
  obtain ⟨K1, hK1, h⟩ := jn_some h
  refine AWp.join (α := List (BitVec 16)) (fun (l7 : List (BitVec 16)) => ⟨23, [(3, .own 5003)], [(5003, q2bW_49 l7)], [], 0⟩) (fun x => K1 x = some r) ?_ ?_
  ·
    refine AWp.seq ?_
    obtain ⟨r2, hr2, h⟩ := bind_ok h
    refine q2rr [] [(1, ⟨[q2aW x1], [], [], [(6001, q2bW_49 r2)], .own 6001, [6001], [], []⟩)] ⟨23, [(3, .nils), (7, .own 6001), (8, .i (lZ r2)), (9, .i (0 : Int))], [(6001, q2bW_49 r2)], [], 0⟩ (an1 (cpT (Spec1.ren (swapN 3000 6001) (swapN_inv 3000 6001) rfl (f100_ok _ _ hr2)))) ?_
    refine thenQ_normal ?_
    refine AWp.block ?_
    refine AWp.loopL (α := Nat × (Nat × List (BitVec 16))) (fun x => match x with | (_, n3, l4) => ⟨23, (f87z0 r2 n3), (f87z2 l4 r2), [], 0⟩) (fun x => f87_L0 K1 r2 x.1 x.2 = some r) (fun x => x.1) (FUEL, 0, []) (Le.trans (Le.trans (Le.nilOwn 3 5003 49 1 (encF eW 0#16 []) rfl rfl (Nat.le_of_ble_eq_true rfl)) (Le.mk (s' := ⟨23, [(3, .own 5003), (7, .own 6001), (8, .i (lZ r2)), (9, .i (0 : Int))], [(6001, q2bW_49 r2), (5003, q2bW_49 [])], [], 0⟩) rfl rfl ⟨.refl _, .refl _, .refl _, .refl _, trivial⟩ ⟨⟨_, rfl, .refl _⟩, ⟨_, rfl, .refl _⟩, trivial⟩)) (Le.mk (s' := ⟨23, [(3, .own 5003), (7, .own 6001), (8, .i (lZ r2)), (9, .i (0 : Int))], [(5003, q2bW_49 []), (6001, q2bW_49 r2)], [], 0⟩) rfl rfl ⟨.refl _, .refl _, .refl _, .refl _, trivial⟩ ⟨⟨_, rfl, .refl _⟩, ⟨_, rfl, .refl _⟩, trivial⟩)) h ?_
    rintro ⟨k0, n3, l4⟩ h
    cases k0 with
    | zero => exact nomatch (show (none : Option (List (BitVec 16))) = some r from h)
    | succ k0 =>
    obtain ⟨C0, hC0⟩ : ∃ C, C = f87_L0 K1 r2 k0 := ⟨_, rfl⟩
    replace h := (f87_L0.eq_2 ..).symm.trans h
    try rw [← hC0] at h
    refine q2rq [] [] ⟨23, [(3, .own 5003), (7, .own 6001), (8, .i (lZ r2)), (9, .i (n3 : Int)), (10, .bool (decide ((n3 : Int) < (lZ r2))))], (f87z2 l4 r2), [], 0⟩ trivial ?_
    refine AWp.seq ?_
    refine AWp.cond (b := (decide ((n3 : Int) < (lZ r2)))) (by kernel_rfl) (fun hc1 => ?_) (fun hc1 => ?_)
    ·
      replace h := ite_tb hc1 h
      refine AWp.skip ?_
      refine thenQ_normal ?_
      obtain ⟨K2, hK2, h⟩ := jn_some h
      refine AWp.join (α := List (BitVec 16)) (fun (l6 : List (BitVec 16)) => ⟨23, (f87z1 r2 n3), [(20, q2bW_49 l6), (6001, q2bW_49 r2)], [], 0⟩) (fun x => K2 x = some r) ?_ ?_
      ·
        refine AWp.block ?_
        refine AWp.seq ?_
        obtain ⟨ob0p, h⟩ := chk_some h
        have ob0 : 0 ≤ (n3 : Int) ∧ (n3 : Int) < (((r2).length : Nat) : Int) := ⟨by omega, ob0p⟩
        obtain ⟨ob1, h⟩ := chk_some h
        refine q2rr [] [] ⟨23, [(3, .own 5003), (5, .b16 (r2.getD n3 0#16)), (7, .own 6001), (8, .i (lZ r2)), (9, .i (n3 : Int))], (f87z2 l4 r2), [], 0⟩ (an2 ob0 ob1) ?_
        refine thenQ_normal ?_
        refine AWp.seq ?_
        obtain ⟨r5, hr5, h⟩ := bind_ok h
        refine q2rr [] [(2, ⟨[q2aW l4, .b16 (r2.getD n3 0#16)], [], [], [], .bool r5, [], [5003], []⟩)] ⟨23, [(3, .own 5003), (5, .b16 (r2.getD n3 0#16)), (7, .own 6001), (8, .i (lZ r2)), (9, .i (n3 : Int)), (16, .bool (!r5))], (f87z2 l4 r2), [], 0⟩ (an1 (cpL (c := true) [(5003, q2bW_49 l4)] [5003] [.own 5003, .b16 (r2.getD n3 0#16)] (fun _ => (f31_ok _ _ _ hr5)) (fun _ => ⟨.refl _, .refl _, trivial⟩) (.inr ⟨rfl, trivial⟩))) ?_
        refine thenQ_normal ?_
        refine AWp.cond (b := (!r5)) (by kernel_rfl) (fun hc2 => ?_) (fun hc2 => ?_)
        ·
          replace h := ite_tb hc2 h
          obtain ⟨ob2, h⟩ := chk_some h
          refine q2rr [] [] ⟨23, (f87z0 r2 n3), [(5003, .rows 49 1 ((l4).length + 1) (appF (l4).length (encF eW 0#16 l4) (lstF 1 [.b16 (r2.getD n3 0#16)]))), (6001, q2bW_49 r2)], [], 0⟩ (an1 ob2) ?_
          refine blockQ_normal ?_
          exact joinQ_normal ((l4 ++ [(r2.getD n3 0#16)])) (Le.trans (Le.mk (s' := ⟨23, (f87z0 r2 n3), [(5003, q2bW_49 (l4 ++ [(r2.getD n3 0#16)])), (6001, q2bW_49 r2)], [], 0⟩) rfl rfl ⟨.refl _, .refl _, .refl _, .refl _, trivial⟩ ⟨⟨_, rfl, (BLe.of (RL.app (RL.self _) (RL.lst (enc := eW) [(r2.getD n3 0#16)] rfl rfl (fun _ => rfl))))⟩, ⟨_, rfl, .refl _⟩, trivial⟩) (Le.trans (Le.trans (Le.ren (swapN 5003 20) (swapN_inv 5003 20) rfl) (Le.mk (s' := ⟨23, (f87z1 r2 n3), [(20, q2bW_49 (l4 ++ [(r2.getD n3 0#16)])), (6001, q2bW_49 r2)], [], 0⟩) rfl rfl ⟨.refl _, .refl _, .refl _, .refl _, trivial⟩ ⟨⟨_, rfl, .refl _⟩, ⟨_, rfl, .refl _⟩, trivial⟩)) (Le.mk rfl rfl ⟨.refl _, .refl _, .refl _, .refl _, trivial⟩ ⟨⟨_, rfl, .refl _⟩, ⟨_, rfl, .refl _⟩, trivial⟩))) h
        ·
          replace h := ite_fb hc2 h
          refine AWp.skip ?_
          refine blockQ_normal ?_
          exact joinQ_normal (l4) (Le.trans (Le.trans (Le.ren (swapN 5003 20) (swapN_inv 5003 20) rfl) (Le.mk (s' := ⟨23, [(3, .own 20), (5, .b16 (r2.getD n3 0#16)), (7, .own 6001), (8, .i (lZ r2)), (9, .i (n3 : Int)), (16, .bool (!r5))], [(20, q2bW_49 l4), (6001, q2bW_49 r2)], [], 0⟩) rfl rfl ⟨.refl _, .refl _, .refl _, .refl _, .refl _, .refl _, trivial⟩ ⟨⟨_, rfl, .refl _⟩, ⟨_, rfl, .refl _⟩, trivial⟩)) (Le.mk rfl rfl ⟨.refl _, .refl _, .refl _, .refl _, trivial⟩ ⟨⟨_, rfl, .refl _⟩, ⟨_, rfl, .refl _⟩, trivial⟩)) h
      ·
        rintro l6 h
        replace h := (congrFun hK2 _).symm.trans h
        obtain ⟨ob3p, h⟩ := chk_some h
        have ob3 : -9223372036854775808 ≤ ((n3 : Int) + (1 : Int)) ∧ ((n3 : Int) + (1 : Int)) ≤ 9223372036854775807 := ⟨by omega, ob3p⟩
        refine q2rr [] [] ⟨23, [(3, .own 20), (7, .own 6001), (8, .i (lZ r2)), (9, .i (((n3 + 1) : Nat) : Int))], [(20, q2bW_49 l6), (6001, q2bW_49 r2)], [], 0⟩ (an1 ob3) ?_
        rw [hC0] at h
        exact loopQ_normal (_, (n3 + 1), l6) (Le.trans (Le.trans (Le.ren (swapN 20 5003) (swapN_inv 20 5003) rfl) (Le.mk (s' := ⟨23, [(3, .own 5003), (7, .own 6001), (8, .i (lZ r2)), (9, .i (((n3 + 1) : Nat) : Int))], [(5003, q2bW_49 l6), (6001, q2bW_49 r2)], [], 0⟩) rfl rfl ⟨.refl _, .refl _, .refl _, .refl _, trivial⟩ ⟨⟨_, rfl, .refl _⟩, ⟨_, rfl, .refl _⟩, trivial⟩)) (Le.mk rfl rfl ⟨.refl _, .refl _, .refl _, .refl _, trivial⟩ ⟨⟨_, rfl, .refl _⟩, ⟨_, rfl, .refl _⟩, trivial⟩)) h (Nat.lt_succ_self _)
    ·
      replace h := ite_fb hc1 h
      refine AWp.exit ?_
      refine thenQ_exit ?_
      refine thenQ_exit ?_
      refine blockQ_same ?_
      exact joinQ_normal (l4) (Le.mk rfl rfl ⟨.refl _, trivial⟩ ⟨⟨_, rfl, .refl _⟩, trivial⟩) h
  ·
    rintro l7 h
    replace h := (congrFun hK1 _).symm.trans h
    refine q2rq [] [] ⟨23, [(2, .own 5003)], [(5003, q2bW_49 l7)], [], 0⟩ trivial ?_
    refine AWp.le (Le.trans (Le.ren (swapN 5003 3000) (swapN_inv 5003 3000) rfl) (Le.mk (s' := ⟨23, [(2, .own 3000)], [(3000, q2bW_49 l7)], [], 0⟩) rfl rfl ⟨.refl _, trivial⟩ ⟨⟨_, rfl, .refl _⟩, trivial⟩)) ?_
    have hret := Option.some.inj h
    subst hret
    refine AWp.le (Le.mk (s' := ⟨23, [(2, .own 3000)], [(3000, q2bW_49 l7)], [], 0⟩) rfl rfl ⟨.refl _, trivial⟩ ⟨⟨_, rfl, .refl _⟩, trivial⟩) ?_
    refine AWp.ret ?_
    exact bodyQ_ret _ rfl ⟨rfl, rfl⟩ rfl
def f99 (x1 : List (BitVec 16)) : Option (Int × List (BitVec 16)) :=
  if (decide ((((x1).length : Nat) : Int) > (400 : Int))) then (
  some ((3 : Int), [])
  ) else (
  some ((0 : Int), x1)
  )
set_option maxRecDepth 100000 in
theorem f99_ok  (x1 : List (BitVec 16)) (r : Int × List (BitVec 16)) (h : f99 x1 = some r)  : Spec1 Tryd.prog 99 [] [] [(2000, bL 49 1 eW 0#16 x1)] [.own 2000] (.tup [.own 3000, .int .i64 r.1]) [(3000, bL 49 1 eW 0#16 r.2)] := by
  unfold f99 at h
  refine Spec1.body 0 _ _ Tryd.func99 rfl Tryd.ntmps99 rfl rfl ?_
  refine q2rq [] [] ⟨8, [(0, .own 2000)], [(2000, q2bW_49 x1)], [], 0⟩ trivial ?_
  refine AWp.seq ?_
  refine q2rq [] [] ⟨8, [(0, .own 2000), (6, .bool (decide ((lZ x1) > (400 : Int))))], [(2000, q2bW_49 x1)], [], 0⟩ trivial ?_
  refine AWp.cond (b := (decide ((lZ x1) > (400 : Int)))) (by kernel_rfl) (fun hc1 => ?_) (fun hc1 => ?_)
  ·
    replace h := ite_tb hc1 h
    refine q2rq [] [] ⟨8, [(2, .nils), (3, .i (3 : Int))], [], [], 0⟩ trivial ?_
    refine AWp.le (Le.trans (Le.nilOwn 2 3000 49 1 (encF eW 0#16 []) rfl rfl (Nat.le_of_ble_eq_true rfl)) (Le.mk (s' := ⟨8, [(2, .own 3000), (3, .i (3 : Int))], [(3000, q2bW_49 [])], [], 0⟩) rfl rfl ⟨.refl _, .refl _, trivial⟩ ⟨⟨_, rfl, .refl _⟩, trivial⟩)) ?_
    have hret := Option.some.inj h
    subst hret
    refine AWp.le (Le.mk (s' := ⟨8, [(2, .own 3000), (3, .i (3 : Int))], [(3000, q2bW_49 [])], [], 0⟩) rfl rfl ⟨.refl _, .refl _, trivial⟩ ⟨⟨_, rfl, .refl _⟩, trivial⟩) ?_
    refine AWp.ret ?_
    refine thenQ_ret ?_
    exact bodyQ_ret _ rfl ⟨rfl, rfl⟩ rfl
  ·
    replace h := ite_fb hc1 h
    refine AWp.skip ?_
    refine thenQ_normal ?_
    refine q2rq [] [] ⟨8, [(2, .own 2000), (3, .i (0 : Int))], [(2000, q2bW_49 x1)], [], 0⟩ trivial ?_
    refine AWp.le (Le.trans (Le.ren (swapN 2000 3000) (swapN_inv 2000 3000) rfl) (Le.mk (s' := ⟨8, [(2, .own 3000), (3, .i (0 : Int))], [(3000, q2bW_49 x1)], [], 0⟩) rfl rfl ⟨.refl _, .refl _, trivial⟩ ⟨⟨_, rfl, .refl _⟩, trivial⟩)) ?_
    have hret := Option.some.inj h
    subst hret
    refine AWp.le (Le.mk (s' := ⟨8, [(2, .own 3000), (3, .i (0 : Int))], [(3000, q2bW_49 x1)], [], 0⟩) rfl rfl ⟨.refl _, .refl _, trivial⟩ ⟨⟨_, rfl, .refl _⟩, trivial⟩) ?_
    refine AWp.ret ?_
    exact bodyQ_ret _ rfl ⟨rfl, rfl⟩ rfl
def f86 (x1 : List (BitVec 16)) : Option (Int × List (BitVec 16)) :=
  (f65c x1).bind fun (r2 : Bool) =>
  if r2 then (
  some ((7 : Int), [])
  ) else (
  (f87 x1).bind fun (r3 : List (BitVec 16)) =>
  (f99 r3).bind fun (r4 : Int × List (BitVec 16)) =>
  some (r4.1, r4.2)
  )
set_option maxRecDepth 100000 in
theorem f86_ok  (x1 : List (BitVec 16)) (r : Int × List (BitVec 16)) (h : f86 x1 = some r)  : Spec1 Tryd.prog 86 [] [] [] [vL 1 eW 0#16 x1, .fn (.func 87) []] (.tup [.own 3000, .int .i64 r.1]) [(3000, bL 49 1 eW 0#16 r.2)] := by
  unfold f86 at h
  refine Spec1.body 0 _ _ Tryd.func86 rfl Tryd.ntmps86 rfl rfl ?_
  refine q2rq [] [] ⟨14, [(0, q2aW x1), (1, .fn (.func 87) [])], [], [], 0⟩ trivial ?_
  refine AWp.seq ?_
  refine AWp.seq ?_
  obtain ⟨r2, hr2, h⟩ := bind_ok h
  refine q2rr [] [(1, ⟨[q2aW x1, .fn (.func 98) []], [], [], [], .bool r2, [], [], []⟩)] ⟨14, [(0, q2aW x1), (1, .fn (.func 87) []), (7, .bool r2)], [], [], 0⟩ (an1 (cpT (f65c_ok _ _ hr2))) ?_
  refine thenQ_normal ?_
  refine AWp.cond (b := r2) (by kernel_rfl) (fun hc1 => ?_) (fun hc1 => ?_)
  ·
    replace h := ite_tb hc1 h
    refine q2rq [] [] ⟨14, [(4, .nils), (5, .i (7 : Int))], [], [], 0⟩ trivial ?_
    refine AWp.le (Le.trans (Le.nilOwn 4 3000 49 1 (encF eW 0#16 []) rfl rfl (Nat.le_of_ble_eq_true rfl)) (Le.mk (s' := ⟨14, [(4, .own 3000), (5, .i (7 : Int))], [(3000, q2bW_49 [])], [], 0⟩) rfl rfl ⟨.refl _, .refl _, trivial⟩ ⟨⟨_, rfl, .refl _⟩, trivial⟩)) ?_
    have hret := Option.some.inj h
    subst hret
    refine AWp.le (Le.mk (s' := ⟨14, [(4, .own 3000), (5, .i (7 : Int))], [(3000, q2bW_49 [])], [], 0⟩) rfl rfl ⟨.refl _, .refl _, trivial⟩ ⟨⟨_, rfl, .refl _⟩, trivial⟩) ?_
    refine AWp.ret ?_
    refine thenQ_ret ?_
    exact bodyQ_ret _ rfl ⟨rfl, rfl⟩ rfl
  ·
    replace h := ite_fb hc1 h
    refine AWp.skip ?_
    refine thenQ_normal ?_
    refine AWp.seq ?_
    obtain ⟨r3, hr3, h⟩ := bind_ok h
    obtain ⟨r4, hr4, h⟩ := bind_ok h
    refine q2rr [] [(2, ⟨[q2aW x1], [], [], [(6001, q2bW_49 r3)], .own 6001, [6001], [], []⟩), (3, ⟨[.own 6001], [6001], [], [(6002, q2bW_49 r4.2)], .tup [.own 6002, .i r4.1], [6002], [], []⟩)] ⟨14, [(4, .own 6002), (5, .i r4.1)], [(6002, q2bW_49 r4.2)], [], 0⟩ (an2 (cpT (Spec1.ren (swapN 3000 6001) (swapN_inv 3000 6001) rfl (f87_ok _ _ hr3))) (cpT (Spec1.ren (swapN 3000 6002) (swapN_inv 3000 6002) rfl (Spec1.ren (swapN 2000 6001) (swapN_inv 2000 6001) rfl (f99_ok _ _ hr4))))) ?_
    refine thenQ_normal ?_
    refine AWp.le (Le.trans (Le.ren (swapN 6002 3000) (swapN_inv 6002 3000) rfl) (Le.mk (s' := ⟨14, [(4, .own 3000), (5, .i r4.1)], [(3000, q2bW_49 r4.2)], [], 0⟩) rfl rfl ⟨.refl _, .refl _, trivial⟩ ⟨⟨_, rfl, .refl _⟩, trivial⟩)) ?_
    have hret := Option.some.inj h
    subst hret
    refine AWp.le (Le.mk (s' := ⟨14, [(4, .own 3000), (5, .i r4.1)], [(3000, q2bW_49 r4.2)], [], 0⟩) rfl rfl ⟨.refl _, .refl _, trivial⟩ ⟨⟨_, rfl, .refl _⟩, trivial⟩) ?_
    refine AWp.ret ?_
    exact bodyQ_ret _ rfl ⟨rfl, rfl⟩ rfl
def f53 (x1 : List (BitVec 16)) : Option (Int × List (BitVec 16)) :=
  (f86 x1).bind fun (r2 : Int × List (BitVec 16)) =>
  some (r2.1, r2.2)
set_option maxRecDepth 100000 in
theorem f53_ok  (x1 : List (BitVec 16)) (r : Int × List (BitVec 16)) (h : f53 x1 = some r)  : Spec1 Tryd.prog 53 [] [] [] [vL 1 eW 0#16 x1] (.tup [.own 3000, .int .i64 r.1]) [(3000, bL 49 1 eW 0#16 r.2)] := by
  unfold f53 at h
  refine Spec1.body 0 _ _ Tryd.func53 rfl Tryd.ntmps53 rfl rfl ?_
  refine q2rq [] [] ⟨8, [(0, q2aW x1)], [], [], 0⟩ trivial ?_
  refine AWp.seq ?_
  obtain ⟨r2, hr2, h⟩ := bind_ok h
  refine q2rr [] [(1, ⟨[q2aW x1, .fn (.func 87) []], [], [], [(6001, q2bW_49 r2.2)], .tup [.own 6001, .i r2.1], [6001], [], []⟩)] ⟨8, [(2, .own 6001), (3, .i r2.1)], [(6001, q2bW_49 r2.2)], [], 0⟩ (an1 (cpT (Spec1.ren (swapN 3000 6001) (swapN_inv 3000 6001) rfl (f86_ok _ _ hr2)))) ?_
  refine thenQ_normal ?_
  refine AWp.le (Le.trans (Le.ren (swapN 6001 3000) (swapN_inv 6001 3000) rfl) (Le.mk (s' := ⟨8, [(2, .own 3000), (3, .i r2.1)], [(3000, q2bW_49 r2.2)], [], 0⟩) rfl rfl ⟨.refl _, .refl _, trivial⟩ ⟨⟨_, rfl, .refl _⟩, trivial⟩)) ?_
  have hret := Option.some.inj h
  subst hret
  refine AWp.le (Le.mk (s' := ⟨8, [(2, .own 3000), (3, .i r2.1)], [(3000, q2bW_49 r2.2)], [], 0⟩) rfl rfl ⟨.refl _, .refl _, trivial⟩ ⟨⟨_, rfl, .refl _⟩, trivial⟩) ?_
  refine AWp.ret ?_
  exact bodyQ_ret _ rfl ⟨rfl, rfl⟩ rfl
abbrev f16z0 (r5 : Int × List (BitVec 16)) := ((r5.1 == (0 : Int)) == true)
def f16 (x1 : List (BitVec 16)) : Option Bool :=
  (f42 x1).bind fun (r2 : Int) =>
  optc (((r2 != (0 : Int)) || ((((x1).length : Nat) : Int) == (0 : Int))) == false) (f51 x1 (BitVec.ofInt 16 0)) fun (r3 : Bool) =>
  optc ((((r2 != (0 : Int)) || ((((x1).length : Nat) : Int) == (0 : Int))) || r3) == false) (f52 x1 x1) fun (r4 : Bool) =>
  if ((((r2 != (0 : Int)) || ((((x1).length : Nat) : Int) == (0 : Int))) || r3) || (!r4)) then (
  some false
  ) else (
  (f53 x1).bind fun (r5 : Int × List (BitVec 16)) =>
  some ((r5.1 == (0 : Int)) && ((((r5.2).length : Nat) : Int) == (((x1).length : Nat) : Int)))
  )
set_option maxRecDepth 100000 in
theorem f16_ok  (x1 : List (BitVec 16)) (r : Bool) (h : f16 x1 = some r)  : Spec1 Tryd.prog 16 [] [] [] [vL 1 eW 0#16 x1] (.bool r) [] := by
  unfold f16 at h
  refine Spec1.body 0 _ _ Tryd.func16 rfl Tryd.ntmps16 rfl rfl ?_
  refine q2rq [] [] ⟨37, [(0, q2aW x1)], [], [], 0⟩ trivial ?_
  refine AWp.seq ?_
  refine AWp.seq ?_
  obtain ⟨r2, hr2, h⟩ := bind_ok h
  obtain ⟨r3, hr3, h⟩ := optc_some h
  obtain ⟨r4, hr4, h⟩ := optc_some h
  have ob0 := idA (((r2 != (0 : Int)) == false) = true)
  have ob1 := idA (((r2 != (0 : Int)) == false) = true)
  have ob2 := bqA (r2 != (0 : Int)) false
  have ob3 := idA ((((r2 != (0 : Int)) || ((lZ x1) == (0 : Int))) == false) = true)
  have ob4 := bqA ((r2 != (0 : Int)) || ((lZ x1) == (0 : Int))) false
  have ob5 := idA (((((r2 != (0 : Int)) || ((lZ x1) == (0 : Int))) || r3) == false) = true)
  have ob6 := idA (((((r2 != (0 : Int)) || ((lZ x1) == (0 : Int))) || r3) == false) = true)
  have ob7 := idA (((((r2 != (0 : Int)) || ((lZ x1) == (0 : Int))) || r3) == false) = true)
  have ob8 := bqA (((r2 != (0 : Int)) || ((lZ x1) == (0 : Int))) || r3) false
  refine q2rr [] [(1, ⟨[q2aW x1], [], [], [], .i r2, [], [], []⟩), (10, ⟨[q2aW x1, .b16 (q2w16 0)], [], [], [], .bool r3, [], [], []⟩), (15, ⟨[q2aW x1, q2aW x1], [], [], [], .bool r4, [], [], []⟩)] ⟨37, [(0, q2aW x1), (22, .bool ((((r2 != (0 : Int)) || ((lZ x1) == (0 : Int))) || r3) || (!r4)))], [], [], 0⟩ (ac6 (cpT (f42_ok _ _ hr2)) (an1 ob0) (an1 ob1) ob2 (And.intro (cpC fun hc => (f51_ok _ _ _ (hr3 hc))) (an1 ob3)) ob4 (an3 (And.intro (cpC fun hc => (f52_ok _ _ _ (hr4 hc))) (an2 ob5 ob6)) (an1 ob7) ob8)) ?_
  refine thenQ_normal ?_
  refine AWp.cond (b := ((((r2 != (0 : Int)) || ((lZ x1) == (0 : Int))) || r3) || (!r4))) (by kernel_rfl) (fun hc1 => ?_) (fun hc1 => ?_)
  ·
    replace h := ite_tb hc1 h
    refine q2rq [] [] ⟨37, [(2, .bool false)], [], [], 0⟩ trivial ?_
    have hret := Option.some.inj h
    subst hret
    refine AWp.le (Le.mk (s' := ⟨37, [(2, .bool false)], [], [], 0⟩) rfl rfl ⟨.refl _, trivial⟩ trivial) ?_
    refine AWp.ret ?_
    refine thenQ_ret ?_
    exact bodyQ_ret _ rfl ⟨rfl, rfl⟩ rfl
  ·
    replace h := ite_fb hc1 h
    refine AWp.skip ?_
    refine thenQ_normal ?_
    refine AWp.seq ?_
    obtain ⟨r5, hr5, h⟩ := bind_ok h
    refine q2rr [] [(1, ⟨[q2aW x1], [], [], [(6001, q2bW_49 r5.2)], .tup [.own 6001, .i r5.1], [6001], [], []⟩)] ⟨37, [(0, q2aW x1), (3, .own 6001), (4, .i r5.1)], [(6001, q2bW_49 r5.2)], [], 0⟩ (an1 (cpT (Spec1.ren (swapN 3000 6001) (swapN_inv 3000 6001) rfl (f53_ok _ _ hr5)))) ?_
    refine thenQ_normal ?_
    refine AWp.seq ?_
    have ob9 := idA ((f16z0 r5) = true)
    have ob10 := idA ((f16z0 r5) = true)
    have ob11 := idA ((f16z0 r5) = true)
    have ob12 := idA ((f16z0 r5) = true)
    have ob13 : true = true → (r5.1 == (0 : Int)) = true → (f16z0 r5) = true := fun _ h => beq_iff_eq.2 h
    refine q2rr [] [] ⟨37, [(2, .bool ((r5.1 == (0 : Int)) && ((lZ r5.2) == (lZ x1))))], [], [], 0⟩ (an4 (an1 ob9) (an1 ob10) (an2 ob11 ob12) ob13) ?_
    refine thenQ_normal ?_
    have hret := Option.some.inj h
    subst hret
    refine AWp.le (Le.mk (s' := ⟨37, [(2, .bool ((r5.1 == (0 : Int)) && ((lZ r5.2) == (lZ x1))))], [], [], 0⟩) rfl rfl ⟨.refl _, trivial⟩ trivial) ?_
    refine AWp.ret ?_
    exact bodyQ_ret _ rfl ⟨rfl, rfl⟩ rfl
abbrev f88z0 (x2 : Int) := ((decide (x2 ≥ (0 : Int))) && (decide (x2 < (16 : Int))))
def f88 (x1 : BitVec 16) (x2 : Int) : Option Bool :=
  chk ((((decide (x2 ≥ (0 : Int))) && (decide (x2 < (16 : Int)))) == true) = true → 0 ≤ x2) <|
  some (((decide (x2 ≥ (0 : Int))) && (decide (x2 < (16 : Int)))) && (((x1 >>> ((x2).toNat)) &&& (BitVec.ofInt 16 1)) == (BitVec.ofInt 16 1)))
set_option maxRecDepth 100000 in
theorem f88_ok  (x1 : BitVec 16) (x2 : Int) (r : Bool) (h : f88 x1 x2 = some r)  : Spec1 Tryd.prog 88 [] [] [] [.b16 x1, .int .i64 x2] (.bool r) [] := by
  unfold f88 at h
  refine Spec1.body 0 _ _ Tryd.func88 rfl Tryd.ntmps88 rfl rfl ?_
  refine q2rq [] [] ⟨18, [(0, .b16 x1), (1, .i x2)], [], [], 0⟩ trivial ?_
  refine AWp.seq ?_
  have ob0 := idA (((decide (x2 ≥ (0 : Int))) == true) = true)
  have ob1 := bqA (decide (x2 ≥ (0 : Int))) true
  obtain ⟨ob2, h⟩ := chk_some h
  have ob3 := idA (((f88z0 x2) == true) = true)
  have ob4 := idA (((f88z0 x2) == true) = true)
  have ob5 := idA (((f88z0 x2) == true) = true)
  have ob6 := idA (((f88z0 x2) == true) = true)
  have ob7 := bqA (f88z0 x2) true
  refine q2rr [] [] ⟨18, [(4, .bool ((f88z0 x2) && (((x1 >>> ((x2).toNat)) &&& (q2w16 1)) == (q2w16 1))))], [], [], 0⟩ (an6 (an1 ob0) ob1 (And.intro ob2 (an2 ob3 ob4)) (an1 ob5) (an1 ob6) ob7) ?_
  refine thenQ_normal ?_
  have hret := Option.some.inj h
  subst hret
  refine AWp.le (Le.mk (s' := ⟨18, [(4, .bool ((f88z0 x2) && (((x1 >>> ((x2).toNat)) &&& (q2w16 1)) == (q2w16 1))))], [], [], 0⟩) rfl rfl ⟨.refl _, trivial⟩ trivial) ?_
  refine AWp.ret ?_
  exact bodyQ_ret _ rfl ⟨rfl, rfl⟩ rfl
def f54_L0 (x1 : BitVec 16) (K1 : (List Int) → Option (List Int)) : Nat → (Nat × List Int) → Option (List Int)
  | 0, _ => none
  | k + 1, (n2, l3) =>
    if (decide ((n2 : Int) < (16 : Int))) then (
    jn (fun (l5 : List Int) =>
    chk (((n2 : Int) + (1 : Int)) ≤ 9223372036854775807) <|
    (f54_L0 x1 K1 k) ((n2 + 1), l5)
    ) fun (K2 : (List Int) → Option (List Int)) =>
    (f88 x1 (n2 : Int)).bind fun (r4 : Bool) =>
    if r4 then (
    chk (((l3).length + 1) * 8 ≤ 140737488355328) <|
    K2 (l3 ++ [(n2 : Int)])
    ) else (
    K2 l3
    )
    ) else (
    K1 l3
    )
abbrev f54z0 (x1 : BitVec 16) (n2 : Nat) : List (Nat × V) := [(0, .b16 x1), (3, .own 5003), (4, .int .i64 (n2 : Int))]
abbrev f54z1 (x1 : BitVec 16) (n2 : Nat) : List (Nat × V) := [(0, .b16 x1), (3, .own 15), (4, .int .i64 (n2 : Int))]
def f54 (x1 : BitVec 16) : Option (List Int) :=
  jn (fun (l6 : List Int) =>
  some l6
  ) fun (K1 : (List Int) → Option (List Int)) =>
  f54_L0 x1 K1 FUEL (0, [])
set_option maxRecDepth 100000 in
theorem f54_ok  (x1 : BitVec 16) (r : List Int) (h : f54 x1 = some r)  : Spec1 Tryd.prog 54 [] [] [] [.b16 x1] (.own 3000) [(3000, bL 3 1 eI 0 r)] := by
  unfold f54 at h
  refine Spec1.body 0 _ _ Tryd.func54 rfl Tryd.ntmps54 rfl rfl ?_
  refine q2rq [] [] ⟨17, [(0, .b16 x1)], [], [], 0⟩ trivial ?_
  refine q2rq [] [] ⟨17, [(0, .b16 x1), (3, .nils)], [], [], 0⟩ trivial ?_
  obtain ⟨K1, hK1, h⟩ := jn_some h
  refine AWp.join (α := List Int) (fun (l6 : List Int) => ⟨17, [(3, .own 5003)], [(5003, q2bI_3 l6)], [], 0⟩) (fun x => K1 x = some r) ?_ ?_
  ·
    refine q2rq [] [] ⟨17, [(0, .b16 x1), (3, .nils), (4, .i (0 : Int))], [], [], 0⟩ trivial ?_
    refine AWp.block ?_
    refine AWp.loopL (α := Nat × (Nat × List Int)) (fun x => match x with | (_, n2, l3) => ⟨17, (f54z0 x1 n2), [(5003, q2bI_3 l3)], [], 0⟩) (fun x => f54_L0 x1 K1 x.1 x.2 = some r) (fun x => x.1) (FUEL, 0, []) (Le.trans (Le.trans (Le.nilOwn 3 5003 3 1 (encF eI 0 []) rfl rfl (Nat.le_of_ble_eq_true rfl)) (Le.mk (s' := ⟨17, [(0, .b16 x1), (3, .own 5003), (4, .i (0 : Int))], [(5003, q2bI_3 [])], [], 0⟩) rfl rfl ⟨.refl _, .refl _, .refl _, trivial⟩ ⟨⟨_, rfl, .refl _⟩, trivial⟩)) (Le.mk (s' := ⟨17, [(0, .b16 x1), (3, .own 5003), (4, .i (0 : Int))], [(5003, q2bI_3 [])], [], 0⟩) rfl rfl ⟨.refl _, .refl _, .refl _, trivial⟩ ⟨⟨_, rfl, .refl _⟩, trivial⟩)) h ?_
    rintro ⟨k0, n2, l3⟩ h
    cases k0 with
    | zero => exact nomatch (show (none : Option (List Int)) = some r from h)
    | succ k0 =>
    obtain ⟨C0, hC0⟩ : ∃ C, C = f54_L0 x1 K1 k0 := ⟨_, rfl⟩
    replace h := (f54_L0.eq_2 ..).symm.trans h
    try rw [← hC0] at h
    refine AWp.seq ?_
    refine q2rq [] [] ⟨17, [(0, .b16 x1), (3, .own 5003), (4, .i (n2 : Int)), (6, .bool (decide ((n2 : Int) < (16 : Int))))], [(5003, q2bI_3 l3)], [], 0⟩ trivial ?_
    refine AWp.cond (b := (decide ((n2 : Int) < (16 : Int)))) (by kernel_rfl) (fun hc1 => ?_) (fun hc1 => ?_)
    ·
      replace h := ite_tb hc1 h
      refine AWp.skip ?_
      refine thenQ_normal ?_
      obtain ⟨K2, hK2, h⟩ := jn_some h
      refine AWp.join (α := List Int) (fun (l5 : List Int) => ⟨17, (f54z1 x1 n2), [(15, q2bI_3 l5)], [], 0⟩) (fun x => K2 x = some r) ?_ ?_
      ·
        refine AWp.block ?_
        refine AWp.seq ?_
        obtain ⟨r4, hr4, h⟩ := bind_ok h
        refine q2rr [] [(2, ⟨[.b16 x1, .i (n2 : Int)], [], [], [], .bool r4, [], [], []⟩)] ⟨17, [(0, .b16 x1), (3, .own 5003), (4, .i (n2 : Int)), (11, .bool r4)], [(5003, q2bI_3 l3)], [], 0⟩ (an1 (cpT (f88_ok _ _ _ hr4))) ?_
        refine thenQ_normal ?_
        refine AWp.cond (b := r4) (by kernel_rfl) (fun hc2 => ?_) (fun hc2 => ?_)
        ·
          replace h := ite_tb hc2 h
          obtain ⟨ob0, h⟩ := chk_some h
          refine q2rr [] [] ⟨17, (f54z0 x1 n2), [(5003, .rows 3 1 ((l3).length + 1) (appF (l3).length (encF eI 0 l3) (lstF 1 [.i (n2 : Int)])))], [], 0⟩ (an1 ob0) ?_
          refine blockQ_normal ?_
          exact joinQ_normal ((l3 ++ [(n2 : Int)])) (Le.trans (Le.mk (s' := ⟨17, (f54z0 x1 n2), [(5003, q2bI_3 (l3 ++ [(n2 : Int)]))], [], 0⟩) rfl rfl ⟨.refl _, .refl _, .refl _, trivial⟩ ⟨⟨_, rfl, (BLe.of (RL.app (RL.self _) (RL.lst (enc := eI) [(n2 : Int)] rfl rfl (fun _ => rfl))))⟩, trivial⟩) (Le.trans (Le.trans (Le.ren (swapN 5003 15) (swapN_inv 5003 15) rfl) (Le.mk (s' := ⟨17, (f54z1 x1 n2), [(15, q2bI_3 (l3 ++ [(n2 : Int)]))], [], 0⟩) rfl rfl ⟨.refl _, .refl _, .refl _, trivial⟩ ⟨⟨_, rfl, .refl _⟩, trivial⟩)) (Le.mk rfl rfl ⟨.refl _, .refl _, .refl _, trivial⟩ ⟨⟨_, rfl, .refl _⟩, trivial⟩))) h
        ·
          replace h := ite_fb hc2 h
          refine AWp.skip ?_
          refine blockQ_normal ?_
          exact joinQ_normal (l3) (Le.trans (Le.trans (Le.ren (swapN 5003 15) (swapN_inv 5003 15) rfl) (Le.mk (s' := ⟨17, [(0, .b16 x1), (3, .own 15), (4, .i (n2 : Int)), (11, .bool r4)], [(15, q2bI_3 l3)], [], 0⟩) rfl rfl ⟨.refl _, .refl _, .refl _, .refl _, trivial⟩ ⟨⟨_, rfl, .refl _⟩, trivial⟩)) (Le.mk rfl rfl ⟨.refl _, .refl _, .refl _, trivial⟩ ⟨⟨_, rfl, .refl _⟩, trivial⟩)) h
      ·
        rintro l5 h
        replace h := (congrFun hK2 _).symm.trans h
        obtain ⟨ob1p, h⟩ := chk_some h
        have ob1 : -9223372036854775808 ≤ ((n2 : Int) + (1 : Int)) ∧ ((n2 : Int) + (1 : Int)) ≤ 9223372036854775807 := ⟨by omega, ob1p⟩
        refine q2rr [] [] ⟨17, [(0, .b16 x1), (3, .own 15), (4, .i (((n2 + 1) : Nat) : Int))], [(15, q2bI_3 l5)], [], 0⟩ (an1 ob1) ?_
        rw [hC0] at h
        exact loopQ_normal (_, (n2 + 1), l5) (Le.trans (Le.trans (Le.ren (swapN 15 5003) (swapN_inv 15 5003) rfl) (Le.mk (s' := ⟨17, [(0, .b16 x1), (3, .own 5003), (4, .i (((n2 + 1) : Nat) : Int))], [(5003, q2bI_3 l5)], [], 0⟩) rfl rfl ⟨.refl _, .refl _, .refl _, trivial⟩ ⟨⟨_, rfl, .refl _⟩, trivial⟩)) (Le.mk rfl rfl ⟨.refl _, .refl _, .refl _, trivial⟩ ⟨⟨_, rfl, .refl _⟩, trivial⟩)) h (Nat.lt_succ_self _)
    ·
      replace h := ite_fb hc1 h
      refine AWp.exit ?_
      refine thenQ_exit ?_
      refine thenQ_exit ?_
      refine blockQ_same ?_
      exact joinQ_normal (l3) (Le.mk rfl rfl ⟨.refl _, trivial⟩ ⟨⟨_, rfl, .refl _⟩, trivial⟩) h
  ·
    rintro l6 h
    replace h := (congrFun hK1 _).symm.trans h
    refine q2rq [] [] ⟨17, [(2, .own 5003)], [(5003, q2bI_3 l6)], [], 0⟩ trivial ?_
    refine AWp.le (Le.trans (Le.ren (swapN 5003 3000) (swapN_inv 5003 3000) rfl) (Le.mk (s' := ⟨17, [(2, .own 3000)], [(3000, q2bI_3 l6)], [], 0⟩) rfl rfl ⟨.refl _, trivial⟩ ⟨⟨_, rfl, .refl _⟩, trivial⟩)) ?_
    have hret := Option.some.inj h
    subst hret
    refine AWp.le (Le.mk (s' := ⟨17, [(2, .own 3000)], [(3000, q2bI_3 l6)], [], 0⟩) rfl rfl ⟨.refl _, trivial⟩ ⟨⟨_, rfl, .refl _⟩, trivial⟩) ?_
    refine AWp.ret ?_
    exact bodyQ_ret _ rfl ⟨rfl, rfl⟩ rfl
def f17 (x1 : BitVec 16) : Option Int :=
  (f54 x1).bind fun (r2 : List Int) =>
  some (((r2).length : Nat) : Int)
set_option maxRecDepth 100000 in
theorem f17_ok  (x1 : BitVec 16) (r : Int) (h : f17 x1 = some r)  : Spec1 Tryd.prog 17 [] [] [] [.b16 x1] (.int .i64 r) [] := by
  unfold f17 at h
  refine Spec1.body 0 _ _ Tryd.func17 rfl Tryd.ntmps17 rfl rfl ?_
  refine q2rq [] [] ⟨6, [(0, .b16 x1)], [], [], 0⟩ trivial ?_
  refine AWp.seq ?_
  obtain ⟨r2, hr2, h⟩ := bind_ok h
  refine q2rr [] [(1, ⟨[.b16 x1], [], [], [(6001, q2bI_3 r2)], .own 6001, [6001], [], []⟩)] ⟨6, [(2, .i (lZ r2))], [], [], 0⟩ (an1 (cpT (Spec1.ren (swapN 3000 6001) (swapN_inv 3000 6001) rfl (f54_ok _ _ hr2)))) ?_
  refine thenQ_normal ?_
  have hret := Option.some.inj h
  subst hret
  refine AWp.le (Le.mk (s' := ⟨6, [(2, .i (lZ r2))], [], [], 0⟩) rfl rfl ⟨.refl _, trivial⟩ trivial) ?_
  refine AWp.ret ?_
  exact bodyQ_ret _ rfl ⟨rfl, rfl⟩ rfl
def f55 (x1 : List (BitVec 16)) : Option Int :=
  (f42 x1).bind fun (r2 : Int) =>
  if (r2 != (0 : Int)) then (
  some r2
  ) else (
  (f16 x1).bind fun (r3 : Bool) =>
  if (!r3) then (
  some (1 : Int)
  ) else (
  some (0 : Int)
  )
  )
set_option maxRecDepth 100000 in
theorem f55_ok  (x1 : List (BitVec 16)) (r : Int) (h : f55 x1 = some r)  : Spec1 Tryd.prog 55 [] [] [] [vL 1 eW 0#16 x1] (.int .i64 r) [] := by
  unfold f55 at h
  refine Spec1.body 0 _ _ Tryd.func55 rfl Tryd.ntmps55 rfl rfl ?_
  refine q2rq [] [] ⟨12, [(0, q2aW x1)], [], [], 0⟩ trivial ?_
  refine AWp.seq ?_
  refine AWp.seq ?_
  obtain ⟨r2, hr2, h⟩ := bind_ok h
  refine q2rr [] [(1, ⟨[q2aW x1], [], [], [], .i r2, [], [], []⟩)] ⟨12, [(0, q2aW x1), (3, .i r2)], [], [], 0⟩ (an1 (cpT (f42_ok _ _ hr2))) ?_
  refine thenQ_normal ?_
  refine q2rq [] [] ⟨12, [(0, q2aW x1), (3, .i r2), (7, .bool (r2 != (0 : Int)))], [], [], 0⟩ trivial ?_
  refine AWp.cond (b := (r2 != (0 : Int))) (by kernel_rfl) (fun hc1 => ?_) (fun hc1 => ?_)
  ·
    replace h := ite_tb hc1 h
    refine q2rq [] [] ⟨12, [(2, .i r2)], [], [], 0⟩ trivial ?_
    have hret := Option.some.inj h
    subst hret
    refine AWp.le (Le.mk (s' := ⟨12, [(2, .i r2)], [], [], 0⟩) rfl rfl ⟨.refl _, trivial⟩ trivial) ?_
    refine AWp.ret ?_
    refine thenQ_ret ?_
    exact bodyQ_ret _ rfl ⟨rfl, rfl⟩ rfl
  ·
    replace h := ite_fb hc1 h
    refine AWp.skip ?_
    refine thenQ_normal ?_
    refine AWp.seq ?_
    refine AWp.seq ?_
    obtain ⟨r3, hr3, h⟩ := bind_ok h
    refine q2rr [] [(1, ⟨[q2aW x1], [], [], [], .bool r3, [], [], []⟩)] ⟨12, [(11, .bool (!r3))], [], [], 0⟩ (an1 (cpT (f16_ok _ _ hr3))) ?_
    refine thenQ_normal ?_
    refine AWp.cond (b := (!r3)) (by kernel_rfl) (fun hc2 => ?_) (fun hc2 => ?_)
    ·
      replace h := ite_tb hc2 h
      refine q2rq [] [] ⟨12, [(2, .i (1 : Int))], [], [], 0⟩ trivial ?_
      have hret := Option.some.inj h
      subst hret
      refine AWp.le (Le.mk (s' := ⟨12, [(2, .i (1 : Int))], [], [], 0⟩) rfl rfl ⟨.refl _, trivial⟩ trivial) ?_
      refine AWp.ret ?_
      refine thenQ_ret ?_
      exact bodyQ_ret _ rfl ⟨rfl, rfl⟩ rfl
    ·
      replace h := ite_fb hc2 h
      refine AWp.skip ?_
      refine thenQ_normal ?_
      refine q2rq [] [] ⟨12, [(2, .i (0 : Int))], [], [], 0⟩ trivial ?_
      have hret := Option.some.inj h
      subst hret
      refine AWp.le (Le.mk (s' := ⟨12, [(2, .i (0 : Int))], [], [], 0⟩) rfl rfl ⟨.refl _, trivial⟩ trivial) ?_
      refine AWp.ret ?_
      exact bodyQ_ret _ rfl ⟨rfl, rfl⟩ rfl
def f43_L0 (x1 : List (BitVec 16)) (K1 : (BitVec 16) → Option (BitVec 16)) : Nat → (BitVec 16 × Nat) → Option (BitVec 16)
  | 0, _ => none
  | k + 1, (w2, n3) =>
    if (decide ((n3 : Int) < (((x1).length : Nat) : Int))) then (
    chk ((n3 : Int) < (((x1).length : Nat) : Int)) <|
    chk (((n3 : Int) + (1 : Int)) ≤ 9223372036854775807) <|
    (f43_L0 x1 K1 k) ((w2 ||| (x1.getD n3 0#16)), (n3 + 1))
    ) else (
    K1 w2
    )
def f43 (x1 : List (BitVec 16)) : Option (BitVec 16) :=
  jn (fun (w4 : BitVec 16) =>
  some w4
  ) fun (K1 : (BitVec 16) → Option (BitVec 16)) =>
  f43_L0 x1 K1 FUEL ((BitVec.ofInt 16 0), 0)
set_option maxRecDepth 100000 in
theorem f43_ok  (x1 : List (BitVec 16)) (r : BitVec 16) (h : f43 x1 = some r)  : Spec1 Tryd.prog 43 [] [] [] [vL 1 eW 0#16 x1] (.b16 r) [] := by
  unfold f43 at h
  refine Spec1.body 0 _ _ Tryd.func43 rfl Tryd.ntmps43 rfl rfl ?_
  refine q2rq [] [] ⟨17, [(0, q2aW x1)], [], [], 0⟩ trivial ?_
  refine q2rq [] [] ⟨17, [(0, q2aW x1), (3, .b16 (q2w16 0))], [], [], 0⟩ trivial ?_
  obtain ⟨K1, hK1, h⟩ := jn_some h
  refine AWp.join (α := BitVec 16) (fun (w4 : BitVec 16) => ⟨17, [(3, .b16 w4)], [], [], 0⟩) (fun x => K1 x = some r) ?_ ?_
  ·
    refine q2rq [] [] ⟨17, [(3, .b16 (q2w16 0)), (6, q2aW x1), (7, .i (lZ x1)), (8, .i (0 : Int))], [], [], 0⟩ trivial ?_
    refine AWp.block ?_
    refine AWp.loopL (α := Nat × (BitVec 16 × Nat)) (fun x => match x with | (_, w2, n3) => ⟨17, [(3, .b16 w2), (6, q2aW x1), (7, .i (lZ x1)), (8, .i (n3 : Int))], [], [], 0⟩) (fun x => f43_L0 x1 K1 x.1 x.2 = some r) (fun x => x.1) (FUEL, (q2w16 0), 0) (Le.mk (s' := ⟨17, [(3, .b16 (q2w16 0)), (6, q2aW x1), (7, .i (lZ x1)), (8, .i (0 : Int))], [], [], 0⟩) rfl rfl ⟨.refl _, .refl _, .refl _, .refl _, trivial⟩ trivial) h ?_
    rintro ⟨k0, w2, n3⟩ h
    cases k0 with
    | zero => exact nomatch (show (none : Option (BitVec 16)) = some r from h)
    | succ k0 =>
    obtain ⟨C0, hC0⟩ : ∃ C, C = f43_L0 x1 K1 k0 := ⟨_, rfl⟩
    replace h := (f43_L0.eq_2 ..).symm.trans h
    try rw [← hC0] at h
    refine q2rq [] [] ⟨17, [(3, .b16 w2), (6, q2aW x1), (7, .i (lZ x1)), (8, .i (n3 : Int)), (9, .bool (decide ((n3 : Int) < (lZ x1))))], [], [], 0⟩ trivial ?_
    refine AWp.seq ?_
    refine AWp.cond (b := (decide ((n3 : Int) < (lZ x1)))) (by kernel_rfl) (fun hc1 => ?_) (fun hc1 => ?_)
    ·
      replace h := ite_tb hc1 h
      refine AWp.skip ?_
      refine thenQ_normal ?_
      refine AWp.seq ?_
      refine AWp.block ?_
      refine AWp.seq ?_
      obtain ⟨ob0p, h⟩ := chk_some h
      have ob0 : 0 ≤ (n3 : Int) ∧ (n3 : Int) < (((x1).length : Nat) : Int) := ⟨by omega, ob0p⟩
      refine q2rr [] [] ⟨17, [(3, .b16 w2), (5, .b16 (x1.getD n3 0#16)), (6, q2aW x1), (7, .i (lZ x1)), (8, .i (n3 : Int))], [], [], 0⟩ (an1 ob0) ?_
      refine thenQ_normal ?_
      refine q2rr [] [] ⟨17, [(3, .b16 (w2 ||| (x1.getD n3 0#16))), (6, q2aW x1), (7, .i (lZ x1)), (8, .i (n3 : Int))], [], [], 0⟩ trivial ?_
      refine blockQ_normal ?_
      refine thenQ_normal ?_
      obtain ⟨ob1p, h⟩ := chk_some h
      have ob1 : -9223372036854775808 ≤ ((n3 : Int) + (1 : Int)) ∧ ((n3 : Int) + (1 : Int)) ≤ 9223372036854775807 := ⟨by omega, ob1p⟩
      refine q2rr [] [] ⟨17, [(3, .b16 (w2 ||| (x1.getD n3 0#16))), (6, q2aW x1), (7, .i (lZ x1)), (8, .i (((n3 + 1) : Nat) : Int))], [], [], 0⟩ (an1 ob1) ?_
      rw [hC0] at h
      exact loopQ_normal (_, (w2 ||| (x1.getD n3 0#16)), (n3 + 1)) (Le.mk rfl rfl ⟨.refl _, .refl _, .refl _, .refl _, trivial⟩ trivial) h (Nat.lt_succ_self _)
    ·
      replace h := ite_fb hc1 h
      refine AWp.exit ?_
      refine thenQ_exit ?_
      refine thenQ_exit ?_
      refine blockQ_same ?_
      exact joinQ_normal (w2) (Le.mk rfl rfl ⟨.refl _, trivial⟩ trivial) h
  ·
    rintro w4 h
    replace h := (congrFun hK1 _).symm.trans h
    refine q2rq [] [] ⟨17, [(2, .b16 w4)], [], [], 0⟩ trivial ?_
    have hret := Option.some.inj h
    subst hret
    refine AWp.le (Le.mk (s' := ⟨17, [(2, .b16 w4)], [], [], 0⟩) rfl rfl ⟨.refl _, trivial⟩ trivial) ?_
    refine AWp.ret ?_
    exact bodyQ_ret _ rfl ⟨rfl, rfl⟩ rfl
def f73a_L1 (r7 : List Int) (i9 : Int) (K2 : (BitVec 16) → Option (Bool × Nat × List (BitVec 16) × Int × List (BitVec 16) × BitVec 16)) : Nat → (BitVec 16 × Nat) → Option (Bool × Nat × List (BitVec 16) × Int × List (BitVec 16) × BitVec 16)
  | 0, _ => none
  | k + 1, (w15, n16) =>
    if (decide ((n16 : Int) < (((r7).length : Nat) : Int))) then (
    jn (fun (w17 : BitVec 16) =>
    chk (((n16 : Int) + (1 : Int)) ≤ 9223372036854775807) <|
    (f73a_L1 r7 i9 K2 k) (w17, (n16 + 1))
    ) fun (K3 : (BitVec 16) → Option (Bool × Nat × List (BitVec 16) × Int × List (BitVec 16) × BitVec 16)) =>
    chk ((n16 : Int) < (((r7).length : Nat) : Int)) <|
    chk (n16 < (r7).length) <|
    chk (n16 ≤ IntKind.bits .u32) <|
    if ((bitsI .and .u32 (i9 / 2 ^ n16) (1 : Int)) == (1 : Int)) then (
    chk (0 ≤ (r7.getD n16 0)) <|
    K3 (w15 ||| ((BitVec.ofInt 16 1) <<< (((r7.getD n16 0)).toNat)))
    ) else (
    K3 w15
    )
    ) else (
    K2 w15
    )
def f73a_L0 (Y70002 : (List (BitVec 16) × Int × List (BitVec 16) × BitVec 16) → (BitVec 16) → Option (Nat × (List (BitVec 16) × Int × List (BitVec 16) × BitVec 16))) (r7 : List Int) (K1 : (BitVec 16 × Int × List (BitVec 16) × List (BitVec 16) × Nat) → Option (Bool × Nat × List (BitVec 16) × Int × List (BitVec 16) × BitVec 16)) : Nat → (Int × BitVec 16 × Int × List (BitVec 16) × List (BitVec 16) × Nat) → Option (Bool × Nat × List (BitVec 16) × Int × List (BitVec 16) × BitVec 16)
  | 0, _ => none
  | k + 1, (i9, w10, i11, l12, l13, n14) =>
    chk ((r7).length ≤ IntKind.bits .u32 ∧ 0 ≤ ((1 : Int) * 2 ^ ((r7).length)) ∧ ((1 : Int) * 2 ^ ((r7).length)) ≤ 4294967295) <|
    if (decide (i9 < ((1 : Int) * 2 ^ ((r7).length)))) then (
    jn (fun (w18 : BitVec 16) =>
    jn (fun ((w20, i21, l22, l23, n24) : BitVec 16 × Int × List (BitVec 16) × List (BitVec 16) × Nat) =>
    if (i9 == (0 : Int)) then (
    K1 (w20, i21, l22, l23, n24)
    ) else (
    chk (0 ≤ (i9 + (bitsI .and .u32 i9 (IntKind.wrap .u32 (0 - i9)))) ∧ (i9 + (bitsI .and .u32 i9 (IntKind.wrap .u32 (0 - i9)))) ≤ 4294967295) <|
    chk (0 ≤ (bitsI .xor .u32 i9 (i9 + (bitsI .and .u32 i9 (IntKind.wrap .u32 (0 - i9))))) ∧ 1 ≤ (bitsI .and .u32 i9 (IntKind.wrap .u32 (0 - i9))) ∧ 0 ≤ ((bitsI .xor .u32 i9 (i9 + (bitsI .and .u32 i9 (IntKind.wrap .u32 (0 - i9))))) / (bitsI .and .u32 i9 (IntKind.wrap .u32 (0 - i9)))) ∧ ((bitsI .xor .u32 i9 (i9 + (bitsI .and .u32 i9 (IntKind.wrap .u32 (0 - i9))))) / (bitsI .and .u32 i9 (IntKind.wrap .u32 (0 - i9)))) ≤ 4294967295) <|
    chk (2 ≤ IntKind.bits .u32) <|
    (f73a_L0 Y70002 r7 K1 k) ((bitsI .or .u32 (i9 + (bitsI .and .u32 i9 (IntKind.wrap .u32 (0 - i9)))) (((bitsI .xor .u32 i9 (i9 + (bitsI .and .u32 i9 (IntKind.wrap .u32 (0 - i9))))) / (bitsI .and .u32 i9 (IntKind.wrap .u32 (0 - i9)))) / 2 ^ 2)), w20, i21, l22, l23, n24)
    )
    ) fun (K4 : (BitVec 16 × Int × List (BitVec 16) × List (BitVec 16) × Nat) → Option (Bool × Nat × List (BitVec 16) × Int × List (BitVec 16) × BitVec 16)) =>
    chk (n14 = 0) <|
    (Y70002 (l12, i11, l13, w10) w18).bind fun (r19 : Nat × (List (BitVec 16) × Int × List (BitVec 16) × BitVec 16)) =>
    if r19.1 = 0 then (
    if (!true) then (
    some (false, 0, r19.2.1, r19.2.2.1, r19.2.2.2.1, r19.2.2.2.2)
    ) else (
    K4 (r19.2.2.2.2, r19.2.2.1, r19.2.1, r19.2.2.2.1, 0)
    )
    ) else (
    if (!false) then (
    some (false, r19.1, r19.2.1, r19.2.2.1, r19.2.2.2.1, r19.2.2.2.2)
    ) else (
    K4 (r19.2.2.2.2, r19.2.2.1, r19.2.1, r19.2.2.2.1, r19.1)
    )
    )
    ) fun (K2 : (BitVec 16) → Option (Bool × Nat × List (BitVec 16) × Int × List (BitVec 16) × BitVec 16)) =>
    f73a_L1 r7 i9 K2 FUEL ((BitVec.ofInt 16 0), 0)
    ) else (
    K1 (w10, i11, l12, l13, n14)
    )
abbrev f73az0 (l12 : List (BitVec 16)) (i11 : Int) (l13 : List (BitVec 16)) (w10 : BitVec 16) (r7 : List Int) (C70002 : YC) (n14 : Nat) : Heap := [(1, .cells 30 [vL 1 eW 0#16 l12]), (2, .cells 30 [.nils]), (3, .cells 31 [.int .i64 i11]), (5, .cells 30 [.own 6000]), (6000, bL 49 1 eW 0#16 l13), (6001, .cells 49 [.b16 w10]), (26001, bL 3 1 eI 0 r7), (70002, .yld (some ([1, 2, 3, 5], C70002)) n14)]
abbrev f73az1 (l22 : List (BitVec 16)) (i21 : Int) (l23 : List (BitVec 16)) (w20 : BitVec 16) (r7 : List Int) (C70002 : YC) (n24 : Nat) : Heap := [(1, .cells 30 [vL 1 eW 0#16 l22]), (2, .cells 30 [.nils]), (3, .cells 31 [.int .i64 i21]), (5, .cells 30 [.own 6000]), (6000, bL 49 1 eW 0#16 l23), (6001, .cells 49 [.b16 w20]), (26001, bL 3 1 eI 0 r7), (70002, .yld (some ([1, 2, 3, 5], C70002)) n24)]
abbrev f73az2 (x3 : List (BitVec 16)) (x4 : Int) (x5 : List (BitVec 16)) (x6 : BitVec 16) (r7 : List Int) (C70002 : YC) : Heap := [(1, .cells 30 [vL 1 eW 0#16 x3]), (2, .cells 30 [.nils]), (3, .cells 31 [.int .i64 x4]), (5, .cells 30 [.own 6000]), (6000, bL 49 1 eW 0#16 x5), (6001, .cells 49 [.b16 x6]), (26001, bL 3 1 eI 0 r7), (70002, .yld (some ([1, 2, 3, 5], C70002)) 0)]
abbrev f73az3 (r19 : Nat × (List (BitVec 16) × Int × List (BitVec 16) × BitVec 16)) : Heap := [(1, .cells 30 [vL 1 eW 0#16 r19.2.1]), (2, .cells 30 [.nils]), (3, .cells 31 [.int .i64 r19.2.2.1]), (5, .cells 30 [.own 6000]), (6000, bL 49 1 eW 0#16 r19.2.2.2.1), (6001, .cells 49 [.b16 r19.2.2.2.2])]
abbrev f73az4 (C70002 : YC) (r19 : Nat × (List (BitVec 16) × Int × List (BitVec 16) × BitVec 16)) : Heap := [(70002, .yld (some ([1, 2, 3, 5], C70002)) r19.1), (1, .cells 30 [vL 1 eW 0#16 r19.2.1]), (2, .cells 30 [.nils]), (3, .cells 31 [.int .i64 r19.2.2.1]), (5, .cells 30 [.own 6000]), (6000, bL 49 1 eW 0#16 r19.2.2.2.1), (6001, .cells 49 [.b16 r19.2.2.2.2])]
abbrev f73az5 (C70002 : YC) (r19 : Nat × (List (BitVec 16) × Int × List (BitVec 16) × BitVec 16)) : Heap := [(70002, .yld (some ([1, 2, 3, 5], C70002)) 0), (1, .cells 30 [vL 1 eW 0#16 r19.2.1]), (2, .cells 30 [.nils]), (3, .cells 31 [.int .i64 r19.2.2.1]), (5, .cells 30 [.own 6000]), (6000, bL 49 1 eW 0#16 r19.2.2.2.1), (6001, .cells 49 [.b16 r19.2.2.2.2])]
abbrev f73az6 (x2 : Int) := ((decide (x2 < (0 : Int))) == false)
def f73a (Y70002 : (List (BitVec 16) × Int × List (BitVec 16) × BitVec 16) → (BitVec 16) → Option (Nat × (List (BitVec 16) × Int × List (BitVec 16) × BitVec 16))) (x1 : BitVec 16) (x2 : Int) (x3 : List (BitVec 16)) (x4 : Int) (x5 : List (BitVec 16)) (x6 : BitVec 16) : Option (Bool × Nat × List (BitVec 16) × Int × List (BitVec 16) × BitVec 16) :=
  (f93 x1).bind fun (r7 : List Int) =>
  if ((decide (x2 < (0 : Int))) || (decide (x2 > (((r7).length : Nat) : Int)))) then (
  some (true, 0, x3, x4, x5, x6)
  ) else (
  jn (fun ((w18, i19, l20, l21, n22) : BitVec 16 × Int × List (BitVec 16) × List (BitVec 16) × Nat) =>
  some (true, n22, l20, i19, l21, w18)
  ) fun (K1 : (BitVec 16 × Int × List (BitVec 16) × List (BitVec 16) × Nat) → Option (Bool × Nat × List (BitVec 16) × Int × List (BitVec 16) × BitVec 16)) =>
  chk (0 ≤ x2 ∧ (x2).toNat ≤ IntKind.bits .u32 ∧ 0 ≤ ((1 : Int) * 2 ^ ((x2).toNat)) ∧ ((1 : Int) * 2 ^ ((x2).toNat)) ≤ 4294967295) <|
  chk (0 ≤ (((1 : Int) * 2 ^ ((x2).toNat)) - (1 : Int)) ∧ (((1 : Int) * 2 ^ ((x2).toNat)) - (1 : Int)) ≤ 4294967295) <|
  f73a_L0 Y70002 r7 K1 FUEL ((((1 : Int) * 2 ^ ((x2).toNat)) - (1 : Int)), x6, x4, x3, x5, 0)
  )
set_option maxRecDepth 100000 in
theorem f73a_ok (C70002 : YC) (Y70002 : (List (BitVec 16) × Int × List (BitVec 16) × BitVec 16) → (BitVec 16) → Option (Nat × (List (BitVec 16) × Int × List (BitVec 16) × BitVec 16))) (x1 : BitVec 16) (x2 : Int) (x3 : List (BitVec 16)) (x4 : Int) (x5 : List (BitVec 16)) (x6 : BitVec 16) (r : Bool × Nat × List (BitVec 16) × Int × List (BitVec 16) × BitVec 16) (h : f73a Y70002 x1 x2 x3 x4 x5 x6 = some r) (hY70002 : ∀ s x r, Y70002 s x = some r → YSpec Tryd.prog 70002 [1, 2, 3, 5] C70002 [1, 2, 3, 5, 6001] [(1, .cells 30 [vL 1 eW 0#16 s.1]), (2, .cells 30 [.nils]), (3, .cells 31 [.int .i64 s.2.1]), (5, .cells 30 [.own 6000]), (6000, bL 49 1 eW 0#16 s.2.2.1), (6001, .cells 49 [.b16 s.2.2.2])] [.b16 x] r.1 [(1, .cells 30 [vL 1 eW 0#16 r.2.1]), (2, .cells 30 [.nils]), (3, .cells 31 [.int .i64 r.2.2.1]), (5, .cells 30 [.own 6000]), (6000, bL 49 1 eW 0#16 r.2.2.2.1), (6001, .cells 49 [.b16 r.2.2.2.2])]) : Spec1 Tryd.prog 73 [(0, .elem 32 1 T0F 0 0)] [70002, 1, 2, 3, 5, 6001] [(70002, .yld (some ([1, 2, 3, 5], C70002)) 0), (1, .cells 30 [vL 1 eW 0#16 x3]), (2, .cells 30 [.nils]), (3, .cells 31 [.int .i64 x4]), (5, .cells 30 [.own 6000]), (6000, bL 49 1 eW 0#16 x5), (6001, .cells 49 [.b16 x6])] [.b16 x1, .int .i64 x2, .own 70002] (.bool r.1) [(70002, .yld (some ([1, 2, 3, 5], C70002)) r.2.1), (1, .cells 30 [vL 1 eW 0#16 r.2.2.1]), (2, .cells 30 [.nils]), (3, .cells 31 [.int .i64 r.2.2.2.1]), (5, .cells 30 [.own 6000]), (6000, bL 49 1 eW 0#16 r.2.2.2.2.1), (6001, .cells 49 [.b16 r.2.2.2.2.2])] := by
  unfold f73a at h
  refine Spec1.body 20000 _ _ Tryd.func73 rfl Tryd.ntmps73 rfl rfl ?_
  refine q2rq [57] [] ⟨70, [(0, .b16 x1), (1, .i x2), (2, .own 70002), (1000000, .elem 32 1 T0F 0 0)], [(1, .cells 30 [q2aW x3]), (2, .cells 30 [.nils]), (3, .cells 31 [.i x4]), (5, .cells 30 [.own 6000]), (6000, q2bW_49 x5), (6001, .cells 49 [.b16 x6]), (70002, .yld (some ([1, 2, 3, 5], C70002)) 0)], [70002, 1, 2, 3, 5, 6001], 20000⟩ trivial ?_
  refine AWp.seq ?_
  obtain ⟨r7, hr7, h⟩ := bind_ok h
  refine q2rr [57] [(1, ⟨[.b16 x1], [], [], [(26001, q2bI_3 r7)], .own 26001, [26001], [], [0]⟩)] ⟨70, [(1, .i x2), (2, .own 70002), (7, .own 26001), (1000000, .elem 32 1 T0F 0 0)], (f73az2 x3 x4 x5 x6 r7 C70002), [70002, 1, 2, 3, 5, 6001], 20000⟩ (an1 (cpT (Spec1.ren (swapN 3000 26001) (swapN_inv 3000 26001) rfl (f93_ok _ _ hr7)))) ?_
  refine thenQ_normal ?_
  refine AWp.seq ?_
  refine AWp.seq ?_
  have ob0 := idA ((f73az6 x2) = true)
  have ob1 := idA ((f73az6 x2) = true)
  have ob2 := idA ((f73az6 x2) = true)
  have ob3 : true = true → (decide (x2 < (0 : Int))) = false → (f73az6 x2) = true := fun _ h => beq_iff_eq.2 h
  refine q2rr [57] [] ⟨70, [(1, .i x2), (2, .own 70002), (7, .own 26001), (23, .bool ((decide (x2 < (0 : Int))) || (decide (x2 > (lZ r7))))), (1000000, .elem 32 1 T0F 0 0)], (f73az2 x3 x4 x5 x6 r7 C70002), [70002, 1, 2, 3, 5, 6001], 20000⟩ (an3 (an1 ob0) (an2 ob1 ob2) ob3) ?_
  refine thenQ_normal ?_
  refine AWp.cond (b := ((decide (x2 < (0 : Int))) || (decide (x2 > (lZ r7))))) (by kernel_rfl) (fun hc1 => ?_) (fun hc1 => ?_)
  ·
    replace h := ite_tb hc1 h
    refine q2rq [57] [] ⟨70, [(6, .bool true), (1000000, .elem 32 1 T0F 0 0)], [(1, .cells 30 [q2aW x3]), (2, .cells 30 [.nils]), (3, .cells 31 [.i x4]), (5, .cells 30 [.own 6000]), (6000, q2bW_49 x5), (6001, .cells 49 [.b16 x6]), (70002, .yld (some ([1, 2, 3, 5], C70002)) 0)], [70002, 1, 2, 3, 5, 6001], 20000⟩ trivial ?_
    have hret := Option.some.inj h
    subst hret
    refine AWp.le (Le.mk (s' := ⟨70, [(6, .bool true)], [(70002, .yld (some ([1, 2, 3, 5], C70002)) 0), (1, .cells 30 [q2aW x3]), (2, .cells 30 [.nils]), (3, .cells 31 [.i x4]), (5, .cells 30 [.own 6000]), (6000, q2bW_49 x5), (6001, .cells 49 [.b16 x6])], [70002, 1, 2, 3, 5, 6001], 20000⟩) rfl rfl ⟨.refl _, trivial⟩ ⟨⟨_, rfl, .refl _⟩, ⟨_, rfl, .refl _⟩, ⟨_, rfl, .refl _⟩, ⟨_, rfl, .refl _⟩, ⟨_, rfl, .refl _⟩, ⟨_, rfl, .refl _⟩, ⟨_, rfl, .refl _⟩, trivial⟩) ?_
    refine AWp.ret ?_
    refine thenQ_ret ?_
    exact bodyQ_ret _ rfl ⟨rfl, rfl⟩ rfl
  ·
    replace h := ite_fb hc1 h
    refine AWp.skip ?_
    refine thenQ_normal ?_
    obtain ⟨K1, hK1, h⟩ := jn_some h
    refine AWp.join (α := BitVec 16 × Int × List (BitVec 16) × List (BitVec 16) × Nat) (fun (x : BitVec 16 × Int × List (BitVec 16) × List (BitVec 16) × Nat) => match x with | (w18, i19, l20, l21, n22) => ⟨70, [(1000000, .elem 32 1 T0F 0 0)], [(1, .cells 30 [q2aW l20]), (2, .cells 30 [.nils]), (3, .cells 31 [.i i19]), (5, .cells 30 [.own 6000]), (6000, q2bW_49 l21), (6001, .cells 49 [.b16 w18]), (70002, .yld (some ([1, 2, 3, 5], C70002)) n22)], [70002, 1, 2, 3, 5, 6001], 20000⟩) (fun x => K1 x = some r) ?_ ?_
    ·
      refine AWp.seq ?_
      obtain ⟨ob4, ob5, h⟩ := ck2 h
      refine q2rr [57] [] ⟨70, [(2, .own 70002), (7, .own 26001), (8, .int .u32 (((1 : Int) * 2 ^ ((x2).toNat)) - (1 : Int))), (1000000, .elem 32 1 T0F 0 0)], (f73az2 x3 x4 x5 x6 r7 C70002), [70002, 1, 2, 3, 5, 6001], 20000⟩ (an2 ob4 ob5) ?_
      refine thenQ_normal ?_
      refine AWp.block ?_
      refine AWp.loopL (α := Nat × (Int × BitVec 16 × Int × List (BitVec 16) × List (BitVec 16) × Nat)) (fun x => match x with | (_, i9, w10, i11, l12, l13, n14) => ⟨70, [(2, .own 70002), (7, .own 26001), (8, .int .u32 i9), (1000000, .elem 32 1 T0F 0 0)], (f73az0 l12 i11 l13 w10 r7 C70002 n14), [70002, 1, 2, 3, 5, 6001], 20000⟩) (fun x => f73a_L0 Y70002 r7 K1 x.1 x.2 = some r) (fun x => x.1) (FUEL, (((1 : Int) * 2 ^ ((x2).toNat)) - (1 : Int)), x6, x4, x3, x5, 0) (Le.mk (s' := ⟨70, [(2, .own 70002), (7, .own 26001), (8, .int .u32 (((1 : Int) * 2 ^ ((x2).toNat)) - (1 : Int))), (1000000, .elem 32 1 T0F 0 0)], (f73az2 x3 x4 x5 x6 r7 C70002), [70002, 1, 2, 3, 5, 6001], 20000⟩) rfl rfl ⟨.refl _, .refl _, .refl _, .refl _, trivial⟩ ⟨⟨_, rfl, .refl _⟩, ⟨_, rfl, .refl _⟩, ⟨_, rfl, .refl _⟩, ⟨_, rfl, .refl _⟩, ⟨_, rfl, .refl _⟩, ⟨_, rfl, .refl _⟩, ⟨_, rfl, .refl _⟩, ⟨_, rfl, .refl _⟩, trivial⟩) h ?_
      rintro ⟨k0, i9, w10, i11, l12, l13, n14⟩ h
      cases k0 with
      | zero => exact nomatch (show (none : Option (Bool × Nat × List (BitVec 16) × Int × List (BitVec 16) × BitVec 16)) = some r from h)
      | succ k0 =>
      obtain ⟨C0, hC0⟩ : ∃ C, C = f73a_L0 Y70002 r7 K1 k0 := ⟨_, rfl⟩
      replace h := (f73a_L0.eq_2 ..).symm.trans h
      try rw [← hC0] at h
      refine AWp.seq ?_
      refine AWp.seq ?_
      obtain ⟨ob6p, h⟩ := chk_some h
      have ob6 : 0 ≤ (((r7).length : Nat) : Int) ∧ (r7).length ≤ IntKind.bits .u32 ∧ 0 ≤ ((1 : Int) * 2 ^ ((r7).length)) ∧ ((1 : Int) * 2 ^ ((r7).length)) ≤ 4294967295 := ⟨by omega, ob6p.1, ob6p.2.1, ob6p.2.2⟩
      refine q2rr [57] [] ⟨70, [(2, .own 70002), (7, .own 26001), (8, .int .u32 i9), (31, .bool (decide (i9 < ((1 : Int) * 2 ^ ((r7).length))))), (1000000, .elem 32 1 T0F 0 0)], (f73az0 l12 i11 l13 w10 r7 C70002 n14), [70002, 1, 2, 3, 5, 6001], 20000⟩ (an1 ob6) ?_
      refine thenQ_normal ?_
      refine AWp.cond (b := (decide (i9 < ((1 : Int) * 2 ^ ((r7).length))))) (by kernel_rfl) (fun hc2 => ?_) (fun hc2 => ?_)
      ·
        replace h := ite_tb hc2 h
        refine AWp.skip ?_
        refine thenQ_normal ?_
        refine AWp.block ?_
        refine q2rq [57] [] ⟨70, [(2, .own 70002), (7, .own 26001), (8, .int .u32 i9), (9, .b16 (q2w16 0)), (1000000, .elem 32 1 T0F 0 0)], (f73az0 l12 i11 l13 w10 r7 C70002 n14), [70002, 1, 2, 3, 5, 6001], 20000⟩ trivial ?_
        obtain ⟨K2, hK2, h⟩ := jn_some h
        refine AWp.join (α := BitVec 16) (fun (w18 : BitVec 16) => ⟨70, [(2, .own 70002), (7, .own 26001), (8, .int .u32 i9), (9, .b16 w18), (1000000, .elem 32 1 T0F 0 0)], (f73az0 l12 i11 l13 w10 r7 C70002 n14), [70002, 1, 2, 3, 5, 6001], 20000⟩) (fun x => K2 x = some r) ?_ ?_
        ·
          refine q2rq [57] [] ⟨70, [(2, .own 70002), (7, .own 26001), (8, .int .u32 i9), (9, .b16 (q2w16 0)), (32, .own 26001), (33, .i (lZ r7)), (34, .i (0 : Int)), (1000000, .elem 32 1 T0F 0 0)], (f73az0 l12 i11 l13 w10 r7 C70002 n14), [70002, 1, 2, 3, 5, 6001], 20000⟩ trivial ?_
          refine AWp.block ?_
          refine AWp.loopL (α := Nat × (BitVec 16 × Nat)) (fun x => match x with | (_, w15, n16) => ⟨70, [(2, .own 70002), (7, .own 26001), (8, .int .u32 i9), (9, .b16 w15), (32, .own 26001), (33, .i (lZ r7)), (34, .i (n16 : Int)), (1000000, .elem 32 1 T0F 0 0)], (f73az0 l12 i11 l13 w10 r7 C70002 n14), [70002, 1, 2, 3, 5, 6001], 20000⟩) (fun x => f73a_L1 r7 i9 K2 x.1 x.2 = some r) (fun x => x.1) (FUEL, (q2w16 0), 0) (Le.mk (s' := ⟨70, [(2, .own 70002), (7, .own 26001), (8, .int .u32 i9), (9, .b16 (q2w16 0)), (32, .own 26001), (33, .i (lZ r7)), (34, .i (0 : Int)), (1000000, .elem 32 1 T0F 0 0)], (f73az0 l12 i11 l13 w10 r7 C70002 n14), [70002, 1, 2, 3, 5, 6001], 20000⟩) rfl rfl ⟨.refl _, .refl _, .refl _, .refl _, .refl _, .refl _, .refl _, .refl _, trivial⟩ ⟨⟨_, rfl, .refl _⟩, ⟨_, rfl, .refl _⟩, ⟨_, rfl, .refl _⟩, ⟨_, rfl, .refl _⟩, ⟨_, rfl, .refl _⟩, ⟨_, rfl, .refl _⟩, ⟨_, rfl, .refl _⟩, ⟨_, rfl, .refl _⟩, trivial⟩) h ?_
          rintro ⟨k1, w15, n16⟩ h
          cases k1 with
          | zero => exact nomatch (show (none : Option (Bool × Nat × List (BitVec 16) × Int × List (BitVec 16) × BitVec 16)) = some r from h)
          | succ k1 =>
          obtain ⟨C1, hC1⟩ : ∃ C, C = f73a_L1 r7 i9 K2 k1 := ⟨_, rfl⟩
          replace h := (f73a_L1.eq_2 ..).symm.trans h
          try rw [← hC1] at h
          refine q2rq [57] [] ⟨70, [(2, .own 70002), (7, .own 26001), (8, .int .u32 i9), (9, .b16 w15), (32, .own 26001), (33, .i (lZ r7)), (34, .i (n16 : Int)), (35, .bool (decide ((n16 : Int) < (lZ r7)))), (1000000, .elem 32 1 T0F 0 0)], (f73az0 l12 i11 l13 w10 r7 C70002 n14), [70002, 1, 2, 3, 5, 6001], 20000⟩ trivial ?_
          refine AWp.seq ?_
          refine AWp.cond (b := (decide ((n16 : Int) < (lZ r7)))) (by kernel_rfl) (fun hc3 => ?_) (fun hc3 => ?_)
          ·
            replace h := ite_tb hc3 h
            refine AWp.skip ?_
            refine thenQ_normal ?_
            obtain ⟨K3, hK3, h⟩ := jn_some h
            refine AWp.join (α := BitVec 16) (fun (w17 : BitVec 16) => ⟨70, [(2, .own 70002), (7, .own 26001), (8, .int .u32 i9), (9, .b16 w17), (32, .own 26001), (33, .i (lZ r7)), (34, .i (n16 : Int)), (1000000, .elem 32 1 T0F 0 0)], (f73az0 l12 i11 l13 w10 r7 C70002 n14), [70002, 1, 2, 3, 5, 6001], 20000⟩) (fun x => K3 x = some r) ?_ ?_
            ·
              refine AWp.block ?_
              refine AWp.seq ?_
              obtain ⟨ob7p, h⟩ := chk_some h
              have ob7 : 0 ≤ (n16 : Int) ∧ (n16 : Int) < (((r7).length : Nat) : Int) := ⟨by omega, ob7p⟩
              obtain ⟨ob8, h⟩ := chk_some h
              refine q2rr [57] [] ⟨70, [(2, .own 70002), (7, .own 26001), (8, .int .u32 i9), (9, .b16 w15), (10, .i (n16 : Int)), (11, .i (r7.getD n16 0)), (32, .own 26001), (33, .i (lZ r7)), (34, .i (n16 : Int)), (1000000, .elem 32 1 T0F 0 0)], (f73az0 l12 i11 l13 w10 r7 C70002 n14), [70002, 1, 2, 3, 5, 6001], 20000⟩ (an2 ob7 ob8) ?_
              refine thenQ_normal ?_
              refine AWp.seq ?_
              obtain ⟨ob9p, h⟩ := chk_some h
              have ob9 : 0 ≤ (n16 : Int) ∧ n16 ≤ IntKind.bits .u32 := ⟨by omega, ob9p⟩
              refine q2rr [57] [] ⟨70, [(2, .own 70002), (7, .own 26001), (8, .int .u32 i9), (9, .b16 w15), (11, .i (r7.getD n16 0)), (32, .own 26001), (33, .i (lZ r7)), (34, .i (n16 : Int)), (43, .bool ((bitsI .and .u32 (i9 / 2 ^ n16) (1 : Int)) == (1 : Int))), (1000000, .elem 32 1 T0F 0 0)], (f73az0 l12 i11 l13 w10 r7 C70002 n14), [70002, 1, 2, 3, 5, 6001], 20000⟩ (an1 ob9) ?_
              refine thenQ_normal ?_
              refine AWp.cond (b := ((bitsI .and .u32 (i9 / 2 ^ n16) (1 : Int)) == (1 : Int))) (by kernel_rfl) (fun hc4 => ?_) (fun hc4 => ?_)
              ·
                replace h := ite_tb hc4 h
                obtain ⟨ob10, h⟩ := chk_some h
                refine q2rr [57] [] ⟨70, [(2, .own 70002), (7, .own 26001), (8, .int .u32 i9), (9, .b16 (w15 ||| ((q2w16 1) <<< (((r7.getD n16 0)).toNat)))), (32, .own 26001), (33, .i (lZ r7)), (34, .i (n16 : Int)), (1000000, .elem 32 1 T0F 0 0)], (f73az0 l12 i11 l13 w10 r7 C70002 n14), [70002, 1, 2, 3, 5, 6001], 20000⟩ (an1 ob10) ?_
                refine blockQ_normal ?_
                exact joinQ_normal ((w15 ||| ((q2w16 1) <<< (((r7.getD n16 0)).toNat)))) (Le.mk rfl rfl ⟨.refl _, .refl _, .refl _, .refl _, .refl _, .refl _, .refl _, .refl _, trivial⟩ ⟨⟨_, rfl, .refl _⟩, ⟨_, rfl, .refl _⟩, ⟨_, rfl, .refl _⟩, ⟨_, rfl, .refl _⟩, ⟨_, rfl, .refl _⟩, ⟨_, rfl, .refl _⟩, ⟨_, rfl, .refl _⟩, ⟨_, rfl, .refl _⟩, trivial⟩) h
              ·
                replace h := ite_fb hc4 h
                refine AWp.skip ?_
                refine blockQ_normal ?_
                exact joinQ_normal (w15) (Le.mk rfl rfl ⟨.refl _, .refl _, .refl _, .refl _, .refl _, .refl _, .refl _, .refl _, trivial⟩ ⟨⟨_, rfl, .refl _⟩, ⟨_, rfl, .refl _⟩, ⟨_, rfl, .refl _⟩, ⟨_, rfl, .refl _⟩, ⟨_, rfl, .refl _⟩, ⟨_, rfl, .refl _⟩, ⟨_, rfl, .refl _⟩, ⟨_, rfl, .refl _⟩, trivial⟩) h
            ·
              rintro w17 h
              replace h := (congrFun hK3 _).symm.trans h
              obtain ⟨ob11p, h⟩ := chk_some h
              have ob11 : -9223372036854775808 ≤ ((n16 : Int) + (1 : Int)) ∧ ((n16 : Int) + (1 : Int)) ≤ 9223372036854775807 := ⟨by omega, ob11p⟩
              refine q2rr [57] [] ⟨70, [(2, .own 70002), (7, .own 26001), (8, .int .u32 i9), (9, .b16 w17), (32, .own 26001), (33, .i (lZ r7)), (34, .i (((n16 + 1) : Nat) : Int)), (1000000, .elem 32 1 T0F 0 0)], (f73az0 l12 i11 l13 w10 r7 C70002 n14), [70002, 1, 2, 3, 5, 6001], 20000⟩ (an1 ob11) ?_
              rw [hC1] at h
              exact loopQ_normal (_, w17, (n16 + 1)) (Le.mk rfl rfl ⟨.refl _, .refl _, .refl _, .refl _, .refl _, .refl _, .refl _, .refl _, trivial⟩ ⟨⟨_, rfl, .refl _⟩, ⟨_, rfl, .refl _⟩, ⟨_, rfl, .refl _⟩, ⟨_, rfl, .refl _⟩, ⟨_, rfl, .refl _⟩, ⟨_, rfl, .refl _⟩, ⟨_, rfl, .refl _⟩, ⟨_, rfl, .refl _⟩, trivial⟩) h (Nat.lt_succ_self _)
          ·
            replace h := ite_fb hc3 h
            refine AWp.exit ?_
            refine thenQ_exit ?_
            refine thenQ_exit ?_
            refine blockQ_same ?_
            exact joinQ_normal (w15) (Le.mk rfl rfl ⟨.refl _, .refl _, .refl _, .refl _, .refl _, trivial⟩ ⟨⟨_, rfl, .refl _⟩, ⟨_, rfl, .refl _⟩, ⟨_, rfl, .refl _⟩, ⟨_, rfl, .refl _⟩, ⟨_, rfl, .refl _⟩, ⟨_, rfl, .refl _⟩, ⟨_, rfl, .refl _⟩, ⟨_, rfl, .refl _⟩, trivial⟩) h
        ·
          rintro w18 h
          replace h := (congrFun hK2 _).symm.trans h
          obtain ⟨K4, hK4, h⟩ := jn_some h
          refine AWp.join (α := BitVec 16 × Int × List (BitVec 16) × List (BitVec 16) × Nat) (fun (x : BitVec 16 × Int × List (BitVec 16) × List (BitVec 16) × Nat) => match x with | (w20, i21, l22, l23, n24) => ⟨70, [(2, .own 70002), (7, .own 26001), (8, .int .u32 i9), (1000000, .elem 32 1 T0F 0 0)], (f73az1 l22 i21 l23 w20 r7 C70002 n24), [70002, 1, 2, 3, 5, 6001], 20000⟩) (fun x => K4 x = some r) ?_ ?_
          ·
            refine AWp.seq ?_
            obtain ⟨hz5, h⟩ := chk_some h
            refine AWp.le (Le.mk (s' := ⟨70, [(2, .own 70002), (7, .own 26001), (8, .int .u32 i9), (9, .b16 w18), (1000000, .elem 32 1 T0F 0 0)], [(1, .cells 30 [q2aW l12]), (2, .cells 30 [.nils]), (3, .cells 31 [.i i11]), (5, .cells 30 [.own 6000]), (6000, q2bW_49 l13), (6001, .cells 49 [.b16 w10]), (26001, q2bI_3 r7), (70002, .yld (some ([1, 2, 3, 5], C70002)) 0)], [70002, 1, 2, 3, 5, 6001], 20000⟩) rfl rfl ⟨.refl _, .refl _, .refl _, .refl _, .refl _, trivial⟩ ⟨⟨_, rfl, .refl _⟩, ⟨_, rfl, .refl _⟩, ⟨_, rfl, .refl _⟩, ⟨_, rfl, .refl _⟩, ⟨_, rfl, .refl _⟩, ⟨_, rfl, .refl _⟩, ⟨_, rfl, .refl _⟩, ⟨_, rfl, BLe.yldEq hz5⟩, trivial⟩) ?_
            obtain ⟨r19, hr19, h⟩ := bind_ok h
            by_cases hy_r19 : r19.1 = 0
            ·
              replace h := ite_t hy_r19 h
              refine q2rr [57] [(2, ⟨[.b16 w18], [70002, 1, 2, 3, 5, 6000, 6001], [1, 2, 3, 5, 6001], (f73az5 C70002 r19), .bool true, [6000], [], []⟩)] ⟨70, [(2, .own 70002), (7, .own 26001), (8, .int .u32 i9), (52, .bool (!true)), (1000000, .elem 32 1 T0F 0 0)], [(1, .cells 30 [q2aW r19.2.1]), (2, .cells 30 [.nils]), (3, .cells 31 [.i r19.2.2.1]), (5, .cells 30 [.own 6000]), (6000, q2bW_49 r19.2.2.2.1), (6001, .cells 49 [.b16 r19.2.2.2.2]), (26001, q2bI_3 r7), (70002, .yld (some ([1, 2, 3, 5], C70002)) 0)], [70002, 1, 2, 3, 5, 6001], 20000⟩ (an1 (show (((f73az5 C70002 r19) : Heap) = (70002, .yld (some ([1, 2, 3, 5], C70002)) 0) :: (f73az3 r19) ∧ V.bool true = V.bool (0 == 0) ∧ YSpec Tryd.prog 70002 [1, 2, 3, 5] C70002 [1, 2, 3, 5, 6001] [(1, .cells 30 [q2aW l12]), (2, .cells 30 [.nils]), (3, .cells 31 [.i i11]), (5, .cells 30 [.own 6000]), (6000, q2bW_49 l13), (6001, .cells 49 [.b16 w10])] [.b16 w18] 0 (f73az3 r19) ∧ VLes [.b16 w18] [.b16 w18]) from ⟨rfl, rfl, (YSpec.zero (hY70002 _ _ r19 hr19) hy_r19), ⟨.refl _, trivial⟩⟩)) ?_
              refine thenQ_normal ?_
              refine AWp.cond (b := (!true)) (by kernel_rfl) (fun hc7 => ?_) (fun hc7 => ?_)
              ·
                replace h := ite_tb hc7 h
                refine q2rq [57] [] ⟨70, [(6, .bool false), (1000000, .elem 32 1 T0F 0 0)], [(1, .cells 30 [q2aW r19.2.1]), (2, .cells 30 [.nils]), (3, .cells 31 [.i r19.2.2.1]), (5, .cells 30 [.own 6000]), (6000, q2bW_49 r19.2.2.2.1), (6001, .cells 49 [.b16 r19.2.2.2.2]), (70002, .yld (some ([1, 2, 3, 5], C70002)) 0)], [70002, 1, 2, 3, 5, 6001], 20000⟩ trivial ?_
                have hret := Option.some.inj h
                subst hret
                refine AWp.le (Le.mk (s' := ⟨70, [(6, .bool false)], (f73az5 C70002 r19), [70002, 1, 2, 3, 5, 6001], 20000⟩) rfl rfl ⟨.refl _, trivial⟩ ⟨⟨_, rfl, .refl _⟩, ⟨_, rfl, .refl _⟩, ⟨_, rfl, .refl _⟩, ⟨_, rfl, .refl _⟩, ⟨_, rfl, .refl _⟩, ⟨_, rfl, .refl _⟩, ⟨_, rfl, .refl _⟩, trivial⟩) ?_
                refine AWp.ret ?_
                refine joinQ_ret ?_
                refine blockQ_ret ?_
                refine thenQ_ret ?_
                refine blockQ_ret ?_
                refine joinQ_ret ?_
                exact bodyQ_ret _ rfl ⟨rfl, rfl⟩ rfl
              ·
                replace h := ite_fb hc7 h
                refine AWp.skip ?_
                exact joinQ_normal (r19.2.2.2.2, r19.2.2.1, r19.2.1, r19.2.2.2.1, 0) (Le.mk rfl rfl ⟨.refl _, .refl _, .refl _, .refl _, trivial⟩ ⟨⟨_, rfl, .refl _⟩, ⟨_, rfl, .refl _⟩, ⟨_, rfl, .refl _⟩, ⟨_, rfl, .refl _⟩, ⟨_, rfl, .refl _⟩, ⟨_, rfl, .refl _⟩, ⟨_, rfl, .refl _⟩, ⟨_, rfl, .refl _⟩, trivial⟩) h
            ·
              replace h := ite_f hy_r19 h
              refine q2rr [57] [(2, ⟨[.b16 w18], [70002, 1, 2, 3, 5, 6000, 6001], [1, 2, 3, 5, 6001], (f73az4 C70002 r19), .bool false, [6000], [], []⟩)] ⟨70, [(2, .own 70002), (7, .own 26001), (8, .int .u32 i9), (52, .bool (!false)), (1000000, .elem 32 1 T0F 0 0)], [(1, .cells 30 [q2aW r19.2.1]), (2, .cells 30 [.nils]), (3, .cells 31 [.i r19.2.2.1]), (5, .cells 30 [.own 6000]), (6000, q2bW_49 r19.2.2.2.1), (6001, .cells 49 [.b16 r19.2.2.2.2]), (26001, q2bI_3 r7), (70002, .yld (some ([1, 2, 3, 5], C70002)) r19.1)], [70002, 1, 2, 3, 5, 6001], 20000⟩ (an1 (show (((f73az4 C70002 r19) : Heap) = (70002, .yld (some ([1, 2, 3, 5], C70002)) r19.1) :: (f73az3 r19) ∧ V.bool false = V.bool (r19.1 == 0) ∧ YSpec Tryd.prog 70002 [1, 2, 3, 5] C70002 [1, 2, 3, 5, 6001] [(1, .cells 30 [q2aW l12]), (2, .cells 30 [.nils]), (3, .cells 31 [.i i11]), (5, .cells 30 [.own 6000]), (6000, q2bW_49 l13), (6001, .cells 49 [.b16 w10])] [.b16 w18] r19.1 (f73az3 r19) ∧ VLes [.b16 w18] [.b16 w18]) from ⟨rfl, bool_ne hy_r19, (hY70002 _ _ r19 hr19), ⟨.refl _, trivial⟩⟩)) ?_
              refine thenQ_normal ?_
              refine AWp.cond (b := (!false)) (by kernel_rfl) (fun hc8 => ?_) (fun hc8 => ?_)
              ·
                replace h := ite_tb hc8 h
                refine q2rq [57] [] ⟨70, [(6, .bool false), (1000000, .elem 32 1 T0F 0 0)], [(1, .cells 30 [q2aW r19.2.1]), (2, .cells 30 [.nils]), (3, .cells 31 [.i r19.2.2.1]), (5, .cells 30 [.own 6000]), (6000, q2bW_49 r19.2.2.2.1), (6001, .cells 49 [.b16 r19.2.2.2.2]), (70002, .yld (some ([1, 2, 3, 5], C70002)) r19.1)], [70002, 1, 2, 3, 5, 6001], 20000⟩ trivial ?_
                have hret := Option.some.inj h
                subst hret
                refine AWp.le (Le.mk (s' := ⟨70, [(6, .bool false)], (f73az4 C70002 r19), [70002, 1, 2, 3, 5, 6001], 20000⟩) rfl rfl ⟨.refl _, trivial⟩ ⟨⟨_, rfl, .refl _⟩, ⟨_, rfl, .refl _⟩, ⟨_, rfl, .refl _⟩, ⟨_, rfl, .refl _⟩, ⟨_, rfl, .refl _⟩, ⟨_, rfl, .refl _⟩, ⟨_, rfl, .refl _⟩, trivial⟩) ?_
                refine AWp.ret ?_
                refine joinQ_ret ?_
                refine blockQ_ret ?_
                refine thenQ_ret ?_
                refine blockQ_ret ?_
                refine joinQ_ret ?_
                exact bodyQ_ret _ rfl ⟨rfl, rfl⟩ rfl
              ·
                replace h := ite_fb hc8 h
                refine AWp.skip ?_
                exact joinQ_normal (r19.2.2.2.2, r19.2.2.1, r19.2.1, r19.2.2.2.1, r19.1) (Le.mk rfl rfl ⟨.refl _, .refl _, .refl _, .refl _, trivial⟩ ⟨⟨_, rfl, .refl _⟩, ⟨_, rfl, .refl _⟩, ⟨_, rfl, .refl _⟩, ⟨_, rfl, .refl _⟩, ⟨_, rfl, .refl _⟩, ⟨_, rfl, .refl _⟩, ⟨_, rfl, .refl _⟩, ⟨_, rfl, .refl _⟩, trivial⟩) h
          ·
            rintro ⟨w20, i21, l22, l23, n24⟩ h
            replace h := (congrFun hK4 _).symm.trans h
            refine AWp.seq ?_
            refine q2rq [57] [] ⟨70, [(2, .own 70002), (7, .own 26001), (8, .int .u32 i9), (54, .bool (i9 == (0 : Int))), (1000000, .elem 32 1 T0F 0 0)], (f73az1 l22 i21 l23 w20 r7 C70002 n24), [70002, 1, 2, 3, 5, 6001], 20000⟩ trivial ?_
            refine AWp.cond (b := (i9 == (0 : Int))) (by kernel_rfl) (fun hc9 => ?_) (fun hc9 => ?_)
            ·
              replace h := ite_tb hc9 h
              refine AWp.exit ?_
              refine thenQ_exit ?_
              refine blockQ_other (by decide) ?_
              refine thenQ_exit ?_
              refine blockQ_same ?_
              exact joinQ_normal (w20, i21, l22, l23, n24) (Le.mk rfl rfl ⟨.refl _, trivial⟩ ⟨⟨_, rfl, .refl _⟩, ⟨_, rfl, .refl _⟩, ⟨_, rfl, .refl _⟩, ⟨_, rfl, .refl _⟩, ⟨_, rfl, .refl _⟩, ⟨_, rfl, .refl _⟩, ⟨_, rfl, .refl _⟩, trivial⟩) h
            ·
              replace h := ite_fb hc9 h
              refine AWp.skip ?_
              refine thenQ_normal ?_
              refine q2rq [57] [] ⟨70, [(2, .own 70002), (7, .own 26001), (8, .int .u32 i9), (12, .int .u32 (bitsI .and .u32 i9 (IntKind.wrap .u32 (0 - i9)))), (1000000, .elem 32 1 T0F 0 0)], (f73az1 l22 i21 l23 w20 r7 C70002 n24), [70002, 1, 2, 3, 5, 6001], 20000⟩ (an1 trivial) ?_
              refine AWp.seq ?_
              obtain ⟨ob12, h⟩ := chk_some h
              refine q2rr [57] [] ⟨70, [(2, .own 70002), (7, .own 26001), (8, .int .u32 i9), (12, .int .u32 (bitsI .and .u32 i9 (IntKind.wrap .u32 (0 - i9)))), (13, .int .u32 (i9 + (bitsI .and .u32 i9 (IntKind.wrap .u32 (0 - i9))))), (1000000, .elem 32 1 T0F 0 0)], (f73az1 l22 i21 l23 w20 r7 C70002 n24), [70002, 1, 2, 3, 5, 6001], 20000⟩ (an1 ob12) ?_
              refine thenQ_normal ?_
              obtain ⟨ob13, ob14p, h⟩ := ck2 h
              have ob14 : 0 ≤ (2 : Int) ∧ 2 ≤ IntKind.bits .u32 := ⟨by omega, ob14p⟩
              refine q2rr [57] [] ⟨70, [(2, .own 70002), (7, .own 26001), (8, .int .u32 (bitsI .or .u32 (i9 + (bitsI .and .u32 i9 (IntKind.wrap .u32 (0 - i9)))) (((bitsI .xor .u32 i9 (i9 + (bitsI .and .u32 i9 (IntKind.wrap .u32 (0 - i9))))) / (bitsI .and .u32 i9 (IntKind.wrap .u32 (0 - i9)))) / 2 ^ 2))), (1000000, .elem 32 1 T0F 0 0)], (f73az1 l22 i21 l23 w20 r7 C70002 n24), [70002, 1, 2, 3, 5, 6001], 20000⟩ (an2 ob13 ob14) ?_
              refine blockQ_normal ?_
              rw [hC0] at h
              exact loopQ_normal (_, (bitsI .or .u32 (i9 + (bitsI .and .u32 i9 (IntKind.wrap .u32 (0 - i9)))) (((bitsI .xor .u32 i9 (i9 + (bitsI .and .u32 i9 (IntKind.wrap .u32 (0 - i9))))) / (bitsI .and .u32 i9 (IntKind.wrap .u32 (0 - i9)))) / 2 ^ 2)), w20, i21, l22, l23, n24) (Le.mk rfl rfl ⟨.refl _, .refl _, .refl _, .refl _, trivial⟩ ⟨⟨_, rfl, .refl _⟩, ⟨_, rfl, .refl _⟩, ⟨_, rfl, .refl _⟩, ⟨_, rfl, .refl _⟩, ⟨_, rfl, .refl _⟩, ⟨_, rfl, .refl _⟩, ⟨_, rfl, .refl _⟩, ⟨_, rfl, .refl _⟩, trivial⟩) h (Nat.lt_succ_self _)
      ·
        replace h := ite_fb hc2 h
        refine AWp.exit ?_
        refine thenQ_exit ?_
        refine thenQ_exit ?_
        refine blockQ_same ?_
        exact joinQ_normal (w10, i11, l12, l13, n14) (Le.mk rfl rfl ⟨.refl _, trivial⟩ ⟨⟨_, rfl, .refl _⟩, ⟨_, rfl, .refl _⟩, ⟨_, rfl, .refl _⟩, ⟨_, rfl, .refl _⟩, ⟨_, rfl, .refl _⟩, ⟨_, rfl, .refl _⟩, ⟨_, rfl, .refl _⟩, trivial⟩) h
    ·
      rintro ⟨w18, i19, l20, l21, n22⟩ h
      replace h := (congrFun hK1 _).symm.trans h
      refine q2rq [57] [] ⟨70, [(6, .bool true), (1000000, .elem 32 1 T0F 0 0)], [(1, .cells 30 [q2aW l20]), (2, .cells 30 [.nils]), (3, .cells 31 [.i i19]), (5, .cells 30 [.own 6000]), (6000, q2bW_49 l21), (6001, .cells 49 [.b16 w18]), (70002, .yld (some ([1, 2, 3, 5], C70002)) n22)], [70002, 1, 2, 3, 5, 6001], 20000⟩ trivial ?_
      have hret := Option.some.inj h
      subst hret
      refine AWp.le (Le.mk (s' := ⟨70, [(6, .bool true)], [(70002, .yld (some ([1, 2, 3, 5], C70002)) n22), (1, .cells 30 [q2aW l20]), (2, .cells 30 [.nils]), (3, .cells 31 [.i i19]), (5, .cells 30 [.own 6000]), (6000, q2bW_49 l21), (6001, .cells 49 [.b16 w18])], [70002, 1, 2, 3, 5, 6001], 20000⟩) rfl rfl ⟨.refl _, trivial⟩ ⟨⟨_, rfl, .refl _⟩, ⟨_, rfl, .refl _⟩, ⟨_, rfl, .refl _⟩, ⟨_, rfl, .refl _⟩, ⟨_, rfl, .refl _⟩, ⟨_, rfl, .refl _⟩, ⟨_, rfl, .refl _⟩, trivial⟩) ?_
      refine AWp.ret ?_
      exact bodyQ_ret _ rfl ⟨rfl, rfl⟩ rfl
def f71a_L0 (Y70002 : (List (BitVec 16) × Int × List (BitVec 16) × BitVec 16) → (BitVec 16) → Option (Nat × (List (BitVec 16) × Int × List (BitVec 16) × BitVec 16))) : Nat → (Nat × BitVec 16 × Int × List (BitVec 16) × List (BitVec 16) × Nat) → Option (Nat × List (BitVec 16) × Int × List (BitVec 16) × BitVec 16)
  | 0, _ => none
  | k + 1, (n5, w6, i7, l8, l9, n10) =>
    chk (n10 = 0) <|
    (f72 w6).bind fun (r11 : Int) =>
    if (decide ((n5 : Int) ≤ r11)) = true then (
    (f73a Y70002 w6 (n5 : Int) l8 i7 l9 w6).bind fun (r12 : Bool × Nat × List (BitVec 16) × Int × List (BitVec 16) × BitVec 16) =>
    if r12.1 then (
    chk (((n5 : Int) + (1 : Int)) ≤ 9223372036854775807) <|
    (f71a_L0 Y70002 k) ((n5 + 1), r12.2.2.2.2.2, r12.2.2.2.1, r12.2.2.1, r12.2.2.2.2.1, r12.2.1)
    ) else (
    some (r12.2.1, r12.2.2.1, r12.2.2.2.1, r12.2.2.2.2.1, r12.2.2.2.2.2)
    )
    ) else (
    some (0, l8, i7, l9, w6)
    )
abbrev f71az0 (r12 : Bool × Nat × List (BitVec 16) × Int × List (BitVec 16) × BitVec 16) (C70002 : YC) : Heap := [(1, .cells 30 [vL 1 eW 0#16 r12.2.2.1]), (2, .cells 30 [.nils]), (3, .cells 31 [.int .i64 r12.2.2.2.1]), (5, .cells 30 [.own 6000]), (6000, bL 49 1 eW 0#16 r12.2.2.2.2.1), (6001, .cells 49 [.b16 r12.2.2.2.2.2]), (70002, .yld (some ([1, 2, 3, 5], C70002)) r12.2.1)]
def f71a (Y70002 : (List (BitVec 16) × Int × List (BitVec 16) × BitVec 16) → (BitVec 16) → Option (Nat × (List (BitVec 16) × Int × List (BitVec 16) × BitVec 16))) (x1 : List (BitVec 16)) (x2 : Int) (x3 : List (BitVec 16)) (x4 : BitVec 16) : Option (Nat × List (BitVec 16) × Int × List (BitVec 16) × BitVec 16) :=
  f71a_L0 Y70002 FUEL (0, x4, x2, x1, x3, 0)
set_option maxRecDepth 100000 in
theorem f71a_ok (C70002 : YC) (Y70002 : (List (BitVec 16) × Int × List (BitVec 16) × BitVec 16) → (BitVec 16) → Option (Nat × (List (BitVec 16) × Int × List (BitVec 16) × BitVec 16))) (x1 : List (BitVec 16)) (x2 : Int) (x3 : List (BitVec 16)) (x4 : BitVec 16) (r : Nat × List (BitVec 16) × Int × List (BitVec 16) × BitVec 16) (h : f71a Y70002 x1 x2 x3 x4 = some r) (hY70002 : ∀ s x r, Y70002 s x = some r → YSpec Tryd.prog 70002 [1, 2, 3, 5] C70002 [1, 2, 3, 5, 6001] [(1, .cells 30 [vL 1 eW 0#16 s.1]), (2, .cells 30 [.nils]), (3, .cells 31 [.int .i64 s.2.1]), (5, .cells 30 [.own 6000]), (6000, bL 49 1 eW 0#16 s.2.2.1), (6001, .cells 49 [.b16 s.2.2.2])] [.b16 x] r.1 [(1, .cells 30 [vL 1 eW 0#16 r.2.1]), (2, .cells 30 [.nils]), (3, .cells 31 [.int .i64 r.2.2.1]), (5, .cells 30 [.own 6000]), (6000, bL 49 1 eW 0#16 r.2.2.2.1), (6001, .cells 49 [.b16 r.2.2.2.2])]) : Spec1 Tryd.prog 71 [(0, .elem 32 1 T0F 0 0)] [70002, 1, 2, 3, 5, 6001] [(70002, .yld (some ([1, 2, 3, 5], C70002)) 0), (1, .cells 30 [vL 1 eW 0#16 x1]), (2, .cells 30 [.nils]), (3, .cells 31 [.int .i64 x2]), (5, .cells 30 [.own 6000]), (6000, bL 49 1 eW 0#16 x3), (6001, .cells 49 [.b16 x4])] [.own 70002, .ptr 6001 0] (.tup []) [(70002, .yld (some ([1, 2, 3, 5], C70002)) r.1), (1, .cells 30 [vL 1 eW 0#16 r.2.1]), (2, .cells 30 [.nils]), (3, .cells 31 [.int .i64 r.2.2.1]), (5, .cells 30 [.own 6000]), (6000, bL 49 1 eW 0#16 r.2.2.2.1), (6001, .cells 49 [.b16 r.2.2.2.2])] := by
  unfold f71a at h
  refine Spec1.body 10000 _ _ Tryd.func71 rfl Tryd.ntmps71 rfl rfl ?_
  refine q2rq [] [] ⟨16, [(0, .own 70002), (1, .ptr 6001 0), (3, .i (0 : Int)), (1000000, .elem 32 1 T0F 0 0)], [(1, .cells 30 [q2aW x1]), (2, .cells 30 [.nils]), (3, .cells 31 [.i x2]), (5, .cells 30 [.own 6000]), (6000, q2bW_49 x3), (6001, .cells 49 [.b16 x4]), (70002, .yld (some ([1, 2, 3, 5], C70002)) 0)], [70002, 1, 2, 3, 5, 6001], 10000⟩ trivial ?_
  refine AWp.block ?_
  refine AWp.loopL (α := Nat × (Nat × BitVec 16 × Int × List (BitVec 16) × List (BitVec 16) × Nat)) (fun x => match x with | (_, n5, w6, i7, l8, l9, n10) => ⟨16, [(0, .own 70002), (1, .ptr 6001 0), (3, .i (n5 : Int)), (1000000, .elem 32 1 T0F 0 0)], [(1, .cells 30 [q2aW l8]), (2, .cells 30 [.nils]), (3, .cells 31 [.i i7]), (5, .cells 30 [.own 6000]), (6000, q2bW_49 l9), (6001, .cells 49 [.b16 w6]), (70002, .yld (some ([1, 2, 3, 5], C70002)) n10)], [70002, 1, 2, 3, 5, 6001], 10000⟩) (fun x => f71a_L0 Y70002 x.1 x.2 = some r) (fun x => x.1) (FUEL, 0, x4, x2, x1, x3, 0) (Le.mk (s' := ⟨16, [(0, .own 70002), (1, .ptr 6001 0), (3, .i (0 : Int)), (1000000, .elem 32 1 T0F 0 0)], [(1, .cells 30 [q2aW x1]), (2, .cells 30 [.nils]), (3, .cells 31 [.i x2]), (5, .cells 30 [.own 6000]), (6000, q2bW_49 x3), (6001, .cells 49 [.b16 x4]), (70002, .yld (some ([1, 2, 3, 5], C70002)) 0)], [70002, 1, 2, 3, 5, 6001], 10000⟩) rfl rfl ⟨.refl _, .refl _, .refl _, .refl _, trivial⟩ ⟨⟨_, rfl, .refl _⟩, ⟨_, rfl, .refl _⟩, ⟨_, rfl, .refl _⟩, ⟨_, rfl, .refl _⟩, ⟨_, rfl, .refl _⟩, ⟨_, rfl, .refl _⟩, ⟨_, rfl, .refl _⟩, trivial⟩) h ?_
  rintro ⟨k0, n5, w6, i7, l8, l9, n10⟩ h
  cases k0 with
  | zero => exact nomatch (show (none : Option (Nat × List (BitVec 16) × Int × List (BitVec 16) × BitVec 16)) = some r from h)
  | succ k0 =>
  obtain ⟨C0, hC0⟩ : ∃ C, C = f71a_L0 Y70002 k0 := ⟨_, rfl⟩
  replace h := (f71a_L0.eq_2 ..).symm.trans h
  try rw [← hC0] at h
  refine AWp.seq ?_
  refine AWp.seq ?_
  obtain ⟨hz1, h⟩ := chk_some h
  refine AWp.le (Le.mk (s' := ⟨16, [(0, .own 70002), (1, .ptr 6001 0), (3, .i (n5 : Int)), (1000000, .elem 32 1 T0F 0 0)], [(1, .cells 30 [q2aW l8]), (2, .cells 30 [.nils]), (3, .cells 31 [.i i7]), (5, .cells 30 [.own 6000]), (6000, q2bW_49 l9), (6001, .cells 49 [.b16 w6]), (70002, .yld (some ([1, 2, 3, 5], C70002)) 0)], [70002, 1, 2, 3, 5, 6001], 10000⟩) rfl rfl ⟨.refl _, .refl _, .refl _, .refl _, trivial⟩ ⟨⟨_, rfl, .refl _⟩, ⟨_, rfl, .refl _⟩, ⟨_, rfl, .refl _⟩, ⟨_, rfl, .refl _⟩, ⟨_, rfl, .refl _⟩, ⟨_, rfl, .refl _⟩, ⟨_, rfl, BLe.yldEq hz1⟩, trivial⟩) ?_
  obtain ⟨r11, hr11, h⟩ := bind_ok h
  by_cases hg1_4 : (decide ((n5 : Int) ≤ r11)) = true
  ·
    replace h := ite_t hg1_4 h
    obtain ⟨r12, hr12, h⟩ := bind_ok h
    have ob0 := idA (true = true)
    have ob1 := idA (true = true)
    have ob2 := idA (true = true)
    refine q2rr [] [(2, ⟨[.b16 w6], [], [], [], .i r11, [], [], []⟩), (4, ⟨[], [], [], [], (.bool true), [], [0], []⟩), (8, ⟨[.b16 w6, .i (n5 : Int), .own 70002], [70002, 1, 2, 3, 5, 6000, 6001], [70002, 1, 2, 3, 5, 6001], [(70002, .yld (some ([1, 2, 3, 5], C70002)) r12.2.1), (1, .cells 30 [q2aW r12.2.2.1]), (2, .cells 30 [.nils]), (3, .cells 31 [.i r12.2.2.2.1]), (5, .cells 30 [.own 6000]), (6000, q2bW_49 r12.2.2.2.2.1), (6001, .cells 49 [.b16 r12.2.2.2.2.2])], .bool r12.1, [6000], [], [0]⟩)] ⟨16, [(0, .own 70002), (1, .ptr 6001 0), (3, .i (n5 : Int)), (13, .bool r12.1), (1000000, .elem 32 1 T0F 0 0)], (f71az0 r12 C70002), [70002, 1, 2, 3, 5, 6001], 10000⟩ (an4 (cpT (f72_ok _ _ hr11)) (show ((.bool (decide ((n5 : Int) ≤ r11))) : V) = (.bool true) from (congrArg (fun x => ((.bool x) : V)) hg1_4)) (And.intro (cpT (f73a_ok C70002 _ _ _ _ _ _ _ _ hr12 hY70002)) (an3 ob0 ob1 ob2)) trivial) ?_
    refine thenQ_normal ?_
    refine AWp.cond (b := r12.1) (by kernel_rfl) (fun hc3 => ?_) (fun hc3 => ?_)
    ·
      replace h := ite_tb hc3 h
      refine AWp.skip ?_
      refine thenQ_normal ?_
      refine AWp.seq ?_
      refine AWp.block ?_
      refine AWp.skip ?_
      refine blockQ_normal ?_
      refine thenQ_normal ?_
      obtain ⟨ob4p, h⟩ := chk_some h
      have ob4 : -9223372036854775808 ≤ ((n5 : Int) + (1 : Int)) ∧ ((n5 : Int) + (1 : Int)) ≤ 9223372036854775807 := ⟨by omega, ob4p⟩
      refine q2rr [] [] ⟨16, [(0, .own 70002), (1, .ptr 6001 0), (3, .i (((n5 + 1) : Nat) : Int)), (1000000, .elem 32 1 T0F 0 0)], (f71az0 r12 C70002), [70002, 1, 2, 3, 5, 6001], 10000⟩ (an1 ob4) ?_
      rw [hC0] at h
      exact loopQ_normal (_, (n5 + 1), r12.2.2.2.2.2, r12.2.2.2.1, r12.2.2.1, r12.2.2.2.2.1, r12.2.1) (Le.mk rfl rfl ⟨.refl _, .refl _, .refl _, .refl _, trivial⟩ ⟨⟨_, rfl, .refl _⟩, ⟨_, rfl, .refl _⟩, ⟨_, rfl, .refl _⟩, ⟨_, rfl, .refl _⟩, ⟨_, rfl, .refl _⟩, ⟨_, rfl, .refl _⟩, ⟨_, rfl, .refl _⟩, trivial⟩) h (Nat.lt_succ_self _)
    ·
      replace h := ite_fb hc3 h
      refine AWp.exit ?_
      refine thenQ_exit ?_
      refine thenQ_exit ?_
      refine blockQ_same ?_
      have hret := Option.some.inj h
      subst hret
      exact bodyQ_le (Le.mk (s' := ⟨16, [], [(70002, .yld (some ([1, 2, 3, 5], C70002)) r12.2.1), (1, .cells 30 [q2aW r12.2.2.1]), (2, .cells 30 [.nils]), (3, .cells 31 [.i r12.2.2.2.1]), (5, .cells 30 [.own 6000]), (6000, q2bW_49 r12.2.2.2.2.1), (6001, .cells 49 [.b16 r12.2.2.2.2.2])], [70002, 1, 2, 3, 5, 6001], 10000⟩) rfl rfl trivial ⟨⟨_, rfl, .refl _⟩, ⟨_, rfl, .refl _⟩, ⟨_, rfl, .refl _⟩, ⟨_, rfl, .refl _⟩, ⟨_, rfl, .refl _⟩, ⟨_, rfl, .refl _⟩, ⟨_, rfl, .refl _⟩, trivial⟩) (bodyQ_normal _ rfl ⟨rfl, rfl⟩ rfl)
  ·
    replace h := ite_f hg1_4 h
    have ob0 := idA (false = true)
    have ob1 := idA (false = true)
    have ob2 := idA (false = true)
    have ob3 : true = true → false = true → false = true := fun _ h => h
    refine q2rr [] [(2, ⟨[.b16 w6], [], [], [], .i r11, [], [], []⟩), (4, ⟨[], [], [], [], (.bool false), [], [0], []⟩), (8, ⟨[], [], [], [], .bool false, [], [], []⟩)] ⟨16, [(0, .own 70002), (1, .ptr 6001 0), (3, .i (n5 : Int)), (13, .bool false), (1000000, .elem 32 1 T0F 0 0)], [(1, .cells 30 [q2aW l8]), (2, .cells 30 [.nils]), (3, .cells 31 [.i i7]), (5, .cells 30 [.own 6000]), (6000, q2bW_49 l9), (6001, .cells 49 [.b16 w6]), (70002, .yld (some ([1, 2, 3, 5], C70002)) 0)], [70002, 1, 2, 3, 5, 6001], 10000⟩ (an4 (cpT (f72_ok _ _ hr11)) (show ((.bool (decide ((n5 : Int) ≤ r11))) : V) = (.bool false) from (congrArg (fun x => ((.bool x) : V)) (Bool.eq_false_iff.2 hg1_4))) (And.intro (show (callP Tryd.prog false 73 [] [] [] [] [] [.b16 w6, .i (n5 : Int), .own 70002] [] (.bool false) []) from ⟨nofun, nofun, .inl rfl⟩) (an3 ob0 ob1 ob2)) ob3) ?_
    refine thenQ_normal ?_
    refine AWp.cond (b := false) (by kernel_rfl) (fun hc => ?_) (fun hc => ?_)
    ·
      cases hc
    ·
      clear hc
      refine AWp.exit ?_
      refine thenQ_exit ?_
      refine thenQ_exit ?_
      refine blockQ_same ?_
      have hret := Option.some.inj h
      subst hret
      exact bodyQ_le (Le.mk (s' := ⟨16, [], [(70002, .yld (some ([1, 2, 3, 5], C70002)) 0), (1, .cells 30 [q2aW l8]), (2, .cells 30 [.nils]), (3, .cells 31 [.i i7]), (5, .cells 30 [.own 6000]), (6000, q2bW_49 l9), (6001, .cells 49 [.b16 w6])], [70002, 1, 2, 3, 5, 6001], 10000⟩) rfl rfl trivial ⟨⟨_, rfl, .refl _⟩, ⟨_, rfl, .refl _⟩, ⟨_, rfl, .refl _⟩, ⟨_, rfl, .refl _⟩, ⟨_, rfl, .refl _⟩, ⟨_, rfl, .refl _⟩, ⟨_, rfl, .refl _⟩, trivial⟩) (bodyQ_normal _ rfl ⟨rfl, rfl⟩ rfl)
def f12_Y70002 : (List (BitVec 16) × Int × List (BitVec 16) × BitVec 16) → (BitVec 16) → Option (Nat × (List (BitVec 16) × Int × List (BitVec 16) × BitVec 16))
  | (l7, i6, l8, w5), x9 =>
    (f31 l8 x9).bind fun (r10 : Bool) =>
    optc ((!r10) == true) (f44 l7 x9) fun (r11 : Bool) =>
    if ((!r10) && r11) then (
    chk (((l8).length + 1) * 2 ≤ 140737488355328) <|
    if (decide (((((l8 ++ [x9])).length : Nat) : Int) > (400 : Int))) then (
    some (2, (l7, (3 : Int), (l8 ++ [x9]), w5))
    ) else (
    some (0, (l7, i6, (l8 ++ [x9]), w5))
    )
    ) else (
    some (0, (l7, i6, l8, w5))
    )
abbrev f12z0 (l7 : List (BitVec 16)) (i6 : Int) (l8 : List (BitVec 16)) (w5 : BitVec 16) : Heap := [(1, .cells 30 [vL 1 eW 0#16 l7]), (2, .cells 30 [.nils]), (3, .cells 31 [.int .i64 i6]), (5, .cells 30 [.own 6000]), (6000, bL 49 1 eW 0#16 l8), (6001, .cells 49 [.b16 w5])]
abbrev f12z1 (r12 : Nat × List (BitVec 16) × Int × List (BitVec 16) × BitVec 16) : Heap := [(1, .cells 30 [vL 1 eW 0#16 r12.2.1]), (2, .cells 30 [.nils]), (3, .cells 31 [.int .i64 r12.2.2.1]), (5, .cells 30 [.own 6000]), (6000, bL 49 1 eW 0#16 r12.2.2.2.1), (6001, .cells 49 [.b16 r12.2.2.2.2])]
abbrev f12z2 (l7 : List (BitVec 16)) (i6 : Int) (l8 : List (BitVec 16)) (x9 : BitVec 16) (w5 : BitVec 16) : Heap := [(1, .cells 30 [vL 1 eW 0#16 l7]), (2, .cells 30 [.nils]), (3, .cells 31 [.int .i64 i6]), (5, .cells 30 [.own 6000]), (6000, bL 49 1 eW 0#16 (l8 ++ [x9])), (6001, .cells 49 [.b16 w5])]
abbrev f12z3 : List V := [.int .i64 (0 : Int)]
abbrev f12z4 (x1 : List (BitVec 16)) : Heap := [(1, .cells 30 [vL 1 eW 0#16 x1]), (2, .cells 30 [.nils]), (3, .cells 31 (f12z3))]
def f12 (x1 : List (BitVec 16)) : Option (Int × List (BitVec 16)) :=
  (f42 x1).bind fun (r2 : Int) =>
  if (r2 != (0 : Int)) then (
  some (r2, [])
  ) else (
  (f43 x1).bind fun (r3 : BitVec 16) =>
  (f28 r3).bind fun (r4 : BitVec 16) =>
  (f71a f12_Y70002 x1 (0 : Int) [] r4).bind fun (r12 : Nat × List (BitVec 16) × Int × List (BitVec 16) × BitVec 16) =>
  chk (r12.1 ≠ 1) <|
  if r12.1 = 0 then (
  some ((0 : Int), r12.2.2.2.1)
  ) else (
  if r12.1 = 2 then (
  some (r12.2.2.1, [])
  ) else (
  none
  )
  )
  )
set_option maxRecDepth 100000 in
theorem f12_ok  (x1 : List (BitVec 16)) (r : Int × List (BitVec 16)) (h : f12 x1 = some r)  : Spec1 Tryd.prog 12 [(0, .elem 32 1 T0F 0 0)] [] [] [vL 1 eW 0#16 x1] (.tup [.own 3000, .int .i64 r.1]) [(3000, bL 49 1 eW 0#16 r.2)] := by
  unfold f12 at h
  refine Spec1.bodyD [2, 3] 0 _ _ Tryd.func12 rfl Tryd.ntmps12 rfl rfl ?_
  refine q2rq [] [] ⟨33, [(1, .ptr 1 0), (2, .ptr 2 0), (3, .ptr 3 0), (1000000, .elem 32 1 T0F 0 0)], (f12z4 x1), [], 0⟩ trivial ?_
  refine AWp.seq ?_
  refine AWp.seq ?_
  obtain ⟨r2, hr2, h⟩ := bind_ok h
  refine q2rr [] [(1, ⟨[q2aW x1], [], [], [], .i r2, [], [], []⟩)] ⟨33, [(1, .ptr 1 0), (2, .ptr 2 0), (3, .ptr 3 0), (4, .i r2), (1000000, .elem 32 1 T0F 0 0)], (f12z4 x1), [], 0⟩ (an1 (cpT (f42_ok _ _ hr2))) ?_
  refine thenQ_normal ?_
  refine q2rq [] [] ⟨33, [(1, .ptr 1 0), (2, .ptr 2 0), (3, .ptr 3 0), (4, .i r2), (10, .bool (r2 != (0 : Int))), (1000000, .elem 32 1 T0F 0 0)], (f12z4 x1), [], 0⟩ trivial ?_
  refine AWp.cond (b := (r2 != (0 : Int))) (by kernel_rfl) (fun hc1 => ?_) (fun hc1 => ?_)
  ·
    replace h := ite_tb hc1 h
    refine q2rq [] [] ⟨33, [(2, .ptr 2 0), (3, .ptr 3 0), (1000000, .elem 32 1 T0F 0 0)], [(2, .cells 30 [.nils]), (3, .cells 31 [.i r2])], [], 0⟩ (an2 trivial trivial) ?_
    refine AWp.le (Le.trans (Le.nilOwnC 2 0 3000 49 1 (encF eW 0#16 []) rfl rfl rfl) (Le.mk (s' := ⟨33, [(2, .ptr 2 0), (3, .ptr 3 0), (1000000, .elem 32 1 T0F 0 0)], [(2, .cells 30 [.own 3000]), (3, .cells 31 [.i r2]), (3000, q2bW_49 [])], [], 0⟩) rfl rfl ⟨.refl _, .refl _, .refl _, trivial⟩ ⟨⟨_, rfl, .refl _⟩, ⟨_, rfl, .refl _⟩, ⟨_, rfl, .refl _⟩, trivial⟩)) ?_
    have hret := Option.some.inj h
    subst hret
    refine AWp.le (Le.mk (s' := ⟨33, [(2, .ptr 2 0), (3, .ptr 3 0)], [(3000, q2bW_49 []), (2, .cells 30 [.own 3000]), (3, .cells 31 [.i r2])], [], 0⟩) rfl rfl ⟨.refl _, .refl _, trivial⟩ ⟨⟨_, rfl, .refl _⟩, ⟨_, rfl, .refl _⟩, ⟨_, rfl, .refl _⟩, trivial⟩) ?_
    refine AWp.ret ?_
    refine thenQ_ret ?_
    exact bodyQ_ret _ rfl ⟨rfl, rfl⟩ rfl
  ·
    replace h := ite_fb hc1 h
    refine AWp.skip ?_
    refine thenQ_normal ?_
    refine q2rq [] [] ⟨33, [(1, .ptr 1 0), (2, .ptr 2 0), (3, .ptr 3 0), (5, .ptr 5 0), (1000000, .elem 32 1 T0F 0 0)], [(1, .cells 30 [q2aW x1]), (2, .cells 30 [.nils]), (3, .cells 31 (f12z3)), (5, .cells 30 [.nils])], [], 0⟩ trivial ?_
    refine AWp.seq ?_
    refine AWp.seq ?_
    obtain ⟨r3, hr3, h⟩ := bind_ok h
    obtain ⟨r4, hr4, h⟩ := bind_ok h
    refine q2rr [] [(1, ⟨[q2aW x1], [], [], [], .b16 r3, [], [], []⟩), (2, ⟨[.b16 r3], [], [], [(6001, .cells 49 [.b16 r4])], .fn (.func 71) [.ptr 6001 0], [6001], [], []⟩)] ⟨33, [(1, .ptr 1 0), (2, .ptr 2 0), (3, .ptr 3 0), (5, .ptr 5 0), (14, .fn (.func 71) [.ptr 6001 0]), (1000000, .elem 32 1 T0F 0 0)], [(1, .cells 30 [q2aW x1]), (2, .cells 30 [.nils]), (3, .cells 31 (f12z3)), (5, .cells 30 [.nils]), (6001, .cells 49 [.b16 r4])], [], 0⟩ (an2 (cpT (f43_ok _ _ hr3)) (cpT (Spec1.ren (swapN 3500 6001) (swapN_inv 3500 6001) rfl (f28_ok _ _ hr4)))) ?_
    refine thenQ_normal ?_
    refine AWp.block ?_
    refine AWp.le (Le.trans (Le.trans (Le.nilOwnC 5 0 6000 49 1 (encF eW 0#16 []) rfl rfl rfl) (Le.mk (s' := ⟨33, [(1, .ptr 1 0), (2, .ptr 2 0), (3, .ptr 3 0), (5, .ptr 5 0), (14, .fn (.func 71) [.ptr 6001 0]), (1000000, .elem 32 1 T0F 0 0)], [(1, .cells 30 [q2aW x1]), (2, .cells 30 [.nils]), (3, .cells 31 (f12z3)), (5, .cells 30 [.own 6000]), (6001, .cells 49 [.b16 r4]), (6000, q2bW_49 [])], [], 0⟩) rfl rfl ⟨.refl _, .refl _, .refl _, .refl _, .refl _, .refl _, trivial⟩ ⟨⟨_, rfl, .refl _⟩, ⟨_, rfl, .refl _⟩, ⟨_, rfl, .refl _⟩, ⟨_, rfl, .refl _⟩, ⟨_, rfl, .refl _⟩, ⟨_, rfl, .refl _⟩, trivial⟩)) (Le.mk (s' := ⟨33, [(1, .ptr 1 0), (2, .ptr 2 0), (3, .ptr 3 0), (5, .ptr 5 0), (14, .fn (.func 71) [.ptr 6001 0]), (1000000, .elem 32 1 T0F 0 0)], [(1, .cells 30 [q2aW x1]), (2, .cells 30 [.nils]), (3, .cells 31 (f12z3)), (5, .cells 30 [.own 6000]), (6000, q2bW_49 []), (6001, .cells 49 [.b16 r4])], [], 0⟩) rfl rfl ⟨.refl _, .refl _, .refl _, .refl _, .refl _, .refl _, trivial⟩ ⟨⟨_, rfl, .refl _⟩, ⟨_, rfl, .refl _⟩, ⟨_, rfl, .refl _⟩, ⟨_, rfl, .refl _⟩, ⟨_, rfl, .refl _⟩, ⟨_, rfl, .refl _⟩, trivial⟩)) ?_
    obtain ⟨r12, hr12, h⟩ := bind_ok h
    obtain ⟨hkr12, h⟩ := chk_some h
    refine AWp.rangeFunc (s := ⟨33, [(1, .ptr 1 0), (2, .ptr 2 0), (3, .ptr 3 0), (5, .ptr 5 0), (14, .fn (.func 71) [.ptr 6001 0]), (1000000, .elem 32 1 T0F 0 0)], [(1, .cells 30 [q2aW x1]), (2, .cells 30 [.nils]), (3, .cells 31 (f12z3)), (5, .cells 30 [.own 6000]), (6000, q2bW_49 []), (6001, .cells 49 [.b16 r4])], [], 0⟩) 70002 [1, 2, 3, 5] [1, 2, 3, 5, 1000000] [.ret] 71 [.ptr 6001 0] ⟨[.own 70002, .ptr 6001 0], [1, 2, 3, 5, 6000, 6001], [70002, 1, 2, 3, 5, 6001], [], .tup [], [6000], [], [0]⟩ r12.1 (f12z1 r12) ⟨33, [(1, .ptr 1 0), (2, .ptr 2 0), (3, .ptr 3 0), (5, .ptr 5 0), (14, .fn (.func 71) [.ptr 6001 0]), (1000000, .elem 32 1 T0F 0 0)], (f12z1 r12), [], 0⟩ rfl (by kernel_rfl) (by kernel_rfl) (fun g0 => ?_) (fun C => (by kernel_rfl)) (by kernel_rfl) (by kernel_rfl) (by kernel_rfl) (by kernel_rfl) hkr12 (by kernel_rfl) ?_ ?_
    ·
      refine ⟨fun _ => (f71a_ok _ f12_Y70002 x1 (0 : Int) [] r4 r12 hr12 ?_), fun _ => ⟨.refl _, .refl _, trivial⟩, .inl rfl⟩
      clear h
      rintro ⟨l7, i6, l8, w5⟩ x9 rY70002 h
      replace h := (f12_Y70002.eq_1 ..).symm.trans h
      refine YSpec.body 0 rfl (of_decide_eq_true (by kernel_rfl)) (of_decide_eq_true (by kernel_rfl)) (within_tget (by kernel_rfl)) (by kernel_rfl) (by kernel_rfl) (by kernel_rfl) (by kernel_rfl) ?_
      refine AWp.le (Le.mk (s' := ⟨33, [(15, .b16 x9), (1, .ptr 1 0), (2, .ptr 2 0), (3, .ptr 3 0), (5, .ptr 5 0), (1000000, .elem 32 1 T0F 0 0)], (f12z0 l7 i6 l8 w5), [1, 2, 3, 5, 6001], 0⟩) rfl rfl ⟨.refl _, .refl _, .refl _, .refl _, .refl _, .refl _, trivial⟩ ⟨⟨_, rfl, .refl _⟩, ⟨_, rfl, .refl _⟩, ⟨_, rfl, .refl _⟩, ⟨_, rfl, .refl _⟩, ⟨_, rfl, .refl _⟩, ⟨_, rfl, .refl _⟩, trivial⟩) ?_
      refine q2rr [] [] ⟨33, [(1, .ptr 1 0), (2, .ptr 2 0), (3, .ptr 3 0), (5, .ptr 5 0), (6, .b16 x9), (1000000, .elem 32 1 T0F 0 0)], (f12z0 l7 i6 l8 w5), [1, 2, 3, 5, 6001], 0⟩ trivial ?_
      refine ⟨rfl, rfl, ?_⟩
      refine AWp.block ?_
      refine AWp.seq ?_
      obtain ⟨r10, hr10, h⟩ := bind_ok h
      obtain ⟨r11, hr11, h⟩ := optc_some h
      have ob0 := idA (((!r10) == true) = true)
      have ob1 := idA (((!r10) == true) = true)
      have ob2 := bqA (!r10) true
      refine q2rr [] [(2, ⟨[q2aW l8, .b16 x9], [], [], [], .bool r10, [], [6000], []⟩), (7, ⟨[q2aW l7, .b16 x9], [], [], [], .bool r11, [], [], []⟩)] ⟨33, [(2, .ptr 2 0), (3, .ptr 3 0), (5, .ptr 5 0), (6, .b16 x9), (24, .bool ((!r10) && r11)), (1000000, .elem 32 1 T0F 0 0)], (f12z0 l7 i6 l8 w5), [1, 2, 3, 5, 6001], 0⟩ (an3 (cpL (c := true) [(6000, q2bW_49 l8)] [6000] [.own 6000, .b16 x9] (fun _ => (f31_ok _ _ _ hr10)) (fun _ => ⟨.refl _, .refl _, trivial⟩) (.inr ⟨rfl, trivial⟩)) (And.intro (cpC fun hc => (f44_ok _ _ _ (hr11 hc))) (an2 ob0 ob1)) ob2) ?_
      refine thenQ_normal ?_
      refine AWp.cond (b := ((!r10) && r11)) (by kernel_rfl) (fun hc2 => ?_) (fun hc2 => ?_)
      ·
        replace h := ite_tb hc2 h
        refine AWp.seq ?_
        obtain ⟨ob3, h⟩ := chk_some h
        refine q2rr [] [] ⟨33, [(2, .ptr 2 0), (3, .ptr 3 0), (5, .ptr 5 0), (1000000, .elem 32 1 T0F 0 0)], [(1, .cells 30 [q2aW l7]), (2, .cells 30 [.nils]), (3, .cells 31 [.i i6]), (5, .cells 30 [.own 6000]), (6000, .rows 49 1 ((l8).length + 1) (appF (l8).length (encF eW 0#16 l8) (lstF 1 [.b16 x9]))), (6001, .cells 49 [.b16 w5])], [1, 2, 3, 5, 6001], 0⟩ (an2 ob3 trivial) ?_
        refine thenQ_normal ?_
        refine AWp.le (Le.mk (s' := ⟨33, [(2, .ptr 2 0), (3, .ptr 3 0), (5, .ptr 5 0), (1000000, .elem 32 1 T0F 0 0)], (f12z2 l7 i6 l8 x9 w5), [1, 2, 3, 5, 6001], 0⟩) rfl rfl ⟨.refl _, .refl _, .refl _, .refl _, trivial⟩ ⟨⟨_, rfl, .refl _⟩, ⟨_, rfl, .refl _⟩, ⟨_, rfl, .refl _⟩, ⟨_, rfl, .refl _⟩, ⟨_, rfl, (BLe.of (RL.app (RL.self _) (RL.lst (enc := eW) [x9] rfl rfl (fun _ => rfl))))⟩, ⟨_, rfl, .refl _⟩, trivial⟩) ?_
        refine q2rq [] [] ⟨33, [(2, .ptr 2 0), (3, .ptr 3 0), (31, .bool (decide (((((l8 ++ [x9])).length : Nat) : Int) > (400 : Int)))), (1000000, .elem 32 1 T0F 0 0)], (f12z2 l7 i6 l8 x9 w5), [1, 2, 3, 5, 6001], 0⟩ trivial ?_
        refine AWp.cond (b := (decide (((((l8 ++ [x9])).length : Nat) : Int) > (400 : Int)))) (by kernel_rfl) (fun hc3 => ?_) (fun hc3 => ?_)
        ·
          replace h := ite_tb hc3 h
          refine q2rq [] [] ⟨33, [(1000000, .elem 32 1 T0F 0 0)], [(1, .cells 30 [q2aW l7]), (2, .cells 30 [.nils]), (3, .cells 31 [.i (3 : Int)]), (5, .cells 30 [.own 6000]), (6000, q2bW_49 (l8 ++ [x9])), (6001, .cells 49 [.b16 w5])], [1, 2, 3, 5, 6001], 0⟩ (an2 trivial trivial) ?_
          refine AWp.ret ?_
          refine blockQ_ret ?_
          have hret := Option.some.inj h
          subst hret
          exact ⟨_, (Le.mk (s' := ⟨33, [], [(1, .cells 30 [q2aW l7]), (2, .cells 30 [.nils]), (3, .cells 31 [.i (3 : Int)]), (5, .cells 30 [.own 6000]), (6000, q2bW_49 (l8 ++ [x9])), (6001, .cells 49 [.b16 w5])], [1, 2, 3, 5, 6001], 0⟩) rfl rfl trivial ⟨⟨_, rfl, .refl _⟩, ⟨_, rfl, .refl _⟩, ⟨_, rfl, .refl _⟩, ⟨_, rfl, .refl _⟩, ⟨_, rfl, .refl _⟩, ⟨_, rfl, .refl _⟩, trivial⟩), rfl, rfl, .inr ⟨0, _, rfl, rfl, .inl ⟨rfl, rfl⟩⟩⟩
        ·
          replace h := ite_fb hc3 h
          refine AWp.skip ?_
          refine blockQ_normal ?_
          have hret := Option.some.inj h
          subst hret
          exact ⟨_, (Le.mk (s' := ⟨33, [], (f12z2 l7 i6 l8 x9 w5), [1, 2, 3, 5, 6001], 0⟩) rfl rfl trivial ⟨⟨_, rfl, .refl _⟩, ⟨_, rfl, .refl _⟩, ⟨_, rfl, .refl _⟩, ⟨_, rfl, .refl _⟩, ⟨_, rfl, .refl _⟩, ⟨_, rfl, .refl _⟩, trivial⟩), rfl, rfl, .inl ⟨rfl, rfl⟩⟩
      ·
        replace h := ite_fb hc2 h
        refine AWp.skip ?_
        refine blockQ_normal ?_
        have hret := Option.some.inj h
        subst hret
        exact ⟨_, (Le.mk (s' := ⟨33, [], (f12z0 l7 i6 l8 w5), [1, 2, 3, 5, 6001], 0⟩) rfl rfl trivial ⟨⟨_, rfl, .refl _⟩, ⟨_, rfl, .refl _⟩, ⟨_, rfl, .refl _⟩, ⟨_, rfl, .refl _⟩, ⟨_, rfl, .refl _⟩, ⟨_, rfl, .refl _⟩, trivial⟩), rfl, rfl, .inl ⟨rfl, rfl⟩⟩
    ·
      intro hk0
      replace h := ite_t hk0 h
      refine blockQ_normal ?_
      refine thenQ_normal ?_
      refine q2rq [] [] ⟨33, [(2, .ptr 2 0), (3, .ptr 3 0), (1000000, .elem 32 1 T0F 0 0)], [(2, .cells 30 [.own 6000]), (3, .cells 31 (f12z3)), (6000, q2bW_49 r12.2.2.2.1)], [], 0⟩ (an2 trivial trivial) ?_
      refine AWp.le (Le.trans (Le.ren (swapN 6000 3000) (swapN_inv 6000 3000) rfl) (Le.mk (s' := ⟨33, [(2, .ptr 2 0), (3, .ptr 3 0), (1000000, .elem 32 1 T0F 0 0)], [(2, .cells 30 [.own 3000]), (3, .cells 31 (f12z3)), (3000, q2bW_49 r12.2.2.2.1)], [], 0⟩) rfl rfl ⟨.refl _, .refl _, .refl _, trivial⟩ ⟨⟨_, rfl, .refl _⟩, ⟨_, rfl, .refl _⟩, ⟨_, rfl, .refl _⟩, trivial⟩)) ?_
      have hret := Option.some.inj h
      subst hret
      refine AWp.le (Le.mk (s' := ⟨33, [(2, .ptr 2 0), (3, .ptr 3 0)], [(3000, q2bW_49 r12.2.2.2.1), (2, .cells 30 [.own 3000]), (3, .cells 31 (f12z3))], [], 0⟩) rfl rfl ⟨.refl _, .refl _, trivial⟩ ⟨⟨_, rfl, .refl _⟩, ⟨_, rfl, .refl _⟩, ⟨_, rfl, .refl _⟩, trivial⟩) ?_
      refine AWp.ret ?_
      exact bodyQ_ret _ rfl ⟨rfl, rfl⟩ rfl
    ·
      intro j hkj
      replace h := ite_f (by omega) h
      cases j with
      | zero =>
        replace h := ite_t (by omega) h
        refine ⟨_, rfl, ?_⟩
        refine AWp.le (Le.trans (Le.nilOwnC 2 0 3000 49 1 (encF eW 0#16 []) rfl rfl rfl) (Le.mk (s' := ⟨33, [(1, .ptr 1 0), (2, .ptr 2 0), (3, .ptr 3 0), (5, .ptr 5 0), (14, .fn (.func 71) [.ptr 6001 0]), (1000000, .elem 32 1 T0F 0 0)], [(1, .cells 30 [q2aW r12.2.1]), (2, .cells 30 [.own 3000]), (3, .cells 31 [.i r12.2.2.1]), (5, .cells 30 [.own 6000]), (6000, q2bW_49 r12.2.2.2.1), (6001, .cells 49 [.b16 r12.2.2.2.2]), (3000, q2bW_49 [])], [], 0⟩) rfl rfl ⟨.refl _, .refl _, .refl _, .refl _, .refl _, .refl _, trivial⟩ ⟨⟨_, rfl, .refl _⟩, ⟨_, rfl, .refl _⟩, ⟨_, rfl, .refl _⟩, ⟨_, rfl, .refl _⟩, ⟨_, rfl, .refl _⟩, ⟨_, rfl, .refl _⟩, ⟨_, rfl, .refl _⟩, trivial⟩)) ?_
        have hret := Option.some.inj h
        subst hret
        refine AWp.le (Le.mk (s' := ⟨33, [(2, .ptr 2 0), (3, .ptr 3 0)], [(3000, q2bW_49 []), (2, .cells 30 [.own 3000]), (3, .cells 31 [.i r12.2.2.1])], [], 0⟩) rfl rfl ⟨.refl _, .refl _, trivial⟩ ⟨⟨_, rfl, .refl _⟩, ⟨_, rfl, .refl _⟩, ⟨_, rfl, .refl _⟩, trivial⟩) ?_
        refine AWp.ret ?_
        refine blockQ_ret ?_
        refine thenQ_ret ?_
        exact bodyQ_ret _ rfl ⟨rfl, rfl⟩ rfl
      | succ j =>
      replace h := ite_f (by omega) h
      exact nomatch (show (none : Option (Int × List (BitVec 16))) = some r from h)
def f56_L0 (x1 : List (BitVec 16)) (x2 : List (BitVec 16)) (K1 : Unit → Option Bool) : Nat → Nat → Option Bool
  | 0, _ => none
  | k + 1, n3 =>
    if (decide ((n3 : Int) < (((x1).length : Nat) : Int))) then (
    chk ((n3 : Int) < (((x1).length : Nat) : Int)) <|
    chk ((n3 : Int) < (((x2).length : Nat) : Int)) <|
    if (!((x1.getD n3 0#16) == (x2.getD n3 0#16))) then (
    some false
    ) else (
    chk (((n3 : Int) + (1 : Int)) ≤ 9223372036854775807) <|
    (f56_L0 x1 x2 K1 k) (n3 + 1)
    )
    ) else (
    K1 ()
    )
def f56 (x1 : List (BitVec 16)) (x2 : List (BitVec 16)) : Option Bool :=
  if ((((x1).length : Nat) : Int) != (((x2).length : Nat) : Int)) then (
  some false
  ) else (
  jn (fun (_ : Unit) =>
  some true
  ) fun (K1 : Unit → Option Bool) =>
  f56_L0 x1 x2 K1 FUEL 0
  )
set_option maxRecDepth 100000 in
theorem f56_ok  (x1 : List (BitVec 16)) (x2 : List (BitVec 16)) (r : Bool) (h : f56 x1 x2 = some r)  : Spec1 Tryd.prog 56 [] [] [] [vL 1 eW 0#16 x1, vL 1 eW 0#16 x2] (.bool r) [] := by
  unfold f56 at h
  refine Spec1.body 0 _ _ Tryd.func56 rfl Tryd.ntmps56 rfl rfl ?_
  refine q2rq [] [] ⟨26, [(0, q2aW x1), (1, q2aW x2)], [], [], 0⟩ trivial ?_
  refine AWp.seq ?_
  refine q2rq [] [] ⟨26, [(0, q2aW x1), (1, q2aW x2), (10, .bool ((lZ x1) != (lZ x2)))], [], [], 0⟩ trivial ?_
  refine AWp.cond (b := ((lZ x1) != (lZ x2))) (by kernel_rfl) (fun hc1 => ?_) (fun hc1 => ?_)
  ·
    replace h := ite_tb hc1 h
    refine q2rq [] [] ⟨26, [(4, .bool false)], [], [], 0⟩ trivial ?_
    have hret := Option.some.inj h
    subst hret
    refine AWp.le (Le.mk (s' := ⟨26, [(4, .bool false)], [], [], 0⟩) rfl rfl ⟨.refl _, trivial⟩ trivial) ?_
    refine AWp.ret ?_
    refine thenQ_ret ?_
    exact bodyQ_ret _ rfl ⟨rfl, rfl⟩ rfl
  ·
    replace h := ite_fb hc1 h
    refine AWp.skip ?_
    refine thenQ_normal ?_
    obtain ⟨K1, hK1, h⟩ := jn_some h
    refine AWp.join (α := Unit) (fun (x : Unit) => match x with | () => ⟨26, [], [], [], 0⟩) (fun x => K1 x = some r) ?_ ?_
    ·
      refine q2rq [] [] ⟨26, [(0, q2aW x1), (1, q2aW x2), (12, .i (lZ x1)), (13, .i (0 : Int))], [], [], 0⟩ trivial ?_
      refine AWp.block ?_
      refine AWp.loopL (α := Nat × Nat) (fun x => match x with | (_, n3) => ⟨26, [(0, q2aW x1), (1, q2aW x2), (12, .i (lZ x1)), (13, .i (n3 : Int))], [], [], 0⟩) (fun x => f56_L0 x1 x2 K1 x.1 x.2 = some r) (fun x => x.1) (FUEL, 0) (Le.mk (s' := ⟨26, [(0, q2aW x1), (1, q2aW x2), (12, .i (lZ x1)), (13, .i (0 : Int))], [], [], 0⟩) rfl rfl ⟨.refl _, .refl _, .refl _, .refl _, trivial⟩ trivial) h ?_
      rintro ⟨k0, n3⟩ h
      cases k0 with
      | zero => exact nomatch (show (none : Option Bool) = some r from h)
      | succ k0 =>
      obtain ⟨C0, hC0⟩ : ∃ C, C = f56_L0 x1 x2 K1 k0 := ⟨_, rfl⟩
      replace h := (f56_L0.eq_2 ..).symm.trans h
      try rw [← hC0] at h
      refine q2rq [] [] ⟨26, [(0, q2aW x1), (1, q2aW x2), (12, .i (lZ x1)), (13, .i (n3 : Int)), (14, .bool (decide ((n3 : Int) < (lZ x1))))], [], [], 0⟩ trivial ?_
      refine AWp.seq ?_
      refine AWp.cond (b := (decide ((n3 : Int) < (lZ x1)))) (by kernel_rfl) (fun hc2 => ?_) (fun hc2 => ?_)
      ·
        replace h := ite_tb hc2 h
        refine AWp.skip ?_
        refine thenQ_normal ?_
        refine AWp.seq ?_
        refine AWp.block ?_
        refine q2rq [] [] ⟨26, [(0, q2aW x1), (1, q2aW x2), (5, .i (n3 : Int)), (12, .i (lZ x1)), (13, .i (n3 : Int))], [], [], 0⟩ trivial ?_
        refine AWp.seq ?_
        obtain ⟨ob0p, h⟩ := chk_some h
        have ob0 : 0 ≤ (n3 : Int) ∧ (n3 : Int) < (((x1).length : Nat) : Int) := ⟨by omega, ob0p⟩
        obtain ⟨ob1p, h⟩ := chk_some h
        have ob1 : 0 ≤ (n3 : Int) ∧ (n3 : Int) < (((x2).length : Nat) : Int) := ⟨by omega, ob1p⟩
        refine q2rr [] [] ⟨26, [(0, q2aW x1), (1, q2aW x2), (12, .i (lZ x1)), (13, .i (n3 : Int)), (24, .bool (!((x1.getD n3 0#16) == (x2.getD n3 0#16))))], [], [], 0⟩ (an2 ob0 ob1) ?_
        refine thenQ_normal ?_
        refine AWp.cond (b := (!((x1.getD n3 0#16) == (x2.getD n3 0#16)))) (by kernel_rfl) (fun hc3 => ?_) (fun hc3 => ?_)
        ·
          replace h := ite_tb hc3 h
          refine q2rq [] [] ⟨26, [(4, .bool false)], [], [], 0⟩ trivial ?_
          have hret := Option.some.inj h
          subst hret
          refine AWp.le (Le.mk (s' := ⟨26, [(4, .bool false)], [], [], 0⟩) rfl rfl ⟨.refl _, trivial⟩ trivial) ?_
          refine AWp.ret ?_
          refine blockQ_ret ?_
          refine thenQ_ret ?_
          refine thenQ_ret ?_
          refine blockQ_ret ?_
          refine joinQ_ret ?_
          exact bodyQ_ret _ rfl ⟨rfl, rfl⟩ rfl
        ·
          replace h := ite_fb hc3 h
          refine AWp.skip ?_
          refine blockQ_normal ?_
          refine thenQ_normal ?_
          obtain ⟨ob2p, h⟩ := chk_some h
          have ob2 : -9223372036854775808 ≤ ((n3 : Int) + (1 : Int)) ∧ ((n3 : Int) + (1 : Int)) ≤ 9223372036854775807 := ⟨by omega, ob2p⟩
          refine q2rr [] [] ⟨26, [(0, q2aW x1), (1, q2aW x2), (12, .i (lZ x1)), (13, .i (((n3 + 1) : Nat) : Int))], [], [], 0⟩ (an1 ob2) ?_
          rw [hC0] at h
          exact loopQ_normal (_, (n3 + 1)) (Le.mk rfl rfl ⟨.refl _, .refl _, .refl _, .refl _, trivial⟩ trivial) h (Nat.lt_succ_self _)
      ·
        replace h := ite_fb hc2 h
        refine AWp.exit ?_
        refine thenQ_exit ?_
        refine thenQ_exit ?_
        refine blockQ_same ?_
        exact joinQ_normal () (Le.mk rfl rfl trivial trivial) h
    ·
      rintro ⟨⟩ h
      replace h := (congrFun hK1 _).symm.trans h
      refine q2rq [] [] ⟨26, [(4, .bool true)], [], [], 0⟩ trivial ?_
      have hret := Option.some.inj h
      subst hret
      refine AWp.le (Le.mk (s' := ⟨26, [(4, .bool true)], [], [], 0⟩) rfl rfl ⟨.refl _, trivial⟩ trivial) ?_
      refine AWp.ret ?_
      exact bodyQ_ret _ rfl ⟨rfl, rfl⟩ rfl
def f19 (x1 : List (BitVec 16)) (x2 : List (BitVec 16)) : Option Bool :=
  (f12 x1).bind fun (r3 : Int × List (BitVec 16)) =>
  optc ((r3.1 == (0 : Int)) == true) (f56 r3.2 x2) fun (r4 : Bool) =>
  some ((r3.1 == (0 : Int)) && r4)
set_option maxRecDepth 100000 in
theorem f19_ok  (x1 : List (BitVec 16)) (x2 : List (BitVec 16)) (r : Bool) (h : f19 x1 x2 = some r)  : Spec1 Tryd.prog 19 [(0, .elem 32 1 T0F 0 0)] [] [] [vL 1 eW 0#16 x1, vL 1 eW 0#16 x2] (.bool r) [] := by
  unfold f19 at h
  refine Spec1.body 0 _ _ Tryd.func19 rfl Tryd.ntmps19 rfl rfl ?_
  refine q2rq [] [] ⟨19, [(0, q2aW x1), (1, q2aW x2), (1000000, .elem 32 1 T0F 0 0)], [], [], 0⟩ trivial ?_
  refine AWp.seq ?_
  obtain ⟨r3, hr3, h⟩ := bind_ok h
  refine q2rr [] [(1, ⟨[q2aW x1], [], [], [(6001, q2bW_49 r3.2)], .tup [.own 6001, .i r3.1], [6001], [], [0]⟩)] ⟨19, [(1, q2aW x2), (5, .own 6001), (6, .i r3.1), (1000000, .elem 32 1 T0F 0 0)], [(6001, q2bW_49 r3.2)], [], 0⟩ (an1 (cpT (Spec1.ren (swapN 3000 6001) (swapN_inv 3000 6001) rfl (f12_ok _ _ hr3)))) ?_
  refine thenQ_normal ?_
  refine AWp.seq ?_
  obtain ⟨r4, hr4, h⟩ := optc_some h
  have ob0 := idA (((r3.1 == (0 : Int)) == true) = true)
  have ob1 := idA (((r3.1 == (0 : Int)) == true) = true)
  have ob2 := bqA (r3.1 == (0 : Int)) true
  refine q2rr [] [(5, ⟨[q2aW r3.2, q2aW x2], [], [], [], .bool r4, [], [6001], []⟩)] ⟨19, [(4, .bool ((r3.1 == (0 : Int)) && r4)), (1000000, .elem 32 1 T0F 0 0)], [], [], 0⟩ (an2 (And.intro (cpL [(6001, q2bW_49 r3.2)] [6001] [.own 6001, q2aW x2] (fun hc => (f56_ok _ _ _ (hr4 hc))) (fun _ => ⟨.refl _, .refl _, trivial⟩) (.inr ⟨rfl, trivial⟩)) (an2 ob0 ob1)) ob2) ?_
  refine thenQ_normal ?_
  have hret := Option.some.inj h
  subst hret
  refine AWp.le (Le.mk (s' := ⟨19, [(4, .bool ((r3.1 == (0 : Int)) && r4))], [], [], 0⟩) rfl rfl ⟨.refl _, trivial⟩ trivial) ?_
  refine AWp.ret ?_
  exact bodyQ_ret _ rfl ⟨rfl, rfl⟩ rfl
def f58 (x1 : Int) : Option Bool :=
  some (decide (x1 < (1 : Int)))
set_option maxRecDepth 100000 in
theorem f58_ok  (x1 : Int) (r : Bool) (h : f58 x1 = some r)  : Spec1 Tryd.prog 58 [] [] [] [.int .i64 x1] (.bool r) [] := by
  unfold f58 at h
  refine Spec1.body 0 _ _ Tryd.func58 rfl Tryd.ntmps58 rfl rfl ?_
  refine q2rq [] [] ⟨5, [(0, .i x1)], [], [], 0⟩ trivial ?_
  refine q2rq [] [] ⟨5, [(2, .bool (decide (x1 < (1 : Int))))], [], [], 0⟩ trivial ?_
  have hret := Option.some.inj h
  subst hret
  refine AWp.le (Le.mk (s' := ⟨5, [(2, .bool (decide (x1 < (1 : Int))))], [], [], 0⟩) rfl rfl ⟨.refl _, trivial⟩ trivial) ?_
  refine AWp.ret ?_
  exact bodyQ_ret _ rfl ⟨rfl, rfl⟩ rfl
def f89b_L0 (x1 : List Int) (K1 : Unit → Option Int) : Nat → Nat → Option Int
  | 0, _ => none
  | k + 1, n2 =>
    if (decide ((n2 : Int) < (((x1).length : Nat) : Int))) then (
    (f58 (x1.getD n2 0)).bind fun (r3 : Bool) =>
    chk ((n2 : Int) < (((x1).length : Nat) : Int)) <|
    if r3 then (
    some (n2 : Int)
    ) else (
    chk (((n2 : Int) + (1 : Int)) ≤ 9223372036854775807) <|
    (f89b_L0 x1 K1 k) (n2 + 1)
    )
    ) else (
    K1 ()
    )
def f89b (x1 : List Int) : Option Int :=
  jn (fun (_ : Unit) =>
  some (-1 : Int)
  ) fun (K1 : Unit → Option Int) =>
  f89b_L0 x1 K1 FUEL 0
set_option maxRecDepth 100000 in
theorem f89b_ok  (x1 : List Int) (r : Int) (h : f89b x1 = some r)  : Spec1 Tryd.prog 89 [] [] [] [vL 1 eI 0 x1, .fn (.func 58) []] (.int .i64 r) [] := by
  unfold f89b at h
  refine Spec1.body 0 _ _ Tryd.func89 rfl Tryd.ntmps89 rfl rfl ?_
  refine q2rq [] [] ⟨19, [(0, q2aI x1), (1, .fn (.func 58) [])], [], [], 0⟩ trivial ?_
  obtain ⟨K1, hK1, h⟩ := jn_some h
  refine AWp.join (α := Unit) (fun (x : Unit) => match x with | () => ⟨19, [], [], [], 0⟩) (fun x => K1 x = some r) ?_ ?_
  ·
    refine q2rq [] [] ⟨19, [(0, q2aI x1), (1, .fn (.func 58) []), (7, .i (lZ x1)), (8, .i (0 : Int))], [], [], 0⟩ trivial ?_
    refine AWp.block ?_
    refine AWp.loopL (α := Nat × Nat) (fun x => match x with | (_, n2) => ⟨19, [(0, q2aI x1), (1, .fn (.func 58) []), (7, .i (lZ x1)), (8, .i (n2 : Int))], [], [], 0⟩) (fun x => f89b_L0 x1 K1 x.1 x.2 = some r) (fun x => x.1) (FUEL, 0) (Le.mk (s' := ⟨19, [(0, q2aI x1), (1, .fn (.func 58) []), (7, .i (lZ x1)), (8, .i (0 : Int))], [], [], 0⟩) rfl rfl ⟨.refl _, .refl _, .refl _, .refl _, trivial⟩ trivial) h ?_
    rintro ⟨k0, n2⟩ h
    cases k0 with
    | zero => exact nomatch (show (none : Option Int) = some r from h)
    | succ k0 =>
    obtain ⟨C0, hC0⟩ : ∃ C, C = f89b_L0 x1 K1 k0 := ⟨_, rfl⟩
    replace h := (f89b_L0.eq_2 ..).symm.trans h
    try rw [← hC0] at h
    refine q2rq [] [] ⟨19, [(0, q2aI x1), (1, .fn (.func 58) []), (7, .i (lZ x1)), (8, .i (n2 : Int)), (9, .bool (decide ((n2 : Int) < (lZ x1))))], [], [], 0⟩ trivial ?_
    refine AWp.seq ?_
    refine AWp.cond (b := (decide ((n2 : Int) < (lZ x1)))) (by kernel_rfl) (fun hc1 => ?_) (fun hc1 => ?_)
    ·
      replace h := ite_tb hc1 h
      refine AWp.skip ?_
      refine thenQ_normal ?_
      refine AWp.seq ?_
      refine AWp.block ?_
      refine q2rq [] [] ⟨19, [(0, q2aI x1), (1, .fn (.func 58) []), (5, .i (n2 : Int)), (7, .i (lZ x1)), (8, .i (n2 : Int))], [], [], 0⟩ trivial ?_
      refine AWp.seq ?_
      obtain ⟨r3, hr3, h⟩ := bind_ok h
      obtain ⟨ob0p, h⟩ := chk_some h
      have ob0 : 0 ≤ (n2 : Int) ∧ (n2 : Int) < (((x1).length : Nat) : Int) := ⟨by omega, ob0p⟩
      refine q2rr [] [(5, ⟨[.i (x1.getD n2 0)], [], [], [], .bool r3, [], [], []⟩)] ⟨19, [(0, q2aI x1), (1, .fn (.func 58) []), (5, .i (n2 : Int)), (7, .i (lZ x1)), (8, .i (n2 : Int)), (16, .bool r3)], [], [], 0⟩ (an2 ob0 (cpT (f58_ok _ _ hr3))) ?_
      refine thenQ_normal ?_
      refine AWp.cond (b := r3) (by kernel_rfl) (fun hc2 => ?_) (fun hc2 => ?_)
      ·
        replace h := ite_tb hc2 h
        refine q2rq [] [] ⟨19, [(4, .i (n2 : Int))], [], [], 0⟩ trivial ?_
        have hret := Option.some.inj h
        subst hret
        refine AWp.le (Le.mk (s' := ⟨19, [(4, .i (n2 : Int))], [], [], 0⟩) rfl rfl ⟨.refl _, trivial⟩ trivial) ?_
        refine AWp.ret ?_
        refine blockQ_ret ?_
        refine thenQ_ret ?_
        refine thenQ_ret ?_
        refine blockQ_ret ?_
        refine joinQ_ret ?_
        exact bodyQ_ret _ rfl ⟨rfl, rfl⟩ rfl
      ·
        replace h := ite_fb hc2 h
        refine AWp.skip ?_
        refine blockQ_normal ?_
        refine thenQ_normal ?_
        obtain ⟨ob1p, h⟩ := chk_some h
        have ob1 : -9223372036854775808 ≤ ((n2 : Int) + (1 : Int)) ∧ ((n2 : Int) + (1 : Int)) ≤ 9223372036854775807 := ⟨by omega, ob1p⟩
        refine q2rr [] [] ⟨19, [(0, q2aI x1), (1, .fn (.func 58) []), (7, .i (lZ x1)), (8, .i (((n2 + 1) : Nat) : Int))], [], [], 0⟩ (an1 ob1) ?_
        rw [hC0] at h
        exact loopQ_normal (_, (n2 + 1)) (Le.mk rfl rfl ⟨.refl _, .refl _, .refl _, .refl _, trivial⟩ trivial) h (Nat.lt_succ_self _)
    ·
      replace h := ite_fb hc1 h
      refine AWp.exit ?_
      refine thenQ_exit ?_
      refine thenQ_exit ?_
      refine blockQ_same ?_
      exact joinQ_normal () (Le.mk rfl rfl trivial trivial) h
  ·
    rintro ⟨⟩ h
    replace h := (congrFun hK1 _).symm.trans h
    refine q2rq [] [] ⟨19, [(4, .i (-1 : Int))], [], [], 0⟩ trivial ?_
    have hret := Option.some.inj h
    subst hret
    refine AWp.le (Le.mk (s' := ⟨19, [(4, .i (-1 : Int))], [], [], 0⟩) rfl rfl ⟨.refl _, trivial⟩ trivial) ?_
    refine AWp.ret ?_
    exact bodyQ_ret _ rfl ⟨rfl, rfl⟩ rfl
def f57b (x1 : List Int) : Option Bool :=
  (f89b x1).bind fun (r2 : Int) =>
  some (decide (r2 ≥ (0 : Int)))
set_option maxRecDepth 100000 in
theorem f57b_ok  (x1 : List Int) (r : Bool) (h : f57b x1 = some r)  : Spec1 Tryd.prog 57 [] [] [] [vL 1 eI 0 x1, .fn (.func 58) []] (.bool r) [] := by
  unfold f57b at h
  refine Spec1.body 0 _ _ Tryd.func57 rfl Tryd.ntmps57 rfl rfl ?_
  refine q2rq [] [] ⟨9, [(0, q2aI x1), (1, .fn (.func 58) [])], [], [], 0⟩ trivial ?_
  refine AWp.seq ?_
  obtain ⟨r2, hr2, h⟩ := bind_ok h
  refine q2rr [] [(2, ⟨[q2aI x1, .fn (.func 58) []], [], [], [], .i r2, [], [], []⟩)] ⟨9, [(4, .bool (decide (r2 ≥ (0 : Int))))], [], [], 0⟩ (an1 (cpT (f89b_ok _ _ hr2))) ?_
  refine thenQ_normal ?_
  have hret := Option.some.inj h
  subst hret
  refine AWp.le (Le.mk (s' := ⟨9, [(4, .bool (decide (r2 ≥ (0 : Int))))], [], [], 0⟩) rfl rfl ⟨.refl _, trivial⟩ trivial) ?_
  refine AWp.ret ?_
  exact bodyQ_ret _ rfl ⟨rfl, rfl⟩ rfl
abbrev f59z0 (r2 : (List (Int × Int × Int × List Int × List Int)) × Int) : List V := [vL 5 eT67 (default : Int × Int × Int × List Int × List Int) r2.1, .int .i64 r2.2]
abbrev f59z1 := (List (Int × Int × Int × List Int × List Int))
def f59 (x1 : List ((List (Int × Int × Int × List Int × List Int)) × Int)) : Option ((List (Int × Int × Int × List Int × List Int)) × Int) :=
  (f48 (((x1).length : Nat) : Int) x1 []).bind fun (r2 : (List (Int × Int × Int × List Int × List Int)) × Int) =>
  some (r2.1, r2.2)
set_option maxRecDepth 100000 in
theorem f59_ok  (x1 : List ((List (Int × Int × Int × List Int × List Int)) × Int)) (r : (List (Int × Int × Int × List Int × List Int)) × Int) (h : f59 x1 = some r)  : Spec1 Tryd.prog 59 [] [] [] [vL 2 eLT67JI (default : (List (Int × Int × Int × List Int × List Int)) × Int) x1] (.agg [vL 5 eT67 (default : Int × Int × Int × List Int × List Int) r.1, .int .i64 r.2]) [] := by
  unfold f59 at h
  refine Spec1.bodyD [2] 0 _ _ Tryd.func59 rfl Tryd.ntmps59 rfl rfl ?_
  refine q2rq [] [] ⟨7, [(0, vL 2 eLT67JI (default : (f59z1) × Int) x1), (2, .ptr 2 0)], [(2, .cells 28 [.nils, .i (0 : Int)])], [], 0⟩ trivial ?_
  refine AWp.seq ?_
  obtain ⟨r2, hr2, h⟩ := bind_ok h
  refine q2rr [] [(3, ⟨[.i (lZ x1), vL 2 eLT67JI (default : (f59z1) × Int) x1, q2aI []], [], [], [], .agg (f59z0 r2), [], [], []⟩)] ⟨7, [(2, .ptr 2 0)], [(2, .cells 28 (f59z0 r2))], [], 0⟩ (an2 (cpL (c := true) [] [] [.i (lZ x1), vL 2 eLT67JI (default : (f59z1) × Int) x1, .nils] (fun _ => (f48_ok _ _ _ _ hr2)) (fun _ => ⟨.refl _, .refl _, .nilL, trivial⟩) (.inl rfl)) trivial) ?_
  refine thenQ_normal ?_
  have hret := Option.some.inj h
  subst hret
  refine AWp.le (Le.mk (s' := ⟨7, [(2, .ptr 2 0)], [(2, .cells 28 (f59z0 r2))], [], 0⟩) rfl rfl ⟨.refl _, trivial⟩ ⟨⟨_, rfl, .refl _⟩, trivial⟩) ?_
  refine AWp.ret ?_
  exact bodyQ_ret _ rfl ⟨rfl, rfl⟩ rfl
abbrev f60z0 (r2 : (List (Int × Int × Int × List Int × List Int)) × Int) : List V := [vL 5 eT67 (default : Int × Int × Int × List Int × List Int) r2.1, .int .i64 r2.2]
abbrev f60z1 := (List (Int × Int × Int × List Int × List Int))
def f60 (x1 : List ((List (Int × Int × Int × List Int × List Int)) × Int)) : Option ((List (Int × Int × Int × List Int × List Int)) × Int) :=
  (f48 (1 : Int) x1 []).bind fun (r2 : (List (Int × Int × Int × List Int × List Int)) × Int) =>
  some (r2.1, r2.2)
set_option maxRecDepth 100000 in
theorem f60_ok  (x1 : List ((List (Int × Int × Int × List Int × List Int)) × Int)) (r : (List (Int × Int × Int × List Int × List Int)) × Int) (h : f60 x1 = some r)  : Spec1 Tryd.prog 60 [] [] [] [vL 2 eLT67JI (default : (List (Int × Int × Int × List Int × List Int)) × Int) x1] (.agg [vL 5 eT67 (default : Int × Int × Int × List Int × List Int) r.1, .int .i64 r.2]) [] := by
  unfold f60 at h
  refine Spec1.bodyD [2] 0 _ _ Tryd.func60 rfl Tryd.ntmps60 rfl rfl ?_
  refine q2rq [] [] ⟨5, [(0, vL 2 eLT67JI (default : (f60z1) × Int) x1), (2, .ptr 2 0)], [(2, .cells 28 [.nils, .i (0 : Int)])], [], 0⟩ trivial ?_
  refine AWp.seq ?_
  obtain ⟨r2, hr2, h⟩ := bind_ok h
  refine q2rr [] [(1, ⟨[.i (1 : Int), vL 2 eLT67JI (default : (f60z1) × Int) x1, q2aI []], [], [], [], .agg (f60z0 r2), [], [], []⟩)] ⟨5, [(2, .ptr 2 0)], [(2, .cells 28 (f60z0 r2))], [], 0⟩ (an2 (cpL (c := true) [] [] [.i (1 : Int), vL 2 eLT67JI (default : (f60z1) × Int) x1, .nils] (fun _ => (f48_ok _ _ _ _ hr2)) (fun _ => ⟨.refl _, .refl _, .nilL, trivial⟩) (.inl rfl)) trivial) ?_
  refine thenQ_normal ?_
  have hret := Option.some.inj h
  subst hret
  refine AWp.le (Le.mk (s' := ⟨5, [(2, .ptr 2 0)], [(2, .cells 28 (f60z0 r2))], [], 0⟩) rfl rfl ⟨.refl _, trivial⟩ ⟨⟨_, rfl, .refl _⟩, trivial⟩) ?_
  refine AWp.ret ?_
  exact bodyQ_ret _ rfl ⟨rfl, rfl⟩ rfl
def f20_L0 (x1 : List Int) (K1 : (List (List ((List (Int × Int × Int × List Int × List Int)) × Int))) → Option ((List (Int × Int × Int × List Int × List Int)) × Int × Int)) : Nat → (Int × Nat × (List (List ((List (Int × Int × Int × List Int × List Int)) × Int)))) → Option ((List (Int × Int × Int × List Int × List Int)) × Int × Int)
  | 0, _ => none
  | k + 1, (i3, n4, l5) =>
    if (decide ((n4 : Int) < (((x1).length : Nat) : Int))) then (
    chk ((n4 : Int) < (((x1).length : Nat) : Int)) <|
    chk (-9223372036854775808 ≤ ((12 : Int) - i3) ∧ ((12 : Int) - i3) ≤ 9223372036854775807) <|
    if (decide ((x1.getD n4 0) > ((12 : Int) - i3))) then (
    some ([], (0 : Int), (3 : Int))
    ) else (
    (f50 i3 (x1.getD n4 0)).bind fun (r6 : List Int) =>
    (f49 r6).bind fun (r7 : List ((List (Int × Int × Int × List Int × List Int)) × Int)) =>
    chk (((l5).length + 1) * 24 ≤ 140737488355328) <|
    chk (-9223372036854775808 ≤ (i3 + (x1.getD n4 0)) ∧ (i3 + (x1.getD n4 0)) ≤ 9223372036854775807) <|
    chk (((n4 : Int) + (1 : Int)) ≤ 9223372036854775807) <|
    (f20_L0 x1 K1 k) ((i3 + (x1.getD n4 0)), (n4 + 1), (l5 ++ [r7]))
    )
    ) else (
    K1 l5
    )
def f20_L2 (l9 : List (List ((List (Int × Int × Int × List Int × List Int)) × Int))) (n11 : Nat) (K3 : (List ((List (Int × Int × Int × List Int × List Int)) × Int)) → Option ((List (Int × Int × Int × List Int × List Int)) × Int × Int)) : Nat → (Nat × (List ((List (Int × Int × Int × List Int × List Int)) × Int))) → Option ((List (Int × Int × Int × List Int × List Int)) × Int × Int)
  | 0, _ => none
  | k + 1, (n14, l15) =>
    if (decide ((n14 : Int) < ((((l9).length - (n11 + 1)) : Nat) : Int))) then (
    chk ((n14 : Int) < ((((l9.drop (n11 + 1))).length : Nat) : Int)) <|
    (f60 ((l9.drop (n11 + 1)).getD n14 [])).bind fun (r16 : (List (Int × Int × Int × List Int × List Int)) × Int) =>
    chk (((l15).length + 1) * 32 ≤ 140737488355328) <|
    chk (((n14 : Int) + (1 : Int)) ≤ 9223372036854775807) <|
    (f20_L2 l9 n11 K3 k) ((n14 + 1), (l15 ++ [(r16.1, r16.2)]))
    ) else (
    K3 l15
    )
def f20_L1 (l8 : List (List ((List (Int × Int × Int × List Int × List Int)) × Int))) (K2 : (List ((List (Int × Int × Int × List Int × List Int)) × Int)) → Option ((List (Int × Int × Int × List Int × List Int)) × Int × Int)) : Nat → ((List (List ((List (Int × Int × Int × List Int × List Int)) × Int))) × (List (List ((List (Int × Int × Int × List Int × List Int)) × Int))) × Nat × (List ((List (Int × Int × Int × List Int × List Int)) × Int))) → Option ((List (Int × Int × Int × List Int × List Int)) × Int × Int)
  | 0, _ => none
  | k + 1, (l9, l10, n11, l12) =>
    if (decide ((n11 : Int) < (((l8).length : Nat) : Int))) then (
    chk ((n11 : Int) < (((l10).length : Nat) : Int)) <|
    (f59 (l10.getD n11 [])).bind fun (r13 : (List (Int × Int × Int × List Int × List Int)) × Int) =>
    jn (fun (l17 : List ((List (Int × Int × Int × List Int × List Int)) × Int)) =>
    (f59 l17).bind fun (r18 : (List (Int × Int × Int × List Int × List Int)) × Int) =>
    chk (((l12).length + 1) * 32 ≤ 140737488355328) <|
    chk (((n11 : Int) + (1 : Int)) ≤ 9223372036854775807) <|
    (f20_L1 l8 K2 k) (l9, l10, (n11 + 1), (l12 ++ [(r18.1, r18.2)]))
    ) fun (K3 : (List ((List (Int × Int × Int × List Int × List Int)) × Int)) → Option ((List (Int × Int × Int × List Int × List Int)) × Int × Int)) =>
    chk (((n11 : Int) + (1 : Int)) ≤ 9223372036854775807) <|
    chk ((((n11 + 1) : Nat) : Int) ≤ (((l9).length : Nat) : Int)) <|
    f20_L2 l9 n11 K3 FUEL (0, [(r13.1, r13.2)])
    ) else (
    K2 l12
    )
abbrev f20z0 := (List (Int × Int × Int × List Int × List Int))
abbrev f20z1 : Heap := [(2, .cells 28 [.nils, .int .i64 (0 : Int)])]
abbrev f20z2 (l9 : List (List ((List (Int × Int × Int × List Int × List Int)) × Int))) (l10 : List (List ((List (Int × Int × Int × List Int × List Int)) × Int))) (l8 : List (List ((List (Int × Int × Int × List Int × List Int)) × Int))) (n11 : Nat) (n14 : Nat) : List (Nat × V) := [(2, .ptr 2 0), (4, vL 1 eLLT67JIJ [] l9), (8, .own 5008), (11, .own 53), (44, vL 1 eLLT67JIJ [] l10), (45, .int .i64 (((l8).length : Nat) : Int)), (46, .int .i64 (n11 : Int)), (57, vL 1 eLLT67JIJ [] (l9.drop (n11 + 1))), (58, .int .i64 ((((l9).length - (n11 + 1)) : Nat) : Int)), (59, .int .i64 (n14 : Int))]
abbrev f20z3 (r13 : (List (Int × Int × Int × List Int × List Int)) × Int) (l12 : List ((List (Int × Int × Int × List Int × List Int)) × Int)) : Heap := [(2, .cells 28 [.nils, .int .i64 (0 : Int)]), (53, bL 28 2 eLT67JI (default : (f20z0) × Int) [(r13.1, r13.2)]), (5008, bL 28 2 eLT67JI (default : (f20z0) × Int) l12)]
abbrev f20z4 : Heap := [(2, .cells 28 [vL 5 eT67 (default : Int × Int × Int × List Int × List Int) [], .int .i64 (0 : Int)])]
abbrev f20z5 (i3 : Int) (x1 : List Int) (n4 : Nat) : List (Nat × V) := [(2, .ptr 2 0), (4, .own 5004), (5, .int .i64 i3), (7, .int .i64 (x1.getD n4 0)), (22, vL 1 eI 0 x1), (23, .int .i64 (((x1).length : Nat) : Int)), (24, .int .i64 (n4 : Int))]
abbrev f20z6 (l12 : List ((List (Int × Int × Int × List Int × List Int)) × Int)) : Heap := [(2, .cells 28 [.nils, .int .i64 (0 : Int)]), (5008, bL 28 2 eLT67JI (default : (f20z0) × Int) l12)]
abbrev f20z7 (l15 : List ((List (Int × Int × Int × List Int × List Int)) × Int)) (l12 : List ((List (Int × Int × Int × List Int × List Int)) × Int)) : Heap := [(2, .cells 28 [.nils, .int .i64 (0 : Int)]), (53, bL 28 2 eLT67JI (default : (f20z0) × Int) l15), (5008, bL 28 2 eLT67JI (default : (f20z0) × Int) l12)]
abbrev f20z8 (r20 : (List (Int × Int × Int × List Int × List Int)) × Int) : List V := [vL 5 eT67 (default : Int × Int × Int × List Int × List Int) r20.1, .int .i64 r20.2]
abbrev f20z9 (l5 : List (List ((List (Int × Int × Int × List Int × List Int)) × Int))) : Heap := [(2, .cells 28 [.nils, .int .i64 (0 : Int)]), (5004, bL 58 1 eLLT67JIJ [] l5)]
abbrev f20z10 (l8 : List (List ((List (Int × Int × Int × List Int × List Int)) × Int))) : Heap := [(2, .cells 28 [.nils, .int .i64 (0 : Int)]), (5004, bL 58 1 eLLT67JIJ [] l8)]
abbrev f20z11 (l15 : List ((List (Int × Int × Int × List Int × List Int)) × Int)) (r16 : (List (Int × Int × Int × List Int × List Int)) × Int) (l12 : List ((List (Int × Int × Int × List Int × List Int)) × Int)) : Heap := [(2, .cells 28 [.nils, .int .i64 (0 : Int)]), (53, bL 28 2 eLT67JI (default : (f20z0) × Int) (l15 ++ [(r16.1, r16.2)])), (5008, bL 28 2 eLT67JI (default : (f20z0) × Int) l12)]
abbrev f20z12 : List (Nat × V) := [(2, .ptr 2 0), (3, .int .i64 (3 : Int))]
abbrev f20z13 := (List ((f20z0) × Int))
def f20 (x1 : List Int) : Option ((List (Int × Int × Int × List Int × List Int)) × Int × Int) :=
  if ((((x1).length : Nat) : Int) == (0 : Int)) then (
  some ([], (0 : Int), (9 : Int))
  ) else (
  (f57b x1).bind fun (r2 : Bool) =>
  if r2 then (
  some ([], (0 : Int), (7 : Int))
  ) else (
  jn (fun (l8 : List (List ((List (Int × Int × Int × List Int × List Int)) × Int))) =>
  jn (fun (l19 : List ((List (Int × Int × Int × List Int × List Int)) × Int)) =>
  (f60 l19).bind fun (r20 : (List (Int × Int × Int × List Int × List Int)) × Int) =>
  if (decide ((((r20.1).length : Nat) : Int) > (60 : Int))) then (
  some ([], (0 : Int), (3 : Int))
  ) else (
  some (r20.1, r20.2, (0 : Int))
  )
  ) fun (K2 : (List ((List (Int × Int × Int × List Int × List Int)) × Int)) → Option ((List (Int × Int × Int × List Int × List Int)) × Int × Int)) =>
  f20_L1 l8 K2 FUEL (l8, l8, 0, [])
  ) fun (K1 : (List (List ((List (Int × Int × Int × List Int × List Int)) × Int))) → Option ((List (Int × Int × Int × List Int × List Int)) × Int × Int)) =>
  f20_L0 x1 K1 FUEL ((0 : Int), 0, [])
  )
  )
set_option maxRecDepth 100000 in
theorem f20_ok  (x1 : List Int) (r : (List (Int × Int × Int × List Int × List Int)) × Int × Int) (h : f20 x1 = some r)  : Spec1 Tryd.prog 20 [] [] [] [vL 1 eI 0 x1] (.tup [.agg [vL 5 eT67 (default : Int × Int × Int × List Int × List Int) r.1, .int .i64 r.2.1], .int .i64 r.2.2]) [] := by
  unfold f20 at h
  refine Spec1.bodyD [2] 0 _ _ Tryd.func20 rfl Tryd.ntmps20 rfl rfl ?_
  refine q2rq [] [] ⟨83, [(0, q2aI x1), (2, .ptr 2 0)], (f20z1), [], 0⟩ trivial ?_
  refine AWp.seq ?_
  refine q2rq [] [] ⟨83, [(0, q2aI x1), (2, .ptr 2 0), (17, .bool ((lZ x1) == (0 : Int)))], (f20z1), [], 0⟩ trivial ?_
  refine AWp.cond (b := ((lZ x1) == (0 : Int))) (by kernel_rfl) (fun hc1 => ?_) (fun hc1 => ?_)
  ·
    replace h := ite_tb hc1 h
    refine q2rq [] [] ⟨83, [(2, .ptr 2 0), (3, .i (9 : Int))], (f20z1), [], 0⟩ (an1 trivial) ?_
    have hret := Option.some.inj h
    subst hret
    refine AWp.le (Le.mk (s' := ⟨83, [(2, .ptr 2 0), (3, .i (9 : Int))], (f20z4), [], 0⟩) rfl rfl ⟨.refl _, .refl _, trivial⟩ ⟨⟨_, rfl, (.cellsL ⟨.nilL, .refl _, trivial⟩)⟩, trivial⟩) ?_
    refine AWp.ret ?_
    refine thenQ_ret ?_
    exact bodyQ_ret _ rfl ⟨rfl, rfl⟩ rfl
  ·
    replace h := ite_fb hc1 h
    refine AWp.skip ?_
    refine thenQ_normal ?_
    refine AWp.seq ?_
    refine AWp.seq ?_
    obtain ⟨r2, hr2, h⟩ := bind_ok h
    refine q2rr [] [(1, ⟨[q2aI x1, .fn (.func 58) []], [], [], [], .bool r2, [], [], []⟩)] ⟨83, [(0, q2aI x1), (2, .ptr 2 0), (20, .bool r2)], (f20z1), [], 0⟩ (an1 (cpT (f57b_ok _ _ hr2))) ?_
    refine thenQ_normal ?_
    refine AWp.cond (b := r2) (by kernel_rfl) (fun hc2 => ?_) (fun hc2 => ?_)
    ·
      replace h := ite_tb hc2 h
      refine q2rq [] [] ⟨83, [(2, .ptr 2 0), (3, .i (7 : Int))], (f20z1), [], 0⟩ (an1 trivial) ?_
      have hret := Option.some.inj h
      subst hret
      refine AWp.le (Le.mk (s' := ⟨83, [(2, .ptr 2 0), (3, .i (7 : Int))], (f20z4), [], 0⟩) rfl rfl ⟨.refl _, .refl _, trivial⟩ ⟨⟨_, rfl, (.cellsL ⟨.nilL, .refl _, trivial⟩)⟩, trivial⟩) ?_
      refine AWp.ret ?_
      refine thenQ_ret ?_
      exact bodyQ_ret _ rfl ⟨rfl, rfl⟩ rfl
    ·
      replace h := ite_fb hc2 h
      refine AWp.skip ?_
      refine thenQ_normal ?_
      refine q2rq [] [] ⟨83, [(0, q2aI x1), (2, .ptr 2 0), (4, .nils)], (f20z1), [], 0⟩ trivial ?_
      refine q2rq [] [] ⟨83, [(0, q2aI x1), (2, .ptr 2 0), (4, .nils), (5, .i (0 : Int))], (f20z1), [], 0⟩ trivial ?_
      obtain ⟨K1, hK1, h⟩ := jn_some h
      refine AWp.join (α := List (f20z13)) (fun (l8 : List (f20z13)) => ⟨83, [(2, .ptr 2 0), (4, .own 5004)], (f20z10 l8), [], 0⟩) (fun x => K1 x = some r) ?_ ?_
      ·
        refine q2rq [] [] ⟨83, [(2, .ptr 2 0), (4, .nils), (5, .i (0 : Int)), (22, q2aI x1), (23, .i (lZ x1)), (24, .i (0 : Int))], (f20z1), [], 0⟩ trivial ?_
        refine AWp.block ?_
        refine AWp.loopL (α := Nat × (Int × Nat × (List (f20z13)))) (fun x => match x with | (_, i3, n4, l5) => ⟨83, [(2, .ptr 2 0), (4, .own 5004), (5, .i i3), (22, q2aI x1), (23, .i (lZ x1)), (24, .i (n4 : Int))], (f20z9 l5), [], 0⟩) (fun x => f20_L0 x1 K1 x.1 x.2 = some r) (fun x => x.1) (FUEL, (0 : Int), 0, []) (Le.trans (Le.trans (Le.nilOwn 4 5004 58 1 (encF eLLT67JIJ [] []) rfl rfl (Nat.le_of_ble_eq_true rfl)) (Le.mk (s' := ⟨83, [(2, .ptr 2 0), (4, .own 5004), (5, .i (0 : Int)), (22, q2aI x1), (23, .i (lZ x1)), (24, .i (0 : Int))], [(2, .cells 28 [.nils, .i (0 : Int)]), (5004, q2bLLT67JIJ_58 [])], [], 0⟩) rfl rfl ⟨.refl _, .refl _, .refl _, .refl _, .refl _, .refl _, trivial⟩ ⟨⟨_, rfl, .refl _⟩, ⟨_, rfl, .refl _⟩, trivial⟩)) (Le.mk (s' := ⟨83, [(2, .ptr 2 0), (4, .own 5004), (5, .i (0 : Int)), (22, q2aI x1), (23, .i (lZ x1)), (24, .i (0 : Int))], [(2, .cells 28 [.nils, .i (0 : Int)]), (5004, q2bLLT67JIJ_58 [])], [], 0⟩) rfl rfl ⟨.refl _, .refl _, .refl _, .refl _, .refl _, .refl _, trivial⟩ ⟨⟨_, rfl, .refl _⟩, ⟨_, rfl, .refl _⟩, trivial⟩)) h ?_
        rintro ⟨k0, i3, n4, l5⟩ h
        cases k0 with
        | zero => exact nomatch (show (none : Option ((List (Int × Int × Int × List Int × List Int)) × Int × Int)) = some r from h)
        | succ k0 =>
        obtain ⟨C0, hC0⟩ : ∃ C, C = f20_L0 x1 K1 k0 := ⟨_, rfl⟩
        replace h := (f20_L0.eq_2 ..).symm.trans h
        try rw [← hC0] at h
        refine q2rq [] [] ⟨83, [(2, .ptr 2 0), (4, .own 5004), (5, .i i3), (22, q2aI x1), (23, .i (lZ x1)), (24, .i (n4 : Int)), (25, .bool (decide ((n4 : Int) < (lZ x1))))], (f20z9 l5), [], 0⟩ trivial ?_
        refine AWp.seq ?_
        refine AWp.cond (b := (decide ((n4 : Int) < (lZ x1)))) (by kernel_rfl) (fun hc3 => ?_) (fun hc3 => ?_)
        ·
          replace h := ite_tb hc3 h
          refine AWp.skip ?_
          refine thenQ_normal ?_
          refine AWp.seq ?_
          refine AWp.block ?_
          refine AWp.seq ?_
          obtain ⟨ob0p, h⟩ := chk_some h
          have ob0 : 0 ≤ (n4 : Int) ∧ (n4 : Int) < (((x1).length : Nat) : Int) := ⟨by omega, ob0p⟩
          refine q2rr [] [] ⟨83, (f20z5 i3 x1 n4), (f20z9 l5), [], 0⟩ (an1 ob0) ?_
          refine thenQ_normal ?_
          refine AWp.seq ?_
          refine AWp.seq ?_
          obtain ⟨ob1, h⟩ := chk_some h
          refine q2rr [] [] ⟨83, [(2, .ptr 2 0), (4, .own 5004), (5, .i i3), (7, .i (x1.getD n4 0)), (22, q2aI x1), (23, .i (lZ x1)), (24, .i (n4 : Int)), (31, .bool (decide ((x1.getD n4 0) > ((12 : Int) - i3))))], (f20z9 l5), [], 0⟩ (an1 ob1) ?_
          refine thenQ_normal ?_
          refine AWp.cond (b := (decide ((x1.getD n4 0) > ((12 : Int) - i3)))) (by kernel_rfl) (fun hc4 => ?_) (fun hc4 => ?_)
          ·
            replace h := ite_tb hc4 h
            refine q2rq [] [] ⟨83, (f20z12), (f20z1), [], 0⟩ (an1 trivial) ?_
            have hret := Option.some.inj h
            subst hret
            refine AWp.le (Le.mk (s' := ⟨83, (f20z12), (f20z4), [], 0⟩) rfl rfl ⟨.refl _, .refl _, trivial⟩ ⟨⟨_, rfl, (.cellsL ⟨.nilL, .refl _, trivial⟩)⟩, trivial⟩) ?_
            refine AWp.ret ?_
            refine thenQ_ret ?_
            refine blockQ_ret ?_
            refine thenQ_ret ?_
            refine thenQ_ret ?_
            refine blockQ_ret ?_
            refine joinQ_ret ?_
            exact bodyQ_ret _ rfl ⟨rfl, rfl⟩ rfl
          ·
            replace h := ite_fb hc4 h
            refine AWp.skip ?_
            refine thenQ_normal ?_
            refine AWp.seq ?_
            obtain ⟨r6, hr6, h⟩ := bind_ok h
            obtain ⟨r7, hr7, h⟩ := bind_ok h
            obtain ⟨ob2, h⟩ := chk_some h
            refine q2rr [] [(3, ⟨[.i i3, .i (x1.getD n4 0)], [], [], [], q2aI r6, [], [], []⟩), (4, ⟨[q2aI r6], [], [], [], vL 2 eLT67JI (default : (f20z0) × Int) r7, [], [], []⟩)] ⟨83, (f20z5 i3 x1 n4), [(2, .cells 28 [.nils, .i (0 : Int)]), (5004, .rows 58 1 ((l5).length + 1) (appF (l5).length (encF eLLT67JIJ [] l5) (lstF 1 [vL 2 eLT67JI (default : (f20z0) × Int) r7])))], [], 0⟩ (an3 (cpT (f50_ok _ _ _ hr6)) (cpT (f49_ok _ _ hr7)) ob2) ?_
            refine thenQ_normal ?_
            refine AWp.le (Le.mk (s' := ⟨83, (f20z5 i3 x1 n4), [(2, .cells 28 [.nils, .i (0 : Int)]), (5004, q2bLLT67JIJ_58 (l5 ++ [r7]))], [], 0⟩) rfl rfl ⟨.refl _, .refl _, .refl _, .refl _, .refl _, .refl _, .refl _, trivial⟩ ⟨⟨_, rfl, .refl _⟩, ⟨_, rfl, (BLe.of (RL.app (RL.self _) (RL.lstV (enc := eLLT67JIJ) [r7] rfl ⟨.refl _, trivial⟩ (fun _ => rfl))))⟩, trivial⟩) ?_
            obtain ⟨ob3, h⟩ := chk_some h
            refine q2rr [] [] ⟨83, [(2, .ptr 2 0), (4, .own 5004), (5, .i (i3 + (x1.getD n4 0))), (22, q2aI x1), (23, .i (lZ x1)), (24, .i (n4 : Int))], [(2, .cells 28 [.nils, .i (0 : Int)]), (5004, q2bLLT67JIJ_58 (l5 ++ [r7]))], [], 0⟩ (an1 ob3) ?_
            refine blockQ_normal ?_
            refine thenQ_normal ?_
            obtain ⟨ob4p, h⟩ := chk_some h
            have ob4 : -9223372036854775808 ≤ ((n4 : Int) + (1 : Int)) ∧ ((n4 : Int) + (1 : Int)) ≤ 9223372036854775807 := ⟨by omega, ob4p⟩
            refine q2rr [] [] ⟨83, [(2, .ptr 2 0), (4, .own 5004), (5, .i (i3 + (x1.getD n4 0))), (22, q2aI x1), (23, .i (lZ x1)), (24, .i (((n4 + 1) : Nat) : Int))], [(2, .cells 28 [.nils, .i (0 : Int)]), (5004, q2bLLT67JIJ_58 (l5 ++ [r7]))], [], 0⟩ (an1 ob4) ?_
            rw [hC0] at h
            exact loopQ_normal (_, (i3 + (x1.getD n4 0)), (n4 + 1), (l5 ++ [r7])) (Le.mk rfl rfl ⟨.refl _, .refl _, .refl _, .refl _, .refl _, .refl _, trivial⟩ ⟨⟨_, rfl, .refl _⟩, ⟨_, rfl, .refl _⟩, trivial⟩) h (Nat.lt_succ_self _)
        ·
          replace h := ite_fb hc3 h
          refine AWp.exit ?_
          refine thenQ_exit ?_
          refine thenQ_exit ?_
          refine blockQ_same ?_
          exact joinQ_normal (l5) (Le.mk rfl rfl ⟨.refl _, .refl _, trivial⟩ ⟨⟨_, rfl, .refl _⟩, ⟨_, rfl, .refl _⟩, trivial⟩) h
      ·
        rintro l8 h
        replace h := (congrFun hK1 _).symm.trans h
        refine q2rq [] [] ⟨83, [(2, .ptr 2 0), (4, .own 5004), (8, .nils)], (f20z10 l8), [], 0⟩ trivial ?_
        obtain ⟨K2, hK2, h⟩ := jn_some h
        refine AWp.join (α := List ((f20z0) × Int)) (fun (l19 : List ((f20z0) × Int)) => ⟨83, [(2, .ptr 2 0), (8, .own 5008)], [(2, .cells 28 [.nils, .i (0 : Int)]), (5008, bL 28 2 eLT67JI (default : (f20z0) × Int) l19)], [], 0⟩) (fun x => K2 x = some r) ?_ ?_
        ·
          refine q2rq [] [] ⟨83, [(2, .ptr 2 0), (4, .own 5004), (8, .nils), (44, .own 5004), (45, .i (lZ l8)), (46, .i (0 : Int))], (f20z10 l8), [], 0⟩ trivial ?_
          refine AWp.block ?_
          refine AWp.loopL (α := Nat × ((List (f20z13)) × (List (f20z13)) × Nat × (f20z13))) (fun x => match x with | (_, l9, l10, n11, l12) => ⟨83, [(2, .ptr 2 0), (4, q2aLLT67JIJ l9), (8, .own 5008), (44, q2aLLT67JIJ l10), (45, .i (lZ l8)), (46, .i (n11 : Int))], (f20z6 l12), [], 0⟩) (fun x => f20_L1 l8 K2 x.1 x.2 = some r) (fun x => x.1) (FUEL, l8, l8, 0, []) (Le.trans (Le.trans (Le.freeze 5004 rfl rfl) (Le.mk (s' := ⟨83, [(2, .ptr 2 0), (4, q2aLLT67JIJ l8), (8, .nils), (44, q2aLLT67JIJ l8), (45, .i (lZ l8)), (46, .i (0 : Int))], (f20z1), [], 0⟩) rfl rfl ⟨.refl _, .refl _, .refl _, .refl _, .refl _, .refl _, trivial⟩ ⟨⟨_, rfl, .refl _⟩, trivial⟩)) (Le.trans (Le.trans (Le.nilOwn 8 5008 28 2 (encF eLT67JI (default : (f20z0) × Int) []) rfl rfl (Nat.le_of_ble_eq_true rfl)) (Le.mk (s' := ⟨83, [(2, .ptr 2 0), (4, q2aLLT67JIJ l8), (8, .own 5008), (44, q2aLLT67JIJ l8), (45, .i (lZ l8)), (46, .i (0 : Int))], [(2, .cells 28 [.nils, .i (0 : Int)]), (5008, bL 28 2 eLT67JI (default : (f20z0) × Int) [])], [], 0⟩) rfl rfl ⟨.refl _, .refl _, .refl _, .refl _, .refl _, .refl _, trivial⟩ ⟨⟨_, rfl, .refl _⟩, ⟨_, rfl, .refl _⟩, trivial⟩)) (Le.mk (s' := ⟨83, [(2, .ptr 2 0), (4, q2aLLT67JIJ l8), (8, .own 5008), (44, q2aLLT67JIJ l8), (45, .i (lZ l8)), (46, .i (0 : Int))], [(2, .cells 28 [.nils, .i (0 : Int)]), (5008, bL 28 2 eLT67JI (default : (f20z0) × Int) [])], [], 0⟩) rfl rfl ⟨.refl _, .refl _, .refl _, .refl _, .refl _, .refl _, trivial⟩ ⟨⟨_, rfl, .refl _⟩, ⟨_, rfl, .refl _⟩, trivial⟩))) h ?_
          rintro ⟨k1, l9, l10, n11, l12⟩ h
          cases k1 with
          | zero => exact nomatch (show (none : Option ((List (Int × Int × Int × List Int × List Int)) × Int × Int)) = some r from h)
          | succ k1 =>
          obtain ⟨C1, hC1⟩ : ∃ C, C = f20_L1 l8 K2 k1 := ⟨_, rfl⟩
          replace h := (f20_L1.eq_2 ..).symm.trans h
          try rw [← hC1] at h
          refine q2rq [] [] ⟨83, [(2, .ptr 2 0), (4, q2aLLT67JIJ l9), (8, .own 5008), (44, q2aLLT67JIJ l10), (45, .i (lZ l8)), (46, .i (n11 : Int)), (47, .bool (decide ((n11 : Int) < (lZ l8))))], (f20z6 l12), [], 0⟩ trivial ?_
          refine AWp.seq ?_
          refine AWp.cond (b := (decide ((n11 : Int) < (lZ l8)))) (by kernel_rfl) (fun hc5 => ?_) (fun hc5 => ?_)
          ·
            replace h := ite_tb hc5 h
            refine AWp.skip ?_
            refine thenQ_normal ?_
            refine AWp.seq ?_
            refine AWp.block ?_
            refine AWp.seq ?_
            obtain ⟨ob5p, h⟩ := chk_some h
            have ob5 : 0 ≤ (n11 : Int) ∧ (n11 : Int) < (((l10).length : Nat) : Int) := ⟨by omega, ob5p⟩
            refine q2rr [] [] ⟨83, [(2, .ptr 2 0), (4, q2aLLT67JIJ l9), (8, .own 5008), (9, .i (n11 : Int)), (10, vL 2 eLT67JI (default : (f20z0) × Int) (l10.getD n11 [])), (44, q2aLLT67JIJ l10), (45, .i (lZ l8)), (46, .i (n11 : Int))], (f20z6 l12), [], 0⟩ (an1 ob5) ?_
            refine thenQ_normal ?_
            refine AWp.seq ?_
            obtain ⟨r13, hr13, h⟩ := bind_ok h
            refine q2rr [] [(1, ⟨[vL 2 eLT67JI (default : (f20z0) × Int) (l10.getD n11 [])], [], [], [], .agg [q2aT67 r13.1, .i r13.2], [], [], []⟩)] ⟨83, [(2, .ptr 2 0), (4, q2aLLT67JIJ l9), (8, .own 5008), (9, .i (n11 : Int)), (11, .own 53), (44, q2aLLT67JIJ l10), (45, .i (lZ l8)), (46, .i (n11 : Int))], [(2, .cells 28 [.nils, .i (0 : Int)]), (53, .rows 28 2 1 (lstF 2 [q2aT67 r13.1, .i r13.2])), (5008, bL 28 2 eLT67JI (default : (f20z0) × Int) l12)], [], 0⟩ (an1 (cpT (f59_ok _ _ hr13))) ?_
            refine thenQ_normal ?_
            refine AWp.le (Le.mk (s' := ⟨83, [(2, .ptr 2 0), (4, q2aLLT67JIJ l9), (8, .own 5008), (9, .i (n11 : Int)), (11, .own 53), (44, q2aLLT67JIJ l10), (45, .i (lZ l8)), (46, .i (n11 : Int))], (f20z3 r13 l12), [], 0⟩) rfl rfl ⟨.refl _, .refl _, .refl _, .refl _, .refl _, .refl _, .refl _, .refl _, trivial⟩ ⟨⟨_, rfl, .refl _⟩, ⟨_, rfl, (BLe.of (RL.lstV (enc := eLT67JI) [(r13.1, r13.2)] rfl ⟨.refl _, .refl _, trivial⟩ (fun _ => rfl)))⟩, ⟨_, rfl, .refl _⟩, trivial⟩) ?_
            obtain ⟨K3, hK3, h⟩ := jn_some h
            refine AWp.join (α := List ((f20z0) × Int)) (fun (l17 : List ((f20z0) × Int)) => ⟨83, [(2, .ptr 2 0), (4, q2aLLT67JIJ l9), (8, .own 5008), (11, .own 53), (44, q2aLLT67JIJ l10), (45, .i (lZ l8)), (46, .i (n11 : Int))], [(2, .cells 28 [.nils, .i (0 : Int)]), (53, bL 28 2 eLT67JI (default : (f20z0) × Int) l17), (5008, bL 28 2 eLT67JI (default : (f20z0) × Int) l12)], [], 0⟩) (fun x => K3 x = some r) ?_ ?_
            ·
              refine AWp.seq ?_
              obtain ⟨ob6p, h⟩ := chk_some h
              have ob6 : -9223372036854775808 ≤ ((n11 : Int) + (1 : Int)) ∧ ((n11 : Int) + (1 : Int)) ≤ 9223372036854775807 := ⟨by omega, ob6p⟩
              obtain ⟨ob7p, h⟩ := chk_some h
              have ob7 : 0 ≤ (((n11 + 1) : Nat) : Int) ∧ (((n11 + 1) : Nat) : Int) ≤ (((l9).length : Nat) : Int) := ⟨by omega, ob7p⟩
              refine q2rr [] [] ⟨83, [(2, .ptr 2 0), (4, q2aLLT67JIJ l9), (8, .own 5008), (11, .own 53), (44, q2aLLT67JIJ l10), (45, .i (lZ l8)), (46, .i (n11 : Int)), (57, .arr 1 ((l9).length - (n11 + 1)) (fun i j => (encF eLLT67JIJ [] l9) (i + (n11 + 1)) j)), (58, .i ((((l9).length - (n11 + 1)) : Nat) : Int)), (59, .i (0 : Int))], (f20z3 r13 l12), [], 0⟩ (an2 ob6 ob7) ?_
              refine thenQ_normal ?_
              refine AWp.le (Le.mk (s' := ⟨83, [(2, .ptr 2 0), (4, q2aLLT67JIJ l9), (8, .own 5008), (11, .own 53), (44, q2aLLT67JIJ l10), (45, .i (lZ l8)), (46, .i (n11 : Int)), (57, q2aLLT67JIJ (l9.drop (n11 + 1))), (58, .i ((((l9).length - (n11 + 1)) : Nat) : Int)), (59, .i (0 : Int))], (f20z3 r13 l12), [], 0⟩) rfl rfl ⟨.refl _, .refl _, .refl _, .refl _, .refl _, .refl _, .refl _, VLe.dropL, .refl _, .refl _, trivial⟩ ⟨⟨_, rfl, .refl _⟩, ⟨_, rfl, .refl _⟩, ⟨_, rfl, .refl _⟩, trivial⟩) ?_
              refine AWp.block ?_
              refine AWp.loopL (α := Nat × (Nat × (f20z13))) (fun x => match x with | (_, n14, l15) => ⟨83, (f20z2 l9 l10 l8 n11 n14), (f20z7 l15 l12), [], 0⟩) (fun x => f20_L2 l9 n11 K3 x.1 x.2 = some r) (fun x => x.1) (FUEL, 0, [(r13.1, r13.2)]) (Le.mk (s' := ⟨83, [(2, .ptr 2 0), (4, q2aLLT67JIJ l9), (8, .own 5008), (11, .own 53), (44, q2aLLT67JIJ l10), (45, .i (lZ l8)), (46, .i (n11 : Int)), (57, q2aLLT67JIJ (l9.drop (n11 + 1))), (58, .i ((((l9).length - (n11 + 1)) : Nat) : Int)), (59, .i (0 : Int))], (f20z3 r13 l12), [], 0⟩) rfl rfl ⟨.refl _, .refl _, .refl _, .refl _, .refl _, .refl _, .refl _, .refl _, .refl _, .refl _, trivial⟩ ⟨⟨_, rfl, .refl _⟩, ⟨_, rfl, .refl _⟩, ⟨_, rfl, .refl _⟩, trivial⟩) h ?_
              rintro ⟨k2, n14, l15⟩ h
              cases k2 with
              | zero => exact nomatch (show (none : Option ((List (Int × Int × Int × List Int × List Int)) × Int × Int)) = some r from h)
              | succ k2 =>
              obtain ⟨C2, hC2⟩ : ∃ C, C = f20_L2 l9 n11 K3 k2 := ⟨_, rfl⟩
              replace h := (f20_L2.eq_2 ..).symm.trans h
              try rw [← hC2] at h
              refine q2rq [] [] ⟨83, [(2, .ptr 2 0), (4, q2aLLT67JIJ l9), (8, .own 5008), (11, .own 53), (44, q2aLLT67JIJ l10), (45, .i (lZ l8)), (46, .i (n11 : Int)), (57, q2aLLT67JIJ (l9.drop (n11 + 1))), (58, .i ((((l9).length - (n11 + 1)) : Nat) : Int)), (59, .i (n14 : Int)), (60, .bool (decide ((n14 : Int) < ((((l9).length - (n11 + 1)) : Nat) : Int))))], (f20z7 l15 l12), [], 0⟩ trivial ?_
              refine AWp.seq ?_
              refine AWp.cond (b := (decide ((n14 : Int) < ((((l9).length - (n11 + 1)) : Nat) : Int)))) (by kernel_rfl) (fun hc6 => ?_) (fun hc6 => ?_)
              ·
                replace h := ite_tb hc6 h
                refine AWp.skip ?_
                refine thenQ_normal ?_
                refine AWp.seq ?_
                refine AWp.block ?_
                refine AWp.seq ?_
                obtain ⟨ob8p, h⟩ := chk_some h
                have ob8 : 0 ≤ (n14 : Int) ∧ (n14 : Int) < ((((l9.drop (n11 + 1))).length : Nat) : Int) := ⟨by omega, ob8p⟩
                refine q2rr [] [] ⟨83, [(2, .ptr 2 0), (4, q2aLLT67JIJ l9), (8, .own 5008), (11, .own 53), (13, vL 2 eLT67JI (default : (f20z0) × Int) ((l9.drop (n11 + 1)).getD n14 [])), (44, q2aLLT67JIJ l10), (45, .i (lZ l8)), (46, .i (n11 : Int)), (57, q2aLLT67JIJ (l9.drop (n11 + 1))), (58, .i ((((l9).length - (n11 + 1)) : Nat) : Int)), (59, .i (n14 : Int))], (f20z7 l15 l12), [], 0⟩ (an1 ob8) ?_
                refine thenQ_normal ?_
                obtain ⟨r16, hr16, h⟩ := bind_ok h
                obtain ⟨ob9, h⟩ := chk_some h
                refine q2rr [] [(2, ⟨[vL 2 eLT67JI (default : (f20z0) × Int) ((l9.drop (n11 + 1)).getD n14 [])], [], [], [], .agg [q2aT67 r16.1, .i r16.2], [], [], []⟩)] ⟨83, (f20z2 l9 l10 l8 n11 n14), [(2, .cells 28 [.nils, .i (0 : Int)]), (53, .rows 28 2 ((l15).length + 1) (appF (l15).length (encF eLT67JI (default : (f20z0) × Int) l15) (lstF 2 [q2aT67 r16.1, .i r16.2]))), (5008, bL 28 2 eLT67JI (default : (f20z0) × Int) l12)], [], 0⟩ (an2 (cpT (f60_ok _ _ hr16)) ob9) ?_
                refine blockQ_normal ?_
                refine thenQ_normal ?_
                refine AWp.le (Le.mk (s' := ⟨83, (f20z2 l9 l10 l8 n11 n14), (f20z11 l15 r16 l12), [], 0⟩) rfl rfl ⟨.refl _, .refl _, .refl _, .refl _, .refl _, .refl _, .refl _, .refl _, .refl _, .refl _, trivial⟩ ⟨⟨_, rfl, .refl _⟩, ⟨_, rfl, (BLe.of (RL.app (RL.self _) (RL.lstV (enc := eLT67JI) [(r16.1, r16.2)] rfl ⟨.refl _, .refl _, trivial⟩ (fun _ => rfl))))⟩, ⟨_, rfl, .refl _⟩, trivial⟩) ?_
                obtain ⟨ob10p, h⟩ := chk_some h
                have ob10 : -9223372036854775808 ≤ ((n14 : Int) + (1 : Int)) ∧ ((n14 : Int) + (1 : Int)) ≤ 9223372036854775807 := ⟨by omega, ob10p⟩
                refine q2rr [] [] ⟨83, [(2, .ptr 2 0), (4, q2aLLT67JIJ l9), (8, .own 5008), (11, .own 53), (44, q2aLLT67JIJ l10), (45, .i (lZ l8)), (46, .i (n11 : Int)), (57, q2aLLT67JIJ (l9.drop (n11 + 1))), (58, .i ((((l9).length - (n11 + 1)) : Nat) : Int)), (59, .i (((n14 + 1) : Nat) : Int))], (f20z11 l15 r16 l12), [], 0⟩ (an1 ob10) ?_
                rw [hC2] at h
                exact loopQ_normal (_, (n14 + 1), (l15 ++ [(r16.1, r16.2)])) (Le.mk rfl rfl ⟨.refl _, .refl _, .refl _, .refl _, .refl _, .refl _, .refl _, .refl _, .refl _, .refl _, trivial⟩ ⟨⟨_, rfl, .refl _⟩, ⟨_, rfl, .refl _⟩, ⟨_, rfl, .refl _⟩, trivial⟩) h (Nat.lt_succ_self _)
              ·
                replace h := ite_fb hc6 h
                refine AWp.exit ?_
                refine thenQ_exit ?_
                refine thenQ_exit ?_
                refine blockQ_same ?_
                exact joinQ_normal (l15) (Le.mk rfl rfl ⟨.refl _, .refl _, .refl _, .refl _, .refl _, .refl _, .refl _, trivial⟩ ⟨⟨_, rfl, .refl _⟩, ⟨_, rfl, .refl _⟩, ⟨_, rfl, .refl _⟩, trivial⟩) h
            ·
              rintro l17 h
              replace h := (congrFun hK3 _).symm.trans h
              refine AWp.le (Le.trans (Le.freeze 53 rfl rfl) (Le.mk (s' := ⟨83, [(2, .ptr 2 0), (4, q2aLLT67JIJ l9), (8, .own 5008), (11, vL 2 eLT67JI (default : (f20z0) × Int) l17), (44, q2aLLT67JIJ l10), (45, .i (lZ l8)), (46, .i (n11 : Int))], (f20z6 l12), [], 0⟩) rfl rfl ⟨.refl _, .refl _, .refl _, .refl _, .refl _, .refl _, .refl _, trivial⟩ ⟨⟨_, rfl, .refl _⟩, ⟨_, rfl, .refl _⟩, trivial⟩)) ?_
              obtain ⟨r18, hr18, h⟩ := bind_ok h
              obtain ⟨ob11, h⟩ := chk_some h
              refine q2rr [] [(2, ⟨[vL 2 eLT67JI (default : (f20z0) × Int) l17], [], [], [], .agg [q2aT67 r18.1, .i r18.2], [], [], []⟩)] ⟨83, [(2, .ptr 2 0), (4, q2aLLT67JIJ l9), (8, .own 5008), (44, q2aLLT67JIJ l10), (45, .i (lZ l8)), (46, .i (n11 : Int))], [(2, .cells 28 [.nils, .i (0 : Int)]), (5008, .rows 28 2 ((l12).length + 1) (appF (l12).length (encF eLT67JI (default : (f20z0) × Int) l12) (lstF 2 [q2aT67 r18.1, .i r18.2])))], [], 0⟩ (an2 (cpT (f59_ok _ _ hr18)) ob11) ?_
              refine blockQ_normal ?_
              refine thenQ_normal ?_
              refine AWp.le (Le.mk (s' := ⟨83, [(2, .ptr 2 0), (4, q2aLLT67JIJ l9), (8, .own 5008), (44, q2aLLT67JIJ l10), (45, .i (lZ l8)), (46, .i (n11 : Int))], [(2, .cells 28 [.nils, .i (0 : Int)]), (5008, bL 28 2 eLT67JI (default : (f20z0) × Int) (l12 ++ [(r18.1, r18.2)]))], [], 0⟩) rfl rfl ⟨.refl _, .refl _, .refl _, .refl _, .refl _, .refl _, trivial⟩ ⟨⟨_, rfl, .refl _⟩, ⟨_, rfl, (BLe.of (RL.app (RL.self _) (RL.lstV (enc := eLT67JI) [(r18.1, r18.2)] rfl ⟨.refl _, .refl _, trivial⟩ (fun _ => rfl))))⟩, trivial⟩) ?_
              obtain ⟨ob12p, h⟩ := chk_some h
              have ob12 : -9223372036854775808 ≤ ((n11 : Int) + (1 : Int)) ∧ ((n11 : Int) + (1 : Int)) ≤ 9223372036854775807 := ⟨by omega, ob12p⟩
              refine q2rr [] [] ⟨83, [(2, .ptr 2 0), (4, q2aLLT67JIJ l9), (8, .own 5008), (44, q2aLLT67JIJ l10), (45, .i (lZ l8)), (46, .i (((n11 + 1) : Nat) : Int))], [(2, .cells 28 [.nils, .i (0 : Int)]), (5008, bL 28 2 eLT67JI (default : (f20z0) × Int) (l12 ++ [(r18.1, r18.2)]))], [], 0⟩ (an1 ob12) ?_
              rw [hC1] at h
              exact loopQ_normal (_, l9, l10, (n11 + 1), (l12 ++ [(r18.1, r18.2)])) (Le.mk rfl rfl ⟨.refl _, .refl _, .refl _, .refl _, .refl _, .refl _, trivial⟩ ⟨⟨_, rfl, .refl _⟩, ⟨_, rfl, .refl _⟩, trivial⟩) h (Nat.lt_succ_self _)
          ·
            replace h := ite_fb hc5 h
            refine AWp.exit ?_
            refine thenQ_exit ?_
            refine thenQ_exit ?_
            refine blockQ_same ?_
            exact joinQ_normal (l12) (Le.mk rfl rfl ⟨.refl _, .refl _, trivial⟩ ⟨⟨_, rfl, .refl _⟩, ⟨_, rfl, .refl _⟩, trivial⟩) h
        ·
          rintro l19 h
          replace h := (congrFun hK2 _).symm.trans h
          refine AWp.seq ?_
          refine AWp.le (Le.trans (Le.freeze 5008 rfl rfl) (Le.mk (s' := ⟨83, [(2, .ptr 2 0), (8, vL 2 eLT67JI (default : (f20z0) × Int) l19)], (f20z1), [], 0⟩) rfl rfl ⟨.refl _, .refl _, trivial⟩ ⟨⟨_, rfl, .refl _⟩, trivial⟩)) ?_
          obtain ⟨r20, hr20, h⟩ := bind_ok h
          refine q2rr [] [(1, ⟨[vL 2 eLT67JI (default : (f20z0) × Int) l19], [], [], [], .agg (f20z8 r20), [], [], []⟩)] ⟨83, [(2, .ptr 2 0), (14, .ptr 14 0)], [(2, .cells 28 [.nils, .i (0 : Int)]), (14, .cells 28 (f20z8 r20))], [], 0⟩ (an2 (cpT (f60_ok _ _ hr20)) trivial) ?_
          refine thenQ_normal ?_
          refine AWp.seq ?_
          refine q2rq [] [] ⟨83, [(2, .ptr 2 0), (14, .ptr 14 0), (80, .bool (decide ((lZ r20.1) > (60 : Int))))], [(2, .cells 28 [.nils, .i (0 : Int)]), (14, .cells 28 (f20z8 r20))], [], 0⟩ trivial ?_
          refine AWp.cond (b := (decide ((lZ r20.1) > (60 : Int)))) (by kernel_rfl) (fun hc7 => ?_) (fun hc7 => ?_)
          ·
            replace h := ite_tb hc7 h
            refine q2rq [] [] ⟨83, (f20z12), (f20z1), [], 0⟩ (an1 trivial) ?_
            have hret := Option.some.inj h
            subst hret
            refine AWp.le (Le.mk (s' := ⟨83, (f20z12), (f20z4), [], 0⟩) rfl rfl ⟨.refl _, .refl _, trivial⟩ ⟨⟨_, rfl, (.cellsL ⟨.nilL, .refl _, trivial⟩)⟩, trivial⟩) ?_
            refine AWp.ret ?_
            refine thenQ_ret ?_
            exact bodyQ_ret _ rfl ⟨rfl, rfl⟩ rfl
          ·
            replace h := ite_fb hc7 h
            refine AWp.skip ?_
            refine thenQ_normal ?_
            refine q2rq [] [] ⟨83, [(2, .ptr 2 0), (3, .i (0 : Int))], [(2, .cells 28 (f20z8 r20))], [], 0⟩ (an1 trivial) ?_
            have hret := Option.some.inj h
            subst hret
            refine AWp.le (Le.mk (s' := ⟨83, [(2, .ptr 2 0), (3, .i (0 : Int))], [(2, .cells 28 (f20z8 r20))], [], 0⟩) rfl rfl ⟨.refl _, .refl _, trivial⟩ ⟨⟨_, rfl, .refl _⟩, trivial⟩) ?_
            refine AWp.ret ?_
            exact bodyQ_ret _ rfl ⟨rfl, rfl⟩ rfl
def f61 : Nat → Int → Int → Option ((List (Int × Int × Int × List Int × List Int)) × Int)
  | 0, _, _ => none
  | k + 1, x1, x2 =>
    chk (-9223372036854775808 ≤ ((2 : Int) * x1) ∧ ((2 : Int) * x1) ≤ 9223372036854775807) <|
    chk (-9223372036854775808 ≤ (((2 : Int) * x1) + (2 : Int)) ∧ (((2 : Int) * x1) + (2 : Int)) ≤ 9223372036854775807) <|
    if (decide ((((2 : Int) * x1) + (2 : Int)) ≥ x2)) then (
    (f83 x1).bind fun (r3 : (List (Int × Int × Int × List Int × List Int)) × Int) =>
    some (r3.1, r3.2)
    ) else (
    (f83 x1).bind fun (r4 : (List (Int × Int × Int × List Int × List Int)) × Int) =>
    ((f61 k) (((2 : Int) * x1) + (1 : Int)) x2).bind fun (r5 : (List (Int × Int × Int × List Int × List Int)) × Int) =>
    ((f61 k) (((2 : Int) * x1) + (2 : Int)) x2).bind fun (r6 : (List (Int × Int × Int × List Int × List Int)) × Int) =>
    (f48 (2 : Int) [(r4.1, r4.2), (r5.1, r5.2), (r6.1, r6.2)] []).bind fun (r7 : (List (Int × Int × Int × List Int × List Int)) × Int) =>
    chk (-9223372036854775808 ≤ ((2 : Int) * x1) ∧ ((2 : Int) * x1) ≤ 9223372036854775807) <|
    chk (-9223372036854775808 ≤ (((2 : Int) * x1) + (1 : Int)) ∧ (((2 : Int) * x1) + (1 : Int)) ≤ 9223372036854775807) <|
    chk (-9223372036854775808 ≤ ((2 : Int) * x1) ∧ ((2 : Int) * x1) ≤ 9223372036854775807) <|
    chk (-9223372036854775808 ≤ (((2 : Int) * x1) + (2 : Int)) ∧ (((2 : Int) * x1) + (2 : Int)) ≤ 9223372036854775807) <|
    some (r7.1, r7.2)
    )
set_option maxRecDepth 100000 in
theorem f61_ok : ∀ (k : Nat) (x1 : Int) (x2 : Int) (r : (List (Int × Int × Int × List Int × List Int)) × Int), f61 k x1 x2 = some r → Spec1 Tryd.prog 61 [] [] [] [.int .i64 x1, .int .i64 x2] (.agg [vL 5 eT67 (default : Int × Int × Int × List Int × List Int) r.1, .int .i64 r.2]) [] := by
  intro k
  induction k with
  | zero => intro x1 x2 r h; exact nomatch (show (none : Option ((List (Int × Int × Int × List Int × List Int)) × Int)) = some r from h)
  | succ k ih =>
  intro x1 x2 r h
  obtain ⟨Frec, hFrec⟩ : ∃ C, C = f61 k := ⟨_, rfl⟩
  rw [f61.eq_2] at h
  rw [← hFrec] at h ih
  refine Spec1.bodyD [4] 0 _ _ Tryd.func61 rfl Tryd.ntmps61 rfl rfl ?_
  refine q2rq [] [] ⟨26, [(0, .i x1), (1, .i x2), (4, .ptr 4 0)], [(4, .cells 28 [.nils, .i (0 : Int)])], [], 0⟩ trivial ?_
  refine AWp.seq ?_
  refine AWp.seq ?_
  obtain ⟨ob0, ob1, h⟩ := ck2 h
  refine q2rr [] [] ⟨26, [(0, .i x1), (1, .i x2), (4, .ptr 4 0), (9, .bool (decide ((((2 : Int) * x1) + (2 : Int)) ≥ x2)))], [(4, .cells 28 [.nils, .i (0 : Int)])], [], 0⟩ (an2 ob0 ob1) ?_
  refine thenQ_normal ?_
  refine AWp.cond (b := (decide ((((2 : Int) * x1) + (2 : Int)) ≥ x2))) (by kernel_rfl) (fun hc1 => ?_) (fun hc1 => ?_)
  ·
    replace h := ite_tb hc1 h
    refine AWp.seq ?_
    obtain ⟨r3, hr3, h⟩ := bind_ok h
    refine q2rr [] [(1, ⟨[.i x1], [], [], [], .agg [q2aT67 r3.1, .i r3.2], [], [], []⟩)] ⟨26, [(4, .ptr 4 0)], [(4, .cells 28 [q2aT67 r3.1, .i r3.2])], [], 0⟩ (an2 (cpT (f83_ok _ _ hr3)) trivial) ?_
    refine thenQ_normal ?_
    have hret := Option.some.inj h
    subst hret
    refine AWp.le (Le.mk (s' := ⟨26, [(4, .ptr 4 0)], [(4, .cells 28 [q2aT67 r3.1, .i r3.2])], [], 0⟩) rfl rfl ⟨.refl _, trivial⟩ ⟨⟨_, rfl, .refl _⟩, trivial⟩) ?_
    refine AWp.ret ?_
    refine thenQ_ret ?_
    exact bodyQ_ret _ rfl ⟨rfl, rfl⟩ rfl
  ·
    replace h := ite_fb hc1 h
    refine AWp.skip ?_
    refine thenQ_normal ?_
    refine AWp.seq ?_
    obtain ⟨r4, hr4, h⟩ := bind_ok h
    obtain ⟨r5, hr5, h⟩ := bind_ok h
    obtain ⟨r6, hr6, h⟩ := bind_ok h
    obtain ⟨r7, hr7, h⟩ := bind_ok h
    obtain ⟨ob2, ob3, ob4, ob5, h⟩ := ck4 h
    refine q2rr [] [(1, ⟨[.i x1], [], [], [], .agg [q2aT67 r4.1, .i r4.2], [], [], []⟩), (6, ⟨[.i (((2 : Int) * x1) + (1 : Int)), .i x2], [], [], [], .agg [q2aT67 r5.1, .i r5.2], [], [], []⟩), (11, ⟨[.i (((2 : Int) * x1) + (2 : Int)), .i x2], [], [], [], .agg [q2aT67 r6.1, .i r6.2], [], [], []⟩), (13, ⟨[.i (2 : Int), .own 24, q2aI []], [24], [], [], .agg [q2aT67 r7.1, .i r7.2], [], [], []⟩)] ⟨26, [(4, .ptr 4 0)], [(4, .cells 28 [q2aT67 r7.1, .i r7.2])], [], 0⟩ (ac6 (cpT (f83_ok _ _ hr4)) ob2 ob3 (cpT (ih _ _ _ hr5)) ob4 ob5 (an3 (cpT (ih _ _ _ hr6)) (show (callP Tryd.prog true 48 [] [] [(24, .rows 28 2 3 (lstF 2 [q2aT67 r4.1, .i r4.2, q2aT67 r5.1, .i r5.2, q2aT67 r6.1, .i r6.2]))] [] [] [.i (2 : Int), .own 24, .nils] [.i (2 : Int), .own 24, q2aI []] (.agg [q2aT67 r7.1, .i r7.2]) []) from ⟨fun _ => (Spec1.pre (f48_ok _ _ _ _ hr7) rfl rfl rfl (Le.trans (Le.mk (s' := ⟨3, [(0, .i (2 : Int)), (1, .own 24), (2, q2aI [])], [(24, bL 28 2 eLT67JI q2dLT67JI [(r4.1, r4.2), (r5.1, r5.2), (r6.1, r6.2)])], [], 0⟩) rfl rfl ⟨.refl _, .refl _, .refl _, trivial⟩ ⟨⟨_, rfl, (BLe.of (RL.lstV (enc := eLT67JI) [(r4.1, r4.2), (r5.1, r5.2), (r6.1, r6.2)] rfl ⟨.refl _, .refl _, .refl _, .refl _, .refl _, .refl _, trivial⟩ (fun _ => rfl)))⟩, trivial⟩) (Le.trans (Le.freeze 24 rfl rfl) (Le.mk (s' := ⟨3, [(0, .i (2 : Int)), (1, q2aLT67JI [(r4.1, r4.2), (r5.1, r5.2), (r6.1, r6.2)]), (2, q2aI [])], [], [], 0⟩) rfl rfl ⟨.refl _, .refl _, .refl _, trivial⟩ trivial)))), fun _ => ⟨.refl _, .refl _, .nilL, trivial⟩, .inl rfl⟩) trivial)) ?_
    refine thenQ_normal ?_
    have hret := Option.some.inj h
    subst hret
    refine AWp.le (Le.mk (s' := ⟨26, [(4, .ptr 4 0)], [(4, .cells 28 [q2aT67 r7.1, .i r7.2])], [], 0⟩) rfl rfl ⟨.refl _, trivial⟩ ⟨⟨_, rfl, .refl _⟩, trivial⟩) ?_
    refine AWp.ret ?_
    exact bodyQ_ret _ rfl ⟨rfl, rfl⟩ rfl
abbrev f21z0 (r2 : (List (Int × Int × Int × List Int × List Int)) × Int) : List V := [vL 5 eT67 (default : Int × Int × Int × List Int × List Int) r2.1, .int .i64 r2.2]
def f21 (x1 : Int) : Option ((List (Int × Int × Int × List Int × List Int)) × Int × Int) :=
  if ((decide (x1 < (1 : Int))) || (decide (x1 > (3 : Int)))) then (
  some ([], (0 : Int), (7 : Int))
  ) else (
  (f61 FUEL (0 : Int) (((1 : Int) * 2 ^ ((x1).toNat)) - (1 : Int))).bind fun (r2 : (List (Int × Int × Int × List Int × List Int)) × Int) =>
  chk (0 ≤ x1 ∧ (x1).toNat ≤ IntKind.bits .i64 ∧ -9223372036854775808 ≤ ((1 : Int) * 2 ^ ((x1).toNat)) ∧ ((1 : Int) * 2 ^ ((x1).toNat)) ≤ 9223372036854775807) <|
  chk (-9223372036854775808 ≤ (((1 : Int) * 2 ^ ((x1).toNat)) - (1 : Int)) ∧ (((1 : Int) * 2 ^ ((x1).toNat)) - (1 : Int)) ≤ 9223372036854775807) <|
  some (r2.1, r2.2, (0 : Int))
  )
set_option maxRecDepth 100000 in
theorem f21_ok  (x1 : Int) (r : (List (Int × Int × Int × List Int × List Int)) × Int × Int) (h : f21 x1 = some r)  : Spec1 Tryd.prog 21 [] [] [] [.int .i64 x1] (.tup [.agg [vL 5 eT67 (default : Int × Int × Int × List Int × List Int) r.1, .int .i64 r.2.1], .int .i64 r.2.2]) [] := by
  unfold f21 at h
  refine Spec1.bodyD [2] 0 _ _ Tryd.func21 rfl Tryd.ntmps21 rfl rfl ?_
  refine q2rq [] [] ⟨15, [(0, .i x1), (2, .ptr 2 0)], [(2, .cells 28 [.nils, .i (0 : Int)])], [], 0⟩ trivial ?_
  refine AWp.seq ?_
  refine AWp.seq ?_
  have ob0 := idA (((decide (x1 < (1 : Int))) == false) = true)
  have ob1 := bqA (decide (x1 < (1 : Int))) false
  refine q2rr [] [] ⟨15, [(0, .i x1), (2, .ptr 2 0), (9, .bool ((decide (x1 < (1 : Int))) || (decide (x1 > (3 : Int)))))], [(2, .cells 28 [.nils, .i (0 : Int)])], [], 0⟩ (an2 (an1 ob0) ob1) ?_
  refine thenQ_normal ?_
  refine AWp.cond (b := ((decide (x1 < (1 : Int))) || (decide (x1 > (3 : Int))))) (by kernel_rfl) (fun hc1 => ?_) (fun hc1 => ?_)
  ·
    replace h := ite_tb hc1 h
    refine q2rq [] [] ⟨15, [(2, .ptr 2 0), (3, .i (7 : Int))], [(2, .cells 28 [.nils, .i (0 : Int)])], [], 0⟩ (an1 trivial) ?_
    have hret := Option.some.inj h
    subst hret
    refine AWp.le (Le.mk (s' := ⟨15, [(2, .ptr 2 0), (3, .i (7 : Int))], [(2, .cells 28 [q2aT67 [], .i (0 : Int)])], [], 0⟩) rfl rfl ⟨.refl _, .refl _, trivial⟩ ⟨⟨_, rfl, (.cellsL ⟨.nilL, .refl _, trivial⟩)⟩, trivial⟩) ?_
    refine AWp.ret ?_
    refine thenQ_ret ?_
    exact bodyQ_ret _ rfl ⟨rfl, rfl⟩ rfl
  ·
    replace h := ite_fb hc1 h
    refine AWp.skip ?_
    refine thenQ_normal ?_
    refine AWp.seq ?_
    obtain ⟨r2, hr2, h⟩ := bind_ok h
    obtain ⟨ob2, ob3, h⟩ := ck2 h
    refine q2rr [] [(3, ⟨[.i (0 : Int), .i (((1 : Int) * 2 ^ ((x1).toNat)) - (1 : Int))], [], [], [], .agg (f21z0 r2), [], [], []⟩)] ⟨15, [(2, .ptr 2 0), (3, .i (0 : Int))], [(2, .cells 28 (f21z0 r2))], [], 0⟩ (an4 ob2 ob3 (cpT (f61_ok FUEL _ _ _ hr2)) trivial) ?_
    refine thenQ_normal ?_
    have hret := Option.some.inj h
    subst hret
    refine AWp.le (Le.mk (s' := ⟨15, [(2, .ptr 2 0), (3, .i (0 : Int))], [(2, .cells 28 (f21z0 r2))], [], 0⟩) rfl rfl ⟨.refl _, .refl _, trivial⟩ ⟨⟨_, rfl, .refl _⟩, trivial⟩) ?_
    refine AWp.ret ?_
    exact bodyQ_ret _ rfl ⟨rfl, rfl⟩ rfl
abbrev f22z0 (x1 : Int) := ((decide (x1 < (1 : Int))) || (decide (x1 > (12 : Int))))
abbrev f22z1 : Heap := [(4, .cells 28 [.nils, .int .i64 (0 : Int)])]
abbrev f22z2 (r5 : (List (Int × Int × Int × List Int × List Int)) × Int) : List V := [vL 5 eT67 (default : Int × Int × Int × List Int × List Int) r5.1, .int .i64 r5.2]
abbrev f22z3 := (List (Int × Int × Int × List Int × List Int))
def f22 (x1 : Int) (x2 : Int) : Option ((List (Int × Int × Int × List Int × List Int)) × Int × Int) :=
  if (((decide (x1 < (1 : Int))) || (decide (x1 > (12 : Int)))) || (decide (x2 < (0 : Int)))) then (
  some ([], (0 : Int), (7 : Int))
  ) else (
  chk (-9223372036854775808 ≤ (x1 - (1 : Int)) ∧ (x1 - (1 : Int)) ≤ 9223372036854775807) <|
  chk (0 ≤ (x1 - (1 : Int)) ∧ 1 ≤ (3 : Int) ∧ -9223372036854775808 ≤ ((x1 - (1 : Int)) / (3 : Int)) ∧ ((x1 - (1 : Int)) / (3 : Int)) ≤ 9223372036854775807) <|
  if (decide (x2 > ((x1 - (1 : Int)) / (3 : Int)))) then (
  some ([], (0 : Int), (12 : Int))
  ) else (
  (f50 (0 : Int) x1).bind fun (r3 : List Int) =>
  (f49 r3).bind fun (r4 : List ((List (Int × Int × Int × List Int × List Int)) × Int)) =>
  (f48 (x1 - x2) r4 []).bind fun (r5 : (List (Int × Int × Int × List Int × List Int)) × Int) =>
  chk (-9223372036854775808 ≤ (x1 - x2) ∧ (x1 - x2) ≤ 9223372036854775807) <|
  some (r5.1, r5.2, (0 : Int))
  )
  )
set_option maxRecDepth 100000 in
theorem f22_ok  (x1 : Int) (x2 : Int) (r : (List (Int × Int × Int × List Int × List Int)) × Int × Int) (h : f22 x1 x2 = some r)  : Spec1 Tryd.prog 22 [] [] [] [.int .i64 x1, .int .i64 x2] (.tup [.agg [vL 5 eT67 (default : Int × Int × Int × List Int × List Int) r.1, .int .i64 r.2.1], .int .i64 r.2.2]) [] := by
  unfold f22 at h
  refine Spec1.bodyD [4] 0 _ _ Tryd.func22 rfl Tryd.ntmps22 rfl rfl ?_
  refine q2rq [] [] ⟨32, [(0, .i x1), (1, .i x2), (4, .ptr 4 0)], (f22z1), [], 0⟩ trivial ?_
  refine AWp.seq ?_
  refine AWp.block ?_
  refine AWp.seq ?_
  have ob0 := idA (((decide (x1 < (1 : Int))) == false) = true)
  have ob1 := bqA (decide (x1 < (1 : Int))) false
  have ob2 := idA (((f22z0 x1) == false) = true)
  have ob3 := bqA (f22z0 x1) false
  refine q2rr [] [] ⟨32, [(0, .i x1), (1, .i x2), (4, .ptr 4 0), (6, .bool ((f22z0 x1) || (decide (x2 < (0 : Int)))))], (f22z1), [], 0⟩ (an4 (an1 ob0) ob1 (an1 ob2) ob3) ?_
  refine thenQ_normal ?_
  refine AWp.cond (b := ((f22z0 x1) || (decide (x2 < (0 : Int))))) (by kernel_rfl) (fun hc1 => ?_) (fun hc1 => ?_)
  ·
    replace h := ite_tb hc1 h
    refine q2rq [] [] ⟨32, [(4, .ptr 4 0), (5, .i (7 : Int))], (f22z1), [], 0⟩ (an1 trivial) ?_
    have hret := Option.some.inj h
    subst hret
    refine AWp.le (Le.mk (s' := ⟨32, [(4, .ptr 4 0), (5, .i (7 : Int))], [(4, .cells 28 [q2aT67 [], .i (0 : Int)])], [], 0⟩) rfl rfl ⟨.refl _, .refl _, trivial⟩ ⟨⟨_, rfl, (.cellsL ⟨.nilL, .refl _, trivial⟩)⟩, trivial⟩) ?_
    refine AWp.ret ?_
    refine blockQ_ret ?_
    refine thenQ_ret ?_
    exact bodyQ_ret _ rfl ⟨rfl, rfl⟩ rfl
  ·
    replace h := ite_fb hc1 h
    refine AWp.seq ?_
    obtain ⟨ob4, ob5, h⟩ := ck2 h
    refine q2rr [] [] ⟨32, [(0, .i x1), (1, .i x2), (4, .ptr 4 0), (18, .bool (decide (x2 > ((x1 - (1 : Int)) / (3 : Int)))))], (f22z1), [], 0⟩ (an2 ob4 ob5) ?_
    refine thenQ_normal ?_
    refine AWp.cond (b := (decide (x2 > ((x1 - (1 : Int)) / (3 : Int))))) (by kernel_rfl) (fun hc2 => ?_) (fun hc2 => ?_)
    ·
      replace h := ite_tb hc2 h
      refine q2rq [] [] ⟨32, [(4, .ptr 4 0), (5, .i (12 : Int))], (f22z1), [], 0⟩ (an1 trivial) ?_
      have hret := Option.some.inj h
      subst hret
      refine AWp.le (Le.mk (s' := ⟨32, [(4, .ptr 4 0), (5, .i (12 : Int))], [(4, .cells 28 [q2aT67 [], .i (0 : Int)])], [], 0⟩) rfl rfl ⟨.refl _, .refl _, trivial⟩ ⟨⟨_, rfl, (.cellsL ⟨.nilL, .refl _, trivial⟩)⟩, trivial⟩) ?_
      refine AWp.ret ?_
      refine blockQ_ret ?_
      refine thenQ_ret ?_
      exact bodyQ_ret _ rfl ⟨rfl, rfl⟩ rfl
    ·
      replace h := ite_fb hc2 h
      refine AWp.skip ?_
      refine blockQ_normal ?_
      refine thenQ_normal ?_
      refine AWp.seq ?_
      obtain ⟨r3, hr3, h⟩ := bind_ok h
      obtain ⟨r4, hr4, h⟩ := bind_ok h
      obtain ⟨r5, hr5, h⟩ := bind_ok h
      obtain ⟨ob6, h⟩ := chk_some h
      refine q2rr [] [(4, ⟨[.i (0 : Int), .i x1], [], [], [], q2aI r3, [], [], []⟩), (5, ⟨[q2aI r3], [], [], [], vL 2 eLT67JI (default : (f22z3) × Int) r4, [], [], []⟩), (6, ⟨[.i (x1 - x2), vL 2 eLT67JI (default : (f22z3) × Int) r4, q2aI []], [], [], [], .agg (f22z2 r5), [], [], []⟩)] ⟨32, [(4, .ptr 4 0), (5, .i (0 : Int))], [(4, .cells 28 (f22z2 r5))], [], 0⟩ (an5 ob6 (cpT (f50_ok _ _ _ hr3)) (cpT (f49_ok _ _ hr4)) (cpL (c := true) [] [] [.i (x1 - x2), vL 2 eLT67JI (default : (f22z3) × Int) r4, .nils] (fun _ => (f48_ok _ _ _ _ hr5)) (fun _ => ⟨.refl _, .refl _, .nilL, trivial⟩) (.inl rfl)) trivial) ?_
      refine thenQ_normal ?_
      have hret := Option.some.inj h
      subst hret
      refine AWp.le (Le.mk (s' := ⟨32, [(4, .ptr 4 0), (5, .i (0 : Int))], [(4, .cells 28 (f22z2 r5))], [], 0⟩) rfl rfl ⟨.refl _, .refl _, trivial⟩ ⟨⟨_, rfl, .refl _⟩, trivial⟩) ?_
      refine AWp.ret ?_
      exact bodyQ_ret _ rfl ⟨rfl, rfl⟩ rfl
def f64 (x1 : BitVec 16) (x2 : List (BitVec 16)) : Option (Bool × List (BitVec 16)) :=
  (f51 x2 x1).bind fun (r3 : Bool) =>
  some ((!r3), x2)
set_option maxRecDepth 100000 in
theorem f64_ok  (x1 : BitVec 16) (x2 : List (BitVec 16)) (r : Bool × List (BitVec 16)) (h : f64 x1 x2 = some r)  : Spec1 Tryd.prog 64 [] [2000] [(2000, .cells 30 [.own 2001]), (2001, bL 49 1 eW 0#16 x2)] [.b16 x1, .ptr 2000 0] (.bool r.1) [(2000, .cells 30 [.own 2001]), (2001, bL 49 1 eW 0#16 r.2)] := by
  unfold f64 at h
  refine Spec1.body 0 _ _ Tryd.func64 rfl Tryd.ntmps64 rfl rfl ?_
  refine q2rq [] [] ⟨8, [(0, .b16 x1), (1, .ptr 2000 0)], [(2000, .cells 30 [.own 2001]), (2001, q2bW_49 x2)], [2000], 0⟩ trivial ?_
  refine AWp.seq ?_
  obtain ⟨r3, hr3, h⟩ := bind_ok h
  refine q2rr [] [(2, ⟨[q2aW x2, .b16 x1], [], [], [], .bool r3, [], [2001], []⟩)] ⟨8, [(3, .bool (!r3))], [(2000, .cells 30 [.own 2001]), (2001, q2bW_49 x2)], [2000], 0⟩ (an1 (cpL (c := true) [(2001, q2bW_49 x2)] [2001] [.own 2001, .b16 x1] (fun _ => (f51_ok _ _ _ hr3)) (fun _ => ⟨.refl _, .refl _, trivial⟩) (.inr ⟨rfl, trivial⟩))) ?_
  refine thenQ_normal ?_
  have hret := Option.some.inj h
  subst hret
  refine AWp.le (Le.mk (s' := ⟨8, [(3, .bool (!r3))], [(2000, .cells 30 [.own 2001]), (2001, q2bW_49 x2)], [2000], 0⟩) rfl rfl ⟨.refl _, trivial⟩ ⟨⟨_, rfl, .refl _⟩, ⟨_, rfl, .refl _⟩, trivial⟩) ?_
  refine AWp.ret ?_
  exact bodyQ_ret _ rfl ⟨rfl, rfl⟩ rfl
def f63d_L0 (x1 : List (BitVec 16)) (K1 : (List (BitVec 16)) → Option (Int × List (BitVec 16))) : Nat → (Nat × List (BitVec 16)) → Option (Int × List (BitVec 16))
  | 0, _ => none
  | k + 1, (n3, l4) =>
    if (decide ((n3 : Int) < (((x1).length : Nat) : Int))) then (
    (f64 (x1.getD n3 0#16) l4).bind fun (r5 : Bool × List (BitVec 16)) =>
    chk ((n3 : Int) < (((x1).length : Nat) : Int)) <|
    if r5.1 then (
    some ((n3 : Int), r5.2)
    ) else (
    chk (((n3 : Int) + (1 : Int)) ≤ 9223372036854775807) <|
    (f63d_L0 x1 K1 k) ((n3 + 1), r5.2)
    )
    ) else (
    K1 l4
    )
abbrev f63dz0 (r5 : Bool × List (BitVec 16)) : Heap := [(2000, .cells 30 [.own 2001]), (2001, bL 49 1 eW 0#16 r5.2)]
abbrev f63dz1 (l4 : List (BitVec 16)) : Heap := [(2000, .cells 30 [.own 2001]), (2001, bL 49 1 eW 0#16 l4)]
def f63d (x1 : List (BitVec 16)) (x2 : List (BitVec 16)) : Option (Int × List (BitVec 16)) :=
  jn (fun (l6 : List (BitVec 16)) =>
  some ((-1 : Int), l6)
  ) fun (K1 : (List (BitVec 16)) → Option (Int × List (BitVec 16))) =>
  f63d_L0 x1 K1 FUEL (0, x2)
set_option maxRecDepth 100000 in
theorem f63d_ok  (x1 : List (BitVec 16)) (x2 : List (BitVec 16)) (r : Int × List (BitVec 16)) (h : f63d x1 x2 = some r)  : Spec1 Tryd.prog 63 [] [2000] [(2000, .cells 30 [.own 2001]), (2001, bL 49 1 eW 0#16 x2)] [vL 1 eW 0#16 x1, .fn (.func 64) [.ptr 2000 0]] (.int .i64 r.1) [(2000, .cells 30 [.own 2001]), (2001, bL 49 1 eW 0#16 r.2)] := by
  unfold f63d at h
  refine Spec1.body 0 _ _ Tryd.func63 rfl Tryd.ntmps63 rfl rfl ?_
  refine q2rq [] [] ⟨19, [(0, q2aW x1), (1, .fn (.func 64) [.ptr 2000 0])], [(2000, .cells 30 [.own 2001]), (2001, q2bW_49 x2)], [2000], 0⟩ trivial ?_
  obtain ⟨K1, hK1, h⟩ := jn_some h
  refine AWp.join (α := List (BitVec 16)) (fun (l6 : List (BitVec 16)) => ⟨19, [], [(2000, .cells 30 [.own 2001]), (2001, q2bW_49 l6)], [2000], 0⟩) (fun x => K1 x = some r) ?_ ?_
  ·
    refine q2rq [] [] ⟨19, [(0, q2aW x1), (1, .fn (.func 64) [.ptr 2000 0]), (7, .i (lZ x1)), (8, .i (0 : Int))], [(2000, .cells 30 [.own 2001]), (2001, q2bW_49 x2)], [2000], 0⟩ trivial ?_
    refine AWp.block ?_
    refine AWp.loopL (α := Nat × (Nat × List (BitVec 16))) (fun x => match x with | (_, n3, l4) => ⟨19, [(0, q2aW x1), (1, .fn (.func 64) [.ptr 2000 0]), (7, .i (lZ x1)), (8, .i (n3 : Int))], (f63dz1 l4), [2000], 0⟩) (fun x => f63d_L0 x1 K1 x.1 x.2 = some r) (fun x => x.1) (FUEL, 0, x2) (Le.mk (s' := ⟨19, [(0, q2aW x1), (1, .fn (.func 64) [.ptr 2000 0]), (7, .i (lZ x1)), (8, .i (0 : Int))], [(2000, .cells 30 [.own 2001]), (2001, q2bW_49 x2)], [2000], 0⟩) rfl rfl ⟨.refl _, .refl _, .refl _, .refl _, trivial⟩ ⟨⟨_, rfl, .refl _⟩, ⟨_, rfl, .refl _⟩, trivial⟩) h ?_
    rintro ⟨k0, n3, l4⟩ h
    cases k0 with
    | zero => exact nomatch (show (none : Option (Int × List (BitVec 16))) = some r from h)
    | succ k0 =>
    obtain ⟨C0, hC0⟩ : ∃ C, C = f63d_L0 x1 K1 k0 := ⟨_, rfl⟩
    replace h := (f63d_L0.eq_2 ..).symm.trans h
    try rw [← hC0] at h
    refine q2rq [] [] ⟨19, [(0, q2aW x1), (1, .fn (.func 64) [.ptr 2000 0]), (7, .i (lZ x1)), (8, .i (n3 : Int)), (9, .bool (decide ((n3 : Int) < (lZ x1))))], (f63dz1 l4), [2000], 0⟩ trivial ?_
    refine AWp.seq ?_
    refine AWp.cond (b := (decide ((n3 : Int) < (lZ x1)))) (by kernel_rfl) (fun hc1 => ?_) (fun hc1 => ?_)
    ·
      replace h := ite_tb hc1 h
      refine AWp.skip ?_
      refine thenQ_normal ?_
      refine AWp.seq ?_
      refine AWp.block ?_
      refine q2rq [] [] ⟨19, [(0, q2aW x1), (1, .fn (.func 64) [.ptr 2000 0]), (5, .i (n3 : Int)), (7, .i (lZ x1)), (8, .i (n3 : Int))], (f63dz1 l4), [2000], 0⟩ trivial ?_
      refine AWp.seq ?_
      obtain ⟨r5, hr5, h⟩ := bind_ok h
      obtain ⟨ob0p, h⟩ := chk_some h
      have ob0 : 0 ≤ (n3 : Int) ∧ (n3 : Int) < (((x1).length : Nat) : Int) := ⟨by omega, ob0p⟩
      refine q2rr [] [(5, ⟨[.b16 (x1.getD n3 0#16), .ptr 2000 0], [2000, 2001], [2000], (f63dz0 r5), .bool r5.1, [2001], [], []⟩)] ⟨19, [(0, q2aW x1), (1, .fn (.func 64) [.ptr 2000 0]), (5, .i (n3 : Int)), (7, .i (lZ x1)), (8, .i (n3 : Int)), (16, .bool r5.1)], (f63dz0 r5), [2000], 0⟩ (an2 ob0 (cpT (f64_ok _ _ _ hr5))) ?_
      refine thenQ_normal ?_
      refine AWp.cond (b := r5.1) (by kernel_rfl) (fun hc2 => ?_) (fun hc2 => ?_)
      ·
        replace h := ite_tb hc2 h
        refine q2rq [] [] ⟨19, [(4, .i (n3 : Int))], (f63dz0 r5), [2000], 0⟩ trivial ?_
        have hret := Option.some.inj h
        subst hret
        refine AWp.le (Le.mk (s' := ⟨19, [(4, .i (n3 : Int))], (f63dz0 r5), [2000], 0⟩) rfl rfl ⟨.refl _, trivial⟩ ⟨⟨_, rfl, .refl _⟩, ⟨_, rfl, .refl _⟩, trivial⟩) ?_
        refine AWp.ret ?_
        refine blockQ_ret ?_
        refine thenQ_ret ?_
        refine thenQ_ret ?_
        refine blockQ_ret ?_
        refine joinQ_ret ?_
        exact bodyQ_ret _ rfl ⟨rfl, rfl⟩ rfl
      ·
        replace h := ite_fb hc2 h
        refine AWp.skip ?_
        refine blockQ_normal ?_
        refine thenQ_normal ?_
        obtain ⟨ob1p, h⟩ := chk_some h
        have ob1 : -9223372036854775808 ≤ ((n3 : Int) + (1 : Int)) ∧ ((n3 : Int) + (1 : Int)) ≤ 9223372036854775807 := ⟨by omega, ob1p⟩
        refine q2rr [] [] ⟨19, [(0, q2aW x1), (1, .fn (.func 64) [.ptr 2000 0]), (7, .i (lZ x1)), (8, .i (((n3 + 1) : Nat) : Int))], (f63dz0 r5), [2000], 0⟩ (an1 ob1) ?_
        rw [hC0] at h
        exact loopQ_normal (_, (n3 + 1), r5.2) (Le.mk rfl rfl ⟨.refl _, .refl _, .refl _, .refl _, trivial⟩ ⟨⟨_, rfl, .refl _⟩, ⟨_, rfl, .refl _⟩, trivial⟩) h (Nat.lt_succ_self _)
    ·
      replace h := ite_fb hc1 h
      refine AWp.exit ?_
      refine thenQ_exit ?_
      refine thenQ_exit ?_
      refine blockQ_same ?_
      exact joinQ_normal (l4) (Le.mk rfl rfl trivial ⟨⟨_, rfl, .refl _⟩, ⟨_, rfl, .refl _⟩, trivial⟩) h
  ·
    rintro l6 h
    replace h := (congrFun hK1 _).symm.trans h
    refine q2rq [] [] ⟨19, [(4, .i (-1 : Int))], [(2000, .cells 30 [.own 2001]), (2001, q2bW_49 l6)], [2000], 0⟩ trivial ?_
    have hret := Option.some.inj h
    subst hret
    refine AWp.le (Le.mk (s' := ⟨19, [(4, .i (-1 : Int))], [(2000, .cells 30 [.own 2001]), (2001, q2bW_49 l6)], [2000], 0⟩) rfl rfl ⟨.refl _, trivial⟩ ⟨⟨_, rfl, .refl _⟩, ⟨_, rfl, .refl _⟩, trivial⟩) ?_
    refine AWp.ret ?_
    exact bodyQ_ret _ rfl ⟨rfl, rfl⟩ rfl
def f23_L0 : Nat → (List (BitVec 16)) → Option (List (BitVec 16) × Int)
  | 0, _ => none
  | k + 1, l4 =>
    (f12 l4).bind fun (r5 : Int × List (BitVec 16)) =>
    if (r5.1 != (0 : Int)) then (
    some ([], r5.1)
    ) else (
    (f63d r5.2 l4).bind fun (r6 : Int × List (BitVec 16)) =>
    if (decide (r6.1 < (0 : Int))) then (
    some (r6.2, (0 : Int))
    ) else (
    (f53 (r6.2 ++ [(r5.2.getD ((r6.1).toNat) 0#16)])).bind fun (r7 : Int × List (BitVec 16)) =>
    chk (0 ≤ r6.1 ∧ r6.1 < (((r5.2).length : Nat) : Int)) <|
    chk (((r6.1).toNat) < (r5.2).length) <|
    chk (((r6.2).length + 1) * 2 ≤ 140737488355328) <|
    if (r7.1 != (0 : Int)) then (
    some ([], r7.1)
    ) else (
    (f23_L0 k) r7.2
    )
    )
    )
def f23 (x1 : List (BitVec 16)) : Option (List (BitVec 16) × Int) :=
  (f55 x1).bind fun (r2 : Int) =>
  if (r2 != (0 : Int)) then (
  some ([], r2)
  ) else (
  (f62 x1).bind fun (r3 : List (BitVec 16)) =>
  f23_L0 FUEL r3
  )
set_option maxRecDepth 100000 in
theorem f23_ok  (x1 : List (BitVec 16)) (r : List (BitVec 16) × Int) (h : f23 x1 = some r)  : Spec1 Tryd.prog 23 [(0, .elem 32 1 T0F 0 0)] [] [] [vL 1 eW 0#16 x1] (.tup [vL 1 eW 0#16 r.1, .int .i64 r.2]) [] := by
  unfold f23 at h
  refine Spec1.body 0 _ _ Tryd.func23 rfl Tryd.ntmps23 rfl rfl ?_
  refine q2rq [] [] ⟨43, [(1, .ptr 1 0), (1000000, .elem 32 1 T0F 0 0)], [(1, .cells 30 [q2aW x1])], [], 0⟩ trivial ?_
  refine AWp.seq ?_
  refine AWp.seq ?_
  obtain ⟨r2, hr2, h⟩ := bind_ok h
  refine q2rr [] [(1, ⟨[q2aW x1], [], [], [], .i r2, [], [], []⟩)] ⟨43, [(1, .ptr 1 0), (4, .i r2), (1000000, .elem 32 1 T0F 0 0)], [(1, .cells 30 [q2aW x1])], [], 0⟩ (an1 (cpT (f55_ok _ _ hr2))) ?_
  refine thenQ_normal ?_
  refine q2rq [] [] ⟨43, [(1, .ptr 1 0), (4, .i r2), (11, .bool (r2 != (0 : Int))), (1000000, .elem 32 1 T0F 0 0)], [(1, .cells 30 [q2aW x1])], [], 0⟩ trivial ?_
  refine AWp.cond (b := (r2 != (0 : Int))) (by kernel_rfl) (fun hc1 => ?_) (fun hc1 => ?_)
  ·
    replace h := ite_tb hc1 h
    refine q2rq [] [] ⟨43, [(2, .nils), (3, .i r2), (1000000, .elem 32 1 T0F 0 0)], [], [], 0⟩ trivial ?_
    have hret := Option.some.inj h
    subst hret
    refine AWp.le (Le.mk (s' := ⟨43, [(2, q2aW []), (3, .i r2)], [], [], 0⟩) rfl rfl ⟨.nilL, .refl _, trivial⟩ trivial) ?_
    refine AWp.ret ?_
    refine thenQ_ret ?_
    exact bodyQ_ret _ rfl ⟨rfl, rfl⟩ rfl
  ·
    replace h := ite_fb hc1 h
    refine AWp.skip ?_
    refine thenQ_normal ?_
    refine AWp.seq ?_
    obtain ⟨r3, hr3, h⟩ := bind_ok h
    refine q2rr [] [(1, ⟨[q2aW x1], [], [], [(6001, q2bW_49 r3)], .own 6001, [6001], [], []⟩)] ⟨43, [(1, .ptr 1 0), (1000000, .elem 32 1 T0F 0 0)], [(1, .cells 30 [.own 6001]), (6001, q2bW_49 r3)], [], 0⟩ (an2 (cpT (Spec1.ren (swapN 3000 6001) (swapN_inv 3000 6001) rfl (f62_ok _ _ hr3))) trivial) ?_
    refine thenQ_normal ?_
    refine AWp.block ?_
    refine AWp.loopL (α := Nat × (List (BitVec 16))) (fun x => match x with | (_, l4) => ⟨43, [(1, .ptr 1 0), (1000000, .elem 32 1 T0F 0 0)], [(1, .cells 30 [.own 6001]), (6001, q2bW_49 l4)], [], 0⟩) (fun x => f23_L0 x.1 x.2 = some r) (fun x => x.1) (FUEL, r3) (Le.mk (s' := ⟨43, [(1, .ptr 1 0), (1000000, .elem 32 1 T0F 0 0)], [(1, .cells 30 [.own 6001]), (6001, q2bW_49 r3)], [], 0⟩) rfl rfl ⟨.refl _, .refl _, trivial⟩ ⟨⟨_, rfl, .refl _⟩, ⟨_, rfl, .refl _⟩, trivial⟩) h ?_
    rintro ⟨k0, l4⟩ h
    cases k0 with
    | zero => exact nomatch (show (none : Option (List (BitVec 16) × Int)) = some r from h)
    | succ k0 =>
    obtain ⟨C0, hC0⟩ : ∃ C, C = f23_L0 k0 := ⟨_, rfl⟩
    replace h := (f23_L0.eq_2 ..).symm.trans h
    try rw [← hC0] at h
    refine AWp.block ?_
    refine AWp.seq ?_
    obtain ⟨r5, hr5, h⟩ := bind_ok h
    refine q2rr [] [(1, ⟨[q2aW l4], [], [], [(6002, q2bW_49 r5.2)], .tup [.own 6002, .i r5.1], [6002], [6001], [0]⟩)] ⟨43, [(1, .ptr 1 0), (5, .own 6002), (6, .i r5.1), (1000000, .elem 32 1 T0F 0 0)], [(1, .cells 30 [.own 6001]), (6001, q2bW_49 l4), (6002, q2bW_49 r5.2)], [], 0⟩ (an1 (cpL (c := true) [(6001, q2bW_49 l4)] [6001] [.own 6001] (fun _ => (Spec1.ren (swapN 3000 6002) (swapN_inv 3000 6002) rfl (f12_ok _ _ hr5))) (fun _ => ⟨.refl _, trivial⟩) (.inr ⟨rfl, ⟨(fun _ _ _ _ => eW_flat _ _), trivial⟩⟩))) ?_
    refine thenQ_normal ?_
    refine AWp.seq ?_
    refine q2rq [] [] ⟨43, [(1, .ptr 1 0), (5, .own 6002), (6, .i r5.1), (21, .bool (r5.1 != (0 : Int))), (1000000, .elem 32 1 T0F 0 0)], [(1, .cells 30 [.own 6001]), (6001, q2bW_49 l4), (6002, q2bW_49 r5.2)], [], 0⟩ trivial ?_
    refine AWp.cond (b := (r5.1 != (0 : Int))) (by kernel_rfl) (fun hc2 => ?_) (fun hc2 => ?_)
    ·
      replace h := ite_tb hc2 h
      refine q2rq [] [] ⟨43, [(2, .nils), (3, .i r5.1), (1000000, .elem 32 1 T0F 0 0)], [], [], 0⟩ trivial ?_
      have hret := Option.some.inj h
      subst hret
      refine AWp.le (Le.mk (s' := ⟨43, [(2, q2aW []), (3, .i r5.1)], [], [], 0⟩) rfl rfl ⟨.nilL, .refl _, trivial⟩ trivial) ?_
      refine AWp.ret ?_
      refine thenQ_ret ?_
      refine blockQ_ret ?_
      refine thenQ_ret ?_
      refine blockQ_ret ?_
      exact bodyQ_ret _ rfl ⟨rfl, rfl⟩ rfl
    ·
      replace h := ite_fb hc2 h
      refine AWp.skip ?_
      refine thenQ_normal ?_
      refine AWp.seq ?_
      obtain ⟨r6, hr6, h⟩ := bind_ok h
      refine q2rr [] [(2, ⟨[q2aW r5.2, .fn (.func 64) [.ptr 1 0]], [1, 6001], [1], [(1, .cells 30 [.own 6001]), (6001, q2bW_49 r6.2)], .i r6.1, [6001], [6002], []⟩)] ⟨43, [(1, .ptr 1 0), (5, .own 6002), (7, .i r6.1), (1000000, .elem 32 1 T0F 0 0)], [(1, .cells 30 [.own 6001]), (6001, q2bW_49 r6.2), (6002, q2bW_49 r5.2)], [], 0⟩ (an1 (cpL (c := true) [(6002, q2bW_49 r5.2)] [6002] [.own 6002, .fn (.func 64) [.ptr 1 0]] (fun _ => (Spec1.ren (swapN 2001 6001) (swapN_inv 2001 6001) rfl (Spec1.ren (swapN 2000 1) (swapN_inv 2000 1) rfl (f63d_ok _ _ _ hr6)))) (fun _ => ⟨.refl _, .refl _, trivial⟩) (.inr ⟨rfl, ⟨rfl, (fun _ _ _ _ => eW_flat _ _), trivial⟩⟩))) ?_
      refine thenQ_normal ?_
      refine AWp.seq ?_
      refine q2rq [] [] ⟨43, [(1, .ptr 1 0), (5, .own 6002), (7, .i r6.1), (27, .bool (decide (r6.1 < (0 : Int)))), (1000000, .elem 32 1 T0F 0 0)], [(1, .cells 30 [.own 6001]), (6001, q2bW_49 r6.2), (6002, q2bW_49 r5.2)], [], 0⟩ trivial ?_
      refine AWp.cond (b := (decide (r6.1 < (0 : Int)))) (by kernel_rfl) (fun hc3 => ?_) (fun hc3 => ?_)
      ·
        replace h := ite_tb hc3 h
        refine q2rq [] [] ⟨43, [(2, .own 6001), (3, .i (0 : Int)), (1000000, .elem 32 1 T0F 0 0)], [(6001, q2bW_49 r6.2)], [], 0⟩ trivial ?_
        refine AWp.le (Le.trans (Le.freeze 6001 rfl rfl) (Le.mk (s' := ⟨43, [(2, q2aW r6.2), (3, .i (0 : Int)), (1000000, .elem 32 1 T0F 0 0)], [], [], 0⟩) rfl rfl ⟨.refl _, .refl _, .refl _, trivial⟩ trivial)) ?_
        have hret := Option.some.inj h
        subst hret
        refine AWp.le (Le.mk (s' := ⟨43, [(2, q2aW r6.2), (3, .i (0 : Int))], [], [], 0⟩) rfl rfl ⟨.refl _, .refl _, trivial⟩ trivial) ?_
        refine AWp.ret ?_
        refine thenQ_ret ?_
        refine blockQ_ret ?_
        refine thenQ_ret ?_
        refine blockQ_ret ?_
        exact bodyQ_ret _ rfl ⟨rfl, rfl⟩ rfl
      ·
        replace h := ite_fb hc3 h
        refine AWp.skip ?_
        refine thenQ_normal ?_
        refine AWp.seq ?_
        obtain ⟨r7, hr7, h⟩ := bind_ok h
        obtain ⟨ob0, ob1, ob2, h⟩ := ck3 h
        refine q2rr [] [(7, ⟨[q2aW (r6.2 ++ [(r5.2.getD ((r6.1).toNat) 0#16)])], [], [], [(6003, q2bW_49 r7.2)], .tup [.own 6003, .i r7.1], [6003], [6001], []⟩)] ⟨43, [(1, .ptr 1 0), (6, .i r7.1), (1000000, .elem 32 1 T0F 0 0)], [(1, .cells 30 [.own 6003]), (6003, q2bW_49 r7.2)], [], 0⟩ (an5 ob0 ob1 ob2 (cpL (c := true) [(6001, .rows 49 1 ((r6.2).length + 1) (appF (r6.2).length (encF eW 0#16 r6.2) (lstF 1 [.b16 (r5.2.getD ((r6.1).toNat) 0#16)])))] [6001] [.own 6001] (fun _ => (Spec1.ren (swapN 3000 6003) (swapN_inv 3000 6003) rfl (f53_ok _ _ hr7))) (fun _ => ⟨(VLe.of (RL.app (RL.self _) (RL.lst (enc := eW) [(r5.2.getD ((r6.1).toNat) 0#16)] rfl rfl (fun _ => rfl)))), trivial⟩) (.inr ⟨rfl, ⟨(fun _ _ _ _ => eW_flat _ _), trivial⟩⟩)) trivial) ?_
        refine thenQ_normal ?_
        refine q2rq [] [] ⟨43, [(1, .ptr 1 0), (6, .i r7.1), (41, .bool (r7.1 != (0 : Int))), (1000000, .elem 32 1 T0F 0 0)], [(1, .cells 30 [.own 6003]), (6003, q2bW_49 r7.2)], [], 0⟩ trivial ?_
        refine AWp.cond (b := (r7.1 != (0 : Int))) (by kernel_rfl) (fun hc4 => ?_) (fun hc4 => ?_)
        ·
          replace h := ite_tb hc4 h
          refine q2rq [] [] ⟨43, [(2, .nils), (3, .i r7.1), (1000000, .elem 32 1 T0F 0 0)], [], [], 0⟩ trivial ?_
          have hret := Option.some.inj h
          subst hret
          refine AWp.le (Le.mk (s' := ⟨43, [(2, q2aW []), (3, .i r7.1)], [], [], 0⟩) rfl rfl ⟨.nilL, .refl _, trivial⟩ trivial) ?_
          refine AWp.ret ?_
          refine blockQ_ret ?_
          refine thenQ_ret ?_
          refine blockQ_ret ?_
          exact bodyQ_ret _ rfl ⟨rfl, rfl⟩ rfl
        ·
          replace h := ite_fb hc4 h
          refine AWp.skip ?_
          refine blockQ_normal ?_
          rw [hC0] at h
          exact loopQ_normal (_, r7.2) (Le.trans (Le.trans (Le.ren (swapN 6003 6001) (swapN_inv 6003 6001) rfl) (Le.mk (s' := ⟨43, [(1, .ptr 1 0), (6, .i r7.1), (41, .bool (r7.1 != (0 : Int))), (1000000, .elem 32 1 T0F 0 0)], [(1, .cells 30 [.own 6001]), (6001, q2bW_49 r7.2)], [], 0⟩) rfl rfl ⟨.refl _, .refl _, .refl _, .refl _, trivial⟩ ⟨⟨_, rfl, .refl _⟩, ⟨_, rfl, .refl _⟩, trivial⟩)) (Le.mk rfl rfl ⟨.refl _, .refl _, trivial⟩ ⟨⟨_, rfl, .refl _⟩, ⟨_, rfl, .refl _⟩, trivial⟩)) h (Nat.lt_succ_self _)
def f66 (x1 : BitVec 16) (x2 : List (BitVec 16)) : Option (Bool × List (BitVec 16)) :=
  (f31 x2 x1).bind fun (r3 : Bool) =>
  some ((!r3), x2)
set_option maxRecDepth 100000 in
theorem f66_ok  (x1 : BitVec 16) (x2 : List (BitVec 16)) (r : Bool × List (BitVec 16)) (h : f66 x1 x2 = some r)  : Spec1 Tryd.prog 66 [] [2000] [(2000, .cells 30 [vL 1 eW 0#16 x2])] [.b16 x1, .ptr 2000 0] (.bool r.1) [(2000, .cells 30 [vL 1 eW 0#16 r.2])] := by
  unfold f66 at h
  refine Spec1.body 0 _ _ Tryd.func66 rfl Tryd.ntmps66 rfl rfl ?_
  refine q2rq [] [] ⟨8, [(0, .b16 x1), (1, .ptr 2000 0)], [(2000, .cells 30 [q2aW x2])], [2000], 0⟩ trivial ?_
  refine AWp.seq ?_
  obtain ⟨r3, hr3, h⟩ := bind_ok h
  refine q2rr [] [(2, ⟨[q2aW x2, .b16 x1], [], [], [], .bool r3, [], [], []⟩)] ⟨8, [(3, .bool (!r3))], [(2000, .cells 30 [q2aW x2])], [2000], 0⟩ (an1 (cpT (f31_ok _ _ _ hr3))) ?_
  refine thenQ_normal ?_
  have hret := Option.some.inj h
  subst hret
  refine AWp.le (Le.mk (s' := ⟨8, [(3, .bool (!r3))], [(2000, .cells 30 [q2aW x2])], [2000], 0⟩) rfl rfl ⟨.refl _, trivial⟩ ⟨⟨_, rfl, .refl _⟩, trivial⟩) ?_
  refine AWp.ret ?_
  exact bodyQ_ret _ rfl ⟨rfl, rfl⟩ rfl
def f63e_L0 (x1 : List (BitVec 16)) (K1 : (List (BitVec 16)) → Option (Int × List (BitVec 16))) : Nat → (Nat × List (BitVec 16)) → Option (Int × List (BitVec 16))
  | 0, _ => none
  | k + 1, (n3, l4) =>
    if (decide ((n3 : Int) < (((x1).length : Nat) : Int))) then (
    (f66 (x1.getD n3 0#16) l4).bind fun (r5 : Bool × List (BitVec 16)) =>
    chk ((n3 : Int) < (((x1).length : Nat) : Int)) <|
    if r5.1 then (
    some ((n3 : Int), r5.2)
    ) else (
    chk (((n3 : Int) + (1 : Int)) ≤ 9223372036854775807) <|
    (f63e_L0 x1 K1 k) ((n3 + 1), r5.2)
    )
    ) else (
    K1 l4
    )
abbrev f63ez0 (r5 : Bool × List (BitVec 16)) : Heap := [(2000, .cells 30 [vL 1 eW 0#16 r5.2])]
def f63e (x1 : List (BitVec 16)) (x2 : List (BitVec 16)) : Option (Int × List (BitVec 16)) :=
  jn (fun (l6 : List (BitVec 16)) =>
  some ((-1 : Int), l6)
  ) fun (K1 : (List (BitVec 16)) → Option (Int × List (BitVec 16))) =>
  f63e_L0 x1 K1 FUEL (0, x2)
set_option maxRecDepth 100000 in
theorem f63e_ok  (x1 : List (BitVec 16)) (x2 : List (BitVec 16)) (r : Int × List (BitVec 16)) (h : f63e x1 x2 = some r)  : Spec1 Tryd.prog 63 [] [2000] [(2000, .cells 30 [vL 1 eW 0#16 x2])] [vL 1 eW 0#16 x1, .fn (.func 66) [.ptr 2000 0]] (.int .i64 r.1) [(2000, .cells 30 [vL 1 eW 0#16 r.2])] := by
  unfold f63e at h
  refine Spec1.body 0 _ _ Tryd.func63 rfl Tryd.ntmps63 rfl rfl ?_
  refine q2rq [] [] ⟨19, [(0, q2aW x1), (1, .fn (.func 66) [.ptr 2000 0])], [(2000, .cells 30 [q2aW x2])], [2000], 0⟩ trivial ?_
  obtain ⟨K1, hK1, h⟩ := jn_some h
  refine AWp.join (α := List (BitVec 16)) (fun (l6 : List (BitVec 16)) => ⟨19, [], [(2000, .cells 30 [q2aW l6])], [2000], 0⟩) (fun x => K1 x = some r) ?_ ?_
  ·
    refine q2rq [] [] ⟨19, [(0, q2aW x1), (1, .fn (.func 66) [.ptr 2000 0]), (7, .i (lZ x1)), (8, .i (0 : Int))], [(2000, .cells 30 [q2aW x2])], [2000], 0⟩ trivial ?_
    refine AWp.block ?_
    refine AWp.loopL (α := Nat × (Nat × List (BitVec 16))) (fun x => match x with | (_, n3, l4) => ⟨19, [(0, q2aW x1), (1, .fn (.func 66) [.ptr 2000 0]), (7, .i (lZ x1)), (8, .i (n3 : Int))], [(2000, .cells 30 [q2aW l4])], [2000], 0⟩) (fun x => f63e_L0 x1 K1 x.1 x.2 = some r) (fun x => x.1) (FUEL, 0, x2) (Le.mk (s' := ⟨19, [(0, q2aW x1), (1, .fn (.func 66) [.ptr 2000 0]), (7, .i (lZ x1)), (8, .i (0 : Int))], [(2000, .cells 30 [q2aW x2])], [2000], 0⟩) rfl rfl ⟨.refl _, .refl _, .refl _, .refl _, trivial⟩ ⟨⟨_, rfl, .refl _⟩, trivial⟩) h ?_
    rintro ⟨k0, n3, l4⟩ h
    cases k0 with
    | zero => exact nomatch (show (none : Option (Int × List (BitVec 16))) = some r from h)
    | succ k0 =>
    obtain ⟨C0, hC0⟩ : ∃ C, C = f63e_L0 x1 K1 k0 := ⟨_, rfl⟩
    replace h := (f63e_L0.eq_2 ..).symm.trans h
    try rw [← hC0] at h
    refine q2rq [] [] ⟨19, [(0, q2aW x1), (1, .fn (.func 66) [.ptr 2000 0]), (7, .i (lZ x1)), (8, .i (n3 : Int)), (9, .bool (decide ((n3 : Int) < (lZ x1))))], [(2000, .cells 30 [q2aW l4])], [2000], 0⟩ trivial ?_
    refine AWp.seq ?_
    refine AWp.cond (b := (decide ((n3 : Int) < (lZ x1)))) (by kernel_rfl) (fun hc1 => ?_) (fun hc1 => ?_)
    ·
      replace h := ite_tb hc1 h
      refine AWp.skip ?_
      refine thenQ_normal ?_
      refine AWp.seq ?_
      refine AWp.block ?_
      refine q2rq [] [] ⟨19, [(0, q2aW x1), (1, .fn (.func 66) [.ptr 2000 0]), (5, .i (n3 : Int)), (7, .i (lZ x1)), (8, .i (n3 : Int))], [(2000, .cells 30 [q2aW l4])], [2000], 0⟩ trivial ?_
      refine AWp.seq ?_
      obtain ⟨r5, hr5, h⟩ := bind_ok h
      obtain ⟨ob0p, h⟩ := chk_some h
      have ob0 : 0 ≤ (n3 : Int) ∧ (n3 : Int) < (((x1).length : Nat) : Int) := ⟨by omega, ob0p⟩
      refine q2rr [] [(5, ⟨[.b16 (x1.getD n3 0#16), .ptr 2000 0], [2000], [2000], (f63ez0 r5), .bool r5.1, [], [], []⟩)] ⟨19, [(0, q2aW x1), (1, .fn (.func 66) [.ptr 2000 0]), (5, .i (n3 : Int)), (7, .i (lZ x1)), (8, .i (n3 : Int)), (16, .bool r5.1)], (f63ez0 r5), [2000], 0⟩ (an2 ob0 (cpT (f66_ok _ _ _ hr5))) ?_
      refine thenQ_normal ?_
      refine AWp.cond (b := r5.1) (by kernel_rfl) (fun hc2 => ?_) (fun hc2 => ?_)
      ·
        replace h := ite_tb hc2 h
        refine q2rq [] [] ⟨19, [(4, .i (n3 : Int))], (f63ez0 r5), [2000], 0⟩ trivial ?_
        have hret := Option.some.inj h
        subst hret
        refine AWp.le (Le.mk (s' := ⟨19, [(4, .i (n3 : Int))], (f63ez0 r5), [2000], 0⟩) rfl rfl ⟨.refl _, trivial⟩ ⟨⟨_, rfl, .refl _⟩, trivial⟩) ?_
        refine AWp.ret ?_
        refine blockQ_ret ?_
        refine thenQ_ret ?_
        refine thenQ_ret ?_
        refine blockQ_ret ?_
        refine joinQ_ret ?_
        exact bodyQ_ret _ rfl ⟨rfl, rfl⟩ rfl
      ·
        replace h := ite_fb hc2 h
        refine AWp.skip ?_
        refine blockQ_normal ?_
        refine thenQ_normal ?_
        obtain ⟨ob1p, h⟩ := chk_some h
        have ob1 : -9223372036854775808 ≤ ((n3 : Int) + (1 : Int)) ∧ ((n3 : Int) + (1 : Int)) ≤ 9223372036854775807 := ⟨by omega, ob1p⟩
        refine q2rr [] [] ⟨19, [(0, q2aW x1), (1, .fn (.func 66) [.ptr 2000 0]), (7, .i (lZ x1)), (8, .i (((n3 + 1) : Nat) : Int))], (f63ez0 r5), [2000], 0⟩ (an1 ob1) ?_
        rw [hC0] at h
        exact loopQ_normal (_, (n3 + 1), r5.2) (Le.mk rfl rfl ⟨.refl _, .refl _, .refl _, .refl _, trivial⟩ ⟨⟨_, rfl, .refl _⟩, trivial⟩) h (Nat.lt_succ_self _)
    ·
      replace h := ite_fb hc1 h
      refine AWp.exit ?_
      refine thenQ_exit ?_
      refine thenQ_exit ?_
      refine blockQ_same ?_
      exact joinQ_normal (l4) (Le.mk rfl rfl trivial ⟨⟨_, rfl, .refl _⟩, trivial⟩) h
  ·
    rintro l6 h
    replace h := (congrFun hK1 _).symm.trans h
    refine q2rq [] [] ⟨19, [(4, .i (-1 : Int))], [(2000, .cells 30 [q2aW l6])], [2000], 0⟩ trivial ?_
    have hret := Option.some.inj h
    subst hret
    refine AWp.le (Le.mk (s' := ⟨19, [(4, .i (-1 : Int))], [(2000, .cells 30 [q2aW l6])], [2000], 0⟩) rfl rfl ⟨.refl _, trivial⟩ ⟨⟨_, rfl, .refl _⟩, trivial⟩) ?_
    refine AWp.ret ?_
    exact bodyQ_ret _ rfl ⟨rfl, rfl⟩ rfl
def f65d (x1 : List (BitVec 16)) (x2 : List (BitVec 16)) : Option (Bool × List (BitVec 16)) :=
  (f63e x1 x2).bind fun (r3 : Int × List (BitVec 16)) =>
  some ((decide (r3.1 ≥ (0 : Int))), r3.2)
set_option maxRecDepth 100000 in
theorem f65d_ok  (x1 : List (BitVec 16)) (x2 : List (BitVec 16)) (r : Bool × List (BitVec 16)) (h : f65d x1 x2 = some r)  : Spec1 Tryd.prog 65 [] [2000] [(2000, .cells 30 [vL 1 eW 0#16 x2])] [vL 1 eW 0#16 x1, .fn (.func 66) [.ptr 2000 0]] (.bool r.1) [(2000, .cells 30 [vL 1 eW 0#16 r.2])] := by
  unfold f65d at h
  refine Spec1.body 0 _ _ Tryd.func65 rfl Tryd.ntmps65 rfl rfl ?_
  refine q2rq [] [] ⟨9, [(0, q2aW x1), (1, .fn (.func 66) [.ptr 2000 0])], [(2000, .cells 30 [q2aW x2])], [2000], 0⟩ trivial ?_
  refine AWp.seq ?_
  obtain ⟨r3, hr3, h⟩ := bind_ok h
  refine q2rr [] [(2, ⟨[q2aW x1, .fn (.func 66) [.ptr 2000 0]], [2000], [2000], [(2000, .cells 30 [q2aW r3.2])], .i r3.1, [], [], []⟩)] ⟨9, [(4, .bool (decide (r3.1 ≥ (0 : Int))))], [(2000, .cells 30 [q2aW r3.2])], [2000], 0⟩ (an1 (cpT (f63e_ok _ _ _ hr3))) ?_
  refine thenQ_normal ?_
  have hret := Option.some.inj h
  subst hret
  refine AWp.le (Le.mk (s' := ⟨9, [(4, .bool (decide (r3.1 ≥ (0 : Int))))], [(2000, .cells 30 [q2aW r3.2])], [2000], 0⟩) rfl rfl ⟨.refl _, trivial⟩ ⟨⟨_, rfl, .refl _⟩, trivial⟩) ?_
  refine AWp.ret ?_
  exact bodyQ_ret _ rfl ⟨rfl, rfl⟩ rfl
def f24 (x1 : List (BitVec 16)) (x2 : List (BitVec 16)) : Option Bool :=
  (f65d x1 x2).bind fun (r3 : Bool × List (BitVec 16)) =>
  some (!r3.1)
set_option maxRecDepth 100000 in
theorem f24_ok  (x1 : List (BitVec 16)) (x2 : List (BitVec 16)) (r : Bool) (h : f24 x1 x2 = some r)  : Spec1 Tryd.prog 24 [] [] [] [vL 1 eW 0#16 x1, vL 1 eW 0#16 x2] (.bool r) [] := by
  unfold f24 at h
  refine Spec1.body 0 _ _ Tryd.func24 rfl Tryd.ntmps24 rfl rfl ?_
  refine q2rq [] [] ⟨9, [(0, q2aW x1), (3, .ptr 3 0)], [(3, .cells 30 [q2aW x2])], [], 0⟩ trivial ?_
  refine AWp.seq ?_
  obtain ⟨r3, hr3, h⟩ := bind_ok h
  refine q2rr [] [(2, ⟨[q2aW x1, .fn (.func 66) [.ptr 3 0]], [3], [3], [(3, .cells 30 [q2aW r3.2])], .bool r3.1, [], [], []⟩)] ⟨9, [(4, .bool (!r3.1))], [], [], 0⟩ (an1 (cpT (Spec1.ren (swapN 2000 3) (swapN_inv 2000 3) rfl (f65d_ok _ _ _ hr3)))) ?_
  refine thenQ_normal ?_
  have hret := Option.some.inj h
  subst hret
  refine AWp.le (Le.mk (s' := ⟨9, [(4, .bool (!r3.1))], [], [], 0⟩) rfl rfl ⟨.refl _, trivial⟩ trivial) ?_
  refine AWp.ret ?_
  exact bodyQ_ret _ rfl ⟨rfl, rfl⟩ rfl
def f14_L0 (x1 : List (BitVec 16)) (x2 : List (BitVec 16)) (K1 : Unit → Option Bool) : Nat → Nat → Option Bool
  | 0, _ => none
  | k + 1, n3 =>
    if (decide ((n3 : Int) < (((x1).length : Nat) : Int))) then (
    chk ((n3 : Int) < (((x1).length : Nat) : Int)) <|
    chk ((n3 : Int) < (((x2).length : Nat) : Int)) <|
    if (!((x1.getD n3 0#16) == (x2.getD n3 0#16))) then (
    some false
    ) else (
    chk (((n3 : Int) + (1 : Int)) ≤ 9223372036854775807) <|
    (f14_L0 x1 x2 K1 k) (n3 + 1)
    )
    ) else (
    K1 ()
    )
def f14 (x1 : List (BitVec 16)) (x2 : List (BitVec 16)) : Option Bool :=
  if ((((x1).length : Nat) : Int) != (((x2).length : Nat) : Int)) then (
  some false
  ) else (
  jn (fun (_ : Unit) =>
  some true
  ) fun (K1 : Unit → Option Bool) =>
  f14_L0 x1 x2 K1 FUEL 0
  )
set_option maxRecDepth 100000 in
theorem f14_ok  (x1 : List (BitVec 16)) (x2 : List (BitVec 16)) (r : Bool) (h : f14 x1 x2 = some r)  : Spec1 Tryd.prog 14 [] [] [] [vL 1 eW 0#16 x1, vL 1 eW 0#16 x2] (.bool r) [] := by
  unfold f14 at h
  refine Spec1.body 0 _ _ Tryd.func14 rfl Tryd.ntmps14 rfl rfl ?_
  refine q2rq [] [] ⟨26, [(0, q2aW x1), (1, q2aW x2)], [], [], 0⟩ trivial ?_
  refine AWp.seq ?_
  refine q2rq [] [] ⟨26, [(0, q2aW x1), (1, q2aW x2), (10, .bool ((lZ x1) != (lZ x2)))], [], [], 0⟩ trivial ?_
  refine AWp.cond (b := ((lZ x1) != (lZ x2))) (by kernel_rfl) (fun hc1 => ?_) (fun hc1 => ?_)
  ·
    replace h := ite_tb hc1 h
    refine q2rq [] [] ⟨26, [(4, .bool false)], [], [], 0⟩ trivial ?_
    have hret := Option.some.inj h
    subst hret
    refine AWp.le (Le.mk (s' := ⟨26, [(4, .bool false)], [], [], 0⟩) rfl rfl ⟨.refl _, trivial⟩ trivial) ?_
    refine AWp.ret ?_
    refine thenQ_ret ?_
    exact bodyQ_ret _ rfl ⟨rfl, rfl⟩ rfl
  ·
    replace h := ite_fb hc1 h
    refine AWp.skip ?_
    refine thenQ_normal ?_
    obtain ⟨K1, hK1, h⟩ := jn_some h
    refine AWp.join (α := Unit) (fun (x : Unit) => match x with | () => ⟨26, [], [], [], 0⟩) (fun x => K1 x = some r) ?_ ?_
    ·
      refine q2rq [] [] ⟨26, [(0, q2aW x1), (1, q2aW x2), (5, .i (0 : Int))], [], [], 0⟩ trivial ?_
      refine AWp.block ?_
      refine AWp.loopL (α := Nat × Nat) (fun x => match x with | (_, n3) => ⟨26, [(0, q2aW x1), (1, q2aW x2), (5, .i (n3 : Int))], [], [], 0⟩) (fun x => f14_L0 x1 x2 K1 x.1 x.2 = some r) (fun x => x.1) (FUEL, 0) (Le.mk (s' := ⟨26, [(0, q2aW x1), (1, q2aW x2), (5, .i (0 : Int))], [], [], 0⟩) rfl rfl ⟨.refl _, .refl _, .refl _, trivial⟩ trivial) h ?_
      rintro ⟨k0, n3⟩ h
      cases k0 with
      | zero => exact nomatch (show (none : Option Bool) = some r from h)
      | succ k0 =>
      obtain ⟨C0, hC0⟩ : ∃ C, C = f14_L0 x1 x2 K1 k0 := ⟨_, rfl⟩
      replace h := (f14_L0.eq_2 ..).symm.trans h
      try rw [← hC0] at h
      refine AWp.seq ?_
      refine q2rq [] [] ⟨26, [(0, q2aW x1), (1, q2aW x2), (5, .i (n3 : Int)), (14, .bool (decide ((n3 : Int) < (lZ x1))))], [], [], 0⟩ trivial ?_
      refine AWp.cond (b := (decide ((n3 : Int) < (lZ x1)))) (by kernel_rfl) (fun hc2 => ?_) (fun hc2 => ?_)
      ·
        replace h := ite_tb hc2 h
        refine AWp.skip ?_
        refine thenQ_normal ?_
        refine AWp.seq ?_
        refine AWp.block ?_
        refine AWp.seq ?_
        obtain ⟨ob0p, h⟩ := chk_some h
        have ob0 : 0 ≤ (n3 : Int) ∧ (n3 : Int) < (((x1).length : Nat) : Int) := ⟨by omega, ob0p⟩
        obtain ⟨ob1p, h⟩ := chk_some h
        have ob1 : 0 ≤ (n3 : Int) ∧ (n3 : Int) < (((x2).length : Nat) : Int) := ⟨by omega, ob1p⟩
        refine q2rr [] [] ⟨26, [(0, q2aW x1), (1, q2aW x2), (5, .i (n3 : Int)), (25, .bool (!((x1.getD n3 0#16) == (x2.getD n3 0#16))))], [], [], 0⟩ (an2 ob0 ob1) ?_
        refine thenQ_normal ?_
        refine AWp.cond (b := (!((x1.getD n3 0#16) == (x2.getD n3 0#16)))) (by kernel_rfl) (fun hc3 => ?_) (fun hc3 => ?_)
        ·
          replace h := ite_tb hc3 h
          refine q2rq [] [] ⟨26, [(4, .bool false)], [], [], 0⟩ trivial ?_
          have hret := Option.some.inj h
          subst hret
          refine AWp.le (Le.mk (s' := ⟨26, [(4, .bool false)], [], [], 0⟩) rfl rfl ⟨.refl _, trivial⟩ trivial) ?_
          refine AWp.ret ?_
          refine blockQ_ret ?_
          refine thenQ_ret ?_
          refine thenQ_ret ?_
          refine blockQ_ret ?_
          refine joinQ_ret ?_
          exact bodyQ_ret _ rfl ⟨rfl, rfl⟩ rfl
        ·
          replace h := ite_fb hc3 h
          refine AWp.skip ?_
          refine blockQ_normal ?_
          refine thenQ_normal ?_
          obtain ⟨ob2p, h⟩ := chk_some h
          have ob2 : -9223372036854775808 ≤ ((n3 : Int) + (1 : Int)) ∧ ((n3 : Int) + (1 : Int)) ≤ 9223372036854775807 := ⟨by omega, ob2p⟩
          refine q2rr [] [] ⟨26, [(0, q2aW x1), (1, q2aW x2), (5, .i (((n3 + 1) : Nat) : Int))], [], [], 0⟩ (an1 ob2) ?_
          rw [hC0] at h
          exact loopQ_normal (_, (n3 + 1)) (Le.mk rfl rfl ⟨.refl _, .refl _, .refl _, trivial⟩ trivial) h (Nat.lt_succ_self _)
      ·
        replace h := ite_fb hc2 h
        refine AWp.exit ?_
        refine thenQ_exit ?_
        refine thenQ_exit ?_
        refine blockQ_same ?_
        exact joinQ_normal () (Le.mk rfl rfl trivial trivial) h
    ·
      rintro ⟨⟩ h
      replace h := (congrFun hK1 _).symm.trans h
      refine q2rq [] [] ⟨26, [(4, .bool true)], [], [], 0⟩ trivial ?_
      have hret := Option.some.inj h
      subst hret
      refine AWp.le (Le.mk (s' := ⟨26, [(4, .bool true)], [], [], 0⟩) rfl rfl ⟨.refl _, trivial⟩ trivial) ?_
      refine AWp.ret ?_
      exact bodyQ_ret _ rfl ⟨rfl, rfl⟩ rfl
def f5_L1 (x5 : Int) (n9 : Nat) (K2 : Unit → Option Bool) (r10 : List (BitVec 16) × Int) : Nat → Nat → Option Bool
  | 0, _ => none
  | k + 1, n16 =>
    if (decide ((n16 : Int) < (((r10.1).length : Nat) : Int))) then (
    chk ((n16 : Int) < (((r10.1).length : Nat) : Int)) <|
    optc (((n9 : Int) == (2 : Int)) == true) (f17 ((r10.1.getD n16 0#16) &&& (r10.1.getD 0 0#16))) fun (r17 : Int) =>
    chk ((((n9 : Int) == (2 : Int)) == true) = true → 0 ≤ (0 : Int) ∧ (0 : Int) < (((r10.1).length : Nat) : Int)) <|
    chk ((((n9 : Int) == (2 : Int)) == true) = true → -9223372036854775808 ≤ ((x5 % (3 : Int)) + (1 : Int)) ∧ ((x5 % (3 : Int)) + (1 : Int)) ≤ 9223372036854775807) <|
    if (((n9 : Int) == (2 : Int)) && (decide (r17 < ((x5 % (3 : Int)) + (1 : Int))))) then (
    some false
    ) else (
    chk (((n16 : Int) + (1 : Int)) ≤ 9223372036854775807) <|
    (f5_L1 x5 n9 K2 r10 k) (n16 + 1)
    )
    ) else (
    K2 ()
    )
def f5_L0 (x5 : Int) (r6 : (List (Int × Int × Int × List Int × List Int)) × Int × Int) (r7 : (List (Int × Int × Int × List Int × List Int)) × Int × Int) (r8 : (List (Int × Int × Int × List Int × List Int)) × Int × Int) (K1 : Unit → Option Bool) : Nat → Nat → Option Bool
  | 0, _ => none
  | k + 1, n9 =>
    if (decide ((n9 : Int) < (3 : Int))) then (
    jn (fun (_ : Unit) =>
    chk (((n9 : Int) + (1 : Int)) ≤ 9223372036854775807) <|
    (f5_L0 x5 r6 r7 r8 K1 k) (n9 + 1)
    ) fun (K2 : Unit → Option Bool) =>
    chk ((n9 : Int) < ((([(r6.1, r6.2.1), (r7.1, r7.2.1), (r8.1, r8.2.1)]).length : Nat) : Int)) <|
    chk (n9 < ([(r6.1, r6.2.1), (r7.1, r7.2.1), (r8.1, r8.2.1)]).length) <|
    (f8 (([(r6.1, r6.2.1), (r7.1, r7.2.1), (r8.1, r8.2.1)].getD n9 (default : (List (Int × Int × Int × List Int × List Int)) × Int)).1) (([(r6.1, r6.2.1), (r7.1, r7.2.1), (r8.1, r8.2.1)].getD n9 (default : (List (Int × Int × Int × List Int × List Int)) × Int)).2)).bind fun (r10 : List (BitVec 16) × Int) =>
    optc ((r10.2 != (0 : Int)) == false) (f16 r10.1) fun (r11 : Bool) =>
    if ((r10.2 != (0 : Int)) || (!r11)) then (
    some false
    ) else (
    (f23 r10.1).bind fun (r12 : List (BitVec 16) × Int) =>
    optc ((r12.2 != (0 : Int)) == false) (f24 r10.1 r12.1) fun (r13 : Bool) =>
    optc (((r12.2 != (0 : Int)) || (!r13)) == false) (f19 r12.1 r12.1) fun (r14 : Bool) =>
    optc (((((r12.2 != (0 : Int)) || (!r13)) || (!r14)) == false) && (((n9 : Int) == (1 : Int)) == true)) (f14 r10.1 r12.1) fun (r15 : Bool) =>
    chk (((((r12.2 != (0 : Int)) || (!r13)) || (!r14)) == false) = true → ((((r12.2 != (0 : Int)) || (!r13)) || (!r14)) == false) = true → ((n9 : Int) == (1 : Int)) = true → (((((r12.2 != (0 : Int)) || (!r13)) || (!r14)) == false) && (((n9 : Int) == (1 : Int)) == true)) = true) <|
    if ((((r12.2 != (0 : Int)) || (!r13)) || (!r14)) || (((n9 : Int) == (1 : Int)) && (!r15))) then (
    some false
    ) else (
    f5_L1 x5 n9 K2 r10 FUEL 0
    )
    )
    ) else (
    K1 ()
    )
abbrev f5z0 (r6 : (List (Int × Int × Int × List Int × List Int)) × Int × Int) (r7 : (List (Int × Int × Int × List Int × List Int)) × Int × Int) (r8 : (List (Int × Int × Int × List Int × List Int)) × Int × Int) : Heap := [(74, bL 28 2 eLT67JI (default : (List (Int × Int × Int × List Int × List Int)) × Int) [(r6.1, r6.2.1), (r7.1, r7.2.1), (r8.1, r8.2.1)])]
abbrev f5z1 (n9 : Nat) := (((n9 : Int) == (2 : Int)) == true)
abbrev f5z2 (r6 : (List (Int × Int × Int × List Int × List Int)) × Int × Int) : List V := [vL 5 eT67 (default : Int × Int × Int × List Int × List Int) r6.1, .int .i64 r6.2.1]
abbrev f5z3 (r12 : List (BitVec 16) × Int) (r13 : Bool) (r14 : Bool) := ((((r12.2 != (0 : Int)) || (!r13)) || (!r14)) == false)
abbrev f5z4 (r7 : (List (Int × Int × Int × List Int × List Int)) × Int × Int) : List V := [vL 5 eT67 (default : Int × Int × Int × List Int × List Int) r7.1, .int .i64 r7.2.1]
abbrev f5z5 := (List (Int × Int × Int × List Int × List Int))
abbrev f5z6 (n9 : Nat) := (((n9 : Int) == (1 : Int)) == true)
abbrev f5z7 (r12 : List (BitVec 16) × Int) := (r12.2 != (0 : Int))
abbrev f5z8 (r8 : (List (Int × Int × Int × List Int × List Int)) × Int × Int) : List V := [vL 5 eT67 (default : Int × Int × Int × List Int × List Int) r8.1, .int .i64 r8.2.1]
def f5 (x1 : Int) (x2 : Int) (x3 : Int) (x4 : Int) (x5 : Int) : Option Bool :=
  (f20 [((1 : Int) + (x1 % (2 : Int))), ((1 : Int) + (x2 % (3 : Int))), ((1 : Int) + (x3 % (3 : Int)))]).bind fun (r6 : (List (Int × Int × Int × List Int × List Int)) × Int × Int) =>
  chk (0 ≤ x1 ∧ 1 ≤ (2 : Int)) <|
  chk (-9223372036854775808 ≤ (x1 % (2 : Int)) ∧ (x1 % (2 : Int)) ≤ 9223372036854775807) <|
  chk (-9223372036854775808 ≤ ((1 : Int) + (x1 % (2 : Int))) ∧ ((1 : Int) + (x1 % (2 : Int))) ≤ 9223372036854775807) <|
  chk (0 ≤ x2 ∧ 1 ≤ (3 : Int)) <|
  chk (-9223372036854775808 ≤ (x2 % (3 : Int)) ∧ (x2 % (3 : Int)) ≤ 9223372036854775807) <|
  chk (-9223372036854775808 ≤ ((1 : Int) + (x2 % (3 : Int))) ∧ ((1 : Int) + (x2 % (3 : Int))) ≤ 9223372036854775807) <|
  chk (0 ≤ x3 ∧ 1 ≤ (3 : Int)) <|
  chk (-9223372036854775808 ≤ (x3 % (3 : Int)) ∧ (x3 % (3 : Int)) ≤ 9223372036854775807) <|
  chk (-9223372036854775808 ≤ ((1 : Int) + (x3 % (3 : Int))) ∧ ((1 : Int) + (x3 % (3 : Int))) ≤ 9223372036854775807) <|
  (f21 ((1 : Int) + (x4 % (3 : Int)))).bind fun (r7 : (List (Int × Int × Int × List Int × List Int)) × Int × Int) =>
  chk (0 ≤ x4 ∧ 1 ≤ (3 : Int)) <|
  chk (-9223372036854775808 ≤ (x4 % (3 : Int)) ∧ (x4 % (3 : Int)) ≤ 9223372036854775807) <|
  chk (-9223372036854775808 ≤ ((1 : Int) + (x4 % (3 : Int))) ∧ ((1 : Int) + (x4 % (3 : Int))) ≤ 9223372036854775807) <|
  chk (0 ≤ x5 ∧ 1 ≤ (3 : Int)) <|
  chk (-9223372036854775808 ≤ (x5 % (3 : Int)) ∧ (x5 % (3 : Int)) ≤ 9223372036854775807) <|
  (f22 (((3 : Int) * (x5 % (3 : Int))) + (1 : Int)) (x5 % (3 : Int))).bind fun (r8 : (List (Int × Int × Int × List Int × List Int)) × Int × Int) =>
  chk (-9223372036854775808 ≤ ((3 : Int) * (x5 % (3 : Int))) ∧ ((3 : Int) * (x5 % (3 : Int))) ≤ 9223372036854775807) <|
  chk (-9223372036854775808 ≤ (((3 : Int) * (x5 % (3 : Int))) + (1 : Int)) ∧ (((3 : Int) * (x5 % (3 : Int))) + (1 : Int)) ≤ 9223372036854775807) <|
  if (((r6.2.2 != (0 : Int)) || (r7.2.2 != (0 : Int))) || (r8.2.2 != (0 : Int))) then (
  some false
  ) else (
  jn (fun (_ : Unit) =>
  some true
  ) fun (K1 : Unit → Option Bool) =>
  f5_L0 x5 r6 r7 r8 K1 FUEL 0
  )
set_option maxRecDepth 100000 in
theorem f5_ok  (x1 : Int) (x2 : Int) (x3 : Int) (x4 : Int) (x5 : Int) (r : Bool) (h : f5 x1 x2 x3 x4 x5 = some r)  : Spec1 Tryd.prog 5 [(0, .elem 32 1 T0F 0 0)] [] [] [.agg [.int .u8 x1, .int .u8 x2, .int .u8 x3], .int .u8 x4, .int .u8 x5] (.bool r) [] := by
  unfold f5 at h
  refine Spec1.body 0 _ _ Tryd.func5 rfl Tryd.ntmps5 rfl rfl ?_
  refine q2rq [] [] ⟨143, [(1, .int .u8 x4), (2, .int .u8 x5), (3, .ptr 3 0), (1000000, .elem 32 1 T0F 0 0)], [(3, .cells 54 [.int .u8 x1, .int .u8 x2, .int .u8 x3])], [], 0⟩ trivial ?_
  refine AWp.seq ?_
  obtain ⟨r6, hr6, h⟩ := bind_ok h
  have ob0 : 0 ≤ (0 : Int) ∧ (0 : Int) < 3 := by first | decide | omega | simp | (intro h; cases h)
  obtain ⟨ob1, ob2, ob3, h⟩ := ck3 h
  have ob4 : 0 ≤ (1 : Int) ∧ (1 : Int) < 3 := by first | decide | omega | simp | (intro h; cases h)
  obtain ⟨ob5, ob6, ob7, h⟩ := ck3 h
  have ob8 : 0 ≤ (2 : Int) ∧ (2 : Int) < 3 := by first | decide | omega | simp | (intro h; cases h)
  obtain ⟨ob9, ob10, ob11, h⟩ := ck3 h
  refine q2rr [] [(16, ⟨[.own 38], [38], [], [], .tup [.agg (f5z2 r6), .i r6.2.2], [], [], []⟩)] ⟨143, [(1, .int .u8 x4), (2, .int .u8 x5), (7, .ptr 7 0), (8, .i r6.2.2), (1000000, .elem 32 1 T0F 0 0)], [(7, .cells 28 (f5z2 r6))], [], 0⟩ (ac6 ob0 ob1 ob2 ob3 ob4 ob5 (ac6 ob6 ob7 ob8 ob9 ob10 ob11 (an2 (show (callP Tryd.prog true 20 [] [] [(38, .rows 3 1 3 (lstF 1 [.i ((1 : Int) + (x1 % (2 : Int))), .i ((1 : Int) + (x2 % (3 : Int))), .i ((1 : Int) + (x3 % (3 : Int)))]))] [] [] [.own 38] [.own 38] (.tup [.agg (f5z2 r6), .i r6.2.2]) []) from ⟨fun _ => (Spec1.pre (f20_ok _ _ hr6) rfl rfl rfl (Le.trans (Le.mk (s' := ⟨1, [(0, .own 38)], [(38, q2bI_3 [((1 : Int) + (x1 % (2 : Int))), ((1 : Int) + (x2 % (3 : Int))), ((1 : Int) + (x3 % (3 : Int)))])], [], 0⟩) rfl rfl ⟨.refl _, trivial⟩ ⟨⟨_, rfl, (BLe.of (RL.lst (enc := eI) [((1 : Int) + (x1 % (2 : Int))), ((1 : Int) + (x2 % (3 : Int))), ((1 : Int) + (x3 % (3 : Int)))] rfl rfl (fun _ => rfl)))⟩, trivial⟩) (Le.trans (Le.freeze 38 rfl rfl) (Le.mk (s' := ⟨1, [(0, q2aI [((1 : Int) + (x1 % (2 : Int))), ((1 : Int) + (x2 % (3 : Int))), ((1 : Int) + (x3 % (3 : Int)))])], [], [], 0⟩) rfl rfl ⟨.refl _, trivial⟩ trivial)))), fun _ => ⟨.refl _, trivial⟩, .inl rfl⟩) trivial))) ?_
  refine thenQ_normal ?_
  refine AWp.seq ?_
  obtain ⟨r7, hr7, h⟩ := bind_ok h
  obtain ⟨ob12, ob13, ob14, h⟩ := ck3 h
  refine q2rr [] [(4, ⟨[.i ((1 : Int) + (x4 % (3 : Int)))], [], [], [], .tup [.agg (f5z4 r7), .i r7.2.2], [], [], []⟩)] ⟨143, [(2, .int .u8 x5), (7, .ptr 7 0), (8, .i r6.2.2), (9, .ptr 9 0), (10, .i r7.2.2), (1000000, .elem 32 1 T0F 0 0)], [(7, .cells 28 (f5z2 r6)), (9, .cells 28 (f5z4 r7))], [], 0⟩ (an5 ob12 ob13 ob14 (cpT (f21_ok _ _ hr7)) trivial) ?_
  refine thenQ_normal ?_
  refine AWp.seq ?_
  obtain ⟨ob15, ob16, h⟩ := ck2 h
  refine q2rr [] [] ⟨143, [(7, .ptr 7 0), (8, .i r6.2.2), (9, .ptr 9 0), (10, .i r7.2.2), (11, .i (x5 % (3 : Int))), (1000000, .elem 32 1 T0F 0 0)], [(7, .cells 28 (f5z2 r6)), (9, .cells 28 (f5z4 r7))], [], 0⟩ (an2 ob15 ob16) ?_
  refine thenQ_normal ?_
  refine AWp.seq ?_
  obtain ⟨r8, hr8, h⟩ := bind_ok h
  obtain ⟨ob17, ob18, h⟩ := ck2 h
  refine q2rr [] [(4, ⟨[.i (((3 : Int) * (x5 % (3 : Int))) + (1 : Int)), .i (x5 % (3 : Int))], [], [], [], .tup [.agg (f5z8 r8), .i r8.2.2], [], [], []⟩)] ⟨143, [(7, .ptr 7 0), (8, .i r6.2.2), (9, .ptr 9 0), (10, .i r7.2.2), (11, .i (x5 % (3 : Int))), (12, .ptr 12 0), (13, .i r8.2.2), (1000000, .elem 32 1 T0F 0 0)], [(7, .cells 28 (f5z2 r6)), (9, .cells 28 (f5z4 r7)), (12, .cells 28 (f5z8 r8))], [], 0⟩ (an4 ob17 ob18 (cpT (f22_ok _ _ _ hr8)) trivial) ?_
  refine thenQ_normal ?_
  refine AWp.seq ?_
  refine AWp.seq ?_
  have ob19 := idA (((r6.2.2 != (0 : Int)) == false) = true)
  have ob20 := bqA (r6.2.2 != (0 : Int)) false
  have ob21 := idA ((((r6.2.2 != (0 : Int)) || (r7.2.2 != (0 : Int))) == false) = true)
  have ob22 := bqA ((r6.2.2 != (0 : Int)) || (r7.2.2 != (0 : Int))) false
  refine q2rr [] [] ⟨143, [(7, .ptr 7 0), (9, .ptr 9 0), (11, .i (x5 % (3 : Int))), (12, .ptr 12 0), (70, .bool (((r6.2.2 != (0 : Int)) || (r7.2.2 != (0 : Int))) || (r8.2.2 != (0 : Int)))), (1000000, .elem 32 1 T0F 0 0)], [(7, .cells 28 (f5z2 r6)), (9, .cells 28 (f5z4 r7)), (12, .cells 28 (f5z8 r8))], [], 0⟩ (an4 (an1 ob19) ob20 (an1 ob21) ob22) ?_
  refine thenQ_normal ?_
  refine AWp.cond (b := (((r6.2.2 != (0 : Int)) || (r7.2.2 != (0 : Int))) || (r8.2.2 != (0 : Int)))) (by kernel_rfl) (fun hc1 => ?_) (fun hc1 => ?_)
  ·
    replace h := ite_tb hc1 h
    refine q2rq [] [] ⟨143, [(6, .bool false), (1000000, .elem 32 1 T0F 0 0)], [], [], 0⟩ trivial ?_
    have hret := Option.some.inj h
    subst hret
    refine AWp.le (Le.mk (s' := ⟨143, [(6, .bool false)], [], [], 0⟩) rfl rfl ⟨.refl _, trivial⟩ trivial) ?_
    refine AWp.ret ?_
    refine thenQ_ret ?_
    exact bodyQ_ret _ rfl ⟨rfl, rfl⟩ rfl
  ·
    replace h := ite_fb hc1 h
    refine AWp.skip ?_
    refine thenQ_normal ?_
    obtain ⟨K1, hK1, h⟩ := jn_some h
    refine AWp.join (α := Unit) (fun (x : Unit) => match x with | () => ⟨143, [(1000000, .elem 32 1 T0F 0 0)], [], [], 0⟩) (fun x => K1 x = some r) ?_ ?_
    ·
      refine q2rq [] [] ⟨143, [(11, .i (x5 % (3 : Int))), (74, .own 74), (75, .i (3 : Int)), (76, .i (0 : Int)), (1000000, .elem 32 1 T0F 0 0)], [(74, .rows 28 2 3 (lstF 2 [q2aT67 r6.1, .i r6.2.1, q2aT67 r7.1, .i r7.2.1, q2aT67 r8.1, .i r8.2.1]))], [], 0⟩ trivial ?_
      refine AWp.le (Le.mk (s' := ⟨143, [(11, .i (x5 % (3 : Int))), (74, .own 74), (75, .i (3 : Int)), (76, .i (0 : Int)), (1000000, .elem 32 1 T0F 0 0)], (f5z0 r6 r7 r8), [], 0⟩) rfl rfl ⟨.refl _, .refl _, .refl _, .refl _, .refl _, trivial⟩ ⟨⟨_, rfl, (BLe.of (RL.lstV (enc := eLT67JI) [(r6.1, r6.2.1), (r7.1, r7.2.1), (r8.1, r8.2.1)] rfl ⟨.refl _, .refl _, .refl _, .refl _, .refl _, .refl _, trivial⟩ (fun _ => rfl)))⟩, trivial⟩) ?_
      refine AWp.block ?_
      refine AWp.loopL (α := Nat × Nat) (fun x => match x with | (_, n9) => ⟨143, [(11, .i (x5 % (3 : Int))), (74, .own 74), (75, .i (3 : Int)), (76, .i (n9 : Int)), (1000000, .elem 32 1 T0F 0 0)], (f5z0 r6 r7 r8), [], 0⟩) (fun x => f5_L0 x5 r6 r7 r8 K1 x.1 x.2 = some r) (fun x => x.1) (FUEL, 0) (Le.mk (s' := ⟨143, [(11, .i (x5 % (3 : Int))), (74, .own 74), (75, .i (3 : Int)), (76, .i (0 : Int)), (1000000, .elem 32 1 T0F 0 0)], (f5z0 r6 r7 r8), [], 0⟩) rfl rfl ⟨.refl _, .refl _, .refl _, .refl _, .refl _, trivial⟩ ⟨⟨_, rfl, .refl _⟩, trivial⟩) h ?_
      rintro ⟨k0, n9⟩ h
      cases k0 with
      | zero => exact nomatch (show (none : Option Bool) = some r from h)
      | succ k0 =>
      obtain ⟨C0, hC0⟩ : ∃ C, C = f5_L0 x5 r6 r7 r8 K1 k0 := ⟨_, rfl⟩
      replace h := (f5_L0.eq_2 ..).symm.trans h
      try rw [← hC0] at h
      refine q2rq [] [] ⟨143, [(11, .i (x5 % (3 : Int))), (74, .own 74), (75, .i (3 : Int)), (76, .i (n9 : Int)), (77, .bool (decide ((n9 : Int) < (3 : Int)))), (1000000, .elem 32 1 T0F 0 0)], (f5z0 r6 r7 r8), [], 0⟩ trivial ?_
      refine AWp.seq ?_
      refine AWp.cond (b := (decide ((n9 : Int) < (3 : Int)))) (by kernel_rfl) (fun hc2 => ?_) (fun hc2 => ?_)
      ·
        replace h := ite_tb hc2 h
        refine AWp.skip ?_
        refine thenQ_normal ?_
        obtain ⟨K2, hK2, h⟩ := jn_some h
        refine AWp.join (α := Unit) (fun (x : Unit) => match x with | () => ⟨143, [(11, .i (x5 % (3 : Int))), (74, .own 74), (75, .i (3 : Int)), (76, .i (n9 : Int)), (1000000, .elem 32 1 T0F 0 0)], (f5z0 r6 r7 r8), [], 0⟩) (fun x => K2 x = some r) ?_ ?_
        ·
          refine AWp.block ?_
          refine AWp.seq ?_
          obtain ⟨ob23p, h⟩ := chk_some h
          have ob23 : 0 ≤ (n9 : Int) ∧ (n9 : Int) < ((([(r6.1, r6.2.1), (r7.1, r7.2.1), (r8.1, r8.2.1)]).length : Nat) : Int) := ⟨by omega, ob23p⟩
          obtain ⟨ob24, h⟩ := chk_some h
          refine q2rr [] [] ⟨143, [(11, .i (x5 % (3 : Int))), (14, .i (n9 : Int)), (15, .ptr 15 0), (74, .own 74), (75, .i (3 : Int)), (76, .i (n9 : Int)), (1000000, .elem 32 1 T0F 0 0)], [(15, .cells 28 [q2aT67 ([(r6.1, r6.2.1), (r7.1, r7.2.1), (r8.1, r8.2.1)].getD n9 (default : (f5z5) × Int)).1, .i ([(r6.1, r6.2.1), (r7.1, r7.2.1), (r8.1, r8.2.1)].getD n9 (default : (f5z5) × Int)).2]), (74, bL 28 2 eLT67JI (default : (f5z5) × Int) [(r6.1, r6.2.1), (r7.1, r7.2.1), (r8.1, r8.2.1)])], [], 0⟩ (an3 ob23 ob24 trivial) ?_
          refine thenQ_normal ?_
          refine AWp.seq ?_
          obtain ⟨r10, hr10, h⟩ := bind_ok h
          refine q2rr [] [(1, ⟨[.agg [q2aT67 ([(r6.1, r6.2.1), (r7.1, r7.2.1), (r8.1, r8.2.1)].getD n9 (default : (f5z5) × Int)).1, .i ([(r6.1, r6.2.1), (r7.1, r7.2.1), (r8.1, r8.2.1)].getD n9 (default : (f5z5) × Int)).2]], [], [], [], .tup [q2aW r10.1, .i r10.2], [], [], [0]⟩)] ⟨143, [(11, .i (x5 % (3 : Int))), (14, .i (n9 : Int)), (16, q2aW r10.1), (17, .i r10.2), (74, .own 74), (75, .i (3 : Int)), (76, .i (n9 : Int)), (1000000, .elem 32 1 T0F 0 0)], (f5z0 r6 r7 r8), [], 0⟩ (an1 (cpT (f8_ok _ _ _ hr10))) ?_
          refine thenQ_normal ?_
          refine AWp.seq ?_
          refine AWp.seq ?_
          obtain ⟨r11, hr11, h⟩ := optc_some h
          have ob25 := idA (((r10.2 != (0 : Int)) == false) = true)
          have ob26 := idA (((r10.2 != (0 : Int)) == false) = true)
          have ob27 := bqA (r10.2 != (0 : Int)) false
          refine q2rr [] [(4, ⟨[q2aW r10.1], [], [], [], .bool r11, [], [], []⟩)] ⟨143, [(11, .i (x5 % (3 : Int))), (14, .i (n9 : Int)), (16, q2aW r10.1), (74, .own 74), (75, .i (3 : Int)), (76, .i (n9 : Int)), (92, .bool ((r10.2 != (0 : Int)) || (!r11))), (1000000, .elem 32 1 T0F 0 0)], (f5z0 r6 r7 r8), [], 0⟩ (an3 (And.intro (cpC fun hc => (f16_ok _ _ (hr11 hc))) (an1 ob25)) (an1 ob26) ob27) ?_
          refine thenQ_normal ?_
          refine AWp.cond (b := ((r10.2 != (0 : Int)) || (!r11))) (by kernel_rfl) (fun hc3 => ?_) (fun hc3 => ?_)
          ·
            replace h := ite_tb hc3 h
            refine q2rq [] [] ⟨143, [(6, .bool false), (1000000, .elem 32 1 T0F 0 0)], [], [], 0⟩ trivial ?_
            have hret := Option.some.inj h
            subst hret
            refine AWp.le (Le.mk (s' := ⟨143, [(6, .bool false)], [], [], 0⟩) rfl rfl ⟨.refl _, trivial⟩ trivial) ?_
            refine AWp.ret ?_
            refine thenQ_ret ?_
            refine blockQ_ret ?_
            refine joinQ_ret ?_
            refine thenQ_ret ?_
            refine blockQ_ret ?_
            refine joinQ_ret ?_
            exact bodyQ_ret _ rfl ⟨rfl, rfl⟩ rfl
          ·
            replace h := ite_fb hc3 h
            refine AWp.skip ?_
            refine thenQ_normal ?_
            refine AWp.seq ?_
            obtain ⟨r12, hr12, h⟩ := bind_ok h
            refine q2rr [] [(1, ⟨[q2aW r10.1], [], [], [], .tup [q2aW r12.1, .i r12.2], [], [], [0]⟩)] ⟨143, [(11, .i (x5 % (3 : Int))), (14, .i (n9 : Int)), (16, q2aW r10.1), (18, q2aW r12.1), (19, .i r12.2), (74, .own 74), (75, .i (3 : Int)), (76, .i (n9 : Int)), (1000000, .elem 32 1 T0F 0 0)], (f5z0 r6 r7 r8), [], 0⟩ (an1 (cpT (f23_ok _ _ hr12))) ?_
            refine thenQ_normal ?_
            refine AWp.seq ?_
            refine AWp.seq ?_
            obtain ⟨r13, hr13, h⟩ := optc_some h
            obtain ⟨r14, hr14, h⟩ := optc_some h
            obtain ⟨r15, hr15, h⟩ := optc_some h
            have ob28 := idA (((f5z7 r12) == false) = true)
            have ob29 := idA (((f5z7 r12) == false) = true)
            have ob30 := idA (((f5z7 r12) == false) = true)
            have ob31 := bqA (f5z7 r12) false
            have ob32 := idA ((((f5z7 r12) || (!r13)) == false) = true)
            have ob33 := idA ((((f5z7 r12) || (!r13)) == false) = true)
            have ob34 := idA ((((f5z7 r12) || (!r13)) == false) = true)
            have ob35 := bqA ((f5z7 r12) || (!r13)) false
            have ob36 := idA ((f5z3 r12 r13 r14) = true)
            have ob37 := idA ((f5z3 r12 r13 r14) = true)
            have ob38 := idA (((f5z3 r12 r13 r14) && (f5z6 n9)) = true)
            have ob39 := idA (((f5z3 r12 r13 r14) && (f5z6 n9)) = true)
            have ob40 := idA (((f5z3 r12 r13 r14) && (f5z6 n9)) = true)
            obtain ⟨ob41, h⟩ := chk_some h
            have ob42 := idA ((f5z3 r12 r13 r14) = true)
            have ob43 : true = true → (((f5z7 r12) || (!r13)) || (!r14)) = false → (f5z3 r12 r13 r14) = true := fun _ h => beq_iff_eq.2 h
            refine q2rr [] [(5, ⟨[q2aW r10.1, q2aW r12.1], [], [], [], .bool r13, [], [], []⟩), (11, ⟨[q2aW r12.1, q2aW r12.1], [], [], [], .bool r14, [], [], [0]⟩), (20, ⟨[q2aW r10.1, q2aW r12.1], [], [], [], .bool r15, [], [], []⟩)] ⟨143, [(11, .i (x5 % (3 : Int))), (14, .i (n9 : Int)), (16, q2aW r10.1), (74, .own 74), (75, .i (3 : Int)), (76, .i (n9 : Int)), (121, .bool ((((f5z7 r12) || (!r13)) || (!r14)) || (((n9 : Int) == (1 : Int)) && (!r15)))), (1000000, .elem 32 1 T0F 0 0)], (f5z0 r6 r7 r8), [], 0⟩ (ac6 (And.intro (cpC fun hc => (f24_ok _ _ _ (hr13 hc))) (an2 ob28 ob29)) (an1 ob30) ob31 (And.intro (cpC fun hc => (f19_ok _ _ _ (hr14 hc))) (an2 ob32 ob33)) (an1 ob34) ob35 (an6 (an1 ob36) (an1 ob37) (And.intro (cpC fun hc => (f14_ok _ _ _ (hr15 hc))) (an2 ob38 ob39)) (an1 ob40) (And.intro ob41 (an1 ob42)) ob43)) ?_
            refine thenQ_normal ?_
            refine AWp.cond (b := ((((f5z7 r12) || (!r13)) || (!r14)) || (((n9 : Int) == (1 : Int)) && (!r15)))) (by kernel_rfl) (fun hc4 => ?_) (fun hc4 => ?_)
            ·
              replace h := ite_tb hc4 h
              refine q2rq [] [] ⟨143, [(6, .bool false), (1000000, .elem 32 1 T0F 0 0)], [], [], 0⟩ trivial ?_
              have hret := Option.some.inj h
              subst hret
              refine AWp.le (Le.mk (s' := ⟨143, [(6, .bool false)], [], [], 0⟩) rfl rfl ⟨.refl _, trivial⟩ trivial) ?_
              refine AWp.ret ?_
              refine thenQ_ret ?_
              refine blockQ_ret ?_
              refine joinQ_ret ?_
              refine thenQ_ret ?_
              refine blockQ_ret ?_
              refine joinQ_ret ?_
              exact bodyQ_ret _ rfl ⟨rfl, rfl⟩ rfl
            ·
              replace h := ite_fb hc4 h
              refine AWp.skip ?_
              refine thenQ_normal ?_
              refine q2rq [] [] ⟨143, [(11, .i (x5 % (3 : Int))), (14, .i (n9 : Int)), (16, q2aW r10.1), (74, .own 74), (75, .i (3 : Int)), (76, .i (n9 : Int)), (122, q2aW r10.1), (123, .i (lZ r10.1)), (124, .i (0 : Int)), (1000000, .elem 32 1 T0F 0 0)], (f5z0 r6 r7 r8), [], 0⟩ trivial ?_
              refine AWp.block ?_
              refine AWp.loopL (α := Nat × Nat) (fun x => match x with | (_, n16) => ⟨143, [(11, .i (x5 % (3 : Int))), (14, .i (n9 : Int)), (16, q2aW r10.1), (74, .own 74), (75, .i (3 : Int)), (76, .i (n9 : Int)), (122, q2aW r10.1), (123, .i (lZ r10.1)), (124, .i (n16 : Int)), (1000000, .elem 32 1 T0F 0 0)], (f5z0 r6 r7 r8), [], 0⟩) (fun x => f5_L1 x5 n9 K2 r10 x.1 x.2 = some r) (fun x => x.1) (FUEL, 0) (Le.mk (s' := ⟨143, [(11, .i (x5 % (3 : Int))), (14, .i (n9 : Int)), (16, q2aW r10.1), (74, .own 74), (75, .i (3 : Int)), (76, .i (n9 : Int)), (122, q2aW r10.1), (123, .i (lZ r10.1)), (124, .i (0 : Int)), (1000000, .elem 32 1 T0F 0 0)], (f5z0 r6 r7 r8), [], 0⟩) rfl rfl ⟨.refl _, .refl _, .refl _, .refl _, .refl _, .refl _, .refl _, .refl _, .refl _, .refl _, trivial⟩ ⟨⟨_, rfl, .refl _⟩, trivial⟩) h ?_
              rintro ⟨k1, n16⟩ h
              cases k1 with
              | zero => exact nomatch (show (none : Option Bool) = some r from h)
              | succ k1 =>
              obtain ⟨C1, hC1⟩ : ∃ C, C = f5_L1 x5 n9 K2 r10 k1 := ⟨_, rfl⟩
              replace h := (f5_L1.eq_2 ..).symm.trans h
              try rw [← hC1] at h
              refine q2rq [] [] ⟨143, [(11, .i (x5 % (3 : Int))), (14, .i (n9 : Int)), (16, q2aW r10.1), (74, .own 74), (75, .i (3 : Int)), (76, .i (n9 : Int)), (122, q2aW r10.1), (123, .i (lZ r10.1)), (124, .i (n16 : Int)), (125, .bool (decide ((n16 : Int) < (lZ r10.1)))), (1000000, .elem 32 1 T0F 0 0)], (f5z0 r6 r7 r8), [], 0⟩ trivial ?_
              refine AWp.seq ?_
              refine AWp.cond (b := (decide ((n16 : Int) < (lZ r10.1)))) (by kernel_rfl) (fun hc5 => ?_) (fun hc5 => ?_)
              ·
                replace h := ite_tb hc5 h
                refine AWp.skip ?_
                refine thenQ_normal ?_
                refine AWp.seq ?_
                refine AWp.block ?_
                refine AWp.seq ?_
                obtain ⟨ob44p, h⟩ := chk_some h
                have ob44 : 0 ≤ (n16 : Int) ∧ (n16 : Int) < (((r10.1).length : Nat) : Int) := ⟨by omega, ob44p⟩
                refine q2rr [] [] ⟨143, [(11, .i (x5 % (3 : Int))), (14, .i (n9 : Int)), (16, q2aW r10.1), (21, .b16 (r10.1.getD n16 0#16)), (74, .own 74), (75, .i (3 : Int)), (76, .i (n9 : Int)), (122, q2aW r10.1), (123, .i (lZ r10.1)), (124, .i (n16 : Int)), (1000000, .elem 32 1 T0F 0 0)], (f5z0 r6 r7 r8), [], 0⟩ (an1 ob44) ?_
                refine thenQ_normal ?_
                refine AWp.seq ?_
                obtain ⟨r17, hr17, h⟩ := optc_some h
                obtain ⟨ob45, h⟩ := chk_some h
                have ob46 := idA ((f5z1 n9) = true)
                have ob47 := idA ((f5z1 n9) = true)
                have ob48 := idA ((f5z1 n9) = true)
                have ob49 := idA ((f5z1 n9) = true)
                have ob50 := idA ((f5z1 n9) = true)
                obtain ⟨ob51, h⟩ := chk_some h
                have ob52 := idA ((f5z1 n9) = true)
                have ob53 := idA ((f5z1 n9) = true)
                have ob54 := idA ((f5z1 n9) = true)
                have ob55 : true = true → ((n9 : Int) == (2 : Int)) = true → (f5z1 n9) = true := fun _ h => beq_iff_eq.2 h
                refine q2rr [] [(8, ⟨[.b16 ((r10.1.getD n16 0#16) &&& (r10.1.getD 0 0#16))], [], [], [], .i r17, [], [], []⟩)] ⟨143, [(11, .i (x5 % (3 : Int))), (14, .i (n9 : Int)), (16, q2aW r10.1), (74, .own 74), (75, .i (3 : Int)), (76, .i (n9 : Int)), (122, q2aW r10.1), (123, .i (lZ r10.1)), (124, .i (n16 : Int)), (140, .bool (((n9 : Int) == (2 : Int)) && (decide (r17 < ((x5 % (3 : Int)) + (1 : Int)))))), (1000000, .elem 32 1 T0F 0 0)], (f5z0 r6 r7 r8), [], 0⟩ (ac6 (And.intro ob45 (an1 ob46)) (an1 ob47) (an2 ob48 ob49) (And.intro (cpC fun hc => (f17_ok _ _ (hr17 hc))) (an1 ob50)) (And.intro ob51 (an1 ob52)) (an2 ob53 ob54) (an1 ob55)) ?_
                refine thenQ_normal ?_
                refine AWp.cond (b := (((n9 : Int) == (2 : Int)) && (decide (r17 < ((x5 % (3 : Int)) + (1 : Int)))))) (by kernel_rfl) (fun hc6 => ?_) (fun hc6 => ?_)
                ·
                  replace h := ite_tb hc6 h
                  refine q2rq [] [] ⟨143, [(6, .bool false), (1000000, .elem 32 1 T0F 0 0)], [], [], 0⟩ trivial ?_
                  have hret := Option.some.inj h
                  subst hret
                  refine AWp.le (Le.mk (s' := ⟨143, [(6, .bool false)], [], [], 0⟩) rfl rfl ⟨.refl _, trivial⟩ trivial) ?_
                  refine AWp.ret ?_
                  refine blockQ_ret ?_
                  refine thenQ_ret ?_
                  refine thenQ_ret ?_
                  refine blockQ_ret ?_
                  refine blockQ_ret ?_
                  refine joinQ_ret ?_
                  refine thenQ_ret ?_
                  refine blockQ_ret ?_
                  refine joinQ_ret ?_
                  exact bodyQ_ret _ rfl ⟨rfl, rfl⟩ rfl
                ·
                  replace h := ite_fb hc6 h
                  refine AWp.skip ?_
                  refine blockQ_normal ?_
                  refine thenQ_normal ?_
                  obtain ⟨ob56p, h⟩ := chk_some h
                  have ob56 : -9223372036854775808 ≤ ((n16 : Int) + (1 : Int)) ∧ ((n16 : Int) + (1 : Int)) ≤ 9223372036854775807 := ⟨by omega, ob56p⟩
                  refine q2rr [] [] ⟨143, [(11, .i (x5 % (3 : Int))), (14, .i (n9 : Int)), (16, q2aW r10.1), (74, .own 74), (75, .i (3 : Int)), (76, .i (n9 : Int)), (122, q2aW r10.1), (123, .i (lZ r10.1)), (124, .i (((n16 + 1) : Nat) : Int)), (1000000, .elem 32 1 T0F 0 0)], (f5z0 r6 r7 r8), [], 0⟩ (an1 ob56) ?_
                  rw [hC1] at h
                  exact loopQ_normal (_, (n16 + 1)) (Le.mk rfl rfl ⟨.refl _, .refl _, .refl _, .refl _, .refl _, .refl _, .refl _, .refl _, .refl _, .refl _, trivial⟩ ⟨⟨_, rfl, .refl _⟩, trivial⟩) h (Nat.lt_succ_self _)
              ·
                replace h := ite_fb hc5 h
                refine AWp.exit ?_
                refine thenQ_exit ?_
                refine thenQ_exit ?_
                refine blockQ_same ?_
                refine blockQ_normal ?_
                exact joinQ_normal () (Le.mk rfl rfl ⟨.refl _, .refl _, .refl _, .refl _, .refl _, trivial⟩ ⟨⟨_, rfl, .refl _⟩, trivial⟩) h
        ·
          rintro ⟨⟩ h
          replace h := (congrFun hK2 _).symm.trans h
          obtain ⟨ob57p, h⟩ := chk_some h
          have ob57 : -9223372036854775808 ≤ ((n9 : Int) + (1 : Int)) ∧ ((n9 : Int) + (1 : Int)) ≤ 9223372036854775807 := ⟨by omega, ob57p⟩
          refine q2rr [] [] ⟨143, [(11, .i (x5 % (3 : Int))), (74, .own 74), (75, .i (3 : Int)), (76, .i (((n9 + 1) : Nat) : Int)), (1000000, .elem 32 1 T0F 0 0)], (f5z0 r6 r7 r8), [], 0⟩ (an1 ob57) ?_
          rw [hC0] at h
          exact loopQ_normal (_, (n9 + 1)) (Le.mk rfl rfl ⟨.refl _, .refl _, .refl _, .refl _, .refl _, trivial⟩ ⟨⟨_, rfl, .refl _⟩, trivial⟩) h (Nat.lt_succ_self _)
      ·
        replace h := ite_fb hc2 h
        refine AWp.exit ?_
        refine thenQ_exit ?_
        refine thenQ_exit ?_
        refine blockQ_same ?_
        exact joinQ_normal () (Le.mk rfl rfl ⟨.refl _, trivial⟩ trivial) h
    ·
      rintro ⟨⟩ h
      replace h := (congrFun hK1 _).symm.trans h
      refine q2rq [] [] ⟨143, [(6, .bool true), (1000000, .elem 32 1 T0F 0 0)], [], [], 0⟩ trivial ?_
      have hret := Option.some.inj h
      subst hret
      refine AWp.le (Le.mk (s' := ⟨143, [(6, .bool true)], [], [], 0⟩) rfl rfl ⟨.refl _, trivial⟩ trivial) ?_
      refine AWp.ret ?_
      exact bodyQ_ret _ rfl ⟨rfl, rfl⟩ rfl
end Go.Abs
