/- Part 28 of the proof: X8t. -/
import Derived.Test.YtalhjegdidkflaaGreatDoorFamtxtZ27
namespace Go.Abs
open Go Go.Proofs
set_option maxHeartbeats 4000000
def eW (x : BitVec 16) : List V := [.b16 x]
theorem eW_flat (x : BitVec 16) (j : Nat) : ((eW x).getD j .any).flat = true := by
  match j with
  | 0 => rfl
  | _ + 1 => rfl
def eB (x : Bool) : List V := [.bool x]
instance : DecidableEq (List (BitVec 16)) := inferInstance
def eLWJ (x : List (BitVec 16)) : List V := [vL 1 eW 0#16 x]
def eS (x : List UInt8) : List V := [.str x]
def cs1 : List UInt8 := [123, 48, 32, 49, 32, 51, 125, 32, 123, 48, 32, 50, 32, 51, 125, 32, 123, 49, 32, 50, 32, 51, 125]
def cs2 : List UInt8 := [0, 1, 2, 2, 3, 3, 3, 3, 4, 4, 4, 4, 4, 4, 4, 4, 5, 5, 5, 5, 5, 5, 5, 5, 5, 5, 5, 5, 5, 5, 5, 5, 6, 6, 6, 6, 6, 6, 6, 6, 6, 6, 6, 6, 6, 6, 6, 6, 6, 6, 6, 6, 6, 6, 6, 6, 6, 6, 6, 6, 6, 6, 6, 6, 7, 7, 7, 7, 7, 7, 7, 7, 7, 7, 7, 7, 7, 7, 7, 7, 7, 7, 7, 7, 7, 7, 7, 7, 7, 7, 7, 7, 7, 7, 7, 7, 7, 7, 7, 7, 7, 7, 7, 7, 7, 7, 7, 7, 7, 7, 7, 7, 7, 7, 7, 7, 7, 7, 7, 7, 7, 7, 7, 7, 7, 7, 7, 7, 8, 8, 8, 8, 8, 8, 8, 8, 8, 8, 8, 8, 8, 8, 8, 8, 8, 8, 8, 8, 8, 8, 8, 8, 8, 8, 8, 8, 8, 8, 8, 8, 8, 8, 8, 8, 8, 8, 8, 8, 8, 8, 8, 8, 8, 8, 8, 8, 8, 8, 8, 8, 8, 8, 8, 8, 8, 8, 8, 8, 8, 8, 8, 8, 8, 8, 8, 8, 8, 8, 8, 8, 8, 8, 8, 8, 8, 8, 8, 8, 8, 8, 8, 8, 8, 8, 8, 8, 8, 8, 8, 8, 8, 8, 8, 8, 8, 8, 8, 8, 8, 8, 8, 8, 8, 8, 8, 8, 8, 8, 8, 8, 8, 8, 8, 8, 8, 8, 8, 8, 8, 8, 8, 8, 8, 8, 8, 8]
abbrev q2bI_3 (l : List (Int)) : Blk := bL 3 1 eI 0 l
abbrev q2aW (l : List (BitVec 16)) : V := vL 1 eW 0#16 l
abbrev q2bW_30 (l : List (BitVec 16)) : Blk := bL 30 1 eW 0#16 l
abbrev q2bB_4 (l : List (Bool)) : Blk := bL 4 1 eB false l
abbrev q2aLWJ (l : List (List (BitVec 16))) : V := vL 1 eLWJ [] l
abbrev q2bS_9 (l : List (List UInt8)) : Blk := bL 9 1 eS [] l
abbrev q2w16 (i : Int) : BitVec 16 := BitVec.ofInt 16 i
theorem q2rq {Q : Exit → S → Prop} {id : Nat} {draw : Bool} {y : Code} (W : List Nat) (calls : List (Nat × CC)) {l : List Oper} {s : S} (s' : S) {φ : Prop} (hφ : φ) (hQ : AWp Tryz.prog y Q s') (h : Abs.regC Tryz.prog W draw calls (s'.t.map (·.1)) (s'.h.map (·.1)) l s = some (s', φ) := by kernel_rfl) : AWp Tryz.prog (.seq (.region id l.toArray draw) y) Q s := AWp.sq W calls _ _ s' φ Tryz_mixed h hφ hQ
theorem q2rr {Q : Exit → S → Prop} {id : Nat} {draw : Bool} (W : List Nat) (calls : List (Nat × CC)) {l : List Oper} {s : S} (s' : S) {φ : Prop} (hφ : φ) (hQ : Q .normal s') (h : Abs.regC Tryz.prog W draw calls (s'.t.map (·.1)) (s'.h.map (·.1)) l s = some (s', φ) := by kernel_rfl) : AWp Tryz.prog (.region id l.toArray draw) Q s := AWp.regC W calls _ _ s' φ Tryz_mixed h hφ hQ
def f54 (x1 : BitVec 16) (x2 : BitVec 16) : Option Bool :=
  some ((x2 &&& ~~~x1) == (BitVec.ofInt 16 0))
set_option maxRecDepth 100000 in
theorem f54_ok  (x1 : BitVec 16) (x2 : BitVec 16) (r : Bool) (h : f54 x1 x2 = some r)  : Spec1 Tryz.prog 54 [] [] [] [.b16 x1, .b16 x2] (.bool r) [] := by
  unfold f54 at h
  refine Spec1.body 0 _ _ Tryz.func54 rfl Tryz.ntmps54 rfl rfl ?_
  refine q2rq [] [] ⟨9, [(0, .b16 x1), (1, .b16 x2)], [], [], 0⟩ trivial ?_
  refine q2rq [] [] ⟨9, [(4, .bool ((x2 &&& ~~~x1) == (q2w16 0)))], [], [], 0⟩ trivial ?_
  have hret := Option.some.inj h
  subst hret
  refine AWp.le (Le.mk (s' := ⟨9, [(4, .bool ((x2 &&& ~~~x1) == (q2w16 0)))], [], [], 0⟩) rfl rfl ⟨.refl _, trivial⟩ trivial) ?_
  refine AWp.ret ?_
  exact bodyQ_ret _ rfl ⟨rfl, rfl⟩ rfl
def f64 (x1 : BitVec 16) (x2 : BitVec 16) : Option (Bool × BitVec 16) :=
  (f54 x2 x1).bind fun (r3 : Bool) =>
  some (r3, x2)
set_option maxRecDepth 100000 in
theorem f64_ok  (x1 : BitVec 16) (x2 : BitVec 16) (r : Bool × BitVec 16) (h : f64 x1 x2 = some r)  : Spec1 Tryz.prog 64 [] [2000] [(2000, .cells 30 [.b16 x2])] [.b16 x1, .ptr 2000 0] (.bool r.1) [(2000, .cells 30 [.b16 r.2])] := by
  unfold f64 at h
  refine Spec1.body 0 _ _ Tryz.func64 rfl Tryz.ntmps64 rfl rfl ?_
  refine q2rq [] [] ⟨7, [(0, .b16 x1), (1, .ptr 2000 0)], [(2000, .cells 30 [.b16 x2])], [2000], 0⟩ trivial ?_
  refine AWp.seq ?_
  obtain ⟨r3, hr3, h⟩ := bind_ok h
  refine q2rr [] [(2, ⟨[.b16 x2, .b16 x1], [], [], [], .bool r3, [], [], []⟩)] ⟨7, [(3, .bool r3)], [(2000, .cells 30 [.b16 x2])], [2000], 0⟩ (an1 (cpT (f54_ok _ _ _ hr3))) ?_
  refine thenQ_normal ?_
  have hret := Option.some.inj h
  subst hret
  refine AWp.le (Le.mk (s' := ⟨7, [(3, .bool r3)], [(2000, .cells 30 [.b16 x2])], [2000], 0⟩) rfl rfl ⟨.refl _, trivial⟩ ⟨⟨_, rfl, .refl _⟩, trivial⟩) ?_
  refine AWp.ret ?_
  exact bodyQ_ret _ rfl ⟨rfl, rfl⟩ rfl
def f72_L0 (x1 : List (BitVec 16)) (K1 : (BitVec 16) → Option (Int × BitVec 16)) : Nat → (Nat × BitVec 16) → Option (Int × BitVec 16)
  | 0, _ => none
  | k + 1, (n3, w4) =>
    if (decide ((n3 : Int) < (((x1).length : Nat) : Int))) then (
    (f64 (x1.getD n3 0#16) w4).bind fun (r5 : Bool × BitVec 16) =>
    chk ((n3 : Int) < (((x1).length : Nat) : Int)) <|
    if r5.1 then (
    some ((n3 : Int), r5.2)
    ) else (
    chk (((n3 : Int) + (1 : Int)) ≤ 9223372036854775807) <|
    (f72_L0 x1 K1 k) ((n3 + 1), r5.2)
    )
    ) else (
    K1 w4
    )
abbrev f72z0 (r5 : Bool × BitVec 16) : Heap := [(2000, .cells 30 [.b16 r5.2])]
def f72 (x1 : List (BitVec 16)) (x2 : BitVec 16) : Option (Int × BitVec 16) :=
  jn (fun (w6 : BitVec 16) =>
  some ((-1 : Int), w6)
  ) fun (K1 : (BitVec 16) → Option (Int × BitVec 16)) =>
  f72_L0 x1 K1 FUEL (0, x2)
set_option maxRecDepth 100000 in
theorem f72_ok  (x1 : List (BitVec 16)) (x2 : BitVec 16) (r : Int × BitVec 16) (h : f72 x1 x2 = some r)  : Spec1 Tryz.prog 72 [] [2000] [(2000, .cells 30 [.b16 x2])] [vL 1 eW 0#16 x1, .fn (.func 64) [.ptr 2000 0]] (.int .i64 r.1) [(2000, .cells 30 [.b16 r.2])] := by
  unfold f72 at h
  refine Spec1.body 0 _ _ Tryz.func72 rfl Tryz.ntmps72 rfl rfl ?_
  refine q2rq [] [] ⟨19, [(0, q2aW x1), (1, .fn (.func 64) [.ptr 2000 0])], [(2000, .cells 30 [.b16 x2])], [2000], 0⟩ trivial ?_
  obtain ⟨K1, hK1, h⟩ := jn_some h
  refine AWp.join (α := BitVec 16) (fun (w6 : BitVec 16) => ⟨19, [], [(2000, .cells 30 [.b16 w6])], [2000], 0⟩) (fun x => K1 x = some r) ?_ ?_
  ·
    refine q2rq [] [] ⟨19, [(0, q2aW x1), (1, .fn (.func 64) [.ptr 2000 0]), (7, .i (lZ x1)), (8, .i (0 : Int))], [(2000, .cells 30 [.b16 x2])], [2000], 0⟩ trivial ?_
    refine AWp.block ?_
    refine AWp.loopL (α := Nat × (Nat × BitVec 16)) (fun x => match x with | (_, n3, w4) => ⟨19, [(0, q2aW x1), (1, .fn (.func 64) [.ptr 2000 0]), (7, .i (lZ x1)), (8, .i (n3 : Int))], [(2000, .cells 30 [.b16 w4])], [2000], 0⟩) (fun x => f72_L0 x1 K1 x.1 x.2 = some r) (fun x => x.1) (FUEL, 0, x2) (Le.mk (s' := ⟨19, [(0, q2aW x1), (1, .fn (.func 64) [.ptr 2000 0]), (7, .i (lZ x1)), (8, .i (0 : Int))], [(2000, .cells 30 [.b16 x2])], [2000], 0⟩) rfl rfl ⟨.refl _, .refl _, .refl _, .refl _, trivial⟩ ⟨⟨_, rfl, .refl _⟩, trivial⟩) h ?_
    rintro ⟨k0, n3, w4⟩ h
    cases k0 with
    | zero => exact nomatch (show (none : Option (Int × BitVec 16)) = some r from h)
    | succ k0 =>
    obtain ⟨C0, hC0⟩ : ∃ C, C = f72_L0 x1 K1 k0 := ⟨_, rfl⟩
    replace h := (f72_L0.eq_2 ..).symm.trans h
    try rw [← hC0] at h
    refine q2rq [] [] ⟨19, [(0, q2aW x1), (1, .fn (.func 64) [.ptr 2000 0]), (7, .i (lZ x1)), (8, .i (n3 : Int)), (9, .bool (decide ((n3 : Int) < (lZ x1))))], [(2000, .cells 30 [.b16 w4])], [2000], 0⟩ trivial ?_
    refine AWp.seq ?_
    refine AWp.cond (b := (decide ((n3 : Int) < (lZ x1)))) (by kernel_rfl) (fun hc1 => ?_) (fun hc1 => ?_)
    ·
      replace h := ite_tb hc1 h
      refine AWp.skip ?_
      refine thenQ_normal ?_
      refine AWp.seq ?_
      refine AWp.block ?_
      refine q2rq [] [] ⟨19, [(0, q2aW x1), (1, .fn (.func 64) [.ptr 2000 0]), (5, .i (n3 : Int)), (7, .i (lZ x1)), (8, .i (n3 : Int))], [(2000, .cells 30 [.b16 w4])], [2000], 0⟩ trivial ?_
      refine AWp.seq ?_
      obtain ⟨r5, hr5, h⟩ := bind_ok h
      obtain ⟨ob0p, h⟩ := chk_some h
      have ob0 : 0 ≤ (n3 : Int) ∧ (n3 : Int) < (((x1).length : Nat) : Int) := ⟨by omega, ob0p⟩
      refine q2rr [] [(5, ⟨[.b16 (x1.getD n3 0#16), .ptr 2000 0], [2000], [2000], (f72z0 r5), .bool r5.1, [], [], []⟩)] ⟨19, [(0, q2aW x1), (1, .fn (.func 64) [.ptr 2000 0]), (5, .i (n3 : Int)), (7, .i (lZ x1)), (8, .i (n3 : Int)), (16, .bool r5.1)], (f72z0 r5), [2000], 0⟩ (an2 ob0 (cpT (f64_ok _ _ _ hr5))) ?_
      refine thenQ_normal ?_
      refine AWp.cond (b := r5.1) (by kernel_rfl) (fun hc2 => ?_) (fun hc2 => ?_)
      ·
        replace h := ite_tb hc2 h
        refine q2rq [] [] ⟨19, [(4, .i (n3 : Int))], (f72z0 r5), [2000], 0⟩ trivial ?_
        have hret := Option.some.inj h
        subst hret
        refine AWp.le (Le.mk (s' := ⟨19, [(4, .i (n3 : Int))], (f72z0 r5), [2000], 0⟩) rfl rfl ⟨.refl _, trivial⟩ ⟨⟨_, rfl, .refl _⟩, trivial⟩) ?_
        refine AWp.ret ?_
        refine blockQ_ret ?_
        refine thenQ_ret ?_
        refine thenQ_ret ?_
        refine blockQ_ret ?_
        refine joinQ_ret ?_
        exact bodyQ_ret _ rfl ⟨rfl, rfl⟩ rfl
      ·
        replace h := ite_fb hc2 h
        refine AWp.skip ?_
        refine blockQ_normal ?_
        refine thenQ_normal ?_
        obtain ⟨ob1p, h⟩ := chk_some h
        have ob1 : -9223372036854775808 ≤ ((n3 : Int) + (1 : Int)) ∧ ((n3 : Int) + (1 : Int)) ≤ 9223372036854775807 := ⟨by omega, ob1p⟩
        refine q2rr [] [] ⟨19, [(0, q2aW x1), (1, .fn (.func 64) [.ptr 2000 0]), (7, .i (lZ x1)), (8, .i (((n3 + 1) : Nat) : Int))], (f72z0 r5), [2000], 0⟩ (an1 ob1) ?_
        rw [hC0] at h
        exact loopQ_normal (_, (n3 + 1), r5.2) (Le.mk rfl rfl ⟨.refl _, .refl _, .refl _, .refl _, trivial⟩ ⟨⟨_, rfl, .refl _⟩, trivial⟩) h (Nat.lt_succ_self _)
    ·
      replace h := ite_fb hc1 h
      refine AWp.exit ?_
      refine thenQ_exit ?_
      refine thenQ_exit ?_
      refine blockQ_same ?_
      exact joinQ_normal (w4) (Le.mk rfl rfl trivial ⟨⟨_, rfl, .refl _⟩, trivial⟩) h
  ·
    rintro w6 h
    replace h := (congrFun hK1 _).symm.trans h
    refine q2rq [] [] ⟨19, [(4, .i (-1 : Int))], [(2000, .cells 30 [.b16 w6])], [2000], 0⟩ trivial ?_
    have hret := Option.some.inj h
    subst hret
    refine AWp.le (Le.mk (s' := ⟨19, [(4, .i (-1 : Int))], [(2000, .cells 30 [.b16 w6])], [2000], 0⟩) rfl rfl ⟨.refl _, trivial⟩ ⟨⟨_, rfl, .refl _⟩, trivial⟩) ?_
    refine AWp.ret ?_
    exact bodyQ_ret _ rfl ⟨rfl, rfl⟩ rfl
def f50 (x1 : List (BitVec 16)) (x2 : BitVec 16) : Option (Bool × BitVec 16) :=
  (f72 x1 x2).bind fun (r3 : Int × BitVec 16) =>
  some ((decide (r3.1 ≥ (0 : Int))), r3.2)
set_option maxRecDepth 100000 in
theorem f50_ok  (x1 : List (BitVec 16)) (x2 : BitVec 16) (r : Bool × BitVec 16) (h : f50 x1 x2 = some r)  : Spec1 Tryz.prog 50 [] [2000] [(2000, .cells 30 [.b16 x2])] [vL 1 eW 0#16 x1, .fn (.func 64) [.ptr 2000 0]] (.bool r.1) [(2000, .cells 30 [.b16 r.2])] := by
  unfold f50 at h
  refine Spec1.body 0 _ _ Tryz.func50 rfl Tryz.ntmps50 rfl rfl ?_
  refine q2rq [] [] ⟨9, [(0, q2aW x1), (1, .fn (.func 64) [.ptr 2000 0])], [(2000, .cells 30 [.b16 x2])], [2000], 0⟩ trivial ?_
  refine AWp.seq ?_
  obtain ⟨r3, hr3, h⟩ := bind_ok h
  refine q2rr [] [(2, ⟨[q2aW x1, .fn (.func 64) [.ptr 2000 0]], [2000], [2000], [(2000, .cells 30 [.b16 r3.2])], .i r3.1, [], [], []⟩)] ⟨9, [(4, .bool (decide (r3.1 ≥ (0 : Int))))], [(2000, .cells 30 [.b16 r3.2])], [2000], 0⟩ (an1 (cpT (f72_ok _ _ _ hr3))) ?_
  refine thenQ_normal ?_
  have hret := Option.some.inj h
  subst hret
  refine AWp.le (Le.mk (s' := ⟨9, [(4, .bool (decide (r3.1 ≥ (0 : Int))))], [(2000, .cells 30 [.b16 r3.2])], [2000], 0⟩) rfl rfl ⟨.refl _, trivial⟩ ⟨⟨_, rfl, .refl _⟩, trivial⟩) ?_
  refine AWp.ret ?_
  exact bodyQ_ret _ rfl ⟨rfl, rfl⟩ rfl
def f41 (x1 : List (BitVec 16)) (x2 : BitVec 16) : Option Bool :=
  (f50 x1 x2).bind fun (r3 : Bool × BitVec 16) =>
  some r3.1
set_option maxRecDepth 100000 in
theorem f41_ok  (x1 : List (BitVec 16)) (x2 : BitVec 16) (r : Bool) (h : f41 x1 x2 = some r)  : Spec1 Tryz.prog 41 [] [] [] [vL 1 eW 0#16 x1, .b16 x2] (.bool r) [] := by
  unfold f41 at h
  refine Spec1.body 0 _ _ Tryz.func41 rfl Tryz.ntmps41 rfl rfl ?_
  refine q2rq [] [] ⟨8, [(0, q2aW x1), (3, .ptr 3 0)], [(3, .cells 30 [.b16 x2])], [], 0⟩ trivial ?_
  refine AWp.seq ?_
  obtain ⟨r3, hr3, h⟩ := bind_ok h
  refine q2rr [] [(2, ⟨[q2aW x1, .fn (.func 64) [.ptr 3 0]], [3], [3], [(3, .cells 30 [.b16 r3.2])], .bool r3.1, [], [], []⟩)] ⟨8, [(4, .bool r3.1)], [], [], 0⟩ (an1 (cpT (Spec1.ren (swapN 2000 3) (swapN_inv 2000 3) rfl (f50_ok _ _ _ hr3)))) ?_
  refine thenQ_normal ?_
  have hret := Option.some.inj h
  subst hret
  refine AWp.le (Le.mk (s' := ⟨8, [(4, .bool r3.1)], [], [], 0⟩) rfl rfl ⟨.refl _, trivial⟩ trivial) ?_
  refine AWp.ret ?_
  exact bodyQ_ret _ rfl ⟨rfl, rfl⟩ rfl
def f21_L0 (x1 : List (BitVec 16)) (K1 : Unit → Option Int) : Nat → Nat → Option Int
  | 0, _ => none
  | k + 1, n2 =>
    if (decide ((n2 : Int) < (((x1).length : Nat) : Int))) then (
    chk ((n2 : Int) < (((x1).length : Nat) : Int)) <|
    if (!(((x1.getD n2 0#16) &&& (BitVec.ofInt 16 61440)) == (BitVec.ofInt 16 0))) then (
    some (7 : Int)
    ) else (
    optc ((decide ((n2 : Int) > (0 : Int))) == true) (f40 (x1.getD ((((n2 : Int) - (1 : Int))).toNat) 0#16) (x1.getD n2 0#16)) fun (r3 : Int) =>
    chk (((decide ((n2 : Int) > (0 : Int))) == true) = true → -9223372036854775808 ≤ ((n2 : Int) - (1 : Int)) ∧ ((n2 : Int) - (1 : Int)) ≤ 9223372036854775807) <|
    chk (((decide ((n2 : Int) > (0 : Int))) == true) = true → 0 ≤ ((n2 : Int) - (1 : Int)) ∧ ((n2 : Int) - (1 : Int)) < (((x1).length : Nat) : Int)) <|
    if ((decide ((n2 : Int) > (0 : Int))) && (decide (r3 ≥ (0 : Int)))) then (
    some (1 : Int)
    ) else (
    chk (((n2 : Int) + (1 : Int)) ≤ 9223372036854775807) <|
    (f21_L0 x1 K1 k) (n2 + 1)
    )
    )
    ) else (
    K1 ()
    )
def f21_L1 (x1 : List (BitVec 16)) (K2 : Unit → Option Int) : Nat → Nat → Option Int
  | 0, _ => none
  | k + 1, n4 =>
    if (decide ((n4 : Int) < (((x1).length : Nat) : Int))) then (
    chk ((n4 : Int) < (((x1).length : Nat) : Int)) <|
    (f41 (x1.take n4) (x1.getD n4 0#16)).bind fun (r5 : Bool) =>
    chk ((n4 : Int) ≤ (((x1).length : Nat) : Int)) <|
    if r5 then (
    some (1 : Int)
    ) else (
    chk (((n4 : Int) + (1 : Int)) ≤ 9223372036854775807) <|
    (f21_L1 x1 K2 k) (n4 + 1)
    )
    ) else (
    K2 ()
    )
abbrev f21z0 (n2 : Nat) := ((decide ((n2 : Int) > (0 : Int))) == true)
def f21 (x1 : List (BitVec 16)) : Option Int :=
  if (decide ((((x1).length : Nat) : Int) > (400 : Int))) then (
  some (3 : Int)
  ) else (
  jn (fun (_ : Unit) =>
  jn (fun (_ : Unit) =>
  some (0 : Int)
  ) fun (K2 : Unit → Option Int) =>
  f21_L1 x1 K2 FUEL 0
  ) fun (K1 : Unit → Option Int) =>
  f21_L0 x1 K1 FUEL 0
  )
set_option maxRecDepth 100000 in
theorem f21_ok  (x1 : List (BitVec 16)) (r : Int) (h : f21 x1 = some r)  : Spec1 Tryz.prog 21 [] [] [] [vL 1 eW 0#16 x1] (.int .i64 r) [] := by
  unfold f21 at h
  refine Spec1.body 0 _ _ Tryz.func21 rfl Tryz.ntmps21 rfl rfl ?_
  refine q2rq [] [] ⟨48, [(0, q2aW x1)], [], [], 0⟩ trivial ?_
  refine AWp.seq ?_
  refine q2rq [] [] ⟨48, [(0, q2aW x1), (9, .bool (decide ((lZ x1) > (400 : Int))))], [], [], 0⟩ trivial ?_
  refine AWp.cond (b := (decide ((lZ x1) > (400 : Int)))) (by kernel_rfl) (fun hc1 => ?_) (fun hc1 => ?_)
  ·
    replace h := ite_tb hc1 h
    refine q2rq [] [] ⟨48, [(2, .i (3 : Int))], [], [], 0⟩ trivial ?_
    have hret := Option.some.inj h
    subst hret
    refine AWp.le (Le.mk (s' := ⟨48, [(2, .i (3 : Int))], [], [], 0⟩) rfl rfl ⟨.refl _, trivial⟩ trivial) ?_
    refine AWp.ret ?_
    refine thenQ_ret ?_
    exact bodyQ_ret _ rfl ⟨rfl, rfl⟩ rfl
  ·
    replace h := ite_fb hc1 h
    refine AWp.skip ?_
    refine thenQ_normal ?_
    obtain ⟨K1, hK1, h⟩ := jn_some h
    refine AWp.join (α := Unit) (fun (x : Unit) => match x with | () => ⟨48, [(0, q2aW x1)], [], [], 0⟩) (fun x => K1 x = some r) ?_ ?_
    ·
      refine q2rq [] [] ⟨48, [(0, q2aW x1), (10, q2aW x1), (11, .i (lZ x1)), (12, .i (0 : Int))], [], [], 0⟩ trivial ?_
      refine AWp.block ?_
      refine AWp.loopL (α := Nat × Nat) (fun x => match x with | (_, n2) => ⟨48, [(0, q2aW x1), (10, q2aW x1), (11, .i (lZ x1)), (12, .i (n2 : Int))], [], [], 0⟩) (fun x => f21_L0 x1 K1 x.1 x.2 = some r) (fun x => x.1) (FUEL, 0) (Le.mk (s' := ⟨48, [(0, q2aW x1), (10, q2aW x1), (11, .i (lZ x1)), (12, .i (0 : Int))], [], [], 0⟩) rfl rfl ⟨.refl _, .refl _, .refl _, .refl _, trivial⟩ trivial) h ?_
      rintro ⟨k0, n2⟩ h
      cases k0 with
      | zero => exact nomatch (show (none : Option Int) = some r from h)
      | succ k0 =>
      obtain ⟨C0, hC0⟩ : ∃ C, C = f21_L0 x1 K1 k0 := ⟨_, rfl⟩
      replace h := (f21_L0.eq_2 ..).symm.trans h
      try rw [← hC0] at h
      refine q2rq [] [] ⟨48, [(0, q2aW x1), (10, q2aW x1), (11, .i (lZ x1)), (12, .i (n2 : Int)), (13, .bool (decide ((n2 : Int) < (lZ x1))))], [], [], 0⟩ trivial ?_
      refine AWp.seq ?_
      refine AWp.cond (b := (decide ((n2 : Int) < (lZ x1)))) (by kernel_rfl) (fun hc2 => ?_) (fun hc2 => ?_)
      ·
        replace h := ite_tb hc2 h
        refine AWp.skip ?_
        refine thenQ_normal ?_
        refine AWp.seq ?_
        refine AWp.block ?_
        refine AWp.seq ?_
        obtain ⟨ob0p, h⟩ := chk_some h
        have ob0 : 0 ≤ (n2 : Int) ∧ (n2 : Int) < (((x1).length : Nat) : Int) := ⟨by omega, ob0p⟩
        refine q2rr [] [] ⟨48, [(0, q2aW x1), (3, .i (n2 : Int)), (4, .b16 (x1.getD n2 0#16)), (10, q2aW x1), (11, .i (lZ x1)), (12, .i (n2 : Int))], [], [], 0⟩ (an1 ob0) ?_
        refine thenQ_normal ?_
        refine AWp.block ?_
        refine q2rq [] [] ⟨48, [(0, q2aW x1), (3, .i (n2 : Int)), (4, .b16 (x1.getD n2 0#16)), (10, q2aW x1), (11, .i (lZ x1)), (12, .i (n2 : Int)), (17, .bool (!(((x1.getD n2 0#16) &&& (q2w16 61440)) == (q2w16 0))))], [], [], 0⟩ trivial ?_
        refine AWp.cond (b := (!(((x1.getD n2 0#16) &&& (q2w16 61440)) == (q2w16 0)))) (by kernel_rfl) (fun hc3 => ?_) (fun hc3 => ?_)
        ·
          replace h := ite_tb hc3 h
          refine q2rq [] [] ⟨48, [(2, .i (7 : Int))], [], [], 0⟩ trivial ?_
          have hret := Option.some.inj h
          subst hret
          refine AWp.le (Le.mk (s' := ⟨48, [(2, .i (7 : Int))], [], [], 0⟩) rfl rfl ⟨.refl _, trivial⟩ trivial) ?_
          refine AWp.ret ?_
          refine blockQ_ret ?_
          refine blockQ_ret ?_
          refine thenQ_ret ?_
          refine thenQ_ret ?_
          refine blockQ_ret ?_
          refine joinQ_ret ?_
          exact bodyQ_ret _ rfl ⟨rfl, rfl⟩ rfl
        ·
          replace h := ite_fb hc3 h
          refine AWp.seq ?_
          obtain ⟨r3, hr3, h⟩ := optc_some h
          obtain ⟨ob1, h⟩ := chk_some h
          have ob2 := idA ((f21z0 n2) = true)
          obtain ⟨ob3, h⟩ := chk_some h
          have ob4 := idA ((f21z0 n2) = true)
          have ob5 := idA ((f21z0 n2) = true)
          have ob6 := idA ((f21z0 n2) = true)
          have ob7 := idA ((f21z0 n2) = true)
          have ob8 := idA ((f21z0 n2) = true)
          have ob9 := idA ((f21z0 n2) = true)
          have ob10 : true = true → (decide ((n2 : Int) > (0 : Int))) = true → (f21z0 n2) = true := fun _ h => beq_iff_eq.2 h
          refine q2rr [] [(9, ⟨[.b16 (x1.getD ((((n2 : Int) - (1 : Int))).toNat) 0#16), .b16 (x1.getD n2 0#16)], [], [], [], .i r3, [], [], []⟩)] ⟨48, [(0, q2aW x1), (10, q2aW x1), (11, .i (lZ x1)), (12, .i (n2 : Int)), (21, .bool ((decide ((n2 : Int) > (0 : Int))) && (decide (r3 ≥ (0 : Int)))))], [], [], 0⟩ (an6 (And.intro ob1 (an1 ob2)) (And.intro ob3 (an2 ob4 ob5)) (an1 ob6) (And.intro (cpC fun hc => (f40_ok _ _ _ (hr3 hc))) (an2 ob7 ob8)) (an1 ob9) ob10) ?_
          refine thenQ_normal ?_
          refine AWp.cond (b := ((decide ((n2 : Int) > (0 : Int))) && (decide (r3 ≥ (0 : Int))))) (by kernel_rfl) (fun hc4 => ?_) (fun hc4 => ?_)
          ·
            replace h := ite_tb hc4 h
            refine q2rq [] [] ⟨48, [(2, .i (1 : Int))], [], [], 0⟩ trivial ?_
            have hret := Option.some.inj h
            subst hret
            refine AWp.le (Le.mk (s' := ⟨48, [(2, .i (1 : Int))], [], [], 0⟩) rfl rfl ⟨.refl _, trivial⟩ trivial) ?_
            refine AWp.ret ?_
            refine blockQ_ret ?_
            refine blockQ_ret ?_
            refine thenQ_ret ?_
            refine thenQ_ret ?_
            refine blockQ_ret ?_
            refine joinQ_ret ?_
            exact bodyQ_ret _ rfl ⟨rfl, rfl⟩ rfl
          ·
            replace h := ite_fb hc4 h
            refine AWp.skip ?_
            refine blockQ_normal ?_
            refine blockQ_normal ?_
            refine thenQ_normal ?_
            obtain ⟨ob11p, h⟩ := chk_some h
            have ob11 : -9223372036854775808 ≤ ((n2 : Int) + (1 : Int)) ∧ ((n2 : Int) + (1 : Int)) ≤ 9223372036854775807 := ⟨by omega, ob11p⟩
            refine q2rr [] [] ⟨48, [(0, q2aW x1), (10, q2aW x1), (11, .i (lZ x1)), (12, .i (((n2 + 1) : Nat) : Int))], [], [], 0⟩ (an1 ob11) ?_
            rw [hC0] at h
            exact loopQ_normal (_, (n2 + 1)) (Le.mk rfl rfl ⟨.refl _, .refl _, .refl _, .refl _, trivial⟩ trivial) h (Nat.lt_succ_self _)
      ·
        replace h := ite_fb hc2 h
        refine AWp.exit ?_
        refine thenQ_exit ?_
        refine thenQ_exit ?_
        refine blockQ_same ?_
        exact joinQ_normal () (Le.mk rfl rfl ⟨.refl _, trivial⟩ trivial) h
    ·
      rintro ⟨⟩ h
      replace h := (congrFun hK1 _).symm.trans h
      obtain ⟨K2, hK2, h⟩ := jn_some h
      refine AWp.join (α := Unit) (fun (x : Unit) => match x with | () => ⟨48, [], [], [], 0⟩) (fun x => K2 x = some r) ?_ ?_
      ·
        refine q2rq [] [] ⟨48, [(0, q2aW x1), (35, q2aW x1), (36, .i (lZ x1)), (37, .i (0 : Int))], [], [], 0⟩ trivial ?_
        refine AWp.block ?_
        refine AWp.loopL (α := Nat × Nat) (fun x => match x with | (_, n4) => ⟨48, [(0, q2aW x1), (35, q2aW x1), (36, .i (lZ x1)), (37, .i (n4 : Int))], [], [], 0⟩) (fun x => f21_L1 x1 K2 x.1 x.2 = some r) (fun x => x.1) (FUEL, 0) (Le.mk (s' := ⟨48, [(0, q2aW x1), (35, q2aW x1), (36, .i (lZ x1)), (37, .i (0 : Int))], [], [], 0⟩) rfl rfl ⟨.refl _, .refl _, .refl _, .refl _, trivial⟩ trivial) h ?_
        rintro ⟨k1, n4⟩ h
        cases k1 with
        | zero => exact nomatch (show (none : Option Int) = some r from h)
        | succ k1 =>
        obtain ⟨C1, hC1⟩ : ∃ C, C = f21_L1 x1 K2 k1 := ⟨_, rfl⟩
        replace h := (f21_L1.eq_2 ..).symm.trans h
        try rw [← hC1] at h
        refine q2rq [] [] ⟨48, [(0, q2aW x1), (35, q2aW x1), (36, .i (lZ x1)), (37, .i (n4 : Int)), (38, .bool (decide ((n4 : Int) < (lZ x1))))], [], [], 0⟩ trivial ?_
        refine AWp.seq ?_
        refine AWp.cond (b := (decide ((n4 : Int) < (lZ x1)))) (by kernel_rfl) (fun hc5 => ?_) (fun hc5 => ?_)
        ·
          replace h := ite_tb hc5 h
          refine AWp.skip ?_
          refine thenQ_normal ?_
          refine AWp.seq ?_
          refine AWp.block ?_
          refine AWp.seq ?_
          obtain ⟨ob12p, h⟩ := chk_some h
          have ob12 : 0 ≤ (n4 : Int) ∧ (n4 : Int) < (((x1).length : Nat) : Int) := ⟨by omega, ob12p⟩
          refine q2rr [] [] ⟨48, [(0, q2aW x1), (5, .i (n4 : Int)), (6, .b16 (x1.getD n4 0#16)), (35, q2aW x1), (36, .i (lZ x1)), (37, .i (n4 : Int))], [], [], 0⟩ (an1 ob12) ?_
          refine thenQ_normal ?_
          refine AWp.seq ?_
          obtain ⟨r5, hr5, h⟩ := bind_ok h
          obtain ⟨ob13p, h⟩ := chk_some h
          have ob13 : 0 ≤ (n4 : Int) ∧ (n4 : Int) ≤ (((x1).length : Nat) : Int) := ⟨by omega, ob13p⟩
          refine q2rr [] [(4, ⟨[q2aW (x1.take n4), .b16 (x1.getD n4 0#16)], [], [], [], .bool r5, [], [], []⟩)] ⟨48, [(0, q2aW x1), (35, q2aW x1), (36, .i (lZ x1)), (37, .i (n4 : Int)), (46, .bool r5)], [], [], 0⟩ (an2 ob13 (cpL (c := true) [] [] [.arr 1 n4 (encF eW 0#16 x1), .b16 (x1.getD n4 0#16)] (fun _ => (f41_ok _ _ _ hr5)) (fun _ => ⟨(VLe.takeL (by first | omega | (simp only [List.length_append, List.length_cons, List.length_nil, List.length_take, List.length_drop] at *; omega) | (simp; done) | (simp_all; done) | (simp_all; omega) | rfl)), .refl _, trivial⟩) (.inl rfl))) ?_
          refine thenQ_normal ?_
          refine AWp.cond (b := r5) (by kernel_rfl) (fun hc6 => ?_) (fun hc6 => ?_)
          ·
            replace h := ite_tb hc6 h
            refine q2rq [] [] ⟨48, [(2, .i (1 : Int))], [], [], 0⟩ trivial ?_
            have hret := Option.some.inj h
            subst hret
            refine AWp.le (Le.mk (s' := ⟨48, [(2, .i (1 : Int))], [], [], 0⟩) rfl rfl ⟨.refl _, trivial⟩ trivial) ?_
            refine AWp.ret ?_
            refine blockQ_ret ?_
            refine thenQ_ret ?_
            refine thenQ_ret ?_
            refine blockQ_ret ?_
            refine joinQ_ret ?_
            exact bodyQ_ret _ rfl ⟨rfl, rfl⟩ rfl
          ·
            replace h := ite_fb hc6 h
            refine AWp.skip ?_
            refine blockQ_normal ?_
            refine thenQ_normal ?_
            obtain ⟨ob14p, h⟩ := chk_some h
            have ob14 : -9223372036854775808 ≤ ((n4 : Int) + (1 : Int)) ∧ ((n4 : Int) + (1 : Int)) ≤ 9223372036854775807 := ⟨by omega, ob14p⟩
            refine q2rr [] [] ⟨48, [(0, q2aW x1), (35, q2aW x1), (36, .i (lZ x1)), (37, .i (((n4 + 1) : Nat) : Int))], [], [], 0⟩ (an1 ob14) ?_
            rw [hC1] at h
            exact loopQ_normal (_, (n4 + 1)) (Le.mk rfl rfl ⟨.refl _, .refl _, .refl _, .refl _, trivial⟩ trivial) h (Nat.lt_succ_self _)
        ·
          replace h := ite_fb hc5 h
          refine AWp.exit ?_
          refine thenQ_exit ?_
          refine thenQ_exit ?_
          refine blockQ_same ?_
          exact joinQ_normal () (Le.mk rfl rfl trivial trivial) h
      ·
        rintro ⟨⟩ h
        replace h := (congrFun hK2 _).symm.trans h
        refine q2rq [] [] ⟨48, [(2, .i (0 : Int))], [], [], 0⟩ trivial ?_
        have hret := Option.some.inj h
        subst hret
        refine AWp.le (Le.mk (s' := ⟨48, [(2, .i (0 : Int))], [], [], 0⟩) rfl rfl ⟨.refl _, trivial⟩ trivial) ?_
        refine AWp.ret ?_
        exact bodyQ_ret _ rfl ⟨rfl, rfl⟩ rfl
def f29 (x1 : List (BitVec 16)) (x2 : List (BitVec 16)) : Option Int :=
  (f21 x1).bind fun (r3 : Int) =>
  if (r3 != (0 : Int)) then (
  some r3
  ) else (
  (f21 x2).bind fun (r4 : Int) =>
  some r4
  )
set_option maxRecDepth 100000 in
theorem f29_ok  (x1 : List (BitVec 16)) (x2 : List (BitVec 16)) (r : Int) (h : f29 x1 x2 = some r)  : Spec1 Tryz.prog 29 [] [] [] [vL 1 eW 0#16 x1, vL 1 eW 0#16 x2] (.int .i64 r) [] := by
  unfold f29 at h
  refine Spec1.body 0 _ _ Tryz.func29 rfl Tryz.ntmps29 rfl rfl ?_
  refine q2rq [] [] ⟨13, [(0, q2aW x1), (1, q2aW x2)], [], [], 0⟩ trivial ?_
  refine AWp.seq ?_
  refine AWp.seq ?_
  obtain ⟨r3, hr3, h⟩ := bind_ok h
  refine q2rr [] [(1, ⟨[q2aW x1], [], [], [], .i r3, [], [], []⟩)] ⟨13, [(1, q2aW x2), (5, .i r3)], [], [], 0⟩ (an1 (cpT (f21_ok _ _ hr3))) ?_
  refine thenQ_normal ?_
  refine q2rq [] [] ⟨13, [(1, q2aW x2), (5, .i r3), (9, .bool (r3 != (0 : Int)))], [], [], 0⟩ trivial ?_
  refine AWp.cond (b := (r3 != (0 : Int))) (by kernel_rfl) (fun hc1 => ?_) (fun hc1 => ?_)
  ·
    replace h := ite_tb hc1 h
    refine q2rq [] [] ⟨13, [(4, .i r3)], [], [], 0⟩ trivial ?_
    have hret := Option.some.inj h
    subst hret
    refine AWp.le (Le.mk (s' := ⟨13, [(4, .i r3)], [], [], 0⟩) rfl rfl ⟨.refl _, trivial⟩ trivial) ?_
    refine AWp.ret ?_
    refine thenQ_ret ?_
    exact bodyQ_ret _ rfl ⟨rfl, rfl⟩ rfl
  ·
    replace h := ite_fb hc1 h
    refine AWp.skip ?_
    refine thenQ_normal ?_
    refine AWp.seq ?_
    obtain ⟨r4, hr4, h⟩ := bind_ok h
    refine q2rr [] [(1, ⟨[q2aW x2], [], [], [], .i r4, [], [], []⟩)] ⟨13, [(4, .i r4)], [], [], 0⟩ (an1 (cpT (f21_ok _ _ hr4))) ?_
    refine thenQ_normal ?_
    have hret := Option.some.inj h
    subst hret
    refine AWp.le (Le.mk (s' := ⟨13, [(4, .i r4)], [], [], 0⟩) rfl rfl ⟨.refl _, trivial⟩ trivial) ?_
    refine AWp.ret ?_
    exact bodyQ_ret _ rfl ⟨rfl, rfl⟩ rfl
def f69 (x1 : List (BitVec 16)) : Option (List (BitVec 16)) :=
  abc ((x1).length = 0) (
  some []
  ) (
  chk ((0 + (x1).length) * 2 ≤ 140737488355328) <|
  some ([] ++ x1)
  )
set_option maxRecDepth 100000 in
theorem f69_ok  (x1 : List (BitVec 16)) (r : List (BitVec 16)) (h : f69 x1 = some r)  : Spec1 Tryz.prog 69 [] [] [] [vL 1 eW 0#16 x1] (.own 3000) [(3000, bL 30 1 eW 0#16 r)] := by
  unfold f69 at h
  refine Spec1.body 0 _ _ Tryz.func69 rfl Tryz.ntmps69 rfl rfl ?_
  refine q2rq [] [] ⟨8, [(0, q2aW x1)], [], [], 0⟩ trivial ?_
  refine AWp.seq ?_
  refine q2rq [] [] ⟨8, [(0, q2aW x1), (4, .abool (fun b => b = true → (x1).length = 0))], [], [], 0⟩ trivial ?_
  obtain ⟨hA1, hB1⟩ := abc_some h
  refine AWp.condAb (fun b => b = true → (x1).length = 0) (by kernel_rfl) (fun hc1 => ?_) (fun hc1 => ?_)
  ·
    have h := hA1 (hc1 rfl)
    refine q2rq [] [] ⟨8, [(2, .nils)], [], [], 0⟩ trivial ?_
    refine AWp.le (Le.trans (Le.nilOwn 2 3000 30 1 (encF eW 0#16 []) rfl rfl (Nat.le_of_ble_eq_true rfl)) (Le.mk (s' := ⟨8, [(2, .own 3000)], [(3000, q2bW_30 [])], [], 0⟩) rfl rfl ⟨.refl _, trivial⟩ ⟨⟨_, rfl, .refl _⟩, trivial⟩)) ?_
    have hret := Option.some.inj h
    subst hret
    refine AWp.le (Le.mk (s' := ⟨8, [(2, .own 3000)], [(3000, q2bW_30 [])], [], 0⟩) rfl rfl ⟨.refl _, trivial⟩ ⟨⟨_, rfl, .refl _⟩, trivial⟩) ?_
    refine AWp.ret ?_
    refine thenQ_ret ?_
    exact bodyQ_ret _ rfl ⟨rfl, rfl⟩ rfl
  ·
    have h := hB1
    refine AWp.skip ?_
    refine thenQ_normal ?_
    refine AWp.seq ?_
    obtain ⟨ob0, h⟩ := chk_some h
    refine q2rr [] [] ⟨8, [(2, .own 5)], [(5, .rows 30 1 (0 + (x1).length) (appF 0 (lstF 1 []) (encF eW 0#16 x1)))], [], 0⟩ (an1 ob0) ?_
    refine thenQ_normal ?_
    refine AWp.le (Le.mk (s' := ⟨8, [(2, .own 5)], [(5, q2bW_30 ([] ++ x1))], [], 0⟩) rfl rfl ⟨.refl _, trivial⟩ ⟨⟨_, rfl, (BLe.of (RL.app (RL.lst (enc := eW) [] rfl rfl (fun _ => rfl)) (RL.self _)))⟩, trivial⟩) ?_
    refine AWp.le (Le.trans (Le.ren (swapN 5 3000) (swapN_inv 5 3000) rfl) (Le.mk (s' := ⟨8, [(2, .own 3000)], [(3000, q2bW_30 ([] ++ x1))], [], 0⟩) rfl rfl ⟨.refl _, trivial⟩ ⟨⟨_, rfl, .refl _⟩, trivial⟩)) ?_
    have hret := Option.some.inj h
    subst hret
    refine AWp.le (Le.mk (s' := ⟨8, [(2, .own 3000)], [(3000, q2bW_30 ([] ++ x1))], [], 0⟩) rfl rfl ⟨.refl _, trivial⟩ ⟨⟨_, rfl, .refl _⟩, trivial⟩) ?_
    refine AWp.ret ?_
    exact bodyQ_ret _ rfl ⟨rfl, rfl⟩ rfl
def f70 (x1 : List (BitVec 16)) : Option (List (BitVec 16)) := sortO key x1
theorem f70_ok (x1 r : List (BitVec 16)) (h : f70 x1 = some r) : Spec1 Tryz.prog 70 [] [2000] [(2000, bL 30 1 eW 0#16 x1)] [.own 2000, .fn (.func 40) []] (.tup []) [(2000, bL 30 1 eW 0#16 r)] := sortS x1 r h
def f71_L1 (x1 : List (BitVec 16)) (n2 : Nat) (K2 : (Nat × List (BitVec 16)) → Option (List (BitVec 16))) : Nat → (Nat × Nat × List (BitVec 16)) → Option (List (BitVec 16))
  | 0, _ => none
  | k + 1, (n3, n4, l5) =>
    if (decide ((n4 : Int) < ((((x1).length - n2) : Nat) : Int))) then (
    jn (fun ((n6, l7) : Nat × List (BitVec 16)) =>
    chk (((n4 : Int) + (1 : Int)) ≤ 9223372036854775807) <|
    (f71_L1 x1 n2 K2 k) (n6, (n4 + 1), l7)
    ) fun (K3 : (Nat × List (BitVec 16)) → Option (List (BitVec 16))) =>
    chk ((n4 : Int) < ((((x1).length - n2) : Nat) : Int)) <|
    chk ((n2 + n4) < (l5).length) <|
    chk (-9223372036854775808 ≤ ((n4 : Int) - (1 : Int)) ∧ ((n4 : Int) - (1 : Int)) ≤ 9223372036854775807) <|
    chk (0 ≤ ((n4 : Int) - (1 : Int)) ∧ ((n4 : Int) - (1 : Int)) < ((((x1).length - n2) : Nat) : Int)) <|
    chk ((n2 + ((((n4 : Int) - (1 : Int))).toNat)) < (l5).length) <|
    if (!((l5.getD (n2 + n4) 0#16) == (l5.getD (n2 + ((((n4 : Int) - (1 : Int))).toNat)) 0#16))) then (
    chk ((n4 : Int) < ((((x1).length - n2) : Nat) : Int)) <|
    chk ((n2 + n4) < (l5).length) <|
    chk ((n3 : Int) < (((l5).length : Nat) : Int)) <|
    chk (n3 < (l5).length) <|
    chk (((n3 : Int) + (1 : Int)) ≤ 9223372036854775807) <|
    K3 ((n3 + 1), (l5.set n3 (l5.getD (n2 + n4) 0#16)))
    ) else (
    K3 (n3, l5)
    )
    ) else (
    K2 (n3, l5)
    )
def f71_L0 (x1 : List (BitVec 16)) (K1 : Unit → Option (List (BitVec 16))) : Nat → Nat → Option (List (BitVec 16))
  | 0, _ => none
  | k + 1, n2 =>
    if (decide ((n2 : Int) < (((x1).length : Nat) : Int))) then (
    chk ((n2 : Int) < (((x1).length : Nat) : Int)) <|
    chk (n2 < (x1).length) <|
    chk (-9223372036854775808 ≤ ((n2 : Int) - (1 : Int)) ∧ ((n2 : Int) - (1 : Int)) ≤ 9223372036854775807) <|
    chk (0 ≤ ((n2 : Int) - (1 : Int)) ∧ ((n2 : Int) - (1 : Int)) < (((x1).length : Nat) : Int)) <|
    chk (((((n2 : Int) - (1 : Int))).toNat) < (x1).length) <|
    if ((x1.getD n2 0#16) == (x1.getD ((((n2 : Int) - (1 : Int))).toNat) 0#16)) then (
    chk ((n2 : Int) ≤ (((x1).length : Nat) : Int)) <|
    jn (fun ((n8, l9) : Nat × List (BitVec 16)) =>
    chk ((n8 : Int) ≤ (((l9).length : Nat) : Int)) <|
    chk (n8 + ((l9).length - n8) ≤ (l9).length ∧ 0 < ((l9).length - n8)) <|
    chk ((n8 : Int) ≤ ((((l9.take n8 ++ List.replicate ((l9).length - n8) (BitVec.ofInt 16 0))).length : Nat) : Int)) <|
    chk (n8 ≤ (l9.take n8 ++ List.replicate ((l9).length - n8) (BitVec.ofInt 16 0)).length) <|
    some ((l9.take n8 ++ List.replicate ((l9).length - n8) (BitVec.ofInt 16 0)).take n8)
    ) fun (K2 : (Nat × List (BitVec 16)) → Option (List (BitVec 16))) =>
    f71_L1 x1 n2 K2 FUEL (n2, 1, x1)
    ) else (
    chk (((n2 : Int) + (1 : Int)) ≤ 9223372036854775807) <|
    (f71_L0 x1 K1 k) (n2 + 1)
    )
    ) else (
    K1 ()
    )
abbrev f71z0 (x1 : List (BitVec 16)) : Heap := [(2000, bL 30 1 eW 0#16 x1)]
abbrev f71z1 (l9 : List (BitVec 16)) (n8 : Nat) : Heap := [(2000, bL 30 1 eW 0#16 (l9.take n8 ++ List.replicate ((l9).length - n8) (BitVec.ofInt 16 0)))]
def f71 (x1 : List (BitVec 16)) : Option (List (BitVec 16)) :=
  if (decide ((((x1).length : Nat) : Int) < (2 : Int))) then (
  some x1
  ) else (
  jn (fun (_ : Unit) =>
  some x1
  ) fun (K1 : Unit → Option (List (BitVec 16))) =>
  f71_L0 x1 K1 FUEL 1
  )
set_option maxRecDepth 100000 in
theorem f71_ok  (x1 : List (BitVec 16)) (r : List (BitVec 16)) (h : f71 x1 = some r)  : Spec1 Tryz.prog 71 [] [] [(2000, bL 30 1 eW 0#16 x1)] [.own 2000] (.own 2000) [(2000, bL 30 1 eW 0#16 r)] := by
  unfold f71 at h
  refine Spec1.body 0 _ _ Tryz.func71 rfl Tryz.ntmps71 rfl rfl ?_
  refine q2rq [] [] ⟨61, [(0, .own 2000)], (f71z0 x1), [], 0⟩ trivial ?_
  refine AWp.seq ?_
  refine q2rq [] [] ⟨61, [(0, .own 2000), (8, .bool (decide ((lZ x1) < (2 : Int))))], (f71z0 x1), [], 0⟩ trivial ?_
  refine AWp.cond (b := (decide ((lZ x1) < (2 : Int)))) (by kernel_rfl) (fun hc1 => ?_) (fun hc1 => ?_)
  ·
    replace h := ite_tb hc1 h
    refine q2rq [] [] ⟨61, [(2, .own 2000)], (f71z0 x1), [], 0⟩ trivial ?_
    have hret := Option.some.inj h
    subst hret
    refine AWp.le (Le.mk (s' := ⟨61, [(2, .own 2000)], (f71z0 x1), [], 0⟩) rfl rfl ⟨.refl _, trivial⟩ ⟨⟨_, rfl, .refl _⟩, trivial⟩) ?_
    refine AWp.ret ?_
    refine thenQ_ret ?_
    exact bodyQ_ret _ rfl ⟨rfl, rfl⟩ rfl
  ·
    replace h := ite_fb hc1 h
    refine AWp.skip ?_
    refine thenQ_normal ?_
    obtain ⟨K1, hK1, h⟩ := jn_some h
    refine AWp.join (α := Unit) (fun (x : Unit) => match x with | () => ⟨61, [(0, .own 2000)], (f71z0 x1), [], 0⟩) (fun x => K1 x = some r) ?_ ?_
    ·
      refine q2rq [] [] ⟨61, [(0, .own 2000), (3, .i (1 : Int))], (f71z0 x1), [], 0⟩ trivial ?_
      refine AWp.block ?_
      refine AWp.loopL (α := Nat × Nat) (fun x => match x with | (_, n2) => ⟨61, [(0, .own 2000), (3, .i (n2 : Int))], (f71z0 x1), [], 0⟩) (fun x => f71_L0 x1 K1 x.1 x.2 = some r) (fun x => x.1) (FUEL, 1) (Le.mk (s' := ⟨61, [(0, .own 2000), (3, .i (1 : Int))], (f71z0 x1), [], 0⟩) rfl rfl ⟨.refl _, .refl _, trivial⟩ ⟨⟨_, rfl, .refl _⟩, trivial⟩) h ?_
      rintro ⟨k0, n2⟩ h
      cases k0 with
      | zero => exact nomatch (show (none : Option (List (BitVec 16))) = some r from h)
      | succ k0 =>
      obtain ⟨C0, hC0⟩ : ∃ C, C = f71_L0 x1 K1 k0 := ⟨_, rfl⟩
      replace h := (f71_L0.eq_2 ..).symm.trans h
      try rw [← hC0] at h
      refine AWp.seq ?_
      refine q2rq [] [] ⟨61, [(0, .own 2000), (3, .i (n2 : Int)), (13, .bool (decide ((n2 : Int) < (lZ x1))))], (f71z0 x1), [], 0⟩ trivial ?_
      refine AWp.cond (b := (decide ((n2 : Int) < (lZ x1)))) (by kernel_rfl) (fun hc2 => ?_) (fun hc2 => ?_)
      ·
        replace h := ite_tb hc2 h
        refine AWp.skip ?_
        refine thenQ_normal ?_
        refine AWp.seq ?_
        refine AWp.block ?_
        refine AWp.seq ?_
        obtain ⟨ob0p, h⟩ := chk_some h
        have ob0 : 0 ≤ (n2 : Int) ∧ (n2 : Int) < (((x1).length : Nat) : Int) := ⟨by omega, ob0p⟩
        obtain ⟨ob1, ob2, ob3, ob4, h⟩ := ck4 h
        refine q2rr [] [] ⟨61, [(0, .own 2000), (3, .i (n2 : Int)), (25, .bool ((x1.getD n2 0#16) == (x1.getD ((((n2 : Int) - (1 : Int))).toNat) 0#16)))], (f71z0 x1), [], 0⟩ (an5 ob0 ob1 ob2 ob3 ob4) ?_
        refine thenQ_normal ?_
        refine AWp.cond (b := ((x1.getD n2 0#16) == (x1.getD ((((n2 : Int) - (1 : Int))).toNat) 0#16))) (by kernel_rfl) (fun hc3 => ?_) (fun hc3 => ?_)
        ·
          replace h := ite_tb hc3 h
          refine AWp.seq ?_
          obtain ⟨ob5p, h⟩ := chk_some h
          have ob5 : 0 ≤ (n2 : Int) ∧ (n2 : Int) ≤ (((x1).length : Nat) : Int) := ⟨by omega, ob5p⟩
          refine q2rr [] [] ⟨61, [(0, .own 2000), (3, .i (n2 : Int)), (4, .osl 2000 1 n2 ((x1).length - n2))], (f71z0 x1), [], 0⟩ (an1 ob5) ?_
          refine thenQ_normal ?_
          obtain ⟨K2, hK2, h⟩ := jn_some h
          refine AWp.join (α := Nat × List (BitVec 16)) (fun (x : Nat × List (BitVec 16)) => match x with | (n8, l9) => ⟨61, [(0, .own 2000), (3, .i (n8 : Int))], [(2000, q2bW_30 l9)], [], 0⟩) (fun x => K2 x = some r) ?_ ?_
          ·
            refine q2rq [] [] ⟨61, [(0, .own 2000), (3, .i (n2 : Int)), (4, .osl 2000 1 n2 ((x1).length - n2)), (5, .i (1 : Int))], (f71z0 x1), [], 0⟩ trivial ?_
            refine AWp.block ?_
            refine AWp.loopL (α := Nat × (Nat × Nat × List (BitVec 16))) (fun x => match x with | (_, n3, n4, l5) => ⟨61, [(0, .own 2000), (3, .i (n3 : Int)), (4, .osl 2000 1 n2 ((x1).length - n2)), (5, .i (n4 : Int))], [(2000, q2bW_30 l5)], [], 0⟩) (fun x => f71_L1 x1 n2 K2 x.1 x.2 = some r) (fun x => x.1) (FUEL, n2, 1, x1) (Le.mk (s' := ⟨61, [(0, .own 2000), (3, .i (n2 : Int)), (4, .osl 2000 1 n2 ((x1).length - n2)), (5, .i (1 : Int))], (f71z0 x1), [], 0⟩) rfl rfl ⟨.refl _, .refl _, .refl _, .refl _, trivial⟩ ⟨⟨_, rfl, .refl _⟩, trivial⟩) h ?_
            rintro ⟨k1, n3, n4, l5⟩ h
            cases k1 with
            | zero => exact nomatch (show (none : Option (List (BitVec 16))) = some r from h)
            | succ k1 =>
            obtain ⟨C1, hC1⟩ : ∃ C, C = f71_L1 x1 n2 K2 k1 := ⟨_, rfl⟩
            replace h := (f71_L1.eq_2 ..).symm.trans h
            try rw [← hC1] at h
            refine AWp.seq ?_
            refine q2rq [] [] ⟨61, [(0, .own 2000), (3, .i (n3 : Int)), (4, .osl 2000 1 n2 ((x1).length - n2)), (5, .i (n4 : Int)), (32, .bool (decide ((n4 : Int) < ((((x1).length - n2) : Nat) : Int))))], [(2000, q2bW_30 l5)], [], 0⟩ trivial ?_
            refine AWp.cond (b := (decide ((n4 : Int) < ((((x1).length - n2) : Nat) : Int)))) (by kernel_rfl) (fun hc4 => ?_) (fun hc4 => ?_)
            ·
              replace h := ite_tb hc4 h
              refine AWp.skip ?_
              refine thenQ_normal ?_
              obtain ⟨K3, hK3, h⟩ := jn_some h
              refine AWp.join (α := Nat × List (BitVec 16)) (fun (x : Nat × List (BitVec 16)) => match x with | (n6, l7) => ⟨61, [(0, .own 2000), (3, .i (n6 : Int)), (4, .osl 2000 1 n2 ((x1).length - n2)), (5, .i (n4 : Int))], [(2000, q2bW_30 l7)], [], 0⟩) (fun x => K3 x = some r) ?_ ?_
              ·
                refine AWp.block ?_
                refine AWp.seq ?_
                obtain ⟨ob6p, h⟩ := chk_some h
                have ob6 : 0 ≤ (n4 : Int) ∧ (n4 : Int) < ((((x1).length - n2) : Nat) : Int) := ⟨by omega, ob6p⟩
                obtain ⟨ob7, ob8, ob9, ob10, h⟩ := ck4 h
                refine q2rr [] [] ⟨61, [(0, .own 2000), (3, .i (n3 : Int)), (4, .osl 2000 1 n2 ((x1).length - n2)), (5, .i (n4 : Int)), (44, .bool (!((l5.getD (n2 + n4) 0#16) == (l5.getD (n2 + ((((n4 : Int) - (1 : Int))).toNat)) 0#16))))], [(2000, q2bW_30 l5)], [], 0⟩ (an5 ob6 ob7 ob8 ob9 ob10) ?_
                refine thenQ_normal ?_
                refine AWp.cond (b := (!((l5.getD (n2 + n4) 0#16) == (l5.getD (n2 + ((((n4 : Int) - (1 : Int))).toNat)) 0#16)))) (by kernel_rfl) (fun hc5 => ?_) (fun hc5 => ?_)
                ·
                  replace h := ite_tb hc5 h
                  refine AWp.seq ?_
                  obtain ⟨ob11p, h⟩ := chk_some h
                  have ob11 : 0 ≤ (n4 : Int) ∧ (n4 : Int) < ((((x1).length - n2) : Nat) : Int) := ⟨by omega, ob11p⟩
                  obtain ⟨ob12, ob13p, h⟩ := ck2 h
                  have ob13 : 0 ≤ (n3 : Int) ∧ (n3 : Int) < (((l5).length : Nat) : Int) := ⟨by omega, ob13p⟩
                  obtain ⟨ob14, h⟩ := chk_some h
                  refine q2rr [] [] ⟨61, [(0, .own 2000), (3, .i (n3 : Int)), (4, .osl 2000 1 n2 ((x1).length - n2)), (5, .i (n4 : Int))], [(2000, .rows 30 1 (l5).length (updF (encF eW 0#16 l5) n3 0 [.b16 (l5.getD (n2 + n4) 0#16)]))], [], 0⟩ (an4 ob11 ob12 ob13 ob14) ?_
                  refine thenQ_normal ?_
                  refine AWp.le (Le.mk (s' := ⟨61, [(0, .own 2000), (3, .i (n3 : Int)), (4, .osl 2000 1 n2 ((x1).length - n2)), (5, .i (n4 : Int))], [(2000, q2bW_30 (l5.set n3 (l5.getD (n2 + n4) 0#16)))], [], 0⟩) rfl rfl ⟨.refl _, .refl _, .refl _, .refl _, trivial⟩ ⟨⟨_, rfl, (BLe.of (RL.set (l5.getD (n2 + n4) 0#16) (RL.self _) (by intro j hj; match j, hj with | 0, _ => rfl)))⟩, trivial⟩) ?_
                  obtain ⟨ob15p, h⟩ := chk_some h
                  have ob15 : -9223372036854775808 ≤ ((n3 : Int) + (1 : Int)) ∧ ((n3 : Int) + (1 : Int)) ≤ 9223372036854775807 := ⟨by omega, ob15p⟩
                  refine q2rr [] [] ⟨61, [(0, .own 2000), (3, .i (((n3 + 1) : Nat) : Int)), (4, .osl 2000 1 n2 ((x1).length - n2)), (5, .i (n4 : Int))], [(2000, q2bW_30 (l5.set n3 (l5.getD (n2 + n4) 0#16)))], [], 0⟩ (an1 ob15) ?_
                  refine blockQ_normal ?_
                  exact joinQ_normal ((n3 + 1), (l5.set n3 (l5.getD (n2 + n4) 0#16))) (Le.mk rfl rfl ⟨.refl _, .refl _, .refl _, .refl _, trivial⟩ ⟨⟨_, rfl, .refl _⟩, trivial⟩) h
                ·
                  replace h := ite_fb hc5 h
                  refine AWp.skip ?_
                  refine blockQ_normal ?_
                  exact joinQ_normal (n3, l5) (Le.mk rfl rfl ⟨.refl _, .refl _, .refl _, .refl _, trivial⟩ ⟨⟨_, rfl, .refl _⟩, trivial⟩) h
              ·
                rintro ⟨n6, l7⟩ h
                replace h := (congrFun hK3 _).symm.trans h
                obtain ⟨ob16p, h⟩ := chk_some h
                have ob16 : -9223372036854775808 ≤ ((n4 : Int) + (1 : Int)) ∧ ((n4 : Int) + (1 : Int)) ≤ 9223372036854775807 := ⟨by omega, ob16p⟩
                refine q2rr [] [] ⟨61, [(0, .own 2000), (3, .i (n6 : Int)), (4, .osl 2000 1 n2 ((x1).length - n2)), (5, .i (((n4 + 1) : Nat) : Int))], [(2000, q2bW_30 l7)], [], 0⟩ (an1 ob16) ?_
                rw [hC1] at h
                exact loopQ_normal (_, n6, (n4 + 1), l7) (Le.mk rfl rfl ⟨.refl _, .refl _, .refl _, .refl _, trivial⟩ ⟨⟨_, rfl, .refl _⟩, trivial⟩) h (Nat.lt_succ_self _)
            ·
              replace h := ite_fb hc4 h
              refine AWp.exit ?_
              refine thenQ_exit ?_
              refine thenQ_exit ?_
              refine blockQ_same ?_
              exact joinQ_normal (n3, l5) (Le.mk rfl rfl ⟨.refl _, .refl _, trivial⟩ ⟨⟨_, rfl, .refl _⟩, trivial⟩) h
          ·
            rintro ⟨n8, l9⟩ h
            replace h := (congrFun hK2 _).symm.trans h
            refine AWp.seq ?_
            obtain ⟨ob17p, h⟩ := chk_some h
            have ob17 : 0 ≤ (n8 : Int) ∧ (n8 : Int) ≤ (((l9).length : Nat) : Int) := ⟨by omega, ob17p⟩
            obtain ⟨ob18, h⟩ := chk_some h
            refine q2rr [] [] ⟨61, [(0, .own 2000), (3, .i (n8 : Int))], [(2000, .rows 30 1 (l9).length (clrF (encF eW 0#16 l9) n8 ((l9).length - n8) [.b16 (q2w16 0)]))], [], 0⟩ (an2 ob17 ob18) ?_
            refine thenQ_normal ?_
            refine AWp.le (Le.mk (s' := ⟨61, [(0, .own 2000), (3, .i (n8 : Int))], (f71z1 l9 n8), [], 0⟩) rfl rfl ⟨.refl _, .refl _, trivial⟩ ⟨⟨_, rfl, (BLe.of (RL.clr (q2w16 0) (RL.self _) (by first | omega | (simp only [List.length_append, List.length_cons, List.length_nil, List.length_take, List.length_drop] at *; omega) | (simp; done) | (simp_all; done) | (simp_all; omega) | rfl) rfl))⟩, trivial⟩) ?_
            refine AWp.seq ?_
            obtain ⟨ob19p, h⟩ := chk_some h
            have ob19 : 0 ≤ (n8 : Int) ∧ (n8 : Int) ≤ ((((l9.take n8 ++ List.replicate ((l9).length - n8) (q2w16 0))).length : Nat) : Int) := ⟨by omega, ob19p⟩
            refine q2rr [] [] ⟨61, [(2, .osl 2000 1 0 n8)], (f71z1 l9 n8), [], 0⟩ (an1 ob19) ?_
            refine thenQ_normal ?_
            obtain ⟨hk6, h⟩ := chk_some h
            refine AWp.le (Le.trans (Le.cutOwn 2 2000 n8 hk6 rfl rfl rfl) (Le.mk (s' := ⟨61, [(2, .own 2000)], [(2000, q2bW_30 ((l9.take n8 ++ List.replicate ((l9).length - n8) (q2w16 0)).take n8))], [], 0⟩) rfl rfl ⟨.refl _, trivial⟩ ⟨⟨_, rfl, (BLe.of (RL.take (RL.self _) hk6))⟩, trivial⟩)) ?_
            have hret := Option.some.inj h
            subst hret
            refine AWp.le (Le.mk (s' := ⟨61, [(2, .own 2000)], [(2000, q2bW_30 ((l9.take n8 ++ List.replicate ((l9).length - n8) (q2w16 0)).take n8))], [], 0⟩) rfl rfl ⟨.refl _, trivial⟩ ⟨⟨_, rfl, .refl _⟩, trivial⟩) ?_
            refine AWp.ret ?_
            refine blockQ_ret ?_
            refine thenQ_ret ?_
            refine thenQ_ret ?_
            refine blockQ_ret ?_
            refine joinQ_ret ?_
            exact bodyQ_ret _ rfl ⟨rfl, rfl⟩ rfl
        ·
          replace h := ite_fb hc3 h
          refine AWp.skip ?_
          refine blockQ_normal ?_
          refine thenQ_normal ?_
          obtain ⟨ob20p, h⟩ := chk_some h
          have ob20 : -9223372036854775808 ≤ ((n2 : Int) + (1 : Int)) ∧ ((n2 : Int) + (1 : Int)) ≤ 9223372036854775807 := ⟨by omega, ob20p⟩
          refine q2rr [] [] ⟨61, [(0, .own 2000), (3, .i (((n2 + 1) : Nat) : Int))], (f71z0 x1), [], 0⟩ (an1 ob20) ?_
          rw [hC0] at h
          exact loopQ_normal (_, (n2 + 1)) (Le.mk rfl rfl ⟨.refl _, .refl _, trivial⟩ ⟨⟨_, rfl, .refl _⟩, trivial⟩) h (Nat.lt_succ_self _)
      ·
        replace h := ite_fb hc2 h
        refine AWp.exit ?_
        refine thenQ_exit ?_
        refine thenQ_exit ?_
        refine blockQ_same ?_
        exact joinQ_normal () (Le.mk rfl rfl ⟨.refl _, trivial⟩ ⟨⟨_, rfl, .refl _⟩, trivial⟩) h
    ·
      rintro ⟨⟩ h
      replace h := (congrFun hK1 _).symm.trans h
      refine q2rq [] [] ⟨61, [(2, .own 2000)], (f71z0 x1), [], 0⟩ trivial ?_
      have hret := Option.some.inj h
      subst hret
      refine AWp.le (Le.mk (s' := ⟨61, [(2, .own 2000)], (f71z0 x1), [], 0⟩) rfl rfl ⟨.refl _, trivial⟩ ⟨⟨_, rfl, .refl _⟩, trivial⟩) ?_
      refine AWp.ret ?_
      exact bodyQ_ret _ rfl ⟨rfl, rfl⟩ rfl
def f48 (x1 : List (BitVec 16)) : Option (List (BitVec 16)) :=
  (f69 x1).bind fun (r2 : List (BitVec 16)) =>
  (f70 r2).bind fun (r3 : List (BitVec 16)) =>
  (f71 r3).bind fun (r4 : List (BitVec 16)) =>
  some r4
set_option maxRecDepth 100000 in
theorem f48_ok  (x1 : List (BitVec 16)) (r : List (BitVec 16)) (h : f48 x1 = some r)  : Spec1 Tryz.prog 48 [] [] [] [vL 1 eW 0#16 x1] (.own 3000) [(3000, bL 30 1 eW 0#16 r)] := by
  unfold f48 at h
  refine Spec1.body 0 _ _ Tryz.func48 rfl Tryz.ntmps48 rfl rfl ?_
  refine q2rq [] [] ⟨10, [(0, q2aW x1)], [], [], 0⟩ trivial ?_
  refine AWp.seq ?_
  obtain ⟨r2, hr2, h⟩ := bind_ok h
  refine q2rr [] [(1, ⟨[q2aW x1], [], [], [(6001, q2bW_30 r2)], .own 6001, [6001], [], []⟩)] ⟨10, [(3, .own 6001)], [(6001, q2bW_30 r2)], [], 0⟩ (an1 (cpT (Spec1.ren (swapN 3000 6001) (swapN_inv 3000 6001) rfl (f69_ok _ _ hr2)))) ?_
  refine thenQ_normal ?_
  refine AWp.seq ?_
  obtain ⟨r3, hr3, h⟩ := bind_ok h
  refine q2rr [] [(1, ⟨[.own 6001, .fn (.func 40) []], [6001], [6001], [(6001, q2bW_30 r3)], .tup [], [], [], []⟩)] ⟨10, [(3, .own 6001)], [(6001, q2bW_30 r3)], [], 0⟩ (an1 (cpT (Spec1.ren (swapN 2000 6001) (swapN_inv 2000 6001) rfl (f70_ok _ _ hr3)))) ?_
  refine thenQ_normal ?_
  refine AWp.seq ?_
  obtain ⟨r4, hr4, h⟩ := bind_ok h
  refine q2rr [] [(1, ⟨[.own 6001], [6001], [], [(6001, q2bW_30 r4)], .own 6001, [6001], [], []⟩)] ⟨10, [(2, .own 6001)], [(6001, q2bW_30 r4)], [], 0⟩ (an1 (cpT (Spec1.ren (swapN 2000 6001) (swapN_inv 2000 6001) rfl (f71_ok _ _ hr4)))) ?_
  refine thenQ_normal ?_
  refine AWp.le (Le.trans (Le.ren (swapN 6001 3000) (swapN_inv 6001 3000) rfl) (Le.mk (s' := ⟨10, [(2, .own 3000)], [(3000, q2bW_30 r4)], [], 0⟩) rfl rfl ⟨.refl _, trivial⟩ ⟨⟨_, rfl, .refl _⟩, trivial⟩)) ?_
  have hret := Option.some.inj h
  subst hret
  refine AWp.le (Le.mk (s' := ⟨10, [(2, .own 3000)], [(3000, q2bW_30 r4)], [], 0⟩) rfl rfl ⟨.refl _, trivial⟩ ⟨⟨_, rfl, .refl _⟩, trivial⟩) ?_
  refine AWp.ret ?_
  exact bodyQ_ret _ rfl ⟨rfl, rfl⟩ rfl
def f31_L0 (K1 : (List (BitVec 16)) → Option (List (BitVec 16))) (r2 : List (BitVec 16)) : Nat → (Nat × List (BitVec 16)) → Option (List (BitVec 16))
  | 0, _ => none
  | k + 1, (n3, l4) =>
    if (decide ((n3 : Int) < (((r2).length : Nat) : Int))) then (
    jn (fun (l6 : List (BitVec 16)) =>
    chk (((n3 : Int) + (1 : Int)) ≤ 9223372036854775807) <|
    (f31_L0 K1 r2 k) ((n3 + 1), l6)
    ) fun (K2 : (List (BitVec 16)) → Option (List (BitVec 16))) =>
    chk ((n3 : Int) < (((r2).length : Nat) : Int)) <|
    chk (n3 < (r2).length) <|
    (f41 l4 (r2.getD n3 0#16)).bind fun (r5 : Bool) =>
    if (!r5) then (
    chk (((l4).length + 1) * 2 ≤ 140737488355328) <|
    K2 (l4 ++ [(r2.getD n3 0#16)])
    ) else (
    K2 l4
    )
    ) else (
    K1 l4
    )
abbrev f31z0 (r2 : List (BitVec 16)) (n3 : Nat) : List (Nat × V) := [(3, .own 5003), (7, .own 6001), (8, .int .i64 (((r2).length : Nat) : Int)), (9, .int .i64 (n3 : Int))]
abbrev f31z1 (r2 : List (BitVec 16)) (n3 : Nat) : List (Nat × V) := [(3, .own 20), (7, .own 6001), (8, .int .i64 (((r2).length : Nat) : Int)), (9, .int .i64 (n3 : Int))]
abbrev f31z2 (l4 : List (BitVec 16)) (r2 : List (BitVec 16)) : Heap := [(5003, bL 30 1 eW 0#16 l4), (6001, bL 30 1 eW 0#16 r2)]
def f31 (x1 : List (BitVec 16)) : Option (List (BitVec 16)) :=
  jn (fun (l7 : List (BitVec 16)) =>
  some l7
  ) fun (K1 : (List (BitVec 16)) → Option (List (BitVec 16))) =>
  (f48 x1).bind fun (r2 : List (BitVec 16)) =>
  f31_L0 K1 r2 FUEL (0, [])
set_option maxRecDepth 100000 in
theorem f31_ok  (x1 : List (BitVec 16)) (r : List (BitVec 16)) (h : f31 x1 = some r)  : Spec1 Tryz.prog 31 [] [] [] [vL 1 eW 0#16 x1] (.own 3000) [(3000, bL 30 1 eW 0#16 r)] := by
  unfold f31 at h
  refine Spec1.body 0 _ _ Tryz.func31 rfl Tryz.ntmps31 rfl rfl ?_
  refine q2rq [] [] ⟨23, [(0, q2aW x1)], [], [], 0⟩ trivial ?_
  refine q2rq [] [] ⟨23, [(0, q2aW x1), (3, .nils)], [], [], 0⟩ trivial ?_
  obtain ⟨K1, hK1, h⟩ := jn_some h
  refine AWp.join (α := List (BitVec 16)) (fun (l7 : List (BitVec 16)) => ⟨23, [(3, .own 5003)], [(5003, q2bW_30 l7)], [], 0⟩) (fun x => K1 x = some r) ?_ ?_
  ·
    refine AWp.seq ?_
    obtain ⟨r2, hr2, h⟩ := bind_ok h
    refine q2rr [] [(1, ⟨[q2aW x1], [], [], [(6001, q2bW_30 r2)], .own 6001, [6001], [], []⟩)] ⟨23, [(3, .nils), (7, .own 6001), (8, .i (lZ r2)), (9, .i (0 : Int))], [(6001, q2bW_30 r2)], [], 0⟩ (an1 (cpT (Spec1.ren (swapN 3000 6001) (swapN_inv 3000 6001) rfl (f48_ok _ _ hr2)))) ?_
    refine thenQ_normal ?_
    refine AWp.block ?_
    refine AWp.loopL (α := Nat × (Nat × List (BitVec 16))) (fun x => match x with | (_, n3, l4) => ⟨23, (f31z0 r2 n3), (f31z2 l4 r2), [], 0⟩) (fun x => f31_L0 K1 r2 x.1 x.2 = some r) (fun x => x.1) (FUEL, 0, []) (Le.trans (Le.trans (Le.nilOwn 3 5003 30 1 (encF eW 0#16 []) rfl rfl (Nat.le_of_ble_eq_true rfl)) (Le.mk (s' := ⟨23, [(3, .own 5003), (7, .own 6001), (8, .i (lZ r2)), (9, .i (0 : Int))], [(6001, q2bW_30 r2), (5003, q2bW_30 [])], [], 0⟩) rfl rfl ⟨.refl _, .refl _, .refl _, .refl _, trivial⟩ ⟨⟨_, rfl, .refl _⟩, ⟨_, rfl, .refl _⟩, trivial⟩)) (Le.mk (s' := ⟨23, [(3, .own 5003), (7, .own 6001), (8, .i (lZ r2)), (9, .i (0 : Int))], [(5003, q2bW_30 []), (6001, q2bW_30 r2)], [], 0⟩) rfl rfl ⟨.refl _, .refl _, .refl _, .refl _, trivial⟩ ⟨⟨_, rfl, .refl _⟩, ⟨_, rfl, .refl _⟩, trivial⟩)) h ?_
    rintro ⟨k0, n3, l4⟩ h
    cases k0 with
    | zero => exact nomatch (show (none : Option (List (BitVec 16))) = some r from h)
    | succ k0 =>
    obtain ⟨C0, hC0⟩ : ∃ C, C = f31_L0 K1 r2 k0 := ⟨_, rfl⟩
    replace h := (f31_L0.eq_2 ..).symm.trans h
    try rw [← hC0] at h
    refine q2rq [] [] ⟨23, [(3, .own 5003), (7, .own 6001), (8, .i (lZ r2)), (9, .i (n3 : Int)), (10, .bool (decide ((n3 : Int) < (lZ r2))))], (f31z2 l4 r2), [], 0⟩ trivial ?_
    refine AWp.seq ?_
    refine AWp.cond (b := (decide ((n3 : Int) < (lZ r2)))) (by kernel_rfl) (fun hc1 => ?_) (fun hc1 => ?_)
    ·
      replace h := ite_tb hc1 h
      refine AWp.skip ?_
      refine thenQ_normal ?_
      obtain ⟨K2, hK2, h⟩ := jn_some h
      refine AWp.join (α := List (BitVec 16)) (fun (l6 : List (BitVec 16)) => ⟨23, (f31z1 r2 n3), [(20, q2bW_30 l6), (6001, q2bW_30 r2)], [], 0⟩) (fun x => K2 x = some r) ?_ ?_
      ·
        refine AWp.block ?_
        refine AWp.seq ?_
        obtain ⟨ob0p, h⟩ := chk_some h
        have ob0 : 0 ≤ (n3 : Int) ∧ (n3 : Int) < (((r2).length : Nat) : Int) := ⟨by omega, ob0p⟩
        obtain ⟨ob1, h⟩ := chk_some h
        refine q2rr [] [] ⟨23, [(3, .own 5003), (5, .b16 (r2.getD n3 0#16)), (7, .own 6001), (8, .i (lZ r2)), (9, .i (n3 : Int))], (f31z2 l4 r2), [], 0⟩ (an2 ob0 ob1) ?_
        refine thenQ_normal ?_
        refine AWp.seq ?_
        obtain ⟨r5, hr5, h⟩ := bind_ok h
        refine q2rr [] [(2, ⟨[q2aW l4, .b16 (r2.getD n3 0#16)], [], [], [], .bool r5, [], [5003], []⟩)] ⟨23, [(3, .own 5003), (5, .b16 (r2.getD n3 0#16)), (7, .own 6001), (8, .i (lZ r2)), (9, .i (n3 : Int)), (16, .bool (!r5))], (f31z2 l4 r2), [], 0⟩ (an1 (cpL (c := true) [(5003, q2bW_30 l4)] [5003] [.own 5003, .b16 (r2.getD n3 0#16)] (fun _ => (f41_ok _ _ _ hr5)) (fun _ => ⟨.refl _, .refl _, trivial⟩) (.inr ⟨rfl, trivial⟩))) ?_
        refine thenQ_normal ?_
        refine AWp.cond (b := (!r5)) (by kernel_rfl) (fun hc2 => ?_) (fun hc2 => ?_)
        ·
          replace h := ite_tb hc2 h
          obtain ⟨ob2, h⟩ := chk_some h
          refine q2rr [] [] ⟨23, (f31z0 r2 n3), [(5003, .rows 30 1 ((l4).length + 1) (appF (l4).length (encF eW 0#16 l4) (lstF 1 [.b16 (r2.getD n3 0#16)]))), (6001, q2bW_30 r2)], [], 0⟩ (an1 ob2) ?_
          refine blockQ_normal ?_
          exact joinQ_normal ((l4 ++ [(r2.getD n3 0#16)])) (Le.trans (Le.mk (s' := ⟨23, (f31z0 r2 n3), [(5003, q2bW_30 (l4 ++ [(r2.getD n3 0#16)])), (6001, q2bW_30 r2)], [], 0⟩) rfl rfl ⟨.refl _, .refl _, .refl _, .refl _, trivial⟩ ⟨⟨_, rfl, (BLe.of (RL.app (RL.self _) (RL.lst (enc := eW) [(r2.getD n3 0#16)] rfl rfl (fun _ => rfl))))⟩, ⟨_, rfl, .refl _⟩, trivial⟩) (Le.trans (Le.trans (Le.ren (swapN 5003 20) (swapN_inv 5003 20) rfl) (Le.mk (s' := ⟨23, (f31z1 r2 n3), [(20, q2bW_30 (l4 ++ [(r2.getD n3 0#16)])), (6001, q2bW_30 r2)], [], 0⟩) rfl rfl ⟨.refl _, .refl _, .refl _, .refl _, trivial⟩ ⟨⟨_, rfl, .refl _⟩, ⟨_, rfl, .refl _⟩, trivial⟩)) (Le.mk rfl rfl ⟨.refl _, .refl _, .refl _, .refl _, trivial⟩ ⟨⟨_, rfl, .refl _⟩, ⟨_, rfl, .refl _⟩, trivial⟩))) h
        ·
          replace h := ite_fb hc2 h
          refine AWp.skip ?_
          refine blockQ_normal ?_
          exact joinQ_normal (l4) (Le.trans (Le.trans (Le.ren (swapN 5003 20) (swapN_inv 5003 20) rfl) (Le.mk (s' := ⟨23, [(3, .own 20), (5, .b16 (r2.getD n3 0#16)), (7, .own 6001), (8, .i (lZ r2)), (9, .i (n3 : Int)), (16, .bool (!r5))], [(20, q2bW_30 l4), (6001, q2bW_30 r2)], [], 0⟩) rfl rfl ⟨.refl _, .refl _, .refl _, .refl _, .refl _, .refl _, trivial⟩ ⟨⟨_, rfl, .refl _⟩, ⟨_, rfl, .refl _⟩, trivial⟩)) (Le.mk rfl rfl ⟨.refl _, .refl _, .refl _, .refl _, trivial⟩ ⟨⟨_, rfl, .refl _⟩, ⟨_, rfl, .refl _⟩, trivial⟩)) h
      ·
        rintro l6 h
        replace h := (congrFun hK2 _).symm.trans h
        obtain ⟨ob3p, h⟩ := chk_some h
        have ob3 : -9223372036854775808 ≤ ((n3 : Int) + (1 : Int)) ∧ ((n3 : Int) + (1 : Int)) ≤ 9223372036854775807 := ⟨by omega, ob3p⟩
        refine q2rr [] [] ⟨23, [(3, .own 20), (7, .own 6001), (8, .i (lZ r2)), (9, .i (((n3 + 1) : Nat) : Int))], [(20, q2bW_30 l6), (6001, q2bW_30 r2)], [], 0⟩ (an1 ob3) ?_
        rw [hC0] at h
        exact loopQ_normal (_, (n3 + 1), l6) (Le.trans (Le.trans (Le.ren (swapN 20 5003) (swapN_inv 20 5003) rfl) (Le.mk (s' := ⟨23, [(3, .own 5003), (7, .own 6001), (8, .i (lZ r2)), (9, .i (((n3 + 1) : Nat) : Int))], [(5003, q2bW_30 l6), (6001, q2bW_30 r2)], [], 0⟩) rfl rfl ⟨.refl _, .refl _, .refl _, .refl _, trivial⟩ ⟨⟨_, rfl, .refl _⟩, ⟨_, rfl, .refl _⟩, trivial⟩)) (Le.mk rfl rfl ⟨.refl _, .refl _, .refl _, .refl _, trivial⟩ ⟨⟨_, rfl, .refl _⟩, ⟨_, rfl, .refl _⟩, trivial⟩)) h (Nat.lt_succ_self _)
    ·
      replace h := ite_fb hc1 h
      refine AWp.exit ?_
      refine thenQ_exit ?_
      refine thenQ_exit ?_
      refine blockQ_same ?_
      exact joinQ_normal (l4) (Le.mk rfl rfl ⟨.refl _, trivial⟩ ⟨⟨_, rfl, .refl _⟩, trivial⟩) h
  ·
    rintro l7 h
    replace h := (congrFun hK1 _).symm.trans h
    refine q2rq [] [] ⟨23, [(2, .own 5003)], [(5003, q2bW_30 l7)], [], 0⟩ trivial ?_
    refine AWp.le (Le.trans (Le.ren (swapN 5003 3000) (swapN_inv 5003 3000) rfl) (Le.mk (s' := ⟨23, [(2, .own 3000)], [(3000, q2bW_30 l7)], [], 0⟩) rfl rfl ⟨.refl _, trivial⟩ ⟨⟨_, rfl, .refl _⟩, trivial⟩)) ?_
    have hret := Option.some.inj h
    subst hret
    refine AWp.le (Le.mk (s' := ⟨23, [(2, .own 3000)], [(3000, q2bW_30 l7)], [], 0⟩) rfl rfl ⟨.refl _, trivial⟩ ⟨⟨_, rfl, .refl _⟩, trivial⟩) ?_
    refine AWp.ret ?_
    exact bodyQ_ret _ rfl ⟨rfl, rfl⟩ rfl
def f30 (x1 : List (BitVec 16)) : Option (List (BitVec 16) × Int) :=
  if (decide ((((x1).length : Nat) : Int) > (400 : Int))) then (
  some ([], (3 : Int))
  ) else (
  some (x1, (0 : Int))
  )
set_option maxRecDepth 100000 in
theorem f30_ok  (x1 : List (BitVec 16)) (r : List (BitVec 16) × Int) (h : f30 x1 = some r)  : Spec1 Tryz.prog 30 [] [] [] [vL 1 eW 0#16 x1] (.tup [vL 1 eW 0#16 r.1, .int .i64 r.2]) [] := by
  unfold f30 at h
  refine Spec1.body 0 _ _ Tryz.func30 rfl Tryz.ntmps30 rfl rfl ?_
  refine q2rq [] [] ⟨8, [(0, q2aW x1)], [], [], 0⟩ trivial ?_
  refine AWp.seq ?_
  refine q2rq [] [] ⟨8, [(0, q2aW x1), (6, .bool (decide ((lZ x1) > (400 : Int))))], [], [], 0⟩ trivial ?_
  refine AWp.cond (b := (decide ((lZ x1) > (400 : Int)))) (by kernel_rfl) (fun hc1 => ?_) (fun hc1 => ?_)
  ·
    replace h := ite_tb hc1 h
    refine q2rq [] [] ⟨8, [(2, .nils), (3, .i (3 : Int))], [], [], 0⟩ trivial ?_
    have hret := Option.some.inj h
    subst hret
    refine AWp.le (Le.mk (s' := ⟨8, [(2, q2aW []), (3, .i (3 : Int))], [], [], 0⟩) rfl rfl ⟨.nilL, .refl _, trivial⟩ trivial) ?_
    refine AWp.ret ?_
    refine thenQ_ret ?_
    exact bodyQ_ret _ rfl ⟨rfl, rfl⟩ rfl
  ·
    replace h := ite_fb hc1 h
    refine AWp.skip ?_
    refine thenQ_normal ?_
    refine q2rq [] [] ⟨8, [(2, q2aW x1), (3, .i (0 : Int))], [], [], 0⟩ trivial ?_
    have hret := Option.some.inj h
    subst hret
    refine AWp.le (Le.mk (s' := ⟨8, [(2, q2aW x1), (3, .i (0 : Int))], [], [], 0⟩) rfl rfl ⟨.refl _, .refl _, trivial⟩ trivial) ?_
    refine AWp.ret ?_
    exact bodyQ_ret _ rfl ⟨rfl, rfl⟩ rfl
def f11_L1 (x1 : List (BitVec 16)) (x2 : List (BitVec 16)) (n4 : Nat) (K2 : (List Bool) → Option (List (BitVec 16) × Int)) : Nat → (Nat × List Bool) → Option (List (BitVec 16) × Int)
  | 0, _ => none
  | k + 1, (n6, l7) =>
    if (decide ((n6 : Int) < (((x2).length : Nat) : Int))) then (
    chk ((n6 : Int) < (((x2).length : Nat) : Int)) <|
    chk (((((x1.getD n4 0#16) ||| (x2.getD n6 0#16)).toNat : Nat) : Int) < (((l7).length : Nat) : Int)) <|
    chk ((((x1.getD n4 0#16) ||| (x2.getD n6 0#16)).toNat) < (l7).length) <|
    chk (((n6 : Int) + (1 : Int)) ≤ 9223372036854775807) <|
    (f11_L1 x1 x2 n4 K2 k) ((n6 + 1), (l7.set (((x1.getD n4 0#16) ||| (x2.getD n6 0#16)).toNat) true))
    ) else (
    K2 l7
    )
def f11_L0 (x1 : List (BitVec 16)) (x2 : List (BitVec 16)) (K1 : (List Bool) → Option (List (BitVec 16) × Int)) : Nat → (Nat × List Bool) → Option (List (BitVec 16) × Int)
  | 0, _ => none
  | k + 1, (n4, l5) =>
    if (decide ((n4 : Int) < (((x1).length : Nat) : Int))) then (
    jn (fun (l8 : List Bool) =>
    chk (((n4 : Int) + (1 : Int)) ≤ 9223372036854775807) <|
    (f11_L0 x1 x2 K1 k) ((n4 + 1), l8)
    ) fun (K2 : (List Bool) → Option (List (BitVec 16) × Int)) =>
    chk ((n4 : Int) < (((x1).length : Nat) : Int)) <|
    f11_L1 x1 x2 n4 K2 FUEL (0, l5)
    ) else (
    K1 l5
    )
def f11_L2 (l9 : List Bool) (K3 : (List (BitVec 16)) → Option (List (BitVec 16) × Int)) : Nat → (Nat × List (BitVec 16)) → Option (List (BitVec 16) × Int)
  | 0, _ => none
  | k + 1, (n10, l11) =>
    if (decide ((n10 : Int) < (((l9).length : Nat) : Int))) then (
    jn (fun (l12 : List (BitVec 16)) =>
    chk (((n10 : Int) + (1 : Int)) ≤ 9223372036854775807) <|
    (f11_L2 l9 K3 k) ((n10 + 1), l12)
    ) fun (K4 : (List (BitVec 16)) → Option (List (BitVec 16) × Int)) =>
    chk ((n10 : Int) < (((l9).length : Nat) : Int)) <|
    chk (n10 < (l9).length) <|
    if (l9.getD n10 false) then (
    chk (((l11).length + 1) * 2 ≤ 140737488355328) <|
    K4 (l11 ++ [(BitVec.ofInt 16 (n10 : Int))])
    ) else (
    K4 l11
    )
    ) else (
    K3 l11
    )
abbrev f11z0 (x2 : List (BitVec 16)) (x1 : List (BitVec 16)) (n4 : Nat) (n6 : Nat) : List (Nat × V) := [(1, vL 1 eW 0#16 x2), (7, .own 21), (9, .b16 (x1.getD n4 0#16)), (22, vL 1 eW 0#16 x1), (23, .int .i64 (((x1).length : Nat) : Int)), (24, .int .i64 (n4 : Int)), (28, vL 1 eW 0#16 x2), (29, .int .i64 (((x2).length : Nat) : Int)), (30, .int .i64 (n6 : Int))]
abbrev f11z1 (l9 : List Bool) (n10 : Nat) : List (Nat × V) := [(12, .own 5012), (41, .own 21), (42, .int .i64 (((l9).length : Nat) : Int)), (43, .int .i64 (n10 : Int))]
abbrev f11z2 (l9 : List Bool) (n10 : Nat) : List (Nat × V) := [(12, .own 53), (41, .own 21), (42, .int .i64 (((l9).length : Nat) : Int)), (43, .int .i64 (n10 : Int))]
abbrev f11z3 (x2 : List (BitVec 16)) (x1 : List (BitVec 16)) (n4 : Nat) : List (Nat × V) := [(1, vL 1 eW 0#16 x2), (7, .own 21), (22, vL 1 eW 0#16 x1), (23, .int .i64 (((x1).length : Nat) : Int)), (24, .int .i64 (n4 : Int))]
abbrev f11z4 (n10 : Nat) := (BitVec.ofInt 16 (n10 : Int))
abbrev f11z5 (l9 : List Bool) (l11 : List (BitVec 16)) : Heap := [(21, bL 4 1 eB false l9), (5012, bL 30 1 eW 0#16 l11)]
def f11 (x1 : List (BitVec 16)) (x2 : List (BitVec 16)) : Option (List (BitVec 16) × Int) :=
  (f29 x1 x2).bind fun (r3 : Int) =>
  if (r3 != (0 : Int)) then (
  some ([], r3)
  ) else (
  jn (fun (l9 : List Bool) =>
  jn (fun (l13 : List (BitVec 16)) =>
  (f31 l13).bind fun (r14 : List (BitVec 16)) =>
  (f30 r14).bind fun (r15 : List (BitVec 16) × Int) =>
  some (r15.1, r15.2)
  ) fun (K3 : (List (BitVec 16)) → Option (List (BitVec 16) × Int)) =>
  f11_L2 l9 K3 FUEL (0, [])
  ) fun (K1 : (List Bool) → Option (List (BitVec 16) × Int)) =>
  f11_L0 x1 x2 K1 FUEL (0, (List.replicate 4096 (false : Bool)))
  )
set_option maxRecDepth 100000 in
theorem f11_ok  (x1 : List (BitVec 16)) (x2 : List (BitVec 16)) (r : List (BitVec 16) × Int) (h : f11 x1 x2 = some r)  : Spec1 Tryz.prog 11 [] [] [] [vL 1 eW 0#16 x1, vL 1 eW 0#16 x2] (.tup [vL 1 eW 0#16 r.1, .int .i64 r.2]) [] := by
  unfold f11 at h
  refine Spec1.body 0 _ _ Tryz.func11 rfl Tryz.ntmps11 rfl rfl ?_
  refine q2rq [] [] ⟨60, [(0, q2aW x1), (1, q2aW x2)], [], [], 0⟩ trivial ?_
  refine AWp.seq ?_
  refine AWp.seq ?_
  obtain ⟨r3, hr3, h⟩ := bind_ok h
  refine q2rr [] [(2, ⟨[q2aW x1, q2aW x2], [], [], [], .i r3, [], [], []⟩)] ⟨60, [(0, q2aW x1), (1, q2aW x2), (6, .i r3)], [], [], 0⟩ (an1 (cpT (f29_ok _ _ _ hr3))) ?_
  refine thenQ_normal ?_
  refine q2rq [] [] ⟨60, [(0, q2aW x1), (1, q2aW x2), (6, .i r3), (19, .bool (r3 != (0 : Int)))], [], [], 0⟩ trivial ?_
  refine AWp.cond (b := (r3 != (0 : Int))) (by kernel_rfl) (fun hc1 => ?_) (fun hc1 => ?_)
  ·
    replace h := ite_tb hc1 h
    refine q2rq [] [] ⟨60, [(4, .nils), (5, .i r3)], [], [], 0⟩ trivial ?_
    have hret := Option.some.inj h
    subst hret
    refine AWp.le (Le.mk (s' := ⟨60, [(4, q2aW []), (5, .i r3)], [], [], 0⟩) rfl rfl ⟨.nilL, .refl _, trivial⟩ trivial) ?_
    refine AWp.ret ?_
    refine thenQ_ret ?_
    exact bodyQ_ret _ rfl ⟨rfl, rfl⟩ rfl
  ·
    replace h := ite_fb hc1 h
    refine AWp.skip ?_
    refine thenQ_normal ?_
    refine AWp.seq ?_
    have ob0 : 0 ≤ (4096 : Int) ∧ (4096 : Int) ≤ (4096 : Int) ∧ (1 : Int) * (4096 : Int) ≤ 281474976710656 ∧ (4096 : Int) ≤ 9223372036854775807 := by first | decide | omega | simp | (intro h; cases h)
    refine q2rr [] [] ⟨60, [(0, q2aW x1), (1, q2aW x2), (7, .own 21)], [(21, .rows 4 1 4096 (repF [.bool false]))], [], 0⟩ (an1 ob0) ?_
    refine thenQ_normal ?_
    refine AWp.le (Le.mk (s' := ⟨60, [(0, q2aW x1), (1, q2aW x2), (7, .own 21)], [(21, q2bB_4 (List.replicate 4096 (false : Bool)))], [], 0⟩) rfl rfl ⟨.refl _, .refl _, .refl _, trivial⟩ ⟨⟨_, rfl, (BLe.of (RL.rep (false : Bool) rfl))⟩, trivial⟩) ?_
    obtain ⟨K1, hK1, h⟩ := jn_some h
    refine AWp.join (α := List Bool) (fun (l9 : List Bool) => ⟨60, [(7, .own 21)], [(21, q2bB_4 l9)], [], 0⟩) (fun x => K1 x = some r) ?_ ?_
    ·
      refine q2rq [] [] ⟨60, [(1, q2aW x2), (7, .own 21), (22, q2aW x1), (23, .i (lZ x1)), (24, .i (0 : Int))], [(21, q2bB_4 (List.replicate 4096 (false : Bool)))], [], 0⟩ trivial ?_
      refine AWp.block ?_
      refine AWp.loopL (α := Nat × (Nat × List Bool)) (fun x => match x with | (_, n4, l5) => ⟨60, (f11z3 x2 x1 n4), [(21, q2bB_4 l5)], [], 0⟩) (fun x => f11_L0 x1 x2 K1 x.1 x.2 = some r) (fun x => x.1) (FUEL, 0, (List.replicate 4096 (false : Bool))) (Le.mk (s' := ⟨60, [(1, q2aW x2), (7, .own 21), (22, q2aW x1), (23, .i (lZ x1)), (24, .i (0 : Int))], [(21, q2bB_4 (List.replicate 4096 (false : Bool)))], [], 0⟩) rfl rfl ⟨.refl _, .refl _, .refl _, .refl _, .refl _, trivial⟩ ⟨⟨_, rfl, .refl _⟩, trivial⟩) h ?_
      rintro ⟨k0, n4, l5⟩ h
      cases k0 with
      | zero => exact nomatch (show (none : Option (List (BitVec 16) × Int)) = some r from h)
      | succ k0 =>
      obtain ⟨C0, hC0⟩ : ∃ C, C = f11_L0 x1 x2 K1 k0 := ⟨_, rfl⟩
      replace h := (f11_L0.eq_2 ..).symm.trans h
      try rw [← hC0] at h
      refine q2rq [] [] ⟨60, [(1, q2aW x2), (7, .own 21), (22, q2aW x1), (23, .i (lZ x1)), (24, .i (n4 : Int)), (25, .bool (decide ((n4 : Int) < (lZ x1))))], [(21, q2bB_4 l5)], [], 0⟩ trivial ?_
      refine AWp.seq ?_
      refine AWp.cond (b := (decide ((n4 : Int) < (lZ x1)))) (by kernel_rfl) (fun hc2 => ?_) (fun hc2 => ?_)
      ·
        replace h := ite_tb hc2 h
        refine AWp.skip ?_
        refine thenQ_normal ?_
        obtain ⟨K2, hK2, h⟩ := jn_some h
        refine AWp.join (α := List Bool) (fun (l8 : List Bool) => ⟨60, (f11z3 x2 x1 n4), [(21, q2bB_4 l8)], [], 0⟩) (fun x => K2 x = some r) ?_ ?_
        ·
          refine AWp.block ?_
          refine AWp.seq ?_
          obtain ⟨ob1p, h⟩ := chk_some h
          have ob1 : 0 ≤ (n4 : Int) ∧ (n4 : Int) < (((x1).length : Nat) : Int) := ⟨by omega, ob1p⟩
          refine q2rr [] [] ⟨60, [(1, q2aW x2), (7, .own 21), (9, .b16 (x1.getD n4 0#16)), (22, q2aW x1), (23, .i (lZ x1)), (24, .i (n4 : Int))], [(21, q2bB_4 l5)], [], 0⟩ (an1 ob1) ?_
          refine thenQ_normal ?_
          refine q2rq [] [] ⟨60, [(1, q2aW x2), (7, .own 21), (9, .b16 (x1.getD n4 0#16)), (22, q2aW x1), (23, .i (lZ x1)), (24, .i (n4 : Int)), (28, q2aW x2), (29, .i (lZ x2)), (30, .i (0 : Int))], [(21, q2bB_4 l5)], [], 0⟩ trivial ?_
          refine AWp.block ?_
          refine AWp.loopL (α := Nat × (Nat × List Bool)) (fun x => match x with | (_, n6, l7) => ⟨60, (f11z0 x2 x1 n4 n6), [(21, q2bB_4 l7)], [], 0⟩) (fun x => f11_L1 x1 x2 n4 K2 x.1 x.2 = some r) (fun x => x.1) (FUEL, 0, l5) (Le.mk (s' := ⟨60, [(1, q2aW x2), (7, .own 21), (9, .b16 (x1.getD n4 0#16)), (22, q2aW x1), (23, .i (lZ x1)), (24, .i (n4 : Int)), (28, q2aW x2), (29, .i (lZ x2)), (30, .i (0 : Int))], [(21, q2bB_4 l5)], [], 0⟩) rfl rfl ⟨.refl _, .refl _, .refl _, .refl _, .refl _, .refl _, .refl _, .refl _, .refl _, trivial⟩ ⟨⟨_, rfl, .refl _⟩, trivial⟩) h ?_
          rintro ⟨k1, n6, l7⟩ h
          cases k1 with
          | zero => exact nomatch (show (none : Option (List (BitVec 16) × Int)) = some r from h)
          | succ k1 =>
          obtain ⟨C1, hC1⟩ : ∃ C, C = f11_L1 x1 x2 n4 K2 k1 := ⟨_, rfl⟩
          replace h := (f11_L1.eq_2 ..).symm.trans h
          try rw [← hC1] at h
          refine q2rq [] [] ⟨60, [(1, q2aW x2), (7, .own 21), (9, .b16 (x1.getD n4 0#16)), (22, q2aW x1), (23, .i (lZ x1)), (24, .i (n4 : Int)), (28, q2aW x2), (29, .i (lZ x2)), (30, .i (n6 : Int)), (31, .bool (decide ((n6 : Int) < (lZ x2))))], [(21, q2bB_4 l7)], [], 0⟩ trivial ?_
          refine AWp.seq ?_
          refine AWp.cond (b := (decide ((n6 : Int) < (lZ x2)))) (by kernel_rfl) (fun hc3 => ?_) (fun hc3 => ?_)
          ·
            replace h := ite_tb hc3 h
            refine AWp.skip ?_
            refine thenQ_normal ?_
            refine AWp.seq ?_
            refine AWp.block ?_
            refine AWp.seq ?_
            obtain ⟨ob2p, h⟩ := chk_some h
            have ob2 : 0 ≤ (n6 : Int) ∧ (n6 : Int) < (((x2).length : Nat) : Int) := ⟨by omega, ob2p⟩
            refine q2rr [] [] ⟨60, [(1, q2aW x2), (7, .own 21), (9, .b16 (x1.getD n4 0#16)), (11, .b16 (x2.getD n6 0#16)), (22, q2aW x1), (23, .i (lZ x1)), (24, .i (n4 : Int)), (28, q2aW x2), (29, .i (lZ x2)), (30, .i (n6 : Int))], [(21, q2bB_4 l7)], [], 0⟩ (an1 ob2) ?_
            refine thenQ_normal ?_
            obtain ⟨ob3p, h⟩ := chk_some h
            have ob3 : 0 ≤ ((((x1.getD n4 0#16) ||| (x2.getD n6 0#16)).toNat : Nat) : Int) ∧ ((((x1.getD n4 0#16) ||| (x2.getD n6 0#16)).toNat : Nat) : Int) < (((l7).length : Nat) : Int) := ⟨by omega, ob3p⟩
            obtain ⟨ob4, h⟩ := chk_some h
            refine q2rr [] [] ⟨60, (f11z0 x2 x1 n4 n6), [(21, .rows 4 1 (l7).length (updF (encF eB false l7) (((x1.getD n4 0#16) ||| (x2.getD n6 0#16)).toNat) 0 [.bool true]))], [], 0⟩ (an2 ob3 ob4) ?_
            refine blockQ_normal ?_
            refine thenQ_normal ?_
            refine AWp.le (Le.mk (s' := ⟨60, (f11z0 x2 x1 n4 n6), [(21, q2bB_4 (l7.set (((x1.getD n4 0#16) ||| (x2.getD n6 0#16)).toNat) true))], [], 0⟩) rfl rfl ⟨.refl _, .refl _, .refl _, .refl _, .refl _, .refl _, .refl _, .refl _, .refl _, trivial⟩ ⟨⟨_, rfl, (BLe.of (RL.set true (RL.self _) (by intro j hj; match j, hj with | 0, _ => rfl)))⟩, trivial⟩) ?_
            obtain ⟨ob5p, h⟩ := chk_some h
            have ob5 : -9223372036854775808 ≤ ((n6 : Int) + (1 : Int)) ∧ ((n6 : Int) + (1 : Int)) ≤ 9223372036854775807 := ⟨by omega, ob5p⟩
            refine q2rr [] [] ⟨60, [(1, q2aW x2), (7, .own 21), (9, .b16 (x1.getD n4 0#16)), (22, q2aW x1), (23, .i (lZ x1)), (24, .i (n4 : Int)), (28, q2aW x2), (29, .i (lZ x2)), (30, .i (((n6 + 1) : Nat) : Int))], [(21, q2bB_4 (l7.set (((x1.getD n4 0#16) ||| (x2.getD n6 0#16)).toNat) true))], [], 0⟩ (an1 ob5) ?_
            rw [hC1] at h
            exact loopQ_normal (_, (n6 + 1), (l7.set (((x1.getD n4 0#16) ||| (x2.getD n6 0#16)).toNat) true)) (Le.mk rfl rfl ⟨.refl _, .refl _, .refl _, .refl _, .refl _, .refl _, .refl _, .refl _, .refl _, trivial⟩ ⟨⟨_, rfl, .refl _⟩, trivial⟩) h (Nat.lt_succ_self _)
          ·
            replace h := ite_fb hc3 h
            refine AWp.exit ?_
            refine thenQ_exit ?_
            refine thenQ_exit ?_
            refine blockQ_same ?_
            refine blockQ_normal ?_
            exact joinQ_normal (l7) (Le.mk rfl rfl ⟨.refl _, .refl _, .refl _, .refl _, .refl _, trivial⟩ ⟨⟨_, rfl, .refl _⟩, trivial⟩) h
        ·
          rintro l8 h
          replace h := (congrFun hK2 _).symm.trans h
          obtain ⟨ob6p, h⟩ := chk_some h
          have ob6 : -9223372036854775808 ≤ ((n4 : Int) + (1 : Int)) ∧ ((n4 : Int) + (1 : Int)) ≤ 9223372036854775807 := ⟨by omega, ob6p⟩
          refine q2rr [] [] ⟨60, [(1, q2aW x2), (7, .own 21), (22, q2aW x1), (23, .i (lZ x1)), (24, .i (((n4 + 1) : Nat) : Int))], [(21, q2bB_4 l8)], [], 0⟩ (an1 ob6) ?_
          rw [hC0] at h
          exact loopQ_normal (_, (n4 + 1), l8) (Le.mk rfl rfl ⟨.refl _, .refl _, .refl _, .refl _, .refl _, trivial⟩ ⟨⟨_, rfl, .refl _⟩, trivial⟩) h (Nat.lt_succ_self _)
      ·
        replace h := ite_fb hc2 h
        refine AWp.exit ?_
        refine thenQ_exit ?_
        refine thenQ_exit ?_
        refine blockQ_same ?_
        exact joinQ_normal (l5) (Le.mk rfl rfl ⟨.refl _, trivial⟩ ⟨⟨_, rfl, .refl _⟩, trivial⟩) h
    ·
      rintro l9 h
      replace h := (congrFun hK1 _).symm.trans h
      refine q2rq [] [] ⟨60, [(7, .own 21), (12, .nils)], [(21, q2bB_4 l9)], [], 0⟩ trivial ?_
      obtain ⟨K3, hK3, h⟩ := jn_some h
      refine AWp.join (α := List (BitVec 16)) (fun (l13 : List (BitVec 16)) => ⟨60, [(12, .own 5012)], [(5012, q2bW_30 l13)], [], 0⟩) (fun x => K3 x = some r) ?_ ?_
      ·
        refine q2rq [] [] ⟨60, [(12, .nils), (41, .own 21), (42, .i (lZ l9)), (43, .i (0 : Int))], [(21, q2bB_4 l9)], [], 0⟩ trivial ?_
        refine AWp.block ?_
        refine AWp.loopL (α := Nat × (Nat × List (BitVec 16))) (fun x => match x with | (_, n10, l11) => ⟨60, (f11z1 l9 n10), (f11z5 l9 l11), [], 0⟩) (fun x => f11_L2 l9 K3 x.1 x.2 = some r) (fun x => x.1) (FUEL, 0, []) (Le.trans (Le.trans (Le.nilOwn 12 5012 30 1 (encF eW 0#16 []) rfl rfl (Nat.le_of_ble_eq_true rfl)) (Le.mk (s' := ⟨60, [(12, .own 5012), (41, .own 21), (42, .i (lZ l9)), (43, .i (0 : Int))], [(21, q2bB_4 l9), (5012, q2bW_30 [])], [], 0⟩) rfl rfl ⟨.refl _, .refl _, .refl _, .refl _, trivial⟩ ⟨⟨_, rfl, .refl _⟩, ⟨_, rfl, .refl _⟩, trivial⟩)) (Le.mk (s' := ⟨60, [(12, .own 5012), (41, .own 21), (42, .i (lZ l9)), (43, .i (0 : Int))], [(21, q2bB_4 l9), (5012, q2bW_30 [])], [], 0⟩) rfl rfl ⟨.refl _, .refl _, .refl _, .refl _, trivial⟩ ⟨⟨_, rfl, .refl _⟩, ⟨_, rfl, .refl _⟩, trivial⟩)) h ?_
        rintro ⟨k2, n10, l11⟩ h
        cases k2 with
        | zero => exact nomatch (show (none : Option (List (BitVec 16) × Int)) = some r from h)
        | succ k2 =>
        obtain ⟨C2, hC2⟩ : ∃ C, C = f11_L2 l9 K3 k2 := ⟨_, rfl⟩
        replace h := (f11_L2.eq_2 ..).symm.trans h
        try rw [← hC2] at h
        refine q2rq [] [] ⟨60, [(12, .own 5012), (41, .own 21), (42, .i (lZ l9)), (43, .i (n10 : Int)), (44, .bool (decide ((n10 : Int) < (lZ l9))))], (f11z5 l9 l11), [], 0⟩ trivial ?_
        refine AWp.seq ?_
        refine AWp.cond (b := (decide ((n10 : Int) < (lZ l9)))) (by kernel_rfl) (fun hc4 => ?_) (fun hc4 => ?_)
        ·
          replace h := ite_tb hc4 h
          refine AWp.skip ?_
          refine thenQ_normal ?_
          obtain ⟨K4, hK4, h⟩ := jn_some h
          refine AWp.join (α := List (BitVec 16)) (fun (l12 : List (BitVec 16)) => ⟨60, (f11z2 l9 n10), [(21, q2bB_4 l9), (53, q2bW_30 l12)], [], 0⟩) (fun x => K4 x = some r) ?_ ?_
          ·
            refine AWp.block ?_
            refine AWp.seq ?_
            obtain ⟨ob7p, h⟩ := chk_some h
            have ob7 : 0 ≤ (n10 : Int) ∧ (n10 : Int) < (((l9).length : Nat) : Int) := ⟨by omega, ob7p⟩
            obtain ⟨ob8, h⟩ := chk_some h
            refine q2rr [] [] ⟨60, [(12, .own 5012), (13, .i (n10 : Int)), (14, .bool (l9.getD n10 false)), (41, .own 21), (42, .i (lZ l9)), (43, .i (n10 : Int))], (f11z5 l9 l11), [], 0⟩ (an2 ob7 ob8) ?_
            refine thenQ_normal ?_
            refine q2rq [] [] ⟨60, [(12, .own 5012), (13, .i (n10 : Int)), (41, .own 21), (42, .i (lZ l9)), (43, .i (n10 : Int)), (48, .bool (l9.getD n10 false))], (f11z5 l9 l11), [], 0⟩ trivial ?_
            refine AWp.cond (b := (l9.getD n10 false)) (by kernel_rfl) (fun hc5 => ?_) (fun hc5 => ?_)
            ·
              replace h := ite_tb hc5 h
              obtain ⟨ob9, h⟩ := chk_some h
              refine q2rr [] [] ⟨60, (f11z1 l9 n10), [(21, q2bB_4 l9), (5012, .rows 30 1 ((l11).length + 1) (appF (l11).length (encF eW 0#16 l11) (lstF 1 [.b16 (f11z4 n10)])))], [], 0⟩ (an2 trivial ob9) ?_
              refine blockQ_normal ?_
              exact joinQ_normal ((l11 ++ [(f11z4 n10)])) (Le.trans (Le.mk (s' := ⟨60, (f11z1 l9 n10), [(21, q2bB_4 l9), (5012, q2bW_30 (l11 ++ [(f11z4 n10)]))], [], 0⟩) rfl rfl ⟨.refl _, .refl _, .refl _, .refl _, trivial⟩ ⟨⟨_, rfl, .refl _⟩, ⟨_, rfl, (BLe.of (RL.app (RL.self _) (RL.lst (enc := eW) [(f11z4 n10)] rfl rfl (fun _ => rfl))))⟩, trivial⟩) (Le.trans (Le.trans (Le.ren (swapN 5012 53) (swapN_inv 5012 53) rfl) (Le.mk (s' := ⟨60, (f11z2 l9 n10), [(21, q2bB_4 l9), (53, q2bW_30 (l11 ++ [(f11z4 n10)]))], [], 0⟩) rfl rfl ⟨.refl _, .refl _, .refl _, .refl _, trivial⟩ ⟨⟨_, rfl, .refl _⟩, ⟨_, rfl, .refl _⟩, trivial⟩)) (Le.mk rfl rfl ⟨.refl _, .refl _, .refl _, .refl _, trivial⟩ ⟨⟨_, rfl, .refl _⟩, ⟨_, rfl, .refl _⟩, trivial⟩))) h
            ·
              replace h := ite_fb hc5 h
              refine AWp.skip ?_
              refine blockQ_normal ?_
              exact joinQ_normal (l11) (Le.trans (Le.trans (Le.ren (swapN 5012 53) (swapN_inv 5012 53) rfl) (Le.mk (s' := ⟨60, [(12, .own 53), (13, .i (n10 : Int)), (41, .own 21), (42, .i (lZ l9)), (43, .i (n10 : Int)), (48, .bool (l9.getD n10 false))], [(21, q2bB_4 l9), (53, q2bW_30 l11)], [], 0⟩) rfl rfl ⟨.refl _, .refl _, .refl _, .refl _, .refl _, .refl _, trivial⟩ ⟨⟨_, rfl, .refl _⟩, ⟨_, rfl, .refl _⟩, trivial⟩)) (Le.mk rfl rfl ⟨.refl _, .refl _, .refl _, .refl _, trivial⟩ ⟨⟨_, rfl, .refl _⟩, ⟨_, rfl, .refl _⟩, trivial⟩)) h
          ·
            rintro l12 h
            replace h := (congrFun hK4 _).symm.trans h
            obtain ⟨ob10p, h⟩ := chk_some h
            have ob10 : -9223372036854775808 ≤ ((n10 : Int) + (1 : Int)) ∧ ((n10 : Int) + (1 : Int)) ≤ 9223372036854775807 := ⟨by omega, ob10p⟩
            refine q2rr [] [] ⟨60, [(12, .own 53), (41, .own 21), (42, .i (lZ l9)), (43, .i (((n10 + 1) : Nat) : Int))], [(21, q2bB_4 l9), (53, q2bW_30 l12)], [], 0⟩ (an1 ob10) ?_
            rw [hC2] at h
            exact loopQ_normal (_, (n10 + 1), l12) (Le.trans (Le.trans (Le.ren (swapN 53 5012) (swapN_inv 53 5012) rfl) (Le.mk (s' := ⟨60, [(12, .own 5012), (41, .own 21), (42, .i (lZ l9)), (43, .i (((n10 + 1) : Nat) : Int))], [(21, q2bB_4 l9), (5012, q2bW_30 l12)], [], 0⟩) rfl rfl ⟨.refl _, .refl _, .refl _, .refl _, trivial⟩ ⟨⟨_, rfl, .refl _⟩, ⟨_, rfl, .refl _⟩, trivial⟩)) (Le.mk rfl rfl ⟨.refl _, .refl _, .refl _, .refl _, trivial⟩ ⟨⟨_, rfl, .refl _⟩, ⟨_, rfl, .refl _⟩, trivial⟩)) h (Nat.lt_succ_self _)
        ·
          replace h := ite_fb hc4 h
          refine AWp.exit ?_
          refine thenQ_exit ?_
          refine thenQ_exit ?_
          refine blockQ_same ?_
          exact joinQ_normal (l11) (Le.mk rfl rfl ⟨.refl _, trivial⟩ ⟨⟨_, rfl, .refl _⟩, trivial⟩) h
      ·
        rintro l13 h
        replace h := (congrFun hK3 _).symm.trans h
        refine AWp.seq ?_
        obtain ⟨r14, hr14, h⟩ := bind_ok h
        obtain ⟨r15, hr15, h⟩ := bind_ok h
        refine q2rr [] [(1, ⟨[q2aW l13], [], [], [(6001, q2bW_30 r14)], .own 6001, [6001], [5012], []⟩), (2, ⟨[.own 6001], [6001], [], [], .tup [q2aW r15.1, .i r15.2], [], [], []⟩)] ⟨60, [(4, q2aW r15.1), (5, .i r15.2)], [], [], 0⟩ (an2 (cpL (c := true) [(5012, q2bW_30 l13)] [5012] [.own 5012] (fun _ => (Spec1.ren (swapN 3000 6001) (swapN_inv 3000 6001) rfl (f31_ok _ _ hr14))) (fun _ => ⟨.refl _, trivial⟩) (.inr ⟨rfl, ⟨(fun _ _ _ _ => eW_flat _ _), trivial⟩⟩)) (show (callP Tryz.prog true 30 [] [] [(6001, q2bW_30 r14)] [] [] [.own 6001] [.own 6001] (.tup [q2aW r15.1, .i r15.2]) []) from ⟨fun _ => (Spec1.pre (f30_ok _ _ hr15) rfl rfl rfl (Le.trans (Le.freeze 6001 rfl rfl) (Le.mk (s' := ⟨1, [(0, q2aW r14)], [], [], 0⟩) rfl rfl ⟨.refl _, trivial⟩ trivial))), fun _ => ⟨.refl _, trivial⟩, .inl rfl⟩)) ?_
        refine thenQ_normal ?_
        have hret := Option.some.inj h
        subst hret
        refine AWp.le (Le.mk (s' := ⟨60, [(4, q2aW r15.1), (5, .i r15.2)], [], [], 0⟩) rfl rfl ⟨.refl _, .refl _, trivial⟩ trivial) ?_
        refine AWp.ret ?_
        exact bodyQ_ret _ rfl ⟨rfl, rfl⟩ rfl
abbrev f49z0 := ((BitVec.ofInt 16 0) : BitVec 16)
def f49 (x1 : Int) : Option (List (BitVec 16)) :=
  if (decide (x1 < (0 : Int))) then (
  none
  ) else (
  jn (fun (l2 : List (BitVec 16)) =>
  some l2
  ) fun (K1 : (List (BitVec 16)) → Option (List (BitVec 16))) =>
  chk (-9223372036854775808 ≤ (x1 - (0 : Int)) ∧ (x1 - (0 : Int)) ≤ 9223372036854775807) <|
  if (decide ((x1 - (0 : Int)) > (0 : Int))) then (
  chk (0 < (x1 - (0 : Int)) ∧ (x1 - (0 : Int)) * (2 : Int) ≤ 140737488355328 ∧ (x1 - (0 : Int)) ≤ 4611686018427387904) <|
  chk ((0 : Int) ≤ (((((x1 - (0 : Int))).toNat) : Nat) : Int)) <|
  chk (0 ≤ (List.replicate (((x1 - (0 : Int))).toNat) ((BitVec.ofInt 16 0) : BitVec 16)).length) <|
  K1 ((List.replicate (((x1 - (0 : Int))).toNat) ((BitVec.ofInt 16 0) : BitVec 16)).take 0)
  ) else (
  K1 []
  )
  )
set_option maxRecDepth 100000 in
theorem f49_ok  (x1 : Int) (r : List (BitVec 16)) (h : f49 x1 = some r)  : Spec1 Tryz.prog 49 [] [] [] [.nils, .int .i64 x1] (.own 3000) [(3000, bL 30 1 eW 0#16 r)] := by
  unfold f49 at h
  refine Spec1.body 0 _ _ Tryz.func49 rfl Tryz.ntmps49 rfl rfl ?_
  refine q2rq [] [] ⟨27, [(0, .nils), (1, .i x1)], [], [], 0⟩ trivial ?_
  refine AWp.seq ?_
  refine q2rq [] [] ⟨27, [(0, .nils), (1, .i x1), (6, .bool (decide (x1 < (0 : Int))))], [], [], 0⟩ trivial ?_
  refine AWp.cond (b := (decide (x1 < (0 : Int)))) (by kernel_rfl) (fun hc1 => ?_) (fun hc1 => ?_)
  ·
    replace h := ite_tb hc1 h
    exact nomatch (show (none : Option (List (BitVec 16))) = some r from h)
  ·
    replace h := ite_fb hc1 h
    refine AWp.skip ?_
    refine thenQ_normal ?_
    obtain ⟨K1, hK1, h⟩ := jn_some h
    refine AWp.join (α := List (BitVec 16)) (fun (l2 : List (BitVec 16)) => ⟨27, [(0, .own 22)], [(22, q2bW_30 l2)], [], 0⟩) (fun x => K1 x = some r) ?_ ?_
    ·
      refine AWp.seq ?_
      have ob0 : -9223372036854775808 ≤ ((0 : Int) - (0 : Int)) ∧ ((0 : Int) - (0 : Int)) ≤ 9223372036854775807 := by first | decide | omega | simp | (intro h; cases h)
      obtain ⟨ob1, h⟩ := chk_some h
      refine q2rr [] [] ⟨27, [(0, .nils), (1, .i (x1 - (0 : Int)))], [], [], 0⟩ (an2 ob0 ob1) ?_
      refine thenQ_normal ?_
      refine q2rq [] [] ⟨27, [(0, .nils), (1, .i (x1 - (0 : Int))), (16, .bool (decide ((x1 - (0 : Int)) > (0 : Int))))], [], [], 0⟩ trivial ?_
      refine AWp.cond (b := (decide ((x1 - (0 : Int)) > (0 : Int)))) (by kernel_rfl) (fun hc2 => ?_) (fun hc2 => ?_)
      ·
        replace h := ite_tb hc2 h
        have ob2 : 0 ≤ (0 : Int) ∧ (0 : Int) ≤ (0 : Int) := by first | decide | omega | simp | (intro h; cases h)
        obtain ⟨ob3, ob4p, h⟩ := ck2 h
        have ob4 : 0 ≤ (0 : Int) ∧ (0 : Int) ≤ (((((x1 - (0 : Int))).toNat) : Nat) : Int) := ⟨by omega, ob4p⟩
        refine q2rr [] [] ⟨27, [(0, .osl 22 1 0 0)], [(22, .rows 30 1 (((x1 - (0 : Int))).toNat) (repF [.b16 (q2w16 0)]))], [], 0⟩ (an3 ob2 ob3 ob4) ?_
        obtain ⟨hk3, h⟩ := chk_some h
        exact joinQ_normal (((List.replicate (((x1 - (0 : Int))).toNat) (f49z0)).take 0)) (Le.trans (Le.mk (s' := ⟨27, [(0, .osl 22 1 0 0)], [(22, q2bW_30 (List.replicate (((x1 - (0 : Int))).toNat) (f49z0)))], [], 0⟩) rfl rfl ⟨.refl _, trivial⟩ ⟨⟨_, rfl, (BLe.of (RL.rep (f49z0) rfl))⟩, trivial⟩) (Le.trans (Le.trans (Le.cutOwn 0 22 0 hk3 rfl rfl rfl) (Le.mk (s' := ⟨27, [(0, .own 22)], [(22, q2bW_30 ((List.replicate (((x1 - (0 : Int))).toNat) (f49z0)).take 0))], [], 0⟩) rfl rfl ⟨.refl _, trivial⟩ ⟨⟨_, rfl, (BLe.of (RL.take (RL.self _) hk3))⟩, trivial⟩)) (Le.mk rfl rfl ⟨.refl _, trivial⟩ ⟨⟨_, rfl, .refl _⟩, trivial⟩))) h
      ·
        replace h := ite_fb hc2 h
        refine AWp.skip ?_
        exact joinQ_normal ([]) (Le.trans (Le.trans (Le.nilOwn 0 22 30 1 (encF eW 0#16 []) rfl rfl (Nat.le_of_ble_eq_true rfl)) (Le.mk (s' := ⟨27, [(0, .own 22), (1, .i (x1 - (0 : Int))), (16, .bool (decide ((x1 - (0 : Int)) > (0 : Int))))], [(22, q2bW_30 [])], [], 0⟩) rfl rfl ⟨.refl _, .refl _, .refl _, trivial⟩ ⟨⟨_, rfl, .refl _⟩, trivial⟩)) (Le.mk rfl rfl ⟨.refl _, trivial⟩ ⟨⟨_, rfl, .refl _⟩, trivial⟩)) h
    ·
      rintro l2 h
      replace h := (congrFun hK1 _).symm.trans h
      refine q2rq [] [] ⟨27, [(4, .own 22)], [(22, q2bW_30 l2)], [], 0⟩ trivial ?_
      refine AWp.le (Le.trans (Le.ren (swapN 22 3000) (swapN_inv 22 3000) rfl) (Le.mk (s' := ⟨27, [(4, .own 3000)], [(3000, q2bW_30 l2)], [], 0⟩) rfl rfl ⟨.refl _, trivial⟩ ⟨⟨_, rfl, .refl _⟩, trivial⟩)) ?_
      have hret := Option.some.inj h
      subst hret
      refine AWp.le (Le.mk (s' := ⟨27, [(4, .own 3000)], [(3000, q2bW_30 l2)], [], 0⟩) rfl rfl ⟨.refl _, trivial⟩ ⟨⟨_, rfl, .refl _⟩, trivial⟩) ?_
      refine AWp.ret ?_
      exact bodyQ_ret _ rfl ⟨rfl, rfl⟩ rfl
def f32_L0 (x1 : List (List (BitVec 16))) (K1 : Nat → Option (List (BitVec 16))) : Nat → (Nat × Nat) → Option (List (BitVec 16))
  | 0, _ => none
  | k + 1, (n2, n3) =>
    if (decide ((n3 : Int) < (((x1).length : Nat) : Int))) then (
    chk ((n3 : Int) < (((x1).length : Nat) : Int)) <|
    chk (((n2 : Int) + ((((x1.getD n3 [])).length : Nat) : Int)) ≤ 9223372036854775807) <|
    if (decide ((((n2 + ((x1.getD n3 [])).length) : Nat) : Int) < (0 : Int))) then (
    none
    ) else (
    chk (((n3 : Int) + (1 : Int)) ≤ 9223372036854775807) <|
    (f32_L0 x1 K1 k) ((n2 + ((x1.getD n3 [])).length), (n3 + 1))
    )
    ) else (
    K1 n2
    )
def f32_L1 (x1 : List (List (BitVec 16))) (K2 : (List (BitVec 16)) → Option (List (BitVec 16))) : Nat → (Nat × List (BitVec 16)) → Option (List (BitVec 16))
  | 0, _ => none
  | k + 1, (n6, l7) =>
    if (decide ((n6 : Int) < (((x1).length : Nat) : Int))) then (
    chk ((n6 : Int) < (((x1).length : Nat) : Int)) <|
    chk (((l7).length + ((x1.getD n6 [])).length) * 2 ≤ 140737488355328) <|
    chk (((n6 : Int) + (1 : Int)) ≤ 9223372036854775807) <|
    (f32_L1 x1 K2 k) ((n6 + 1), (l7 ++ (x1.getD n6 [])))
    ) else (
    K2 l7
    )
abbrev f32z0 (x1 : List (List (BitVec 16))) (n6 : Nat) : List (Nat × V) := [(6, .own 6001), (25, vL 1 eLWJ [] x1), (26, .int .i64 (((x1).length : Nat) : Int)), (27, .int .i64 (n6 : Int))]
def f32 (x1 : List (List (BitVec 16))) : Option (List (BitVec 16)) :=
  jn (fun (n4 : Nat) =>
  (f49 (n4 : Int)).bind fun (r5 : List (BitVec 16)) =>
  jn (fun (l8 : List (BitVec 16)) =>
  some l8
  ) fun (K2 : (List (BitVec 16)) → Option (List (BitVec 16))) =>
  f32_L1 x1 K2 FUEL (0, r5)
  ) fun (K1 : Nat → Option (List (BitVec 16))) =>
  f32_L0 x1 K1 FUEL (0, 0)
set_option maxRecDepth 100000 in
theorem f32_ok  (x1 : List (List (BitVec 16))) (r : List (BitVec 16)) (h : f32 x1 = some r)  : Spec1 Tryz.prog 32 [] [] [] [vL 1 eLWJ [] x1] (.own 3000) [(3000, bL 30 1 eW 0#16 r)] := by
  unfold f32 at h
  refine Spec1.body 0 _ _ Tryz.func32 rfl Tryz.ntmps32 rfl rfl ?_
  refine q2rq [] [] ⟨36, [(0, q2aLWJ x1)], [], [], 0⟩ trivial ?_
  refine q2rq [] [] ⟨36, [(0, q2aLWJ x1), (3, .i (0 : Int))], [], [], 0⟩ trivial ?_
  obtain ⟨K1, hK1, h⟩ := jn_some h
  refine AWp.join (α := Nat) (fun (n4 : Nat) => ⟨36, [(0, q2aLWJ x1), (3, .i (n4 : Int))], [], [], 0⟩) (fun x => K1 x = some r) ?_ ?_
  ·
    refine q2rq [] [] ⟨36, [(0, q2aLWJ x1), (3, .i (0 : Int)), (9, q2aLWJ x1), (10, .i (lZ x1)), (11, .i (0 : Int))], [], [], 0⟩ trivial ?_
    refine AWp.block ?_
    refine AWp.loopL (α := Nat × (Nat × Nat)) (fun x => match x with | (_, n2, n3) => ⟨36, [(0, q2aLWJ x1), (3, .i (n2 : Int)), (9, q2aLWJ x1), (10, .i (lZ x1)), (11, .i (n3 : Int))], [], [], 0⟩) (fun x => f32_L0 x1 K1 x.1 x.2 = some r) (fun x => x.1) (FUEL, 0, 0) (Le.mk (s' := ⟨36, [(0, q2aLWJ x1), (3, .i (0 : Int)), (9, q2aLWJ x1), (10, .i (lZ x1)), (11, .i (0 : Int))], [], [], 0⟩) rfl rfl ⟨.refl _, .refl _, .refl _, .refl _, .refl _, trivial⟩ trivial) h ?_
    rintro ⟨k0, n2, n3⟩ h
    cases k0 with
    | zero => exact nomatch (show (none : Option (List (BitVec 16))) = some r from h)
    | succ k0 =>
    obtain ⟨C0, hC0⟩ : ∃ C, C = f32_L0 x1 K1 k0 := ⟨_, rfl⟩
    replace h := (f32_L0.eq_2 ..).symm.trans h
    try rw [← hC0] at h
    refine q2rq [] [] ⟨36, [(0, q2aLWJ x1), (3, .i (n2 : Int)), (9, q2aLWJ x1), (10, .i (lZ x1)), (11, .i (n3 : Int)), (12, .bool (decide ((n3 : Int) < (lZ x1))))], [], [], 0⟩ trivial ?_
    refine AWp.seq ?_
    refine AWp.cond (b := (decide ((n3 : Int) < (lZ x1)))) (by kernel_rfl) (fun hc1 => ?_) (fun hc1 => ?_)
    ·
      replace h := ite_tb hc1 h
      refine AWp.skip ?_
      refine thenQ_normal ?_
      refine AWp.seq ?_
      refine AWp.block ?_
      refine AWp.seq ?_
      obtain ⟨ob0p, h⟩ := chk_some h
      have ob0 : 0 ≤ (n3 : Int) ∧ (n3 : Int) < (((x1).length : Nat) : Int) := ⟨by omega, ob0p⟩
      refine q2rr [] [] ⟨36, [(0, q2aLWJ x1), (3, .i (n2 : Int)), (5, q2aW (x1.getD n3 [])), (9, q2aLWJ x1), (10, .i (lZ x1)), (11, .i (n3 : Int))], [], [], 0⟩ (an1 ob0) ?_
      refine thenQ_normal ?_
      refine AWp.seq ?_
      obtain ⟨ob1p, h⟩ := chk_some h
      have ob1 : -9223372036854775808 ≤ ((n2 : Int) + ((((x1.getD n3 [])).length : Nat) : Int)) ∧ ((n2 : Int) + ((((x1.getD n3 [])).length : Nat) : Int)) ≤ 9223372036854775807 := ⟨by omega, ob1p⟩
      refine q2rr [] [] ⟨36, [(0, q2aLWJ x1), (3, .i (((n2 + ((x1.getD n3 [])).length) : Nat) : Int)), (9, q2aLWJ x1), (10, .i (lZ x1)), (11, .i (n3 : Int))], [], [], 0⟩ (an1 ob1) ?_
      refine thenQ_normal ?_
      refine q2rq [] [] ⟨36, [(0, q2aLWJ x1), (3, .i (((n2 + ((x1.getD n3 [])).length) : Nat) : Int)), (9, q2aLWJ x1), (10, .i (lZ x1)), (11, .i (n3 : Int)), (20, .bool (decide ((((n2 + ((x1.getD n3 [])).length) : Nat) : Int) < (0 : Int))))], [], [], 0⟩ trivial ?_
      refine AWp.cond (b := (decide ((((n2 + ((x1.getD n3 [])).length) : Nat) : Int) < (0 : Int)))) (by kernel_rfl) (fun hc2 => ?_) (fun hc2 => ?_)
      ·
        replace h := ite_tb hc2 h
        exact nomatch (show (none : Option (List (BitVec 16))) = some r from h)
      ·
        replace h := ite_fb hc2 h
        refine AWp.skip ?_
        refine blockQ_normal ?_
        refine thenQ_normal ?_
        obtain ⟨ob2p, h⟩ := chk_some h
        have ob2 : -9223372036854775808 ≤ ((n3 : Int) + (1 : Int)) ∧ ((n3 : Int) + (1 : Int)) ≤ 9223372036854775807 := ⟨by omega, ob2p⟩
        refine q2rr [] [] ⟨36, [(0, q2aLWJ x1), (3, .i (((n2 + ((x1.getD n3 [])).length) : Nat) : Int)), (9, q2aLWJ x1), (10, .i (lZ x1)), (11, .i (((n3 + 1) : Nat) : Int))], [], [], 0⟩ (an1 ob2) ?_
        rw [hC0] at h
        exact loopQ_normal (_, (n2 + ((x1.getD n3 [])).length), (n3 + 1)) (Le.mk rfl rfl ⟨.refl _, .refl _, .refl _, .refl _, .refl _, trivial⟩ trivial) h (Nat.lt_succ_self _)
    ·
      replace h := ite_fb hc1 h
      refine AWp.exit ?_
      refine thenQ_exit ?_
      refine thenQ_exit ?_
      refine blockQ_same ?_
      exact joinQ_normal (n2) (Le.mk rfl rfl ⟨.refl _, .refl _, trivial⟩ trivial) h
  ·
    rintro n4 h
    replace h := (congrFun hK1 _).symm.trans h
    refine AWp.seq ?_
    obtain ⟨r5, hr5, h⟩ := bind_ok h
    refine q2rr [] [(1, ⟨[.nils, .i (n4 : Int)], [], [], [(6001, q2bW_30 r5)], .own 6001, [6001], [], []⟩)] ⟨36, [(0, q2aLWJ x1), (6, .own 6001)], [(6001, q2bW_30 r5)], [], 0⟩ (an1 (cpT (Spec1.ren (swapN 3000 6001) (swapN_inv 3000 6001) rfl (f49_ok _ _ hr5)))) ?_
    refine thenQ_normal ?_
    obtain ⟨K2, hK2, h⟩ := jn_some h
    refine AWp.join (α := List (BitVec 16)) (fun (l8 : List (BitVec 16)) => ⟨36, [(6, .own 6001)], [(6001, q2bW_30 l8)], [], 0⟩) (fun x => K2 x = some r) ?_ ?_
    ·
      refine q2rq [] [] ⟨36, [(6, .own 6001), (25, q2aLWJ x1), (26, .i (lZ x1)), (27, .i (0 : Int))], [(6001, q2bW_30 r5)], [], 0⟩ trivial ?_
      refine AWp.block ?_
      refine AWp.loopL (α := Nat × (Nat × List (BitVec 16))) (fun x => match x with | (_, n6, l7) => ⟨36, (f32z0 x1 n6), [(6001, q2bW_30 l7)], [], 0⟩) (fun x => f32_L1 x1 K2 x.1 x.2 = some r) (fun x => x.1) (FUEL, 0, r5) (Le.mk (s' := ⟨36, [(6, .own 6001), (25, q2aLWJ x1), (26, .i (lZ x1)), (27, .i (0 : Int))], [(6001, q2bW_30 r5)], [], 0⟩) rfl rfl ⟨.refl _, .refl _, .refl _, .refl _, trivial⟩ ⟨⟨_, rfl, .refl _⟩, trivial⟩) h ?_
      rintro ⟨k1, n6, l7⟩ h
      cases k1 with
      | zero => exact nomatch (show (none : Option (List (BitVec 16))) = some r from h)
      | succ k1 =>
      obtain ⟨C1, hC1⟩ : ∃ C, C = f32_L1 x1 K2 k1 := ⟨_, rfl⟩
      replace h := (f32_L1.eq_2 ..).symm.trans h
      try rw [← hC1] at h
      refine q2rq [] [] ⟨36, [(6, .own 6001), (25, q2aLWJ x1), (26, .i (lZ x1)), (27, .i (n6 : Int)), (28, .bool (decide ((n6 : Int) < (lZ x1))))], [(6001, q2bW_30 l7)], [], 0⟩ trivial ?_
      refine AWp.seq ?_
      refine AWp.cond (b := (decide ((n6 : Int) < (lZ x1)))) (by kernel_rfl) (fun hc3 => ?_) (fun hc3 => ?_)
      ·
        replace h := ite_tb hc3 h
        refine AWp.skip ?_
        refine thenQ_normal ?_
        refine AWp.seq ?_
        refine AWp.block ?_
        refine AWp.seq ?_
        obtain ⟨ob3p, h⟩ := chk_some h
        have ob3 : 0 ≤ (n6 : Int) ∧ (n6 : Int) < (((x1).length : Nat) : Int) := ⟨by omega, ob3p⟩
        refine q2rr [] [] ⟨36, [(6, .own 6001), (8, q2aW (x1.getD n6 [])), (25, q2aLWJ x1), (26, .i (lZ x1)), (27, .i (n6 : Int))], [(6001, q2bW_30 l7)], [], 0⟩ (an1 ob3) ?_
        refine thenQ_normal ?_
        obtain ⟨ob4, h⟩ := chk_some h
        refine q2rr [] [] ⟨36, (f32z0 x1 n6), [(6001, .rows 30 1 ((l7).length + ((x1.getD n6 [])).length) (appF (l7).length (encF eW 0#16 l7) (encF eW 0#16 (x1.getD n6 []))))], [], 0⟩ (an1 ob4) ?_
        refine blockQ_normal ?_
        refine thenQ_normal ?_
        refine AWp.le (Le.mk (s' := ⟨36, (f32z0 x1 n6), [(6001, q2bW_30 (l7 ++ (x1.getD n6 [])))], [], 0⟩) rfl rfl ⟨.refl _, .refl _, .refl _, .refl _, trivial⟩ ⟨⟨_, rfl, (BLe.of (RL.app (RL.self _) (RL.self _)))⟩, trivial⟩) ?_
        obtain ⟨ob5p, h⟩ := chk_some h
        have ob5 : -9223372036854775808 ≤ ((n6 : Int) + (1 : Int)) ∧ ((n6 : Int) + (1 : Int)) ≤ 9223372036854775807 := ⟨by omega, ob5p⟩
        refine q2rr [] [] ⟨36, [(6, .own 6001), (25, q2aLWJ x1), (26, .i (lZ x1)), (27, .i (((n6 + 1) : Nat) : Int))], [(6001, q2bW_30 (l7 ++ (x1.getD n6 [])))], [], 0⟩ (an1 ob5) ?_
        rw [hC1] at h
        exact loopQ_normal (_, (n6 + 1), (l7 ++ (x1.getD n6 []))) (Le.mk rfl rfl ⟨.refl _, .refl _, .refl _, .refl _, trivial⟩ ⟨⟨_, rfl, .refl _⟩, trivial⟩) h (Nat.lt_succ_self _)
      ·
        replace h := ite_fb hc3 h
        refine AWp.exit ?_
        refine thenQ_exit ?_
        refine thenQ_exit ?_
        refine blockQ_same ?_
        exact joinQ_normal (l7) (Le.mk rfl rfl ⟨.refl _, trivial⟩ ⟨⟨_, rfl, .refl _⟩, trivial⟩) h
    ·
      rintro l8 h
      replace h := (congrFun hK2 _).symm.trans h
      refine q2rq [] [] ⟨36, [(2, .own 6001)], [(6001, q2bW_30 l8)], [], 0⟩ trivial ?_
      refine AWp.le (Le.trans (Le.ren (swapN 6001 3000) (swapN_inv 6001 3000) rfl) (Le.mk (s' := ⟨36, [(2, .own 3000)], [(3000, q2bW_30 l8)], [], 0⟩) rfl rfl ⟨.refl _, trivial⟩ ⟨⟨_, rfl, .refl _⟩, trivial⟩)) ?_
      have hret := Option.some.inj h
      subst hret
      refine AWp.le (Le.mk (s' := ⟨36, [(2, .own 3000)], [(3000, q2bW_30 l8)], [], 0⟩) rfl rfl ⟨.refl _, trivial⟩ ⟨⟨_, rfl, .refl _⟩, trivial⟩) ?_
      refine AWp.ret ?_
      exact bodyQ_ret _ rfl ⟨rfl, rfl⟩ rfl
def f12 (x1 : List (BitVec 16)) (x2 : List (BitVec 16)) : Option (List (BitVec 16) × Int) :=
  (f29 x1 x2).bind fun (r3 : Int) =>
  if (r3 != (0 : Int)) then (
  some ([], r3)
  ) else (
  (f32 [x1, x2]).bind fun (r4 : List (BitVec 16)) =>
  (f31 r4).bind fun (r5 : List (BitVec 16)) =>
  (f30 r5).bind fun (r6 : List (BitVec 16) × Int) =>
  some (r6.1, r6.2)
  )
set_option maxRecDepth 100000 in
theorem f12_ok  (x1 : List (BitVec 16)) (x2 : List (BitVec 16)) (r : List (BitVec 16) × Int) (h : f12 x1 x2 = some r)  : Spec1 Tryz.prog 12 [] [] [] [vL 1 eW 0#16 x1, vL 1 eW 0#16 x2] (.tup [vL 1 eW 0#16 r.1, .int .i64 r.2]) [] := by
  unfold f12 at h
  refine Spec1.body 0 _ _ Tryz.func12 rfl Tryz.ntmps12 rfl rfl ?_
  refine q2rq [] [] ⟨21, [(0, q2aW x1), (1, q2aW x2)], [], [], 0⟩ trivial ?_
  refine AWp.seq ?_
  refine AWp.seq ?_
  obtain ⟨r3, hr3, h⟩ := bind_ok h
  refine q2rr [] [(2, ⟨[q2aW x1, q2aW x2], [], [], [], .i r3, [], [], []⟩)] ⟨21, [(0, q2aW x1), (1, q2aW x2), (6, .i r3)], [], [], 0⟩ (an1 (cpT (f29_ok _ _ _ hr3))) ?_
  refine thenQ_normal ?_
  refine q2rq [] [] ⟨21, [(0, q2aW x1), (1, q2aW x2), (6, .i r3), (11, .bool (r3 != (0 : Int)))], [], [], 0⟩ trivial ?_
  refine AWp.cond (b := (r3 != (0 : Int))) (by kernel_rfl) (fun hc1 => ?_) (fun hc1 => ?_)
  ·
    replace h := ite_tb hc1 h
    refine q2rq [] [] ⟨21, [(4, .nils), (5, .i r3)], [], [], 0⟩ trivial ?_
    have hret := Option.some.inj h
    subst hret
    refine AWp.le (Le.mk (s' := ⟨21, [(4, q2aW []), (5, .i r3)], [], [], 0⟩) rfl rfl ⟨.nilL, .refl _, trivial⟩ trivial) ?_
    refine AWp.ret ?_
    refine thenQ_ret ?_
    exact bodyQ_ret _ rfl ⟨rfl, rfl⟩ rfl
  ·
    replace h := ite_fb hc1 h
    refine AWp.skip ?_
    refine thenQ_normal ?_
    refine AWp.seq ?_
    obtain ⟨r4, hr4, h⟩ := bind_ok h
    obtain ⟨r5, hr5, h⟩ := bind_ok h
    obtain ⟨r6, hr6, h⟩ := bind_ok h
    refine q2rr [] [(3, ⟨[q2aLWJ [x1, x2]], [], [], [(6001, q2bW_30 r4)], .own 6001, [6001], [15], []⟩), (4, ⟨[q2aW r4], [], [], [(6002, q2bW_30 r5)], .own 6002, [6002], [6001], []⟩), (5, ⟨[.own 6002], [6002], [], [], .tup [q2aW r6.1, .i r6.2], [], [], []⟩)] ⟨21, [(4, q2aW r6.1), (5, .i r6.2)], [], [], 0⟩ (an3 (cpL (c := true) [(15, .rows 22 1 2 (lstF 1 [q2aW x1, q2aW x2]))] [15] [.own 15] (fun _ => (Spec1.ren (swapN 3000 6001) (swapN_inv 3000 6001) rfl (f32_ok _ _ hr4))) (fun _ => ⟨(VLe.of (RL.lstV (enc := eLWJ) [x1, x2] rfl ⟨.refl _, .refl _, trivial⟩ (fun _ => rfl))), trivial⟩) (.inr ⟨rfl, ⟨(fun _ _ _ _ => eW_flat _ _), trivial⟩⟩)) (cpL (c := true) [(6001, q2bW_30 r4)] [6001] [.own 6001] (fun _ => (Spec1.ren (swapN 3000 6002) (swapN_inv 3000 6002) rfl (f31_ok _ _ hr5))) (fun _ => ⟨.refl _, trivial⟩) (.inr ⟨rfl, ⟨(fun _ _ _ _ => eW_flat _ _), trivial⟩⟩)) (show (callP Tryz.prog true 30 [] [] [(6002, q2bW_30 r5)] [] [] [.own 6002] [.own 6002] (.tup [q2aW r6.1, .i r6.2]) []) from ⟨fun _ => (Spec1.pre (f30_ok _ _ hr6) rfl rfl rfl (Le.trans (Le.freeze 6002 rfl rfl) (Le.mk (s' := ⟨1, [(0, q2aW r5)], [], [], 0⟩) rfl rfl ⟨.refl _, trivial⟩ trivial))), fun _ => ⟨.refl _, trivial⟩, .inl rfl⟩)) ?_
    refine thenQ_normal ?_
    have hret := Option.some.inj h
    subst hret
    refine AWp.le (Le.mk (s' := ⟨21, [(4, q2aW r6.1), (5, .i r6.2)], [], [], 0⟩) rfl rfl ⟨.refl _, .refl _, trivial⟩ trivial) ?_
    refine AWp.ret ?_
    exact bodyQ_ret _ rfl ⟨rfl, rfl⟩ rfl
def f13_L0 (x1 : List (BitVec 16)) (x2 : BitVec 16) (K1 : (List (BitVec 16)) → Option (List (BitVec 16) × Int)) : Nat → (Nat × List (BitVec 16)) → Option (List (BitVec 16) × Int)
  | 0, _ => none
  | k + 1, (n4, l5) =>
    if (decide ((n4 : Int) < (((x1).length : Nat) : Int))) then (
    chk ((n4 : Int) < (((x1).length : Nat) : Int)) <|
    chk (((l5).length + 1) * 2 ≤ 140737488355328) <|
    chk (((n4 : Int) + (1 : Int)) ≤ 9223372036854775807) <|
    (f13_L0 x1 x2 K1 k) ((n4 + 1), (l5 ++ [((x1.getD n4 0#16) &&& ~~~x2)]))
    ) else (
    K1 l5
    )
abbrev f13z0 (x2 : BitVec 16) (x1 : List (BitVec 16)) (n4 : Nat) : List (Nat × V) := [(1, .b16 x2), (7, .own 5007), (15, vL 1 eW 0#16 x1), (16, .int .i64 (((x1).length : Nat) : Int)), (17, .int .i64 (n4 : Int))]
def f13 (x1 : List (BitVec 16)) (x2 : BitVec 16) : Option (List (BitVec 16) × Int) :=
  (f21 x1).bind fun (r3 : Int) =>
  if (r3 != (0 : Int)) then (
  some ([], r3)
  ) else (
  jn (fun (l6 : List (BitVec 16)) =>
  (f31 l6).bind fun (r7 : List (BitVec 16)) =>
  (f30 r7).bind fun (r8 : List (BitVec 16) × Int) =>
  some (r8.1, r8.2)
  ) fun (K1 : (List (BitVec 16)) → Option (List (BitVec 16) × Int)) =>
  f13_L0 x1 x2 K1 FUEL (0, [])
  )
set_option maxRecDepth 100000 in
theorem f13_ok  (x1 : List (BitVec 16)) (x2 : BitVec 16) (r : List (BitVec 16) × Int) (h : f13 x1 x2 = some r)  : Spec1 Tryz.prog 13 [] [] [] [vL 1 eW 0#16 x1, .b16 x2] (.tup [vL 1 eW 0#16 r.1, .int .i64 r.2]) [] := by
  unfold f13 at h
  refine Spec1.body 0 _ _ Tryz.func13 rfl Tryz.ntmps13 rfl rfl ?_
  refine q2rq [] [] ⟨33, [(0, q2aW x1), (1, .b16 x2)], [], [], 0⟩ trivial ?_
  refine AWp.seq ?_
  refine AWp.seq ?_
  obtain ⟨r3, hr3, h⟩ := bind_ok h
  refine q2rr [] [(1, ⟨[q2aW x1], [], [], [], .i r3, [], [], []⟩)] ⟨33, [(0, q2aW x1), (1, .b16 x2), (6, .i r3)], [], [], 0⟩ (an1 (cpT (f21_ok _ _ hr3))) ?_
  refine thenQ_normal ?_
  refine q2rq [] [] ⟨33, [(0, q2aW x1), (1, .b16 x2), (6, .i r3), (13, .bool (r3 != (0 : Int)))], [], [], 0⟩ trivial ?_
  refine AWp.cond (b := (r3 != (0 : Int))) (by kernel_rfl) (fun hc1 => ?_) (fun hc1 => ?_)
  ·
    replace h := ite_tb hc1 h
    refine q2rq [] [] ⟨33, [(4, .nils), (5, .i r3)], [], [], 0⟩ trivial ?_
    have hret := Option.some.inj h
    subst hret
    refine AWp.le (Le.mk (s' := ⟨33, [(4, q2aW []), (5, .i r3)], [], [], 0⟩) rfl rfl ⟨.nilL, .refl _, trivial⟩ trivial) ?_
    refine AWp.ret ?_
    refine thenQ_ret ?_
    exact bodyQ_ret _ rfl ⟨rfl, rfl⟩ rfl
  ·
    replace h := ite_fb hc1 h
    refine AWp.skip ?_
    refine thenQ_normal ?_
    refine q2rq [] [] ⟨33, [(0, q2aW x1), (1, .b16 x2), (7, .nils)], [], [], 0⟩ trivial ?_
    obtain ⟨K1, hK1, h⟩ := jn_some h
    refine AWp.join (α := List (BitVec 16)) (fun (l6 : List (BitVec 16)) => ⟨33, [(7, .own 5007)], [(5007, q2bW_30 l6)], [], 0⟩) (fun x => K1 x = some r) ?_ ?_
    ·
      refine q2rq [] [] ⟨33, [(1, .b16 x2), (7, .nils), (15, q2aW x1), (16, .i (lZ x1)), (17, .i (0 : Int))], [], [], 0⟩ trivial ?_
      refine AWp.block ?_
      refine AWp.loopL (α := Nat × (Nat × List (BitVec 16))) (fun x => match x with | (_, n4, l5) => ⟨33, (f13z0 x2 x1 n4), [(5007, q2bW_30 l5)], [], 0⟩) (fun x => f13_L0 x1 x2 K1 x.1 x.2 = some r) (fun x => x.1) (FUEL, 0, []) (Le.trans (Le.trans (Le.nilOwn 7 5007 30 1 (encF eW 0#16 []) rfl rfl (Nat.le_of_ble_eq_true rfl)) (Le.mk (s' := ⟨33, [(1, .b16 x2), (7, .own 5007), (15, q2aW x1), (16, .i (lZ x1)), (17, .i (0 : Int))], [(5007, q2bW_30 [])], [], 0⟩) rfl rfl ⟨.refl _, .refl _, .refl _, .refl _, .refl _, trivial⟩ ⟨⟨_, rfl, .refl _⟩, trivial⟩)) (Le.mk (s' := ⟨33, [(1, .b16 x2), (7, .own 5007), (15, q2aW x1), (16, .i (lZ x1)), (17, .i (0 : Int))], [(5007, q2bW_30 [])], [], 0⟩) rfl rfl ⟨.refl _, .refl _, .refl _, .refl _, .refl _, trivial⟩ ⟨⟨_, rfl, .refl _⟩, trivial⟩)) h ?_
      rintro ⟨k0, n4, l5⟩ h
      cases k0 with
      | zero => exact nomatch (show (none : Option (List (BitVec 16) × Int)) = some r from h)
      | succ k0 =>
      obtain ⟨C0, hC0⟩ : ∃ C, C = f13_L0 x1 x2 K1 k0 := ⟨_, rfl⟩
      replace h := (f13_L0.eq_2 ..).symm.trans h
      try rw [← hC0] at h
      refine q2rq [] [] ⟨33, [(1, .b16 x2), (7, .own 5007), (15, q2aW x1), (16, .i (lZ x1)), (17, .i (n4 : Int)), (18, .bool (decide ((n4 : Int) < (lZ x1))))], [(5007, q2bW_30 l5)], [], 0⟩ trivial ?_
      refine AWp.seq ?_
      refine AWp.cond (b := (decide ((n4 : Int) < (lZ x1)))) (by kernel_rfl) (fun hc2 => ?_) (fun hc2 => ?_)
      ·
        replace h := ite_tb hc2 h
        refine AWp.skip ?_
        refine thenQ_normal ?_
        refine AWp.seq ?_
        refine AWp.block ?_
        refine AWp.seq ?_
        obtain ⟨ob0p, h⟩ := chk_some h
        have ob0 : 0 ≤ (n4 : Int) ∧ (n4 : Int) < (((x1).length : Nat) : Int) := ⟨by omega, ob0p⟩
        refine q2rr [] [] ⟨33, [(1, .b16 x2), (7, .own 5007), (9, .b16 (x1.getD n4 0#16)), (15, q2aW x1), (16, .i (lZ x1)), (17, .i (n4 : Int))], [(5007, q2bW_30 l5)], [], 0⟩ (an1 ob0) ?_
        refine thenQ_normal ?_
        obtain ⟨ob1, h⟩ := chk_some h
        refine q2rr [] [] ⟨33, (f13z0 x2 x1 n4), [(5007, .rows 30 1 ((l5).length + 1) (appF (l5).length (encF eW 0#16 l5) (lstF 1 [.b16 ((x1.getD n4 0#16) &&& ~~~x2)])))], [], 0⟩ (an1 ob1) ?_
        refine blockQ_normal ?_
        refine thenQ_normal ?_
        refine AWp.le (Le.mk (s' := ⟨33, (f13z0 x2 x1 n4), [(5007, q2bW_30 (l5 ++ [((x1.getD n4 0#16) &&& ~~~x2)]))], [], 0⟩) rfl rfl ⟨.refl _, .refl _, .refl _, .refl _, .refl _, trivial⟩ ⟨⟨_, rfl, (BLe.of (RL.app (RL.self _) (RL.lst (enc := eW) [((x1.getD n4 0#16) &&& ~~~x2)] rfl rfl (fun _ => rfl))))⟩, trivial⟩) ?_
        obtain ⟨ob2p, h⟩ := chk_some h
        have ob2 : -9223372036854775808 ≤ ((n4 : Int) + (1 : Int)) ∧ ((n4 : Int) + (1 : Int)) ≤ 9223372036854775807 := ⟨by omega, ob2p⟩
        refine q2rr [] [] ⟨33, [(1, .b16 x2), (7, .own 5007), (15, q2aW x1), (16, .i (lZ x1)), (17, .i (((n4 + 1) : Nat) : Int))], [(5007, q2bW_30 (l5 ++ [((x1.getD n4 0#16) &&& ~~~x2)]))], [], 0⟩ (an1 ob2) ?_
        rw [hC0] at h
        exact loopQ_normal (_, (n4 + 1), (l5 ++ [((x1.getD n4 0#16) &&& ~~~x2)])) (Le.mk rfl rfl ⟨.refl _, .refl _, .refl _, .refl _, .refl _, trivial⟩ ⟨⟨_, rfl, .refl _⟩, trivial⟩) h (Nat.lt_succ_self _)
      ·
        replace h := ite_fb hc2 h
        refine AWp.exit ?_
        refine thenQ_exit ?_
        refine thenQ_exit ?_
        refine blockQ_same ?_
        exact joinQ_normal (l5) (Le.mk rfl rfl ⟨.refl _, trivial⟩ ⟨⟨_, rfl, .refl _⟩, trivial⟩) h
    ·
      rintro l6 h
      replace h := (congrFun hK1 _).symm.trans h
      refine AWp.seq ?_
      obtain ⟨r7, hr7, h⟩ := bind_ok h
      obtain ⟨r8, hr8, h⟩ := bind_ok h
      refine q2rr [] [(1, ⟨[q2aW l6], [], [], [(6001, q2bW_30 r7)], .own 6001, [6001], [5007], []⟩), (2, ⟨[.own 6001], [6001], [], [], .tup [q2aW r8.1, .i r8.2], [], [], []⟩)] ⟨33, [(4, q2aW r8.1), (5, .i r8.2)], [], [], 0⟩ (an2 (cpL (c := true) [(5007, q2bW_30 l6)] [5007] [.own 5007] (fun _ => (Spec1.ren (swapN 3000 6001) (swapN_inv 3000 6001) rfl (f31_ok _ _ hr7))) (fun _ => ⟨.refl _, trivial⟩) (.inr ⟨rfl, ⟨(fun _ _ _ _ => eW_flat _ _), trivial⟩⟩)) (show (callP Tryz.prog true 30 [] [] [(6001, q2bW_30 r7)] [] [] [.own 6001] [.own 6001] (.tup [q2aW r8.1, .i r8.2]) []) from ⟨fun _ => (Spec1.pre (f30_ok _ _ hr8) rfl rfl rfl (Le.trans (Le.freeze 6001 rfl rfl) (Le.mk (s' := ⟨1, [(0, q2aW r7)], [], [], 0⟩) rfl rfl ⟨.refl _, trivial⟩ trivial))), fun _ => ⟨.refl _, trivial⟩, .inl rfl⟩)) ?_
      refine thenQ_normal ?_
      have hret := Option.some.inj h
      subst hret
      refine AWp.le (Le.mk (s' := ⟨33, [(4, q2aW r8.1), (5, .i r8.2)], [], [], 0⟩) rfl rfl ⟨.refl _, .refl _, trivial⟩ trivial) ?_
      refine AWp.ret ?_
      exact bodyQ_ret _ rfl ⟨rfl, rfl⟩ rfl
def f14_L0 (x1 : List (BitVec 16)) (x2 : BitVec 16) (K1 : (List (BitVec 16)) → Option (Int × List (BitVec 16))) : Nat → (Nat × List (BitVec 16)) → Option (Int × List (BitVec 16))
  | 0, _ => none
  | k + 1, (n4, l5) =>
    if (decide ((n4 : Int) < (((x1).length : Nat) : Int))) then (
    jn (fun (l6 : List (BitVec 16)) =>
    chk (((n4 : Int) + (1 : Int)) ≤ 9223372036854775807) <|
    (f14_L0 x1 x2 K1 k) ((n4 + 1), l6)
    ) fun (K2 : (List (BitVec 16)) → Option (Int × List (BitVec 16))) =>
    chk ((n4 : Int) < (((x1).length : Nat) : Int)) <|
    if (((x1.getD n4 0#16) &&& x2) == (BitVec.ofInt 16 0)) then (
    chk (((l5).length + 1) * 2 ≤ 140737488355328) <|
    K2 (l5 ++ [(x1.getD n4 0#16)])
    ) else (
    K2 l5
    )
    ) else (
    K1 l5
    )
abbrev f14z0 (x2 : BitVec 16) (x1 : List (BitVec 16)) (n4 : Nat) : List (Nat × V) := [(1, .b16 x2), (7, .own 5007), (15, vL 1 eW 0#16 x1), (16, .int .i64 (((x1).length : Nat) : Int)), (17, .int .i64 (n4 : Int))]
abbrev f14z1 (x2 : BitVec 16) (x1 : List (BitVec 16)) (n4 : Nat) : List (Nat × V) := [(1, .b16 x2), (7, .own 28), (15, vL 1 eW 0#16 x1), (16, .int .i64 (((x1).length : Nat) : Int)), (17, .int .i64 (n4 : Int))]
def f14 (x1 : List (BitVec 16)) (x2 : BitVec 16) : Option (Int × List (BitVec 16)) :=
  (f21 x1).bind fun (r3 : Int) =>
  if (r3 != (0 : Int)) then (
  some (r3, [])
  ) else (
  jn (fun (l7 : List (BitVec 16)) =>
  some ((0 : Int), l7)
  ) fun (K1 : (List (BitVec 16)) → Option (Int × List (BitVec 16))) =>
  f14_L0 x1 x2 K1 FUEL (0, [])
  )
set_option maxRecDepth 100000 in
theorem f14_ok  (x1 : List (BitVec 16)) (x2 : BitVec 16) (r : Int × List (BitVec 16)) (h : f14 x1 x2 = some r)  : Spec1 Tryz.prog 14 [] [] [] [vL 1 eW 0#16 x1, .b16 x2] (.tup [.own 3000, .int .i64 r.1]) [(3000, bL 30 1 eW 0#16 r.2)] := by
  unfold f14 at h
  refine Spec1.body 0 _ _ Tryz.func14 rfl Tryz.ntmps14 rfl rfl ?_
  refine q2rq [] [] ⟨31, [(0, q2aW x1), (1, .b16 x2)], [], [], 0⟩ trivial ?_
  refine AWp.seq ?_
  refine AWp.seq ?_
  obtain ⟨r3, hr3, h⟩ := bind_ok h
  refine q2rr [] [(1, ⟨[q2aW x1], [], [], [], .i r3, [], [], []⟩)] ⟨31, [(0, q2aW x1), (1, .b16 x2), (6, .i r3)], [], [], 0⟩ (an1 (cpT (f21_ok _ _ hr3))) ?_
  refine thenQ_normal ?_
  refine q2rq [] [] ⟨31, [(0, q2aW x1), (1, .b16 x2), (6, .i r3), (13, .bool (r3 != (0 : Int)))], [], [], 0⟩ trivial ?_
  refine AWp.cond (b := (r3 != (0 : Int))) (by kernel_rfl) (fun hc1 => ?_) (fun hc1 => ?_)
  ·
    replace h := ite_tb hc1 h
    refine q2rq [] [] ⟨31, [(4, .nils), (5, .i r3)], [], [], 0⟩ trivial ?_
    refine AWp.le (Le.trans (Le.nilOwn 4 3000 30 1 (encF eW 0#16 []) rfl rfl (Nat.le_of_ble_eq_true rfl)) (Le.mk (s' := ⟨31, [(4, .own 3000), (5, .i r3)], [(3000, q2bW_30 [])], [], 0⟩) rfl rfl ⟨.refl _, .refl _, trivial⟩ ⟨⟨_, rfl, .refl _⟩, trivial⟩)) ?_
    have hret := Option.some.inj h
    subst hret
    refine AWp.le (Le.mk (s' := ⟨31, [(4, .own 3000), (5, .i r3)], [(3000, q2bW_30 [])], [], 0⟩) rfl rfl ⟨.refl _, .refl _, trivial⟩ ⟨⟨_, rfl, .refl _⟩, trivial⟩) ?_
    refine AWp.ret ?_
    refine thenQ_ret ?_
    exact bodyQ_ret _ rfl ⟨rfl, rfl⟩ rfl
  ·
    replace h := ite_fb hc1 h
    refine AWp.skip ?_
    refine thenQ_normal ?_
    refine q2rq [] [] ⟨31, [(0, q2aW x1), (1, .b16 x2), (7, .nils)], [], [], 0⟩ trivial ?_
    obtain ⟨K1, hK1, h⟩ := jn_some h
    refine AWp.join (α := List (BitVec 16)) (fun (l7 : List (BitVec 16)) => ⟨31, [(7, .own 5007)], [(5007, q2bW_30 l7)], [], 0⟩) (fun x => K1 x = some r) ?_ ?_
    ·
      refine q2rq [] [] ⟨31, [(1, .b16 x2), (7, .nils), (15, q2aW x1), (16, .i (lZ x1)), (17, .i (0 : Int))], [], [], 0⟩ trivial ?_
      refine AWp.block ?_
      refine AWp.loopL (α := Nat × (Nat × List (BitVec 16))) (fun x => match x with | (_, n4, l5) => ⟨31, (f14z0 x2 x1 n4), [(5007, q2bW_30 l5)], [], 0⟩) (fun x => f14_L0 x1 x2 K1 x.1 x.2 = some r) (fun x => x.1) (FUEL, 0, []) (Le.trans (Le.trans (Le.nilOwn 7 5007 30 1 (encF eW 0#16 []) rfl rfl (Nat.le_of_ble_eq_true rfl)) (Le.mk (s' := ⟨31, [(1, .b16 x2), (7, .own 5007), (15, q2aW x1), (16, .i (lZ x1)), (17, .i (0 : Int))], [(5007, q2bW_30 [])], [], 0⟩) rfl rfl ⟨.refl _, .refl _, .refl _, .refl _, .refl _, trivial⟩ ⟨⟨_, rfl, .refl _⟩, trivial⟩)) (Le.mk (s' := ⟨31, [(1, .b16 x2), (7, .own 5007), (15, q2aW x1), (16, .i (lZ x1)), (17, .i (0 : Int))], [(5007, q2bW_30 [])], [], 0⟩) rfl rfl ⟨.refl _, .refl _, .refl _, .refl _, .refl _, trivial⟩ ⟨⟨_, rfl, .refl _⟩, trivial⟩)) h ?_
      rintro ⟨k0, n4, l5⟩ h
      cases k0 with
      | zero => exact nomatch (show (none : Option (Int × List (BitVec 16))) = some r from h)
      | succ k0 =>
      obtain ⟨C0, hC0⟩ : ∃ C, C = f14_L0 x1 x2 K1 k0 := ⟨_, rfl⟩
      replace h := (f14_L0.eq_2 ..).symm.trans h
      try rw [← hC0] at h
      refine q2rq [] [] ⟨31, [(1, .b16 x2), (7, .own 5007), (15, q2aW x1), (16, .i (lZ x1)), (17, .i (n4 : Int)), (18, .bool (decide ((n4 : Int) < (lZ x1))))], [(5007, q2bW_30 l5)], [], 0⟩ trivial ?_
      refine AWp.seq ?_
      refine AWp.cond (b := (decide ((n4 : Int) < (lZ x1)))) (by kernel_rfl) (fun hc2 => ?_) (fun hc2 => ?_)
      ·
        replace h := ite_tb hc2 h
        refine AWp.skip ?_
        refine thenQ_normal ?_
        obtain ⟨K2, hK2, h⟩ := jn_some h
        refine AWp.join (α := List (BitVec 16)) (fun (l6 : List (BitVec 16)) => ⟨31, (f14z1 x2 x1 n4), [(28, q2bW_30 l6)], [], 0⟩) (fun x => K2 x = some r) ?_ ?_
        ·
          refine AWp.block ?_
          refine AWp.seq ?_
          obtain ⟨ob0p, h⟩ := chk_some h
          have ob0 : 0 ≤ (n4 : Int) ∧ (n4 : Int) < (((x1).length : Nat) : Int) := ⟨by omega, ob0p⟩
          refine q2rr [] [] ⟨31, [(1, .b16 x2), (7, .own 5007), (9, .b16 (x1.getD n4 0#16)), (15, q2aW x1), (16, .i (lZ x1)), (17, .i (n4 : Int))], [(5007, q2bW_30 l5)], [], 0⟩ (an1 ob0) ?_
          refine thenQ_normal ?_
          refine q2rq [] [] ⟨31, [(1, .b16 x2), (7, .own 5007), (9, .b16 (x1.getD n4 0#16)), (15, q2aW x1), (16, .i (lZ x1)), (17, .i (n4 : Int)), (24, .bool (((x1.getD n4 0#16) &&& x2) == (q2w16 0)))], [(5007, q2bW_30 l5)], [], 0⟩ trivial ?_
          refine AWp.cond (b := (((x1.getD n4 0#16) &&& x2) == (q2w16 0))) (by kernel_rfl) (fun hc3 => ?_) (fun hc3 => ?_)
          ·
            replace h := ite_tb hc3 h
            obtain ⟨ob1, h⟩ := chk_some h
            refine q2rr [] [] ⟨31, (f14z0 x2 x1 n4), [(5007, .rows 30 1 ((l5).length + 1) (appF (l5).length (encF eW 0#16 l5) (lstF 1 [.b16 (x1.getD n4 0#16)])))], [], 0⟩ (an1 ob1) ?_
            refine blockQ_normal ?_
            exact joinQ_normal ((l5 ++ [(x1.getD n4 0#16)])) (Le.trans (Le.mk (s' := ⟨31, (f14z0 x2 x1 n4), [(5007, q2bW_30 (l5 ++ [(x1.getD n4 0#16)]))], [], 0⟩) rfl rfl ⟨.refl _, .refl _, .refl _, .refl _, .refl _, trivial⟩ ⟨⟨_, rfl, (BLe.of (RL.app (RL.self _) (RL.lst (enc := eW) [(x1.getD n4 0#16)] rfl rfl (fun _ => rfl))))⟩, trivial⟩) (Le.trans (Le.trans (Le.ren (swapN 5007 28) (swapN_inv 5007 28) rfl) (Le.mk (s' := ⟨31, (f14z1 x2 x1 n4), [(28, q2bW_30 (l5 ++ [(x1.getD n4 0#16)]))], [], 0⟩) rfl rfl ⟨.refl _, .refl _, .refl _, .refl _, .refl _, trivial⟩ ⟨⟨_, rfl, .refl _⟩, trivial⟩)) (Le.mk rfl rfl ⟨.refl _, .refl _, .refl _, .refl _, .refl _, trivial⟩ ⟨⟨_, rfl, .refl _⟩, trivial⟩))) h
          ·
            replace h := ite_fb hc3 h
            refine AWp.skip ?_
            refine blockQ_normal ?_
            exact joinQ_normal (l5) (Le.trans (Le.trans (Le.ren (swapN 5007 28) (swapN_inv 5007 28) rfl) (Le.mk (s' := ⟨31, [(1, .b16 x2), (7, .own 28), (9, .b16 (x1.getD n4 0#16)), (15, q2aW x1), (16, .i (lZ x1)), (17, .i (n4 : Int)), (24, .bool (((x1.getD n4 0#16) &&& x2) == (q2w16 0)))], [(28, q2bW_30 l5)], [], 0⟩) rfl rfl ⟨.refl _, .refl _, .refl _, .refl _, .refl _, .refl _, .refl _, trivial⟩ ⟨⟨_, rfl, .refl _⟩, trivial⟩)) (Le.mk rfl rfl ⟨.refl _, .refl _, .refl _, .refl _, .refl _, trivial⟩ ⟨⟨_, rfl, .refl _⟩, trivial⟩)) h
        ·
          rintro l6 h
          replace h := (congrFun hK2 _).symm.trans h
          obtain ⟨ob2p, h⟩ := chk_some h
          have ob2 : -9223372036854775808 ≤ ((n4 : Int) + (1 : Int)) ∧ ((n4 : Int) + (1 : Int)) ≤ 9223372036854775807 := ⟨by omega, ob2p⟩
          refine q2rr [] [] ⟨31, [(1, .b16 x2), (7, .own 28), (15, q2aW x1), (16, .i (lZ x1)), (17, .i (((n4 + 1) : Nat) : Int))], [(28, q2bW_30 l6)], [], 0⟩ (an1 ob2) ?_
          rw [hC0] at h
          exact loopQ_normal (_, (n4 + 1), l6) (Le.trans (Le.trans (Le.ren (swapN 28 5007) (swapN_inv 28 5007) rfl) (Le.mk (s' := ⟨31, [(1, .b16 x2), (7, .own 5007), (15, q2aW x1), (16, .i (lZ x1)), (17, .i (((n4 + 1) : Nat) : Int))], [(5007, q2bW_30 l6)], [], 0⟩) rfl rfl ⟨.refl _, .refl _, .refl _, .refl _, .refl _, trivial⟩ ⟨⟨_, rfl, .refl _⟩, trivial⟩)) (Le.mk rfl rfl ⟨.refl _, .refl _, .refl _, .refl _, .refl _, trivial⟩ ⟨⟨_, rfl, .refl _⟩, trivial⟩)) h (Nat.lt_succ_self _)
      ·
        replace h := ite_fb hc2 h
        refine AWp.exit ?_
        refine thenQ_exit ?_
        refine thenQ_exit ?_
        refine blockQ_same ?_
        exact joinQ_normal (l5) (Le.mk rfl rfl ⟨.refl _, trivial⟩ ⟨⟨_, rfl, .refl _⟩, trivial⟩) h
    ·
      rintro l7 h
      replace h := (congrFun hK1 _).symm.trans h
      refine q2rq [] [] ⟨31, [(4, .own 5007), (5, .i (0 : Int))], [(5007, q2bW_30 l7)], [], 0⟩ trivial ?_
      refine AWp.le (Le.trans (Le.ren (swapN 5007 3000) (swapN_inv 5007 3000) rfl) (Le.mk (s' := ⟨31, [(4, .own 3000), (5, .i (0 : Int))], [(3000, q2bW_30 l7)], [], 0⟩) rfl rfl ⟨.refl _, .refl _, trivial⟩ ⟨⟨_, rfl, .refl _⟩, trivial⟩)) ?_
      have hret := Option.some.inj h
      subst hret
      refine AWp.le (Le.mk (s' := ⟨31, [(4, .own 3000), (5, .i (0 : Int))], [(3000, q2bW_30 l7)], [], 0⟩) rfl rfl ⟨.refl _, .refl _, trivial⟩ ⟨⟨_, rfl, .refl _⟩, trivial⟩) ?_
      refine AWp.ret ?_
      exact bodyQ_ret _ rfl ⟨rfl, rfl⟩ rfl
def f51 (x1 : BitVec 16) : Option Bool :=
  some (!((x1 &&& (BitVec.ofInt 16 61440)) == (BitVec.ofInt 16 0)))
set_option maxRecDepth 100000 in
theorem f51_ok  (x1 : BitVec 16) (r : Bool) (h : f51 x1 = some r)  : Spec1 Tryz.prog 51 [] [] [] [.b16 x1] (.bool r) [] := by
  unfold f51 at h
  refine Spec1.body 0 _ _ Tryz.func51 rfl Tryz.ntmps51 rfl rfl ?_
  refine q2rq [] [] ⟨6, [(0, .b16 x1)], [], [], 0⟩ trivial ?_
  refine q2rq [] [] ⟨6, [(2, .bool (!((x1 &&& (q2w16 61440)) == (q2w16 0))))], [], [], 0⟩ trivial ?_
  have hret := Option.some.inj h
  subst hret
  refine AWp.le (Le.mk (s' := ⟨6, [(2, .bool (!((x1 &&& (q2w16 61440)) == (q2w16 0))))], [], [], 0⟩) rfl rfl ⟨.refl _, trivial⟩ trivial) ?_
  refine AWp.ret ?_
  exact bodyQ_ret _ rfl ⟨rfl, rfl⟩ rfl
def f72a_L0 (x1 : List (BitVec 16)) (K1 : Unit → Option Int) : Nat → Nat → Option Int
  | 0, _ => none
  | k + 1, n2 =>
    if (decide ((n2 : Int) < (((x1).length : Nat) : Int))) then (
    (f51 (x1.getD n2 0#16)).bind fun (r3 : Bool) =>
    chk ((n2 : Int) < (((x1).length : Nat) : Int)) <|
    if r3 then (
    some (n2 : Int)
    ) else (
    chk (((n2 : Int) + (1 : Int)) ≤ 9223372036854775807) <|
    (f72a_L0 x1 K1 k) (n2 + 1)
    )
    ) else (
    K1 ()
    )
def f72a (x1 : List (BitVec 16)) : Option Int :=
  jn (fun (_ : Unit) =>
  some (-1 : Int)
  ) fun (K1 : Unit → Option Int) =>
  f72a_L0 x1 K1 FUEL 0
set_option maxRecDepth 100000 in
theorem f72a_ok  (x1 : List (BitVec 16)) (r : Int) (h : f72a x1 = some r)  : Spec1 Tryz.prog 72 [] [] [] [vL 1 eW 0#16 x1, .fn (.func 51) []] (.int .i64 r) [] := by
  unfold f72a at h
  refine Spec1.body 0 _ _ Tryz.func72 rfl Tryz.ntmps72 rfl rfl ?_
  refine q2rq [] [] ⟨19, [(0, q2aW x1), (1, .fn (.func 51) [])], [], [], 0⟩ trivial ?_
  obtain ⟨K1, hK1, h⟩ := jn_some h
  refine AWp.join (α := Unit) (fun (x : Unit) => match x with | () => ⟨19, [], [], [], 0⟩) (fun x => K1 x = some r) ?_ ?_
  ·
    refine q2rq [] [] ⟨19, [(0, q2aW x1), (1, .fn (.func 51) []), (7, .i (lZ x1)), (8, .i (0 : Int))], [], [], 0⟩ trivial ?_
    refine AWp.block ?_
    refine AWp.loopL (α := Nat × Nat) (fun x => match x with | (_, n2) => ⟨19, [(0, q2aW x1), (1, .fn (.func 51) []), (7, .i (lZ x1)), (8, .i (n2 : Int))], [], [], 0⟩) (fun x => f72a_L0 x1 K1 x.1 x.2 = some r) (fun x => x.1) (FUEL, 0) (Le.mk (s' := ⟨19, [(0, q2aW x1), (1, .fn (.func 51) []), (7, .i (lZ x1)), (8, .i (0 : Int))], [], [], 0⟩) rfl rfl ⟨.refl _, .refl _, .refl _, .refl _, trivial⟩ trivial) h ?_
    rintro ⟨k0, n2⟩ h
    cases k0 with
    | zero => exact nomatch (show (none : Option Int) = some r from h)
    | succ k0 =>
    obtain ⟨C0, hC0⟩ : ∃ C, C = f72a_L0 x1 K1 k0 := ⟨_, rfl⟩
    replace h := (f72a_L0.eq_2 ..).symm.trans h
    try rw [← hC0] at h
    refine q2rq [] [] ⟨19, [(0, q2aW x1), (1, .fn (.func 51) []), (7, .i (lZ x1)), (8, .i (n2 : Int)), (9, .bool (decide ((n2 : Int) < (lZ x1))))], [], [], 0⟩ trivial ?_
    refine AWp.seq ?_
    refine AWp.cond (b := (decide ((n2 : Int) < (lZ x1)))) (by kernel_rfl) (fun hc1 => ?_) (fun hc1 => ?_)
    ·
      replace h := ite_tb hc1 h
      refine AWp.skip ?_
      refine thenQ_normal ?_
      refine AWp.seq ?_
      refine AWp.block ?_
      refine q2rq [] [] ⟨19, [(0, q2aW x1), (1, .fn (.func 51) []), (5, .i (n2 : Int)), (7, .i (lZ x1)), (8, .i (n2 : Int))], [], [], 0⟩ trivial ?_
      refine AWp.seq ?_
      obtain ⟨r3, hr3, h⟩ := bind_ok h
      obtain ⟨ob0p, h⟩ := chk_some h
      have ob0 : 0 ≤ (n2 : Int) ∧ (n2 : Int) < (((x1).length : Nat) : Int) := ⟨by omega, ob0p⟩
      refine q2rr [] [(5, ⟨[.b16 (x1.getD n2 0#16)], [], [], [], .bool r3, [], [], []⟩)] ⟨19, [(0, q2aW x1), (1, .fn (.func 51) []), (5, .i (n2 : Int)), (7, .i (lZ x1)), (8, .i (n2 : Int)), (16, .bool r3)], [], [], 0⟩ (an2 ob0 (cpT (f51_ok _ _ hr3))) ?_
      refine thenQ_normal ?_
      refine AWp.cond (b := r3) (by kernel_rfl) (fun hc2 => ?_) (fun hc2 => ?_)
      ·
        replace h := ite_tb hc2 h
        refine q2rq [] [] ⟨19, [(4, .i (n2 : Int))], [], [], 0⟩ trivial ?_
        have hret := Option.some.inj h
        subst hret
        refine AWp.le (Le.mk (s' := ⟨19, [(4, .i (n2 : Int))], [], [], 0⟩) rfl rfl ⟨.refl _, trivial⟩ trivial) ?_
        refine AWp.ret ?_
        refine blockQ_ret ?_
        refine thenQ_ret ?_
        refine thenQ_ret ?_
        refine blockQ_ret ?_
        refine joinQ_ret ?_
        exact bodyQ_ret _ rfl ⟨rfl, rfl⟩ rfl
      ·
        replace h := ite_fb hc2 h
        refine AWp.skip ?_
        refine blockQ_normal ?_
        refine thenQ_normal ?_
        obtain ⟨ob1p, h⟩ := chk_some h
        have ob1 : -9223372036854775808 ≤ ((n2 : Int) + (1 : Int)) ∧ ((n2 : Int) + (1 : Int)) ≤ 9223372036854775807 := ⟨by omega, ob1p⟩
        refine q2rr [] [] ⟨19, [(0, q2aW x1), (1, .fn (.func 51) []), (7, .i (lZ x1)), (8, .i (((n2 + 1) : Nat) : Int))], [], [], 0⟩ (an1 ob1) ?_
        rw [hC0] at h
        exact loopQ_normal (_, (n2 + 1)) (Le.mk rfl rfl ⟨.refl _, .refl _, .refl _, .refl _, trivial⟩ trivial) h (Nat.lt_succ_self _)
    ·
      replace h := ite_fb hc1 h
      refine AWp.exit ?_
      refine thenQ_exit ?_
      refine thenQ_exit ?_
      refine blockQ_same ?_
      exact joinQ_normal () (Le.mk rfl rfl trivial trivial) h
  ·
    rintro ⟨⟩ h
    replace h := (congrFun hK1 _).symm.trans h
    refine q2rq [] [] ⟨19, [(4, .i (-1 : Int))], [], [], 0⟩ trivial ?_
    have hret := Option.some.inj h
    subst hret
    refine AWp.le (Le.mk (s' := ⟨19, [(4, .i (-1 : Int))], [], [], 0⟩) rfl rfl ⟨.refl _, trivial⟩ trivial) ?_
    refine AWp.ret ?_
    exact bodyQ_ret _ rfl ⟨rfl, rfl⟩ rfl
def f50a (x1 : List (BitVec 16)) : Option Bool :=
  (f72a x1).bind fun (r2 : Int) =>
  some (decide (r2 ≥ (0 : Int)))
set_option maxRecDepth 100000 in
theorem f50a_ok  (x1 : List (BitVec 16)) (r : Bool) (h : f50a x1 = some r)  : Spec1 Tryz.prog 50 [] [] [] [vL 1 eW 0#16 x1, .fn (.func 51) []] (.bool r) [] := by
  unfold f50a at h
  refine Spec1.body 0 _ _ Tryz.func50 rfl Tryz.ntmps50 rfl rfl ?_
  refine q2rq [] [] ⟨9, [(0, q2aW x1), (1, .fn (.func 51) [])], [], [], 0⟩ trivial ?_
  refine AWp.seq ?_
  obtain ⟨r2, hr2, h⟩ := bind_ok h
  refine q2rr [] [(2, ⟨[q2aW x1, .fn (.func 51) []], [], [], [], .i r2, [], [], []⟩)] ⟨9, [(4, .bool (decide (r2 ≥ (0 : Int))))], [], [], 0⟩ (an1 (cpT (f72a_ok _ _ hr2))) ?_
  refine thenQ_normal ?_
  have hret := Option.some.inj h
  subst hret
  refine AWp.le (Le.mk (s' := ⟨9, [(4, .bool (decide (r2 ≥ (0 : Int))))], [], [], 0⟩) rfl rfl ⟨.refl _, trivial⟩ trivial) ?_
  refine AWp.ret ?_
  exact bodyQ_ret _ rfl ⟨rfl, rfl⟩ rfl
def f33 (x1 : List (BitVec 16)) : Option (List (BitVec 16) × Int) :=
  (f50a x1).bind fun (r2 : Bool) =>
  if r2 then (
  some ([], (7 : Int))
  ) else (
  (f31 x1).bind fun (r3 : List (BitVec 16)) =>
  (f30 r3).bind fun (r4 : List (BitVec 16) × Int) =>
  some (r4.1, r4.2)
  )
set_option maxRecDepth 100000 in
theorem f33_ok  (x1 : List (BitVec 16)) (r : List (BitVec 16) × Int) (h : f33 x1 = some r)  : Spec1 Tryz.prog 33 [] [] [] [vL 1 eW 0#16 x1, .fn (.func 31) []] (.tup [vL 1 eW 0#16 r.1, .int .i64 r.2]) [] := by
  unfold f33 at h
  refine Spec1.body 0 _ _ Tryz.func33 rfl Tryz.ntmps33 rfl rfl ?_
  refine q2rq [] [] ⟨14, [(0, q2aW x1), (1, .fn (.func 31) [])], [], [], 0⟩ trivial ?_
  refine AWp.seq ?_
  refine AWp.seq ?_
  obtain ⟨r2, hr2, h⟩ := bind_ok h
  refine q2rr [] [(1, ⟨[q2aW x1, .fn (.func 51) []], [], [], [], .bool r2, [], [], []⟩)] ⟨14, [(0, q2aW x1), (1, .fn (.func 31) []), (7, .bool r2)], [], [], 0⟩ (an1 (cpT (f50a_ok _ _ hr2))) ?_
  refine thenQ_normal ?_
  refine AWp.cond (b := r2) (by kernel_rfl) (fun hc1 => ?_) (fun hc1 => ?_)
  ·
    replace h := ite_tb hc1 h
    refine q2rq [] [] ⟨14, [(4, .nils), (5, .i (7 : Int))], [], [], 0⟩ trivial ?_
    have hret := Option.some.inj h
    subst hret
    refine AWp.le (Le.mk (s' := ⟨14, [(4, q2aW []), (5, .i (7 : Int))], [], [], 0⟩) rfl rfl ⟨.nilL, .refl _, trivial⟩ trivial) ?_
    refine AWp.ret ?_
    refine thenQ_ret ?_
    exact bodyQ_ret _ rfl ⟨rfl, rfl⟩ rfl
  ·
    replace h := ite_fb hc1 h
    refine AWp.skip ?_
    refine thenQ_normal ?_
    refine AWp.seq ?_
    obtain ⟨r3, hr3, h⟩ := bind_ok h
    obtain ⟨r4, hr4, h⟩ := bind_ok h
    refine q2rr [] [(2, ⟨[q2aW x1], [], [], [(6001, q2bW_30 r3)], .own 6001, [6001], [], []⟩), (3, ⟨[.own 6001], [6001], [], [], .tup [q2aW r4.1, .i r4.2], [], [], []⟩)] ⟨14, [(4, q2aW r4.1), (5, .i r4.2)], [], [], 0⟩ (an2 (cpT (Spec1.ren (swapN 3000 6001) (swapN_inv 3000 6001) rfl (f31_ok _ _ hr3))) (show (callP Tryz.prog true 30 [] [] [(6001, q2bW_30 r3)] [] [] [.own 6001] [.own 6001] (.tup [q2aW r4.1, .i r4.2]) []) from ⟨fun _ => (Spec1.pre (f30_ok _ _ hr4) rfl rfl rfl (Le.trans (Le.freeze 6001 rfl rfl) (Le.mk (s' := ⟨1, [(0, q2aW r3)], [], [], 0⟩) rfl rfl ⟨.refl _, trivial⟩ trivial))), fun _ => ⟨.refl _, trivial⟩, .inl rfl⟩)) ?_
    refine thenQ_normal ?_
    have hret := Option.some.inj h
    subst hret
    refine AWp.le (Le.mk (s' := ⟨14, [(4, q2aW r4.1), (5, .i r4.2)], [], [], 0⟩) rfl rfl ⟨.refl _, .refl _, trivial⟩ trivial) ?_
    refine AWp.ret ?_
    exact bodyQ_ret _ rfl ⟨rfl, rfl⟩ rfl
def f15 (x1 : List (BitVec 16)) : Option (List (BitVec 16) × Int) :=
  (f33 x1).bind fun (r2 : List (BitVec 16) × Int) =>
  some (r2.1, r2.2)
set_option maxRecDepth 100000 in
theorem f15_ok  (x1 : List (BitVec 16)) (r : List (BitVec 16) × Int) (h : f15 x1 = some r)  : Spec1 Tryz.prog 15 [] [] [] [vL 1 eW 0#16 x1] (.tup [vL 1 eW 0#16 r.1, .int .i64 r.2]) [] := by
  unfold f15 at h
  refine Spec1.body 0 _ _ Tryz.func15 rfl Tryz.ntmps15 rfl rfl ?_
  refine q2rq [] [] ⟨8, [(0, q2aW x1)], [], [], 0⟩ trivial ?_
  refine AWp.seq ?_
  obtain ⟨r2, hr2, h⟩ := bind_ok h
  refine q2rr [] [(1, ⟨[q2aW x1, .fn (.func 31) []], [], [], [], .tup [q2aW r2.1, .i r2.2], [], [], []⟩)] ⟨8, [(2, q2aW r2.1), (3, .i r2.2)], [], [], 0⟩ (an1 (cpT (f33_ok _ _ hr2))) ?_
  refine thenQ_normal ?_
  have hret := Option.some.inj h
  subst hret
  refine AWp.le (Le.mk (s' := ⟨8, [(2, q2aW r2.1), (3, .i r2.2)], [], [], 0⟩) rfl rfl ⟨.refl _, .refl _, trivial⟩ trivial) ?_
  refine AWp.ret ?_
  exact bodyQ_ret _ rfl ⟨rfl, rfl⟩ rfl
def f52 (x1 : List (BitVec 16)) : Option (List (BitVec 16)) :=
  some x1
set_option maxRecDepth 100000 in
theorem f52_ok  (x1 : List (BitVec 16)) (r : List (BitVec 16)) (h : f52 x1 = some r)  : Spec1 Tryz.prog 52 [] [] [] [vL 1 eW 0#16 x1] (.fn (.func 73) [.ptr 3500 0]) [(3500, .cells 22 [vL 1 eW 0#16 r])] := by
  unfold f52 at h
  refine Spec1.body 0 _ _ Tryz.func52 rfl Tryz.ntmps52 rfl rfl ?_
  refine q2rq [] [] ⟨4, [(1, .ptr 1 0)], [(1, .cells 22 [q2aW x1])], [], 0⟩ trivial ?_
  refine q2rq [] [] ⟨4, [(2, .fn (.func 73) [.ptr 1 0])], [(1, .cells 22 [q2aW x1])], [], 0⟩ trivial ?_
  refine AWp.le (Le.trans (Le.ren (swapN 1 3500) (swapN_inv 1 3500) rfl) (Le.mk (s' := ⟨4, [(2, .fn (.func 73) [.ptr 3500 0])], [(3500, .cells 22 [q2aW x1])], [], 0⟩) rfl rfl ⟨.refl _, trivial⟩ ⟨⟨_, rfl, .refl _⟩, trivial⟩)) ?_
  have hret := Option.some.inj h
  subst hret
  refine AWp.le (Le.mk (s' := ⟨4, [(2, .fn (.func 73) [.ptr 3500 0])], [(3500, .cells 22 [q2aW x1])], [], 0⟩) rfl rfl ⟨.refl _, trivial⟩ ⟨⟨_, rfl, .refl _⟩, trivial⟩) ?_
  refine AWp.ret ?_
  exact bodyQ_ret _ rfl ⟨rfl, rfl⟩ rfl
def f53 (x1 : BitVec 16) (x2 : BitVec 16) : Option (Bool × BitVec 16) :=
  (f54 x1 x2).bind fun (r3 : Bool) =>
  some (r3, x2)
set_option maxRecDepth 100000 in
theorem f53_ok  (x1 : BitVec 16) (x2 : BitVec 16) (r : Bool × BitVec 16) (h : f53 x1 x2 = some r)  : Spec1 Tryz.prog 53 [] [2000] [(2000, .cells 30 [.b16 x2])] [.b16 x1, .ptr 2000 0] (.bool r.1) [(2000, .cells 30 [.b16 r.2])] := by
  unfold f53 at h
  refine Spec1.body 0 _ _ Tryz.func53 rfl Tryz.ntmps53 rfl rfl ?_
  refine q2rq [] [] ⟨7, [(0, .b16 x1), (1, .ptr 2000 0)], [(2000, .cells 30 [.b16 x2])], [2000], 0⟩ trivial ?_
  refine AWp.seq ?_
  obtain ⟨r3, hr3, h⟩ := bind_ok h
  refine q2rr [] [(2, ⟨[.b16 x1, .b16 x2], [], [], [], .bool r3, [], [], []⟩)] ⟨7, [(3, .bool r3)], [(2000, .cells 30 [.b16 x2])], [2000], 0⟩ (an1 (cpT (f54_ok _ _ _ hr3))) ?_
  refine thenQ_normal ?_
  have hret := Option.some.inj h
  subst hret
  refine AWp.le (Le.mk (s' := ⟨7, [(3, .bool r3)], [(2000, .cells 30 [.b16 x2])], [2000], 0⟩) rfl rfl ⟨.refl _, trivial⟩ ⟨⟨_, rfl, .refl _⟩, trivial⟩) ?_
  refine AWp.ret ?_
  exact bodyQ_ret _ rfl ⟨rfl, rfl⟩ rfl
def f72b_L0 (x1 : List (BitVec 16)) (K1 : (BitVec 16) → Option (Int × BitVec 16)) : Nat → (Nat × BitVec 16) → Option (Int × BitVec 16)
  | 0, _ => none
  | k + 1, (n3, w4) =>
    if (decide ((n3 : Int) < (((x1).length : Nat) : Int))) then (
    (f53 (x1.getD n3 0#16) w4).bind fun (r5 : Bool × BitVec 16) =>
    chk ((n3 : Int) < (((x1).length : Nat) : Int)) <|
    if r5.1 then (
    some ((n3 : Int), r5.2)
    ) else (
    chk (((n3 : Int) + (1 : Int)) ≤ 9223372036854775807) <|
    (f72b_L0 x1 K1 k) ((n3 + 1), r5.2)
    )
    ) else (
    K1 w4
    )
def f72b (x1 : List (BitVec 16)) (x2 : BitVec 16) : Option (Int × BitVec 16) :=
  jn (fun (w6 : BitVec 16) =>
  some ((-1 : Int), w6)
  ) fun (K1 : (BitVec 16) → Option (Int × BitVec 16)) =>
  f72b_L0 x1 K1 FUEL (0, x2)
set_option maxRecDepth 100000 in
theorem f72b_ok  (x1 : List (BitVec 16)) (x2 : BitVec 16) (r : Int × BitVec 16) (h : f72b x1 x2 = some r)  : Spec1 Tryz.prog 72 [] [2000] [(2000, .cells 30 [.b16 x2])] [vL 1 eW 0#16 x1, .fn (.func 53) [.ptr 2000 0]] (.int .i64 r.1) [(2000, .cells 30 [.b16 r.2])] := by
  unfold f72b at h
  refine Spec1.body 0 _ _ Tryz.func72 rfl Tryz.ntmps72 rfl rfl ?_
  refine q2rq [] [] ⟨19, [(0, q2aW x1), (1, .fn (.func 53) [.ptr 2000 0])], [(2000, .cells 30 [.b16 x2])], [2000], 0⟩ trivial ?_
  obtain ⟨K1, hK1, h⟩ := jn_some h
  refine AWp.join (α := BitVec 16) (fun (w6 : BitVec 16) => ⟨19, [], [(2000, .cells 30 [.b16 w6])], [2000], 0⟩) (fun x => K1 x = some r) ?_ ?_
  ·
    refine q2rq [] [] ⟨19, [(0, q2aW x1), (1, .fn (.func 53) [.ptr 2000 0]), (7, .i (lZ x1)), (8, .i (0 : Int))], [(2000, .cells 30 [.b16 x2])], [2000], 0⟩ trivial ?_
    refine AWp.block ?_
    refine AWp.loopL (α := Nat × (Nat × BitVec 16)) (fun x => match x with | (_, n3, w4) => ⟨19, [(0, q2aW x1), (1, .fn (.func 53) [.ptr 2000 0]), (7, .i (lZ x1)), (8, .i (n3 : Int))], [(2000, .cells 30 [.b16 w4])], [2000], 0⟩) (fun x => f72b_L0 x1 K1 x.1 x.2 = some r) (fun x => x.1) (FUEL, 0, x2) (Le.mk (s' := ⟨19, [(0, q2aW x1), (1, .fn (.func 53) [.ptr 2000 0]), (7, .i (lZ x1)), (8, .i (0 : Int))], [(2000, .cells 30 [.b16 x2])], [2000], 0⟩) rfl rfl ⟨.refl _, .refl _, .refl _, .refl _, trivial⟩ ⟨⟨_, rfl, .refl _⟩, trivial⟩) h ?_
    rintro ⟨k0, n3, w4⟩ h
    cases k0 with
    | zero => exact nomatch (show (none : Option (Int × BitVec 16)) = some r from h)
    | succ k0 =>
    obtain ⟨C0, hC0⟩ : ∃ C, C = f72b_L0 x1 K1 k0 := ⟨_, rfl⟩
    replace h := (f72b_L0.eq_2 ..).symm.trans h
    try rw [← hC0] at h
    refine q2rq [] [] ⟨19, [(0, q2aW x1), (1, .fn (.func 53) [.ptr 2000 0]), (7, .i (lZ x1)), (8, .i (n3 : Int)), (9, .bool (decide ((n3 : Int) < (lZ x1))))], [(2000, .cells 30 [.b16 w4])], [2000], 0⟩ trivial ?_
    refine AWp.seq ?_
    refine AWp.cond (b := (decide ((n3 : Int) < (lZ x1)))) (by kernel_rfl) (fun hc1 => ?_) (fun hc1 => ?_)
    ·
      replace h := ite_tb hc1 h
      refine AWp.skip ?_
      refine thenQ_normal ?_
      refine AWp.seq ?_
      refine AWp.block ?_
      refine q2rq [] [] ⟨19, [(0, q2aW x1), (1, .fn (.func 53) [.ptr 2000 0]), (5, .i (n3 : Int)), (7, .i (lZ x1)), (8, .i (n3 : Int))], [(2000, .cells 30 [.b16 w4])], [2000], 0⟩ trivial ?_
      refine AWp.seq ?_
      obtain ⟨r5, hr5, h⟩ := bind_ok h
      obtain ⟨ob0p, h⟩ := chk_some h
      have ob0 : 0 ≤ (n3 : Int) ∧ (n3 : Int) < (((x1).length : Nat) : Int) := ⟨by omega, ob0p⟩
      refine q2rr [] [(5, ⟨[.b16 (x1.getD n3 0#16), .ptr 2000 0], [2000], [2000], [(2000, .cells 30 [.b16 r5.2])], .bool r5.1, [], [], []⟩)] ⟨19, [(0, q2aW x1), (1, .fn (.func 53) [.ptr 2000 0]), (5, .i (n3 : Int)), (7, .i (lZ x1)), (8, .i (n3 : Int)), (16, .bool r5.1)], [(2000, .cells 30 [.b16 r5.2])], [2000], 0⟩ (an2 ob0 (cpT (f53_ok _ _ _ hr5))) ?_
      refine thenQ_normal ?_
      refine AWp.cond (b := r5.1) (by kernel_rfl) (fun hc2 => ?_) (fun hc2 => ?_)
      ·
        replace h := ite_tb hc2 h
        refine q2rq [] [] ⟨19, [(4, .i (n3 : Int))], [(2000, .cells 30 [.b16 r5.2])], [2000], 0⟩ trivial ?_
        have hret := Option.some.inj h
        subst hret
        refine AWp.le (Le.mk (s' := ⟨19, [(4, .i (n3 : Int))], [(2000, .cells 30 [.b16 r5.2])], [2000], 0⟩) rfl rfl ⟨.refl _, trivial⟩ ⟨⟨_, rfl, .refl _⟩, trivial⟩) ?_
        refine AWp.ret ?_
        refine blockQ_ret ?_
        refine thenQ_ret ?_
        refine thenQ_ret ?_
        refine blockQ_ret ?_
        refine joinQ_ret ?_
        exact bodyQ_ret _ rfl ⟨rfl, rfl⟩ rfl
      ·
        replace h := ite_fb hc2 h
        refine AWp.skip ?_
        refine blockQ_normal ?_
        refine thenQ_normal ?_
        obtain ⟨ob1p, h⟩ := chk_some h
        have ob1 : -9223372036854775808 ≤ ((n3 : Int) + (1 : Int)) ∧ ((n3 : Int) + (1 : Int)) ≤ 9223372036854775807 := ⟨by omega, ob1p⟩
        refine q2rr [] [] ⟨19, [(0, q2aW x1), (1, .fn (.func 53) [.ptr 2000 0]), (7, .i (lZ x1)), (8, .i (((n3 + 1) : Nat) : Int))], [(2000, .cells 30 [.b16 r5.2])], [2000], 0⟩ (an1 ob1) ?_
        rw [hC0] at h
        exact loopQ_normal (_, (n3 + 1), r5.2) (Le.mk rfl rfl ⟨.refl _, .refl _, .refl _, .refl _, trivial⟩ ⟨⟨_, rfl, .refl _⟩, trivial⟩) h (Nat.lt_succ_self _)
    ·
      replace h := ite_fb hc1 h
      refine AWp.exit ?_
      refine thenQ_exit ?_
      refine thenQ_exit ?_
      refine blockQ_same ?_
      exact joinQ_normal (w4) (Le.mk rfl rfl trivial ⟨⟨_, rfl, .refl _⟩, trivial⟩) h
  ·
    rintro w6 h
    replace h := (congrFun hK1 _).symm.trans h
    refine q2rq [] [] ⟨19, [(4, .i (-1 : Int))], [(2000, .cells 30 [.b16 w6])], [2000], 0⟩ trivial ?_
    have hret := Option.some.inj h
    subst hret
    refine AWp.le (Le.mk (s' := ⟨19, [(4, .i (-1 : Int))], [(2000, .cells 30 [.b16 w6])], [2000], 0⟩) rfl rfl ⟨.refl _, trivial⟩ ⟨⟨_, rfl, .refl _⟩, trivial⟩) ?_
    refine AWp.ret ?_
    exact bodyQ_ret _ rfl ⟨rfl, rfl⟩ rfl
def f50b (x1 : List (BitVec 16)) (x2 : BitVec 16) : Option (Bool × BitVec 16) :=
  (f72b x1 x2).bind fun (r3 : Int × BitVec 16) =>
  some ((decide (r3.1 ≥ (0 : Int))), r3.2)
set_option maxRecDepth 100000 in
theorem f50b_ok  (x1 : List (BitVec 16)) (x2 : BitVec 16) (r : Bool × BitVec 16) (h : f50b x1 x2 = some r)  : Spec1 Tryz.prog 50 [] [2000] [(2000, .cells 30 [.b16 x2])] [vL 1 eW 0#16 x1, .fn (.func 53) [.ptr 2000 0]] (.bool r.1) [(2000, .cells 30 [.b16 r.2])] := by
  unfold f50b at h
  refine Spec1.body 0 _ _ Tryz.func50 rfl Tryz.ntmps50 rfl rfl ?_
  refine q2rq [] [] ⟨9, [(0, q2aW x1), (1, .fn (.func 53) [.ptr 2000 0])], [(2000, .cells 30 [.b16 x2])], [2000], 0⟩ trivial ?_
  refine AWp.seq ?_
  obtain ⟨r3, hr3, h⟩ := bind_ok h
  refine q2rr [] [(2, ⟨[q2aW x1, .fn (.func 53) [.ptr 2000 0]], [2000], [2000], [(2000, .cells 30 [.b16 r3.2])], .i r3.1, [], [], []⟩)] ⟨9, [(4, .bool (decide (r3.1 ≥ (0 : Int))))], [(2000, .cells 30 [.b16 r3.2])], [2000], 0⟩ (an1 (cpT (f72b_ok _ _ _ hr3))) ?_
  refine thenQ_normal ?_
  have hret := Option.some.inj h
  subst hret
  refine AWp.le (Le.mk (s' := ⟨9, [(4, .bool (decide (r3.1 ≥ (0 : Int))))], [(2000, .cells 30 [.b16 r3.2])], [2000], 0⟩) rfl rfl ⟨.refl _, trivial⟩ ⟨⟨_, rfl, .refl _⟩, trivial⟩) ?_
  refine AWp.ret ?_
  exact bodyQ_ret _ rfl ⟨rfl, rfl⟩ rfl
def f73_L0 (Y70001 : (List (BitVec 16) × List (BitVec 16)) → (Int × BitVec 16) → Option (Nat × (List (BitVec 16) × List (BitVec 16)))) : Nat → (Int × List (BitVec 16) × List (BitVec 16) × Nat) → Option (Nat × List (BitVec 16) × List (BitVec 16))
  | 0, _ => none
  | k + 1, (i3, l4, l5, n6) =>
    if (decide (i3 ≥ (0 : Int))) then (
    jn (fun ((l8, l9, n10) : List (BitVec 16) × List (BitVec 16) × Nat) =>
    chk (-9223372036854775808 ≤ (i3 - (1 : Int)) ∧ (i3 - (1 : Int)) ≤ 9223372036854775807) <|
    (f73_L0 Y70001 k) ((i3 - (1 : Int)), l8, l9, n10)
    ) fun (K1 : (List (BitVec 16) × List (BitVec 16) × Nat) → Option (Nat × List (BitVec 16) × List (BitVec 16))) =>
    chk (n6 = 0) <|
    (Y70001 (l5, l4) (i3, (l4.getD ((i3).toNat) 0#16))).bind fun (r7 : Nat × (List (BitVec 16) × List (BitVec 16))) =>
    if r7.1 = 0 then (
    chk (0 ≤ i3 ∧ i3 < (((l4).length : Nat) : Int)) <|
    if (!true) then (
    some (0, r7.2.1, r7.2.2)
    ) else (
    K1 (r7.2.2, r7.2.1, 0)
    )
    ) else (
    chk (0 ≤ i3 ∧ i3 < (((l4).length : Nat) : Int)) <|
    if (!false) then (
    some (r7.1, r7.2.1, r7.2.2)
    ) else (
    K1 (r7.2.2, r7.2.1, r7.1)
    )
    )
    ) else (
    some (n6, l5, l4)
    )
abbrev f73z0 (r7 : Nat × (List (BitVec 16) × List (BitVec 16))) : Heap := [(3, .cells 22 [.own 5800]), (5800, bL 30 1 eW 0#16 r7.2.1), (6002, .cells 22 [vL 1 eW 0#16 r7.2.2])]
abbrev f73z1 (i3 : Int) (l4 : List (BitVec 16)) : List V := [.int .i64 i3, .b16 (l4.getD ((i3).toNat) 0#16)]
abbrev f73z2 (C70001 : YC) (r7 : Nat × (List (BitVec 16) × List (BitVec 16))) : Heap := [(70001, .yld (some ([3], C70001)) r7.1), (3, .cells 22 [.own 5800]), (5800, bL 30 1 eW 0#16 r7.2.1), (6002, .cells 22 [vL 1 eW 0#16 r7.2.2])]
abbrev f73z3 (C70001 : YC) (r7 : Nat × (List (BitVec 16) × List (BitVec 16))) : Heap := [(70001, .yld (some ([3], C70001)) 0), (3, .cells 22 [.own 5800]), (5800, bL 30 1 eW 0#16 r7.2.1), (6002, .cells 22 [vL 1 eW 0#16 r7.2.2])]
abbrev f73z4 (l9 : List (BitVec 16)) (l8 : List (BitVec 16)) (C70001 : YC) (n10 : Nat) : Heap := [(3, .cells 22 [.own 5800]), (5800, bL 30 1 eW 0#16 l9), (6002, .cells 22 [vL 1 eW 0#16 l8]), (70001, .yld (some ([3], C70001)) n10)]
abbrev f73z5 (i3 : Int) : List (Nat × V) := [(0, .own 70001), (1, .ptr 6002 0), (3, .int .i64 i3)]
def f73 (Y70001 : (List (BitVec 16) × List (BitVec 16)) → (Int × BitVec 16) → Option (Nat × (List (BitVec 16) × List (BitVec 16)))) (x1 : List (BitVec 16)) (x2 : List (BitVec 16)) : Option (Nat × List (BitVec 16) × List (BitVec 16)) :=
  chk (-9223372036854775808 ≤ ((((x2).length : Nat) : Int) - (1 : Int)) ∧ ((((x2).length : Nat) : Int) - (1 : Int)) ≤ 9223372036854775807) <|
  f73_L0 Y70001 FUEL (((((x2).length : Nat) : Int) - (1 : Int)), x2, x1, 0)
set_option maxRecDepth 100000 in
theorem f73_ok (C70001 : YC) (Y70001 : (List (BitVec 16) × List (BitVec 16)) → (Int × BitVec 16) → Option (Nat × (List (BitVec 16) × List (BitVec 16)))) (x1 : List (BitVec 16)) (x2 : List (BitVec 16)) (r : Nat × List (BitVec 16) × List (BitVec 16)) (h : f73 Y70001 x1 x2 = some r) (hY70001 : ∀ s x r, Y70001 s x = some r → YSpec Tryz.prog 70001 [3] C70001 [3, 6002] [(3, .cells 22 [.own 5800]), (5800, bL 30 1 eW 0#16 s.1), (6002, .cells 22 [vL 1 eW 0#16 s.2])] [.int .i64 x.1, .b16 x.2] r.1 [(3, .cells 22 [.own 5800]), (5800, bL 30 1 eW 0#16 r.2.1), (6002, .cells 22 [vL 1 eW 0#16 r.2.2])]) : Spec1 Tryz.prog 73 [] [70001, 3, 6002] [(70001, .yld (some ([3], C70001)) 0), (3, .cells 22 [.own 5800]), (5800, bL 30 1 eW 0#16 x1), (6002, .cells 22 [vL 1 eW 0#16 x2])] [.own 70001, .ptr 6002 0] (.tup []) [(70001, .yld (some ([3], C70001)) r.1), (3, .cells 22 [.own 5800]), (5800, bL 30 1 eW 0#16 r.2.1), (6002, .cells 22 [vL 1 eW 0#16 r.2.2])] := by
  unfold f73 at h
  refine Spec1.body 10000 _ _ Tryz.func73 rfl Tryz.ntmps73 rfl rfl ?_
  refine AWp.seq ?_
  obtain ⟨ob0, h⟩ := chk_some h
  refine q2rr [] [] ⟨19, [(0, .own 70001), (1, .ptr 6002 0), (3, .i ((lZ x2) - (1 : Int)))], [(3, .cells 22 [.own 5800]), (5800, q2bW_30 x1), (6002, .cells 22 [q2aW x2]), (70001, .yld (some ([3], C70001)) 0)], [70001, 3, 6002], 10000⟩ (an1 ob0) ?_
  refine thenQ_normal ?_
  refine AWp.block ?_
  refine AWp.loopL (α := Nat × (Int × List (BitVec 16) × List (BitVec 16) × Nat)) (fun x => match x with | (_, i3, l4, l5, n6) => ⟨19, (f73z5 i3), [(3, .cells 22 [.own 5800]), (5800, q2bW_30 l5), (6002, .cells 22 [q2aW l4]), (70001, .yld (some ([3], C70001)) n6)], [70001, 3, 6002], 10000⟩) (fun x => f73_L0 Y70001 x.1 x.2 = some r) (fun x => x.1) (FUEL, ((lZ x2) - (1 : Int)), x2, x1, 0) (Le.mk (s' := ⟨19, [(0, .own 70001), (1, .ptr 6002 0), (3, .i ((lZ x2) - (1 : Int)))], [(3, .cells 22 [.own 5800]), (5800, q2bW_30 x1), (6002, .cells 22 [q2aW x2]), (70001, .yld (some ([3], C70001)) 0)], [70001, 3, 6002], 10000⟩) rfl rfl ⟨.refl _, .refl _, .refl _, trivial⟩ ⟨⟨_, rfl, .refl _⟩, ⟨_, rfl, .refl _⟩, ⟨_, rfl, .refl _⟩, ⟨_, rfl, .refl _⟩, trivial⟩) h ?_
  rintro ⟨k0, i3, l4, l5, n6⟩ h
  cases k0 with
  | zero => exact nomatch (show (none : Option (Nat × List (BitVec 16) × List (BitVec 16))) = some r from h)
  | succ k0 =>
  obtain ⟨C0, hC0⟩ : ∃ C, C = f73_L0 Y70001 k0 := ⟨_, rfl⟩
  replace h := (f73_L0.eq_2 ..).symm.trans h
  try rw [← hC0] at h
  refine AWp.seq ?_
  refine q2rq [] [] ⟨19, [(0, .own 70001), (1, .ptr 6002 0), (3, .i i3), (8, .bool (decide (i3 ≥ (0 : Int))))], [(3, .cells 22 [.own 5800]), (5800, q2bW_30 l5), (6002, .cells 22 [q2aW l4]), (70001, .yld (some ([3], C70001)) n6)], [70001, 3, 6002], 10000⟩ trivial ?_
  refine AWp.cond (b := (decide (i3 ≥ (0 : Int)))) (by kernel_rfl) (fun hc1 => ?_) (fun hc1 => ?_)
  ·
    replace h := ite_tb hc1 h
    refine AWp.skip ?_
    refine thenQ_normal ?_
    obtain ⟨K1, hK1, h⟩ := jn_some h
    refine AWp.join (α := List (BitVec 16) × List (BitVec 16) × Nat) (fun (x : List (BitVec 16) × List (BitVec 16) × Nat) => match x with | (l8, l9, n10) => ⟨19, (f73z5 i3), (f73z4 l9 l8 C70001 n10), [70001, 3, 6002], 10000⟩) (fun x => K1 x = some r) ?_ ?_
    ·
      refine AWp.block ?_
      refine AWp.seq ?_
      obtain ⟨hz2, h⟩ := chk_some h
      refine AWp.le (Le.mk (s' := ⟨19, [(0, .own 70001), (1, .ptr 6002 0), (3, .i i3), (8, .bool (decide (i3 ≥ (0 : Int))))], [(3, .cells 22 [.own 5800]), (5800, q2bW_30 l5), (6002, .cells 22 [q2aW l4]), (70001, .yld (some ([3], C70001)) 0)], [70001, 3, 6002], 10000⟩) rfl rfl ⟨.refl _, .refl _, .refl _, .refl _, trivial⟩ ⟨⟨_, rfl, .refl _⟩, ⟨_, rfl, .refl _⟩, ⟨_, rfl, .refl _⟩, ⟨_, rfl, BLe.yldEq hz2⟩, trivial⟩) ?_
      obtain ⟨r7, hr7, h⟩ := bind_ok h
      by_cases hy_r7 : r7.1 = 0
      ·
        replace h := ite_t hy_r7 h
        obtain ⟨ob1, h⟩ := chk_some h
        refine q2rr [] [(6, ⟨(f73z1 i3 l4), [70001, 3, 5800, 6002], [3, 6002], (f73z3 C70001 r7), .bool true, [5800], [], []⟩)] ⟨19, [(0, .own 70001), (1, .ptr 6002 0), (3, .i i3), (18, .bool (!true))], [(3, .cells 22 [.own 5800]), (5800, q2bW_30 r7.2.1), (6002, .cells 22 [q2aW r7.2.2]), (70001, .yld (some ([3], C70001)) 0)], [70001, 3, 6002], 10000⟩ (an2 ob1 (show (((f73z3 C70001 r7) : Heap) = (70001, .yld (some ([3], C70001)) 0) :: (f73z0 r7) ∧ V.bool true = V.bool (0 == 0) ∧ YSpec Tryz.prog 70001 [3] C70001 [3, 6002] [(3, .cells 22 [.own 5800]), (5800, q2bW_30 l5), (6002, .cells 22 [q2aW l4])] (f73z1 i3 l4) 0 (f73z0 r7) ∧ VLes (f73z1 i3 l4) (f73z1 i3 l4)) from ⟨rfl, rfl, (YSpec.zero (hY70001 _ _ r7 hr7) hy_r7), ⟨.refl _, .refl _, trivial⟩⟩)) ?_
        refine thenQ_normal ?_
        refine AWp.cond (b := (!true)) (by kernel_rfl) (fun hc4 => ?_) (fun hc4 => ?_)
        ·
          replace h := ite_tb hc4 h
          have hret := Option.some.inj h
          subst hret
          refine AWp.le (Le.mk (s' := ⟨19, [], (f73z3 C70001 r7), [70001, 3, 6002], 10000⟩) rfl rfl trivial ⟨⟨_, rfl, .refl _⟩, ⟨_, rfl, .refl _⟩, ⟨_, rfl, .refl _⟩, ⟨_, rfl, .refl _⟩, trivial⟩) ?_
          refine AWp.ret ?_
          refine blockQ_ret ?_
          refine joinQ_ret ?_
          refine thenQ_ret ?_
          refine blockQ_ret ?_
          exact bodyQ_ret _ rfl ⟨rfl, rfl⟩ rfl
        ·
          replace h := ite_fb hc4 h
          refine AWp.skip ?_
          refine blockQ_normal ?_
          exact joinQ_normal (r7.2.2, r7.2.1, 0) (Le.mk rfl rfl ⟨.refl _, .refl _, .refl _, trivial⟩ ⟨⟨_, rfl, .refl _⟩, ⟨_, rfl, .refl _⟩, ⟨_, rfl, .refl _⟩, ⟨_, rfl, .refl _⟩, trivial⟩) h
      ·
        replace h := ite_f hy_r7 h
        obtain ⟨ob1, h⟩ := chk_some h
        refine q2rr [] [(6, ⟨(f73z1 i3 l4), [70001, 3, 5800, 6002], [3, 6002], (f73z2 C70001 r7), .bool false, [5800], [], []⟩)] ⟨19, [(0, .own 70001), (1, .ptr 6002 0), (3, .i i3), (18, .bool (!false))], [(3, .cells 22 [.own 5800]), (5800, q2bW_30 r7.2.1), (6002, .cells 22 [q2aW r7.2.2]), (70001, .yld (some ([3], C70001)) r7.1)], [70001, 3, 6002], 10000⟩ (an2 ob1 (show (((f73z2 C70001 r7) : Heap) = (70001, .yld (some ([3], C70001)) r7.1) :: (f73z0 r7) ∧ V.bool false = V.bool (r7.1 == 0) ∧ YSpec Tryz.prog 70001 [3] C70001 [3, 6002] [(3, .cells 22 [.own 5800]), (5800, q2bW_30 l5), (6002, .cells 22 [q2aW l4])] (f73z1 i3 l4) r7.1 (f73z0 r7) ∧ VLes (f73z1 i3 l4) (f73z1 i3 l4)) from ⟨rfl, bool_ne hy_r7, (hY70001 _ _ r7 hr7), ⟨.refl _, .refl _, trivial⟩⟩)) ?_
        refine thenQ_normal ?_
        refine AWp.cond (b := (!false)) (by kernel_rfl) (fun hc5 => ?_) (fun hc5 => ?_)
        ·
          replace h := ite_tb hc5 h
          have hret := Option.some.inj h
          subst hret
          refine AWp.le (Le.mk (s' := ⟨19, [], (f73z2 C70001 r7), [70001, 3, 6002], 10000⟩) rfl rfl trivial ⟨⟨_, rfl, .refl _⟩, ⟨_, rfl, .refl _⟩, ⟨_, rfl, .refl _⟩, ⟨_, rfl, .refl _⟩, trivial⟩) ?_
          refine AWp.ret ?_
          refine blockQ_ret ?_
          refine joinQ_ret ?_
          refine thenQ_ret ?_
          refine blockQ_ret ?_
          exact bodyQ_ret _ rfl ⟨rfl, rfl⟩ rfl
        ·
          replace h := ite_fb hc5 h
          refine AWp.skip ?_
          refine blockQ_normal ?_
          exact joinQ_normal (r7.2.2, r7.2.1, r7.1) (Le.mk rfl rfl ⟨.refl _, .refl _, .refl _, trivial⟩ ⟨⟨_, rfl, .refl _⟩, ⟨_, rfl, .refl _⟩, ⟨_, rfl, .refl _⟩, ⟨_, rfl, .refl _⟩, trivial⟩) h
    ·
      rintro ⟨l8, l9, n10⟩ h
      replace h := (congrFun hK1 _).symm.trans h
      obtain ⟨ob2, h⟩ := chk_some h
      refine q2rr [] [] ⟨19, [(0, .own 70001), (1, .ptr 6002 0), (3, .i (i3 - (1 : Int)))], (f73z4 l9 l8 C70001 n10), [70001, 3, 6002], 10000⟩ (an1 ob2) ?_
      rw [hC0] at h
      exact loopQ_normal (_, (i3 - (1 : Int)), l8, l9, n10) (Le.mk rfl rfl ⟨.refl _, .refl _, .refl _, trivial⟩ ⟨⟨_, rfl, .refl _⟩, ⟨_, rfl, .refl _⟩, ⟨_, rfl, .refl _⟩, ⟨_, rfl, .refl _⟩, trivial⟩) h (Nat.lt_succ_self _)
  ·
    replace h := ite_fb hc1 h
    refine AWp.exit ?_
    refine thenQ_exit ?_
    refine thenQ_exit ?_
    refine blockQ_same ?_
    have hret := Option.some.inj h
    subst hret
    exact bodyQ_le (Le.mk (s' := ⟨19, [], [(70001, .yld (some ([3], C70001)) n6), (3, .cells 22 [.own 5800]), (5800, q2bW_30 l5), (6002, .cells 22 [q2aW l4])], [70001, 3, 6002], 10000⟩) rfl rfl trivial ⟨⟨_, rfl, .refl _⟩, ⟨_, rfl, .refl _⟩, ⟨_, rfl, .refl _⟩, ⟨_, rfl, .refl _⟩, trivial⟩) (bodyQ_normal _ rfl ⟨rfl, rfl⟩ rfl)
def f55_L0 : Nat → (Nat × Int × List (BitVec 16)) → Option (List (BitVec 16))
  | 0, _ => none
  | k + 1, (n2, i3, l4) =>
    if (decide ((n2 : Int) < i3)) then (
    chk (0 ≤ i3 ∧ i3 < (((l4).length : Nat) : Int)) <|
    chk (((i3).toNat) < (l4).length) <|
    chk ((n2 : Int) < (((l4).length : Nat) : Int)) <|
    chk (n2 < (l4).length) <|
    chk ((n2 : Int) < (((l4).length : Nat) : Int)) <|
    chk (n2 < (l4).length) <|
    chk (0 ≤ i3 ∧ i3 < (((l4).length : Nat) : Int)) <|
    chk (((i3).toNat) < (l4).length) <|
    chk (((n2 : Int) + (1 : Int)) ≤ 9223372036854775807) <|
    chk (-9223372036854775808 ≤ (i3 - (1 : Int)) ∧ (i3 - (1 : Int)) ≤ 9223372036854775807) <|
    (f55_L0 k) ((n2 + 1), (i3 - (1 : Int)), ((l4.set n2 (l4.getD ((i3).toNat) 0#16)).set ((i3).toNat) (l4.getD n2 0#16)))
    ) else (
    some l4
    )
abbrev f55z0 (l4 : List (BitVec 16)) (n2 : Nat) (i3 : Int) : Heap := [(2000, bL 30 1 eW 0#16 ((l4.set n2 (l4.getD ((i3).toNat) 0#16)).set ((i3).toNat) (l4.getD n2 0#16)))]
abbrev f55z1 (n2 : Nat) (i3 : Int) : List (Nat × V) := [(0, .own 2000), (2, .int .i64 (n2 : Int)), (3, .int .i64 i3)]
def f55 (x1 : List (BitVec 16)) : Option (List (BitVec 16)) :=
  chk (-9223372036854775808 ≤ ((((x1).length : Nat) : Int) - (1 : Int)) ∧ ((((x1).length : Nat) : Int) - (1 : Int)) ≤ 9223372036854775807) <|
  f55_L0 FUEL (0, ((((x1).length : Nat) : Int) - (1 : Int)), x1)
set_option maxRecDepth 100000 in
theorem f55_ok  (x1 : List (BitVec 16)) (r : List (BitVec 16)) (h : f55 x1 = some r)  : Spec1 Tryz.prog 55 [] [2000] [(2000, bL 30 1 eW 0#16 x1)] [.own 2000] (.tup []) [(2000, bL 30 1 eW 0#16 r)] := by
  unfold f55 at h
  refine Spec1.body 0 _ _ Tryz.func55 rfl Tryz.ntmps55 rfl rfl ?_
  refine AWp.seq ?_
  obtain ⟨ob0, h⟩ := chk_some h
  refine q2rr [] [] ⟨28, [(0, .own 2000), (2, .i (0 : Int)), (3, .i ((lZ x1) - (1 : Int)))], [(2000, q2bW_30 x1)], [2000], 0⟩ (an1 ob0) ?_
  refine thenQ_normal ?_
  refine AWp.block ?_
  refine AWp.loopL (α := Nat × (Nat × Int × List (BitVec 16))) (fun x => match x with | (_, n2, i3, l4) => ⟨28, (f55z1 n2 i3), [(2000, q2bW_30 l4)], [2000], 0⟩) (fun x => f55_L0 x.1 x.2 = some r) (fun x => x.1) (FUEL, 0, ((lZ x1) - (1 : Int)), x1) (Le.mk (s' := ⟨28, [(0, .own 2000), (2, .i (0 : Int)), (3, .i ((lZ x1) - (1 : Int)))], [(2000, q2bW_30 x1)], [2000], 0⟩) rfl rfl ⟨.refl _, .refl _, .refl _, trivial⟩ ⟨⟨_, rfl, .refl _⟩, trivial⟩) h ?_
  rintro ⟨k0, n2, i3, l4⟩ h
  cases k0 with
  | zero => exact nomatch (show (none : Option (List (BitVec 16))) = some r from h)
  | succ k0 =>
  obtain ⟨C0, hC0⟩ : ∃ C, C = f55_L0 k0 := ⟨_, rfl⟩
  replace h := (f55_L0.eq_2 ..).symm.trans h
  try rw [← hC0] at h
  refine AWp.seq ?_
  refine q2rq [] [] ⟨28, [(0, .own 2000), (2, .i (n2 : Int)), (3, .i i3), (9, .bool (decide ((n2 : Int) < i3)))], [(2000, q2bW_30 l4)], [2000], 0⟩ trivial ?_
  refine AWp.cond (b := (decide ((n2 : Int) < i3))) (by kernel_rfl) (fun hc1 => ?_) (fun hc1 => ?_)
  ·
    replace h := ite_tb hc1 h
    refine AWp.skip ?_
    refine thenQ_normal ?_
    refine AWp.seq ?_
    refine AWp.block ?_
    obtain ⟨ob1, ob2, ob3p, h⟩ := ck3 h
    have ob3 : 0 ≤ (n2 : Int) ∧ (n2 : Int) < (((l4).length : Nat) : Int) := ⟨by omega, ob3p⟩
    obtain ⟨ob4, ob5p, h⟩ := ck2 h
    have ob5 : 0 ≤ (n2 : Int) ∧ (n2 : Int) < (((l4).length : Nat) : Int) := ⟨by omega, ob5p⟩
    obtain ⟨ob6, ob7, ob8, h⟩ := ck3 h
    refine q2rr [] [] ⟨28, (f55z1 n2 i3), [(2000, .rows 30 1 (l4).length (updF (updF (encF eW 0#16 l4) n2 0 [.b16 (l4.getD ((i3).toNat) 0#16)]) ((i3).toNat) 0 [.b16 (l4.getD n2 0#16)]))], [2000], 0⟩ (ac6 ob1 ob2 ob3 ob4 ob5 ob6 (an2 ob7 ob8)) ?_
    refine blockQ_normal ?_
    refine thenQ_normal ?_
    refine AWp.le (Le.mk (s' := ⟨28, (f55z1 n2 i3), (f55z0 l4 n2 i3), [2000], 0⟩) rfl rfl ⟨.refl _, .refl _, .refl _, trivial⟩ ⟨⟨_, rfl, (BLe.of (RL.set (l4.getD n2 0#16) (RL.set (l4.getD ((i3).toNat) 0#16) (RL.self _) (by intro j hj; match j, hj with | 0, _ => rfl)) (by intro j hj; match j, hj with | 0, _ => rfl)))⟩, trivial⟩) ?_
    obtain ⟨ob9p, h⟩ := chk_some h
    have ob9 : -9223372036854775808 ≤ ((n2 : Int) + (1 : Int)) ∧ ((n2 : Int) + (1 : Int)) ≤ 9223372036854775807 := ⟨by omega, ob9p⟩
    obtain ⟨ob10, h⟩ := chk_some h
    refine q2rr [] [] ⟨28, [(0, .own 2000), (2, .i (((n2 + 1) : Nat) : Int)), (3, .i (i3 - (1 : Int)))], (f55z0 l4 n2 i3), [2000], 0⟩ (an2 ob9 ob10) ?_
    rw [hC0] at h
    exact loopQ_normal (_, (n2 + 1), (i3 - (1 : Int)), ((l4.set n2 (l4.getD ((i3).toNat) 0#16)).set ((i3).toNat) (l4.getD n2 0#16))) (Le.mk rfl rfl ⟨.refl _, .refl _, .refl _, trivial⟩ ⟨⟨_, rfl, .refl _⟩, trivial⟩) h (Nat.lt_succ_self _)
  ·
    replace h := ite_fb hc1 h
    refine AWp.exit ?_
    refine thenQ_exit ?_
    refine thenQ_exit ?_
    refine blockQ_same ?_
    have hret := Option.some.inj h
    subst hret
    exact bodyQ_le (Le.mk (s' := ⟨28, [], [(2000, q2bW_30 l4)], [2000], 0⟩) rfl rfl trivial ⟨⟨_, rfl, .refl _⟩, trivial⟩) (bodyQ_normal _ rfl ⟨rfl, rfl⟩ rfl)
def f34_Y70001 : (List (BitVec 16) × List (BitVec 16)) → (Int × BitVec 16) → Option (Nat × (List (BitVec 16) × List (BitVec 16)))
  | (l5, l4), (x6, x7) =>
    (f50b l5 x7).bind fun (r8 : Bool × BitVec 16) =>
    if (!r8.1) then (
    chk (((l5).length + 1) * 2 ≤ 140737488355328) <|
    some (0, ((l5 ++ [r8.2]), l4))
    ) else (
    some (0, (l5, l4))
    )
def f34 (x1 : List (BitVec 16)) : Option (List (BitVec 16)) :=
  (f48 x1).bind fun (r2 : List (BitVec 16)) =>
  (f52 r2).bind fun (r3 : List (BitVec 16)) =>
  (f73 f34_Y70001 [] r3).bind fun (r9 : Nat × List (BitVec 16) × List (BitVec 16)) =>
  chk (r9.1 ≠ 1) <|
  if r9.1 = 0 then (
  (f55 r9.2.1).bind fun (r10 : List (BitVec 16)) =>
  some r10
  ) else (
  none
  )
set_option maxRecDepth 100000 in
theorem f34_ok  (x1 : List (BitVec 16)) (r : List (BitVec 16)) (h : f34 x1 = some r)  : Spec1 Tryz.prog 34 [] [] [] [vL 1 eW 0#16 x1] (.own 3000) [(3000, bL 30 1 eW 0#16 r)] := by
  unfold f34 at h
  refine Spec1.body 0 _ _ Tryz.func34 rfl Tryz.ntmps34 rfl rfl ?_
  refine q2rq [] [] ⟨22, [(0, q2aW x1)], [], [], 0⟩ trivial ?_
  refine q2rq [] [] ⟨22, [(0, q2aW x1), (3, .ptr 3 0)], [(3, .cells 22 [.nils])], [], 0⟩ trivial ?_
  refine AWp.seq ?_
  refine AWp.seq ?_
  obtain ⟨r2, hr2, h⟩ := bind_ok h
  obtain ⟨r3, hr3, h⟩ := bind_ok h
  refine q2rr [] [(1, ⟨[q2aW x1], [], [], [(6001, q2bW_30 r2)], .own 6001, [6001], [], []⟩), (2, ⟨[.own 6001], [6001], [], [(6002, .cells 22 [q2aW r3])], .fn (.func 73) [.ptr 6002 0], [6002], [], []⟩)] ⟨22, [(3, .ptr 3 0), (8, .fn (.func 73) [.ptr 6002 0])], [(3, .cells 22 [.nils]), (6002, .cells 22 [q2aW r3])], [], 0⟩ (an2 (cpT (Spec1.ren (swapN 3000 6001) (swapN_inv 3000 6001) rfl (f48_ok _ _ hr2))) (show (callP Tryz.prog true 52 [] [] [(6001, q2bW_30 r2)] [] [] [.own 6001] [.own 6001] (.fn (.func 73) [.ptr 6002 0]) [(6002, .cells 22 [q2aW r3])]) from ⟨fun _ => (Spec1.pre (Spec1.ren (swapN 3500 6002) (swapN_inv 3500 6002) rfl (f52_ok _ _ hr3)) rfl rfl rfl (Le.trans (Le.freeze 6001 rfl rfl) (Le.mk (s' := ⟨1, [(0, q2aW r2)], [], [], 0⟩) rfl rfl ⟨.refl _, trivial⟩ trivial))), fun _ => ⟨.refl _, trivial⟩, .inl rfl⟩)) ?_
  refine thenQ_normal ?_
  refine AWp.block ?_
  refine AWp.le (Le.trans (Le.trans (Le.nilOwnC 3 0 5800 30 1 (encF eW 0#16 []) rfl rfl rfl) (Le.mk (s' := ⟨22, [(3, .ptr 3 0), (8, .fn (.func 73) [.ptr 6002 0])], [(3, .cells 22 [.own 5800]), (6002, .cells 22 [q2aW r3]), (5800, q2bW_30 [])], [], 0⟩) rfl rfl ⟨.refl _, .refl _, trivial⟩ ⟨⟨_, rfl, .refl _⟩, ⟨_, rfl, .refl _⟩, ⟨_, rfl, .refl _⟩, trivial⟩)) (Le.mk (s' := ⟨22, [(3, .ptr 3 0), (8, .fn (.func 73) [.ptr 6002 0])], [(3, .cells 22 [.own 5800]), (5800, q2bW_30 []), (6002, .cells 22 [q2aW r3])], [], 0⟩) rfl rfl ⟨.refl _, .refl _, trivial⟩ ⟨⟨_, rfl, .refl _⟩, ⟨_, rfl, .refl _⟩, ⟨_, rfl, .refl _⟩, trivial⟩)) ?_
  obtain ⟨r9, hr9, h⟩ := bind_ok h
  obtain ⟨hkr9, h⟩ := chk_some h
  refine AWp.rangeFunc (s := ⟨22, [(3, .ptr 3 0), (8, .fn (.func 73) [.ptr 6002 0])], [(3, .cells 22 [.own 5800]), (5800, q2bW_30 []), (6002, .cells 22 [q2aW r3])], [], 0⟩) 70001 [3] [3] [] 73 [.ptr 6002 0] ⟨[.own 70001, .ptr 6002 0], [3, 5800, 6002], [70001, 3, 6002], [], .tup [], [5800], [], []⟩ r9.1 [(3, .cells 22 [.own 5800]), (5800, q2bW_30 r9.2.1), (6002, .cells 22 [q2aW r9.2.2])] ⟨22, [(3, .ptr 3 0), (8, .fn (.func 73) [.ptr 6002 0])], [(3, .cells 22 [.own 5800]), (5800, q2bW_30 r9.2.1), (6002, .cells 22 [q2aW r9.2.2])], [], 0⟩ rfl (by kernel_rfl) (by kernel_rfl) (fun g0 => ?_) (fun C => (by kernel_rfl)) (by kernel_rfl) (by kernel_rfl) (by kernel_rfl) (by kernel_rfl) hkr9 (by kernel_rfl) ?_ ?_
  ·
    refine ⟨fun _ => (f73_ok _ f34_Y70001 [] r3 r9 hr9 ?_), fun _ => ⟨.refl _, .refl _, trivial⟩, .inl rfl⟩
    clear h
    rintro ⟨l5, l4⟩ ⟨x6, x7⟩ rY70001 h
    replace h := (f34_Y70001.eq_1 ..).symm.trans h
    refine YSpec.body 0 rfl (of_decide_eq_true (by kernel_rfl)) (of_decide_eq_true (by kernel_rfl)) (within_tget (by kernel_rfl)) (by kernel_rfl) (by kernel_rfl) (by kernel_rfl) (by kernel_rfl) ?_
    refine AWp.le (Le.mk (s' := ⟨22, [(9, .i x6), (10, .b16 x7), (3, .ptr 3 0)], [(3, .cells 22 [.own 5800]), (5800, q2bW_30 l5), (6002, .cells 22 [q2aW l4])], [3, 6002], 0⟩) rfl rfl ⟨.refl _, .refl _, .refl _, trivial⟩ ⟨⟨_, rfl, .refl _⟩, ⟨_, rfl, .refl _⟩, ⟨_, rfl, .refl _⟩, trivial⟩) ?_
    refine q2rr [] [] ⟨22, [(3, .ptr 3 0), (5, .ptr 5 0)], [(3, .cells 22 [.own 5800]), (5, .cells 30 [.b16 x7]), (5800, q2bW_30 l5), (6002, .cells 22 [q2aW l4])], [3, 6002], 0⟩ (an1 trivial) ?_
    refine ⟨rfl, rfl, ?_⟩
    refine AWp.block ?_
    refine AWp.seq ?_
    obtain ⟨r8, hr8, h⟩ := bind_ok h
    refine q2rr [] [(2, ⟨[q2aW l5, .fn (.func 53) [.ptr 5 0]], [5], [5], [(5, .cells 30 [.b16 r8.2])], .bool r8.1, [], [5800], []⟩)] ⟨22, [(3, .ptr 3 0), (5, .ptr 5 0), (14, .bool (!r8.1))], [(3, .cells 22 [.own 5800]), (5, .cells 30 [.b16 r8.2]), (5800, q2bW_30 l5), (6002, .cells 22 [q2aW l4])], [3, 6002], 0⟩ (an1 (cpL (c := true) [(5800, q2bW_30 l5)] [5800] [.own 5800, .fn (.func 53) [.ptr 5 0]] (fun _ => (Spec1.ren (swapN 2000 5) (swapN_inv 2000 5) rfl (f50b_ok _ _ _ hr8))) (fun _ => ⟨.refl _, .refl _, trivial⟩) (.inr ⟨rfl, ⟨rfl, trivial⟩⟩))) ?_
    refine thenQ_normal ?_
    refine AWp.cond (b := (!r8.1)) (by kernel_rfl) (fun hc1 => ?_) (fun hc1 => ?_)
    ·
      replace h := ite_tb hc1 h
      obtain ⟨ob0, h⟩ := chk_some h
      refine q2rr [] [] ⟨22, [], [(3, .cells 22 [.own 5800]), (5800, .rows 30 1 ((l5).length + 1) (appF (l5).length (encF eW 0#16 l5) (lstF 1 [.b16 r8.2]))), (6002, .cells 22 [q2aW l4])], [3, 6002], 0⟩ (an2 ob0 trivial) ?_
      refine blockQ_normal ?_
      have hret := Option.some.inj h
      subst hret
      exact ⟨_, (Le.trans (Le.mk (s' := ⟨22, [], [(3, .cells 22 [.own 5800]), (5800, q2bW_30 (l5 ++ [r8.2])), (6002, .cells 22 [q2aW l4])], [3, 6002], 0⟩) rfl rfl trivial ⟨⟨_, rfl, .refl _⟩, ⟨_, rfl, (BLe.of (RL.app (RL.self _) (RL.lst (enc := eW) [r8.2] rfl rfl (fun _ => rfl))))⟩, ⟨_, rfl, .refl _⟩, trivial⟩) (Le.mk (s' := ⟨22, [], [(3, .cells 22 [.own 5800]), (5800, q2bW_30 (l5 ++ [r8.2])), (6002, .cells 22 [q2aW l4])], [3, 6002], 0⟩) rfl rfl trivial ⟨⟨_, rfl, .refl _⟩, ⟨_, rfl, .refl _⟩, ⟨_, rfl, .refl _⟩, trivial⟩)), rfl, rfl, .inl ⟨rfl, rfl⟩⟩
    ·
      replace h := ite_fb hc1 h
      refine AWp.skip ?_
      refine blockQ_normal ?_
      have hret := Option.some.inj h
      subst hret
      exact ⟨_, (Le.mk (s' := ⟨22, [], [(3, .cells 22 [.own 5800]), (5800, q2bW_30 l5), (6002, .cells 22 [q2aW l4])], [3, 6002], 0⟩) rfl rfl trivial ⟨⟨_, rfl, .refl _⟩, ⟨_, rfl, .refl _⟩, ⟨_, rfl, .refl _⟩, trivial⟩), rfl, rfl, .inl ⟨rfl, rfl⟩⟩
  ·
    intro hk0
    replace h := ite_t hk0 h
    refine blockQ_normal ?_
    refine thenQ_normal ?_
    refine AWp.seq ?_
    obtain ⟨r10, hr10, h⟩ := bind_ok h
    refine q2rr [] [(1, ⟨[.own 5800], [5800], [5800], [(5800, q2bW_30 r10)], .tup [], [], [], []⟩)] ⟨22, [(3, .ptr 3 0)], [(3, .cells 22 [.own 5800]), (5800, q2bW_30 r10)], [], 0⟩ (an1 (cpT (Spec1.ren (swapN 2000 5800) (swapN_inv 2000 5800) rfl (f55_ok _ _ hr10)))) ?_
    refine thenQ_normal ?_
    refine q2rq [] [] ⟨22, [(2, .own 5800)], [(5800, q2bW_30 r10)], [], 0⟩ trivial ?_
    refine AWp.le (Le.trans (Le.ren (swapN 5800 3000) (swapN_inv 5800 3000) rfl) (Le.mk (s' := ⟨22, [(2, .own 3000)], [(3000, q2bW_30 r10)], [], 0⟩) rfl rfl ⟨.refl _, trivial⟩ ⟨⟨_, rfl, .refl _⟩, trivial⟩)) ?_
    have hret := Option.some.inj h
    subst hret
    refine AWp.le (Le.mk (s' := ⟨22, [(2, .own 3000)], [(3000, q2bW_30 r10)], [], 0⟩) rfl rfl ⟨.refl _, trivial⟩ ⟨⟨_, rfl, .refl _⟩, trivial⟩) ?_
    refine AWp.ret ?_
    exact bodyQ_ret _ rfl ⟨rfl, rfl⟩ rfl
  ·
    intro j hkj
    replace h := ite_f (by omega) h
    exact nomatch (show (none : Option (List (BitVec 16))) = some r from h)
def f33a (x1 : List (BitVec 16)) : Option (List (BitVec 16) × Int) :=
  (f50a x1).bind fun (r2 : Bool) =>
  if r2 then (
  some ([], (7 : Int))
  ) else (
  (f34 x1).bind fun (r3 : List (BitVec 16)) =>
  (f30 r3).bind fun (r4 : List (BitVec 16) × Int) =>
  some (r4.1, r4.2)
  )
set_option maxRecDepth 100000 in
theorem f33a_ok  (x1 : List (BitVec 16)) (r : List (BitVec 16) × Int) (h : f33a x1 = some r)  : Spec1 Tryz.prog 33 [] [] [] [vL 1 eW 0#16 x1, .fn (.func 34) []] (.tup [vL 1 eW 0#16 r.1, .int .i64 r.2]) [] := by
  unfold f33a at h
  refine Spec1.body 0 _ _ Tryz.func33 rfl Tryz.ntmps33 rfl rfl ?_
  refine q2rq [] [] ⟨14, [(0, q2aW x1), (1, .fn (.func 34) [])], [], [], 0⟩ trivial ?_
  refine AWp.seq ?_
  refine AWp.seq ?_
  obtain ⟨r2, hr2, h⟩ := bind_ok h
  refine q2rr [] [(1, ⟨[q2aW x1, .fn (.func 51) []], [], [], [], .bool r2, [], [], []⟩)] ⟨14, [(0, q2aW x1), (1, .fn (.func 34) []), (7, .bool r2)], [], [], 0⟩ (an1 (cpT (f50a_ok _ _ hr2))) ?_
  refine thenQ_normal ?_
  refine AWp.cond (b := r2) (by kernel_rfl) (fun hc1 => ?_) (fun hc1 => ?_)
  ·
    replace h := ite_tb hc1 h
    refine q2rq [] [] ⟨14, [(4, .nils), (5, .i (7 : Int))], [], [], 0⟩ trivial ?_
    have hret := Option.some.inj h
    subst hret
    refine AWp.le (Le.mk (s' := ⟨14, [(4, q2aW []), (5, .i (7 : Int))], [], [], 0⟩) rfl rfl ⟨.nilL, .refl _, trivial⟩ trivial) ?_
    refine AWp.ret ?_
    refine thenQ_ret ?_
    exact bodyQ_ret _ rfl ⟨rfl, rfl⟩ rfl
  ·
    replace h := ite_fb hc1 h
    refine AWp.skip ?_
    refine thenQ_normal ?_
    refine AWp.seq ?_
    obtain ⟨r3, hr3, h⟩ := bind_ok h
    obtain ⟨r4, hr4, h⟩ := bind_ok h
    refine q2rr [] [(2, ⟨[q2aW x1], [], [], [(6001, q2bW_30 r3)], .own 6001, [6001], [], []⟩), (3, ⟨[.own 6001], [6001], [], [], .tup [q2aW r4.1, .i r4.2], [], [], []⟩)] ⟨14, [(4, q2aW r4.1), (5, .i r4.2)], [], [], 0⟩ (an2 (cpT (Spec1.ren (swapN 3000 6001) (swapN_inv 3000 6001) rfl (f34_ok _ _ hr3))) (show (callP Tryz.prog true 30 [] [] [(6001, q2bW_30 r3)] [] [] [.own 6001] [.own 6001] (.tup [q2aW r4.1, .i r4.2]) []) from ⟨fun _ => (Spec1.pre (f30_ok _ _ hr4) rfl rfl rfl (Le.trans (Le.freeze 6001 rfl rfl) (Le.mk (s' := ⟨1, [(0, q2aW r3)], [], [], 0⟩) rfl rfl ⟨.refl _, trivial⟩ trivial))), fun _ => ⟨.refl _, trivial⟩, .inl rfl⟩)) ?_
    refine thenQ_normal ?_
    have hret := Option.some.inj h
    subst hret
    refine AWp.le (Le.mk (s' := ⟨14, [(4, q2aW r4.1), (5, .i r4.2)], [], [], 0⟩) rfl rfl ⟨.refl _, .refl _, trivial⟩ trivial) ?_
    refine AWp.ret ?_
    exact bodyQ_ret _ rfl ⟨rfl, rfl⟩ rfl
def f16 (x1 : List (BitVec 16)) : Option (List (BitVec 16) × Int) :=
  (f33a x1).bind fun (r2 : List (BitVec 16) × Int) =>
  some (r2.1, r2.2)
set_option maxRecDepth 100000 in
theorem f16_ok  (x1 : List (BitVec 16)) (r : List (BitVec 16) × Int) (h : f16 x1 = some r)  : Spec1 Tryz.prog 16 [] [] [] [vL 1 eW 0#16 x1] (.tup [vL 1 eW 0#16 r.1, .int .i64 r.2]) [] := by
  unfold f16 at h
  refine Spec1.body 0 _ _ Tryz.func16 rfl Tryz.ntmps16 rfl rfl ?_
  refine q2rq [] [] ⟨8, [(0, q2aW x1)], [], [], 0⟩ trivial ?_
  refine AWp.seq ?_
  obtain ⟨r2, hr2, h⟩ := bind_ok h
  refine q2rr [] [(1, ⟨[q2aW x1, .fn (.func 34) []], [], [], [], .tup [q2aW r2.1, .i r2.2], [], [], []⟩)] ⟨8, [(2, q2aW r2.1), (3, .i r2.2)], [], [], 0⟩ (an1 (cpT (f33a_ok _ _ hr2))) ?_
  refine thenQ_normal ?_
  have hret := Option.some.inj h
  subst hret
  refine AWp.le (Le.mk (s' := ⟨8, [(2, q2aW r2.1), (3, .i r2.2)], [], [], 0⟩) rfl rfl ⟨.refl _, .refl _, trivial⟩ trivial) ?_
  refine AWp.ret ?_
  exact bodyQ_ret _ rfl ⟨rfl, rfl⟩ rfl
def f8_L0 (x1 : List (BitVec 16)) (x2 : List (BitVec 16)) (K1 : Unit → Option Bool) : Nat → Nat → Option Bool
  | 0, _ => none
  | k + 1, n3 =>
    if (decide ((n3 : Int) < (((x1).length : Nat) : Int))) then (
    chk ((n3 : Int) < (((x1).length : Nat) : Int)) <|
    chk ((n3 : Int) < (((x2).length : Nat) : Int)) <|
    if (!((x1.getD n3 0#16) == (x2.getD n3 0#16))) then (
    some false
    ) else (
    chk (((n3 : Int) + (1 : Int)) ≤ 9223372036854775807) <|
    (f8_L0 x1 x2 K1 k) (n3 + 1)
    )
    ) else (
    K1 ()
    )
def f8 (x1 : List (BitVec 16)) (x2 : List (BitVec 16)) : Option Bool :=
  if ((((x1).length : Nat) : Int) != (((x2).length : Nat) : Int)) then (
  some false
  ) else (
  jn (fun (_ : Unit) =>
  some true
  ) fun (K1 : Unit → Option Bool) =>
  f8_L0 x1 x2 K1 FUEL 0
  )
set_option maxRecDepth 100000 in
theorem f8_ok  (x1 : List (BitVec 16)) (x2 : List (BitVec 16)) (r : Bool) (h : f8 x1 x2 = some r)  : Spec1 Tryz.prog 8 [] [] [] [vL 1 eW 0#16 x1, vL 1 eW 0#16 x2] (.bool r) [] := by
  unfold f8 at h
  refine Spec1.body 0 _ _ Tryz.func8 rfl Tryz.ntmps8 rfl rfl ?_
  refine q2rq [] [] ⟨26, [(0, q2aW x1), (1, q2aW x2)], [], [], 0⟩ trivial ?_
  refine AWp.seq ?_
  refine q2rq [] [] ⟨26, [(0, q2aW x1), (1, q2aW x2), (10, .bool ((lZ x1) != (lZ x2)))], [], [], 0⟩ trivial ?_
  refine AWp.cond (b := ((lZ x1) != (lZ x2))) (by kernel_rfl) (fun hc1 => ?_) (fun hc1 => ?_)
  ·
    replace h := ite_tb hc1 h
    refine q2rq [] [] ⟨26, [(4, .bool false)], [], [], 0⟩ trivial ?_
    have hret := Option.some.inj h
    subst hret
    refine AWp.le (Le.mk (s' := ⟨26, [(4, .bool false)], [], [], 0⟩) rfl rfl ⟨.refl _, trivial⟩ trivial) ?_
    refine AWp.ret ?_
    refine thenQ_ret ?_
    exact bodyQ_ret _ rfl ⟨rfl, rfl⟩ rfl
  ·
    replace h := ite_fb hc1 h
    refine AWp.skip ?_
    refine thenQ_normal ?_
    obtain ⟨K1, hK1, h⟩ := jn_some h
    refine AWp.join (α := Unit) (fun (x : Unit) => match x with | () => ⟨26, [], [], [], 0⟩) (fun x => K1 x = some r) ?_ ?_
    ·
      refine q2rq [] [] ⟨26, [(0, q2aW x1), (1, q2aW x2), (12, .i (lZ x1)), (13, .i (0 : Int))], [], [], 0⟩ trivial ?_
      refine AWp.block ?_
      refine AWp.loopL (α := Nat × Nat) (fun x => match x with | (_, n3) => ⟨26, [(0, q2aW x1), (1, q2aW x2), (12, .i (lZ x1)), (13, .i (n3 : Int))], [], [], 0⟩) (fun x => f8_L0 x1 x2 K1 x.1 x.2 = some r) (fun x => x.1) (FUEL, 0) (Le.mk (s' := ⟨26, [(0, q2aW x1), (1, q2aW x2), (12, .i (lZ x1)), (13, .i (0 : Int))], [], [], 0⟩) rfl rfl ⟨.refl _, .refl _, .refl _, .refl _, trivial⟩ trivial) h ?_
      rintro ⟨k0, n3⟩ h
      cases k0 with
      | zero => exact nomatch (show (none : Option Bool) = some r from h)
      | succ k0 =>
      obtain ⟨C0, hC0⟩ : ∃ C, C = f8_L0 x1 x2 K1 k0 := ⟨_, rfl⟩
      replace h := (f8_L0.eq_2 ..).symm.trans h
      try rw [← hC0] at h
      refine q2rq [] [] ⟨26, [(0, q2aW x1), (1, q2aW x2), (12, .i (lZ x1)), (13, .i (n3 : Int)), (14, .bool (decide ((n3 : Int) < (lZ x1))))], [], [], 0⟩ trivial ?_
      refine AWp.seq ?_
      refine AWp.cond (b := (decide ((n3 : Int) < (lZ x1)))) (by kernel_rfl) (fun hc2 => ?_) (fun hc2 => ?_)
      ·
        replace h := ite_tb hc2 h
        refine AWp.skip ?_
        refine thenQ_normal ?_
        refine AWp.seq ?_
        refine AWp.block ?_
        refine q2rq [] [] ⟨26, [(0, q2aW x1), (1, q2aW x2), (5, .i (n3 : Int)), (12, .i (lZ x1)), (13, .i (n3 : Int))], [], [], 0⟩ trivial ?_
        refine AWp.seq ?_
        obtain ⟨ob0p, h⟩ := chk_some h
        have ob0 : 0 ≤ (n3 : Int) ∧ (n3 : Int) < (((x1).length : Nat) : Int) := ⟨by omega, ob0p⟩
        obtain ⟨ob1p, h⟩ := chk_some h
        have ob1 : 0 ≤ (n3 : Int) ∧ (n3 : Int) < (((x2).length : Nat) : Int) := ⟨by omega, ob1p⟩
        refine q2rr [] [] ⟨26, [(0, q2aW x1), (1, q2aW x2), (12, .i (lZ x1)), (13, .i (n3 : Int)), (24, .bool (!((x1.getD n3 0#16) == (x2.getD n3 0#16))))], [], [], 0⟩ (an2 ob0 ob1) ?_
        refine thenQ_normal ?_
        refine AWp.cond (b := (!((x1.getD n3 0#16) == (x2.getD n3 0#16)))) (by kernel_rfl) (fun hc3 => ?_) (fun hc3 => ?_)
        ·
          replace h := ite_tb hc3 h
          refine q2rq [] [] ⟨26, [(4, .bool false)], [], [], 0⟩ trivial ?_
          have hret := Option.some.inj h
          subst hret
          refine AWp.le (Le.mk (s' := ⟨26, [(4, .bool false)], [], [], 0⟩) rfl rfl ⟨.refl _, trivial⟩ trivial) ?_
          refine AWp.ret ?_
          refine blockQ_ret ?_
          refine thenQ_ret ?_
          refine thenQ_ret ?_
          refine blockQ_ret ?_
          refine joinQ_ret ?_
          exact bodyQ_ret _ rfl ⟨rfl, rfl⟩ rfl
        ·
          replace h := ite_fb hc3 h
          refine AWp.skip ?_
          refine blockQ_normal ?_
          refine thenQ_normal ?_
          obtain ⟨ob2p, h⟩ := chk_some h
          have ob2 : -9223372036854775808 ≤ ((n3 : Int) + (1 : Int)) ∧ ((n3 : Int) + (1 : Int)) ≤ 9223372036854775807 := ⟨by omega, ob2p⟩
          refine q2rr [] [] ⟨26, [(0, q2aW x1), (1, q2aW x2), (12, .i (lZ x1)), (13, .i (((n3 + 1) : Nat) : Int))], [], [], 0⟩ (an1 ob2) ?_
          rw [hC0] at h
          exact loopQ_normal (_, (n3 + 1)) (Le.mk rfl rfl ⟨.refl _, .refl _, .refl _, .refl _, trivial⟩ trivial) h (Nat.lt_succ_self _)
      ·
        replace h := ite_fb hc2 h
        refine AWp.exit ?_
        refine thenQ_exit ?_
        refine thenQ_exit ?_
        refine blockQ_same ?_
        exact joinQ_normal () (Le.mk rfl rfl trivial trivial) h
    ·
      rintro ⟨⟩ h
      replace h := (congrFun hK1 _).symm.trans h
      refine q2rq [] [] ⟨26, [(4, .bool true)], [], [], 0⟩ trivial ?_
      have hret := Option.some.inj h
      subst hret
      refine AWp.le (Le.mk (s' := ⟨26, [(4, .bool true)], [], [], 0⟩) rfl rfl ⟨.refl _, trivial⟩ trivial) ?_
      refine AWp.ret ?_
      exact bodyQ_ret _ rfl ⟨rfl, rfl⟩ rfl
def f65 (x1 : BitVec 16) : Option Int :=
  if (x1 == (BitVec.ofInt 16 0)) then (
  some (16 : Int)
  ) else (
  chk (27 ≤ IntKind.bits .u32) <|
  chk (0 ≤ ((IntKind.wrap .u32 ((((x1 &&& (-x1)).toNat : Nat) : Int) * (125613361 : Int))) / 2 ^ 27) ∧ ((IntKind.wrap .u32 ((((x1 &&& (-x1)).toNat : Nat) : Int) * (125613361 : Int))) / 2 ^ 27) < 32) <|
  chk ((((T1.getD (0 + ((((IntKind.wrap .u32 ((((x1 &&& (-x1)).toNat : Nat) : Int) * (125613361 : Int))) / 2 ^ 27)).toNat) * 1 + 0) 0) : Nat) : Int) ≤ 9223372036854775807) <|
  some (((T1.getD (0 + ((((IntKind.wrap .u32 ((((x1 &&& (-x1)).toNat : Nat) : Int) * (125613361 : Int))) / 2 ^ 27)).toNat) * 1 + 0) 0) : Nat) : Int)
  )
set_option maxRecDepth 100000 in
theorem f65_ok  (x1 : BitVec 16) (r : Int) (h : f65 x1 = some r)  : Spec1 Tryz.prog 65 [(1, .elem 32 1 T1F 0 0)] [] [] [.b16 x1] (.int .i64 r) [] := by
  unfold f65 at h
  refine Spec1.body 0 _ _ Tryz.func65 rfl Tryz.ntmps65 rfl rfl ?_
  refine q2rq [10] [] ⟨15, [(0, .b16 x1), (1000001, .elem 32 1 T1F 0 0)], [], [], 0⟩ trivial ?_
  refine AWp.seq ?_
  refine q2rq [10] [] ⟨15, [(0, .b16 x1), (4, .bool (x1 == (q2w16 0))), (1000001, .elem 32 1 T1F 0 0)], [], [], 0⟩ trivial ?_
  refine AWp.cond (b := (x1 == (q2w16 0))) (by kernel_rfl) (fun hc1 => ?_) (fun hc1 => ?_)
  ·
    replace h := ite_tb hc1 h
    refine q2rq [10] [] ⟨15, [(2, .i (16 : Int)), (1000001, .elem 32 1 T1F 0 0)], [], [], 0⟩ trivial ?_
    have hret := Option.some.inj h
    subst hret
    refine AWp.le (Le.mk (s' := ⟨15, [(2, .i (16 : Int))], [], [], 0⟩) rfl rfl ⟨.refl _, trivial⟩ trivial) ?_
    refine AWp.ret ?_
    refine thenQ_ret ?_
    exact bodyQ_ret _ rfl ⟨rfl, rfl⟩ rfl
  ·
    replace h := ite_fb hc1 h
    refine AWp.skip ?_
    refine thenQ_normal ?_
    refine AWp.seq ?_
    have ob0 : 0 ≤ (((x1 &&& (-x1)).toNat : Nat) : Int) ∧ (((x1 &&& (-x1)).toNat : Nat) : Int) ≤ 4294967295 := ⟨by omega, by (have := ((x1 &&& (-x1)) : BitVec 16).isLt; omega)⟩
    obtain ⟨ob1p, h⟩ := chk_some h
    have ob1 : 0 ≤ (27 : Int) ∧ 27 ≤ IntKind.bits .u32 := ⟨by omega, ob1p⟩
    obtain ⟨ob2, ob3p, h⟩ := ck2 h
    have ob3 : -9223372036854775808 ≤ (((T1.getD (0 + ((((IntKind.wrap .u32 ((((x1 &&& (-x1)).toNat : Nat) : Int) * (125613361 : Int))) / 2 ^ 27)).toNat) * 1 + 0) 0) : Nat) : Int) ∧ (((T1.getD (0 + ((((IntKind.wrap .u32 ((((x1 &&& (-x1)).toNat : Nat) : Int) * (125613361 : Int))) / 2 ^ 27)).toNat) * 1 + 0) 0) : Nat) : Int) ≤ 9223372036854775807 := ⟨by omega, ob3p⟩
    refine q2rr [10] [] ⟨15, [(2, .i (((T1.getD (0 + ((((IntKind.wrap .u32 ((((x1 &&& (-x1)).toNat : Nat) : Int) * (125613361 : Int))) / 2 ^ 27)).toNat) * 1 + 0) 0) : Nat) : Int)), (1000001, .elem 32 1 T1F 0 0)], [], [], 0⟩ (an6 trivial ob0 trivial ob1 ob2 ob3) ?_
    refine thenQ_normal ?_
    have hret := Option.some.inj h
    subst hret
    refine AWp.le (Le.mk (s' := ⟨15, [(2, .i (((T1.getD (0 + ((((IntKind.wrap .u32 ((((x1 &&& (-x1)).toNat : Nat) : Int) * (125613361 : Int))) / 2 ^ 27)).toNat) * 1 + 0) 0) : Nat) : Int))], [], [], 0⟩) rfl rfl ⟨.refl _, trivial⟩ trivial) ?_
    refine AWp.ret ?_
    exact bodyQ_ret _ rfl ⟨rfl, rfl⟩ rfl
def f42_L0 (K1 : (List Int) → Option (List Int)) : Nat → (BitVec 16 × List Int) → Option (List Int)
  | 0, _ => none
  | k + 1, (w2, l3) =>
    if (!(w2 == (BitVec.ofInt 16 0))) then (
    (f65 w2).bind fun (r4 : Int) =>
    chk (((l3).length + 1) * 8 ≤ 140737488355328) <|
    (f42_L0 K1 k) ((w2 &&& (w2 - (BitVec.ofInt 16 1))), (l3 ++ [r4]))
    ) else (
    K1 l3
    )
def f42 (x1 : BitVec 16) : Option (List Int) :=
  jn (fun (l5 : List Int) =>
  some l5
  ) fun (K1 : (List Int) → Option (List Int)) =>
  f42_L0 K1 FUEL (x1, [])
set_option maxRecDepth 100000 in
theorem f42_ok  (x1 : BitVec 16) (r : List Int) (h : f42 x1 = some r)  : Spec1 Tryz.prog 42 [(1, .elem 32 1 T1F 0 0)] [] [] [.b16 x1] (.own 3000) [(3000, bL 3 1 eI 0 r)] := by
  unfold f42 at h
  refine Spec1.body 0 _ _ Tryz.func42 rfl Tryz.ntmps42 rfl rfl ?_
  refine q2rq [] [] ⟨16, [(0, .b16 x1), (1000001, .elem 32 1 T1F 0 0)], [], [], 0⟩ trivial ?_
  refine q2rq [] [] ⟨16, [(0, .b16 x1), (3, .nils), (1000001, .elem 32 1 T1F 0 0)], [], [], 0⟩ trivial ?_
  obtain ⟨K1, hK1, h⟩ := jn_some h
  refine AWp.join (α := List Int) (fun (l5 : List Int) => ⟨16, [(3, .own 5003), (1000001, .elem 32 1 T1F 0 0)], [(5003, q2bI_3 l5)], [], 0⟩) (fun x => K1 x = some r) ?_ ?_
  ·
    refine AWp.block ?_
    refine AWp.loopL (α := Nat × (BitVec 16 × List Int)) (fun x => match x with | (_, w2, l3) => ⟨16, [(0, .b16 w2), (3, .own 5003), (1000001, .elem 32 1 T1F 0 0)], [(5003, q2bI_3 l3)], [], 0⟩) (fun x => f42_L0 K1 x.1 x.2 = some r) (fun x => x.1) (FUEL, x1, []) (Le.trans (Le.trans (Le.nilOwn 3 5003 3 1 (encF eI 0 []) rfl rfl (Nat.le_of_ble_eq_true rfl)) (Le.mk (s' := ⟨16, [(0, .b16 x1), (3, .own 5003), (1000001, .elem 32 1 T1F 0 0)], [(5003, q2bI_3 [])], [], 0⟩) rfl rfl ⟨.refl _, .refl _, .refl _, trivial⟩ ⟨⟨_, rfl, .refl _⟩, trivial⟩)) (Le.mk (s' := ⟨16, [(0, .b16 x1), (3, .own 5003), (1000001, .elem 32 1 T1F 0 0)], [(5003, q2bI_3 [])], [], 0⟩) rfl rfl ⟨.refl _, .refl _, .refl _, trivial⟩ ⟨⟨_, rfl, .refl _⟩, trivial⟩)) h ?_
    rintro ⟨k0, w2, l3⟩ h
    cases k0 with
    | zero => exact nomatch (show (none : Option (List Int)) = some r from h)
    | succ k0 =>
    obtain ⟨C0, hC0⟩ : ∃ C, C = f42_L0 K1 k0 := ⟨_, rfl⟩
    replace h := (f42_L0.eq_2 ..).symm.trans h
    try rw [← hC0] at h
    refine AWp.seq ?_
    refine q2rq [] [] ⟨16, [(0, .b16 w2), (3, .own 5003), (5, .bool (!(w2 == (q2w16 0)))), (1000001, .elem 32 1 T1F 0 0)], [(5003, q2bI_3 l3)], [], 0⟩ trivial ?_
    refine AWp.cond (b := (!(w2 == (q2w16 0)))) (by kernel_rfl) (fun hc1 => ?_) (fun hc1 => ?_)
    ·
      replace h := ite_tb hc1 h
      refine AWp.skip ?_
      refine thenQ_normal ?_
      refine AWp.seq ?_
      refine AWp.block ?_
      obtain ⟨r4, hr4, h⟩ := bind_ok h
      obtain ⟨ob0, h⟩ := chk_some h
      refine q2rr [] [(2, ⟨[.b16 w2], [], [], [], .i r4, [], [], [1]⟩)] ⟨16, [(0, .b16 w2), (3, .own 5003), (1000001, .elem 32 1 T1F 0 0)], [(5003, .rows 3 1 ((l3).length + 1) (appF (l3).length (encF eI 0 l3) (lstF 1 [.i r4])))], [], 0⟩ (an2 (cpT (f65_ok _ _ hr4)) ob0) ?_
      refine blockQ_normal ?_
      refine thenQ_normal ?_
      refine AWp.le (Le.mk (s' := ⟨16, [(0, .b16 w2), (3, .own 5003), (1000001, .elem 32 1 T1F 0 0)], [(5003, q2bI_3 (l3 ++ [r4]))], [], 0⟩) rfl rfl ⟨.refl _, .refl _, .refl _, trivial⟩ ⟨⟨_, rfl, (BLe.of (RL.app (RL.self _) (RL.lst (enc := eI) [r4] rfl rfl (fun _ => rfl))))⟩, trivial⟩) ?_
      refine q2rr [] [] ⟨16, [(0, .b16 (w2 &&& (w2 - (q2w16 1)))), (3, .own 5003), (1000001, .elem 32 1 T1F 0 0)], [(5003, q2bI_3 (l3 ++ [r4]))], [], 0⟩ (an1 trivial) ?_
      rw [hC0] at h
      exact loopQ_normal (_, (w2 &&& (w2 - (q2w16 1))), (l3 ++ [r4])) (Le.mk rfl rfl ⟨.refl _, .refl _, .refl _, trivial⟩ ⟨⟨_, rfl, .refl _⟩, trivial⟩) h (Nat.lt_succ_self _)
    ·
      replace h := ite_fb hc1 h
      refine AWp.exit ?_
      refine thenQ_exit ?_
      refine thenQ_exit ?_
      refine blockQ_same ?_
      exact joinQ_normal (l3) (Le.mk rfl rfl ⟨.refl _, .refl _, trivial⟩ ⟨⟨_, rfl, .refl _⟩, trivial⟩) h
  ·
    rintro l5 h
    replace h := (congrFun hK1 _).symm.trans h
    refine q2rq [] [] ⟨16, [(2, .own 5003), (1000001, .elem 32 1 T1F 0 0)], [(5003, q2bI_3 l5)], [], 0⟩ trivial ?_
    refine AWp.le (Le.trans (Le.ren (swapN 5003 3000) (swapN_inv 5003 3000) rfl) (Le.mk (s' := ⟨16, [(2, .own 3000), (1000001, .elem 32 1 T1F 0 0)], [(3000, q2bI_3 l5)], [], 0⟩) rfl rfl ⟨.refl _, .refl _, trivial⟩ ⟨⟨_, rfl, .refl _⟩, trivial⟩)) ?_
    have hret := Option.some.inj h
    subst hret
    refine AWp.le (Le.mk (s' := ⟨16, [(2, .own 3000)], [(3000, q2bI_3 l5)], [], 0⟩) rfl rfl ⟨.refl _, trivial⟩ ⟨⟨_, rfl, .refl _⟩, trivial⟩) ?_
    refine AWp.ret ?_
    exact bodyQ_ret _ rfl ⟨rfl, rfl⟩ rfl
def f43 (x1 : Int) : Option (List UInt8) := itoaO x1
theorem f43_ok (x1 : Int) (r : List UInt8) (h : f43 x1 = some r) : Spec1 Tryz.prog 43 [(4, .tab .u64 Lib.pow10Tab)] [] [] [.int .i64 x1] (.str r) [] :=
  itoa_spec (by kernel_rfl) (fun n w h0 h1 ht => Any.strconv_Itoa Tryz.lays171 n h0 h1 w ht) x1 r h
def f26 (x1 : List (List UInt8)) (x2 : List UInt8) : Option (List UInt8) := joinP x1 x2
theorem f26_ok (x1 : List (List UInt8)) (x2 : List UInt8) (r : List UInt8) (h : f26 x1 x2 = some r) : Spec1 Tryz.prog 26 [] [] [] [vL 1 eS [] x1, .str x2] (.str r) [] :=
  join_spec (fun a c sep w => Any.strings_Join_none Tryz.lays156 Tryz.Builder_Extra_156 a c sep w) (fun bk o c xs sep w h1 h2 h3 h4 h5 => Any.strings_Join Tryz.lays156 Tryz.Builder_Extra_156 bk o c xs sep w h1 h2 h3 h4 h5) x1 x2 r h
def f25_L0 (K1 : (List (List UInt8)) → Option (List UInt8)) (r2 : List Int) : Nat → (Nat × List (List UInt8)) → Option (List UInt8)
  | 0, _ => none
  | k + 1, (n3, l4) =>
    if (decide ((n3 : Int) < (((r2).length : Nat) : Int))) then (
    chk ((n3 : Int) < (((r2).length : Nat) : Int)) <|
    chk (n3 < (r2).length) <|
    (f43 (r2.getD n3 0)).bind fun (r5 : List UInt8) =>
    chk (((l4).length + 1) * 16 ≤ 140737488355328) <|
    chk (((n3 : Int) + (1 : Int)) ≤ 9223372036854775807) <|
    (f25_L0 K1 r2 k) ((n3 + 1), (l4 ++ [r5]))
    ) else (
    K1 l4
    )
def f25 (x1 : BitVec 16) : Option (List UInt8) :=
  jn (fun (l6 : List (List UInt8)) =>
  (f26 l6 ([32] : List UInt8)).bind fun (r7 : List UInt8) =>
  chk (([123] : List UInt8).length + r7.length ≤ 9223372036854775807) <|
  chk ((([123] : List UInt8) ++ r7).length + ([125] : List UInt8).length ≤ 9223372036854775807) <|
  some ((([123] : List UInt8) ++ r7) ++ ([125] : List UInt8))
  ) fun (K1 : (List (List UInt8)) → Option (List UInt8)) =>
  (f42 x1).bind fun (r2 : List Int) =>
  f25_L0 K1 r2 FUEL (0, [])
set_option maxRecDepth 100000 in
theorem f25_ok  (x1 : BitVec 16) (r : List UInt8) (h : f25 x1 = some r)  : Spec1 Tryz.prog 25 [(1, .elem 32 1 T1F 0 0), (4, .tab .u64 Lib.pow10Tab)] [] [] [.b16 x1] (.str r) [] := by
  unfold f25 at h
  refine Spec1.body 0 _ _ Tryz.func25 rfl Tryz.ntmps25 rfl rfl ?_
  refine q2rq [] [] ⟨23, [(0, .b16 x1), (1000001, .elem 32 1 T1F 0 0), (1000004, .tab .u64 Lib.pow10Tab)], [], [], 0⟩ trivial ?_
  refine q2rq [] [] ⟨23, [(0, .b16 x1), (3, .nils), (1000001, .elem 32 1 T1F 0 0), (1000004, .tab .u64 Lib.pow10Tab)], [], [], 0⟩ trivial ?_
  obtain ⟨K1, hK1, h⟩ := jn_some h
  refine AWp.join (α := List (List UInt8)) (fun (l6 : List (List UInt8)) => ⟨23, [(3, .own 5003), (1000001, .elem 32 1 T1F 0 0), (1000004, .tab .u64 Lib.pow10Tab)], [(5003, q2bS_9 l6)], [], 0⟩) (fun x => K1 x = some r) ?_ ?_
  ·
    refine AWp.seq ?_
    obtain ⟨r2, hr2, h⟩ := bind_ok h
    refine q2rr [] [(1, ⟨[.b16 x1], [], [], [(6001, q2bI_3 r2)], .own 6001, [6001], [], [1]⟩)] ⟨23, [(3, .nils), (7, .own 6001), (8, .i (lZ r2)), (9, .i (0 : Int)), (1000001, .elem 32 1 T1F 0 0), (1000004, .tab .u64 Lib.pow10Tab)], [(6001, q2bI_3 r2)], [], 0⟩ (an1 (cpT (Spec1.ren (swapN 3000 6001) (swapN_inv 3000 6001) rfl (f42_ok _ _ hr2)))) ?_
    refine thenQ_normal ?_
    refine AWp.block ?_
    refine AWp.loopL (α := Nat × (Nat × List (List UInt8))) (fun x => match x with | (_, n3, l4) => ⟨23, [(3, .own 5003), (7, .own 6001), (8, .i (lZ r2)), (9, .i (n3 : Int)), (1000001, .elem 32 1 T1F 0 0), (1000004, .tab .u64 Lib.pow10Tab)], [(5003, q2bS_9 l4), (6001, q2bI_3 r2)], [], 0⟩) (fun x => f25_L0 K1 r2 x.1 x.2 = some r) (fun x => x.1) (FUEL, 0, []) (Le.trans (Le.trans (Le.nilOwn 3 5003 9 1 (encF eS [] []) rfl rfl (Nat.le_of_ble_eq_true rfl)) (Le.mk (s' := ⟨23, [(3, .own 5003), (7, .own 6001), (8, .i (lZ r2)), (9, .i (0 : Int)), (1000001, .elem 32 1 T1F 0 0), (1000004, .tab .u64 Lib.pow10Tab)], [(6001, q2bI_3 r2), (5003, q2bS_9 [])], [], 0⟩) rfl rfl ⟨.refl _, .refl _, .refl _, .refl _, .refl _, .refl _, trivial⟩ ⟨⟨_, rfl, .refl _⟩, ⟨_, rfl, .refl _⟩, trivial⟩)) (Le.mk (s' := ⟨23, [(3, .own 5003), (7, .own 6001), (8, .i (lZ r2)), (9, .i (0 : Int)), (1000001, .elem 32 1 T1F 0 0), (1000004, .tab .u64 Lib.pow10Tab)], [(5003, q2bS_9 []), (6001, q2bI_3 r2)], [], 0⟩) rfl rfl ⟨.refl _, .refl _, .refl _, .refl _, .refl _, .refl _, trivial⟩ ⟨⟨_, rfl, .refl _⟩, ⟨_, rfl, .refl _⟩, trivial⟩)) h ?_
    rintro ⟨k0, n3, l4⟩ h
    cases k0 with
    | zero => exact nomatch (show (none : Option (List UInt8)) = some r from h)
    | succ k0 =>
    obtain ⟨C0, hC0⟩ : ∃ C, C = f25_L0 K1 r2 k0 := ⟨_, rfl⟩
    replace h := (f25_L0.eq_2 ..).symm.trans h
    try rw [← hC0] at h
    refine q2rq [] [] ⟨23, [(3, .own 5003), (7, .own 6001), (8, .i (lZ r2)), (9, .i (n3 : Int)), (10, .bool (decide ((n3 : Int) < (lZ r2)))), (1000001, .elem 32 1 T1F 0 0), (1000004, .tab .u64 Lib.pow10Tab)], [(5003, q2bS_9 l4), (6001, q2bI_3 r2)], [], 0⟩ trivial ?_
    refine AWp.seq ?_
    refine AWp.cond (b := (decide ((n3 : Int) < (lZ r2)))) (by kernel_rfl) (fun hc1 => ?_) (fun hc1 => ?_)
    ·
      replace h := ite_tb hc1 h
      refine AWp.skip ?_
      refine thenQ_normal ?_
      refine AWp.seq ?_
      refine AWp.block ?_
      refine AWp.seq ?_
      obtain ⟨ob0p, h⟩ := chk_some h
      have ob0 : 0 ≤ (n3 : Int) ∧ (n3 : Int) < (((r2).length : Nat) : Int) := ⟨by omega, ob0p⟩
      obtain ⟨ob1, h⟩ := chk_some h
      refine q2rr [] [] ⟨23, [(3, .own 5003), (5, .i (r2.getD n3 0)), (7, .own 6001), (8, .i (lZ r2)), (9, .i (n3 : Int)), (1000001, .elem 32 1 T1F 0 0), (1000004, .tab .u64 Lib.pow10Tab)], [(5003, q2bS_9 l4), (6001, q2bI_3 r2)], [], 0⟩ (an2 ob0 ob1) ?_
      refine thenQ_normal ?_
      obtain ⟨r5, hr5, h⟩ := bind_ok h
      obtain ⟨ob2, h⟩ := chk_some h
      refine q2rr [] [(2, ⟨[.i (r2.getD n3 0)], [], [], [], .str r5, [], [], [4]⟩)] ⟨23, [(3, .own 5003), (7, .own 6001), (8, .i (lZ r2)), (9, .i (n3 : Int)), (1000001, .elem 32 1 T1F 0 0), (1000004, .tab .u64 Lib.pow10Tab)], [(5003, .rows 9 1 ((l4).length + 1) (appF (l4).length (encF eS [] l4) (lstF 1 [.str r5]))), (6001, q2bI_3 r2)], [], 0⟩ (an2 (cpT (f43_ok _ _ hr5)) ob2) ?_
      refine blockQ_normal ?_
      refine thenQ_normal ?_
      refine AWp.le (Le.mk (s' := ⟨23, [(3, .own 5003), (7, .own 6001), (8, .i (lZ r2)), (9, .i (n3 : Int)), (1000001, .elem 32 1 T1F 0 0), (1000004, .tab .u64 Lib.pow10Tab)], [(5003, q2bS_9 (l4 ++ [r5])), (6001, q2bI_3 r2)], [], 0⟩) rfl rfl ⟨.refl _, .refl _, .refl _, .refl _, .refl _, .refl _, trivial⟩ ⟨⟨_, rfl, (BLe.of (RL.app (RL.self _) (RL.lst (enc := eS) [r5] rfl rfl (fun _ => rfl))))⟩, ⟨_, rfl, .refl _⟩, trivial⟩) ?_
      obtain ⟨ob3p, h⟩ := chk_some h
      have ob3 : -9223372036854775808 ≤ ((n3 : Int) + (1 : Int)) ∧ ((n3 : Int) + (1 : Int)) ≤ 9223372036854775807 := ⟨by omega, ob3p⟩
      refine q2rr [] [] ⟨23, [(3, .own 5003), (7, .own 6001), (8, .i (lZ r2)), (9, .i (((n3 + 1) : Nat) : Int)), (1000001, .elem 32 1 T1F 0 0), (1000004, .tab .u64 Lib.pow10Tab)], [(5003, q2bS_9 (l4 ++ [r5])), (6001, q2bI_3 r2)], [], 0⟩ (an1 ob3) ?_
      rw [hC0] at h
      exact loopQ_normal (_, (n3 + 1), (l4 ++ [r5])) (Le.mk rfl rfl ⟨.refl _, .refl _, .refl _, .refl _, .refl _, .refl _, trivial⟩ ⟨⟨_, rfl, .refl _⟩, ⟨_, rfl, .refl _⟩, trivial⟩) h (Nat.lt_succ_self _)
    ·
      replace h := ite_fb hc1 h
      refine AWp.exit ?_
      refine thenQ_exit ?_
      refine thenQ_exit ?_
      refine blockQ_same ?_
      exact joinQ_normal (l4) (Le.mk rfl rfl ⟨.refl _, .refl _, .refl _, trivial⟩ ⟨⟨_, rfl, .refl _⟩, trivial⟩) h
  ·
    rintro l6 h
    replace h := (congrFun hK1 _).symm.trans h
    refine AWp.seq ?_
    obtain ⟨r7, hr7, h⟩ := bind_ok h
    obtain ⟨ob4, ob5, h⟩ := ck2 h
    refine q2rr [] [(1, ⟨[vL 1 eS [] l6, .str ([32] : List UInt8)], [], [], [], .str r7, [], [5003], []⟩)] ⟨23, [(2, .str ((([123] : List UInt8) ++ r7) ++ ([125] : List UInt8))), (1000001, .elem 32 1 T1F 0 0), (1000004, .tab .u64 Lib.pow10Tab)], [], [], 0⟩ (an3 (cpL (c := true) [(5003, q2bS_9 l6)] [5003] [.own 5003, .str ([32] : List UInt8)] (fun _ => (f26_ok _ _ _ hr7)) (fun _ => ⟨.refl _, .refl _, trivial⟩) (.inr ⟨rfl, trivial⟩)) ob4 ob5) ?_
    refine thenQ_normal ?_
    have hret := Option.some.inj h
    subst hret
    refine AWp.le (Le.mk (s' := ⟨23, [(2, .str ((([123] : List UInt8) ++ r7) ++ ([125] : List UInt8)))], [], [], 0⟩) rfl rfl ⟨.refl _, trivial⟩ trivial) ?_
    refine AWp.ret ?_
    exact bodyQ_ret _ rfl ⟨rfl, rfl⟩ rfl
def f7_L0 (x1 : List (BitVec 16)) (K1 : (List (List UInt8)) → Option (List UInt8)) : Nat → (Nat × List (List UInt8)) → Option (List UInt8)
  | 0, _ => none
  | k + 1, (n2, l3) =>
    if (decide ((n2 : Int) < (((x1).length : Nat) : Int))) then (
    chk ((n2 : Int) < (((x1).length : Nat) : Int)) <|
    (f25 (x1.getD n2 0#16)).bind fun (r4 : List UInt8) =>
    chk (((l3).length + 1) * 16 ≤ 140737488355328) <|
    chk (((n2 : Int) + (1 : Int)) ≤ 9223372036854775807) <|
    (f7_L0 x1 K1 k) ((n2 + 1), (l3 ++ [r4]))
    ) else (
    K1 l3
    )
def f7 (x1 : List (BitVec 16)) : Option (List UInt8) :=
  jn (fun (l5 : List (List UInt8)) =>
  (f26 l5 ([32] : List UInt8)).bind fun (r6 : List UInt8) =>
  some r6
  ) fun (K1 : (List (List UInt8)) → Option (List UInt8)) =>
  f7_L0 x1 K1 FUEL (0, [])
set_option maxRecDepth 100000 in
theorem f7_ok  (x1 : List (BitVec 16)) (r : List UInt8) (h : f7 x1 = some r)  : Spec1 Tryz.prog 7 [(1, .elem 32 1 T1F 0 0), (4, .tab .u64 Lib.pow10Tab)] [] [] [vL 1 eW 0#16 x1] (.str r) [] := by
  unfold f7 at h
  refine Spec1.body 0 _ _ Tryz.func7 rfl Tryz.ntmps7 rfl rfl ?_
  refine q2rq [] [] ⟨20, [(0, q2aW x1), (1000001, .elem 32 1 T1F 0 0), (1000004, .tab .u64 Lib.pow10Tab)], [], [], 0⟩ trivial ?_
  refine q2rq [] [] ⟨20, [(0, q2aW x1), (3, .nils), (1000001, .elem 32 1 T1F 0 0), (1000004, .tab .u64 Lib.pow10Tab)], [], [], 0⟩ trivial ?_
  obtain ⟨K1, hK1, h⟩ := jn_some h
  refine AWp.join (α := List (List UInt8)) (fun (l5 : List (List UInt8)) => ⟨20, [(3, .own 5003), (1000001, .elem 32 1 T1F 0 0), (1000004, .tab .u64 Lib.pow10Tab)], [(5003, q2bS_9 l5)], [], 0⟩) (fun x => K1 x = some r) ?_ ?_
  ·
    refine q2rq [] [] ⟨20, [(3, .nils), (6, q2aW x1), (7, .i (lZ x1)), (8, .i (0 : Int)), (1000001, .elem 32 1 T1F 0 0), (1000004, .tab .u64 Lib.pow10Tab)], [], [], 0⟩ trivial ?_
    refine AWp.block ?_
    refine AWp.loopL (α := Nat × (Nat × List (List UInt8))) (fun x => match x with | (_, n2, l3) => ⟨20, [(3, .own 5003), (6, q2aW x1), (7, .i (lZ x1)), (8, .i (n2 : Int)), (1000001, .elem 32 1 T1F 0 0), (1000004, .tab .u64 Lib.pow10Tab)], [(5003, q2bS_9 l3)], [], 0⟩) (fun x => f7_L0 x1 K1 x.1 x.2 = some r) (fun x => x.1) (FUEL, 0, []) (Le.trans (Le.trans (Le.nilOwn 3 5003 9 1 (encF eS [] []) rfl rfl (Nat.le_of_ble_eq_true rfl)) (Le.mk (s' := ⟨20, [(3, .own 5003), (6, q2aW x1), (7, .i (lZ x1)), (8, .i (0 : Int)), (1000001, .elem 32 1 T1F 0 0), (1000004, .tab .u64 Lib.pow10Tab)], [(5003, q2bS_9 [])], [], 0⟩) rfl rfl ⟨.refl _, .refl _, .refl _, .refl _, .refl _, .refl _, trivial⟩ ⟨⟨_, rfl, .refl _⟩, trivial⟩)) (Le.mk (s' := ⟨20, [(3, .own 5003), (6, q2aW x1), (7, .i (lZ x1)), (8, .i (0 : Int)), (1000001, .elem 32 1 T1F 0 0), (1000004, .tab .u64 Lib.pow10Tab)], [(5003, q2bS_9 [])], [], 0⟩) rfl rfl ⟨.refl _, .refl _, .refl _, .refl _, .refl _, .refl _, trivial⟩ ⟨⟨_, rfl, .refl _⟩, trivial⟩)) h ?_
    rintro ⟨k0, n2, l3⟩ h
    cases k0 with
    | zero => exact nomatch (show (none : Option (List UInt8)) = some r from h)
    | succ k0 =>
    obtain ⟨C0, hC0⟩ : ∃ C, C = f7_L0 x1 K1 k0 := ⟨_, rfl⟩
    replace h := (f7_L0.eq_2 ..).symm.trans h
    try rw [← hC0] at h
    refine q2rq [] [] ⟨20, [(3, .own 5003), (6, q2aW x1), (7, .i (lZ x1)), (8, .i (n2 : Int)), (9, .bool (decide ((n2 : Int) < (lZ x1)))), (1000001, .elem 32 1 T1F 0 0), (1000004, .tab .u64 Lib.pow10Tab)], [(5003, q2bS_9 l3)], [], 0⟩ trivial ?_
    refine AWp.seq ?_
    refine AWp.cond (b := (decide ((n2 : Int) < (lZ x1)))) (by kernel_rfl) (fun hc1 => ?_) (fun hc1 => ?_)
    ·
      replace h := ite_tb hc1 h
      refine AWp.skip ?_
      refine thenQ_normal ?_
      refine AWp.seq ?_
      refine AWp.block ?_
      refine AWp.seq ?_
      obtain ⟨ob0p, h⟩ := chk_some h
      have ob0 : 0 ≤ (n2 : Int) ∧ (n2 : Int) < (((x1).length : Nat) : Int) := ⟨by omega, ob0p⟩
      refine q2rr [] [] ⟨20, [(3, .own 5003), (5, .b16 (x1.getD n2 0#16)), (6, q2aW x1), (7, .i (lZ x1)), (8, .i (n2 : Int)), (1000001, .elem 32 1 T1F 0 0), (1000004, .tab .u64 Lib.pow10Tab)], [(5003, q2bS_9 l3)], [], 0⟩ (an1 ob0) ?_
      refine thenQ_normal ?_
      obtain ⟨r4, hr4, h⟩ := bind_ok h
      obtain ⟨ob1, h⟩ := chk_some h
      refine q2rr [] [(2, ⟨[.b16 (x1.getD n2 0#16)], [], [], [], .str r4, [], [], [1, 4]⟩)] ⟨20, [(3, .own 5003), (6, q2aW x1), (7, .i (lZ x1)), (8, .i (n2 : Int)), (1000001, .elem 32 1 T1F 0 0), (1000004, .tab .u64 Lib.pow10Tab)], [(5003, .rows 9 1 ((l3).length + 1) (appF (l3).length (encF eS [] l3) (lstF 1 [.str r4])))], [], 0⟩ (an2 (cpT (f25_ok _ _ hr4)) ob1) ?_
      refine blockQ_normal ?_
      refine thenQ_normal ?_
      refine AWp.le (Le.mk (s' := ⟨20, [(3, .own 5003), (6, q2aW x1), (7, .i (lZ x1)), (8, .i (n2 : Int)), (1000001, .elem 32 1 T1F 0 0), (1000004, .tab .u64 Lib.pow10Tab)], [(5003, q2bS_9 (l3 ++ [r4]))], [], 0⟩) rfl rfl ⟨.refl _, .refl _, .refl _, .refl _, .refl _, .refl _, trivial⟩ ⟨⟨_, rfl, (BLe.of (RL.app (RL.self _) (RL.lst (enc := eS) [r4] rfl rfl (fun _ => rfl))))⟩, trivial⟩) ?_
      obtain ⟨ob2p, h⟩ := chk_some h
      have ob2 : -9223372036854775808 ≤ ((n2 : Int) + (1 : Int)) ∧ ((n2 : Int) + (1 : Int)) ≤ 9223372036854775807 := ⟨by omega, ob2p⟩
      refine q2rr [] [] ⟨20, [(3, .own 5003), (6, q2aW x1), (7, .i (lZ x1)), (8, .i (((n2 + 1) : Nat) : Int)), (1000001, .elem 32 1 T1F 0 0), (1000004, .tab .u64 Lib.pow10Tab)], [(5003, q2bS_9 (l3 ++ [r4]))], [], 0⟩ (an1 ob2) ?_
      rw [hC0] at h
      exact loopQ_normal (_, (n2 + 1), (l3 ++ [r4])) (Le.mk rfl rfl ⟨.refl _, .refl _, .refl _, .refl _, .refl _, .refl _, trivial⟩ ⟨⟨_, rfl, .refl _⟩, trivial⟩) h (Nat.lt_succ_self _)
    ·
      replace h := ite_fb hc1 h
      refine AWp.exit ?_
      refine thenQ_exit ?_
      refine thenQ_exit ?_
      refine blockQ_same ?_
      exact joinQ_normal (l3) (Le.mk rfl rfl ⟨.refl _, .refl _, .refl _, trivial⟩ ⟨⟨_, rfl, .refl _⟩, trivial⟩) h
  ·
    rintro l5 h
    replace h := (congrFun hK1 _).symm.trans h
    refine AWp.seq ?_
    obtain ⟨r6, hr6, h⟩ := bind_ok h
    refine q2rr [] [(1, ⟨[vL 1 eS [] l5, .str ([32] : List UInt8)], [], [], [], .str r6, [], [5003], []⟩)] ⟨20, [(2, .str r6), (1000001, .elem 32 1 T1F 0 0), (1000004, .tab .u64 Lib.pow10Tab)], [], [], 0⟩ (an1 (cpL (c := true) [(5003, q2bS_9 l5)] [5003] [.own 5003, .str ([32] : List UInt8)] (fun _ => (f26_ok _ _ _ hr6)) (fun _ => ⟨.refl _, .refl _, trivial⟩) (.inr ⟨rfl, trivial⟩))) ?_
    refine thenQ_normal ?_
    have hret := Option.some.inj h
    subst hret
    refine AWp.le (Le.mk (s' := ⟨20, [(2, .str r6)], [], [], 0⟩) rfl rfl ⟨.refl _, trivial⟩ trivial) ?_
    refine AWp.ret ?_
    exact bodyQ_ret _ rfl ⟨rfl, rfl⟩ rfl
abbrev f4z0 (r1 : List (BitVec 16) × Int) (r2 : List (BitVec 16) × Int) (r3 : List (BitVec 16) × Int) (r4 : Int × List (BitVec 16)) := ((((r1.2 == (0 : Int)) && (r2.2 == (0 : Int))) && (r3.2 == (0 : Int))) && (r4.1 == (0 : Int)))
abbrev f4z1 (r1 : List (BitVec 16) × Int) : List V := [vL 1 eW 0#16 r1.1, vL 1 eW 0#16 [(BitVec.ofInt 16 11), (BitVec.ofInt 16 13), (BitVec.ofInt 16 14)]]
abbrev f4z2 (r2 : List (BitVec 16) × Int) : List V := [vL 1 eW 0#16 r2.1, vL 1 eW 0#16 [(BitVec.ofInt 16 8), (BitVec.ofInt 16 3), (BitVec.ofInt 16 5), (BitVec.ofInt 16 6)]]
abbrev f4z3 : List V := [.b16 (BitVec.ofInt 16 8), .b16 (BitVec.ofInt 16 3), .b16 (BitVec.ofInt 16 5), .b16 (BitVec.ofInt 16 6)]
abbrev f4z4 : List V := [.b16 (BitVec.ofInt 16 11), .b16 (BitVec.ofInt 16 13), .b16 (BitVec.ofInt 16 14)]
abbrev f4z5 (r3 : List (BitVec 16) × Int) : List V := [vL 1 eW 0#16 r3.1, vL 1 eW 0#16 [(BitVec.ofInt 16 2), (BitVec.ofInt 16 4)]]
abbrev f4z6 : List V := [vL 1 eW 0#16 [(BitVec.ofInt 16 3), (BitVec.ofInt 16 5), (BitVec.ofInt 16 6)], .own 18]
abbrev f4z7 : List V := [vL 1 eW 0#16 [(BitVec.ofInt 16 3), (BitVec.ofInt 16 5), (BitVec.ofInt 16 6)], .own 24]
abbrev f4z8 (r1 : List (BitVec 16) × Int) (r2 : List (BitVec 16) × Int) := ((r1.2 == (0 : Int)) && (r2.2 == (0 : Int)))
abbrev f4z9 : List V := [.b16 (BitVec.ofInt 16 2), .b16 (BitVec.ofInt 16 4)]
abbrev f4z10 (r1 : List (BitVec 16) × Int) (r2 : List (BitVec 16) × Int) (r3 : List (BitVec 16) × Int) (r4 : Int × List (BitVec 16)) (r5 : List (BitVec 16) × Int) (r6 : List (BitVec 16) × Int) := (((f4z0 r1 r2 r3 r4) && (r5.2 == (0 : Int))) && (r6.2 == (0 : Int)))
abbrev f4z11 (r6 : List (BitVec 16) × Int) : List V := [vL 1 eW 0#16 r6.1, .bool false]
def f4  : Option Bool :=
  (f11 [(BitVec.ofInt 16 3), (BitVec.ofInt 16 5), (BitVec.ofInt 16 6)] [(BitVec.ofInt 16 8)]).bind fun (r1 : List (BitVec 16) × Int) =>
  (f12 [(BitVec.ofInt 16 3), (BitVec.ofInt 16 5), (BitVec.ofInt 16 6)] [(BitVec.ofInt 16 8)]).bind fun (r2 : List (BitVec 16) × Int) =>
  (f13 [(BitVec.ofInt 16 3), (BitVec.ofInt 16 5), (BitVec.ofInt 16 6)] (BitVec.ofInt 16 1)).bind fun (r3 : List (BitVec 16) × Int) =>
  (f14 [(BitVec.ofInt 16 3), (BitVec.ofInt 16 5), (BitVec.ofInt 16 6)] (BitVec.ofInt 16 1)).bind fun (r4 : Int × List (BitVec 16)) =>
  (f15 [(BitVec.ofInt 16 3), (BitVec.ofInt 16 2), (BitVec.ofInt 16 5), (BitVec.ofInt 16 2)]).bind fun (r5 : List (BitVec 16) × Int) =>
  (f16 [(BitVec.ofInt 16 3), (BitVec.ofInt 16 2), (BitVec.ofInt 16 5), (BitVec.ofInt 16 2)]).bind fun (r6 : List (BitVec 16) × Int) =>
  if ((((((r1.2 == (0 : Int)) && (r2.2 == (0 : Int))) && (r3.2 == (0 : Int))) && (r4.1 == (0 : Int))) && (r5.2 == (0 : Int))) && (r6.2 == (0 : Int))) = true then (
  (f8 r1.1 [(BitVec.ofInt 16 11), (BitVec.ofInt 16 13), (BitVec.ofInt 16 14)]).bind fun (r7 : Bool) =>
  if r7 = true then (
  (f8 r2.1 [(BitVec.ofInt 16 8), (BitVec.ofInt 16 3), (BitVec.ofInt 16 5), (BitVec.ofInt 16 6)]).bind fun (r8 : Bool) =>
  if r8 = true then (
  (f8 r3.1 [(BitVec.ofInt 16 2), (BitVec.ofInt 16 4)]).bind fun (r9 : Bool) =>
  if r9 = true then (
  (f8 r4.2 [(BitVec.ofInt 16 6)]).bind fun (r10 : Bool) =>
  if r10 = true then (
  (f8 r5.1 [(BitVec.ofInt 16 2), (BitVec.ofInt 16 5)]).bind fun (r11 : Bool) =>
  if r11 = true then (
  (f8 r6.1 [(BitVec.ofInt 16 3), (BitVec.ofInt 16 5)]).bind fun (r12 : Bool) =>
  optc (r12 == true) (f7 r1.1) fun (r13 : List UInt8) =>
  some (r12 && (r13 == cs1))
  ) else (
  some false
  )
  ) else (
  some false
  )
  ) else (
  some false
  )
  ) else (
  some false
  )
  ) else (
  some false
  )
  ) else (
  some false
  )
set_option maxRecDepth 100000 in
theorem f4_ok   (r : Bool) (h : f4 = some r)  : Spec1 Tryz.prog 4 [(1, .elem 32 1 T1F 0 0), (4, .tab .u64 Lib.pow10Tab)] [] [] [] (.bool r) [] := by
  unfold f4 at h
  refine Spec1.body 0 _ _ Tryz.func4 rfl Tryz.ntmps4 rfl rfl ?_
  refine q2rq [] [] ⟨106, [(1000001, .elem 32 1 T1F 0 0), (1000004, .tab .u64 Lib.pow10Tab)], [], [], 0⟩ trivial ?_
  refine q2rq [] [] ⟨106, [(1, .own 15), (1000001, .elem 32 1 T1F 0 0), (1000004, .tab .u64 Lib.pow10Tab)], [(15, .rows 30 1 3 (lstF 1 [.b16 (q2w16 3), .b16 (q2w16 5), .b16 (q2w16 6)]))], [], 0⟩ trivial ?_
  refine AWp.le (Le.mk (s' := ⟨106, [(1, .own 15), (1000001, .elem 32 1 T1F 0 0), (1000004, .tab .u64 Lib.pow10Tab)], [(15, q2bW_30 [(q2w16 3), (q2w16 5), (q2w16 6)])], [], 0⟩) rfl rfl ⟨.refl _, .refl _, .refl _, trivial⟩ ⟨⟨_, rfl, (BLe.of (RL.lst (enc := eW) [(q2w16 3), (q2w16 5), (q2w16 6)] rfl rfl (fun _ => rfl)))⟩, trivial⟩) ?_
  refine AWp.seq ?_
  refine AWp.le (Le.trans (Le.freeze 15 rfl rfl) (Le.mk (s' := ⟨106, [(1, q2aW [(q2w16 3), (q2w16 5), (q2w16 6)]), (1000001, .elem 32 1 T1F 0 0), (1000004, .tab .u64 Lib.pow10Tab)], [], [], 0⟩) rfl rfl ⟨.refl _, .refl _, .refl _, trivial⟩ trivial)) ?_
  obtain ⟨r1, hr1, h⟩ := bind_ok h
  refine q2rr [] [(2, ⟨(f4z6), [18], [], [], .tup [q2aW r1.1, .i r1.2], [], [], []⟩)] ⟨106, [(1, q2aW [(q2w16 3), (q2w16 5), (q2w16 6)]), (2, q2aW r1.1), (3, .i r1.2), (1000001, .elem 32 1 T1F 0 0), (1000004, .tab .u64 Lib.pow10Tab)], [], [], 0⟩ (an1 (show (callP Tryz.prog true 11 [] [] [(18, .rows 30 1 1 (lstF 1 [.b16 (q2w16 8)]))] [] [] (f4z6) (f4z6) (.tup [q2aW r1.1, .i r1.2]) []) from ⟨fun _ => (Spec1.pre (f11_ok _ _ _ hr1) rfl rfl rfl (Le.trans (Le.mk (s' := ⟨2, [(0, q2aW [(q2w16 3), (q2w16 5), (q2w16 6)]), (1, .own 18)], [(18, q2bW_30 [(q2w16 8)])], [], 0⟩) rfl rfl ⟨.refl _, .refl _, trivial⟩ ⟨⟨_, rfl, (BLe.of (RL.lst (enc := eW) [(q2w16 8)] rfl rfl (fun _ => rfl)))⟩, trivial⟩) (Le.trans (Le.freeze 18 rfl rfl) (Le.mk (s' := ⟨2, [(0, q2aW [(q2w16 3), (q2w16 5), (q2w16 6)]), (1, q2aW [(q2w16 8)])], [], [], 0⟩) rfl rfl ⟨.refl _, .refl _, trivial⟩ trivial)))), fun _ => ⟨.refl _, .refl _, trivial⟩, .inl rfl⟩)) ?_
  refine thenQ_normal ?_
  refine AWp.seq ?_
  obtain ⟨r2, hr2, h⟩ := bind_ok h
  refine q2rr [] [(2, ⟨(f4z7), [24], [], [], .tup [q2aW r2.1, .i r2.2], [], [], []⟩)] ⟨106, [(1, q2aW [(q2w16 3), (q2w16 5), (q2w16 6)]), (2, q2aW r1.1), (3, .i r1.2), (4, q2aW r2.1), (5, .i r2.2), (1000001, .elem 32 1 T1F 0 0), (1000004, .tab .u64 Lib.pow10Tab)], [], [], 0⟩ (an1 (show (callP Tryz.prog true 12 [] [] [(24, .rows 30 1 1 (lstF 1 [.b16 (q2w16 8)]))] [] [] (f4z7) (f4z7) (.tup [q2aW r2.1, .i r2.2]) []) from ⟨fun _ => (Spec1.pre (f12_ok _ _ _ hr2) rfl rfl rfl (Le.trans (Le.mk (s' := ⟨2, [(0, q2aW [(q2w16 3), (q2w16 5), (q2w16 6)]), (1, .own 24)], [(24, q2bW_30 [(q2w16 8)])], [], 0⟩) rfl rfl ⟨.refl _, .refl _, trivial⟩ ⟨⟨_, rfl, (BLe.of (RL.lst (enc := eW) [(q2w16 8)] rfl rfl (fun _ => rfl)))⟩, trivial⟩) (Le.trans (Le.freeze 24 rfl rfl) (Le.mk (s' := ⟨2, [(0, q2aW [(q2w16 3), (q2w16 5), (q2w16 6)]), (1, q2aW [(q2w16 8)])], [], [], 0⟩) rfl rfl ⟨.refl _, .refl _, trivial⟩ trivial)))), fun _ => ⟨.refl _, .refl _, trivial⟩, .inl rfl⟩)) ?_
  refine thenQ_normal ?_
  refine AWp.seq ?_
  obtain ⟨r3, hr3, h⟩ := bind_ok h
  refine q2rr [] [(1, ⟨[q2aW [(q2w16 3), (q2w16 5), (q2w16 6)], .b16 (q2w16 1)], [], [], [], .tup [q2aW r3.1, .i r3.2], [], [], []⟩)] ⟨106, [(1, q2aW [(q2w16 3), (q2w16 5), (q2w16 6)]), (2, q2aW r1.1), (3, .i r1.2), (4, q2aW r2.1), (5, .i r2.2), (6, q2aW r3.1), (7, .i r3.2), (1000001, .elem 32 1 T1F 0 0), (1000004, .tab .u64 Lib.pow10Tab)], [], [], 0⟩ (an1 (cpT (f13_ok _ _ _ hr3))) ?_
  refine thenQ_normal ?_
  refine AWp.seq ?_
  obtain ⟨r4, hr4, h⟩ := bind_ok h
  refine q2rr [] [(1, ⟨[q2aW [(q2w16 3), (q2w16 5), (q2w16 6)], .b16 (q2w16 1)], [], [], [(6001, q2bW_30 r4.2)], .tup [.own 6001, .i r4.1], [6001], [], []⟩)] ⟨106, [(2, q2aW r1.1), (3, .i r1.2), (4, q2aW r2.1), (5, .i r2.2), (6, q2aW r3.1), (7, .i r3.2), (8, .own 6001), (9, .i r4.1), (1000001, .elem 32 1 T1F 0 0), (1000004, .tab .u64 Lib.pow10Tab)], [(6001, q2bW_30 r4.2)], [], 0⟩ (an1 (cpT (Spec1.ren (swapN 3000 6001) (swapN_inv 3000 6001) rfl (f14_ok _ _ _ hr4)))) ?_
  refine thenQ_normal ?_
  refine AWp.seq ?_
  obtain ⟨r5, hr5, h⟩ := bind_ok h
  refine q2rr [] [(1, ⟨[.own 39], [39], [], [], .tup [q2aW r5.1, .i r5.2], [], [], []⟩)] ⟨106, [(2, q2aW r1.1), (3, .i r1.2), (4, q2aW r2.1), (5, .i r2.2), (6, q2aW r3.1), (7, .i r3.2), (8, .own 6001), (9, .i r4.1), (10, q2aW r5.1), (11, .i r5.2), (1000001, .elem 32 1 T1F 0 0), (1000004, .tab .u64 Lib.pow10Tab)], [(6001, q2bW_30 r4.2)], [], 0⟩ (an1 (show (callP Tryz.prog true 15 [] [] [(39, .rows 30 1 4 (lstF 1 [.b16 (q2w16 3), .b16 (q2w16 2), .b16 (q2w16 5), .b16 (q2w16 2)]))] [] [] [.own 39] [.own 39] (.tup [q2aW r5.1, .i r5.2]) []) from ⟨fun _ => (Spec1.pre (f15_ok _ _ hr5) rfl rfl rfl (Le.trans (Le.mk (s' := ⟨1, [(0, .own 39)], [(39, q2bW_30 [(q2w16 3), (q2w16 2), (q2w16 5), (q2w16 2)])], [], 0⟩) rfl rfl ⟨.refl _, trivial⟩ ⟨⟨_, rfl, (BLe.of (RL.lst (enc := eW) [(q2w16 3), (q2w16 2), (q2w16 5), (q2w16 2)] rfl rfl (fun _ => rfl)))⟩, trivial⟩) (Le.trans (Le.freeze 39 rfl rfl) (Le.mk (s' := ⟨1, [(0, q2aW [(q2w16 3), (q2w16 2), (q2w16 5), (q2w16 2)])], [], [], 0⟩) rfl rfl ⟨.refl _, trivial⟩ trivial)))), fun _ => ⟨.refl _, trivial⟩, .inl rfl⟩)) ?_
  refine thenQ_normal ?_
  refine AWp.seq ?_
  obtain ⟨r6, hr6, h⟩ := bind_ok h
  refine q2rr [] [(1, ⟨[.own 44], [44], [], [], .tup [q2aW r6.1, .i r6.2], [], [], []⟩)] ⟨106, [(2, q2aW r1.1), (3, .i r1.2), (4, q2aW r2.1), (5, .i r2.2), (6, q2aW r3.1), (7, .i r3.2), (8, .own 6001), (9, .i r4.1), (10, q2aW r5.1), (11, .i r5.2), (12, q2aW r6.1), (13, .i r6.2), (1000001, .elem 32 1 T1F 0 0), (1000004, .tab .u64 Lib.pow10Tab)], [(6001, q2bW_30 r4.2)], [], 0⟩ (an1 (show (callP Tryz.prog true 16 [] [] [(44, .rows 30 1 4 (lstF 1 [.b16 (q2w16 3), .b16 (q2w16 2), .b16 (q2w16 5), .b16 (q2w16 2)]))] [] [] [.own 44] [.own 44] (.tup [q2aW r6.1, .i r6.2]) []) from ⟨fun _ => (Spec1.pre (f16_ok _ _ hr6) rfl rfl rfl (Le.trans (Le.mk (s' := ⟨1, [(0, .own 44)], [(44, q2bW_30 [(q2w16 3), (q2w16 2), (q2w16 5), (q2w16 2)])], [], 0⟩) rfl rfl ⟨.refl _, trivial⟩ ⟨⟨_, rfl, (BLe.of (RL.lst (enc := eW) [(q2w16 3), (q2w16 2), (q2w16 5), (q2w16 2)] rfl rfl (fun _ => rfl)))⟩, trivial⟩) (Le.trans (Le.freeze 44 rfl rfl) (Le.mk (s' := ⟨1, [(0, q2aW [(q2w16 3), (q2w16 2), (q2w16 5), (q2w16 2)])], [], [], 0⟩) rfl rfl ⟨.refl _, trivial⟩ trivial)))), fun _ => ⟨.refl _, trivial⟩, .inl rfl⟩)) ?_
  refine thenQ_normal ?_
  refine AWp.seq ?_
  have ob0 := idA (((r1.2 == (0 : Int)) == true) = true)
  have ob1 := bqA (r1.2 == (0 : Int)) true
  have ob2 := idA (((f4z8 r1 r2) == true) = true)
  have ob3 := bqA (f4z8 r1 r2) true
  have ob4 := idA ((((f4z8 r1 r2) && (r3.2 == (0 : Int))) == true) = true)
  have ob5 := bqA ((f4z8 r1 r2) && (r3.2 == (0 : Int))) true
  have ob6 := idA (((f4z0 r1 r2 r3 r4) == true) = true)
  have ob7 := bqA (f4z0 r1 r2 r3 r4) true
  have ob8 := idA ((((f4z0 r1 r2 r3 r4) && (r5.2 == (0 : Int))) == true) = true)
  have ob9 := bqA ((f4z0 r1 r2 r3 r4) && (r5.2 == (0 : Int))) true
  refine q2rr [] [] ⟨106, [(2, q2aW r1.1), (4, q2aW r2.1), (6, q2aW r3.1), (8, .own 6001), (10, q2aW r5.1), (12, q2aW r6.1), (14, .bool (f4z10 r1 r2 r3 r4 r5 r6)), (1000001, .elem 32 1 T1F 0 0), (1000004, .tab .u64 Lib.pow10Tab)], [(6001, q2bW_30 r4.2)], [], 0⟩ (ac6 (an1 ob0) ob1 (an1 ob2) ob3 (an1 ob4) ob5 (an4 (an1 ob6) ob7 (an1 ob8) ob9)) ?_
  refine thenQ_normal ?_
  refine AWp.seq ?_
  by_cases hg9_1 : ((((((r1.2 == (0 : Int)) && (r2.2 == (0 : Int))) && (r3.2 == (0 : Int))) && (r4.1 == (0 : Int))) && (r5.2 == (0 : Int))) && (r6.2 == (0 : Int))) = true
  ·
    replace h := ite_t hg9_1 h
    obtain ⟨r7, hr7, h⟩ := bind_ok h
    by_cases hg9_6 : r7 = true
    ·
      replace h := ite_t hg9_6 h
      obtain ⟨r8, hr8, h⟩ := bind_ok h
      by_cases hg9_11 : r8 = true
      ·
        replace h := ite_t hg9_11 h
        obtain ⟨r9, hr9, h⟩ := bind_ok h
        by_cases hg9_16 : r9 = true
        ·
          replace h := ite_t hg9_16 h
          obtain ⟨r10, hr10, h⟩ := bind_ok h
          by_cases hg9_21 : r10 = true
          ·
            replace h := ite_t hg9_21 h
            obtain ⟨r11, hr11, h⟩ := bind_ok h
            by_cases hg9_26 : r11 = true
            ·
              replace h := ite_t hg9_26 h
              obtain ⟨r12, hr12, h⟩ := bind_ok h
              obtain ⟨r13, hr13, h⟩ := optc_some h
              have ob10 := idA (true = true)
              have ob11 : true = true → true = true → true = true := fun _ h => h
              have ob12 := idA (true = true)
              have ob13 : true = true → true = true → true = true := fun _ h => h
              have ob14 := idA (true = true)
              have ob15 : true = true → true = true → true = true := fun _ h => h
              have ob16 := idA (true = true)
              have ob17 : true = true → true = true → true = true := fun _ h => h
              have ob18 := idA (true = true)
              have ob19 : true = true → true = true → true = true := fun _ h => h
              have ob20 := idA (true = true)
              have ob21 : true = true → true = true → true = true := fun _ h => h
              have ob22 := idA ((r12 == true) = true)
              have ob23 := idA ((r12 == true) = true)
              have ob24 := bqA r12 true
              refine q2rr [] [(1, ⟨[], [], [], [], (.bool true), [], [0], []⟩), (4, ⟨(f4z1 r1), [], [], [], .bool r7, [], [73], []⟩), (6, ⟨[], [], [], [], (.bool true), [], [0], []⟩), (9, ⟨(f4z2 r2), [], [], [], .bool r8, [], [78], []⟩), (11, ⟨[], [], [], [], (.bool true), [], [0], []⟩), (14, ⟨(f4z5 r3), [], [], [], .bool r9, [], [83], []⟩), (16, ⟨[], [], [], [], (.bool true), [], [0], []⟩), (19, ⟨[q2aW r4.2, q2aW [(q2w16 6)]], [], [], [], .bool r10, [], [6001, 88], []⟩), (21, ⟨[], [], [], [], (.bool true), [], [0], []⟩), (24, ⟨[q2aW r5.1, q2aW [(q2w16 2), (q2w16 5)]], [], [], [], .bool r11, [], [93], []⟩), (26, ⟨[], [], [], [], (.bool true), [], [0], []⟩), (29, ⟨[q2aW r6.1, q2aW [(q2w16 3), (q2w16 5)]], [], [], [], .bool r12, [], [98], []⟩), (33, ⟨[q2aW r1.1], [], [], [], .str r13, [], [], [1, 4]⟩)] ⟨106, [(0, .bool (r12 && (r13 == cs1))), (1000001, .elem 32 1 T1F 0 0), (1000004, .tab .u64 Lib.pow10Tab)], [], [], 0⟩ (ac6 (show ((.bool (f4z10 r1 r2 r3 r4 r5 r6)) : V) = (.bool true) from (congrArg (fun x => ((.bool x) : V)) hg9_1)) (And.intro (cpL (c := true) [(73, .rows 30 1 3 (lstF 1 (f4z4)))] [73] [q2aW r1.1, .own 73] (fun _ => (f8_ok _ _ _ hr7)) (fun _ => ⟨.refl _, (VLe.of (RL.lst (enc := eW) [(q2w16 11), (q2w16 13), (q2w16 14)] rfl rfl (fun _ => rfl))), trivial⟩) (.inr ⟨rfl, trivial⟩)) (an1 ob10)) ob11 (show ((.bool r7) : V) = (.bool true) from (congrArg (fun x => ((.bool x) : V)) hg9_6)) (And.intro (cpL (c := true) [(78, .rows 30 1 4 (lstF 1 (f4z3)))] [78] [q2aW r2.1, .own 78] (fun _ => (f8_ok _ _ _ hr8)) (fun _ => ⟨.refl _, (VLe.of (RL.lst (enc := eW) [(q2w16 8), (q2w16 3), (q2w16 5), (q2w16 6)] rfl rfl (fun _ => rfl))), trivial⟩) (.inr ⟨rfl, trivial⟩)) (an1 ob12)) ob13 (ac6 (show ((.bool r8) : V) = (.bool true) from (congrArg (fun x => ((.bool x) : V)) hg9_11)) (And.intro (cpL (c := true) [(83, .rows 30 1 2 (lstF 1 (f4z9)))] [83] [q2aW r3.1, .own 83] (fun _ => (f8_ok _ _ _ hr9)) (fun _ => ⟨.refl _, (VLe.of (RL.lst (enc := eW) [(q2w16 2), (q2w16 4)] rfl rfl (fun _ => rfl))), trivial⟩) (.inr ⟨rfl, trivial⟩)) (an1 ob14)) ob15 (show ((.bool r9) : V) = (.bool true) from (congrArg (fun x => ((.bool x) : V)) hg9_16)) (And.intro (cpL (c := true) [(6001, q2bW_30 r4.2), (88, .rows 30 1 1 (lstF 1 [.b16 (q2w16 6)]))] [6001, 88] [.own 6001, .own 88] (fun _ => (f8_ok _ _ _ hr10)) (fun _ => ⟨.refl _, (VLe.of (RL.lst (enc := eW) [(q2w16 6)] rfl rfl (fun _ => rfl))), trivial⟩) (.inr ⟨rfl, trivial⟩)) (an1 ob16)) ob17 (ac6 (show ((.bool r10) : V) = (.bool true) from (congrArg (fun x => ((.bool x) : V)) hg9_21)) (And.intro (cpL (c := true) [(93, .rows 30 1 2 (lstF 1 [.b16 (q2w16 2), .b16 (q2w16 5)]))] [93] [q2aW r5.1, .own 93] (fun _ => (f8_ok _ _ _ hr11)) (fun _ => ⟨.refl _, (VLe.of (RL.lst (enc := eW) [(q2w16 2), (q2w16 5)] rfl rfl (fun _ => rfl))), trivial⟩) (.inr ⟨rfl, trivial⟩)) (an1 ob18)) ob19 (show ((.bool r11) : V) = (.bool true) from (congrArg (fun x => ((.bool x) : V)) hg9_26)) (And.intro (cpL (c := true) [(98, .rows 30 1 2 (lstF 1 [.b16 (q2w16 3), .b16 (q2w16 5)]))] [98] [q2aW r6.1, .own 98] (fun _ => (f8_ok _ _ _ hr12)) (fun _ => ⟨.refl _, (VLe.of (RL.lst (enc := eW) [(q2w16 3), (q2w16 5)] rfl rfl (fun _ => rfl))), trivial⟩) (.inr ⟨rfl, trivial⟩)) (an1 ob20)) ob21 (an3 (And.intro (cpC fun hc => (f7_ok _ _ (hr13 hc))) (an1 ob22)) (an1 ob23) ob24)))) ?_
              refine thenQ_normal ?_
              have hret := Option.some.inj h
              subst hret
              refine AWp.le (Le.mk (s' := ⟨106, [(0, .bool (r12 && (r13 == cs1)))], [], [], 0⟩) rfl rfl ⟨.refl _, trivial⟩ trivial) ?_
              refine AWp.ret ?_
              exact bodyQ_ret _ rfl ⟨rfl, rfl⟩ rfl
            ·
              replace h := ite_f hg9_26 h
              have ob10 := idA (true = true)
              have ob11 : true = true → true = true → true = true := fun _ h => h
              have ob12 := idA (true = true)
              have ob13 : true = true → true = true → true = true := fun _ h => h
              have ob14 := idA (true = true)
              have ob15 : true = true → true = true → true = true := fun _ h => h
              have ob16 := idA (true = true)
              have ob17 : true = true → true = true → true = true := fun _ h => h
              have ob18 := idA (true = true)
              have ob19 : true = true → true = true → true = true := fun _ h => h
              have ob20 := idA (false = true)
              have ob21 := idA (false = true)
              have ob22 : true = true → false = true → false = true := fun _ h => h
              have ob23 := idA (false = true)
              have ob24 : true = true → false = true → false = true := fun _ h => h
              refine q2rr [] [(1, ⟨[], [], [], [], (.bool true), [], [0], []⟩), (4, ⟨(f4z1 r1), [], [], [], .bool r7, [], [73], []⟩), (6, ⟨[], [], [], [], (.bool true), [], [0], []⟩), (9, ⟨(f4z2 r2), [], [], [], .bool r8, [], [78], []⟩), (11, ⟨[], [], [], [], (.bool true), [], [0], []⟩), (14, ⟨(f4z5 r3), [], [], [], .bool r9, [], [83], []⟩), (16, ⟨[], [], [], [], (.bool true), [], [0], []⟩), (19, ⟨[q2aW r4.2, q2aW [(q2w16 6)]], [], [], [], .bool r10, [], [6001, 88], []⟩), (21, ⟨[], [], [], [], (.bool true), [], [0], []⟩), (24, ⟨[q2aW r5.1, q2aW [(q2w16 2), (q2w16 5)]], [], [], [], .bool r11, [], [93], []⟩), (26, ⟨[], [], [], [], (.bool false), [], [0], []⟩), (29, ⟨[], [], [], [], .bool false, [], [], []⟩), (33, ⟨[], [], [], [], .any, [], [], []⟩)] ⟨106, [(0, .bool false), (1000001, .elem 32 1 T1F 0 0), (1000004, .tab .u64 Lib.pow10Tab)], [], [], 0⟩ (ac6 (show ((.bool (f4z10 r1 r2 r3 r4 r5 r6)) : V) = (.bool true) from (congrArg (fun x => ((.bool x) : V)) hg9_1)) (And.intro (cpL (c := true) [(73, .rows 30 1 3 (lstF 1 (f4z4)))] [73] [q2aW r1.1, .own 73] (fun _ => (f8_ok _ _ _ hr7)) (fun _ => ⟨.refl _, (VLe.of (RL.lst (enc := eW) [(q2w16 11), (q2w16 13), (q2w16 14)] rfl rfl (fun _ => rfl))), trivial⟩) (.inr ⟨rfl, trivial⟩)) (an1 ob10)) ob11 (show ((.bool r7) : V) = (.bool true) from (congrArg (fun x => ((.bool x) : V)) hg9_6)) (And.intro (cpL (c := true) [(78, .rows 30 1 4 (lstF 1 (f4z3)))] [78] [q2aW r2.1, .own 78] (fun _ => (f8_ok _ _ _ hr8)) (fun _ => ⟨.refl _, (VLe.of (RL.lst (enc := eW) [(q2w16 8), (q2w16 3), (q2w16 5), (q2w16 6)] rfl rfl (fun _ => rfl))), trivial⟩) (.inr ⟨rfl, trivial⟩)) (an1 ob12)) ob13 (ac6 (show ((.bool r8) : V) = (.bool true) from (congrArg (fun x => ((.bool x) : V)) hg9_11)) (And.intro (cpL (c := true) [(83, .rows 30 1 2 (lstF 1 (f4z9)))] [83] [q2aW r3.1, .own 83] (fun _ => (f8_ok _ _ _ hr9)) (fun _ => ⟨.refl _, (VLe.of (RL.lst (enc := eW) [(q2w16 2), (q2w16 4)] rfl rfl (fun _ => rfl))), trivial⟩) (.inr ⟨rfl, trivial⟩)) (an1 ob14)) ob15 (show ((.bool r9) : V) = (.bool true) from (congrArg (fun x => ((.bool x) : V)) hg9_16)) (And.intro (cpL (c := true) [(6001, q2bW_30 r4.2), (88, .rows 30 1 1 (lstF 1 [.b16 (q2w16 6)]))] [6001, 88] [.own 6001, .own 88] (fun _ => (f8_ok _ _ _ hr10)) (fun _ => ⟨.refl _, (VLe.of (RL.lst (enc := eW) [(q2w16 6)] rfl rfl (fun _ => rfl))), trivial⟩) (.inr ⟨rfl, trivial⟩)) (an1 ob16)) ob17 (ac6 (show ((.bool r10) : V) = (.bool true) from (congrArg (fun x => ((.bool x) : V)) hg9_21)) (And.intro (cpL (c := true) [(93, .rows 30 1 2 (lstF 1 [.b16 (q2w16 2), .b16 (q2w16 5)]))] [93] [q2aW r5.1, .own 93] (fun _ => (f8_ok _ _ _ hr11)) (fun _ => ⟨.refl _, (VLe.of (RL.lst (enc := eW) [(q2w16 2), (q2w16 5)] rfl rfl (fun _ => rfl))), trivial⟩) (.inr ⟨rfl, trivial⟩)) (an1 ob18)) ob19 (show ((.bool r11) : V) = (.bool false) from (congrArg (fun x => ((.bool x) : V)) (Bool.eq_false_iff.2 hg9_26))) (And.intro (show (callP Tryz.prog false 8 [] [] [] [] [] (f4z11 r6) [] (.bool false) []) from ⟨nofun, nofun, .inl rfl⟩) (an2 ob20 ob21)) ob22 (an2 (And.intro (show (callP Tryz.prog false 7 [] [] [] [] [] [q2aW r1.1] [] (.any) []) from ⟨nofun, nofun, .inl rfl⟩) (an1 ob23)) ob24)))) ?_
              refine thenQ_normal ?_
              have hret := Option.some.inj h
              subst hret
              refine AWp.le (Le.mk (s' := ⟨106, [(0, .bool false)], [], [], 0⟩) rfl rfl ⟨.refl _, trivial⟩ trivial) ?_
              refine AWp.ret ?_
              exact bodyQ_ret _ rfl ⟨rfl, rfl⟩ rfl
          ·
            replace h := ite_f hg9_21 h
            have ob10 := idA (true = true)
            have ob11 : true = true → true = true → true = true := fun _ h => h
            have ob12 := idA (true = true)
            have ob13 : true = true → true = true → true = true := fun _ h => h
            have ob14 := idA (true = true)
            have ob15 : true = true → true = true → true = true := fun _ h => h
            have ob16 := idA (true = true)
            have ob17 : true = true → true = true → true = true := fun _ h => h
            have ob18 := idA (false = true)
            have ob19 := idA (false = true)
            have ob20 : true = true → false = true → false = true := fun _ h => h
            have ob21 := idA (false = true)
            have ob22 := idA (false = true)
            have ob23 : true = true → false = true → false = true := fun _ h => h
            have ob24 := idA (false = true)
            have ob25 : true = true → false = true → false = true := fun _ h => h
            refine q2rr [] [(1, ⟨[], [], [], [], (.bool true), [], [0], []⟩), (4, ⟨(f4z1 r1), [], [], [], .bool r7, [], [73], []⟩), (6, ⟨[], [], [], [], (.bool true), [], [0], []⟩), (9, ⟨(f4z2 r2), [], [], [], .bool r8, [], [78], []⟩), (11, ⟨[], [], [], [], (.bool true), [], [0], []⟩), (14, ⟨(f4z5 r3), [], [], [], .bool r9, [], [83], []⟩), (16, ⟨[], [], [], [], (.bool true), [], [0], []⟩), (19, ⟨[q2aW r4.2, q2aW [(q2w16 6)]], [], [], [], .bool r10, [], [6001, 88], []⟩), (21, ⟨[], [], [], [], (.bool false), [], [0], []⟩), (24, ⟨[], [], [], [], .bool false, [], [], []⟩), (29, ⟨[], [], [], [], .bool false, [], [], []⟩), (33, ⟨[], [], [], [], .any, [], [], []⟩)] ⟨106, [(0, .bool false), (1000001, .elem 32 1 T1F 0 0), (1000004, .tab .u64 Lib.pow10Tab)], [], [], 0⟩ (ac6 (show ((.bool (f4z10 r1 r2 r3 r4 r5 r6)) : V) = (.bool true) from (congrArg (fun x => ((.bool x) : V)) hg9_1)) (And.intro (cpL (c := true) [(73, .rows 30 1 3 (lstF 1 (f4z4)))] [73] [q2aW r1.1, .own 73] (fun _ => (f8_ok _ _ _ hr7)) (fun _ => ⟨.refl _, (VLe.of (RL.lst (enc := eW) [(q2w16 11), (q2w16 13), (q2w16 14)] rfl rfl (fun _ => rfl))), trivial⟩) (.inr ⟨rfl, trivial⟩)) (an1 ob10)) ob11 (show ((.bool r7) : V) = (.bool true) from (congrArg (fun x => ((.bool x) : V)) hg9_6)) (And.intro (cpL (c := true) [(78, .rows 30 1 4 (lstF 1 (f4z3)))] [78] [q2aW r2.1, .own 78] (fun _ => (f8_ok _ _ _ hr8)) (fun _ => ⟨.refl _, (VLe.of (RL.lst (enc := eW) [(q2w16 8), (q2w16 3), (q2w16 5), (q2w16 6)] rfl rfl (fun _ => rfl))), trivial⟩) (.inr ⟨rfl, trivial⟩)) (an1 ob12)) ob13 (ac6 (show ((.bool r8) : V) = (.bool true) from (congrArg (fun x => ((.bool x) : V)) hg9_11)) (And.intro (cpL (c := true) [(83, .rows 30 1 2 (lstF 1 (f4z9)))] [83] [q2aW r3.1, .own 83] (fun _ => (f8_ok _ _ _ hr9)) (fun _ => ⟨.refl _, (VLe.of (RL.lst (enc := eW) [(q2w16 2), (q2w16 4)] rfl rfl (fun _ => rfl))), trivial⟩) (.inr ⟨rfl, trivial⟩)) (an1 ob14)) ob15 (show ((.bool r9) : V) = (.bool true) from (congrArg (fun x => ((.bool x) : V)) hg9_16)) (And.intro (cpL (c := true) [(6001, q2bW_30 r4.2), (88, .rows 30 1 1 (lstF 1 [.b16 (q2w16 6)]))] [6001, 88] [.own 6001, .own 88] (fun _ => (f8_ok _ _ _ hr10)) (fun _ => ⟨.refl _, (VLe.of (RL.lst (enc := eW) [(q2w16 6)] rfl rfl (fun _ => rfl))), trivial⟩) (.inr ⟨rfl, trivial⟩)) (an1 ob16)) ob17 (ac6 (show ((.bool r10) : V) = (.bool false) from (congrArg (fun x => ((.bool x) : V)) (Bool.eq_false_iff.2 hg9_21))) (And.intro (show (callP Tryz.prog false 8 [] [] [] [] [] [q2aW r5.1, .bool false] [] (.bool false) []) from ⟨nofun, nofun, .inl rfl⟩) (an2 ob18 ob19)) ob20 (And.intro (show (callP Tryz.prog false 8 [] [] [] [] [] (f4z11 r6) [] (.bool false) []) from ⟨nofun, nofun, .inl rfl⟩) (an2 ob21 ob22)) ob23 (And.intro (show (callP Tryz.prog false 7 [] [] [] [] [] [q2aW r1.1] [] (.any) []) from ⟨nofun, nofun, .inl rfl⟩) (an1 ob24)) (an1 ob25)))) ?_
            refine thenQ_normal ?_
            have hret := Option.some.inj h
            subst hret
            refine AWp.le (Le.mk (s' := ⟨106, [(0, .bool false)], [], [], 0⟩) rfl rfl ⟨.refl _, trivial⟩ trivial) ?_
            refine AWp.ret ?_
            exact bodyQ_ret _ rfl ⟨rfl, rfl⟩ rfl
        ·
          replace h := ite_f hg9_16 h
          have ob10 := idA (true = true)
          have ob11 : true = true → true = true → true = true := fun _ h => h
          have ob12 := idA (true = true)
          have ob13 : true = true → true = true → true = true := fun _ h => h
          have ob14 := idA (true = true)
          have ob15 : true = true → true = true → true = true := fun _ h => h
          have ob16 := idA (false = true)
          have ob17 := idA (false = true)
          have ob18 : true = true → false = true → false = true := fun _ h => h
          have ob19 := idA (false = true)
          have ob20 := idA (false = true)
          have ob21 : true = true → false = true → false = true := fun _ h => h
          have ob22 := idA (false = true)
          have ob23 := idA (false = true)
          have ob24 : true = true → false = true → false = true := fun _ h => h
          have ob25 := idA (false = true)
          have ob26 : true = true → false = true → false = true := fun _ h => h
          refine q2rr [] [(1, ⟨[], [], [], [], (.bool true), [], [0], []⟩), (4, ⟨(f4z1 r1), [], [], [], .bool r7, [], [73], []⟩), (6, ⟨[], [], [], [], (.bool true), [], [0], []⟩), (9, ⟨(f4z2 r2), [], [], [], .bool r8, [], [78], []⟩), (11, ⟨[], [], [], [], (.bool true), [], [0], []⟩), (14, ⟨(f4z5 r3), [], [], [], .bool r9, [], [83], []⟩), (16, ⟨[], [], [], [], (.bool false), [], [0], []⟩), (19, ⟨[], [], [], [], .bool false, [], [], []⟩), (24, ⟨[], [], [], [], .bool false, [], [], []⟩), (29, ⟨[], [], [], [], .bool false, [], [], []⟩), (33, ⟨[], [], [], [], .any, [], [], []⟩)] ⟨106, [(0, .bool false), (1000001, .elem 32 1 T1F 0 0), (1000004, .tab .u64 Lib.pow10Tab)], [], [], 0⟩ (ac6 (show ((.bool (f4z10 r1 r2 r3 r4 r5 r6)) : V) = (.bool true) from (congrArg (fun x => ((.bool x) : V)) hg9_1)) (And.intro (cpL (c := true) [(73, .rows 30 1 3 (lstF 1 (f4z4)))] [73] [q2aW r1.1, .own 73] (fun _ => (f8_ok _ _ _ hr7)) (fun _ => ⟨.refl _, (VLe.of (RL.lst (enc := eW) [(q2w16 11), (q2w16 13), (q2w16 14)] rfl rfl (fun _ => rfl))), trivial⟩) (.inr ⟨rfl, trivial⟩)) (an1 ob10)) ob11 (show ((.bool r7) : V) = (.bool true) from (congrArg (fun x => ((.bool x) : V)) hg9_6)) (And.intro (cpL (c := true) [(78, .rows 30 1 4 (lstF 1 (f4z3)))] [78] [q2aW r2.1, .own 78] (fun _ => (f8_ok _ _ _ hr8)) (fun _ => ⟨.refl _, (VLe.of (RL.lst (enc := eW) [(q2w16 8), (q2w16 3), (q2w16 5), (q2w16 6)] rfl rfl (fun _ => rfl))), trivial⟩) (.inr ⟨rfl, trivial⟩)) (an1 ob12)) ob13 (ac6 (show ((.bool r8) : V) = (.bool true) from (congrArg (fun x => ((.bool x) : V)) hg9_11)) (And.intro (cpL (c := true) [(83, .rows 30 1 2 (lstF 1 (f4z9)))] [83] [q2aW r3.1, .own 83] (fun _ => (f8_ok _ _ _ hr9)) (fun _ => ⟨.refl _, (VLe.of (RL.lst (enc := eW) [(q2w16 2), (q2w16 4)] rfl rfl (fun _ => rfl))), trivial⟩) (.inr ⟨rfl, trivial⟩)) (an1 ob14)) ob15 (show ((.bool r9) : V) = (.bool false) from (congrArg (fun x => ((.bool x) : V)) (Bool.eq_false_iff.2 hg9_16))) (And.intro (show (callP Tryz.prog false 8 [] [] [] [] [] [.own 6001, .bool false] [] (.bool false) []) from ⟨nofun, nofun, .inl rfl⟩) (an2 ob16 ob17)) ob18 (an6 (And.intro (show (callP Tryz.prog false 8 [] [] [] [] [] [q2aW r5.1, .bool false] [] (.bool false) []) from ⟨nofun, nofun, .inl rfl⟩) (an2 ob19 ob20)) ob21 (And.intro (show (callP Tryz.prog false 8 [] [] [] [] [] (f4z11 r6) [] (.bool false) []) from ⟨nofun, nofun, .inl rfl⟩) (an2 ob22 ob23)) ob24 (And.intro (show (callP Tryz.prog false 7 [] [] [] [] [] [q2aW r1.1] [] (.any) []) from ⟨nofun, nofun, .inl rfl⟩) (an1 ob25)) ob26))) ?_
          refine thenQ_normal ?_
          have hret := Option.some.inj h
          subst hret
          refine AWp.le (Le.mk (s' := ⟨106, [(0, .bool false)], [], [], 0⟩) rfl rfl ⟨.refl _, trivial⟩ trivial) ?_
          refine AWp.ret ?_
          exact bodyQ_ret _ rfl ⟨rfl, rfl⟩ rfl
      ·
        replace h := ite_f hg9_11 h
        have ob10 := idA (true = true)
        have ob11 : true = true → true = true → true = true := fun _ h => h
        have ob12 := idA (true = true)
        have ob13 : true = true → true = true → true = true := fun _ h => h
        have ob14 := idA (false = true)
        have ob15 := idA (false = true)
        have ob16 : true = true → false = true → false = true := fun _ h => h
        have ob17 := idA (false = true)
        have ob18 := idA (false = true)
        have ob19 : true = true → false = true → false = true := fun _ h => h
        have ob20 := idA (false = true)
        have ob21 := idA (false = true)
        have ob22 : true = true → false = true → false = true := fun _ h => h
        have ob23 := idA (false = true)
        have ob24 := idA (false = true)
        have ob25 : true = true → false = true → false = true := fun _ h => h
        have ob26 := idA (false = true)
        have ob27 : true = true → false = true → false = true := fun _ h => h
        refine q2rr [] [(1, ⟨[], [], [], [], (.bool true), [], [0], []⟩), (4, ⟨(f4z1 r1), [], [], [], .bool r7, [], [73], []⟩), (6, ⟨[], [], [], [], (.bool true), [], [0], []⟩), (9, ⟨(f4z2 r2), [], [], [], .bool r8, [], [78], []⟩), (11, ⟨[], [], [], [], (.bool false), [], [0], []⟩), (14, ⟨[], [], [], [], .bool false, [], [], []⟩), (19, ⟨[], [], [], [], .bool false, [], [], []⟩), (24, ⟨[], [], [], [], .bool false, [], [], []⟩), (29, ⟨[], [], [], [], .bool false, [], [], []⟩), (33, ⟨[], [], [], [], .any, [], [], []⟩)] ⟨106, [(0, .bool false), (1000001, .elem 32 1 T1F 0 0), (1000004, .tab .u64 Lib.pow10Tab)], [], [], 0⟩ (ac6 (show ((.bool (f4z10 r1 r2 r3 r4 r5 r6)) : V) = (.bool true) from (congrArg (fun x => ((.bool x) : V)) hg9_1)) (And.intro (cpL (c := true) [(73, .rows 30 1 3 (lstF 1 (f4z4)))] [73] [q2aW r1.1, .own 73] (fun _ => (f8_ok _ _ _ hr7)) (fun _ => ⟨.refl _, (VLe.of (RL.lst (enc := eW) [(q2w16 11), (q2w16 13), (q2w16 14)] rfl rfl (fun _ => rfl))), trivial⟩) (.inr ⟨rfl, trivial⟩)) (an1 ob10)) ob11 (show ((.bool r7) : V) = (.bool true) from (congrArg (fun x => ((.bool x) : V)) hg9_6)) (And.intro (cpL (c := true) [(78, .rows 30 1 4 (lstF 1 (f4z3)))] [78] [q2aW r2.1, .own 78] (fun _ => (f8_ok _ _ _ hr8)) (fun _ => ⟨.refl _, (VLe.of (RL.lst (enc := eW) [(q2w16 8), (q2w16 3), (q2w16 5), (q2w16 6)] rfl rfl (fun _ => rfl))), trivial⟩) (.inr ⟨rfl, trivial⟩)) (an1 ob12)) ob13 (ac6 (show ((.bool r8) : V) = (.bool false) from (congrArg (fun x => ((.bool x) : V)) (Bool.eq_false_iff.2 hg9_11))) (And.intro (show (callP Tryz.prog false 8 [] [] [] [] [] [q2aW r3.1, .bool false] [] (.bool false) []) from ⟨nofun, nofun, .inl rfl⟩) (an2 ob14 ob15)) ob16 (And.intro (show (callP Tryz.prog false 8 [] [] [] [] [] [.own 6001, .bool false] [] (.bool false) []) from ⟨nofun, nofun, .inl rfl⟩) (an2 ob17 ob18)) ob19 (And.intro (show (callP Tryz.prog false 8 [] [] [] [] [] [q2aW r5.1, .bool false] [] (.bool false) []) from ⟨nofun, nofun, .inl rfl⟩) (an2 ob20 ob21)) (an5 ob22 (And.intro (show (callP Tryz.prog false 8 [] [] [] [] [] (f4z11 r6) [] (.bool false) []) from ⟨nofun, nofun, .inl rfl⟩) (an2 ob23 ob24)) ob25 (And.intro (show (callP Tryz.prog false 7 [] [] [] [] [] [q2aW r1.1] [] (.any) []) from ⟨nofun, nofun, .inl rfl⟩) (an1 ob26)) ob27))) ?_
        refine thenQ_normal ?_
        have hret := Option.some.inj h
        subst hret
        refine AWp.le (Le.mk (s' := ⟨106, [(0, .bool false)], [], [], 0⟩) rfl rfl ⟨.refl _, trivial⟩ trivial) ?_
        refine AWp.ret ?_
        exact bodyQ_ret _ rfl ⟨rfl, rfl⟩ rfl
    ·
      replace h := ite_f hg9_6 h
      have ob10 := idA (true = true)
      have ob11 : true = true → true = true → true = true := fun _ h => h
      have ob12 := idA (false = true)
      have ob13 := idA (false = true)
      have ob14 : true = true → false = true → false = true := fun _ h => h
      have ob15 := idA (false = true)
      have ob16 := idA (false = true)
      have ob17 : true = true → false = true → false = true := fun _ h => h
      have ob18 := idA (false = true)
      have ob19 := idA (false = true)
      have ob20 : true = true → false = true → false = true := fun _ h => h
      have ob21 := idA (false = true)
      have ob22 := idA (false = true)
      have ob23 : true = true → false = true → false = true := fun _ h => h
      have ob24 := idA (false = true)
      have ob25 := idA (false = true)
      have ob26 : true = true → false = true → false = true := fun _ h => h
      have ob27 := idA (false = true)
      have ob28 : true = true → false = true → false = true := fun _ h => h
      refine q2rr [] [(1, ⟨[], [], [], [], (.bool true), [], [0], []⟩), (4, ⟨(f4z1 r1), [], [], [], .bool r7, [], [73], []⟩), (6, ⟨[], [], [], [], (.bool false), [], [0], []⟩), (9, ⟨[], [], [], [], .bool false, [], [], []⟩), (14, ⟨[], [], [], [], .bool false, [], [], []⟩), (19, ⟨[], [], [], [], .bool false, [], [], []⟩), (24, ⟨[], [], [], [], .bool false, [], [], []⟩), (29, ⟨[], [], [], [], .bool false, [], [], []⟩), (33, ⟨[], [], [], [], .any, [], [], []⟩)] ⟨106, [(0, .bool false), (1000001, .elem 32 1 T1F 0 0), (1000004, .tab .u64 Lib.pow10Tab)], [], [], 0⟩ (ac6 (show ((.bool (f4z10 r1 r2 r3 r4 r5 r6)) : V) = (.bool true) from (congrArg (fun x => ((.bool x) : V)) hg9_1)) (And.intro (cpL (c := true) [(73, .rows 30 1 3 (lstF 1 (f4z4)))] [73] [q2aW r1.1, .own 73] (fun _ => (f8_ok _ _ _ hr7)) (fun _ => ⟨.refl _, (VLe.of (RL.lst (enc := eW) [(q2w16 11), (q2w16 13), (q2w16 14)] rfl rfl (fun _ => rfl))), trivial⟩) (.inr ⟨rfl, trivial⟩)) (an1 ob10)) ob11 (show ((.bool r7) : V) = (.bool false) from (congrArg (fun x => ((.bool x) : V)) (Bool.eq_false_iff.2 hg9_6))) (And.intro (show (callP Tryz.prog false 8 [] [] [] [] [] [q2aW r2.1, .bool false] [] (.bool false) []) from ⟨nofun, nofun, .inl rfl⟩) (an2 ob12 ob13)) ob14 (ac6 (And.intro (show (callP Tryz.prog false 8 [] [] [] [] [] [q2aW r3.1, .bool false] [] (.bool false) []) from ⟨nofun, nofun, .inl rfl⟩) (an2 ob15 ob16)) ob17 (And.intro (show (callP Tryz.prog false 8 [] [] [] [] [] [.own 6001, .bool false] [] (.bool false) []) from ⟨nofun, nofun, .inl rfl⟩) (an2 ob18 ob19)) ob20 (And.intro (show (callP Tryz.prog false 8 [] [] [] [] [] [q2aW r5.1, .bool false] [] (.bool false) []) from ⟨nofun, nofun, .inl rfl⟩) (an2 ob21 ob22)) ob23 (an4 (And.intro (show (callP Tryz.prog false 8 [] [] [] [] [] (f4z11 r6) [] (.bool false) []) from ⟨nofun, nofun, .inl rfl⟩) (an2 ob24 ob25)) ob26 (And.intro (show (callP Tryz.prog false 7 [] [] [] [] [] [q2aW r1.1] [] (.any) []) from ⟨nofun, nofun, .inl rfl⟩) (an1 ob27)) ob28))) ?_
      refine thenQ_normal ?_
      have hret := Option.some.inj h
      subst hret
      refine AWp.le (Le.mk (s' := ⟨106, [(0, .bool false)], [], [], 0⟩) rfl rfl ⟨.refl _, trivial⟩ trivial) ?_
      refine AWp.ret ?_
      exact bodyQ_ret _ rfl ⟨rfl, rfl⟩ rfl
  ·
    replace h := ite_f hg9_1 h
    have ob10 := idA (false = true)
    have ob11 := idA (false = true)
    have ob12 : true = true → false = true → false = true := fun _ h => h
    have ob13 := idA (false = true)
    have ob14 := idA (false = true)
    have ob15 : true = true → false = true → false = true := fun _ h => h
    have ob16 := idA (false = true)
    have ob17 := idA (false = true)
    have ob18 : true = true → false = true → false = true := fun _ h => h
    have ob19 := idA (false = true)
    have ob20 := idA (false = true)
    have ob21 : true = true → false = true → false = true := fun _ h => h
    have ob22 := idA (false = true)
    have ob23 := idA (false = true)
    have ob24 : true = true → false = true → false = true := fun _ h => h
    have ob25 := idA (false = true)
    have ob26 := idA (false = true)
    have ob27 : true = true → false = true → false = true := fun _ h => h
    have ob28 := idA (false = true)
    have ob29 : true = true → false = true → false = true := fun _ h => h
    refine q2rr [] [(1, ⟨[], [], [], [], (.bool false), [], [0], []⟩), (4, ⟨[], [], [], [], .bool false, [], [], []⟩), (9, ⟨[], [], [], [], .bool false, [], [], []⟩), (14, ⟨[], [], [], [], .bool false, [], [], []⟩), (19, ⟨[], [], [], [], .bool false, [], [], []⟩), (24, ⟨[], [], [], [], .bool false, [], [], []⟩), (29, ⟨[], [], [], [], .bool false, [], [], []⟩), (33, ⟨[], [], [], [], .any, [], [], []⟩)] ⟨106, [(0, .bool false), (1000001, .elem 32 1 T1F 0 0), (1000004, .tab .u64 Lib.pow10Tab)], [], [], 0⟩ (ac6 (show ((.bool (f4z10 r1 r2 r3 r4 r5 r6)) : V) = (.bool false) from (congrArg (fun x => ((.bool x) : V)) (Bool.eq_false_iff.2 hg9_1))) (And.intro (show (callP Tryz.prog false 8 [] [] [] [] [] [q2aW r1.1, .bool false] [] (.bool false) []) from ⟨nofun, nofun, .inl rfl⟩) (an2 ob10 ob11)) ob12 (And.intro (show (callP Tryz.prog false 8 [] [] [] [] [] [q2aW r2.1, .bool false] [] (.bool false) []) from ⟨nofun, nofun, .inl rfl⟩) (an2 ob13 ob14)) ob15 (And.intro (show (callP Tryz.prog false 8 [] [] [] [] [] [q2aW r3.1, .bool false] [] (.bool false) []) from ⟨nofun, nofun, .inl rfl⟩) (an2 ob16 ob17)) (ac6 ob18 (And.intro (show (callP Tryz.prog false 8 [] [] [] [] [] [.own 6001, .bool false] [] (.bool false) []) from ⟨nofun, nofun, .inl rfl⟩) (an2 ob19 ob20)) ob21 (And.intro (show (callP Tryz.prog false 8 [] [] [] [] [] [q2aW r5.1, .bool false] [] (.bool false) []) from ⟨nofun, nofun, .inl rfl⟩) (an2 ob22 ob23)) ob24 (And.intro (show (callP Tryz.prog false 8 [] [] [] [] [] (f4z11 r6) [] (.bool false) []) from ⟨nofun, nofun, .inl rfl⟩) (an2 ob25 ob26)) (an3 ob27 (And.intro (show (callP Tryz.prog false 7 [] [] [] [] [] [q2aW r1.1] [] (.any) []) from ⟨nofun, nofun, .inl rfl⟩) (an1 ob28)) ob29))) ?_
    refine thenQ_normal ?_
    have hret := Option.some.inj h
    subst hret
    refine AWp.le (Le.mk (s' := ⟨106, [(0, .bool false)], [], [], 0⟩) rfl rfl ⟨.refl _, trivial⟩ trivial) ?_
    refine AWp.ret ?_
    exact bodyQ_ret _ rfl ⟨rfl, rfl⟩ rfl
def f17 (x1 : List UInt8) (x2 : Int) : Option Int := ixbO x1 x2
theorem f17_ok (x1 : List UInt8) (x2 r : Int) (h : f17 x1 x2 = some r) : Spec1 Tryz.prog 17 [] [] [] [.str x1, .int .u8 x2] (.int .i64 r) [] :=
  ixb_spec (fun s c w => Any.strings_IndexByte Tryz.lays137 s c w) x1 x2 r h
def f37 (x1 : Int) : Option Bool :=
  some ((decide (x1 < (48 : Int))) || (decide (x1 > (57 : Int))))
set_option maxRecDepth 100000 in
theorem f37_ok  (x1 : Int) (r : Bool) (h : f37 x1 = some r)  : Spec1 Tryz.prog 37 [] [] [] [.int .i32 x1] (.bool r) [] := by
  unfold f37 at h
  refine Spec1.body 0 _ _ Tryz.func37 rfl Tryz.ntmps37 rfl rfl ?_
  refine q2rq [] [] ⟨9, [(0, .int .i32 x1)], [], [], 0⟩ trivial ?_
  refine AWp.seq ?_
  have ob0 := idA (((decide (x1 < (48 : Int))) == false) = true)
  have ob1 := bqA (decide (x1 < (48 : Int))) false
  refine q2rr [] [] ⟨9, [(2, .bool ((decide (x1 < (48 : Int))) || (decide (x1 > (57 : Int)))))], [], [], 0⟩ (an2 (an1 ob0) ob1) ?_
  refine thenQ_normal ?_
  have hret := Option.some.inj h
  subst hret
  refine AWp.le (Le.mk (s' := ⟨9, [(2, .bool ((decide (x1 < (48 : Int))) || (decide (x1 > (57 : Int)))))], [], [], 0⟩) rfl rfl ⟨.refl _, trivial⟩ trivial) ?_
  refine AWp.ret ?_
  exact bodyQ_ret _ rfl ⟨rfl, rfl⟩ rfl
def f36 (x1 : List UInt8) : Option (List (List UInt8)) := fieldsO (fun x => (f37 (x : Int)).getD false) x1
theorem f36_ok (x1 : List UInt8) (r : List (List UInt8)) (h : f36 x1 = some r) : Spec1 Tryz.prog 36 [] [] [] [.str x1, .fn (.func 37) []] (.own 3000) [(3000, bL 9 1 eS [] r)] :=
  fields_spec 9 _ (fun s w hs hp => Any.strings_FieldsFunc_grows Tryz.lays229 37 #[] (Go.Proofs.enters_of Tryz.func37 (by kernel_rfl) rfl) _ s w hs hp (by kernel_rfl) (by kernel_rfl)) (fun x _ => f37_ok (x : Int) _ rfl) x1 r h
def f38 (x1 : List UInt8) : Option (Int × Bool) := atoiO x1
theorem f38_ok (x1 : List UInt8) (r : Int × Bool) (h : f38 x1 = some r) : Spec1 Tryz.prog 38 [(2, errG), (3, errG)] [] [] [.str x1] (.tup [.int .i64 r.1, .ifc r.2]) [] :=
  atoi_spec Tryz.lays172 rfl rfl rfl x1 r h
def f18_L0 (K1 : (BitVec 16) → Option (BitVec 16 × Int)) (r2 : List (List UInt8)) : Nat → (BitVec 16 × Nat) → Option (BitVec 16 × Int)
  | 0, _ => none
  | k + 1, (w3, n4) =>
    if (decide ((n4 : Int) < (((r2).length : Nat) : Int))) then (
    chk ((n4 : Int) < (((r2).length : Nat) : Int)) <|
    chk (n4 < (r2).length) <|
    (f38 (r2.getD n4 [])).bind fun (r5 : Int × Bool) =>
    if (r5.2 || (decide (r5.1 ≥ (12 : Int)))) then (
    some ((BitVec.ofInt 16 0), (2 : Int))
    ) else (
    chk (0 ≤ r5.1) <|
    chk (((n4 : Int) + (1 : Int)) ≤ 9223372036854775807) <|
    (f18_L0 K1 r2 k) ((w3 ||| ((BitVec.ofInt 16 1) <<< ((r5.1).toNat))), (n4 + 1))
    )
    ) else (
    K1 w3
    )
abbrev f18z0 (r2 : List (List UInt8)) : Heap := [(6001, bL 9 1 eS [] r2)]
def f18 (x1 : List UInt8) : Option (BitVec 16 × Int) :=
  jn (fun (w6 : BitVec 16) =>
  (f25 w6).bind fun (r7 : List UInt8) =>
  if (!(r7 == x1)) then (
  some ((BitVec.ofInt 16 0), (2 : Int))
  ) else (
  some (w6, (0 : Int))
  )
  ) fun (K1 : (BitVec 16) → Option (BitVec 16 × Int)) =>
  (f36 x1).bind fun (r2 : List (List UInt8)) =>
  f18_L0 K1 r2 FUEL ((BitVec.ofInt 16 0), 0)
set_option maxRecDepth 100000 in
theorem f18_ok  (x1 : List UInt8) (r : BitVec 16 × Int) (h : f18 x1 = some r)  : Spec1 Tryz.prog 18 [(1, .elem 32 1 T1F 0 0), (2, errG), (3, errG), (4, .tab .u64 Lib.pow10Tab)] [] [] [.str x1] (.tup [.b16 r.1, .int .i64 r.2]) [] := by
  unfold f18 at h
  refine Spec1.body 0 _ _ Tryz.func18 rfl Tryz.ntmps18 rfl rfl ?_
  refine q2rq [] [] ⟨37, [(0, .str x1), (1000001, .elem 32 1 T1F 0 0), (1000002, errG), (1000003, errG), (1000004, .tab .u64 Lib.pow10Tab)], [], [], 0⟩ trivial ?_
  refine q2rq [] [] ⟨37, [(0, .str x1), (4, .b16 (q2w16 0)), (1000001, .elem 32 1 T1F 0 0), (1000002, errG), (1000003, errG), (1000004, .tab .u64 Lib.pow10Tab)], [], [], 0⟩ trivial ?_
  obtain ⟨K1, hK1, h⟩ := jn_some h
  refine AWp.join (α := BitVec 16) (fun (w6 : BitVec 16) => ⟨37, [(0, .str x1), (4, .b16 w6), (1000001, .elem 32 1 T1F 0 0), (1000002, errG), (1000003, errG), (1000004, .tab .u64 Lib.pow10Tab)], [], [], 0⟩) (fun x => K1 x = some r) ?_ ?_
  ·
    refine AWp.seq ?_
    obtain ⟨r2, hr2, h⟩ := bind_ok h
    refine q2rr [] [(1, ⟨[.str x1, .fn (.func 37) []], [], [], (f18z0 r2), .own 6001, [6001], [], []⟩)] ⟨37, [(0, .str x1), (4, .b16 (q2w16 0)), (10, .own 6001), (11, .i (lZ r2)), (12, .i (0 : Int)), (1000001, .elem 32 1 T1F 0 0), (1000002, errG), (1000003, errG), (1000004, .tab .u64 Lib.pow10Tab)], (f18z0 r2), [], 0⟩ (an1 (cpT (Spec1.ren (swapN 3000 6001) (swapN_inv 3000 6001) rfl (f36_ok _ _ hr2)))) ?_
    refine thenQ_normal ?_
    refine AWp.block ?_
    refine AWp.loopL (α := Nat × (BitVec 16 × Nat)) (fun x => match x with | (_, w3, n4) => ⟨37, [(0, .str x1), (4, .b16 w3), (10, .own 6001), (11, .i (lZ r2)), (12, .i (n4 : Int)), (1000001, .elem 32 1 T1F 0 0), (1000002, errG), (1000003, errG), (1000004, .tab .u64 Lib.pow10Tab)], (f18z0 r2), [], 0⟩) (fun x => f18_L0 K1 r2 x.1 x.2 = some r) (fun x => x.1) (FUEL, (q2w16 0), 0) (Le.mk (s' := ⟨37, [(0, .str x1), (4, .b16 (q2w16 0)), (10, .own 6001), (11, .i (lZ r2)), (12, .i (0 : Int)), (1000001, .elem 32 1 T1F 0 0), (1000002, errG), (1000003, errG), (1000004, .tab .u64 Lib.pow10Tab)], (f18z0 r2), [], 0⟩) rfl rfl ⟨.refl _, .refl _, .refl _, .refl _, .refl _, .refl _, .refl _, .refl _, .refl _, trivial⟩ ⟨⟨_, rfl, .refl _⟩, trivial⟩) h ?_
    rintro ⟨k0, w3, n4⟩ h
    cases k0 with
    | zero => exact nomatch (show (none : Option (BitVec 16 × Int)) = some r from h)
    | succ k0 =>
    obtain ⟨C0, hC0⟩ : ∃ C, C = f18_L0 K1 r2 k0 := ⟨_, rfl⟩
    replace h := (f18_L0.eq_2 ..).symm.trans h
    try rw [← hC0] at h
    refine q2rq [] [] ⟨37, [(0, .str x1), (4, .b16 w3), (10, .own 6001), (11, .i (lZ r2)), (12, .i (n4 : Int)), (13, .bool (decide ((n4 : Int) < (lZ r2)))), (1000001, .elem 32 1 T1F 0 0), (1000002, errG), (1000003, errG), (1000004, .tab .u64 Lib.pow10Tab)], (f18z0 r2), [], 0⟩ trivial ?_
    refine AWp.seq ?_
    refine AWp.cond (b := (decide ((n4 : Int) < (lZ r2)))) (by kernel_rfl) (fun hc1 => ?_) (fun hc1 => ?_)
    ·
      replace h := ite_tb hc1 h
      refine AWp.skip ?_
      refine thenQ_normal ?_
      refine AWp.seq ?_
      refine AWp.block ?_
      refine AWp.seq ?_
      obtain ⟨ob0p, h⟩ := chk_some h
      have ob0 : 0 ≤ (n4 : Int) ∧ (n4 : Int) < (((r2).length : Nat) : Int) := ⟨by omega, ob0p⟩
      obtain ⟨ob1, h⟩ := chk_some h
      refine q2rr [] [] ⟨37, [(0, .str x1), (4, .b16 w3), (6, .str (r2.getD n4 [])), (10, .own 6001), (11, .i (lZ r2)), (12, .i (n4 : Int)), (1000001, .elem 32 1 T1F 0 0), (1000002, errG), (1000003, errG), (1000004, .tab .u64 Lib.pow10Tab)], (f18z0 r2), [], 0⟩ (an2 ob0 ob1) ?_
      refine thenQ_normal ?_
      refine AWp.seq ?_
      obtain ⟨r5, hr5, h⟩ := bind_ok h
      refine q2rr [] [(1, ⟨[.str (r2.getD n4 [])], [], [], [], .tup [.i r5.1, .ifc r5.2], [], [], [2, 3]⟩)] ⟨37, [(0, .str x1), (4, .b16 w3), (7, .i r5.1), (8, .ifc r5.2), (10, .own 6001), (11, .i (lZ r2)), (12, .i (n4 : Int)), (1000001, .elem 32 1 T1F 0 0), (1000002, errG), (1000003, errG), (1000004, .tab .u64 Lib.pow10Tab)], (f18z0 r2), [], 0⟩ (an1 (cpT (f38_ok _ _ hr5))) ?_
      refine thenQ_normal ?_
      refine AWp.seq ?_
      refine AWp.seq ?_
      have ob2 := idA ((r5.2 == false) = true)
      have ob3 := bqA (r5.2) false
      refine q2rr [] [(1, ⟨[.ifc r5.2, .lit (.nilIface)], [], [], [], .bool r5.2, [], [], []⟩)] ⟨37, [(0, .str x1), (4, .b16 w3), (7, .i r5.1), (10, .own 6001), (11, .i (lZ r2)), (12, .i (n4 : Int)), (26, .bool (r5.2 || (decide (r5.1 ≥ (12 : Int))))), (1000001, .elem 32 1 T1F 0 0), (1000002, errG), (1000003, errG), (1000004, .tab .u64 Lib.pow10Tab)], (f18z0 r2), [], 0⟩ (an3 (And.intro (ifcN_spec (P := Tryz.prog) Tryz.underlying56 (.tmp 21) 56 4 r5.2) (VLes.same [.ifc r5.2, .lit (.nilIface)])) (an1 ob2) ob3) ?_
      refine thenQ_normal ?_
      refine AWp.cond (b := (r5.2 || (decide (r5.1 ≥ (12 : Int))))) (by kernel_rfl) (fun hc2 => ?_) (fun hc2 => ?_)
      ·
        replace h := ite_tb hc2 h
        refine q2rq [] [] ⟨37, [(2, .b16 (q2w16 0)), (3, .i (2 : Int)), (1000001, .elem 32 1 T1F 0 0), (1000002, errG), (1000003, errG), (1000004, .tab .u64 Lib.pow10Tab)], [], [], 0⟩ trivial ?_
        have hret := Option.some.inj h
        subst hret
        refine AWp.le (Le.mk (s' := ⟨37, [(2, .b16 (q2w16 0)), (3, .i (2 : Int))], [], [], 0⟩) rfl rfl ⟨.refl _, .refl _, trivial⟩ trivial) ?_
        refine AWp.ret ?_
        refine thenQ_ret ?_
        refine blockQ_ret ?_
        refine thenQ_ret ?_
        refine thenQ_ret ?_
        refine blockQ_ret ?_
        refine joinQ_ret ?_
        exact bodyQ_ret _ rfl ⟨rfl, rfl⟩ rfl
      ·
        replace h := ite_fb hc2 h
        refine AWp.skip ?_
        refine thenQ_normal ?_
        obtain ⟨ob4, h⟩ := chk_some h
        refine q2rr [] [] ⟨37, [(0, .str x1), (4, .b16 (w3 ||| ((q2w16 1) <<< ((r5.1).toNat)))), (10, .own 6001), (11, .i (lZ r2)), (12, .i (n4 : Int)), (1000001, .elem 32 1 T1F 0 0), (1000002, errG), (1000003, errG), (1000004, .tab .u64 Lib.pow10Tab)], (f18z0 r2), [], 0⟩ (an1 ob4) ?_
        refine blockQ_normal ?_
        refine thenQ_normal ?_
        obtain ⟨ob5p, h⟩ := chk_some h
        have ob5 : -9223372036854775808 ≤ ((n4 : Int) + (1 : Int)) ∧ ((n4 : Int) + (1 : Int)) ≤ 9223372036854775807 := ⟨by omega, ob5p⟩
        refine q2rr [] [] ⟨37, [(0, .str x1), (4, .b16 (w3 ||| ((q2w16 1) <<< ((r5.1).toNat)))), (10, .own 6001), (11, .i (lZ r2)), (12, .i (((n4 + 1) : Nat) : Int)), (1000001, .elem 32 1 T1F 0 0), (1000002, errG), (1000003, errG), (1000004, .tab .u64 Lib.pow10Tab)], (f18z0 r2), [], 0⟩ (an1 ob5) ?_
        rw [hC0] at h
        exact loopQ_normal (_, (w3 ||| ((q2w16 1) <<< ((r5.1).toNat))), (n4 + 1)) (Le.mk rfl rfl ⟨.refl _, .refl _, .refl _, .refl _, .refl _, .refl _, .refl _, .refl _, .refl _, trivial⟩ ⟨⟨_, rfl, .refl _⟩, trivial⟩) h (Nat.lt_succ_self _)
    ·
      replace h := ite_fb hc1 h
      refine AWp.exit ?_
      refine thenQ_exit ?_
      refine thenQ_exit ?_
      refine blockQ_same ?_
      exact joinQ_normal (w3) (Le.mk rfl rfl ⟨.refl _, .refl _, .refl _, .refl _, .refl _, .refl _, trivial⟩ trivial) h
  ·
    rintro w6 h
    replace h := (congrFun hK1 _).symm.trans h
    refine AWp.seq ?_
    refine AWp.seq ?_
    obtain ⟨r7, hr7, h⟩ := bind_ok h
    refine q2rr [] [(1, ⟨[.b16 w6], [], [], [], .str r7, [], [], [1, 4]⟩)] ⟨37, [(4, .b16 w6), (35, .bool (!(r7 == x1))), (1000001, .elem 32 1 T1F 0 0), (1000002, errG), (1000003, errG), (1000004, .tab .u64 Lib.pow10Tab)], [], [], 0⟩ (an1 (cpT (f25_ok _ _ hr7))) ?_
    refine thenQ_normal ?_
    refine AWp.cond (b := (!(r7 == x1))) (by kernel_rfl) (fun hc3 => ?_) (fun hc3 => ?_)
    ·
      replace h := ite_tb hc3 h
      refine q2rq [] [] ⟨37, [(2, .b16 (q2w16 0)), (3, .i (2 : Int)), (1000001, .elem 32 1 T1F 0 0), (1000002, errG), (1000003, errG), (1000004, .tab .u64 Lib.pow10Tab)], [], [], 0⟩ trivial ?_
      have hret := Option.some.inj h
      subst hret
      refine AWp.le (Le.mk (s' := ⟨37, [(2, .b16 (q2w16 0)), (3, .i (2 : Int))], [], [], 0⟩) rfl rfl ⟨.refl _, .refl _, trivial⟩ trivial) ?_
      refine AWp.ret ?_
      refine thenQ_ret ?_
      exact bodyQ_ret _ rfl ⟨rfl, rfl⟩ rfl
    ·
      replace h := ite_fb hc3 h
      refine AWp.skip ?_
      refine thenQ_normal ?_
      refine q2rq [] [] ⟨37, [(2, .b16 w6), (3, .i (0 : Int)), (1000001, .elem 32 1 T1F 0 0), (1000002, errG), (1000003, errG), (1000004, .tab .u64 Lib.pow10Tab)], [], [], 0⟩ trivial ?_
      have hret := Option.some.inj h
      subst hret
      refine AWp.le (Le.mk (s' := ⟨37, [(2, .b16 w6), (3, .i (0 : Int))], [], [], 0⟩) rfl rfl ⟨.refl _, .refl _, trivial⟩ trivial) ?_
      refine AWp.ret ?_
      exact bodyQ_ret _ rfl ⟨rfl, rfl⟩ rfl
def f19 (x1 : BitVec 16) : Option Int :=
  jn (fun ((w2, n3) : BitVec 16 × Nat) =>
  chk (((w2.toNat : Nat) : Int) ≤ 255) <|
  chk (((w2.toNat : Nat) : Int) < ((cs2.length : Nat) : Int)) <|
  chk ((((cs2.getD w2.toNat 0).toNat : Nat) : Int) ≤ 9223372036854775807) <|
  chk (((n3 : Int) + (((cs2.getD w2.toNat 0).toNat : Nat) : Int)) ≤ 9223372036854775807) <|
  some (((n3 + (cs2.getD w2.toNat 0).toNat) : Nat) : Int)
  ) fun (K1 : (BitVec 16 × Nat) → Option Int) =>
  if (decide (x1.toNat ≥ (BitVec.ofInt 16 256).toNat)) then (
  K1 ((x1 >>> 8), 8)
  ) else (
  K1 (x1, 0)
  )
set_option maxRecDepth 100000 in
theorem f19_ok  (x1 : BitVec 16) (r : Int) (h : f19 x1 = some r)  : Spec1 Tryz.prog 19 [] [] [] [.b16 x1] (.int .i64 r) [] := by
  unfold f19 at h
  refine Spec1.body 0 _ _ Tryz.func19 rfl Tryz.ntmps19 rfl rfl ?_
  refine q2rq [] [] ⟨13, [(0, .b16 x1), (2, .i (0 : Int))], [], [], 0⟩ trivial ?_
  obtain ⟨K1, hK1, h⟩ := jn_some h
  refine AWp.join (α := BitVec 16 × Nat) (fun (x : BitVec 16 × Nat) => match x with | (w2, n3) => ⟨13, [(0, .b16 w2), (2, .i (n3 : Int))], [], [], 0⟩) (fun x => K1 x = some r) ?_ ?_
  ·
    refine q2rq [] [] ⟨13, [(0, .b16 x1), (2, .i (0 : Int)), (4, .bool (decide (x1.toNat ≥ (q2w16 256).toNat)))], [], [], 0⟩ trivial ?_
    refine AWp.cond (b := (decide (x1.toNat ≥ (q2w16 256).toNat))) (by kernel_rfl) (fun hc1 => ?_) (fun hc1 => ?_)
    ·
      replace h := ite_tb hc1 h
      refine AWp.seq ?_
      have ob0 : 0 ≤ (8 : Int) := by first | decide | omega | simp | (intro h; cases h)
      refine q2rr [] [] ⟨13, [(0, .b16 (x1 >>> 8))], [], [], 0⟩ (an1 ob0) ?_
      refine thenQ_normal ?_
      refine q2rr [] [] ⟨13, [(0, .b16 (x1 >>> 8)), (2, .i (8 : Int))], [], [], 0⟩ trivial ?_
      exact joinQ_normal ((x1 >>> 8), 8) (Le.mk rfl rfl ⟨.refl _, .refl _, trivial⟩ trivial) h
    ·
      replace h := ite_fb hc1 h
      refine AWp.skip ?_
      exact joinQ_normal (x1, 0) (Le.mk rfl rfl ⟨.refl _, .refl _, trivial⟩ trivial) h
  ·
    rintro ⟨w2, n3⟩ h
    replace h := (congrFun hK1 _).symm.trans h
    refine AWp.seq ?_
    obtain ⟨ob1p, h⟩ := chk_some h
    have ob1 : 0 ≤ ((w2.toNat : Nat) : Int) ∧ ((w2.toNat : Nat) : Int) ≤ 255 := ⟨by omega, ob1p⟩
    obtain ⟨ob2p, h⟩ := chk_some h
    have ob2 : 0 ≤ ((w2.toNat : Nat) : Int) ∧ ((w2.toNat : Nat) : Int) < ((cs2.length : Nat) : Int) := ⟨by omega, ob2p⟩
    obtain ⟨ob3p, h⟩ := chk_some h
    have ob3 : -9223372036854775808 ≤ (((cs2.getD w2.toNat 0).toNat : Nat) : Int) ∧ (((cs2.getD w2.toNat 0).toNat : Nat) : Int) ≤ 9223372036854775807 := ⟨by omega, ob3p⟩
    obtain ⟨ob4p, h⟩ := chk_some h
    have ob4 : -9223372036854775808 ≤ ((n3 : Int) + (((cs2.getD w2.toNat 0).toNat : Nat) : Int)) ∧ ((n3 : Int) + (((cs2.getD w2.toNat 0).toNat : Nat) : Int)) ≤ 9223372036854775807 := ⟨by omega, ob4p⟩
    refine q2rr [] [] ⟨13, [(2, .i (((n3 + (cs2.getD w2.toNat 0).toNat) : Nat) : Int))], [], [], 0⟩ (an4 ob1 ob2 ob3 ob4) ?_
    refine thenQ_normal ?_
    have hret := Option.some.inj h
    subst hret
    refine AWp.le (Le.mk (s' := ⟨13, [(2, .i (((n3 + (cs2.getD w2.toNat 0).toNat) : Nat) : Int))], [], [], 0⟩) rfl rfl ⟨.refl _, trivial⟩ trivial) ?_
    refine AWp.ret ?_
    exact bodyQ_ret _ rfl ⟨rfl, rfl⟩ rfl
def f59 (x1 : List UInt8) (x2 : List UInt8) : Option Bool :=
  chk (((decide (((x1.length : Nat) : Int) ≥ ((x2.length : Nat) : Int))) == true) = true → 0 ≤ ((x2.length : Nat) : Int) ∧ ((x2.length : Nat) : Int) ≤ ((x1.length : Nat) : Int)) <|
  some ((decide (((x1.length : Nat) : Int) ≥ ((x2.length : Nat) : Int))) && ((x1.take x2.length) == x2))
set_option maxRecDepth 100000 in
theorem f59_ok  (x1 : List UInt8) (x2 : List UInt8) (r : Bool) (h : f59 x1 x2 = some r)  : Spec1 Tryz.prog 59 [] [] [] [.str x1, .str x2] (.bool r) [] := by
  unfold f59 at h
  refine Spec1.body 0 _ _ Tryz.func59 rfl Tryz.ntmps59 rfl rfl ?_
  refine q2rq [] [] ⟨18, [(0, .str x1), (1, .str x2)], [], [], 0⟩ trivial ?_
  refine AWp.seq ?_
  have ob0 := idA (((decide ((lZ x1) ≥ (lZ x2))) == true) = true)
  obtain ⟨ob1, h⟩ := chk_some h
  have ob2 := idA (((decide ((lZ x1) ≥ (lZ x2))) == true) = true)
  have ob3 := idA (((decide ((lZ x1) ≥ (lZ x2))) == true) = true)
  have ob4 := idA (((decide ((lZ x1) ≥ (lZ x2))) == true) = true)
  have ob5 := idA (((decide ((lZ x1) ≥ (lZ x2))) == true) = true)
  have ob6 := bqA (decide ((lZ x1) ≥ (lZ x2))) true
  refine q2rr [] [] ⟨18, [(4, .bool ((decide ((lZ x1) ≥ (lZ x2))) && ((x1.take x2.length) == x2)))], [], [], 0⟩ (an4 (an1 ob0) (And.intro ob1 (an2 ob2 ob3)) (an2 ob4 ob5) ob6) ?_
  refine thenQ_normal ?_
  have hret := Option.some.inj h
  subst hret
  refine AWp.le (Le.mk (s' := ⟨18, [(4, .bool ((decide ((lZ x1) ≥ (lZ x2))) && ((x1.take x2.length) == x2)))], [], [], 0⟩) rfl rfl ⟨.refl _, trivial⟩ trivial) ?_
  refine AWp.ret ?_
  exact bodyQ_ret _ rfl ⟨rfl, rfl⟩ rfl
def f39 (x1 : List UInt8) (x2 : List UInt8) : Option (List UInt8 × Bool) :=
  (f59 x1 x2).bind fun (r3 : Bool) =>
  if (!r3) then (
  some (x1, false)
  ) else (
  chk (((x2.length : Nat) : Int) ≤ ((x1.length : Nat) : Int)) <|
  some ((x1.drop x2.length), true)
  )
set_option maxRecDepth 100000 in
theorem f39_ok  (x1 : List UInt8) (x2 : List UInt8) (r : List UInt8 × Bool) (h : f39 x1 x2 = some r)  : Spec1 Tryz.prog 39 [] [] [] [.str x1, .str x2] (.tup [.str r.1, .bool r.2]) [] := by
  unfold f39 at h
  refine Spec1.body 0 _ _ Tryz.func39 rfl Tryz.ntmps39 rfl rfl ?_
  refine q2rq [] [] ⟨15, [(0, .str x1), (1, .str x2)], [], [], 0⟩ trivial ?_
  refine AWp.seq ?_
  refine AWp.seq ?_
  obtain ⟨r3, hr3, h⟩ := bind_ok h
  refine q2rr [] [(2, ⟨[.str x1, .str x2], [], [], [], .bool r3, [], [], []⟩)] ⟨15, [(0, .str x1), (1, .str x2), (9, .bool (!r3))], [], [], 0⟩ (an1 (cpT (f59_ok _ _ _ hr3))) ?_
  refine thenQ_normal ?_
  refine AWp.cond (b := (!r3)) (by kernel_rfl) (fun hc1 => ?_) (fun hc1 => ?_)
  ·
    replace h := ite_tb hc1 h
    refine q2rq [] [] ⟨15, [(4, .str x1), (5, .bool false)], [], [], 0⟩ trivial ?_
    have hret := Option.some.inj h
    subst hret
    refine AWp.le (Le.mk (s' := ⟨15, [(4, .str x1), (5, .bool false)], [], [], 0⟩) rfl rfl ⟨.refl _, .refl _, trivial⟩ trivial) ?_
    refine AWp.ret ?_
    refine thenQ_ret ?_
    exact bodyQ_ret _ rfl ⟨rfl, rfl⟩ rfl
  ·
    replace h := ite_fb hc1 h
    refine AWp.skip ?_
    refine thenQ_normal ?_
    refine AWp.seq ?_
    obtain ⟨ob0p, h⟩ := chk_some h
    have ob0 : 0 ≤ ((x2.length : Nat) : Int) ∧ ((x2.length : Nat) : Int) ≤ ((x1.length : Nat) : Int) := ⟨by omega, ob0p⟩
    refine q2rr [] [] ⟨15, [(4, .str (x1.drop x2.length)), (5, .bool true)], [], [], 0⟩ (an1 ob0) ?_
    refine thenQ_normal ?_
    have hret := Option.some.inj h
    subst hret
    refine AWp.le (Le.mk (s' := ⟨15, [(4, .str (x1.drop x2.length)), (5, .bool true)], [], [], 0⟩) rfl rfl ⟨.refl _, .refl _, trivial⟩ trivial) ?_
    refine AWp.ret ?_
    exact bodyQ_ret _ rfl ⟨rfl, rfl⟩ rfl
def f20 (x1 : List UInt8) (x2 : List UInt8) : Option (List UInt8 × Bool) :=
  (f39 x1 x2).bind fun (r3 : List UInt8 × Bool) =>
  some (r3.1, r3.2)
set_option maxRecDepth 100000 in
theorem f20_ok  (x1 : List UInt8) (x2 : List UInt8) (r : List UInt8 × Bool) (h : f20 x1 x2 = some r)  : Spec1 Tryz.prog 20 [] [] [] [.str x1, .str x2] (.tup [.str r.1, .bool r.2]) [] := by
  unfold f20 at h
  refine Spec1.body 0 _ _ Tryz.func20 rfl Tryz.ntmps20 rfl rfl ?_
  refine q2rq [] [] ⟨11, [(0, .str x1), (1, .str x2)], [], [], 0⟩ trivial ?_
  refine AWp.seq ?_
  obtain ⟨r3, hr3, h⟩ := bind_ok h
  refine q2rr [] [(2, ⟨[.str x1, .str x2], [], [], [], .tup [.str r3.1, .bool r3.2], [], [], []⟩)] ⟨11, [(4, .str r3.1), (5, .bool r3.2)], [], [], 0⟩ (an1 (cpT (f39_ok _ _ _ hr3))) ?_
  refine thenQ_normal ?_
  have hret := Option.some.inj h
  subst hret
  refine AWp.le (Le.mk (s' := ⟨11, [(4, .str r3.1), (5, .bool r3.2)], [], [], 0⟩) rfl rfl ⟨.refl _, .refl _, trivial⟩ trivial) ?_
  refine AWp.ret ?_
  exact bodyQ_ret _ rfl ⟨rfl, rfl⟩ rfl
def f5_L0 (K1 : (List (BitVec 16)) → Option (Int × List (BitVec 16))) : Nat → (List UInt8 × List (BitVec 16)) → Option (Int × List (BitVec 16))
  | 0, _ => none
  | k + 1, (s2, l3) =>
    if (!(s2 == [])) then (
    (f17 s2 (125 : Int)).bind fun (r4 : Int) =>
    chk (-9223372036854775808 ≤ (r4 + (1 : Int)) ∧ (r4 + (1 : Int)) ≤ 9223372036854775807) <|
    (f18 (s2.take (((r4 + (1 : Int))).toNat))).bind fun (r5 : BitVec 16 × Int) =>
    chk (0 ≤ (r4 + (1 : Int)) ∧ (r4 + (1 : Int)) ≤ ((s2.length : Nat) : Int)) <|
    optc ((r5.2 != (0 : Int)) == false) (f19 r5.1) fun (r6 : Int) =>
    if ((r5.2 != (0 : Int)) || (decide (r6 > (12 : Int)))) then (
    some ((2 : Int), [])
    ) else (
    chk (((l3).length + 1) * 2 ≤ 140737488355328) <|
    chk (0 ≤ (r4 + (1 : Int)) ∧ (r4 + (1 : Int)) ≤ ((s2.length : Nat) : Int)) <|
    if ((s2.drop (((r4 + (1 : Int))).toNat)) == []) then (
    K1 (l3 ++ [r5.1])
    ) else (
    (f20 (s2.drop (((r4 + (1 : Int))).toNat)) ([32] : List UInt8)).bind fun (r8 : List UInt8 × Bool) =>
    if ((!r8.2) || (r8.1 == [])) then (
    some ((2 : Int), [])
    ) else (
    (f5_L0 K1 k) (r8.1, (l3 ++ [r5.1]))
    )
    )
    )
    ) else (
    K1 l3
    )
abbrev f5z0 (l3 : List (BitVec 16)) (r5 : BitVec 16 × Int) : Heap := [(5004, bL 30 1 eW 0#16 (l3 ++ [r5.1]))]
abbrev f5z1 : Heap := [(3000, bL 30 1 eW 0#16 [])]
def f5 (x1 : List UInt8) : Option (Int × List (BitVec 16)) :=
  jn (fun (l7 : List (BitVec 16)) =>
  (f21 l7).bind fun (r9 : Int) =>
  if (r9 != (0 : Int)) then (
  some (r9, [])
  ) else (
  some ((0 : Int), l7)
  )
  ) fun (K1 : (List (BitVec 16)) → Option (Int × List (BitVec 16))) =>
  f5_L0 K1 FUEL (x1, [])
set_option maxRecDepth 100000 in
theorem f5_ok  (x1 : List UInt8) (r : Int × List (BitVec 16)) (h : f5 x1 = some r)  : Spec1 Tryz.prog 5 [(1, .elem 32 1 T1F 0 0), (2, errG), (3, errG), (4, .tab .u64 Lib.pow10Tab)] [] [] [.str x1] (.tup [.own 3000, .int .i64 r.1]) [(3000, bL 30 1 eW 0#16 r.2)] := by
  unfold f5 at h
  refine Spec1.body 0 _ _ Tryz.func5 rfl Tryz.ntmps5 rfl rfl ?_
  refine q2rq [] [] ⟨59, [(0, .str x1), (1000001, .elem 32 1 T1F 0 0), (1000002, errG), (1000003, errG), (1000004, .tab .u64 Lib.pow10Tab)], [], [], 0⟩ trivial ?_
  refine q2rq [] [] ⟨59, [(0, .str x1), (4, .nils), (1000001, .elem 32 1 T1F 0 0), (1000002, errG), (1000003, errG), (1000004, .tab .u64 Lib.pow10Tab)], [], [], 0⟩ trivial ?_
  obtain ⟨K1, hK1, h⟩ := jn_some h
  refine AWp.join (α := List (BitVec 16)) (fun (l7 : List (BitVec 16)) => ⟨59, [(4, .own 35), (1000001, .elem 32 1 T1F 0 0), (1000002, errG), (1000003, errG), (1000004, .tab .u64 Lib.pow10Tab)], [(35, q2bW_30 l7)], [], 0⟩) (fun x => K1 x = some r) ?_ ?_
  ·
    refine q2rq [] [] ⟨59, [(4, .nils), (5, .str x1), (1000001, .elem 32 1 T1F 0 0), (1000002, errG), (1000003, errG), (1000004, .tab .u64 Lib.pow10Tab)], [], [], 0⟩ trivial ?_
    refine AWp.block ?_
    refine AWp.loopL (α := Nat × (List UInt8 × List (BitVec 16))) (fun x => match x with | (_, s2, l3) => ⟨59, [(4, .own 5004), (5, .str s2), (1000001, .elem 32 1 T1F 0 0), (1000002, errG), (1000003, errG), (1000004, .tab .u64 Lib.pow10Tab)], [(5004, q2bW_30 l3)], [], 0⟩) (fun x => f5_L0 K1 x.1 x.2 = some r) (fun x => x.1) (FUEL, x1, []) (Le.trans (Le.trans (Le.nilOwn 4 5004 30 1 (encF eW 0#16 []) rfl rfl (Nat.le_of_ble_eq_true rfl)) (Le.mk (s' := ⟨59, [(4, .own 5004), (5, .str x1), (1000001, .elem 32 1 T1F 0 0), (1000002, errG), (1000003, errG), (1000004, .tab .u64 Lib.pow10Tab)], [(5004, q2bW_30 [])], [], 0⟩) rfl rfl ⟨.refl _, .refl _, .refl _, .refl _, .refl _, .refl _, trivial⟩ ⟨⟨_, rfl, .refl _⟩, trivial⟩)) (Le.mk (s' := ⟨59, [(4, .own 5004), (5, .str x1), (1000001, .elem 32 1 T1F 0 0), (1000002, errG), (1000003, errG), (1000004, .tab .u64 Lib.pow10Tab)], [(5004, q2bW_30 [])], [], 0⟩) rfl rfl ⟨.refl _, .refl _, .refl _, .refl _, .refl _, .refl _, trivial⟩ ⟨⟨_, rfl, .refl _⟩, trivial⟩)) h ?_
    rintro ⟨k0, s2, l3⟩ h
    cases k0 with
    | zero => exact nomatch (show (none : Option (Int × List (BitVec 16))) = some r from h)
    | succ k0 =>
    obtain ⟨C0, hC0⟩ : ∃ C, C = f5_L0 K1 k0 := ⟨_, rfl⟩
    replace h := (f5_L0.eq_2 ..).symm.trans h
    try rw [← hC0] at h
    refine AWp.seq ?_
    refine q2rq [] [] ⟨59, [(4, .own 5004), (5, .str s2), (14, .bool (!(s2 == []))), (1000001, .elem 32 1 T1F 0 0), (1000002, errG), (1000003, errG), (1000004, .tab .u64 Lib.pow10Tab)], [(5004, q2bW_30 l3)], [], 0⟩ trivial ?_
    refine AWp.cond (b := (!(s2 == []))) (by kernel_rfl) (fun hc1 => ?_) (fun hc1 => ?_)
    ·
      replace h := ite_tb hc1 h
      refine AWp.skip ?_
      refine thenQ_normal ?_
      refine AWp.block ?_
      refine AWp.seq ?_
      obtain ⟨r4, hr4, h⟩ := bind_ok h
      obtain ⟨ob0, h⟩ := chk_some h
      refine q2rr [] [(1, ⟨[.str s2, .int .u8 (125 : Int)], [], [], [], .i r4, [], [], []⟩)] ⟨59, [(4, .own 5004), (5, .str s2), (6, .i (r4 + (1 : Int))), (1000001, .elem 32 1 T1F 0 0), (1000002, errG), (1000003, errG), (1000004, .tab .u64 Lib.pow10Tab)], [(5004, q2bW_30 l3)], [], 0⟩ (an2 (cpT (f17_ok _ _ _ hr4)) ob0) ?_
      refine thenQ_normal ?_
      refine AWp.seq ?_
      obtain ⟨r5, hr5, h⟩ := bind_ok h
      obtain ⟨ob1, h⟩ := chk_some h
      refine q2rr [] [(3, ⟨[.str (s2.take (((r4 + (1 : Int))).toNat))], [], [], [], .tup [.b16 r5.1, .i r5.2], [], [], [1, 2, 3, 4]⟩)] ⟨59, [(4, .own 5004), (5, .str s2), (6, .i (r4 + (1 : Int))), (7, .b16 r5.1), (8, .i r5.2), (1000001, .elem 32 1 T1F 0 0), (1000002, errG), (1000003, errG), (1000004, .tab .u64 Lib.pow10Tab)], [(5004, q2bW_30 l3)], [], 0⟩ (an2 ob1 (cpT (f18_ok _ _ hr5))) ?_
      refine thenQ_normal ?_
      refine AWp.seq ?_
      refine AWp.seq ?_
      obtain ⟨r6, hr6, h⟩ := optc_some h
      have ob2 := idA (((r5.2 != (0 : Int)) == false) = true)
      have ob3 := idA (((r5.2 != (0 : Int)) == false) = true)
      have ob4 := bqA (r5.2 != (0 : Int)) false
      refine q2rr [] [(4, ⟨[.b16 r5.1], [], [], [], .i r6, [], [], []⟩)] ⟨59, [(4, .own 5004), (5, .str s2), (6, .i (r4 + (1 : Int))), (7, .b16 r5.1), (31, .bool ((r5.2 != (0 : Int)) || (decide (r6 > (12 : Int))))), (1000001, .elem 32 1 T1F 0 0), (1000002, errG), (1000003, errG), (1000004, .tab .u64 Lib.pow10Tab)], [(5004, q2bW_30 l3)], [], 0⟩ (an3 (And.intro (cpC fun hc => (f19_ok _ _ (hr6 hc))) (an1 ob2)) (an1 ob3) ob4) ?_
      refine thenQ_normal ?_
      refine AWp.cond (b := ((r5.2 != (0 : Int)) || (decide (r6 > (12 : Int))))) (by kernel_rfl) (fun hc2 => ?_) (fun hc2 => ?_)
      ·
        replace h := ite_tb hc2 h
        refine q2rq [] [] ⟨59, [(2, .nils), (3, .i (2 : Int)), (1000001, .elem 32 1 T1F 0 0), (1000002, errG), (1000003, errG), (1000004, .tab .u64 Lib.pow10Tab)], [], [], 0⟩ trivial ?_
        refine AWp.le (Le.trans (Le.nilOwn 2 3000 30 1 (encF eW 0#16 []) rfl rfl (Nat.le_of_ble_eq_true rfl)) (Le.mk (s' := ⟨59, [(2, .own 3000), (3, .i (2 : Int)), (1000001, .elem 32 1 T1F 0 0), (1000002, errG), (1000003, errG), (1000004, .tab .u64 Lib.pow10Tab)], (f5z1), [], 0⟩) rfl rfl ⟨.refl _, .refl _, .refl _, .refl _, .refl _, .refl _, trivial⟩ ⟨⟨_, rfl, .refl _⟩, trivial⟩)) ?_
        have hret := Option.some.inj h
        subst hret
        refine AWp.le (Le.mk (s' := ⟨59, [(2, .own 3000), (3, .i (2 : Int))], (f5z1), [], 0⟩) rfl rfl ⟨.refl _, .refl _, trivial⟩ ⟨⟨_, rfl, .refl _⟩, trivial⟩) ?_
        refine AWp.ret ?_
        refine thenQ_ret ?_
        refine blockQ_ret ?_
        refine thenQ_ret ?_
        refine blockQ_ret ?_
        refine joinQ_ret ?_
        exact bodyQ_ret _ rfl ⟨rfl, rfl⟩ rfl
      ·
        replace h := ite_fb hc2 h
        refine AWp.skip ?_
        refine thenQ_normal ?_
        refine AWp.seq ?_
        obtain ⟨ob5, h⟩ := chk_some h
        refine q2rr [] [] ⟨59, [(4, .own 5004), (5, .str s2), (6, .i (r4 + (1 : Int))), (1000001, .elem 32 1 T1F 0 0), (1000002, errG), (1000003, errG), (1000004, .tab .u64 Lib.pow10Tab)], [(5004, .rows 30 1 ((l3).length + 1) (appF (l3).length (encF eW 0#16 l3) (lstF 1 [.b16 r5.1])))], [], 0⟩ (an1 ob5) ?_
        refine thenQ_normal ?_
        refine AWp.le (Le.mk (s' := ⟨59, [(4, .own 5004), (5, .str s2), (6, .i (r4 + (1 : Int))), (1000001, .elem 32 1 T1F 0 0), (1000002, errG), (1000003, errG), (1000004, .tab .u64 Lib.pow10Tab)], (f5z0 l3 r5), [], 0⟩) rfl rfl ⟨.refl _, .refl _, .refl _, .refl _, .refl _, .refl _, .refl _, trivial⟩ ⟨⟨_, rfl, (BLe.of (RL.app (RL.self _) (RL.lst (enc := eW) [r5.1] rfl rfl (fun _ => rfl))))⟩, trivial⟩) ?_
        refine AWp.seq ?_
        obtain ⟨ob6, h⟩ := chk_some h
        refine q2rr [] [] ⟨59, [(4, .own 5004), (5, .str (s2.drop (((r4 + (1 : Int))).toNat))), (1000001, .elem 32 1 T1F 0 0), (1000002, errG), (1000003, errG), (1000004, .tab .u64 Lib.pow10Tab)], (f5z0 l3 r5), [], 0⟩ (an1 ob6) ?_
        refine thenQ_normal ?_
        refine AWp.seq ?_
        refine q2rq [] [] ⟨59, [(4, .own 5004), (5, .str (s2.drop (((r4 + (1 : Int))).toNat))), (40, .bool ((s2.drop (((r4 + (1 : Int))).toNat)) == [])), (1000001, .elem 32 1 T1F 0 0), (1000002, errG), (1000003, errG), (1000004, .tab .u64 Lib.pow10Tab)], (f5z0 l3 r5), [], 0⟩ trivial ?_
        refine AWp.cond (b := ((s2.drop (((r4 + (1 : Int))).toNat)) == [])) (by kernel_rfl) (fun hc3 => ?_) (fun hc3 => ?_)
        ·
          replace h := ite_tb hc3 h
          refine AWp.exit ?_
          refine thenQ_exit ?_
          refine blockQ_other (by decide) ?_
          refine thenQ_exit ?_
          refine blockQ_same ?_
          exact joinQ_normal ((l3 ++ [r5.1])) (Le.trans (Le.trans (Le.ren (swapN 5004 35) (swapN_inv 5004 35) rfl) (Le.mk (s' := ⟨59, [(4, .own 35), (5, .str (s2.drop (((r4 + (1 : Int))).toNat))), (40, .bool ((s2.drop (((r4 + (1 : Int))).toNat)) == [])), (1000001, .elem 32 1 T1F 0 0), (1000002, errG), (1000003, errG), (1000004, .tab .u64 Lib.pow10Tab)], [(35, q2bW_30 (l3 ++ [r5.1]))], [], 0⟩) rfl rfl ⟨.refl _, .refl _, .refl _, .refl _, .refl _, .refl _, .refl _, trivial⟩ ⟨⟨_, rfl, .refl _⟩, trivial⟩)) (Le.mk rfl rfl ⟨.refl _, .refl _, .refl _, .refl _, .refl _, trivial⟩ ⟨⟨_, rfl, .refl _⟩, trivial⟩)) h
        ·
          replace h := ite_fb hc3 h
          refine AWp.skip ?_
          refine thenQ_normal ?_
          refine AWp.seq ?_
          obtain ⟨r8, hr8, h⟩ := bind_ok h
          refine q2rr [] [(1, ⟨[.str (s2.drop (((r4 + (1 : Int))).toNat)), .str ([32] : List UInt8)], [], [], [], .tup [.str r8.1, .bool r8.2], [], [], []⟩)] ⟨59, [(4, .own 5004), (9, .str r8.1), (10, .bool r8.2), (1000001, .elem 32 1 T1F 0 0), (1000002, errG), (1000003, errG), (1000004, .tab .u64 Lib.pow10Tab)], (f5z0 l3 r5), [], 0⟩ (an1 (cpT (f20_ok _ _ _ hr8))) ?_
          refine thenQ_normal ?_
          refine AWp.seq ?_
          refine AWp.seq ?_
          have ob7 := idA (((!r8.2) == false) = true)
          have ob8 := bqA (!r8.2) false
          refine q2rr [] [] ⟨59, [(4, .own 5004), (9, .str r8.1), (51, .bool ((!r8.2) || (r8.1 == []))), (1000001, .elem 32 1 T1F 0 0), (1000002, errG), (1000003, errG), (1000004, .tab .u64 Lib.pow10Tab)], (f5z0 l3 r5), [], 0⟩ (an2 (an1 ob7) ob8) ?_
          refine thenQ_normal ?_
          refine AWp.cond (b := ((!r8.2) || (r8.1 == []))) (by kernel_rfl) (fun hc4 => ?_) (fun hc4 => ?_)
          ·
            replace h := ite_tb hc4 h
            refine q2rq [] [] ⟨59, [(2, .nils), (3, .i (2 : Int)), (1000001, .elem 32 1 T1F 0 0), (1000002, errG), (1000003, errG), (1000004, .tab .u64 Lib.pow10Tab)], [], [], 0⟩ trivial ?_
            refine AWp.le (Le.trans (Le.nilOwn 2 3000 30 1 (encF eW 0#16 []) rfl rfl (Nat.le_of_ble_eq_true rfl)) (Le.mk (s' := ⟨59, [(2, .own 3000), (3, .i (2 : Int)), (1000001, .elem 32 1 T1F 0 0), (1000002, errG), (1000003, errG), (1000004, .tab .u64 Lib.pow10Tab)], (f5z1), [], 0⟩) rfl rfl ⟨.refl _, .refl _, .refl _, .refl _, .refl _, .refl _, trivial⟩ ⟨⟨_, rfl, .refl _⟩, trivial⟩)) ?_
            have hret := Option.some.inj h
            subst hret
            refine AWp.le (Le.mk (s' := ⟨59, [(2, .own 3000), (3, .i (2 : Int))], (f5z1), [], 0⟩) rfl rfl ⟨.refl _, .refl _, trivial⟩ ⟨⟨_, rfl, .refl _⟩, trivial⟩) ?_
            refine AWp.ret ?_
            refine thenQ_ret ?_
            refine blockQ_ret ?_
            refine thenQ_ret ?_
            refine blockQ_ret ?_
            refine joinQ_ret ?_
            exact bodyQ_ret _ rfl ⟨rfl, rfl⟩ rfl
          ·
            replace h := ite_fb hc4 h
            refine AWp.skip ?_
            refine thenQ_normal ?_
            refine q2rr [] [] ⟨59, [(4, .own 5004), (5, .str r8.1), (1000001, .elem 32 1 T1F 0 0), (1000002, errG), (1000003, errG), (1000004, .tab .u64 Lib.pow10Tab)], (f5z0 l3 r5), [], 0⟩ trivial ?_
            refine blockQ_normal ?_
            rw [hC0] at h
            exact loopQ_normal (_, r8.1, (l3 ++ [r5.1])) (Le.mk rfl rfl ⟨.refl _, .refl _, .refl _, .refl _, .refl _, .refl _, trivial⟩ ⟨⟨_, rfl, .refl _⟩, trivial⟩) h (Nat.lt_succ_self _)
    ·
      replace h := ite_fb hc1 h
      refine AWp.exit ?_
      refine thenQ_exit ?_
      refine thenQ_exit ?_
      refine blockQ_same ?_
      exact joinQ_normal (l3) (Le.trans (Le.trans (Le.ren (swapN 5004 35) (swapN_inv 5004 35) rfl) (Le.mk (s' := ⟨59, [(4, .own 35), (5, .str s2), (14, .bool (!(s2 == []))), (1000001, .elem 32 1 T1F 0 0), (1000002, errG), (1000003, errG), (1000004, .tab .u64 Lib.pow10Tab)], [(35, q2bW_30 l3)], [], 0⟩) rfl rfl ⟨.refl _, .refl _, .refl _, .refl _, .refl _, .refl _, .refl _, trivial⟩ ⟨⟨_, rfl, .refl _⟩, trivial⟩)) (Le.mk rfl rfl ⟨.refl _, .refl _, .refl _, .refl _, .refl _, trivial⟩ ⟨⟨_, rfl, .refl _⟩, trivial⟩)) h
  ·
    rintro l7 h
    replace h := (congrFun hK1 _).symm.trans h
    refine AWp.seq ?_
    refine AWp.seq ?_
    obtain ⟨r9, hr9, h⟩ := bind_ok h
    refine q2rr [] [(1, ⟨[q2aW l7], [], [], [], .i r9, [], [35], []⟩)] ⟨59, [(4, .own 35), (11, .i r9), (1000001, .elem 32 1 T1F 0 0), (1000002, errG), (1000003, errG), (1000004, .tab .u64 Lib.pow10Tab)], [(35, q2bW_30 l7)], [], 0⟩ (an1 (cpL (c := true) [(35, q2bW_30 l7)] [35] [.own 35] (fun _ => (f21_ok _ _ hr9)) (fun _ => ⟨.refl _, trivial⟩) (.inr ⟨rfl, trivial⟩))) ?_
    refine thenQ_normal ?_
    refine q2rq [] [] ⟨59, [(4, .own 35), (11, .i r9), (56, .bool (r9 != (0 : Int))), (1000001, .elem 32 1 T1F 0 0), (1000002, errG), (1000003, errG), (1000004, .tab .u64 Lib.pow10Tab)], [(35, q2bW_30 l7)], [], 0⟩ trivial ?_
    refine AWp.cond (b := (r9 != (0 : Int))) (by kernel_rfl) (fun hc5 => ?_) (fun hc5 => ?_)
    ·
      replace h := ite_tb hc5 h
      refine q2rq [] [] ⟨59, [(2, .nils), (3, .i r9), (1000001, .elem 32 1 T1F 0 0), (1000002, errG), (1000003, errG), (1000004, .tab .u64 Lib.pow10Tab)], [], [], 0⟩ trivial ?_
      refine AWp.le (Le.trans (Le.nilOwn 2 3000 30 1 (encF eW 0#16 []) rfl rfl (Nat.le_of_ble_eq_true rfl)) (Le.mk (s' := ⟨59, [(2, .own 3000), (3, .i r9), (1000001, .elem 32 1 T1F 0 0), (1000002, errG), (1000003, errG), (1000004, .tab .u64 Lib.pow10Tab)], (f5z1), [], 0⟩) rfl rfl ⟨.refl _, .refl _, .refl _, .refl _, .refl _, .refl _, trivial⟩ ⟨⟨_, rfl, .refl _⟩, trivial⟩)) ?_
      have hret := Option.some.inj h
      subst hret
      refine AWp.le (Le.mk (s' := ⟨59, [(2, .own 3000), (3, .i r9)], (f5z1), [], 0⟩) rfl rfl ⟨.refl _, .refl _, trivial⟩ ⟨⟨_, rfl, .refl _⟩, trivial⟩) ?_
      refine AWp.ret ?_
      refine thenQ_ret ?_
      exact bodyQ_ret _ rfl ⟨rfl, rfl⟩ rfl
    ·
      replace h := ite_fb hc5 h
      refine AWp.skip ?_
      refine thenQ_normal ?_
      refine q2rq [] [] ⟨59, [(2, .own 35), (3, .i (0 : Int)), (1000001, .elem 32 1 T1F 0 0), (1000002, errG), (1000003, errG), (1000004, .tab .u64 Lib.pow10Tab)], [(35, q2bW_30 l7)], [], 0⟩ trivial ?_
      refine AWp.le (Le.trans (Le.ren (swapN 35 3000) (swapN_inv 35 3000) rfl) (Le.mk (s' := ⟨59, [(2, .own 3000), (3, .i (0 : Int)), (1000001, .elem 32 1 T1F 0 0), (1000002, errG), (1000003, errG), (1000004, .tab .u64 Lib.pow10Tab)], [(3000, q2bW_30 l7)], [], 0⟩) rfl rfl ⟨.refl _, .refl _, .refl _, .refl _, .refl _, .refl _, trivial⟩ ⟨⟨_, rfl, .refl _⟩, trivial⟩)) ?_
      have hret := Option.some.inj h
      subst hret
      refine AWp.le (Le.mk (s' := ⟨59, [(2, .own 3000), (3, .i (0 : Int))], [(3000, q2bW_30 l7)], [], 0⟩) rfl rfl ⟨.refl _, .refl _, trivial⟩ ⟨⟨_, rfl, .refl _⟩, trivial⟩) ?_
      refine AWp.ret ?_
      exact bodyQ_ret _ rfl ⟨rfl, rfl⟩ rfl
def f22_L0 (x1 : List UInt8) (K1 : (BitVec 16) → Option (BitVec 16)) : Nat → (BitVec 16 × Int × Nat) → Option (BitVec 16)
  | 0, _ => none
  | k + 1, (w2, i3, n4) =>
    if (decide ((n4 : Int) < ((x1.length : Nat) : Int))) then (
    jn (fun ((w5, i6) : BitVec 16 × Int) =>
    chk (((n4 : Int) + (1 : Int)) ≤ 9223372036854775807) <|
    (f22_L0 x1 K1 k) (w5, i6, (n4 + 1))
    ) fun (K2 : (BitVec 16 × Int) → Option (BitVec 16)) =>
    chk ((n4 : Int) < ((x1.length : Nat) : Int)) <|
    chk (((decide ((((x1.getD n4 0).toNat : Nat) : Int) ≥ (48 : Int))) == true) = true → 0 ≤ (n4 : Int) ∧ (n4 : Int) < ((x1.length : Nat) : Int)) <|
    if ((decide ((((x1.getD n4 0).toNat : Nat) : Int) ≥ (48 : Int))) && (decide ((((x1.getD n4 0).toNat : Nat) : Int) ≤ (57 : Int)))) then (
    chk (-9223372036854775808 ≤ ((10 : Int) * (max i3 (0 : Int))) ∧ ((10 : Int) * (max i3 (0 : Int))) ≤ 9223372036854775807) <|
    chk ((n4 : Int) < ((x1.length : Nat) : Int)) <|
    chk (0 ≤ ((((x1.getD n4 0).toNat : Nat) : Int) - (48 : Int)) ∧ ((((x1.getD n4 0).toNat : Nat) : Int) - (48 : Int)) ≤ 255) <|
    chk (-9223372036854775808 ≤ ((((x1.getD n4 0).toNat : Nat) : Int) - (48 : Int)) ∧ ((((x1.getD n4 0).toNat : Nat) : Int) - (48 : Int)) ≤ 9223372036854775807) <|
    chk (-9223372036854775808 ≤ (((10 : Int) * (max i3 (0 : Int))) + ((((x1.getD n4 0).toNat : Nat) : Int) - (48 : Int))) ∧ (((10 : Int) * (max i3 (0 : Int))) + ((((x1.getD n4 0).toNat : Nat) : Int) - (48 : Int))) ≤ 9223372036854775807) <|
    K2 (w2, (min (((10 : Int) * (max i3 (0 : Int))) + ((((x1.getD n4 0).toNat : Nat) : Int) - (48 : Int))) (99 : Int)))
    ) else (
    jn (fun (w7 : BitVec 16) =>
    K2 (w7, (-1 : Int))
    ) fun (K3 : (BitVec 16) → Option (BitVec 16)) =>
    if ((decide (i3 ≥ (0 : Int))) && (decide (i3 < (16 : Int)))) then (
    chk (0 ≤ i3) <|
    K3 (w2 ||| ((BitVec.ofInt 16 1) <<< ((i3).toNat)))
    ) else (
    K3 w2
    )
    )
    ) else (
    K1 w2
    )
def f22 (x1 : List UInt8) : Option (BitVec 16) :=
  jn (fun (w8 : BitVec 16) =>
  some w8
  ) fun (K1 : (BitVec 16) → Option (BitVec 16)) =>
  f22_L0 x1 K1 FUEL ((BitVec.ofInt 16 0), (-1 : Int), 0)
end Go.Abs
