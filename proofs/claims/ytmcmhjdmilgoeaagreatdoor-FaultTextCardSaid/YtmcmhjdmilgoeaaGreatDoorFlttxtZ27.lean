/- Part 27 of the proof: X19p. -/
import Derived.Test.YtmcmhjdmilgoeaaGreatDoorFlttxtZ26
namespace Go.Abs
open Go Go.Proofs
set_option maxHeartbeats 4000000
variable {mxl : Int}
def eWW (x : BitVec 16 × BitVec 16) : List V := [.b16 x.1, .b16 x.2]
theorem eWW_flat (x : BitVec 16 × BitVec 16) (j : Nat) : ((eWW x).getD j .any).flat = true := by
  match j with
  | 0 => rfl
  | 1 => rfl
  | _ + 2 => rfl
def eS (x : List UInt8) : List V := [.str x]
def cs1 : List UInt8 := [99, 114, 97, 115, 104, 32]
def cs2 : List UInt8 := [98, 121, 122, 32, 123, 48, 125, 32, 99, 114, 97, 115, 104, 32, 123, 49, 125]
def eW (x : BitVec 16) : List V := [.b16 x]
theorem eW_flat (x : BitVec 16) (j : Nat) : ((eW x).getD j .any).flat = true := by
  match j with
  | 0 => rfl
  | _ + 1 => rfl
def cs3 : List UInt8 := [32, 99, 114, 97, 115, 104, 32]
def cs4 : List UInt8 := [99, 114, 97, 115, 104]
abbrev q2bI_3 (l : List (Int)) : Blk := bL 3 1 eI 0 l
abbrev q2aWW (l : List (BitVec 16 × BitVec 16)) : V := vL 2 eWW (default : BitVec 16 × BitVec 16) l
abbrev q2bWW_30 (l : List (BitVec 16 × BitVec 16)) : Blk := bL 30 2 eWW (default : BitVec 16 × BitVec 16) l
abbrev q2dWW : BitVec 16 × BitVec 16 := default
abbrev q2aS (l : List (List UInt8)) : V := vL 1 eS [] l
abbrev q2bS_9 (l : List (List UInt8)) : Blk := bL 9 1 eS [] l
abbrev q2aW (l : List (BitVec 16)) : V := vL 1 eW 0#16 l
abbrev q2bW_28 (l : List (BitVec 16)) : Blk := bL 28 1 eW 0#16 l
abbrev q2w16 (i : Int) : BitVec 16 := BitVec.ofInt 16 i
theorem q2rq {Q : Exit → S → Prop} {id : Nat} {draw : Bool} {y : Code} (W : List Nat) (calls : List (Nat × CC)) {l : List Oper} {s : S} (s' : S) {φ : Prop} (hφ : φ) (hQ : AWp Tryz.prog y Q s') (h : Abs.regC Tryz.prog W draw calls (s'.t.map (·.1)) (s'.h.map (·.1)) l s = some (s', φ) := by kernel_rfl) : AWp Tryz.prog (.seq (.region id l.toArray draw) y) Q s := AWp.sq W calls _ _ s' φ Tryz_mixed h hφ hQ
theorem q2rr {Q : Exit → S → Prop} {id : Nat} {draw : Bool} (W : List Nat) (calls : List (Nat × CC)) {l : List Oper} {s : S} (s' : S) {φ : Prop} (hφ : φ) (hQ : Q .normal s') (h : Abs.regC Tryz.prog W draw calls (s'.t.map (·.1)) (s'.h.map (·.1)) l s = some (s', φ) := by kernel_rfl) : AWp Tryz.prog (.region id l.toArray draw) Q s := AWp.regC W calls _ _ s' φ Tryz_mixed h hφ hQ
def f50 (x1 : BitVec 16) (x2 : Int) : Option (BitVec 16 × Int) :=
  some (x1, x2)
set_option maxRecDepth 100000 in
theorem f50_ok  (x1 : BitVec 16) (x2 : Int) (r : BitVec 16 × Int) (h : f50 x1 x2 = some r)  : Spec1 Tryz.prog 50 [] [] [] [.b16 x1, .int .i64 x2] (.fn (.func 76) [.ptr 3500 0, .ptr 3501 0]) [(3500, .cells 28 [.b16 r.1]), (3501, .cells 3 [.int .i64 r.2])] := by
  unfold f50 at h
  refine Spec1.body 0 _ _ Tryz.func50 rfl Tryz.ntmps50 rfl rfl ?_
  refine q2rq [] [] ⟨6, [(2, .ptr 2 0), (3, .ptr 3 0)], [(2, .cells 28 [.b16 x1]), (3, .cells 3 [.i x2])], [], 0⟩ trivial ?_
  refine q2rq [] [] ⟨6, [(4, .fn (.func 76) [.ptr 2 0, .ptr 3 0])], [(2, .cells 28 [.b16 x1]), (3, .cells 3 [.i x2])], [], 0⟩ trivial ?_
  refine AWp.le (Le.trans (Le.ren (swapN 2 3500) (swapN_inv 2 3500) rfl) (Le.mk (s' := ⟨6, [(4, .fn (.func 76) [.ptr 3500 0, .ptr 3 0])], [(3500, .cells 28 [.b16 x1]), (3, .cells 3 [.i x2])], [], 0⟩) rfl rfl ⟨.refl _, trivial⟩ ⟨⟨_, rfl, .refl _⟩, ⟨_, rfl, .refl _⟩, trivial⟩)) ?_
  refine AWp.le (Le.trans (Le.ren (swapN 3 3501) (swapN_inv 3 3501) rfl) (Le.mk (s' := ⟨6, [(4, .fn (.func 76) [.ptr 3500 0, .ptr 3501 0])], [(3500, .cells 28 [.b16 x1]), (3501, .cells 3 [.i x2])], [], 0⟩) rfl rfl ⟨.refl _, trivial⟩ ⟨⟨_, rfl, .refl _⟩, ⟨_, rfl, .refl _⟩, trivial⟩)) ?_
  have hret := Option.some.inj h
  subst hret
  refine AWp.le (Le.mk (s' := ⟨6, [(4, .fn (.func 76) [.ptr 3500 0, .ptr 3501 0])], [(3500, .cells 28 [.b16 x1]), (3501, .cells 3 [.i x2])], [], 0⟩) rfl rfl ⟨.refl _, trivial⟩ ⟨⟨_, rfl, .refl _⟩, ⟨_, rfl, .refl _⟩, trivial⟩) ?_
  refine AWp.ret ?_
  exact bodyQ_ret _ rfl ⟨rfl, rfl⟩ rfl
def f128 (x1 : BitVec 16) : Option Int :=
  if (x1 == (BitVec.ofInt 16 0)) then (
  some (16 : Int)
  ) else (
  chk (27 ≤ IntKind.bits .u32) <|
  chk (0 ≤ ((IntKind.wrap .u32 ((((x1 &&& (-x1)).toNat : Nat) : Int) * (125613361 : Int))) / 2 ^ 27) ∧ ((IntKind.wrap .u32 ((((x1 &&& (-x1)).toNat : Nat) : Int) * (125613361 : Int))) / 2 ^ 27) < 32) <|
  chk ((((T0.getD (0 + ((((IntKind.wrap .u32 ((((x1 &&& (-x1)).toNat : Nat) : Int) * (125613361 : Int))) / 2 ^ 27)).toNat) * 1 + 0) 0) : Nat) : Int) ≤ 9223372036854775807) <|
  some (((T0.getD (0 + ((((IntKind.wrap .u32 ((((x1 &&& (-x1)).toNat : Nat) : Int) * (125613361 : Int))) / 2 ^ 27)).toNat) * 1 + 0) 0) : Nat) : Int)
  )
set_option maxRecDepth 100000 in
theorem f128_ok  (x1 : BitVec 16) (r : Int) (h : f128 x1 = some r)  : Spec1 Tryz.prog 128 [(0, .elem 32 1 T0F 0 0)] [] [] [.b16 x1] (.int .i64 r) [] := by
  unfold f128 at h
  refine Spec1.body 0 _ _ Tryz.func128 rfl Tryz.ntmps128 rfl rfl ?_
  refine q2rq [10] [] ⟨15, [(0, .b16 x1), (1000000, .elem 32 1 T0F 0 0)], [], [], 0⟩ trivial ?_
  refine AWp.seq ?_
  refine q2rq [10] [] ⟨15, [(0, .b16 x1), (4, .bool (x1 == (q2w16 0))), (1000000, .elem 32 1 T0F 0 0)], [], [], 0⟩ trivial ?_
  refine AWp.cond (b := (x1 == (q2w16 0))) (by kernel_rfl) (fun hc1 => ?_) (fun hc1 => ?_)
  ·
    replace h := ite_tb hc1 h
    refine q2rq [10] [] ⟨15, [(2, .i (16 : Int)), (1000000, .elem 32 1 T0F 0 0)], [], [], 0⟩ trivial ?_
    have hret := Option.some.inj h
    subst hret
    refine AWp.le (Le.mk (s' := ⟨15, [(2, .i (16 : Int))], [], [], 0⟩) rfl rfl ⟨.refl _, trivial⟩ trivial) ?_
    refine AWp.ret ?_
    refine thenQ_ret ?_
    exact bodyQ_ret _ rfl ⟨rfl, rfl⟩ rfl
  ·
    replace h := ite_fb hc1 h
    refine AWp.skip ?_
    refine thenQ_normal ?_
    refine AWp.seq ?_
    have ob0 : 0 ≤ (((x1 &&& (-x1)).toNat : Nat) : Int) ∧ (((x1 &&& (-x1)).toNat : Nat) : Int) ≤ 4294967295 := ⟨by omega, by (have := ((x1 &&& (-x1)) : BitVec 16).isLt; omega)⟩
    obtain ⟨ob1p, h⟩ := chk_some h
    have ob1 : 0 ≤ (27 : Int) ∧ 27 ≤ IntKind.bits .u32 := ⟨by omega, ob1p⟩
    obtain ⟨ob2, ob3p, h⟩ := ck2 h
    have ob3 : -9223372036854775808 ≤ (((T0.getD (0 + ((((IntKind.wrap .u32 ((((x1 &&& (-x1)).toNat : Nat) : Int) * (125613361 : Int))) / 2 ^ 27)).toNat) * 1 + 0) 0) : Nat) : Int) ∧ (((T0.getD (0 + ((((IntKind.wrap .u32 ((((x1 &&& (-x1)).toNat : Nat) : Int) * (125613361 : Int))) / 2 ^ 27)).toNat) * 1 + 0) 0) : Nat) : Int) ≤ 9223372036854775807 := ⟨by omega, ob3p⟩
    refine q2rr [10] [] ⟨15, [(2, .i (((T0.getD (0 + ((((IntKind.wrap .u32 ((((x1 &&& (-x1)).toNat : Nat) : Int) * (125613361 : Int))) / 2 ^ 27)).toNat) * 1 + 0) 0) : Nat) : Int)), (1000000, .elem 32 1 T0F 0 0)], [], [], 0⟩ (an6 trivial ob0 trivial ob1 ob2 ob3) ?_
    refine thenQ_normal ?_
    have hret := Option.some.inj h
    subst hret
    refine AWp.le (Le.mk (s' := ⟨15, [(2, .i (((T0.getD (0 + ((((IntKind.wrap .u32 ((((x1 &&& (-x1)).toNat : Nat) : Int) * (125613361 : Int))) / 2 ^ 27)).toNat) * 1 + 0) 0) : Nat) : Int))], [], [], 0⟩) rfl rfl ⟨.refl _, trivial⟩ trivial) ?_
    refine AWp.ret ?_
    exact bodyQ_ret _ rfl ⟨rfl, rfl⟩ rfl
def f100_L0 (K1 : (List Int) → Option (List Int)) : Nat → (BitVec 16 × List Int) → Option (List Int)
  | 0, _ => none
  | k + 1, (w2, l3) =>
    if (!(w2 == (BitVec.ofInt 16 0))) then (
    (f128 w2).bind fun (r4 : Int) =>
    chk (((l3).length + 1) * 8 ≤ 140737488355328) <|
    (f100_L0 K1 k) ((w2 &&& (w2 - (BitVec.ofInt 16 1))), (l3 ++ [r4]))
    ) else (
    K1 l3
    )
def f100 (x1 : BitVec 16) : Option (List Int) :=
  jn (fun (l5 : List Int) =>
  some l5
  ) fun (K1 : (List Int) → Option (List Int)) =>
  f100_L0 K1 FUEL (x1, [])
set_option maxRecDepth 100000 in
theorem f100_ok  (x1 : BitVec 16) (r : List Int) (h : f100 x1 = some r)  : Spec1 Tryz.prog 100 [(0, .elem 32 1 T0F 0 0)] [] [] [.b16 x1] (.own 3000) [(3000, bL 3 1 eI 0 r)] := by
  unfold f100 at h
  refine Spec1.body 0 _ _ Tryz.func100 rfl Tryz.ntmps100 rfl rfl ?_
  refine q2rq [] [] ⟨16, [(0, .b16 x1), (1000000, .elem 32 1 T0F 0 0)], [], [], 0⟩ trivial ?_
  refine q2rq [] [] ⟨16, [(0, .b16 x1), (3, .nils), (1000000, .elem 32 1 T0F 0 0)], [], [], 0⟩ trivial ?_
  obtain ⟨K1, hK1, h⟩ := jn_some h
  refine AWp.join (α := List Int) (fun (l5 : List Int) => ⟨16, [(3, .own 5003), (1000000, .elem 32 1 T0F 0 0)], [(5003, q2bI_3 l5)], [], 0⟩) (fun x => K1 x = some r) ?_ ?_
  ·
    refine AWp.block ?_
    refine AWp.loopL (α := Nat × (BitVec 16 × List Int)) (fun x => match x with | (_, w2, l3) => ⟨16, [(0, .b16 w2), (3, .own 5003), (1000000, .elem 32 1 T0F 0 0)], [(5003, q2bI_3 l3)], [], 0⟩) (fun x => f100_L0 K1 x.1 x.2 = some r) (fun x => x.1) (FUEL, x1, []) (Le.trans (Le.trans (Le.nilOwn 3 5003 3 1 (encF eI 0 []) rfl rfl (Nat.le_of_ble_eq_true rfl)) (Le.mk (s' := ⟨16, [(0, .b16 x1), (3, .own 5003), (1000000, .elem 32 1 T0F 0 0)], [(5003, q2bI_3 [])], [], 0⟩) rfl rfl ⟨.refl _, .refl _, .refl _, trivial⟩ ⟨⟨_, rfl, .refl _⟩, trivial⟩)) (Le.mk (s' := ⟨16, [(0, .b16 x1), (3, .own 5003), (1000000, .elem 32 1 T0F 0 0)], [(5003, q2bI_3 [])], [], 0⟩) rfl rfl ⟨.refl _, .refl _, .refl _, trivial⟩ ⟨⟨_, rfl, .refl _⟩, trivial⟩)) h ?_
    rintro ⟨k0, w2, l3⟩ h
    cases k0 with
    | zero => exact nomatch (show (none : Option (List Int)) = some r from h)
    | succ k0 =>
    obtain ⟨C0, hC0⟩ : ∃ C, C = f100_L0 K1 k0 := ⟨_, rfl⟩
    replace h := (f100_L0.eq_2 ..).symm.trans h
    try rw [← hC0] at h
    refine AWp.seq ?_
    refine q2rq [] [] ⟨16, [(0, .b16 w2), (3, .own 5003), (5, .bool (!(w2 == (q2w16 0)))), (1000000, .elem 32 1 T0F 0 0)], [(5003, q2bI_3 l3)], [], 0⟩ trivial ?_
    refine AWp.cond (b := (!(w2 == (q2w16 0)))) (by kernel_rfl) (fun hc1 => ?_) (fun hc1 => ?_)
    ·
      replace h := ite_tb hc1 h
      refine AWp.skip ?_
      refine thenQ_normal ?_
      refine AWp.seq ?_
      refine AWp.block ?_
      obtain ⟨r4, hr4, h⟩ := bind_ok h
      obtain ⟨ob0, h⟩ := chk_some h
      refine q2rr [] [(2, ⟨[.b16 w2], [], [], [], .i r4, [], [], [0]⟩)] ⟨16, [(0, .b16 w2), (3, .own 5003), (1000000, .elem 32 1 T0F 0 0)], [(5003, .rows 3 1 ((l3).length + 1) (appF (l3).length (encF eI 0 l3) (lstF 1 [.i r4])))], [], 0⟩ (an2 (cpT (f128_ok _ _ hr4)) ob0) ?_
      refine blockQ_normal ?_
      refine thenQ_normal ?_
      refine AWp.le (Le.mk (s' := ⟨16, [(0, .b16 w2), (3, .own 5003), (1000000, .elem 32 1 T0F 0 0)], [(5003, q2bI_3 (l3 ++ [r4]))], [], 0⟩) rfl rfl ⟨.refl _, .refl _, .refl _, trivial⟩ ⟨⟨_, rfl, (BLe.of (RL.app (RL.self _) (RL.lst (enc := eI) [r4] rfl rfl (fun _ => rfl))))⟩, trivial⟩) ?_
      refine q2rr [] [] ⟨16, [(0, .b16 (w2 &&& (w2 - (q2w16 1)))), (3, .own 5003), (1000000, .elem 32 1 T0F 0 0)], [(5003, q2bI_3 (l3 ++ [r4]))], [], 0⟩ (an1 trivial) ?_
      rw [hC0] at h
      exact loopQ_normal (_, (w2 &&& (w2 - (q2w16 1))), (l3 ++ [r4])) (Le.mk rfl rfl ⟨.refl _, .refl _, .refl _, trivial⟩ ⟨⟨_, rfl, .refl _⟩, trivial⟩) h (Nat.lt_succ_self _)
    ·
      replace h := ite_fb hc1 h
      refine AWp.exit ?_
      refine thenQ_exit ?_
      refine thenQ_exit ?_
      refine blockQ_same ?_
      exact joinQ_normal (l3) (Le.mk rfl rfl ⟨.refl _, .refl _, trivial⟩ ⟨⟨_, rfl, .refl _⟩, trivial⟩) h
  ·
    rintro l5 h
    replace h := (congrFun hK1 _).symm.trans h
    refine q2rq [] [] ⟨16, [(2, .own 5003), (1000000, .elem 32 1 T0F 0 0)], [(5003, q2bI_3 l5)], [], 0⟩ trivial ?_
    refine AWp.le (Le.trans (Le.ren (swapN 5003 3000) (swapN_inv 5003 3000) rfl) (Le.mk (s' := ⟨16, [(2, .own 3000), (1000000, .elem 32 1 T0F 0 0)], [(3000, q2bI_3 l5)], [], 0⟩) rfl rfl ⟨.refl _, .refl _, trivial⟩ ⟨⟨_, rfl, .refl _⟩, trivial⟩)) ?_
    have hret := Option.some.inj h
    subst hret
    refine AWp.le (Le.mk (s' := ⟨16, [(2, .own 3000)], [(3000, q2bI_3 l5)], [], 0⟩) rfl rfl ⟨.refl _, trivial⟩ ⟨⟨_, rfl, .refl _⟩, trivial⟩) ?_
    refine AWp.ret ?_
    exact bodyQ_ret _ rfl ⟨rfl, rfl⟩ rfl
def f77_L1 (r8 : List Int) (i9 : Int) (K2 : (BitVec 16) → Option (Bool × Nat × Int × BitVec 16 × BitVec 16 × Int × (List (BitVec 16 × BitVec 16)))) : Nat → (BitVec 16 × Nat) → Option (Bool × Nat × Int × BitVec 16 × BitVec 16 × Int × (List (BitVec 16 × BitVec 16)))
  | 0, _ => none
  | k + 1, (w16, n17) =>
    if (decide ((n17 : Int) < (((r8).length : Nat) : Int))) then (
    jn (fun (w18 : BitVec 16) =>
    chk (((n17 : Int) + (1 : Int)) ≤ 9223372036854775807) <|
    (f77_L1 r8 i9 K2 k) (w18, (n17 + 1))
    ) fun (K3 : (BitVec 16) → Option (Bool × Nat × Int × BitVec 16 × BitVec 16 × Int × (List (BitVec 16 × BitVec 16)))) =>
    chk ((n17 : Int) < (((r8).length : Nat) : Int)) <|
    chk (n17 < (r8).length) <|
    chk (n17 ≤ IntKind.bits .u32) <|
    if ((bitsI .and .u32 (i9 / 2 ^ n17) (1 : Int)) == (1 : Int)) then (
    chk (0 ≤ (r8.getD n17 0)) <|
    K3 (w16 ||| ((BitVec.ofInt 16 1) <<< (((r8.getD n17 0)).toNat)))
    ) else (
    K3 w16
    )
    ) else (
    K2 w16
    )
def f77_L0 (Y70002 : (Int × BitVec 16 × BitVec 16 × Int × (List (BitVec 16 × BitVec 16))) → (BitVec 16) → Option (Nat × (Int × BitVec 16 × BitVec 16 × Int × (List (BitVec 16 × BitVec 16))))) (r8 : List Int) (K1 : (Int × BitVec 16 × BitVec 16 × Int × (List (BitVec 16 × BitVec 16)) × Nat) → Option (Bool × Nat × Int × BitVec 16 × BitVec 16 × Int × (List (BitVec 16 × BitVec 16)))) : Nat → (Int × Int × BitVec 16 × BitVec 16 × Int × (List (BitVec 16 × BitVec 16)) × Nat) → Option (Bool × Nat × Int × BitVec 16 × BitVec 16 × Int × (List (BitVec 16 × BitVec 16)))
  | 0, _ => none
  | k + 1, (i9, i10, w11, w12, i13, l14, n15) =>
    chk ((r8).length ≤ IntKind.bits .u32 ∧ 0 ≤ ((1 : Int) * 2 ^ ((r8).length)) ∧ ((1 : Int) * 2 ^ ((r8).length)) ≤ 4294967295) <|
    if (decide (i9 < ((1 : Int) * 2 ^ ((r8).length)))) then (
    jn (fun (w19 : BitVec 16) =>
    jn (fun ((i21, w22, w23, i24, l25, n26) : Int × BitVec 16 × BitVec 16 × Int × (List (BitVec 16 × BitVec 16)) × Nat) =>
    if (i9 == (0 : Int)) then (
    K1 (i21, w22, w23, i24, l25, n26)
    ) else (
    chk (0 ≤ (i9 + (bitsI .and .u32 i9 (IntKind.wrap .u32 (0 - i9)))) ∧ (i9 + (bitsI .and .u32 i9 (IntKind.wrap .u32 (0 - i9)))) ≤ 4294967295) <|
    chk (0 ≤ (bitsI .xor .u32 i9 (i9 + (bitsI .and .u32 i9 (IntKind.wrap .u32 (0 - i9))))) ∧ 1 ≤ (bitsI .and .u32 i9 (IntKind.wrap .u32 (0 - i9))) ∧ 0 ≤ ((bitsI .xor .u32 i9 (i9 + (bitsI .and .u32 i9 (IntKind.wrap .u32 (0 - i9))))) / (bitsI .and .u32 i9 (IntKind.wrap .u32 (0 - i9)))) ∧ ((bitsI .xor .u32 i9 (i9 + (bitsI .and .u32 i9 (IntKind.wrap .u32 (0 - i9))))) / (bitsI .and .u32 i9 (IntKind.wrap .u32 (0 - i9)))) ≤ 4294967295) <|
    chk (2 ≤ IntKind.bits .u32) <|
    (f77_L0 Y70002 r8 K1 k) ((bitsI .or .u32 (i9 + (bitsI .and .u32 i9 (IntKind.wrap .u32 (0 - i9)))) (((bitsI .xor .u32 i9 (i9 + (bitsI .and .u32 i9 (IntKind.wrap .u32 (0 - i9))))) / (bitsI .and .u32 i9 (IntKind.wrap .u32 (0 - i9)))) / 2 ^ 2)), i21, w22, w23, i24, l25, n26)
    )
    ) fun (K4 : (Int × BitVec 16 × BitVec 16 × Int × (List (BitVec 16 × BitVec 16)) × Nat) → Option (Bool × Nat × Int × BitVec 16 × BitVec 16 × Int × (List (BitVec 16 × BitVec 16)))) =>
    chk (n15 = 0) <|
    (Y70002 (i13, w12, w11, i10, l14) w19).bind fun (r20 : Nat × (Int × BitVec 16 × BitVec 16 × Int × (List (BitVec 16 × BitVec 16)))) =>
    if r20.1 = 0 then (
    if (!true) then (
    some (false, 0, r20.2.1, r20.2.2.1, r20.2.2.2.1, r20.2.2.2.2.1, r20.2.2.2.2.2)
    ) else (
    K4 (r20.2.2.2.2.1, r20.2.2.2.1, r20.2.2.1, r20.2.1, r20.2.2.2.2.2, 0)
    )
    ) else (
    if (!false) then (
    some (false, r20.1, r20.2.1, r20.2.2.1, r20.2.2.2.1, r20.2.2.2.2.1, r20.2.2.2.2.2)
    ) else (
    K4 (r20.2.2.2.2.1, r20.2.2.2.1, r20.2.2.1, r20.2.1, r20.2.2.2.2.2, r20.1)
    )
    )
    ) fun (K2 : (BitVec 16) → Option (Bool × Nat × Int × BitVec 16 × BitVec 16 × Int × (List (BitVec 16 × BitVec 16)))) =>
    f77_L1 r8 i9 K2 FUEL ((BitVec.ofInt 16 0), 0)
    ) else (
    K1 (i10, w11, w12, i13, l14, n15)
    )
abbrev f77z0 (i13 : Int) (w12 : BitVec 16) (w11 : BitVec 16) (i10 : Int) (l14 : List (BitVec 16 × BitVec 16)) (r8 : List Int) (C70002 : YC) (n15 : Nat) : Heap := [(6, .cells 22 [.nils]), (7, .cells 24 [.int .i64 i13]), (9, .cells 22 [.own 6400]), (10, .cells 28 [.b16 w12]), (6003, .cells 28 [.b16 w11]), (6004, .cells 3 [.int .i64 i10]), (6400, bL 30 2 eWW (default : BitVec 16 × BitVec 16) l14), (26001, bL 3 1 eI 0 r8), (70002, .yld (some ([6, 7, 9, 10], C70002)) n15)]
abbrev f77z1 (i24 : Int) (w23 : BitVec 16) (w22 : BitVec 16) (i21 : Int) (l25 : List (BitVec 16 × BitVec 16)) (r8 : List Int) (C70002 : YC) (n26 : Nat) : Heap := [(6, .cells 22 [.nils]), (7, .cells 24 [.int .i64 i24]), (9, .cells 22 [.own 6400]), (10, .cells 28 [.b16 w23]), (6003, .cells 28 [.b16 w22]), (6004, .cells 3 [.int .i64 i21]), (6400, bL 30 2 eWW (default : BitVec 16 × BitVec 16) l25), (26001, bL 3 1 eI 0 r8), (70002, .yld (some ([6, 7, 9, 10], C70002)) n26)]
abbrev f77z2 (r20 : Nat × (Int × BitVec 16 × BitVec 16 × Int × (List (BitVec 16 × BitVec 16)))) : Heap := [(6, .cells 22 [.nils]), (7, .cells 24 [.int .i64 r20.2.1]), (9, .cells 22 [.own 6400]), (10, .cells 28 [.b16 r20.2.2.1]), (6003, .cells 28 [.b16 r20.2.2.2.1]), (6004, .cells 3 [.int .i64 r20.2.2.2.2.1]), (6400, bL 30 2 eWW (default : BitVec 16 × BitVec 16) r20.2.2.2.2.2)]
abbrev f77z3 (x3 : Int) (x4 : BitVec 16) (x5 : BitVec 16) (x6 : Int) (x7 : List (BitVec 16 × BitVec 16)) (r8 : List Int) (C70002 : YC) : Heap := [(6, .cells 22 [.nils]), (7, .cells 24 [.int .i64 x3]), (9, .cells 22 [.own 6400]), (10, .cells 28 [.b16 x4]), (6003, .cells 28 [.b16 x5]), (6004, .cells 3 [.int .i64 x6]), (6400, bL 30 2 eWW (default : BitVec 16 × BitVec 16) x7), (26001, bL 3 1 eI 0 r8), (70002, .yld (some ([6, 7, 9, 10], C70002)) 0)]
abbrev f77z4 (C70002 : YC) (r20 : Nat × (Int × BitVec 16 × BitVec 16 × Int × (List (BitVec 16 × BitVec 16)))) : Heap := [(70002, .yld (some ([6, 7, 9, 10], C70002)) r20.1), (6, .cells 22 [.nils]), (7, .cells 24 [.int .i64 r20.2.1]), (9, .cells 22 [.own 6400]), (10, .cells 28 [.b16 r20.2.2.1]), (6003, .cells 28 [.b16 r20.2.2.2.1]), (6004, .cells 3 [.int .i64 r20.2.2.2.2.1]), (6400, bL 30 2 eWW (default : BitVec 16 × BitVec 16) r20.2.2.2.2.2)]
abbrev f77z5 (C70002 : YC) (r20 : Nat × (Int × BitVec 16 × BitVec 16 × Int × (List (BitVec 16 × BitVec 16)))) : Heap := [(70002, .yld (some ([6, 7, 9, 10], C70002)) 0), (6, .cells 22 [.nils]), (7, .cells 24 [.int .i64 r20.2.1]), (9, .cells 22 [.own 6400]), (10, .cells 28 [.b16 r20.2.2.1]), (6003, .cells 28 [.b16 r20.2.2.2.1]), (6004, .cells 3 [.int .i64 r20.2.2.2.2.1]), (6400, bL 30 2 eWW (default : BitVec 16 × BitVec 16) r20.2.2.2.2.2)]
abbrev f77z6 (x2 : Int) := ((decide (x2 < (0 : Int))) == false)
abbrev f77z7 := (List (BitVec 16 × BitVec 16))
def f77 (Y70002 : (Int × BitVec 16 × BitVec 16 × Int × (List (BitVec 16 × BitVec 16))) → (BitVec 16) → Option (Nat × (Int × BitVec 16 × BitVec 16 × Int × (List (BitVec 16 × BitVec 16))))) (x1 : BitVec 16) (x2 : Int) (x3 : Int) (x4 : BitVec 16) (x5 : BitVec 16) (x6 : Int) (x7 : List (BitVec 16 × BitVec 16)) : Option (Bool × Nat × Int × BitVec 16 × BitVec 16 × Int × (List (BitVec 16 × BitVec 16))) :=
  (f100 x1).bind fun (r8 : List Int) =>
  if ((decide (x2 < (0 : Int))) || (decide (x2 > (((r8).length : Nat) : Int)))) then (
  some (true, 0, x3, x4, x5, x6, x7)
  ) else (
  jn (fun ((i20, w21, w22, i23, l24, n25) : Int × BitVec 16 × BitVec 16 × Int × (List (BitVec 16 × BitVec 16)) × Nat) =>
  some (true, n25, i23, w22, w21, i20, l24)
  ) fun (K1 : (Int × BitVec 16 × BitVec 16 × Int × (List (BitVec 16 × BitVec 16)) × Nat) → Option (Bool × Nat × Int × BitVec 16 × BitVec 16 × Int × (List (BitVec 16 × BitVec 16)))) =>
  chk (0 ≤ x2 ∧ (x2).toNat ≤ IntKind.bits .u32 ∧ 0 ≤ ((1 : Int) * 2 ^ ((x2).toNat)) ∧ ((1 : Int) * 2 ^ ((x2).toNat)) ≤ 4294967295) <|
  chk (0 ≤ (((1 : Int) * 2 ^ ((x2).toNat)) - (1 : Int)) ∧ (((1 : Int) * 2 ^ ((x2).toNat)) - (1 : Int)) ≤ 4294967295) <|
  f77_L0 Y70002 r8 K1 FUEL ((((1 : Int) * 2 ^ ((x2).toNat)) - (1 : Int)), x6, x5, x4, x3, x7, 0)
  )
set_option maxRecDepth 100000 in
theorem f77_ok (C70002 : YC) (Y70002 : (Int × BitVec 16 × BitVec 16 × Int × (List (BitVec 16 × BitVec 16))) → (BitVec 16) → Option (Nat × (Int × BitVec 16 × BitVec 16 × Int × (List (BitVec 16 × BitVec 16))))) (x1 : BitVec 16) (x2 : Int) (x3 : Int) (x4 : BitVec 16) (x5 : BitVec 16) (x6 : Int) (x7 : List (BitVec 16 × BitVec 16)) (r : Bool × Nat × Int × BitVec 16 × BitVec 16 × Int × (List (BitVec 16 × BitVec 16))) (h : f77 Y70002 x1 x2 x3 x4 x5 x6 x7 = some r) (hY70002 : ∀ s x r, Y70002 s x = some r → YSpec Tryz.prog 70002 [6, 7, 9, 10] C70002 [6, 7, 9, 10, 6003, 6004] [(6, .cells 22 [.nils]), (7, .cells 24 [.int .i64 s.1]), (9, .cells 22 [.own 6400]), (10, .cells 28 [.b16 s.2.1]), (6003, .cells 28 [.b16 s.2.2.1]), (6004, .cells 3 [.int .i64 s.2.2.2.1]), (6400, bL 30 2 eWW (default : BitVec 16 × BitVec 16) s.2.2.2.2)] [.b16 x] r.1 [(6, .cells 22 [.nils]), (7, .cells 24 [.int .i64 r.2.1]), (9, .cells 22 [.own 6400]), (10, .cells 28 [.b16 r.2.2.1]), (6003, .cells 28 [.b16 r.2.2.2.1]), (6004, .cells 3 [.int .i64 r.2.2.2.2.1]), (6400, bL 30 2 eWW (default : BitVec 16 × BitVec 16) r.2.2.2.2.2)]) : Spec1 Tryz.prog 77 [(0, .elem 32 1 T0F 0 0)] [70002, 6, 7, 9, 10, 6003, 6004] [(70002, .yld (some ([6, 7, 9, 10], C70002)) 0), (6, .cells 22 [.nils]), (7, .cells 24 [.int .i64 x3]), (9, .cells 22 [.own 6400]), (10, .cells 28 [.b16 x4]), (6003, .cells 28 [.b16 x5]), (6004, .cells 3 [.int .i64 x6]), (6400, bL 30 2 eWW (default : BitVec 16 × BitVec 16) x7)] [.b16 x1, .int .i64 x2, .own 70002] (.bool r.1) [(70002, .yld (some ([6, 7, 9, 10], C70002)) r.2.1), (6, .cells 22 [.nils]), (7, .cells 24 [.int .i64 r.2.2.1]), (9, .cells 22 [.own 6400]), (10, .cells 28 [.b16 r.2.2.2.1]), (6003, .cells 28 [.b16 r.2.2.2.2.1]), (6004, .cells 3 [.int .i64 r.2.2.2.2.2.1]), (6400, bL 30 2 eWW (default : BitVec 16 × BitVec 16) r.2.2.2.2.2.2)] := by
  unfold f77 at h
  refine Spec1.body 20000 _ _ Tryz.func77 rfl Tryz.ntmps77 rfl rfl ?_
  refine q2rq [57] [] ⟨70, [(0, .b16 x1), (1, .i x2), (2, .own 70002), (1000000, .elem 32 1 T0F 0 0)], [(6, .cells 22 [.nils]), (7, .cells 24 [.i x3]), (9, .cells 22 [.own 6400]), (10, .cells 28 [.b16 x4]), (6003, .cells 28 [.b16 x5]), (6004, .cells 3 [.i x6]), (6400, q2bWW_30 x7), (70002, .yld (some ([6, 7, 9, 10], C70002)) 0)], [70002, 6, 7, 9, 10, 6003, 6004], 20000⟩ trivial ?_
  refine AWp.seq ?_
  obtain ⟨r8, hr8, h⟩ := bind_ok h
  refine q2rr [57] [(1, ⟨[.b16 x1], [], [], [(26001, q2bI_3 r8)], .own 26001, [26001], [], [0]⟩)] ⟨70, [(1, .i x2), (2, .own 70002), (7, .own 26001), (1000000, .elem 32 1 T0F 0 0)], (f77z3 x3 x4 x5 x6 x7 r8 C70002), [70002, 6, 7, 9, 10, 6003, 6004], 20000⟩ (an1 (cpT (Spec1.ren (swapN 3000 26001) (swapN_inv 3000 26001) rfl (f100_ok _ _ hr8)))) ?_
  refine thenQ_normal ?_
  refine AWp.seq ?_
  refine AWp.seq ?_
  have ob0 := idA ((f77z6 x2) = true)
  have ob1 := idA ((f77z6 x2) = true)
  have ob2 := idA ((f77z6 x2) = true)
  have ob3 : true = true → (decide (x2 < (0 : Int))) = false → (f77z6 x2) = true := fun _ h => beq_iff_eq.2 h
  refine q2rr [57] [] ⟨70, [(1, .i x2), (2, .own 70002), (7, .own 26001), (23, .bool ((decide (x2 < (0 : Int))) || (decide (x2 > (lZ r8))))), (1000000, .elem 32 1 T0F 0 0)], (f77z3 x3 x4 x5 x6 x7 r8 C70002), [70002, 6, 7, 9, 10, 6003, 6004], 20000⟩ (an3 (an1 ob0) (an2 ob1 ob2) ob3) ?_
  refine thenQ_normal ?_
  refine AWp.cond (b := ((decide (x2 < (0 : Int))) || (decide (x2 > (lZ r8))))) (by kernel_rfl) (fun hc1 => ?_) (fun hc1 => ?_)
  ·
    replace h := ite_tb hc1 h
    refine q2rq [57] [] ⟨70, [(6, .bool true), (1000000, .elem 32 1 T0F 0 0)], [(6, .cells 22 [.nils]), (7, .cells 24 [.i x3]), (9, .cells 22 [.own 6400]), (10, .cells 28 [.b16 x4]), (6003, .cells 28 [.b16 x5]), (6004, .cells 3 [.i x6]), (6400, q2bWW_30 x7), (70002, .yld (some ([6, 7, 9, 10], C70002)) 0)], [70002, 6, 7, 9, 10, 6003, 6004], 20000⟩ trivial ?_
    have hret := Option.some.inj h
    subst hret
    refine AWp.le (Le.mk (s' := ⟨70, [(6, .bool true)], [(70002, .yld (some ([6, 7, 9, 10], C70002)) 0), (6, .cells 22 [.nils]), (7, .cells 24 [.i x3]), (9, .cells 22 [.own 6400]), (10, .cells 28 [.b16 x4]), (6003, .cells 28 [.b16 x5]), (6004, .cells 3 [.i x6]), (6400, q2bWW_30 x7)], [70002, 6, 7, 9, 10, 6003, 6004], 20000⟩) rfl rfl ⟨.refl _, trivial⟩ ⟨⟨_, rfl, .refl _⟩, ⟨_, rfl, .refl _⟩, ⟨_, rfl, .refl _⟩, ⟨_, rfl, .refl _⟩, ⟨_, rfl, .refl _⟩, ⟨_, rfl, .refl _⟩, ⟨_, rfl, .refl _⟩, ⟨_, rfl, .refl _⟩, trivial⟩) ?_
    refine AWp.ret ?_
    refine thenQ_ret ?_
    exact bodyQ_ret _ rfl ⟨rfl, rfl⟩ rfl
  ·
    replace h := ite_fb hc1 h
    refine AWp.skip ?_
    refine thenQ_normal ?_
    obtain ⟨K1, hK1, h⟩ := jn_some h
    refine AWp.join (α := Int × BitVec 16 × BitVec 16 × Int × (f77z7) × Nat) (fun (x : Int × BitVec 16 × BitVec 16 × Int × (f77z7) × Nat) => match x with | (i20, w21, w22, i23, l24, n25) => ⟨70, [(1000000, .elem 32 1 T0F 0 0)], [(6, .cells 22 [.nils]), (7, .cells 24 [.i i23]), (9, .cells 22 [.own 6400]), (10, .cells 28 [.b16 w22]), (6003, .cells 28 [.b16 w21]), (6004, .cells 3 [.i i20]), (6400, q2bWW_30 l24), (70002, .yld (some ([6, 7, 9, 10], C70002)) n25)], [70002, 6, 7, 9, 10, 6003, 6004], 20000⟩) (fun x => K1 x = some r) ?_ ?_
    ·
      refine AWp.seq ?_
      obtain ⟨ob4, ob5, h⟩ := ck2 h
      refine q2rr [57] [] ⟨70, [(2, .own 70002), (7, .own 26001), (8, .int .u32 (((1 : Int) * 2 ^ ((x2).toNat)) - (1 : Int))), (1000000, .elem 32 1 T0F 0 0)], (f77z3 x3 x4 x5 x6 x7 r8 C70002), [70002, 6, 7, 9, 10, 6003, 6004], 20000⟩ (an2 ob4 ob5) ?_
      refine thenQ_normal ?_
      refine AWp.block ?_
      refine AWp.loopL (α := Nat × (Int × Int × BitVec 16 × BitVec 16 × Int × (f77z7) × Nat)) (fun x => match x with | (_, i9, i10, w11, w12, i13, l14, n15) => ⟨70, [(2, .own 70002), (7, .own 26001), (8, .int .u32 i9), (1000000, .elem 32 1 T0F 0 0)], (f77z0 i13 w12 w11 i10 l14 r8 C70002 n15), [70002, 6, 7, 9, 10, 6003, 6004], 20000⟩) (fun x => f77_L0 Y70002 r8 K1 x.1 x.2 = some r) (fun x => x.1) (FUEL, (((1 : Int) * 2 ^ ((x2).toNat)) - (1 : Int)), x6, x5, x4, x3, x7, 0) (Le.mk (s' := ⟨70, [(2, .own 70002), (7, .own 26001), (8, .int .u32 (((1 : Int) * 2 ^ ((x2).toNat)) - (1 : Int))), (1000000, .elem 32 1 T0F 0 0)], (f77z3 x3 x4 x5 x6 x7 r8 C70002), [70002, 6, 7, 9, 10, 6003, 6004], 20000⟩) rfl rfl ⟨.refl _, .refl _, .refl _, .refl _, trivial⟩ ⟨⟨_, rfl, .refl _⟩, ⟨_, rfl, .refl _⟩, ⟨_, rfl, .refl _⟩, ⟨_, rfl, .refl _⟩, ⟨_, rfl, .refl _⟩, ⟨_, rfl, .refl _⟩, ⟨_, rfl, .refl _⟩, ⟨_, rfl, .refl _⟩, ⟨_, rfl, .refl _⟩, trivial⟩) h ?_
      rintro ⟨k0, i9, i10, w11, w12, i13, l14, n15⟩ h
      cases k0 with
      | zero => exact nomatch (show (none : Option (Bool × Nat × Int × BitVec 16 × BitVec 16 × Int × (List (BitVec 16 × BitVec 16)))) = some r from h)
      | succ k0 =>
      obtain ⟨C0, hC0⟩ : ∃ C, C = f77_L0 Y70002 r8 K1 k0 := ⟨_, rfl⟩
      replace h := (f77_L0.eq_2 ..).symm.trans h
      try rw [← hC0] at h
      refine AWp.seq ?_
      refine AWp.seq ?_
      obtain ⟨ob6p, h⟩ := chk_some h
      have ob6 : 0 ≤ (((r8).length : Nat) : Int) ∧ (r8).length ≤ IntKind.bits .u32 ∧ 0 ≤ ((1 : Int) * 2 ^ ((r8).length)) ∧ ((1 : Int) * 2 ^ ((r8).length)) ≤ 4294967295 := ⟨by omega, ob6p.1, ob6p.2.1, ob6p.2.2⟩
      refine q2rr [57] [] ⟨70, [(2, .own 70002), (7, .own 26001), (8, .int .u32 i9), (31, .bool (decide (i9 < ((1 : Int) * 2 ^ ((r8).length))))), (1000000, .elem 32 1 T0F 0 0)], (f77z0 i13 w12 w11 i10 l14 r8 C70002 n15), [70002, 6, 7, 9, 10, 6003, 6004], 20000⟩ (an1 ob6) ?_
      refine thenQ_normal ?_
      refine AWp.cond (b := (decide (i9 < ((1 : Int) * 2 ^ ((r8).length))))) (by kernel_rfl) (fun hc2 => ?_) (fun hc2 => ?_)
      ·
        replace h := ite_tb hc2 h
        refine AWp.skip ?_
        refine thenQ_normal ?_
        refine AWp.block ?_
        refine q2rq [57] [] ⟨70, [(2, .own 70002), (7, .own 26001), (8, .int .u32 i9), (9, .b16 (q2w16 0)), (1000000, .elem 32 1 T0F 0 0)], (f77z0 i13 w12 w11 i10 l14 r8 C70002 n15), [70002, 6, 7, 9, 10, 6003, 6004], 20000⟩ trivial ?_
        obtain ⟨K2, hK2, h⟩ := jn_some h
        refine AWp.join (α := BitVec 16) (fun (w19 : BitVec 16) => ⟨70, [(2, .own 70002), (7, .own 26001), (8, .int .u32 i9), (9, .b16 w19), (1000000, .elem 32 1 T0F 0 0)], (f77z0 i13 w12 w11 i10 l14 r8 C70002 n15), [70002, 6, 7, 9, 10, 6003, 6004], 20000⟩) (fun x => K2 x = some r) ?_ ?_
        ·
          refine q2rq [57] [] ⟨70, [(2, .own 70002), (7, .own 26001), (8, .int .u32 i9), (9, .b16 (q2w16 0)), (32, .own 26001), (33, .i (lZ r8)), (34, .i (0 : Int)), (1000000, .elem 32 1 T0F 0 0)], (f77z0 i13 w12 w11 i10 l14 r8 C70002 n15), [70002, 6, 7, 9, 10, 6003, 6004], 20000⟩ trivial ?_
          refine AWp.block ?_
          refine AWp.loopL (α := Nat × (BitVec 16 × Nat)) (fun x => match x with | (_, w16, n17) => ⟨70, [(2, .own 70002), (7, .own 26001), (8, .int .u32 i9), (9, .b16 w16), (32, .own 26001), (33, .i (lZ r8)), (34, .i (n17 : Int)), (1000000, .elem 32 1 T0F 0 0)], (f77z0 i13 w12 w11 i10 l14 r8 C70002 n15), [70002, 6, 7, 9, 10, 6003, 6004], 20000⟩) (fun x => f77_L1 r8 i9 K2 x.1 x.2 = some r) (fun x => x.1) (FUEL, (q2w16 0), 0) (Le.mk (s' := ⟨70, [(2, .own 70002), (7, .own 26001), (8, .int .u32 i9), (9, .b16 (q2w16 0)), (32, .own 26001), (33, .i (lZ r8)), (34, .i (0 : Int)), (1000000, .elem 32 1 T0F 0 0)], (f77z0 i13 w12 w11 i10 l14 r8 C70002 n15), [70002, 6, 7, 9, 10, 6003, 6004], 20000⟩) rfl rfl ⟨.refl _, .refl _, .refl _, .refl _, .refl _, .refl _, .refl _, .refl _, trivial⟩ ⟨⟨_, rfl, .refl _⟩, ⟨_, rfl, .refl _⟩, ⟨_, rfl, .refl _⟩, ⟨_, rfl, .refl _⟩, ⟨_, rfl, .refl _⟩, ⟨_, rfl, .refl _⟩, ⟨_, rfl, .refl _⟩, ⟨_, rfl, .refl _⟩, ⟨_, rfl, .refl _⟩, trivial⟩) h ?_
          rintro ⟨k1, w16, n17⟩ h
          cases k1 with
          | zero => exact nomatch (show (none : Option (Bool × Nat × Int × BitVec 16 × BitVec 16 × Int × (List (BitVec 16 × BitVec 16)))) = some r from h)
          | succ k1 =>
          obtain ⟨C1, hC1⟩ : ∃ C, C = f77_L1 r8 i9 K2 k1 := ⟨_, rfl⟩
          replace h := (f77_L1.eq_2 ..).symm.trans h
          try rw [← hC1] at h
          refine q2rq [57] [] ⟨70, [(2, .own 70002), (7, .own 26001), (8, .int .u32 i9), (9, .b16 w16), (32, .own 26001), (33, .i (lZ r8)), (34, .i (n17 : Int)), (35, .bool (decide ((n17 : Int) < (lZ r8)))), (1000000, .elem 32 1 T0F 0 0)], (f77z0 i13 w12 w11 i10 l14 r8 C70002 n15), [70002, 6, 7, 9, 10, 6003, 6004], 20000⟩ trivial ?_
          refine AWp.seq ?_
          refine AWp.cond (b := (decide ((n17 : Int) < (lZ r8)))) (by kernel_rfl) (fun hc3 => ?_) (fun hc3 => ?_)
          ·
            replace h := ite_tb hc3 h
            refine AWp.skip ?_
            refine thenQ_normal ?_
            obtain ⟨K3, hK3, h⟩ := jn_some h
            refine AWp.join (α := BitVec 16) (fun (w18 : BitVec 16) => ⟨70, [(2, .own 70002), (7, .own 26001), (8, .int .u32 i9), (9, .b16 w18), (32, .own 26001), (33, .i (lZ r8)), (34, .i (n17 : Int)), (1000000, .elem 32 1 T0F 0 0)], (f77z0 i13 w12 w11 i10 l14 r8 C70002 n15), [70002, 6, 7, 9, 10, 6003, 6004], 20000⟩) (fun x => K3 x = some r) ?_ ?_
            ·
              refine AWp.block ?_
              refine AWp.seq ?_
              obtain ⟨ob7p, h⟩ := chk_some h
              have ob7 : 0 ≤ (n17 : Int) ∧ (n17 : Int) < (((r8).length : Nat) : Int) := ⟨by omega, ob7p⟩
              obtain ⟨ob8, h⟩ := chk_some h
              refine q2rr [57] [] ⟨70, [(2, .own 70002), (7, .own 26001), (8, .int .u32 i9), (9, .b16 w16), (10, .i (n17 : Int)), (11, .i (r8.getD n17 0)), (32, .own 26001), (33, .i (lZ r8)), (34, .i (n17 : Int)), (1000000, .elem 32 1 T0F 0 0)], (f77z0 i13 w12 w11 i10 l14 r8 C70002 n15), [70002, 6, 7, 9, 10, 6003, 6004], 20000⟩ (an2 ob7 ob8) ?_
              refine thenQ_normal ?_
              refine AWp.seq ?_
              obtain ⟨ob9p, h⟩ := chk_some h
              have ob9 : 0 ≤ (n17 : Int) ∧ n17 ≤ IntKind.bits .u32 := ⟨by omega, ob9p⟩
              refine q2rr [57] [] ⟨70, [(2, .own 70002), (7, .own 26001), (8, .int .u32 i9), (9, .b16 w16), (11, .i (r8.getD n17 0)), (32, .own 26001), (33, .i (lZ r8)), (34, .i (n17 : Int)), (43, .bool ((bitsI .and .u32 (i9 / 2 ^ n17) (1 : Int)) == (1 : Int))), (1000000, .elem 32 1 T0F 0 0)], (f77z0 i13 w12 w11 i10 l14 r8 C70002 n15), [70002, 6, 7, 9, 10, 6003, 6004], 20000⟩ (an1 ob9) ?_
              refine thenQ_normal ?_
              refine AWp.cond (b := ((bitsI .and .u32 (i9 / 2 ^ n17) (1 : Int)) == (1 : Int))) (by kernel_rfl) (fun hc4 => ?_) (fun hc4 => ?_)
              ·
                replace h := ite_tb hc4 h
                obtain ⟨ob10, h⟩ := chk_some h
                refine q2rr [57] [] ⟨70, [(2, .own 70002), (7, .own 26001), (8, .int .u32 i9), (9, .b16 (w16 ||| ((q2w16 1) <<< (((r8.getD n17 0)).toNat)))), (32, .own 26001), (33, .i (lZ r8)), (34, .i (n17 : Int)), (1000000, .elem 32 1 T0F 0 0)], (f77z0 i13 w12 w11 i10 l14 r8 C70002 n15), [70002, 6, 7, 9, 10, 6003, 6004], 20000⟩ (an1 ob10) ?_
                refine blockQ_normal ?_
                exact joinQ_normal ((w16 ||| ((q2w16 1) <<< (((r8.getD n17 0)).toNat)))) (Le.mk rfl rfl ⟨.refl _, .refl _, .refl _, .refl _, .refl _, .refl _, .refl _, .refl _, trivial⟩ ⟨⟨_, rfl, .refl _⟩, ⟨_, rfl, .refl _⟩, ⟨_, rfl, .refl _⟩, ⟨_, rfl, .refl _⟩, ⟨_, rfl, .refl _⟩, ⟨_, rfl, .refl _⟩, ⟨_, rfl, .refl _⟩, ⟨_, rfl, .refl _⟩, ⟨_, rfl, .refl _⟩, trivial⟩) h
              ·
                replace h := ite_fb hc4 h
                refine AWp.skip ?_
                refine blockQ_normal ?_
                exact joinQ_normal (w16) (Le.mk rfl rfl ⟨.refl _, .refl _, .refl _, .refl _, .refl _, .refl _, .refl _, .refl _, trivial⟩ ⟨⟨_, rfl, .refl _⟩, ⟨_, rfl, .refl _⟩, ⟨_, rfl, .refl _⟩, ⟨_, rfl, .refl _⟩, ⟨_, rfl, .refl _⟩, ⟨_, rfl, .refl _⟩, ⟨_, rfl, .refl _⟩, ⟨_, rfl, .refl _⟩, ⟨_, rfl, .refl _⟩, trivial⟩) h
            ·
              rintro w18 h
              replace h := (congrFun hK3 _).symm.trans h
              obtain ⟨ob11p, h⟩ := chk_some h
              have ob11 : -9223372036854775808 ≤ ((n17 : Int) + (1 : Int)) ∧ ((n17 : Int) + (1 : Int)) ≤ 9223372036854775807 := ⟨by omega, ob11p⟩
              refine q2rr [57] [] ⟨70, [(2, .own 70002), (7, .own 26001), (8, .int .u32 i9), (9, .b16 w18), (32, .own 26001), (33, .i (lZ r8)), (34, .i (((n17 + 1) : Nat) : Int)), (1000000, .elem 32 1 T0F 0 0)], (f77z0 i13 w12 w11 i10 l14 r8 C70002 n15), [70002, 6, 7, 9, 10, 6003, 6004], 20000⟩ (an1 ob11) ?_
              rw [hC1] at h
              exact loopQ_normal (_, w18, (n17 + 1)) (Le.mk rfl rfl ⟨.refl _, .refl _, .refl _, .refl _, .refl _, .refl _, .refl _, .refl _, trivial⟩ ⟨⟨_, rfl, .refl _⟩, ⟨_, rfl, .refl _⟩, ⟨_, rfl, .refl _⟩, ⟨_, rfl, .refl _⟩, ⟨_, rfl, .refl _⟩, ⟨_, rfl, .refl _⟩, ⟨_, rfl, .refl _⟩, ⟨_, rfl, .refl _⟩, ⟨_, rfl, .refl _⟩, trivial⟩) h (Nat.lt_succ_self _)
          ·
            replace h := ite_fb hc3 h
            refine AWp.exit ?_
            refine thenQ_exit ?_
            refine thenQ_exit ?_
            refine blockQ_same ?_
            exact joinQ_normal (w16) (Le.mk rfl rfl ⟨.refl _, .refl _, .refl _, .refl _, .refl _, trivial⟩ ⟨⟨_, rfl, .refl _⟩, ⟨_, rfl, .refl _⟩, ⟨_, rfl, .refl _⟩, ⟨_, rfl, .refl _⟩, ⟨_, rfl, .refl _⟩, ⟨_, rfl, .refl _⟩, ⟨_, rfl, .refl _⟩, ⟨_, rfl, .refl _⟩, ⟨_, rfl, .refl _⟩, trivial⟩) h
        ·
          rintro w19 h
          replace h := (congrFun hK2 _).symm.trans h
          obtain ⟨K4, hK4, h⟩ := jn_some h
          refine AWp.join (α := Int × BitVec 16 × BitVec 16 × Int × (f77z7) × Nat) (fun (x : Int × BitVec 16 × BitVec 16 × Int × (f77z7) × Nat) => match x with | (i21, w22, w23, i24, l25, n26) => ⟨70, [(2, .own 70002), (7, .own 26001), (8, .int .u32 i9), (1000000, .elem 32 1 T0F 0 0)], (f77z1 i24 w23 w22 i21 l25 r8 C70002 n26), [70002, 6, 7, 9, 10, 6003, 6004], 20000⟩) (fun x => K4 x = some r) ?_ ?_
          ·
            refine AWp.seq ?_
            obtain ⟨hz5, h⟩ := chk_some h
            refine AWp.le (Le.mk (s' := ⟨70, [(2, .own 70002), (7, .own 26001), (8, .int .u32 i9), (9, .b16 w19), (1000000, .elem 32 1 T0F 0 0)], [(6, .cells 22 [.nils]), (7, .cells 24 [.i i13]), (9, .cells 22 [.own 6400]), (10, .cells 28 [.b16 w12]), (6003, .cells 28 [.b16 w11]), (6004, .cells 3 [.i i10]), (6400, q2bWW_30 l14), (26001, q2bI_3 r8), (70002, .yld (some ([6, 7, 9, 10], C70002)) 0)], [70002, 6, 7, 9, 10, 6003, 6004], 20000⟩) rfl rfl ⟨.refl _, .refl _, .refl _, .refl _, .refl _, trivial⟩ ⟨⟨_, rfl, .refl _⟩, ⟨_, rfl, .refl _⟩, ⟨_, rfl, .refl _⟩, ⟨_, rfl, .refl _⟩, ⟨_, rfl, .refl _⟩, ⟨_, rfl, .refl _⟩, ⟨_, rfl, .refl _⟩, ⟨_, rfl, .refl _⟩, ⟨_, rfl, BLe.yldEq hz5⟩, trivial⟩) ?_
            obtain ⟨r20, hr20, h⟩ := bind_ok h
            by_cases hy_r20 : r20.1 = 0
            ·
              replace h := ite_t hy_r20 h
              refine q2rr [57] [(2, ⟨[.b16 w19], [70002, 6, 7, 9, 10, 6003, 6004, 6400], [6, 7, 9, 10, 6003, 6004], (f77z5 C70002 r20), .bool true, [6400], [], []⟩)] ⟨70, [(2, .own 70002), (7, .own 26001), (8, .int .u32 i9), (52, .bool (!true)), (1000000, .elem 32 1 T0F 0 0)], [(6, .cells 22 [.nils]), (7, .cells 24 [.i r20.2.1]), (9, .cells 22 [.own 6400]), (10, .cells 28 [.b16 r20.2.2.1]), (6003, .cells 28 [.b16 r20.2.2.2.1]), (6004, .cells 3 [.i r20.2.2.2.2.1]), (6400, q2bWW_30 r20.2.2.2.2.2), (26001, q2bI_3 r8), (70002, .yld (some ([6, 7, 9, 10], C70002)) 0)], [70002, 6, 7, 9, 10, 6003, 6004], 20000⟩ (an1 (show (((f77z5 C70002 r20) : Heap) = (70002, .yld (some ([6, 7, 9, 10], C70002)) 0) :: (f77z2 r20) ∧ V.bool true = V.bool (0 == 0) ∧ YSpec Tryz.prog 70002 [6, 7, 9, 10] C70002 [6, 7, 9, 10, 6003, 6004] [(6, .cells 22 [.nils]), (7, .cells 24 [.i i13]), (9, .cells 22 [.own 6400]), (10, .cells 28 [.b16 w12]), (6003, .cells 28 [.b16 w11]), (6004, .cells 3 [.i i10]), (6400, q2bWW_30 l14)] [.b16 w19] 0 (f77z2 r20) ∧ VLes [.b16 w19] [.b16 w19]) from ⟨rfl, rfl, (YSpec.zero (hY70002 _ _ r20 hr20) hy_r20), ⟨.refl _, trivial⟩⟩)) ?_
              refine thenQ_normal ?_
              refine AWp.cond (b := (!true)) (by kernel_rfl) (fun hc7 => ?_) (fun hc7 => ?_)
              ·
                replace h := ite_tb hc7 h
                refine q2rq [57] [] ⟨70, [(6, .bool false), (1000000, .elem 32 1 T0F 0 0)], [(6, .cells 22 [.nils]), (7, .cells 24 [.i r20.2.1]), (9, .cells 22 [.own 6400]), (10, .cells 28 [.b16 r20.2.2.1]), (6003, .cells 28 [.b16 r20.2.2.2.1]), (6004, .cells 3 [.i r20.2.2.2.2.1]), (6400, q2bWW_30 r20.2.2.2.2.2), (70002, .yld (some ([6, 7, 9, 10], C70002)) 0)], [70002, 6, 7, 9, 10, 6003, 6004], 20000⟩ trivial ?_
                have hret := Option.some.inj h
                subst hret
                refine AWp.le (Le.mk (s' := ⟨70, [(6, .bool false)], (f77z5 C70002 r20), [70002, 6, 7, 9, 10, 6003, 6004], 20000⟩) rfl rfl ⟨.refl _, trivial⟩ ⟨⟨_, rfl, .refl _⟩, ⟨_, rfl, .refl _⟩, ⟨_, rfl, .refl _⟩, ⟨_, rfl, .refl _⟩, ⟨_, rfl, .refl _⟩, ⟨_, rfl, .refl _⟩, ⟨_, rfl, .refl _⟩, ⟨_, rfl, .refl _⟩, trivial⟩) ?_
                refine AWp.ret ?_
                refine joinQ_ret ?_
                refine blockQ_ret ?_
                refine thenQ_ret ?_
                refine blockQ_ret ?_
                refine joinQ_ret ?_
                exact bodyQ_ret _ rfl ⟨rfl, rfl⟩ rfl
              ·
                replace h := ite_fb hc7 h
                refine AWp.skip ?_
                exact joinQ_normal (r20.2.2.2.2.1, r20.2.2.2.1, r20.2.2.1, r20.2.1, r20.2.2.2.2.2, 0) (Le.mk rfl rfl ⟨.refl _, .refl _, .refl _, .refl _, trivial⟩ ⟨⟨_, rfl, .refl _⟩, ⟨_, rfl, .refl _⟩, ⟨_, rfl, .refl _⟩, ⟨_, rfl, .refl _⟩, ⟨_, rfl, .refl _⟩, ⟨_, rfl, .refl _⟩, ⟨_, rfl, .refl _⟩, ⟨_, rfl, .refl _⟩, ⟨_, rfl, .refl _⟩, trivial⟩) h
            ·
              replace h := ite_f hy_r20 h
              refine q2rr [57] [(2, ⟨[.b16 w19], [70002, 6, 7, 9, 10, 6003, 6004, 6400], [6, 7, 9, 10, 6003, 6004], (f77z4 C70002 r20), .bool false, [6400], [], []⟩)] ⟨70, [(2, .own 70002), (7, .own 26001), (8, .int .u32 i9), (52, .bool (!false)), (1000000, .elem 32 1 T0F 0 0)], [(6, .cells 22 [.nils]), (7, .cells 24 [.i r20.2.1]), (9, .cells 22 [.own 6400]), (10, .cells 28 [.b16 r20.2.2.1]), (6003, .cells 28 [.b16 r20.2.2.2.1]), (6004, .cells 3 [.i r20.2.2.2.2.1]), (6400, q2bWW_30 r20.2.2.2.2.2), (26001, q2bI_3 r8), (70002, .yld (some ([6, 7, 9, 10], C70002)) r20.1)], [70002, 6, 7, 9, 10, 6003, 6004], 20000⟩ (an1 (show (((f77z4 C70002 r20) : Heap) = (70002, .yld (some ([6, 7, 9, 10], C70002)) r20.1) :: (f77z2 r20) ∧ V.bool false = V.bool (r20.1 == 0) ∧ YSpec Tryz.prog 70002 [6, 7, 9, 10] C70002 [6, 7, 9, 10, 6003, 6004] [(6, .cells 22 [.nils]), (7, .cells 24 [.i i13]), (9, .cells 22 [.own 6400]), (10, .cells 28 [.b16 w12]), (6003, .cells 28 [.b16 w11]), (6004, .cells 3 [.i i10]), (6400, q2bWW_30 l14)] [.b16 w19] r20.1 (f77z2 r20) ∧ VLes [.b16 w19] [.b16 w19]) from ⟨rfl, bool_ne hy_r20, (hY70002 _ _ r20 hr20), ⟨.refl _, trivial⟩⟩)) ?_
              refine thenQ_normal ?_
              refine AWp.cond (b := (!false)) (by kernel_rfl) (fun hc8 => ?_) (fun hc8 => ?_)
              ·
                replace h := ite_tb hc8 h
                refine q2rq [57] [] ⟨70, [(6, .bool false), (1000000, .elem 32 1 T0F 0 0)], [(6, .cells 22 [.nils]), (7, .cells 24 [.i r20.2.1]), (9, .cells 22 [.own 6400]), (10, .cells 28 [.b16 r20.2.2.1]), (6003, .cells 28 [.b16 r20.2.2.2.1]), (6004, .cells 3 [.i r20.2.2.2.2.1]), (6400, q2bWW_30 r20.2.2.2.2.2), (70002, .yld (some ([6, 7, 9, 10], C70002)) r20.1)], [70002, 6, 7, 9, 10, 6003, 6004], 20000⟩ trivial ?_
                have hret := Option.some.inj h
                subst hret
                refine AWp.le (Le.mk (s' := ⟨70, [(6, .bool false)], (f77z4 C70002 r20), [70002, 6, 7, 9, 10, 6003, 6004], 20000⟩) rfl rfl ⟨.refl _, trivial⟩ ⟨⟨_, rfl, .refl _⟩, ⟨_, rfl, .refl _⟩, ⟨_, rfl, .refl _⟩, ⟨_, rfl, .refl _⟩, ⟨_, rfl, .refl _⟩, ⟨_, rfl, .refl _⟩, ⟨_, rfl, .refl _⟩, ⟨_, rfl, .refl _⟩, trivial⟩) ?_
                refine AWp.ret ?_
                refine joinQ_ret ?_
                refine blockQ_ret ?_
                refine thenQ_ret ?_
                refine blockQ_ret ?_
                refine joinQ_ret ?_
                exact bodyQ_ret _ rfl ⟨rfl, rfl⟩ rfl
              ·
                replace h := ite_fb hc8 h
                refine AWp.skip ?_
                exact joinQ_normal (r20.2.2.2.2.1, r20.2.2.2.1, r20.2.2.1, r20.2.1, r20.2.2.2.2.2, r20.1) (Le.mk rfl rfl ⟨.refl _, .refl _, .refl _, .refl _, trivial⟩ ⟨⟨_, rfl, .refl _⟩, ⟨_, rfl, .refl _⟩, ⟨_, rfl, .refl _⟩, ⟨_, rfl, .refl _⟩, ⟨_, rfl, .refl _⟩, ⟨_, rfl, .refl _⟩, ⟨_, rfl, .refl _⟩, ⟨_, rfl, .refl _⟩, ⟨_, rfl, .refl _⟩, trivial⟩) h
          ·
            rintro ⟨i21, w22, w23, i24, l25, n26⟩ h
            replace h := (congrFun hK4 _).symm.trans h
            refine AWp.seq ?_
            refine q2rq [57] [] ⟨70, [(2, .own 70002), (7, .own 26001), (8, .int .u32 i9), (54, .bool (i9 == (0 : Int))), (1000000, .elem 32 1 T0F 0 0)], (f77z1 i24 w23 w22 i21 l25 r8 C70002 n26), [70002, 6, 7, 9, 10, 6003, 6004], 20000⟩ trivial ?_
            refine AWp.cond (b := (i9 == (0 : Int))) (by kernel_rfl) (fun hc9 => ?_) (fun hc9 => ?_)
            ·
              replace h := ite_tb hc9 h
              refine AWp.exit ?_
              refine thenQ_exit ?_
              refine blockQ_other (by decide) ?_
              refine thenQ_exit ?_
              refine blockQ_same ?_
              exact joinQ_normal (i21, w22, w23, i24, l25, n26) (Le.mk rfl rfl ⟨.refl _, trivial⟩ ⟨⟨_, rfl, .refl _⟩, ⟨_, rfl, .refl _⟩, ⟨_, rfl, .refl _⟩, ⟨_, rfl, .refl _⟩, ⟨_, rfl, .refl _⟩, ⟨_, rfl, .refl _⟩, ⟨_, rfl, .refl _⟩, ⟨_, rfl, .refl _⟩, trivial⟩) h
            ·
              replace h := ite_fb hc9 h
              refine AWp.skip ?_
              refine thenQ_normal ?_
              refine q2rq [57] [] ⟨70, [(2, .own 70002), (7, .own 26001), (8, .int .u32 i9), (12, .int .u32 (bitsI .and .u32 i9 (IntKind.wrap .u32 (0 - i9)))), (1000000, .elem 32 1 T0F 0 0)], (f77z1 i24 w23 w22 i21 l25 r8 C70002 n26), [70002, 6, 7, 9, 10, 6003, 6004], 20000⟩ (an1 trivial) ?_
              refine AWp.seq ?_
              obtain ⟨ob12, h⟩ := chk_some h
              refine q2rr [57] [] ⟨70, [(2, .own 70002), (7, .own 26001), (8, .int .u32 i9), (12, .int .u32 (bitsI .and .u32 i9 (IntKind.wrap .u32 (0 - i9)))), (13, .int .u32 (i9 + (bitsI .and .u32 i9 (IntKind.wrap .u32 (0 - i9))))), (1000000, .elem 32 1 T0F 0 0)], (f77z1 i24 w23 w22 i21 l25 r8 C70002 n26), [70002, 6, 7, 9, 10, 6003, 6004], 20000⟩ (an1 ob12) ?_
              refine thenQ_normal ?_
              obtain ⟨ob13, ob14p, h⟩ := ck2 h
              have ob14 : 0 ≤ (2 : Int) ∧ 2 ≤ IntKind.bits .u32 := ⟨by omega, ob14p⟩
              refine q2rr [57] [] ⟨70, [(2, .own 70002), (7, .own 26001), (8, .int .u32 (bitsI .or .u32 (i9 + (bitsI .and .u32 i9 (IntKind.wrap .u32 (0 - i9)))) (((bitsI .xor .u32 i9 (i9 + (bitsI .and .u32 i9 (IntKind.wrap .u32 (0 - i9))))) / (bitsI .and .u32 i9 (IntKind.wrap .u32 (0 - i9)))) / 2 ^ 2))), (1000000, .elem 32 1 T0F 0 0)], (f77z1 i24 w23 w22 i21 l25 r8 C70002 n26), [70002, 6, 7, 9, 10, 6003, 6004], 20000⟩ (an2 ob13 ob14) ?_
              refine blockQ_normal ?_
              rw [hC0] at h
              exact loopQ_normal (_, (bitsI .or .u32 (i9 + (bitsI .and .u32 i9 (IntKind.wrap .u32 (0 - i9)))) (((bitsI .xor .u32 i9 (i9 + (bitsI .and .u32 i9 (IntKind.wrap .u32 (0 - i9))))) / (bitsI .and .u32 i9 (IntKind.wrap .u32 (0 - i9)))) / 2 ^ 2)), i21, w22, w23, i24, l25, n26) (Le.mk rfl rfl ⟨.refl _, .refl _, .refl _, .refl _, trivial⟩ ⟨⟨_, rfl, .refl _⟩, ⟨_, rfl, .refl _⟩, ⟨_, rfl, .refl _⟩, ⟨_, rfl, .refl _⟩, ⟨_, rfl, .refl _⟩, ⟨_, rfl, .refl _⟩, ⟨_, rfl, .refl _⟩, ⟨_, rfl, .refl _⟩, ⟨_, rfl, .refl _⟩, trivial⟩) h (Nat.lt_succ_self _)
      ·
        replace h := ite_fb hc2 h
        refine AWp.exit ?_
        refine thenQ_exit ?_
        refine thenQ_exit ?_
        refine blockQ_same ?_
        exact joinQ_normal (i10, w11, w12, i13, l14, n15) (Le.mk rfl rfl ⟨.refl _, trivial⟩ ⟨⟨_, rfl, .refl _⟩, ⟨_, rfl, .refl _⟩, ⟨_, rfl, .refl _⟩, ⟨_, rfl, .refl _⟩, ⟨_, rfl, .refl _⟩, ⟨_, rfl, .refl _⟩, ⟨_, rfl, .refl _⟩, ⟨_, rfl, .refl _⟩, trivial⟩) h
    ·
      rintro ⟨i20, w21, w22, i23, l24, n25⟩ h
      replace h := (congrFun hK1 _).symm.trans h
      refine q2rq [57] [] ⟨70, [(6, .bool true), (1000000, .elem 32 1 T0F 0 0)], [(6, .cells 22 [.nils]), (7, .cells 24 [.i i23]), (9, .cells 22 [.own 6400]), (10, .cells 28 [.b16 w22]), (6003, .cells 28 [.b16 w21]), (6004, .cells 3 [.i i20]), (6400, q2bWW_30 l24), (70002, .yld (some ([6, 7, 9, 10], C70002)) n25)], [70002, 6, 7, 9, 10, 6003, 6004], 20000⟩ trivial ?_
      have hret := Option.some.inj h
      subst hret
      refine AWp.le (Le.mk (s' := ⟨70, [(6, .bool true)], [(70002, .yld (some ([6, 7, 9, 10], C70002)) n25), (6, .cells 22 [.nils]), (7, .cells 24 [.i i23]), (9, .cells 22 [.own 6400]), (10, .cells 28 [.b16 w22]), (6003, .cells 28 [.b16 w21]), (6004, .cells 3 [.i i20]), (6400, q2bWW_30 l24)], [70002, 6, 7, 9, 10, 6003, 6004], 20000⟩) rfl rfl ⟨.refl _, trivial⟩ ⟨⟨_, rfl, .refl _⟩, ⟨_, rfl, .refl _⟩, ⟨_, rfl, .refl _⟩, ⟨_, rfl, .refl _⟩, ⟨_, rfl, .refl _⟩, ⟨_, rfl, .refl _⟩, ⟨_, rfl, .refl _⟩, ⟨_, rfl, .refl _⟩, trivial⟩) ?_
      refine AWp.ret ?_
      exact bodyQ_ret _ rfl ⟨rfl, rfl⟩ rfl
def f76 (Y70002 : (Int × BitVec 16 × BitVec 16 × Int × (List (BitVec 16 × BitVec 16))) → (BitVec 16) → Option (Nat × (Int × BitVec 16 × BitVec 16 × Int × (List (BitVec 16 × BitVec 16))))) (x1 : Int) (x2 : BitVec 16) (x3 : BitVec 16) (x4 : Int) (x5 : List (BitVec 16 × BitVec 16)) : Option (Nat × Int × BitVec 16 × BitVec 16 × Int × (List (BitVec 16 × BitVec 16))) :=
  (f77 Y70002 x3 x4 x1 x2 x3 x4 x5).bind fun (r6 : Bool × Nat × Int × BitVec 16 × BitVec 16 × Int × (List (BitVec 16 × BitVec 16))) =>
  some (r6.2.1, r6.2.2.1, r6.2.2.2.1, r6.2.2.2.2.1, r6.2.2.2.2.2.1, r6.2.2.2.2.2.2)
set_option maxRecDepth 100000 in
theorem f76_ok (C70002 : YC) (Y70002 : (Int × BitVec 16 × BitVec 16 × Int × (List (BitVec 16 × BitVec 16))) → (BitVec 16) → Option (Nat × (Int × BitVec 16 × BitVec 16 × Int × (List (BitVec 16 × BitVec 16))))) (x1 : Int) (x2 : BitVec 16) (x3 : BitVec 16) (x4 : Int) (x5 : List (BitVec 16 × BitVec 16)) (r : Nat × Int × BitVec 16 × BitVec 16 × Int × (List (BitVec 16 × BitVec 16))) (h : f76 Y70002 x1 x2 x3 x4 x5 = some r) (hY70002 : ∀ s x r, Y70002 s x = some r → YSpec Tryz.prog 70002 [6, 7, 9, 10] C70002 [6, 7, 9, 10, 6003, 6004] [(6, .cells 22 [.nils]), (7, .cells 24 [.int .i64 s.1]), (9, .cells 22 [.own 6400]), (10, .cells 28 [.b16 s.2.1]), (6003, .cells 28 [.b16 s.2.2.1]), (6004, .cells 3 [.int .i64 s.2.2.2.1]), (6400, bL 30 2 eWW (default : BitVec 16 × BitVec 16) s.2.2.2.2)] [.b16 x] r.1 [(6, .cells 22 [.nils]), (7, .cells 24 [.int .i64 r.2.1]), (9, .cells 22 [.own 6400]), (10, .cells 28 [.b16 r.2.2.1]), (6003, .cells 28 [.b16 r.2.2.2.1]), (6004, .cells 3 [.int .i64 r.2.2.2.2.1]), (6400, bL 30 2 eWW (default : BitVec 16 × BitVec 16) r.2.2.2.2.2)]) : Spec1 Tryz.prog 76 [(0, .elem 32 1 T0F 0 0)] [70002, 6, 7, 9, 10, 6003, 6004] [(70002, .yld (some ([6, 7, 9, 10], C70002)) 0), (6, .cells 22 [.nils]), (7, .cells 24 [.int .i64 x1]), (9, .cells 22 [.own 6400]), (10, .cells 28 [.b16 x2]), (6003, .cells 28 [.b16 x3]), (6004, .cells 3 [.int .i64 x4]), (6400, bL 30 2 eWW (default : BitVec 16 × BitVec 16) x5)] [.own 70002, .ptr 6003 0, .ptr 6004 0] (.tup []) [(70002, .yld (some ([6, 7, 9, 10], C70002)) r.1), (6, .cells 22 [.nils]), (7, .cells 24 [.int .i64 r.2.1]), (9, .cells 22 [.own 6400]), (10, .cells 28 [.b16 r.2.2.1]), (6003, .cells 28 [.b16 r.2.2.2.1]), (6004, .cells 3 [.int .i64 r.2.2.2.2.1]), (6400, bL 30 2 eWW (default : BitVec 16 × BitVec 16) r.2.2.2.2.2)] := by
  unfold f76 at h
  refine Spec1.body 10000 _ _ Tryz.func76 rfl Tryz.ntmps76 rfl rfl ?_
  obtain ⟨r6, hr6, h⟩ := bind_ok h
  refine q2rr [] [(3, ⟨[.b16 x3, .i x4, .own 70002], [70002, 6, 7, 9, 10, 6003, 6004, 6400], [70002, 6, 7, 9, 10, 6003, 6004], [(70002, .yld (some ([6, 7, 9, 10], C70002)) r6.2.1), (6, .cells 22 [.nils]), (7, .cells 24 [.i r6.2.2.1]), (9, .cells 22 [.own 6400]), (10, .cells 28 [.b16 r6.2.2.2.1]), (6003, .cells 28 [.b16 r6.2.2.2.2.1]), (6004, .cells 3 [.i r6.2.2.2.2.2.1]), (6400, q2bWW_30 r6.2.2.2.2.2.2)], .bool r6.1, [6400], [], [0]⟩)] ⟨8, [(1000000, .elem 32 1 T0F 0 0)], [(6, .cells 22 [.nils]), (7, .cells 24 [.i r6.2.2.1]), (9, .cells 22 [.own 6400]), (10, .cells 28 [.b16 r6.2.2.2.1]), (6003, .cells 28 [.b16 r6.2.2.2.2.1]), (6004, .cells 3 [.i r6.2.2.2.2.2.1]), (6400, q2bWW_30 r6.2.2.2.2.2.2), (70002, .yld (some ([6, 7, 9, 10], C70002)) r6.2.1)], [70002, 6, 7, 9, 10, 6003, 6004], 10000⟩ (an1 (cpT (f77_ok C70002 _ _ _ _ _ _ _ _ _ hr6 hY70002))) ?_
  have hret := Option.some.inj h
  subst hret
  exact bodyQ_le (Le.mk (s' := ⟨8, [], [(70002, .yld (some ([6, 7, 9, 10], C70002)) r6.2.1), (6, .cells 22 [.nils]), (7, .cells 24 [.i r6.2.2.1]), (9, .cells 22 [.own 6400]), (10, .cells 28 [.b16 r6.2.2.2.1]), (6003, .cells 28 [.b16 r6.2.2.2.2.1]), (6004, .cells 3 [.i r6.2.2.2.2.2.1]), (6400, q2bWW_30 r6.2.2.2.2.2.2)], [70002, 6, 7, 9, 10, 6003, 6004], 10000⟩) rfl rfl trivial ⟨⟨_, rfl, .refl _⟩, ⟨_, rfl, .refl _⟩, ⟨_, rfl, .refl _⟩, ⟨_, rfl, .refl _⟩, ⟨_, rfl, .refl _⟩, ⟨_, rfl, .refl _⟩, ⟨_, rfl, .refl _⟩, ⟨_, rfl, .refl _⟩, trivial⟩) (bodyQ_normal _ rfl ⟨rfl, rfl⟩ rfl)
def f77a_L1 (r9 : List Int) (i10 : Int) (K2 : (BitVec 16) → Option (Bool × Nat × Int × Int × BitVec 16 × BitVec 16 × Int × (List (BitVec 16 × BitVec 16)))) : Nat → (BitVec 16 × Nat) → Option (Bool × Nat × Int × Int × BitVec 16 × BitVec 16 × Int × (List (BitVec 16 × BitVec 16)))
  | 0, _ => none
  | k + 1, (w18, n19) =>
    if (decide ((n19 : Int) < (((r9).length : Nat) : Int))) then (
    jn (fun (w20 : BitVec 16) =>
    chk (((n19 : Int) + (1 : Int)) ≤ 9223372036854775807) <|
    (f77a_L1 r9 i10 K2 k) (w20, (n19 + 1))
    ) fun (K3 : (BitVec 16) → Option (Bool × Nat × Int × Int × BitVec 16 × BitVec 16 × Int × (List (BitVec 16 × BitVec 16)))) =>
    chk ((n19 : Int) < (((r9).length : Nat) : Int)) <|
    chk (n19 < (r9).length) <|
    chk (n19 ≤ IntKind.bits .u32) <|
    if ((bitsI .and .u32 (i10 / 2 ^ n19) (1 : Int)) == (1 : Int)) then (
    chk (0 ≤ (r9.getD n19 0)) <|
    K3 (w18 ||| ((BitVec.ofInt 16 1) <<< (((r9.getD n19 0)).toNat)))
    ) else (
    K3 w18
    )
    ) else (
    K2 w18
    )
def f77a_L0 (Y70001 : (Int × Int × BitVec 16 × BitVec 16 × Int × (List (BitVec 16 × BitVec 16))) → (BitVec 16) → Option (Nat × (Int × Int × BitVec 16 × BitVec 16 × Int × (List (BitVec 16 × BitVec 16))))) (r9 : List Int) (K1 : (Int × BitVec 16 × BitVec 16 × Int × Int × (List (BitVec 16 × BitVec 16)) × Nat) → Option (Bool × Nat × Int × Int × BitVec 16 × BitVec 16 × Int × (List (BitVec 16 × BitVec 16)))) : Nat → (Int × Int × BitVec 16 × BitVec 16 × Int × Int × (List (BitVec 16 × BitVec 16)) × Nat) → Option (Bool × Nat × Int × Int × BitVec 16 × BitVec 16 × Int × (List (BitVec 16 × BitVec 16)))
  | 0, _ => none
  | k + 1, (i10, i11, w12, w13, i14, i15, l16, n17) =>
    chk ((r9).length ≤ IntKind.bits .u32 ∧ 0 ≤ ((1 : Int) * 2 ^ ((r9).length)) ∧ ((1 : Int) * 2 ^ ((r9).length)) ≤ 4294967295) <|
    if (decide (i10 < ((1 : Int) * 2 ^ ((r9).length)))) then (
    jn (fun (w21 : BitVec 16) =>
    jn (fun ((i23, w24, w25, i26, i27, l28, n29) : Int × BitVec 16 × BitVec 16 × Int × Int × (List (BitVec 16 × BitVec 16)) × Nat) =>
    if (i10 == (0 : Int)) then (
    K1 (i23, w24, w25, i26, i27, l28, n29)
    ) else (
    chk (0 ≤ (i10 + (bitsI .and .u32 i10 (IntKind.wrap .u32 (0 - i10)))) ∧ (i10 + (bitsI .and .u32 i10 (IntKind.wrap .u32 (0 - i10)))) ≤ 4294967295) <|
    chk (0 ≤ (bitsI .xor .u32 i10 (i10 + (bitsI .and .u32 i10 (IntKind.wrap .u32 (0 - i10))))) ∧ 1 ≤ (bitsI .and .u32 i10 (IntKind.wrap .u32 (0 - i10))) ∧ 0 ≤ ((bitsI .xor .u32 i10 (i10 + (bitsI .and .u32 i10 (IntKind.wrap .u32 (0 - i10))))) / (bitsI .and .u32 i10 (IntKind.wrap .u32 (0 - i10)))) ∧ ((bitsI .xor .u32 i10 (i10 + (bitsI .and .u32 i10 (IntKind.wrap .u32 (0 - i10))))) / (bitsI .and .u32 i10 (IntKind.wrap .u32 (0 - i10)))) ≤ 4294967295) <|
    chk (2 ≤ IntKind.bits .u32) <|
    (f77a_L0 Y70001 r9 K1 k) ((bitsI .or .u32 (i10 + (bitsI .and .u32 i10 (IntKind.wrap .u32 (0 - i10)))) (((bitsI .xor .u32 i10 (i10 + (bitsI .and .u32 i10 (IntKind.wrap .u32 (0 - i10))))) / (bitsI .and .u32 i10 (IntKind.wrap .u32 (0 - i10)))) / 2 ^ 2)), i23, w24, w25, i26, i27, l28, n29)
    )
    ) fun (K4 : (Int × BitVec 16 × BitVec 16 × Int × Int × (List (BitVec 16 × BitVec 16)) × Nat) → Option (Bool × Nat × Int × Int × BitVec 16 × BitVec 16 × Int × (List (BitVec 16 × BitVec 16)))) =>
    chk (n17 = 0) <|
    (Y70001 (i15, i14, w13, w12, i11, l16) w21).bind fun (r22 : Nat × (Int × Int × BitVec 16 × BitVec 16 × Int × (List (BitVec 16 × BitVec 16)))) =>
    if r22.1 = 0 then (
    if (!true) then (
    some (false, 0, r22.2.1, r22.2.2.1, r22.2.2.2.1, r22.2.2.2.2.1, r22.2.2.2.2.2.1, r22.2.2.2.2.2.2)
    ) else (
    K4 (r22.2.2.2.2.2.1, r22.2.2.2.2.1, r22.2.2.2.1, r22.2.2.1, r22.2.1, r22.2.2.2.2.2.2, 0)
    )
    ) else (
    if (!false) then (
    some (false, r22.1, r22.2.1, r22.2.2.1, r22.2.2.2.1, r22.2.2.2.2.1, r22.2.2.2.2.2.1, r22.2.2.2.2.2.2)
    ) else (
    K4 (r22.2.2.2.2.2.1, r22.2.2.2.2.1, r22.2.2.2.1, r22.2.2.1, r22.2.1, r22.2.2.2.2.2.2, r22.1)
    )
    )
    ) fun (K2 : (BitVec 16) → Option (Bool × Nat × Int × Int × BitVec 16 × BitVec 16 × Int × (List (BitVec 16 × BitVec 16)))) =>
    f77a_L1 r9 i10 K2 FUEL ((BitVec.ofInt 16 0), 0)
    ) else (
    K1 (i11, w12, w13, i14, i15, l16, n17)
    )
abbrev f77az0 (i15 : Int) (i14 : Int) (w13 : BitVec 16) (w12 : BitVec 16) (i11 : Int) (l16 : List (BitVec 16 × BitVec 16)) (r9 : List Int) (C70001 : YC) (n17 : Nat) : Heap := [(5, .cells 3 [.int .i64 i15]), (6, .cells 22 [.nils]), (7, .cells 24 [.int .i64 i14]), (8, .cells 28 [.b16 w13]), (9, .cells 22 [.own 6400]), (6001, .cells 28 [.b16 w12]), (6002, .cells 3 [.int .i64 i11]), (6400, bL 30 2 eWW (default : BitVec 16 × BitVec 16) l16), (26001, bL 3 1 eI 0 r9), (70001, .yld (some ([5, 6, 7, 8, 9], C70001)) n17)]
abbrev f77az1 (i27 : Int) (i26 : Int) (w25 : BitVec 16) (w24 : BitVec 16) (i23 : Int) (l28 : List (BitVec 16 × BitVec 16)) (r9 : List Int) (C70001 : YC) (n29 : Nat) : Heap := [(5, .cells 3 [.int .i64 i27]), (6, .cells 22 [.nils]), (7, .cells 24 [.int .i64 i26]), (8, .cells 28 [.b16 w25]), (9, .cells 22 [.own 6400]), (6001, .cells 28 [.b16 w24]), (6002, .cells 3 [.int .i64 i23]), (6400, bL 30 2 eWW (default : BitVec 16 × BitVec 16) l28), (26001, bL 3 1 eI 0 r9), (70001, .yld (some ([5, 6, 7, 8, 9], C70001)) n29)]
abbrev f77az2 (r22 : Nat × (Int × Int × BitVec 16 × BitVec 16 × Int × (List (BitVec 16 × BitVec 16)))) : Heap := [(5, .cells 3 [.int .i64 r22.2.1]), (6, .cells 22 [.nils]), (7, .cells 24 [.int .i64 r22.2.2.1]), (8, .cells 28 [.b16 r22.2.2.2.1]), (9, .cells 22 [.own 6400]), (6001, .cells 28 [.b16 r22.2.2.2.2.1]), (6002, .cells 3 [.int .i64 r22.2.2.2.2.2.1]), (6400, bL 30 2 eWW (default : BitVec 16 × BitVec 16) r22.2.2.2.2.2.2)]
abbrev f77az3 (x3 : Int) (x4 : Int) (x5 : BitVec 16) (x6 : BitVec 16) (x7 : Int) (x8 : List (BitVec 16 × BitVec 16)) (r9 : List Int) (C70001 : YC) : Heap := [(5, .cells 3 [.int .i64 x3]), (6, .cells 22 [.nils]), (7, .cells 24 [.int .i64 x4]), (8, .cells 28 [.b16 x5]), (9, .cells 22 [.own 6400]), (6001, .cells 28 [.b16 x6]), (6002, .cells 3 [.int .i64 x7]), (6400, bL 30 2 eWW (default : BitVec 16 × BitVec 16) x8), (26001, bL 3 1 eI 0 r9), (70001, .yld (some ([5, 6, 7, 8, 9], C70001)) 0)]
abbrev f77az4 (C70001 : YC) (r22 : Nat × (Int × Int × BitVec 16 × BitVec 16 × Int × (List (BitVec 16 × BitVec 16)))) : Heap := [(70001, .yld (some ([5, 6, 7, 8, 9], C70001)) r22.1), (5, .cells 3 [.int .i64 r22.2.1]), (6, .cells 22 [.nils]), (7, .cells 24 [.int .i64 r22.2.2.1]), (8, .cells 28 [.b16 r22.2.2.2.1]), (9, .cells 22 [.own 6400]), (6001, .cells 28 [.b16 r22.2.2.2.2.1]), (6002, .cells 3 [.int .i64 r22.2.2.2.2.2.1]), (6400, bL 30 2 eWW (default : BitVec 16 × BitVec 16) r22.2.2.2.2.2.2)]
abbrev f77az5 (C70001 : YC) (r22 : Nat × (Int × Int × BitVec 16 × BitVec 16 × Int × (List (BitVec 16 × BitVec 16)))) : Heap := [(70001, .yld (some ([5, 6, 7, 8, 9], C70001)) 0), (5, .cells 3 [.int .i64 r22.2.1]), (6, .cells 22 [.nils]), (7, .cells 24 [.int .i64 r22.2.2.1]), (8, .cells 28 [.b16 r22.2.2.2.1]), (9, .cells 22 [.own 6400]), (6001, .cells 28 [.b16 r22.2.2.2.2.1]), (6002, .cells 3 [.int .i64 r22.2.2.2.2.2.1]), (6400, bL 30 2 eWW (default : BitVec 16 × BitVec 16) r22.2.2.2.2.2.2)]
abbrev f77az6 (x2 : Int) := ((decide (x2 < (0 : Int))) == false)
abbrev f77az7 := (List (BitVec 16 × BitVec 16))
def f77a (Y70001 : (Int × Int × BitVec 16 × BitVec 16 × Int × (List (BitVec 16 × BitVec 16))) → (BitVec 16) → Option (Nat × (Int × Int × BitVec 16 × BitVec 16 × Int × (List (BitVec 16 × BitVec 16))))) (x1 : BitVec 16) (x2 : Int) (x3 : Int) (x4 : Int) (x5 : BitVec 16) (x6 : BitVec 16) (x7 : Int) (x8 : List (BitVec 16 × BitVec 16)) : Option (Bool × Nat × Int × Int × BitVec 16 × BitVec 16 × Int × (List (BitVec 16 × BitVec 16))) :=
  (f100 x1).bind fun (r9 : List Int) =>
  if ((decide (x2 < (0 : Int))) || (decide (x2 > (((r9).length : Nat) : Int)))) then (
  some (true, 0, x3, x4, x5, x6, x7, x8)
  ) else (
  jn (fun ((i22, w23, w24, i25, i26, l27, n28) : Int × BitVec 16 × BitVec 16 × Int × Int × (List (BitVec 16 × BitVec 16)) × Nat) =>
  some (true, n28, i26, i25, w24, w23, i22, l27)
  ) fun (K1 : (Int × BitVec 16 × BitVec 16 × Int × Int × (List (BitVec 16 × BitVec 16)) × Nat) → Option (Bool × Nat × Int × Int × BitVec 16 × BitVec 16 × Int × (List (BitVec 16 × BitVec 16)))) =>
  chk (0 ≤ x2 ∧ (x2).toNat ≤ IntKind.bits .u32 ∧ 0 ≤ ((1 : Int) * 2 ^ ((x2).toNat)) ∧ ((1 : Int) * 2 ^ ((x2).toNat)) ≤ 4294967295) <|
  chk (0 ≤ (((1 : Int) * 2 ^ ((x2).toNat)) - (1 : Int)) ∧ (((1 : Int) * 2 ^ ((x2).toNat)) - (1 : Int)) ≤ 4294967295) <|
  f77a_L0 Y70001 r9 K1 FUEL ((((1 : Int) * 2 ^ ((x2).toNat)) - (1 : Int)), x7, x6, x5, x4, x3, x8, 0)
  )
set_option maxRecDepth 100000 in
theorem f77a_ok (C70001 : YC) (Y70001 : (Int × Int × BitVec 16 × BitVec 16 × Int × (List (BitVec 16 × BitVec 16))) → (BitVec 16) → Option (Nat × (Int × Int × BitVec 16 × BitVec 16 × Int × (List (BitVec 16 × BitVec 16))))) (x1 : BitVec 16) (x2 : Int) (x3 : Int) (x4 : Int) (x5 : BitVec 16) (x6 : BitVec 16) (x7 : Int) (x8 : List (BitVec 16 × BitVec 16)) (r : Bool × Nat × Int × Int × BitVec 16 × BitVec 16 × Int × (List (BitVec 16 × BitVec 16))) (h : f77a Y70001 x1 x2 x3 x4 x5 x6 x7 x8 = some r) (hY70001 : ∀ s x r, Y70001 s x = some r → YSpec Tryz.prog 70001 [5, 6, 7, 8, 9] C70001 [5, 6, 7, 8, 9, 6001, 6002] [(5, .cells 3 [.int .i64 s.1]), (6, .cells 22 [.nils]), (7, .cells 24 [.int .i64 s.2.1]), (8, .cells 28 [.b16 s.2.2.1]), (9, .cells 22 [.own 6400]), (6001, .cells 28 [.b16 s.2.2.2.1]), (6002, .cells 3 [.int .i64 s.2.2.2.2.1]), (6400, bL 30 2 eWW (default : BitVec 16 × BitVec 16) s.2.2.2.2.2)] [.b16 x] r.1 [(5, .cells 3 [.int .i64 r.2.1]), (6, .cells 22 [.nils]), (7, .cells 24 [.int .i64 r.2.2.1]), (8, .cells 28 [.b16 r.2.2.2.1]), (9, .cells 22 [.own 6400]), (6001, .cells 28 [.b16 r.2.2.2.2.1]), (6002, .cells 3 [.int .i64 r.2.2.2.2.2.1]), (6400, bL 30 2 eWW (default : BitVec 16 × BitVec 16) r.2.2.2.2.2.2)]) : Spec1 Tryz.prog 77 [(0, .elem 32 1 T0F 0 0)] [70001, 5, 6, 7, 8, 9, 6001, 6002] [(70001, .yld (some ([5, 6, 7, 8, 9], C70001)) 0), (5, .cells 3 [.int .i64 x3]), (6, .cells 22 [.nils]), (7, .cells 24 [.int .i64 x4]), (8, .cells 28 [.b16 x5]), (9, .cells 22 [.own 6400]), (6001, .cells 28 [.b16 x6]), (6002, .cells 3 [.int .i64 x7]), (6400, bL 30 2 eWW (default : BitVec 16 × BitVec 16) x8)] [.b16 x1, .int .i64 x2, .own 70001] (.bool r.1) [(70001, .yld (some ([5, 6, 7, 8, 9], C70001)) r.2.1), (5, .cells 3 [.int .i64 r.2.2.1]), (6, .cells 22 [.nils]), (7, .cells 24 [.int .i64 r.2.2.2.1]), (8, .cells 28 [.b16 r.2.2.2.2.1]), (9, .cells 22 [.own 6400]), (6001, .cells 28 [.b16 r.2.2.2.2.2.1]), (6002, .cells 3 [.int .i64 r.2.2.2.2.2.2.1]), (6400, bL 30 2 eWW (default : BitVec 16 × BitVec 16) r.2.2.2.2.2.2.2)] := by
  unfold f77a at h
  refine Spec1.body 20000 _ _ Tryz.func77 rfl Tryz.ntmps77 rfl rfl ?_
  refine q2rq [57] [] ⟨70, [(0, .b16 x1), (1, .i x2), (2, .own 70001), (1000000, .elem 32 1 T0F 0 0)], [(5, .cells 3 [.i x3]), (6, .cells 22 [.nils]), (7, .cells 24 [.i x4]), (8, .cells 28 [.b16 x5]), (9, .cells 22 [.own 6400]), (6001, .cells 28 [.b16 x6]), (6002, .cells 3 [.i x7]), (6400, q2bWW_30 x8), (70001, .yld (some ([5, 6, 7, 8, 9], C70001)) 0)], [70001, 5, 6, 7, 8, 9, 6001, 6002], 20000⟩ trivial ?_
  refine AWp.seq ?_
  obtain ⟨r9, hr9, h⟩ := bind_ok h
  refine q2rr [57] [(1, ⟨[.b16 x1], [], [], [(26001, q2bI_3 r9)], .own 26001, [26001], [], [0]⟩)] ⟨70, [(1, .i x2), (2, .own 70001), (7, .own 26001), (1000000, .elem 32 1 T0F 0 0)], (f77az3 x3 x4 x5 x6 x7 x8 r9 C70001), [70001, 5, 6, 7, 8, 9, 6001, 6002], 20000⟩ (an1 (cpT (Spec1.ren (swapN 3000 26001) (swapN_inv 3000 26001) rfl (f100_ok _ _ hr9)))) ?_
  refine thenQ_normal ?_
  refine AWp.seq ?_
  refine AWp.seq ?_
  have ob0 := idA ((f77az6 x2) = true)
  have ob1 := idA ((f77az6 x2) = true)
  have ob2 := idA ((f77az6 x2) = true)
  have ob3 : true = true → (decide (x2 < (0 : Int))) = false → (f77az6 x2) = true := fun _ h => beq_iff_eq.2 h
  refine q2rr [57] [] ⟨70, [(1, .i x2), (2, .own 70001), (7, .own 26001), (23, .bool ((decide (x2 < (0 : Int))) || (decide (x2 > (lZ r9))))), (1000000, .elem 32 1 T0F 0 0)], (f77az3 x3 x4 x5 x6 x7 x8 r9 C70001), [70001, 5, 6, 7, 8, 9, 6001, 6002], 20000⟩ (an3 (an1 ob0) (an2 ob1 ob2) ob3) ?_
  refine thenQ_normal ?_
  refine AWp.cond (b := ((decide (x2 < (0 : Int))) || (decide (x2 > (lZ r9))))) (by kernel_rfl) (fun hc1 => ?_) (fun hc1 => ?_)
  ·
    replace h := ite_tb hc1 h
    refine q2rq [57] [] ⟨70, [(6, .bool true), (1000000, .elem 32 1 T0F 0 0)], [(5, .cells 3 [.i x3]), (6, .cells 22 [.nils]), (7, .cells 24 [.i x4]), (8, .cells 28 [.b16 x5]), (9, .cells 22 [.own 6400]), (6001, .cells 28 [.b16 x6]), (6002, .cells 3 [.i x7]), (6400, q2bWW_30 x8), (70001, .yld (some ([5, 6, 7, 8, 9], C70001)) 0)], [70001, 5, 6, 7, 8, 9, 6001, 6002], 20000⟩ trivial ?_
    have hret := Option.some.inj h
    subst hret
    refine AWp.le (Le.mk (s' := ⟨70, [(6, .bool true)], [(70001, .yld (some ([5, 6, 7, 8, 9], C70001)) 0), (5, .cells 3 [.i x3]), (6, .cells 22 [.nils]), (7, .cells 24 [.i x4]), (8, .cells 28 [.b16 x5]), (9, .cells 22 [.own 6400]), (6001, .cells 28 [.b16 x6]), (6002, .cells 3 [.i x7]), (6400, q2bWW_30 x8)], [70001, 5, 6, 7, 8, 9, 6001, 6002], 20000⟩) rfl rfl ⟨.refl _, trivial⟩ ⟨⟨_, rfl, .refl _⟩, ⟨_, rfl, .refl _⟩, ⟨_, rfl, .refl _⟩, ⟨_, rfl, .refl _⟩, ⟨_, rfl, .refl _⟩, ⟨_, rfl, .refl _⟩, ⟨_, rfl, .refl _⟩, ⟨_, rfl, .refl _⟩, ⟨_, rfl, .refl _⟩, trivial⟩) ?_
    refine AWp.ret ?_
    refine thenQ_ret ?_
    exact bodyQ_ret _ rfl ⟨rfl, rfl⟩ rfl
  ·
    replace h := ite_fb hc1 h
    refine AWp.skip ?_
    refine thenQ_normal ?_
    obtain ⟨K1, hK1, h⟩ := jn_some h
    refine AWp.join (α := Int × BitVec 16 × BitVec 16 × Int × Int × (f77az7) × Nat) (fun (x : Int × BitVec 16 × BitVec 16 × Int × Int × (f77az7) × Nat) => match x with | (i22, w23, w24, i25, i26, l27, n28) => ⟨70, [(1000000, .elem 32 1 T0F 0 0)], [(5, .cells 3 [.i i26]), (6, .cells 22 [.nils]), (7, .cells 24 [.i i25]), (8, .cells 28 [.b16 w24]), (9, .cells 22 [.own 6400]), (6001, .cells 28 [.b16 w23]), (6002, .cells 3 [.i i22]), (6400, q2bWW_30 l27), (70001, .yld (some ([5, 6, 7, 8, 9], C70001)) n28)], [70001, 5, 6, 7, 8, 9, 6001, 6002], 20000⟩) (fun x => K1 x = some r) ?_ ?_
    ·
      refine AWp.seq ?_
      obtain ⟨ob4, ob5, h⟩ := ck2 h
      refine q2rr [57] [] ⟨70, [(2, .own 70001), (7, .own 26001), (8, .int .u32 (((1 : Int) * 2 ^ ((x2).toNat)) - (1 : Int))), (1000000, .elem 32 1 T0F 0 0)], (f77az3 x3 x4 x5 x6 x7 x8 r9 C70001), [70001, 5, 6, 7, 8, 9, 6001, 6002], 20000⟩ (an2 ob4 ob5) ?_
      refine thenQ_normal ?_
      refine AWp.block ?_
      refine AWp.loopL (α := Nat × (Int × Int × BitVec 16 × BitVec 16 × Int × Int × (f77az7) × Nat)) (fun x => match x with | (_, i10, i11, w12, w13, i14, i15, l16, n17) => ⟨70, [(2, .own 70001), (7, .own 26001), (8, .int .u32 i10), (1000000, .elem 32 1 T0F 0 0)], (f77az0 i15 i14 w13 w12 i11 l16 r9 C70001 n17), [70001, 5, 6, 7, 8, 9, 6001, 6002], 20000⟩) (fun x => f77a_L0 Y70001 r9 K1 x.1 x.2 = some r) (fun x => x.1) (FUEL, (((1 : Int) * 2 ^ ((x2).toNat)) - (1 : Int)), x7, x6, x5, x4, x3, x8, 0) (Le.mk (s' := ⟨70, [(2, .own 70001), (7, .own 26001), (8, .int .u32 (((1 : Int) * 2 ^ ((x2).toNat)) - (1 : Int))), (1000000, .elem 32 1 T0F 0 0)], (f77az3 x3 x4 x5 x6 x7 x8 r9 C70001), [70001, 5, 6, 7, 8, 9, 6001, 6002], 20000⟩) rfl rfl ⟨.refl _, .refl _, .refl _, .refl _, trivial⟩ ⟨⟨_, rfl, .refl _⟩, ⟨_, rfl, .refl _⟩, ⟨_, rfl, .refl _⟩, ⟨_, rfl, .refl _⟩, ⟨_, rfl, .refl _⟩, ⟨_, rfl, .refl _⟩, ⟨_, rfl, .refl _⟩, ⟨_, rfl, .refl _⟩, ⟨_, rfl, .refl _⟩, ⟨_, rfl, .refl _⟩, trivial⟩) h ?_
      rintro ⟨k0, i10, i11, w12, w13, i14, i15, l16, n17⟩ h
      cases k0 with
      | zero => exact nomatch (show (none : Option (Bool × Nat × Int × Int × BitVec 16 × BitVec 16 × Int × (List (BitVec 16 × BitVec 16)))) = some r from h)
      | succ k0 =>
      obtain ⟨C0, hC0⟩ : ∃ C, C = f77a_L0 Y70001 r9 K1 k0 := ⟨_, rfl⟩
      replace h := (f77a_L0.eq_2 ..).symm.trans h
      try rw [← hC0] at h
      refine AWp.seq ?_
      refine AWp.seq ?_
      obtain ⟨ob6p, h⟩ := chk_some h
      have ob6 : 0 ≤ (((r9).length : Nat) : Int) ∧ (r9).length ≤ IntKind.bits .u32 ∧ 0 ≤ ((1 : Int) * 2 ^ ((r9).length)) ∧ ((1 : Int) * 2 ^ ((r9).length)) ≤ 4294967295 := ⟨by omega, ob6p.1, ob6p.2.1, ob6p.2.2⟩
      refine q2rr [57] [] ⟨70, [(2, .own 70001), (7, .own 26001), (8, .int .u32 i10), (31, .bool (decide (i10 < ((1 : Int) * 2 ^ ((r9).length))))), (1000000, .elem 32 1 T0F 0 0)], (f77az0 i15 i14 w13 w12 i11 l16 r9 C70001 n17), [70001, 5, 6, 7, 8, 9, 6001, 6002], 20000⟩ (an1 ob6) ?_
      refine thenQ_normal ?_
      refine AWp.cond (b := (decide (i10 < ((1 : Int) * 2 ^ ((r9).length))))) (by kernel_rfl) (fun hc2 => ?_) (fun hc2 => ?_)
      ·
        replace h := ite_tb hc2 h
        refine AWp.skip ?_
        refine thenQ_normal ?_
        refine AWp.block ?_
        refine q2rq [57] [] ⟨70, [(2, .own 70001), (7, .own 26001), (8, .int .u32 i10), (9, .b16 (q2w16 0)), (1000000, .elem 32 1 T0F 0 0)], (f77az0 i15 i14 w13 w12 i11 l16 r9 C70001 n17), [70001, 5, 6, 7, 8, 9, 6001, 6002], 20000⟩ trivial ?_
        obtain ⟨K2, hK2, h⟩ := jn_some h
        refine AWp.join (α := BitVec 16) (fun (w21 : BitVec 16) => ⟨70, [(2, .own 70001), (7, .own 26001), (8, .int .u32 i10), (9, .b16 w21), (1000000, .elem 32 1 T0F 0 0)], (f77az0 i15 i14 w13 w12 i11 l16 r9 C70001 n17), [70001, 5, 6, 7, 8, 9, 6001, 6002], 20000⟩) (fun x => K2 x = some r) ?_ ?_
        ·
          refine q2rq [57] [] ⟨70, [(2, .own 70001), (7, .own 26001), (8, .int .u32 i10), (9, .b16 (q2w16 0)), (32, .own 26001), (33, .i (lZ r9)), (34, .i (0 : Int)), (1000000, .elem 32 1 T0F 0 0)], (f77az0 i15 i14 w13 w12 i11 l16 r9 C70001 n17), [70001, 5, 6, 7, 8, 9, 6001, 6002], 20000⟩ trivial ?_
          refine AWp.block ?_
          refine AWp.loopL (α := Nat × (BitVec 16 × Nat)) (fun x => match x with | (_, w18, n19) => ⟨70, [(2, .own 70001), (7, .own 26001), (8, .int .u32 i10), (9, .b16 w18), (32, .own 26001), (33, .i (lZ r9)), (34, .i (n19 : Int)), (1000000, .elem 32 1 T0F 0 0)], (f77az0 i15 i14 w13 w12 i11 l16 r9 C70001 n17), [70001, 5, 6, 7, 8, 9, 6001, 6002], 20000⟩) (fun x => f77a_L1 r9 i10 K2 x.1 x.2 = some r) (fun x => x.1) (FUEL, (q2w16 0), 0) (Le.mk (s' := ⟨70, [(2, .own 70001), (7, .own 26001), (8, .int .u32 i10), (9, .b16 (q2w16 0)), (32, .own 26001), (33, .i (lZ r9)), (34, .i (0 : Int)), (1000000, .elem 32 1 T0F 0 0)], (f77az0 i15 i14 w13 w12 i11 l16 r9 C70001 n17), [70001, 5, 6, 7, 8, 9, 6001, 6002], 20000⟩) rfl rfl ⟨.refl _, .refl _, .refl _, .refl _, .refl _, .refl _, .refl _, .refl _, trivial⟩ ⟨⟨_, rfl, .refl _⟩, ⟨_, rfl, .refl _⟩, ⟨_, rfl, .refl _⟩, ⟨_, rfl, .refl _⟩, ⟨_, rfl, .refl _⟩, ⟨_, rfl, .refl _⟩, ⟨_, rfl, .refl _⟩, ⟨_, rfl, .refl _⟩, ⟨_, rfl, .refl _⟩, ⟨_, rfl, .refl _⟩, trivial⟩) h ?_
          rintro ⟨k1, w18, n19⟩ h
          cases k1 with
          | zero => exact nomatch (show (none : Option (Bool × Nat × Int × Int × BitVec 16 × BitVec 16 × Int × (List (BitVec 16 × BitVec 16)))) = some r from h)
          | succ k1 =>
          obtain ⟨C1, hC1⟩ : ∃ C, C = f77a_L1 r9 i10 K2 k1 := ⟨_, rfl⟩
          replace h := (f77a_L1.eq_2 ..).symm.trans h
          try rw [← hC1] at h
          refine q2rq [57] [] ⟨70, [(2, .own 70001), (7, .own 26001), (8, .int .u32 i10), (9, .b16 w18), (32, .own 26001), (33, .i (lZ r9)), (34, .i (n19 : Int)), (35, .bool (decide ((n19 : Int) < (lZ r9)))), (1000000, .elem 32 1 T0F 0 0)], (f77az0 i15 i14 w13 w12 i11 l16 r9 C70001 n17), [70001, 5, 6, 7, 8, 9, 6001, 6002], 20000⟩ trivial ?_
          refine AWp.seq ?_
          refine AWp.cond (b := (decide ((n19 : Int) < (lZ r9)))) (by kernel_rfl) (fun hc3 => ?_) (fun hc3 => ?_)
          ·
            replace h := ite_tb hc3 h
            refine AWp.skip ?_
            refine thenQ_normal ?_
            obtain ⟨K3, hK3, h⟩ := jn_some h
            refine AWp.join (α := BitVec 16) (fun (w20 : BitVec 16) => ⟨70, [(2, .own 70001), (7, .own 26001), (8, .int .u32 i10), (9, .b16 w20), (32, .own 26001), (33, .i (lZ r9)), (34, .i (n19 : Int)), (1000000, .elem 32 1 T0F 0 0)], (f77az0 i15 i14 w13 w12 i11 l16 r9 C70001 n17), [70001, 5, 6, 7, 8, 9, 6001, 6002], 20000⟩) (fun x => K3 x = some r) ?_ ?_
            ·
              refine AWp.block ?_
              refine AWp.seq ?_
              obtain ⟨ob7p, h⟩ := chk_some h
              have ob7 : 0 ≤ (n19 : Int) ∧ (n19 : Int) < (((r9).length : Nat) : Int) := ⟨by omega, ob7p⟩
              obtain ⟨ob8, h⟩ := chk_some h
              refine q2rr [57] [] ⟨70, [(2, .own 70001), (7, .own 26001), (8, .int .u32 i10), (9, .b16 w18), (10, .i (n19 : Int)), (11, .i (r9.getD n19 0)), (32, .own 26001), (33, .i (lZ r9)), (34, .i (n19 : Int)), (1000000, .elem 32 1 T0F 0 0)], (f77az0 i15 i14 w13 w12 i11 l16 r9 C70001 n17), [70001, 5, 6, 7, 8, 9, 6001, 6002], 20000⟩ (an2 ob7 ob8) ?_
              refine thenQ_normal ?_
              refine AWp.seq ?_
              obtain ⟨ob9p, h⟩ := chk_some h
              have ob9 : 0 ≤ (n19 : Int) ∧ n19 ≤ IntKind.bits .u32 := ⟨by omega, ob9p⟩
              refine q2rr [57] [] ⟨70, [(2, .own 70001), (7, .own 26001), (8, .int .u32 i10), (9, .b16 w18), (11, .i (r9.getD n19 0)), (32, .own 26001), (33, .i (lZ r9)), (34, .i (n19 : Int)), (43, .bool ((bitsI .and .u32 (i10 / 2 ^ n19) (1 : Int)) == (1 : Int))), (1000000, .elem 32 1 T0F 0 0)], (f77az0 i15 i14 w13 w12 i11 l16 r9 C70001 n17), [70001, 5, 6, 7, 8, 9, 6001, 6002], 20000⟩ (an1 ob9) ?_
              refine thenQ_normal ?_
              refine AWp.cond (b := ((bitsI .and .u32 (i10 / 2 ^ n19) (1 : Int)) == (1 : Int))) (by kernel_rfl) (fun hc4 => ?_) (fun hc4 => ?_)
              ·
                replace h := ite_tb hc4 h
                obtain ⟨ob10, h⟩ := chk_some h
                refine q2rr [57] [] ⟨70, [(2, .own 70001), (7, .own 26001), (8, .int .u32 i10), (9, .b16 (w18 ||| ((q2w16 1) <<< (((r9.getD n19 0)).toNat)))), (32, .own 26001), (33, .i (lZ r9)), (34, .i (n19 : Int)), (1000000, .elem 32 1 T0F 0 0)], (f77az0 i15 i14 w13 w12 i11 l16 r9 C70001 n17), [70001, 5, 6, 7, 8, 9, 6001, 6002], 20000⟩ (an1 ob10) ?_
                refine blockQ_normal ?_
                exact joinQ_normal ((w18 ||| ((q2w16 1) <<< (((r9.getD n19 0)).toNat)))) (Le.mk rfl rfl ⟨.refl _, .refl _, .refl _, .refl _, .refl _, .refl _, .refl _, .refl _, trivial⟩ ⟨⟨_, rfl, .refl _⟩, ⟨_, rfl, .refl _⟩, ⟨_, rfl, .refl _⟩, ⟨_, rfl, .refl _⟩, ⟨_, rfl, .refl _⟩, ⟨_, rfl, .refl _⟩, ⟨_, rfl, .refl _⟩, ⟨_, rfl, .refl _⟩, ⟨_, rfl, .refl _⟩, ⟨_, rfl, .refl _⟩, trivial⟩) h
              ·
                replace h := ite_fb hc4 h
                refine AWp.skip ?_
                refine blockQ_normal ?_
                exact joinQ_normal (w18) (Le.mk rfl rfl ⟨.refl _, .refl _, .refl _, .refl _, .refl _, .refl _, .refl _, .refl _, trivial⟩ ⟨⟨_, rfl, .refl _⟩, ⟨_, rfl, .refl _⟩, ⟨_, rfl, .refl _⟩, ⟨_, rfl, .refl _⟩, ⟨_, rfl, .refl _⟩, ⟨_, rfl, .refl _⟩, ⟨_, rfl, .refl _⟩, ⟨_, rfl, .refl _⟩, ⟨_, rfl, .refl _⟩, ⟨_, rfl, .refl _⟩, trivial⟩) h
            ·
              rintro w20 h
              replace h := (congrFun hK3 _).symm.trans h
              obtain ⟨ob11p, h⟩ := chk_some h
              have ob11 : -9223372036854775808 ≤ ((n19 : Int) + (1 : Int)) ∧ ((n19 : Int) + (1 : Int)) ≤ 9223372036854775807 := ⟨by omega, ob11p⟩
              refine q2rr [57] [] ⟨70, [(2, .own 70001), (7, .own 26001), (8, .int .u32 i10), (9, .b16 w20), (32, .own 26001), (33, .i (lZ r9)), (34, .i (((n19 + 1) : Nat) : Int)), (1000000, .elem 32 1 T0F 0 0)], (f77az0 i15 i14 w13 w12 i11 l16 r9 C70001 n17), [70001, 5, 6, 7, 8, 9, 6001, 6002], 20000⟩ (an1 ob11) ?_
              rw [hC1] at h
              exact loopQ_normal (_, w20, (n19 + 1)) (Le.mk rfl rfl ⟨.refl _, .refl _, .refl _, .refl _, .refl _, .refl _, .refl _, .refl _, trivial⟩ ⟨⟨_, rfl, .refl _⟩, ⟨_, rfl, .refl _⟩, ⟨_, rfl, .refl _⟩, ⟨_, rfl, .refl _⟩, ⟨_, rfl, .refl _⟩, ⟨_, rfl, .refl _⟩, ⟨_, rfl, .refl _⟩, ⟨_, rfl, .refl _⟩, ⟨_, rfl, .refl _⟩, ⟨_, rfl, .refl _⟩, trivial⟩) h (Nat.lt_succ_self _)
          ·
            replace h := ite_fb hc3 h
            refine AWp.exit ?_
            refine thenQ_exit ?_
            refine thenQ_exit ?_
            refine blockQ_same ?_
            exact joinQ_normal (w18) (Le.mk rfl rfl ⟨.refl _, .refl _, .refl _, .refl _, .refl _, trivial⟩ ⟨⟨_, rfl, .refl _⟩, ⟨_, rfl, .refl _⟩, ⟨_, rfl, .refl _⟩, ⟨_, rfl, .refl _⟩, ⟨_, rfl, .refl _⟩, ⟨_, rfl, .refl _⟩, ⟨_, rfl, .refl _⟩, ⟨_, rfl, .refl _⟩, ⟨_, rfl, .refl _⟩, ⟨_, rfl, .refl _⟩, trivial⟩) h
        ·
          rintro w21 h
          replace h := (congrFun hK2 _).symm.trans h
          obtain ⟨K4, hK4, h⟩ := jn_some h
          refine AWp.join (α := Int × BitVec 16 × BitVec 16 × Int × Int × (f77az7) × Nat) (fun (x : Int × BitVec 16 × BitVec 16 × Int × Int × (f77az7) × Nat) => match x with | (i23, w24, w25, i26, i27, l28, n29) => ⟨70, [(2, .own 70001), (7, .own 26001), (8, .int .u32 i10), (1000000, .elem 32 1 T0F 0 0)], (f77az1 i27 i26 w25 w24 i23 l28 r9 C70001 n29), [70001, 5, 6, 7, 8, 9, 6001, 6002], 20000⟩) (fun x => K4 x = some r) ?_ ?_
          ·
            refine AWp.seq ?_
            obtain ⟨hz5, h⟩ := chk_some h
            refine AWp.le (Le.mk (s' := ⟨70, [(2, .own 70001), (7, .own 26001), (8, .int .u32 i10), (9, .b16 w21), (1000000, .elem 32 1 T0F 0 0)], [(5, .cells 3 [.i i15]), (6, .cells 22 [.nils]), (7, .cells 24 [.i i14]), (8, .cells 28 [.b16 w13]), (9, .cells 22 [.own 6400]), (6001, .cells 28 [.b16 w12]), (6002, .cells 3 [.i i11]), (6400, q2bWW_30 l16), (26001, q2bI_3 r9), (70001, .yld (some ([5, 6, 7, 8, 9], C70001)) 0)], [70001, 5, 6, 7, 8, 9, 6001, 6002], 20000⟩) rfl rfl ⟨.refl _, .refl _, .refl _, .refl _, .refl _, trivial⟩ ⟨⟨_, rfl, .refl _⟩, ⟨_, rfl, .refl _⟩, ⟨_, rfl, .refl _⟩, ⟨_, rfl, .refl _⟩, ⟨_, rfl, .refl _⟩, ⟨_, rfl, .refl _⟩, ⟨_, rfl, .refl _⟩, ⟨_, rfl, .refl _⟩, ⟨_, rfl, .refl _⟩, ⟨_, rfl, BLe.yldEq hz5⟩, trivial⟩) ?_
            obtain ⟨r22, hr22, h⟩ := bind_ok h
            by_cases hy_r22 : r22.1 = 0
            ·
              replace h := ite_t hy_r22 h
              refine q2rr [57] [(2, ⟨[.b16 w21], [70001, 5, 6, 7, 8, 9, 6001, 6002, 6400], [5, 6, 7, 8, 9, 6001, 6002], (f77az5 C70001 r22), .bool true, [6400], [], []⟩)] ⟨70, [(2, .own 70001), (7, .own 26001), (8, .int .u32 i10), (52, .bool (!true)), (1000000, .elem 32 1 T0F 0 0)], [(5, .cells 3 [.i r22.2.1]), (6, .cells 22 [.nils]), (7, .cells 24 [.i r22.2.2.1]), (8, .cells 28 [.b16 r22.2.2.2.1]), (9, .cells 22 [.own 6400]), (6001, .cells 28 [.b16 r22.2.2.2.2.1]), (6002, .cells 3 [.i r22.2.2.2.2.2.1]), (6400, q2bWW_30 r22.2.2.2.2.2.2), (26001, q2bI_3 r9), (70001, .yld (some ([5, 6, 7, 8, 9], C70001)) 0)], [70001, 5, 6, 7, 8, 9, 6001, 6002], 20000⟩ (an1 (show (((f77az5 C70001 r22) : Heap) = (70001, .yld (some ([5, 6, 7, 8, 9], C70001)) 0) :: (f77az2 r22) ∧ V.bool true = V.bool (0 == 0) ∧ YSpec Tryz.prog 70001 [5, 6, 7, 8, 9] C70001 [5, 6, 7, 8, 9, 6001, 6002] [(5, .cells 3 [.i i15]), (6, .cells 22 [.nils]), (7, .cells 24 [.i i14]), (8, .cells 28 [.b16 w13]), (9, .cells 22 [.own 6400]), (6001, .cells 28 [.b16 w12]), (6002, .cells 3 [.i i11]), (6400, q2bWW_30 l16)] [.b16 w21] 0 (f77az2 r22) ∧ VLes [.b16 w21] [.b16 w21]) from ⟨rfl, rfl, (YSpec.zero (hY70001 _ _ r22 hr22) hy_r22), ⟨.refl _, trivial⟩⟩)) ?_
              refine thenQ_normal ?_
              refine AWp.cond (b := (!true)) (by kernel_rfl) (fun hc7 => ?_) (fun hc7 => ?_)
              ·
                replace h := ite_tb hc7 h
                refine q2rq [57] [] ⟨70, [(6, .bool false), (1000000, .elem 32 1 T0F 0 0)], [(5, .cells 3 [.i r22.2.1]), (6, .cells 22 [.nils]), (7, .cells 24 [.i r22.2.2.1]), (8, .cells 28 [.b16 r22.2.2.2.1]), (9, .cells 22 [.own 6400]), (6001, .cells 28 [.b16 r22.2.2.2.2.1]), (6002, .cells 3 [.i r22.2.2.2.2.2.1]), (6400, q2bWW_30 r22.2.2.2.2.2.2), (70001, .yld (some ([5, 6, 7, 8, 9], C70001)) 0)], [70001, 5, 6, 7, 8, 9, 6001, 6002], 20000⟩ trivial ?_
                have hret := Option.some.inj h
                subst hret
                refine AWp.le (Le.mk (s' := ⟨70, [(6, .bool false)], (f77az5 C70001 r22), [70001, 5, 6, 7, 8, 9, 6001, 6002], 20000⟩) rfl rfl ⟨.refl _, trivial⟩ ⟨⟨_, rfl, .refl _⟩, ⟨_, rfl, .refl _⟩, ⟨_, rfl, .refl _⟩, ⟨_, rfl, .refl _⟩, ⟨_, rfl, .refl _⟩, ⟨_, rfl, .refl _⟩, ⟨_, rfl, .refl _⟩, ⟨_, rfl, .refl _⟩, ⟨_, rfl, .refl _⟩, trivial⟩) ?_
                refine AWp.ret ?_
                refine joinQ_ret ?_
                refine blockQ_ret ?_
                refine thenQ_ret ?_
                refine blockQ_ret ?_
                refine joinQ_ret ?_
                exact bodyQ_ret _ rfl ⟨rfl, rfl⟩ rfl
              ·
                replace h := ite_fb hc7 h
                refine AWp.skip ?_
                exact joinQ_normal (r22.2.2.2.2.2.1, r22.2.2.2.2.1, r22.2.2.2.1, r22.2.2.1, r22.2.1, r22.2.2.2.2.2.2, 0) (Le.mk rfl rfl ⟨.refl _, .refl _, .refl _, .refl _, trivial⟩ ⟨⟨_, rfl, .refl _⟩, ⟨_, rfl, .refl _⟩, ⟨_, rfl, .refl _⟩, ⟨_, rfl, .refl _⟩, ⟨_, rfl, .refl _⟩, ⟨_, rfl, .refl _⟩, ⟨_, rfl, .refl _⟩, ⟨_, rfl, .refl _⟩, ⟨_, rfl, .refl _⟩, ⟨_, rfl, .refl _⟩, trivial⟩) h
            ·
              replace h := ite_f hy_r22 h
              refine q2rr [57] [(2, ⟨[.b16 w21], [70001, 5, 6, 7, 8, 9, 6001, 6002, 6400], [5, 6, 7, 8, 9, 6001, 6002], (f77az4 C70001 r22), .bool false, [6400], [], []⟩)] ⟨70, [(2, .own 70001), (7, .own 26001), (8, .int .u32 i10), (52, .bool (!false)), (1000000, .elem 32 1 T0F 0 0)], [(5, .cells 3 [.i r22.2.1]), (6, .cells 22 [.nils]), (7, .cells 24 [.i r22.2.2.1]), (8, .cells 28 [.b16 r22.2.2.2.1]), (9, .cells 22 [.own 6400]), (6001, .cells 28 [.b16 r22.2.2.2.2.1]), (6002, .cells 3 [.i r22.2.2.2.2.2.1]), (6400, q2bWW_30 r22.2.2.2.2.2.2), (26001, q2bI_3 r9), (70001, .yld (some ([5, 6, 7, 8, 9], C70001)) r22.1)], [70001, 5, 6, 7, 8, 9, 6001, 6002], 20000⟩ (an1 (show (((f77az4 C70001 r22) : Heap) = (70001, .yld (some ([5, 6, 7, 8, 9], C70001)) r22.1) :: (f77az2 r22) ∧ V.bool false = V.bool (r22.1 == 0) ∧ YSpec Tryz.prog 70001 [5, 6, 7, 8, 9] C70001 [5, 6, 7, 8, 9, 6001, 6002] [(5, .cells 3 [.i i15]), (6, .cells 22 [.nils]), (7, .cells 24 [.i i14]), (8, .cells 28 [.b16 w13]), (9, .cells 22 [.own 6400]), (6001, .cells 28 [.b16 w12]), (6002, .cells 3 [.i i11]), (6400, q2bWW_30 l16)] [.b16 w21] r22.1 (f77az2 r22) ∧ VLes [.b16 w21] [.b16 w21]) from ⟨rfl, bool_ne hy_r22, (hY70001 _ _ r22 hr22), ⟨.refl _, trivial⟩⟩)) ?_
              refine thenQ_normal ?_
              refine AWp.cond (b := (!false)) (by kernel_rfl) (fun hc8 => ?_) (fun hc8 => ?_)
              ·
                replace h := ite_tb hc8 h
                refine q2rq [57] [] ⟨70, [(6, .bool false), (1000000, .elem 32 1 T0F 0 0)], [(5, .cells 3 [.i r22.2.1]), (6, .cells 22 [.nils]), (7, .cells 24 [.i r22.2.2.1]), (8, .cells 28 [.b16 r22.2.2.2.1]), (9, .cells 22 [.own 6400]), (6001, .cells 28 [.b16 r22.2.2.2.2.1]), (6002, .cells 3 [.i r22.2.2.2.2.2.1]), (6400, q2bWW_30 r22.2.2.2.2.2.2), (70001, .yld (some ([5, 6, 7, 8, 9], C70001)) r22.1)], [70001, 5, 6, 7, 8, 9, 6001, 6002], 20000⟩ trivial ?_
                have hret := Option.some.inj h
                subst hret
                refine AWp.le (Le.mk (s' := ⟨70, [(6, .bool false)], (f77az4 C70001 r22), [70001, 5, 6, 7, 8, 9, 6001, 6002], 20000⟩) rfl rfl ⟨.refl _, trivial⟩ ⟨⟨_, rfl, .refl _⟩, ⟨_, rfl, .refl _⟩, ⟨_, rfl, .refl _⟩, ⟨_, rfl, .refl _⟩, ⟨_, rfl, .refl _⟩, ⟨_, rfl, .refl _⟩, ⟨_, rfl, .refl _⟩, ⟨_, rfl, .refl _⟩, ⟨_, rfl, .refl _⟩, trivial⟩) ?_
                refine AWp.ret ?_
                refine joinQ_ret ?_
                refine blockQ_ret ?_
                refine thenQ_ret ?_
                refine blockQ_ret ?_
                refine joinQ_ret ?_
                exact bodyQ_ret _ rfl ⟨rfl, rfl⟩ rfl
              ·
                replace h := ite_fb hc8 h
                refine AWp.skip ?_
                exact joinQ_normal (r22.2.2.2.2.2.1, r22.2.2.2.2.1, r22.2.2.2.1, r22.2.2.1, r22.2.1, r22.2.2.2.2.2.2, r22.1) (Le.mk rfl rfl ⟨.refl _, .refl _, .refl _, .refl _, trivial⟩ ⟨⟨_, rfl, .refl _⟩, ⟨_, rfl, .refl _⟩, ⟨_, rfl, .refl _⟩, ⟨_, rfl, .refl _⟩, ⟨_, rfl, .refl _⟩, ⟨_, rfl, .refl _⟩, ⟨_, rfl, .refl _⟩, ⟨_, rfl, .refl _⟩, ⟨_, rfl, .refl _⟩, ⟨_, rfl, .refl _⟩, trivial⟩) h
          ·
            rintro ⟨i23, w24, w25, i26, i27, l28, n29⟩ h
            replace h := (congrFun hK4 _).symm.trans h
            refine AWp.seq ?_
            refine q2rq [57] [] ⟨70, [(2, .own 70001), (7, .own 26001), (8, .int .u32 i10), (54, .bool (i10 == (0 : Int))), (1000000, .elem 32 1 T0F 0 0)], (f77az1 i27 i26 w25 w24 i23 l28 r9 C70001 n29), [70001, 5, 6, 7, 8, 9, 6001, 6002], 20000⟩ trivial ?_
            refine AWp.cond (b := (i10 == (0 : Int))) (by kernel_rfl) (fun hc9 => ?_) (fun hc9 => ?_)
            ·
              replace h := ite_tb hc9 h
              refine AWp.exit ?_
              refine thenQ_exit ?_
              refine blockQ_other (by decide) ?_
              refine thenQ_exit ?_
              refine blockQ_same ?_
              exact joinQ_normal (i23, w24, w25, i26, i27, l28, n29) (Le.mk rfl rfl ⟨.refl _, trivial⟩ ⟨⟨_, rfl, .refl _⟩, ⟨_, rfl, .refl _⟩, ⟨_, rfl, .refl _⟩, ⟨_, rfl, .refl _⟩, ⟨_, rfl, .refl _⟩, ⟨_, rfl, .refl _⟩, ⟨_, rfl, .refl _⟩, ⟨_, rfl, .refl _⟩, ⟨_, rfl, .refl _⟩, trivial⟩) h
            ·
              replace h := ite_fb hc9 h
              refine AWp.skip ?_
              refine thenQ_normal ?_
              refine q2rq [57] [] ⟨70, [(2, .own 70001), (7, .own 26001), (8, .int .u32 i10), (12, .int .u32 (bitsI .and .u32 i10 (IntKind.wrap .u32 (0 - i10)))), (1000000, .elem 32 1 T0F 0 0)], (f77az1 i27 i26 w25 w24 i23 l28 r9 C70001 n29), [70001, 5, 6, 7, 8, 9, 6001, 6002], 20000⟩ (an1 trivial) ?_
              refine AWp.seq ?_
              obtain ⟨ob12, h⟩ := chk_some h
              refine q2rr [57] [] ⟨70, [(2, .own 70001), (7, .own 26001), (8, .int .u32 i10), (12, .int .u32 (bitsI .and .u32 i10 (IntKind.wrap .u32 (0 - i10)))), (13, .int .u32 (i10 + (bitsI .and .u32 i10 (IntKind.wrap .u32 (0 - i10))))), (1000000, .elem 32 1 T0F 0 0)], (f77az1 i27 i26 w25 w24 i23 l28 r9 C70001 n29), [70001, 5, 6, 7, 8, 9, 6001, 6002], 20000⟩ (an1 ob12) ?_
              refine thenQ_normal ?_
              obtain ⟨ob13, ob14p, h⟩ := ck2 h
              have ob14 : 0 ≤ (2 : Int) ∧ 2 ≤ IntKind.bits .u32 := ⟨by omega, ob14p⟩
              refine q2rr [57] [] ⟨70, [(2, .own 70001), (7, .own 26001), (8, .int .u32 (bitsI .or .u32 (i10 + (bitsI .and .u32 i10 (IntKind.wrap .u32 (0 - i10)))) (((bitsI .xor .u32 i10 (i10 + (bitsI .and .u32 i10 (IntKind.wrap .u32 (0 - i10))))) / (bitsI .and .u32 i10 (IntKind.wrap .u32 (0 - i10)))) / 2 ^ 2))), (1000000, .elem 32 1 T0F 0 0)], (f77az1 i27 i26 w25 w24 i23 l28 r9 C70001 n29), [70001, 5, 6, 7, 8, 9, 6001, 6002], 20000⟩ (an2 ob13 ob14) ?_
              refine blockQ_normal ?_
              rw [hC0] at h
              exact loopQ_normal (_, (bitsI .or .u32 (i10 + (bitsI .and .u32 i10 (IntKind.wrap .u32 (0 - i10)))) (((bitsI .xor .u32 i10 (i10 + (bitsI .and .u32 i10 (IntKind.wrap .u32 (0 - i10))))) / (bitsI .and .u32 i10 (IntKind.wrap .u32 (0 - i10)))) / 2 ^ 2)), i23, w24, w25, i26, i27, l28, n29) (Le.mk rfl rfl ⟨.refl _, .refl _, .refl _, .refl _, trivial⟩ ⟨⟨_, rfl, .refl _⟩, ⟨_, rfl, .refl _⟩, ⟨_, rfl, .refl _⟩, ⟨_, rfl, .refl _⟩, ⟨_, rfl, .refl _⟩, ⟨_, rfl, .refl _⟩, ⟨_, rfl, .refl _⟩, ⟨_, rfl, .refl _⟩, ⟨_, rfl, .refl _⟩, ⟨_, rfl, .refl _⟩, trivial⟩) h (Nat.lt_succ_self _)
      ·
        replace h := ite_fb hc2 h
        refine AWp.exit ?_
        refine thenQ_exit ?_
        refine thenQ_exit ?_
        refine blockQ_same ?_
        exact joinQ_normal (i11, w12, w13, i14, i15, l16, n17) (Le.mk rfl rfl ⟨.refl _, trivial⟩ ⟨⟨_, rfl, .refl _⟩, ⟨_, rfl, .refl _⟩, ⟨_, rfl, .refl _⟩, ⟨_, rfl, .refl _⟩, ⟨_, rfl, .refl _⟩, ⟨_, rfl, .refl _⟩, ⟨_, rfl, .refl _⟩, ⟨_, rfl, .refl _⟩, ⟨_, rfl, .refl _⟩, trivial⟩) h
    ·
      rintro ⟨i22, w23, w24, i25, i26, l27, n28⟩ h
      replace h := (congrFun hK1 _).symm.trans h
      refine q2rq [57] [] ⟨70, [(6, .bool true), (1000000, .elem 32 1 T0F 0 0)], [(5, .cells 3 [.i i26]), (6, .cells 22 [.nils]), (7, .cells 24 [.i i25]), (8, .cells 28 [.b16 w24]), (9, .cells 22 [.own 6400]), (6001, .cells 28 [.b16 w23]), (6002, .cells 3 [.i i22]), (6400, q2bWW_30 l27), (70001, .yld (some ([5, 6, 7, 8, 9], C70001)) n28)], [70001, 5, 6, 7, 8, 9, 6001, 6002], 20000⟩ trivial ?_
      have hret := Option.some.inj h
      subst hret
      refine AWp.le (Le.mk (s' := ⟨70, [(6, .bool true)], [(70001, .yld (some ([5, 6, 7, 8, 9], C70001)) n28), (5, .cells 3 [.i i26]), (6, .cells 22 [.nils]), (7, .cells 24 [.i i25]), (8, .cells 28 [.b16 w24]), (9, .cells 22 [.own 6400]), (6001, .cells 28 [.b16 w23]), (6002, .cells 3 [.i i22]), (6400, q2bWW_30 l27)], [70001, 5, 6, 7, 8, 9, 6001, 6002], 20000⟩) rfl rfl ⟨.refl _, trivial⟩ ⟨⟨_, rfl, .refl _⟩, ⟨_, rfl, .refl _⟩, ⟨_, rfl, .refl _⟩, ⟨_, rfl, .refl _⟩, ⟨_, rfl, .refl _⟩, ⟨_, rfl, .refl _⟩, ⟨_, rfl, .refl _⟩, ⟨_, rfl, .refl _⟩, ⟨_, rfl, .refl _⟩, trivial⟩) ?_
      refine AWp.ret ?_
      exact bodyQ_ret _ rfl ⟨rfl, rfl⟩ rfl
def f76a (Y70001 : (Int × Int × BitVec 16 × BitVec 16 × Int × (List (BitVec 16 × BitVec 16))) → (BitVec 16) → Option (Nat × (Int × Int × BitVec 16 × BitVec 16 × Int × (List (BitVec 16 × BitVec 16))))) (x1 : Int) (x2 : Int) (x3 : BitVec 16) (x4 : BitVec 16) (x5 : Int) (x6 : List (BitVec 16 × BitVec 16)) : Option (Nat × Int × Int × BitVec 16 × BitVec 16 × Int × (List (BitVec 16 × BitVec 16))) :=
  (f77a Y70001 x4 x5 x1 x2 x3 x4 x5 x6).bind fun (r7 : Bool × Nat × Int × Int × BitVec 16 × BitVec 16 × Int × (List (BitVec 16 × BitVec 16))) =>
  some (r7.2.1, r7.2.2.1, r7.2.2.2.1, r7.2.2.2.2.1, r7.2.2.2.2.2.1, r7.2.2.2.2.2.2.1, r7.2.2.2.2.2.2.2)
set_option maxRecDepth 100000 in
theorem f76a_ok (C70001 : YC) (Y70001 : (Int × Int × BitVec 16 × BitVec 16 × Int × (List (BitVec 16 × BitVec 16))) → (BitVec 16) → Option (Nat × (Int × Int × BitVec 16 × BitVec 16 × Int × (List (BitVec 16 × BitVec 16))))) (x1 : Int) (x2 : Int) (x3 : BitVec 16) (x4 : BitVec 16) (x5 : Int) (x6 : List (BitVec 16 × BitVec 16)) (r : Nat × Int × Int × BitVec 16 × BitVec 16 × Int × (List (BitVec 16 × BitVec 16))) (h : f76a Y70001 x1 x2 x3 x4 x5 x6 = some r) (hY70001 : ∀ s x r, Y70001 s x = some r → YSpec Tryz.prog 70001 [5, 6, 7, 8, 9] C70001 [5, 6, 7, 8, 9, 6001, 6002] [(5, .cells 3 [.int .i64 s.1]), (6, .cells 22 [.nils]), (7, .cells 24 [.int .i64 s.2.1]), (8, .cells 28 [.b16 s.2.2.1]), (9, .cells 22 [.own 6400]), (6001, .cells 28 [.b16 s.2.2.2.1]), (6002, .cells 3 [.int .i64 s.2.2.2.2.1]), (6400, bL 30 2 eWW (default : BitVec 16 × BitVec 16) s.2.2.2.2.2)] [.b16 x] r.1 [(5, .cells 3 [.int .i64 r.2.1]), (6, .cells 22 [.nils]), (7, .cells 24 [.int .i64 r.2.2.1]), (8, .cells 28 [.b16 r.2.2.2.1]), (9, .cells 22 [.own 6400]), (6001, .cells 28 [.b16 r.2.2.2.2.1]), (6002, .cells 3 [.int .i64 r.2.2.2.2.2.1]), (6400, bL 30 2 eWW (default : BitVec 16 × BitVec 16) r.2.2.2.2.2.2)]) : Spec1 Tryz.prog 76 [(0, .elem 32 1 T0F 0 0)] [70001, 5, 6, 7, 8, 9, 6001, 6002] [(70001, .yld (some ([5, 6, 7, 8, 9], C70001)) 0), (5, .cells 3 [.int .i64 x1]), (6, .cells 22 [.nils]), (7, .cells 24 [.int .i64 x2]), (8, .cells 28 [.b16 x3]), (9, .cells 22 [.own 6400]), (6001, .cells 28 [.b16 x4]), (6002, .cells 3 [.int .i64 x5]), (6400, bL 30 2 eWW (default : BitVec 16 × BitVec 16) x6)] [.own 70001, .ptr 6001 0, .ptr 6002 0] (.tup []) [(70001, .yld (some ([5, 6, 7, 8, 9], C70001)) r.1), (5, .cells 3 [.int .i64 r.2.1]), (6, .cells 22 [.nils]), (7, .cells 24 [.int .i64 r.2.2.1]), (8, .cells 28 [.b16 r.2.2.2.1]), (9, .cells 22 [.own 6400]), (6001, .cells 28 [.b16 r.2.2.2.2.1]), (6002, .cells 3 [.int .i64 r.2.2.2.2.2.1]), (6400, bL 30 2 eWW (default : BitVec 16 × BitVec 16) r.2.2.2.2.2.2)] := by
  unfold f76a at h
  refine Spec1.body 10000 _ _ Tryz.func76 rfl Tryz.ntmps76 rfl rfl ?_
  obtain ⟨r7, hr7, h⟩ := bind_ok h
  refine q2rr [] [(3, ⟨[.b16 x4, .i x5, .own 70001], [70001, 5, 6, 7, 8, 9, 6001, 6002, 6400], [70001, 5, 6, 7, 8, 9, 6001, 6002], [(70001, .yld (some ([5, 6, 7, 8, 9], C70001)) r7.2.1), (5, .cells 3 [.i r7.2.2.1]), (6, .cells 22 [.nils]), (7, .cells 24 [.i r7.2.2.2.1]), (8, .cells 28 [.b16 r7.2.2.2.2.1]), (9, .cells 22 [.own 6400]), (6001, .cells 28 [.b16 r7.2.2.2.2.2.1]), (6002, .cells 3 [.i r7.2.2.2.2.2.2.1]), (6400, q2bWW_30 r7.2.2.2.2.2.2.2)], .bool r7.1, [6400], [], [0]⟩)] ⟨8, [(1000000, .elem 32 1 T0F 0 0)], [(5, .cells 3 [.i r7.2.2.1]), (6, .cells 22 [.nils]), (7, .cells 24 [.i r7.2.2.2.1]), (8, .cells 28 [.b16 r7.2.2.2.2.1]), (9, .cells 22 [.own 6400]), (6001, .cells 28 [.b16 r7.2.2.2.2.2.1]), (6002, .cells 3 [.i r7.2.2.2.2.2.2.1]), (6400, q2bWW_30 r7.2.2.2.2.2.2.2), (70001, .yld (some ([5, 6, 7, 8, 9], C70001)) r7.2.1)], [70001, 5, 6, 7, 8, 9, 6001, 6002], 10000⟩ (an1 (cpT (f77a_ok C70001 _ _ _ _ _ _ _ _ _ _ hr7 hY70001))) ?_
  have hret := Option.some.inj h
  subst hret
  exact bodyQ_le (Le.mk (s' := ⟨8, [], [(70001, .yld (some ([5, 6, 7, 8, 9], C70001)) r7.2.1), (5, .cells 3 [.i r7.2.2.1]), (6, .cells 22 [.nils]), (7, .cells 24 [.i r7.2.2.2.1]), (8, .cells 28 [.b16 r7.2.2.2.2.1]), (9, .cells 22 [.own 6400]), (6001, .cells 28 [.b16 r7.2.2.2.2.2.1]), (6002, .cells 3 [.i r7.2.2.2.2.2.2.1]), (6400, q2bWW_30 r7.2.2.2.2.2.2.2)], [70001, 5, 6, 7, 8, 9, 6001, 6002], 10000⟩) rfl rfl trivial ⟨⟨_, rfl, .refl _⟩, ⟨_, rfl, .refl _⟩, ⟨_, rfl, .refl _⟩, ⟨_, rfl, .refl _⟩, ⟨_, rfl, .refl _⟩, ⟨_, rfl, .refl _⟩, ⟨_, rfl, .refl _⟩, ⟨_, rfl, .refl _⟩, ⟨_, rfl, .refl _⟩, trivial⟩) (bodyQ_normal _ rfl ⟨rfl, rfl⟩ rfl)
def f20_Y70002 : (Int × BitVec 16 × BitVec 16 × Int × (List (BitVec 16 × BitVec 16))) → (BitVec 16) → Option (Nat × (Int × BitVec 16 × BitVec 16 × Int × (List (BitVec 16 × BitVec 16))))
  | (i16, w15, w14, i13, l17), x18 =>
    chk (((l17).length + 1) * 4 ≤ 140737488355328) <|
    if (decide (((((l17 ++ [(w15, x18)])).length : Nat) : Int) > (100 : Int))) then (
    some (2, ((3 : Int), w15, w14, i13, (l17 ++ [(w15, x18)])))
    ) else (
    some (0, (i16, w15, w14, i13, (l17 ++ [(w15, x18)])))
    )
def f20_Y70001 : (Int × Int × BitVec 16 × BitVec 16 × Int × (List (BitVec 16 × BitVec 16))) → (BitVec 16) → Option (Nat × (Int × Int × BitVec 16 × BitVec 16 × Int × (List (BitVec 16 × BitVec 16))))
  | (i9, i8, w7, w6, i5, l10), x11 =>
    (f50 (w7 &&& ~~~x11) i9).bind fun (r12 : BitVec 16 × Int) =>
    (f76 f20_Y70002 i8 x11 r12.1 r12.2 l10).bind fun (r19 : Nat × Int × BitVec 16 × BitVec 16 × Int × (List (BitVec 16 × BitVec 16))) =>
    chk (r19.1 ≠ 1) <|
    if r19.1 = 0 then (
    some (0, (i9, r19.2.1, w7, w6, i5, r19.2.2.2.2.2))
    ) else (
    if r19.1 = 2 then (
    some (2, (i9, r19.2.1, w7, w6, i5, r19.2.2.2.2.2))
    ) else (
    none
    )
    )
abbrev f20z0 (x1 : Int) (x2 : Int) (x3 : Int) := ((((decide (x1 < (0 : Int))) || (decide (x1 > (12 : Int)))) || (decide (x2 < (0 : Int)))) || (decide (x3 < (0 : Int))))
abbrev f20z1 (x3 : Int) (x1 : Int) (r4 : BitVec 16 × Int) : Heap := [(5, .cells 3 [.int .i64 x3]), (6, .cells 22 [.nils]), (7, .cells 24 [.int .i64 (0 : Int)]), (8, .cells 28 [.b16 (((BitVec.ofInt 16 1) <<< ((x1).toNat)) - (BitVec.ofInt 16 1))]), (9, .cells 22 [.own 6400]), (6001, .cells 28 [.b16 r4.1]), (6002, .cells 3 [.int .i64 r4.2]), (6400, bL 30 2 eWW (default : BitVec 16 × BitVec 16) [])]
abbrev f20z2 (i9 : Int) (i8 : Int) (w7 : BitVec 16) (x11 : BitVec 16) (w6 : BitVec 16) (i5 : Int) (r12 : BitVec 16 × Int) (l10 : List (BitVec 16 × BitVec 16)) : Heap := [(5, .cells 3 [.int .i64 i9]), (6, .cells 22 [.nils]), (7, .cells 24 [.int .i64 i8]), (8, .cells 28 [.b16 w7]), (9, .cells 22 [.own 6400]), (10, .cells 28 [.b16 x11]), (6001, .cells 28 [.b16 w6]), (6002, .cells 3 [.int .i64 i5]), (6003, .cells 28 [.b16 r12.1]), (6004, .cells 3 [.int .i64 r12.2]), (6400, bL 30 2 eWW (default : BitVec 16 × BitVec 16) l10)]
abbrev f20z3 (x1 : Int) := ((decide (x1 < (0 : Int))) || (decide (x1 > (12 : Int))))
abbrev f20z4 (i16 : Int) (w15 : BitVec 16) (w14 : BitVec 16) (i13 : Int) (l17 : List (BitVec 16 × BitVec 16)) (x18 : BitVec 16) : Heap := [(6, .cells 22 [.nils]), (7, .cells 24 [.int .i64 i16]), (9, .cells 22 [.own 6400]), (10, .cells 28 [.b16 w15]), (6003, .cells 28 [.b16 w14]), (6004, .cells 3 [.int .i64 i13]), (6400, bL 30 2 eWW (default : BitVec 16 × BitVec 16) (l17 ++ [(w15, x18)]))]
abbrev f20z5 (x1 : Int) (x2 : Int) (x3 : Int) := (((f20z0 x1 x2 x3) || (decide (x2 > x1))) == false)
abbrev f20z6 (x1 : Int) : List V := [.b16 (((BitVec.ofInt 16 1) <<< ((x1).toNat)) - (BitVec.ofInt 16 1))]
abbrev f20z7 : List V := [.ptr 6001 0, .ptr 6002 0]
abbrev f20z8 : List V := [.int .i64 (0 : Int)]
abbrev f20z9 : List V := [.ptr 6003 0, .ptr 6004 0]
def f20 (x1 : Int) (x2 : Int) (x3 : Int) : Option ((List (BitVec 16 × BitVec 16)) × Int) :=
  chk (((((((decide (x1 < (0 : Int))) || (decide (x1 > (12 : Int)))) || (decide (x2 < (0 : Int)))) || (decide (x3 < (0 : Int)))) || (decide (x2 > x1))) == false) = true → -9223372036854775808 ≤ (x1 - x2) ∧ (x1 - x2) ≤ 9223372036854775807) <|
  if ((((((decide (x1 < (0 : Int))) || (decide (x1 > (12 : Int)))) || (decide (x2 < (0 : Int)))) || (decide (x3 < (0 : Int)))) || (decide (x2 > x1))) || (decide (x3 > (x1 - x2)))) then (
  some ([], (7 : Int))
  ) else (
  chk (0 ≤ x1) <|
  (f50 (((BitVec.ofInt 16 1) <<< ((x1).toNat)) - (BitVec.ofInt 16 1)) x2).bind fun (r4 : BitVec 16 × Int) =>
  (f76a f20_Y70001 x3 (0 : Int) (((BitVec.ofInt 16 1) <<< ((x1).toNat)) - (BitVec.ofInt 16 1)) r4.1 r4.2 []).bind fun (r20 : Nat × Int × Int × BitVec 16 × BitVec 16 × Int × (List (BitVec 16 × BitVec 16))) =>
  chk (r20.1 ≠ 1) <|
  if r20.1 = 0 then (
  some (r20.2.2.2.2.2.2, (0 : Int))
  ) else (
  if r20.1 = 2 then (
  some ([], r20.2.2.1)
  ) else (
  none
  )
  )
  )
set_option maxRecDepth 100000 in
theorem f20_ok  (x1 : Int) (x2 : Int) (x3 : Int) (r : (List (BitVec 16 × BitVec 16)) × Int) (h : f20 x1 x2 x3 = some r)  : Spec1 Tryz.prog 20 [(0, .elem 32 1 T0F 0 0)] [] [] [.int .i64 x1, .int .i64 x2, .int .i64 x3] (.tup [vL 2 eWW (default : BitVec 16 × BitVec 16) r.1, .int .i64 r.2]) [] := by
  unfold f20 at h
  refine Spec1.bodyD [6, 7] 0 _ _ Tryz.func20 rfl Tryz.ntmps20 rfl rfl ?_
  refine q2rq [] [] ⟨61, [(0, .i x1), (1, .i x2), (5, .ptr 5 0), (6, .ptr 6 0), (7, .ptr 7 0), (1000000, .elem 32 1 T0F 0 0)], [(5, .cells 3 [.i x3]), (6, .cells 22 [.nils]), (7, .cells 24 (f20z8))], [], 0⟩ trivial ?_
  refine AWp.seq ?_
  refine AWp.seq ?_
  have ob0 := idA (((decide (x1 < (0 : Int))) == false) = true)
  have ob1 := bqA (decide (x1 < (0 : Int))) false
  have ob2 := idA (((f20z3 x1) == false) = true)
  have ob3 := bqA (f20z3 x1) false
  have ob4 := idA ((((f20z3 x1) || (decide (x2 < (0 : Int)))) == false) = true)
  have ob5 := bqA ((f20z3 x1) || (decide (x2 < (0 : Int)))) false
  have ob6 := idA (((f20z0 x1 x2 x3) == false) = true)
  have ob7 := idA (((f20z0 x1 x2 x3) == false) = true)
  have ob8 := bqA (f20z0 x1 x2 x3) false
  obtain ⟨ob9, h⟩ := chk_some h
  have ob10 := idA ((f20z5 x1 x2 x3) = true)
  have ob11 := idA ((f20z5 x1 x2 x3) = true)
  have ob12 := idA ((f20z5 x1 x2 x3) = true)
  have ob13 := idA ((f20z5 x1 x2 x3) = true)
  have ob14 : true = true → ((f20z0 x1 x2 x3) || (decide (x2 > x1))) = false → (f20z5 x1 x2 x3) = true := fun _ h => beq_iff_eq.2 h
  refine q2rr [] [] ⟨61, [(0, .i x1), (1, .i x2), (5, .ptr 5 0), (6, .ptr 6 0), (7, .ptr 7 0), (37, .bool (((f20z0 x1 x2 x3) || (decide (x2 > x1))) || (decide (x3 > (x1 - x2))))), (1000000, .elem 32 1 T0F 0 0)], [(5, .cells 3 [.i x3]), (6, .cells 22 [.nils]), (7, .cells 24 (f20z8))], [], 0⟩ (ac6 (an1 ob0) ob1 (an1 ob2) ob3 (an1 ob4) ob5 (an5 (an2 ob6 ob7) ob8 (And.intro ob9 (an2 ob10 ob11)) (an2 ob12 ob13) ob14)) ?_
  refine thenQ_normal ?_
  refine AWp.cond (b := (((f20z0 x1 x2 x3) || (decide (x2 > x1))) || (decide (x3 > (x1 - x2))))) (by kernel_rfl) (fun hc1 => ?_) (fun hc1 => ?_)
  ·
    replace h := ite_tb hc1 h
    refine q2rq [] [] ⟨61, [(6, .ptr 6 0), (7, .ptr 7 0), (1000000, .elem 32 1 T0F 0 0)], [(6, .cells 22 [.nils]), (7, .cells 24 [.i (7 : Int)])], [], 0⟩ (an2 trivial trivial) ?_
    have hret := Option.some.inj h
    subst hret
    refine AWp.le (Le.mk (s' := ⟨61, [(6, .ptr 6 0), (7, .ptr 7 0)], [(6, .cells 22 [q2aWW []]), (7, .cells 24 [.i (7 : Int)])], [], 0⟩) rfl rfl ⟨.refl _, .refl _, trivial⟩ ⟨⟨_, rfl, (.cellsL ⟨.nilL, trivial⟩)⟩, ⟨_, rfl, .refl _⟩, trivial⟩) ?_
    refine AWp.ret ?_
    refine thenQ_ret ?_
    exact bodyQ_ret _ rfl ⟨rfl, rfl⟩ rfl
  ·
    replace h := ite_fb hc1 h
    refine AWp.skip ?_
    refine thenQ_normal ?_
    refine AWp.seq ?_
    obtain ⟨ob15, h⟩ := chk_some h
    refine q2rr [] [] ⟨61, [(1, .i x2), (5, .ptr 5 0), (6, .ptr 6 0), (7, .ptr 7 0), (8, .ptr 8 0), (1000000, .elem 32 1 T0F 0 0)], [(5, .cells 3 [.i x3]), (6, .cells 22 [.nils]), (7, .cells 24 (f20z8)), (8, .cells 28 (f20z6 x1))], [], 0⟩ (an3 ob15 trivial trivial) ?_
    refine thenQ_normal ?_
    refine q2rq [] [] ⟨61, [(1, .i x2), (5, .ptr 5 0), (6, .ptr 6 0), (7, .ptr 7 0), (8, .ptr 8 0), (9, .ptr 9 0), (1000000, .elem 32 1 T0F 0 0)], [(5, .cells 3 [.i x3]), (6, .cells 22 [.nils]), (7, .cells 24 (f20z8)), (8, .cells 28 (f20z6 x1)), (9, .cells 22 [.nils])], [], 0⟩ trivial ?_
    refine AWp.seq ?_
    refine AWp.seq ?_
    obtain ⟨r4, hr4, h⟩ := bind_ok h
    refine q2rr [] [(2, ⟨[.b16 (((q2w16 1) <<< ((x1).toNat)) - (q2w16 1)), .i x2], [], [], [(6001, .cells 28 [.b16 r4.1]), (6002, .cells 3 [.i r4.2])], .fn (.func 76) (f20z7), [6001, 6002], [], []⟩)] ⟨61, [(5, .ptr 5 0), (6, .ptr 6 0), (7, .ptr 7 0), (8, .ptr 8 0), (9, .ptr 9 0), (43, .fn (.func 76) (f20z7)), (1000000, .elem 32 1 T0F 0 0)], [(5, .cells 3 [.i x3]), (6, .cells 22 [.nils]), (7, .cells 24 (f20z8)), (8, .cells 28 (f20z6 x1)), (9, .cells 22 [.nils]), (6001, .cells 28 [.b16 r4.1]), (6002, .cells 3 [.i r4.2])], [], 0⟩ (an1 (cpT (Spec1.ren (swapN 3501 6002) (swapN_inv 3501 6002) rfl (Spec1.ren (swapN 3500 6001) (swapN_inv 3500 6001) rfl (f50_ok _ _ _ hr4))))) ?_
    refine thenQ_normal ?_
    refine AWp.block ?_
    refine AWp.le (Le.trans (Le.trans (Le.nilOwnC 9 0 6400 30 2 (encF eWW q2dWW []) rfl rfl rfl) (Le.mk (s' := ⟨61, [(5, .ptr 5 0), (6, .ptr 6 0), (7, .ptr 7 0), (8, .ptr 8 0), (9, .ptr 9 0), (43, .fn (.func 76) (f20z7)), (1000000, .elem 32 1 T0F 0 0)], (f20z1 x3 x1 r4), [], 0⟩) rfl rfl ⟨.refl _, .refl _, .refl _, .refl _, .refl _, .refl _, .refl _, trivial⟩ ⟨⟨_, rfl, .refl _⟩, ⟨_, rfl, .refl _⟩, ⟨_, rfl, .refl _⟩, ⟨_, rfl, .refl _⟩, ⟨_, rfl, .refl _⟩, ⟨_, rfl, .refl _⟩, ⟨_, rfl, .refl _⟩, ⟨_, rfl, .refl _⟩, trivial⟩)) (Le.mk (s' := ⟨61, [(5, .ptr 5 0), (6, .ptr 6 0), (7, .ptr 7 0), (8, .ptr 8 0), (9, .ptr 9 0), (43, .fn (.func 76) (f20z7)), (1000000, .elem 32 1 T0F 0 0)], (f20z1 x3 x1 r4), [], 0⟩) rfl rfl ⟨.refl _, .refl _, .refl _, .refl _, .refl _, .refl _, .refl _, trivial⟩ ⟨⟨_, rfl, .refl _⟩, ⟨_, rfl, .refl _⟩, ⟨_, rfl, .refl _⟩, ⟨_, rfl, .refl _⟩, ⟨_, rfl, .refl _⟩, ⟨_, rfl, .refl _⟩, ⟨_, rfl, .refl _⟩, ⟨_, rfl, .refl _⟩, trivial⟩)) ?_
    obtain ⟨r20, hr20, h⟩ := bind_ok h
    obtain ⟨hkr20, h⟩ := chk_some h
    refine AWp.rangeFunc (s := ⟨61, [(5, .ptr 5 0), (6, .ptr 6 0), (7, .ptr 7 0), (8, .ptr 8 0), (9, .ptr 9 0), (43, .fn (.func 76) (f20z7)), (1000000, .elem 32 1 T0F 0 0)], (f20z1 x3 x1 r4), [], 0⟩) 70001 [5, 6, 7, 8, 9] [5, 6, 7, 8, 9, 1000000] [.ret] 76 (f20z7) ⟨[.own 70001, .ptr 6001 0, .ptr 6002 0], [5, 6, 7, 8, 9, 6001, 6002, 6400], [70001, 5, 6, 7, 8, 9, 6001, 6002], [], .tup [], [6400], [], [0]⟩ r20.1 [(5, .cells 3 [.i r20.2.1]), (6, .cells 22 [.nils]), (7, .cells 24 [.i r20.2.2.1]), (8, .cells 28 [.b16 r20.2.2.2.1]), (9, .cells 22 [.own 6400]), (6001, .cells 28 [.b16 r20.2.2.2.2.1]), (6002, .cells 3 [.i r20.2.2.2.2.2.1]), (6400, q2bWW_30 r20.2.2.2.2.2.2)] ⟨61, [(5, .ptr 5 0), (6, .ptr 6 0), (7, .ptr 7 0), (8, .ptr 8 0), (9, .ptr 9 0), (43, .fn (.func 76) (f20z7)), (1000000, .elem 32 1 T0F 0 0)], [(5, .cells 3 [.i r20.2.1]), (6, .cells 22 [.nils]), (7, .cells 24 [.i r20.2.2.1]), (8, .cells 28 [.b16 r20.2.2.2.1]), (9, .cells 22 [.own 6400]), (6001, .cells 28 [.b16 r20.2.2.2.2.1]), (6002, .cells 3 [.i r20.2.2.2.2.2.1]), (6400, q2bWW_30 r20.2.2.2.2.2.2)], [], 0⟩ rfl (by kernel_rfl) (by kernel_rfl) (fun g0 => ?_) (fun C => (by kernel_rfl)) (by kernel_rfl) (by kernel_rfl) (by kernel_rfl) (by kernel_rfl) hkr20 (by kernel_rfl) ?_ ?_
    ·
      refine ⟨fun _ => (f76a_ok _ f20_Y70001 x3 (0 : Int) (((q2w16 1) <<< ((x1).toNat)) - (q2w16 1)) r4.1 r4.2 [] r20 hr20 ?_), fun _ => ⟨.refl _, .refl _, .refl _, trivial⟩, .inl rfl⟩
      clear h
      rintro ⟨i9, i8, w7, w6, i5, l10⟩ x11 rY70001 h
      replace h := (f20_Y70001.eq_1 ..).symm.trans h
      refine YSpec.body 0 rfl (of_decide_eq_true (by kernel_rfl)) (of_decide_eq_true (by kernel_rfl)) (within_tget (by kernel_rfl)) (by kernel_rfl) (by kernel_rfl) (by kernel_rfl) (by kernel_rfl) ?_
      refine AWp.le (Le.mk (s' := ⟨61, [(44, .b16 x11), (5, .ptr 5 0), (6, .ptr 6 0), (7, .ptr 7 0), (8, .ptr 8 0), (9, .ptr 9 0), (1000000, .elem 32 1 T0F 0 0)], [(5, .cells 3 [.i i9]), (6, .cells 22 [.nils]), (7, .cells 24 [.i i8]), (8, .cells 28 [.b16 w7]), (9, .cells 22 [.own 6400]), (6001, .cells 28 [.b16 w6]), (6002, .cells 3 [.i i5]), (6400, q2bWW_30 l10)], [5, 6, 7, 8, 9, 6001, 6002], 0⟩) rfl rfl ⟨.refl _, .refl _, .refl _, .refl _, .refl _, .refl _, .refl _, trivial⟩ ⟨⟨_, rfl, .refl _⟩, ⟨_, rfl, .refl _⟩, ⟨_, rfl, .refl _⟩, ⟨_, rfl, .refl _⟩, ⟨_, rfl, .refl _⟩, ⟨_, rfl, .refl _⟩, ⟨_, rfl, .refl _⟩, ⟨_, rfl, .refl _⟩, trivial⟩) ?_
      refine q2rr [] [] ⟨61, [(5, .ptr 5 0), (6, .ptr 6 0), (7, .ptr 7 0), (8, .ptr 8 0), (9, .ptr 9 0), (10, .ptr 10 0), (1000000, .elem 32 1 T0F 0 0)], [(5, .cells 3 [.i i9]), (6, .cells 22 [.nils]), (7, .cells 24 [.i i8]), (8, .cells 28 [.b16 w7]), (9, .cells 22 [.own 6400]), (10, .cells 28 [.b16 x11]), (6001, .cells 28 [.b16 w6]), (6002, .cells 3 [.i i5]), (6400, q2bWW_30 l10)], [5, 6, 7, 8, 9, 6001, 6002], 0⟩ (an1 trivial) ?_
      refine ⟨rfl, rfl, ?_⟩
      refine AWp.block ?_
      refine AWp.seq ?_
      obtain ⟨r12, hr12, h⟩ := bind_ok h
      refine q2rr [] [(4, ⟨[.b16 (w7 &&& ~~~x11), .i i9], [], [], [(6003, .cells 28 [.b16 r12.1]), (6004, .cells 3 [.i r12.2])], .fn (.func 76) (f20z9), [6003, 6004], [], []⟩)] ⟨61, [(6, .ptr 6 0), (7, .ptr 7 0), (9, .ptr 9 0), (10, .ptr 10 0), (49, .fn (.func 76) (f20z9)), (1000000, .elem 32 1 T0F 0 0)], (f20z2 i9 i8 w7 x11 w6 i5 r12 l10), [5, 6, 7, 8, 9, 6001, 6002], 0⟩ (an1 (cpT (Spec1.ren (swapN 3501 6004) (swapN_inv 3501 6004) rfl (Spec1.ren (swapN 3500 6003) (swapN_inv 3500 6003) rfl (f50_ok _ _ _ hr12))))) ?_
      refine thenQ_normal ?_
      refine AWp.block ?_
      refine AWp.le (Le.mk (s' := ⟨61, [(6, .ptr 6 0), (7, .ptr 7 0), (9, .ptr 9 0), (10, .ptr 10 0), (49, .fn (.func 76) (f20z9)), (1000000, .elem 32 1 T0F 0 0)], (f20z2 i9 i8 w7 x11 w6 i5 r12 l10), [5, 6, 7, 8, 9, 6001, 6002], 0⟩) rfl rfl ⟨.refl _, .refl _, .refl _, .refl _, .refl _, .refl _, trivial⟩ ⟨⟨_, rfl, .refl _⟩, ⟨_, rfl, .refl _⟩, ⟨_, rfl, .refl _⟩, ⟨_, rfl, .refl _⟩, ⟨_, rfl, .refl _⟩, ⟨_, rfl, .refl _⟩, ⟨_, rfl, .refl _⟩, ⟨_, rfl, .refl _⟩, ⟨_, rfl, .refl _⟩, ⟨_, rfl, .refl _⟩, ⟨_, rfl, .refl _⟩, trivial⟩) ?_
      obtain ⟨r19, hr19, h⟩ := bind_ok h
      obtain ⟨hkr19, h⟩ := chk_some h
      refine AWp.rangeFunc (s := ⟨61, [(6, .ptr 6 0), (7, .ptr 7 0), (9, .ptr 9 0), (10, .ptr 10 0), (49, .fn (.func 76) (f20z9)), (1000000, .elem 32 1 T0F 0 0)], (f20z2 i9 i8 w7 x11 w6 i5 r12 l10), [5, 6, 7, 8, 9, 6001, 6002], 0⟩) 70002 [6, 7, 9, 10] [6, 7, 9, 10, 1000000] [.ret] 76 (f20z9) ⟨[.own 70002, .ptr 6003 0, .ptr 6004 0], [6, 7, 9, 10, 6003, 6004, 6400], [70002, 6, 7, 9, 10, 6003, 6004], [], .tup [], [6400], [], [0]⟩ r19.1 [(6, .cells 22 [.nils]), (7, .cells 24 [.i r19.2.1]), (9, .cells 22 [.own 6400]), (10, .cells 28 [.b16 r19.2.2.1]), (6003, .cells 28 [.b16 r19.2.2.2.1]), (6004, .cells 3 [.i r19.2.2.2.2.1]), (6400, q2bWW_30 r19.2.2.2.2.2)] ⟨61, [(6, .ptr 6 0), (7, .ptr 7 0), (9, .ptr 9 0), (10, .ptr 10 0), (49, .fn (.func 76) (f20z9)), (1000000, .elem 32 1 T0F 0 0)], [(6, .cells 22 [.nils]), (7, .cells 24 [.i r19.2.1]), (9, .cells 22 [.own 6400]), (10, .cells 28 [.b16 r19.2.2.1]), (6003, .cells 28 [.b16 r19.2.2.2.1]), (6004, .cells 3 [.i r19.2.2.2.2.1]), (6400, q2bWW_30 r19.2.2.2.2.2), (5, .cells 3 [.i i9]), (8, .cells 28 [.b16 w7]), (6001, .cells 28 [.b16 w6]), (6002, .cells 3 [.i i5])], [5, 6, 7, 8, 9, 6001, 6002], 0⟩ rfl (by kernel_rfl) (by kernel_rfl) (fun g0 => ?_) (fun C => (by kernel_rfl)) (by kernel_rfl) (by kernel_rfl) (by kernel_rfl) (by kernel_rfl) hkr19 (by kernel_rfl) ?_ ?_
      ·
        refine ⟨fun _ => (f76_ok _ f20_Y70002 i8 x11 r12.1 r12.2 l10 r19 hr19 ?_), fun _ => ⟨.refl _, .refl _, .refl _, trivial⟩, .inl rfl⟩
        clear h
        rintro ⟨i16, w15, w14, i13, l17⟩ x18 rY70002 h
        replace h := (f20_Y70002.eq_1 ..).symm.trans h
        refine YSpec.body 0 rfl (of_decide_eq_true (by kernel_rfl)) (of_decide_eq_true (by kernel_rfl)) (within_tget (by kernel_rfl)) (by kernel_rfl) (by kernel_rfl) (by kernel_rfl) (by kernel_rfl) ?_
        refine AWp.le (Le.mk (s' := ⟨61, [(50, .b16 x18), (6, .ptr 6 0), (7, .ptr 7 0), (9, .ptr 9 0), (10, .ptr 10 0), (1000000, .elem 32 1 T0F 0 0)], [(6, .cells 22 [.nils]), (7, .cells 24 [.i i16]), (9, .cells 22 [.own 6400]), (10, .cells 28 [.b16 w15]), (6003, .cells 28 [.b16 w14]), (6004, .cells 3 [.i i13]), (6400, q2bWW_30 l17)], [6, 7, 9, 10, 6003, 6004], 0⟩) rfl rfl ⟨.refl _, .refl _, .refl _, .refl _, .refl _, .refl _, trivial⟩ ⟨⟨_, rfl, .refl _⟩, ⟨_, rfl, .refl _⟩, ⟨_, rfl, .refl _⟩, ⟨_, rfl, .refl _⟩, ⟨_, rfl, .refl _⟩, ⟨_, rfl, .refl _⟩, ⟨_, rfl, .refl _⟩, trivial⟩) ?_
        refine q2rr [] [] ⟨61, [(6, .ptr 6 0), (7, .ptr 7 0), (9, .ptr 9 0), (10, .ptr 10 0), (11, .b16 x18), (1000000, .elem 32 1 T0F 0 0)], [(6, .cells 22 [.nils]), (7, .cells 24 [.i i16]), (9, .cells 22 [.own 6400]), (10, .cells 28 [.b16 w15]), (6003, .cells 28 [.b16 w14]), (6004, .cells 3 [.i i13]), (6400, q2bWW_30 l17)], [6, 7, 9, 10, 6003, 6004], 0⟩ trivial ?_
        refine ⟨rfl, rfl, ?_⟩
        refine AWp.block ?_
        refine AWp.seq ?_
        obtain ⟨ob16, h⟩ := chk_some h
        refine q2rr [] [] ⟨61, [(6, .ptr 6 0), (7, .ptr 7 0), (9, .ptr 9 0), (1000000, .elem 32 1 T0F 0 0)], [(6, .cells 22 [.nils]), (7, .cells 24 [.i i16]), (9, .cells 22 [.own 6400]), (10, .cells 28 [.b16 w15]), (6003, .cells 28 [.b16 w14]), (6004, .cells 3 [.i i13]), (6400, .rows 30 2 ((l17).length + 1) (appF (l17).length (encF eWW q2dWW l17) (lstF 2 [.b16 w15, .b16 x18])))], [6, 7, 9, 10, 6003, 6004], 0⟩ (an2 ob16 trivial) ?_
        refine thenQ_normal ?_
        refine AWp.le (Le.mk (s' := ⟨61, [(6, .ptr 6 0), (7, .ptr 7 0), (9, .ptr 9 0), (1000000, .elem 32 1 T0F 0 0)], (f20z4 i16 w15 w14 i13 l17 x18), [6, 7, 9, 10, 6003, 6004], 0⟩) rfl rfl ⟨.refl _, .refl _, .refl _, .refl _, trivial⟩ ⟨⟨_, rfl, .refl _⟩, ⟨_, rfl, .refl _⟩, ⟨_, rfl, .refl _⟩, ⟨_, rfl, .refl _⟩, ⟨_, rfl, .refl _⟩, ⟨_, rfl, .refl _⟩, ⟨_, rfl, (BLe.of (RL.app (RL.self _) (RL.lst (enc := eWW) [(w15, x18)] rfl rfl (fun _ => rfl))))⟩, trivial⟩) ?_
        refine q2rq [] [] ⟨61, [(6, .ptr 6 0), (7, .ptr 7 0), (59, .bool (decide (((((l17 ++ [(w15, x18)])).length : Nat) : Int) > (100 : Int)))), (1000000, .elem 32 1 T0F 0 0)], (f20z4 i16 w15 w14 i13 l17 x18), [6, 7, 9, 10, 6003, 6004], 0⟩ trivial ?_
        refine AWp.cond (b := (decide (((((l17 ++ [(w15, x18)])).length : Nat) : Int) > (100 : Int)))) (by kernel_rfl) (fun hc2 => ?_) (fun hc2 => ?_)
        ·
          replace h := ite_tb hc2 h
          refine q2rq [] [] ⟨61, [(1000000, .elem 32 1 T0F 0 0)], [(6, .cells 22 [.nils]), (7, .cells 24 [.i (3 : Int)]), (9, .cells 22 [.own 6400]), (10, .cells 28 [.b16 w15]), (6003, .cells 28 [.b16 w14]), (6004, .cells 3 [.i i13]), (6400, q2bWW_30 (l17 ++ [(w15, x18)]))], [6, 7, 9, 10, 6003, 6004], 0⟩ (an2 trivial trivial) ?_
          refine AWp.ret ?_
          refine blockQ_ret ?_
          have hret := Option.some.inj h
          subst hret
          exact ⟨_, (Le.mk (s' := ⟨61, [], [(6, .cells 22 [.nils]), (7, .cells 24 [.i (3 : Int)]), (9, .cells 22 [.own 6400]), (10, .cells 28 [.b16 w15]), (6003, .cells 28 [.b16 w14]), (6004, .cells 3 [.i i13]), (6400, q2bWW_30 (l17 ++ [(w15, x18)]))], [6, 7, 9, 10, 6003, 6004], 0⟩) rfl rfl trivial ⟨⟨_, rfl, .refl _⟩, ⟨_, rfl, .refl _⟩, ⟨_, rfl, .refl _⟩, ⟨_, rfl, .refl _⟩, ⟨_, rfl, .refl _⟩, ⟨_, rfl, .refl _⟩, ⟨_, rfl, .refl _⟩, trivial⟩), rfl, rfl, .inr ⟨0, _, rfl, rfl, .inl ⟨rfl, rfl⟩⟩⟩
        ·
          replace h := ite_fb hc2 h
          refine AWp.skip ?_
          refine blockQ_normal ?_
          have hret := Option.some.inj h
          subst hret
          exact ⟨_, (Le.mk (s' := ⟨61, [], (f20z4 i16 w15 w14 i13 l17 x18), [6, 7, 9, 10, 6003, 6004], 0⟩) rfl rfl trivial ⟨⟨_, rfl, .refl _⟩, ⟨_, rfl, .refl _⟩, ⟨_, rfl, .refl _⟩, ⟨_, rfl, .refl _⟩, ⟨_, rfl, .refl _⟩, ⟨_, rfl, .refl _⟩, ⟨_, rfl, .refl _⟩, trivial⟩), rfl, rfl, .inl ⟨rfl, rfl⟩⟩
      ·
        intro hk0
        replace h := ite_t hk0 h
        refine blockQ_normal ?_
        refine blockQ_normal ?_
        have hret := Option.some.inj h
        subst hret
        exact ⟨_, (Le.mk (s' := ⟨61, [], [(5, .cells 3 [.i i9]), (6, .cells 22 [.nils]), (7, .cells 24 [.i r19.2.1]), (8, .cells 28 [.b16 w7]), (9, .cells 22 [.own 6400]), (6001, .cells 28 [.b16 w6]), (6002, .cells 3 [.i i5]), (6400, q2bWW_30 r19.2.2.2.2.2)], [5, 6, 7, 8, 9, 6001, 6002], 0⟩) rfl rfl trivial ⟨⟨_, rfl, .refl _⟩, ⟨_, rfl, .refl _⟩, ⟨_, rfl, .refl _⟩, ⟨_, rfl, .refl _⟩, ⟨_, rfl, .refl _⟩, ⟨_, rfl, .refl _⟩, ⟨_, rfl, .refl _⟩, ⟨_, rfl, .refl _⟩, trivial⟩), rfl, rfl, .inl ⟨rfl, rfl⟩⟩
      ·
        intro j hkj
        replace h := ite_f (by omega) h
        cases j with
        | zero =>
          replace h := ite_t (by omega) h
          refine ⟨_, rfl, ?_⟩
          refine AWp.ret ?_
          refine blockQ_ret ?_
          refine blockQ_ret ?_
          have hret := Option.some.inj h
          subst hret
          exact ⟨_, (Le.mk (s' := ⟨61, [], [(5, .cells 3 [.i i9]), (6, .cells 22 [.nils]), (7, .cells 24 [.i r19.2.1]), (8, .cells 28 [.b16 w7]), (9, .cells 22 [.own 6400]), (6001, .cells 28 [.b16 w6]), (6002, .cells 3 [.i i5]), (6400, q2bWW_30 r19.2.2.2.2.2)], [5, 6, 7, 8, 9, 6001, 6002], 0⟩) rfl rfl trivial ⟨⟨_, rfl, .refl _⟩, ⟨_, rfl, .refl _⟩, ⟨_, rfl, .refl _⟩, ⟨_, rfl, .refl _⟩, ⟨_, rfl, .refl _⟩, ⟨_, rfl, .refl _⟩, ⟨_, rfl, .refl _⟩, ⟨_, rfl, .refl _⟩, trivial⟩), rfl, rfl, .inr ⟨0, _, rfl, rfl, .inl ⟨rfl, rfl⟩⟩⟩
        | succ j =>
        replace h := ite_f (by omega) h
        exact nomatch (show (none : Option (Nat × (Int × Int × BitVec 16 × BitVec 16 × Int × (List (BitVec 16 × BitVec 16))))) = some rY70001 from h)
    ·
      intro hk0
      replace h := ite_t hk0 h
      refine blockQ_normal ?_
      refine thenQ_normal ?_
      refine q2rq [] [] ⟨61, [(6, .ptr 6 0), (7, .ptr 7 0), (1000000, .elem 32 1 T0F 0 0)], [(6, .cells 22 [.own 6400]), (7, .cells 24 (f20z8)), (6400, q2bWW_30 r20.2.2.2.2.2.2)], [], 0⟩ (an2 trivial trivial) ?_
      refine AWp.le (Le.trans (Le.freeze 6400 rfl rfl) (Le.mk (s' := ⟨61, [(6, .ptr 6 0), (7, .ptr 7 0), (1000000, .elem 32 1 T0F 0 0)], [(6, .cells 22 [q2aWW r20.2.2.2.2.2.2]), (7, .cells 24 (f20z8))], [], 0⟩) rfl rfl ⟨.refl _, .refl _, .refl _, trivial⟩ ⟨⟨_, rfl, .refl _⟩, ⟨_, rfl, .refl _⟩, trivial⟩)) ?_
      have hret := Option.some.inj h
      subst hret
      refine AWp.le (Le.mk (s' := ⟨61, [(6, .ptr 6 0), (7, .ptr 7 0)], [(6, .cells 22 [q2aWW r20.2.2.2.2.2.2]), (7, .cells 24 (f20z8))], [], 0⟩) rfl rfl ⟨.refl _, .refl _, trivial⟩ ⟨⟨_, rfl, .refl _⟩, ⟨_, rfl, .refl _⟩, trivial⟩) ?_
      refine AWp.ret ?_
      exact bodyQ_ret _ rfl ⟨rfl, rfl⟩ rfl
    ·
      intro j hkj
      replace h := ite_f (by omega) h
      cases j with
      | zero =>
        replace h := ite_t (by omega) h
        refine ⟨_, rfl, ?_⟩
        have hret := Option.some.inj h
        subst hret
        refine AWp.le (Le.mk (s' := ⟨61, [(6, .ptr 6 0), (7, .ptr 7 0)], [(6, .cells 22 [q2aWW []]), (7, .cells 24 [.i r20.2.2.1])], [], 0⟩) rfl rfl ⟨.refl _, .refl _, trivial⟩ ⟨⟨_, rfl, (.cellsL ⟨.nilL, trivial⟩)⟩, ⟨_, rfl, .refl _⟩, trivial⟩) ?_
        refine AWp.ret ?_
        refine blockQ_ret ?_
        refine thenQ_ret ?_
        exact bodyQ_ret _ rfl ⟨rfl, rfl⟩ rfl
      | succ j =>
      replace h := ite_f (by omega) h
      exact nomatch (show (none : Option ((List (BitVec 16 × BitVec 16)) × Int)) = some r from h)
def f46 (x1 : BitVec 16) (x2 : BitVec 16) : Option (BitVec 16) :=
  some (x1 ||| x2)
set_option maxRecDepth 100000 in
theorem f46_ok  (x1 : BitVec 16) (x2 : BitVec 16) (r : BitVec 16) (h : f46 x1 x2 = some r)  : Spec1 Tryz.prog 46 [] [] [] [.agg [.b16 x1, .b16 x2]] (.b16 r) [] := by
  unfold f46 at h
  refine Spec1.body 0 _ _ Tryz.func46 rfl Tryz.ntmps46 rfl rfl ?_
  refine q2rq [] [] ⟨8, [(1, .ptr 1 0)], [(1, .cells 30 [.b16 x1, .b16 x2])], [], 0⟩ trivial ?_
  refine q2rq [] [] ⟨8, [(2, .b16 (x1 ||| x2))], [], [], 0⟩ trivial ?_
  have hret := Option.some.inj h
  subst hret
  refine AWp.le (Le.mk (s' := ⟨8, [(2, .b16 (x1 ||| x2))], [], [], 0⟩) rfl rfl ⟨.refl _, trivial⟩ trivial) ?_
  refine AWp.ret ?_
  exact bodyQ_ret _ rfl ⟨rfl, rfl⟩ rfl
def f42 (x1 : BitVec 16) (x2 : BitVec 16) : Option Int :=
  (f46 x1 x2).bind fun (r3 : BitVec 16) =>
  if (!((r3 &&& ~~~(BitVec.ofInt 16 4095)) == (BitVec.ofInt 16 0))) then (
  some (7 : Int)
  ) else (
  if (!((x1 &&& x2) == (BitVec.ofInt 16 0))) then (
  some (1 : Int)
  ) else (
  some (0 : Int)
  )
  )
set_option maxRecDepth 100000 in
theorem f42_ok  (x1 : BitVec 16) (x2 : BitVec 16) (r : Int) (h : f42 x1 x2 = some r)  : Spec1 Tryz.prog 42 [] [] [] [.agg [.b16 x1, .b16 x2]] (.int .i64 r) [] := by
  unfold f42 at h
  refine Spec1.body 0 _ _ Tryz.func42 rfl Tryz.ntmps42 rfl rfl ?_
  refine q2rq [] [] ⟨13, [(1, .ptr 1 0)], [(1, .cells 30 [.b16 x1, .b16 x2])], [], 0⟩ trivial ?_
  refine AWp.seq ?_
  refine AWp.seq ?_
  obtain ⟨r3, hr3, h⟩ := bind_ok h
  refine q2rr [] [(1, ⟨[.agg [.b16 x1, .b16 x2]], [], [], [], .b16 r3, [], [], []⟩)] ⟨13, [(1, .ptr 1 0), (6, .bool (!((r3 &&& ~~~(q2w16 4095)) == (q2w16 0))))], [(1, .cells 30 [.b16 x1, .b16 x2])], [], 0⟩ (an1 (cpT (f46_ok _ _ _ hr3))) ?_
  refine thenQ_normal ?_
  refine AWp.cond (b := (!((r3 &&& ~~~(q2w16 4095)) == (q2w16 0)))) (by kernel_rfl) (fun hc1 => ?_) (fun hc1 => ?_)
  ·
    replace h := ite_tb hc1 h
    refine q2rq [] [] ⟨13, [(2, .i (7 : Int))], [], [], 0⟩ trivial ?_
    have hret := Option.some.inj h
    subst hret
    refine AWp.le (Le.mk (s' := ⟨13, [(2, .i (7 : Int))], [], [], 0⟩) rfl rfl ⟨.refl _, trivial⟩ trivial) ?_
    refine AWp.ret ?_
    refine thenQ_ret ?_
    exact bodyQ_ret _ rfl ⟨rfl, rfl⟩ rfl
  ·
    replace h := ite_fb hc1 h
    refine AWp.skip ?_
    refine thenQ_normal ?_
    refine AWp.seq ?_
    refine q2rq [] [] ⟨13, [(12, .bool (!((x1 &&& x2) == (q2w16 0))))], [], [], 0⟩ trivial ?_
    refine AWp.cond (b := (!((x1 &&& x2) == (q2w16 0)))) (by kernel_rfl) (fun hc2 => ?_) (fun hc2 => ?_)
    ·
      replace h := ite_tb hc2 h
      refine q2rq [] [] ⟨13, [(2, .i (1 : Int))], [], [], 0⟩ trivial ?_
      have hret := Option.some.inj h
      subst hret
      refine AWp.le (Le.mk (s' := ⟨13, [(2, .i (1 : Int))], [], [], 0⟩) rfl rfl ⟨.refl _, trivial⟩ trivial) ?_
      refine AWp.ret ?_
      refine thenQ_ret ?_
      exact bodyQ_ret _ rfl ⟨rfl, rfl⟩ rfl
    ·
      replace h := ite_fb hc2 h
      refine AWp.skip ?_
      refine thenQ_normal ?_
      refine q2rq [] [] ⟨13, [(2, .i (0 : Int))], [], [], 0⟩ trivial ?_
      have hret := Option.some.inj h
      subst hret
      refine AWp.le (Le.mk (s' := ⟨13, [(2, .i (0 : Int))], [], [], 0⟩) rfl rfl ⟨.refl _, trivial⟩ trivial) ?_
      refine AWp.ret ?_
      exact bodyQ_ret _ rfl ⟨rfl, rfl⟩ rfl
abbrev f16z0 (x3 : BitVec 16) (x1 : BitVec 16) := (((x3 &&& ~~~x1) == (BitVec.ofInt 16 0)) == true)
def f16 (x1 : BitVec 16) (x2 : BitVec 16) (x3 : BitVec 16) (x4 : BitVec 16) : Option Bool :=
  optc (((x3 &&& ~~~x1) == (BitVec.ofInt 16 0)) == true) (f46 x3 x4) fun (r5 : BitVec 16) =>
  optc (((x3 &&& ~~~x1) == (BitVec.ofInt 16 0)) == true) (f46 x1 x2) fun (r6 : BitVec 16) =>
  some (((x3 &&& ~~~x1) == (BitVec.ofInt 16 0)) && ((r5 &&& ~~~r6) == (BitVec.ofInt 16 0)))
set_option maxRecDepth 100000 in
theorem f16_ok  (x1 : BitVec 16) (x2 : BitVec 16) (x3 : BitVec 16) (x4 : BitVec 16) (r : Bool) (h : f16 x1 x2 x3 x4 = some r)  : Spec1 Tryz.prog 16 [] [] [] [.agg [.b16 x1, .b16 x2], .agg [.b16 x3, .b16 x4]] (.bool r) [] := by
  unfold f16 at h
  refine Spec1.body 0 _ _ Tryz.func16 rfl Tryz.ntmps16 rfl rfl ?_
  refine q2rq [] [] ⟨19, [(2, .ptr 2 0), (3, .ptr 3 0)], [(2, .cells 30 [.b16 x1, .b16 x2]), (3, .cells 30 [.b16 x3, .b16 x4])], [], 0⟩ trivial ?_
  refine AWp.seq ?_
  obtain ⟨r5, hr5, h⟩ := optc_some h
  obtain ⟨r6, hr6, h⟩ := optc_some h
  have ob0 := idA ((f16z0 x3 x1) = true)
  have ob1 := idA ((f16z0 x3 x1) = true)
  have ob2 := idA ((f16z0 x3 x1) = true)
  have ob3 := idA ((f16z0 x3 x1) = true)
  have ob4 := idA ((f16z0 x3 x1) = true)
  have ob5 : true = true → ((x3 &&& ~~~x1) == (q2w16 0)) = true → (f16z0 x3 x1) = true := fun _ h => beq_iff_eq.2 h
  refine q2rr [] [(8, ⟨[.agg [.b16 x3, .b16 x4]], [], [], [], .b16 r5, [], [], []⟩), (10, ⟨[.agg [.b16 x1, .b16 x2]], [], [], [], .b16 r6, [], [], []⟩)] ⟨19, [(4, .bool (((x3 &&& ~~~x1) == (q2w16 0)) && ((r5 &&& ~~~r6) == (q2w16 0))))], [], [], 0⟩ (an5 (And.intro (cpC fun hc => (f46_ok _ _ _ (hr5 hc))) (an1 ob0)) (And.intro (cpC fun hc => (f46_ok _ _ _ (hr6 hc))) (an1 ob1)) (an2 ob2 ob3) (an1 ob4) ob5) ?_
  refine thenQ_normal ?_
  have hret := Option.some.inj h
  subst hret
  refine AWp.le (Le.mk (s' := ⟨19, [(4, .bool (((x3 &&& ~~~x1) == (q2w16 0)) && ((r5 &&& ~~~r6) == (q2w16 0))))], [], [], 0⟩) rfl rfl ⟨.refl _, trivial⟩ trivial) ?_
  refine AWp.ret ?_
  exact bodyQ_ret _ rfl ⟨rfl, rfl⟩ rfl
def f13_L1 (x1 : List (BitVec 16 × BitVec 16)) (n2 : Nat) (K2 : Unit → Option Int) : Nat → Nat → Option Int
  | 0, _ => none
  | k + 1, n4 =>
    if (decide ((n4 : Int) < (n2 : Int))) then (
    chk ((n4 : Int) < ((((x1.take n2)).length : Nat) : Int)) <|
    (f16 ((x1.getD n2 (default : BitVec 16 × BitVec 16)).1) ((x1.getD n2 (default : BitVec 16 × BitVec 16)).2) (((x1.take n2).getD n4 (default : BitVec 16 × BitVec 16)).1) (((x1.take n2).getD n4 (default : BitVec 16 × BitVec 16)).2)).bind fun (r5 : Bool) =>
    optc (r5 == false) (f16 (((x1.take n2).getD n4 (default : BitVec 16 × BitVec 16)).1) (((x1.take n2).getD n4 (default : BitVec 16 × BitVec 16)).2) ((x1.getD n2 (default : BitVec 16 × BitVec 16)).1) ((x1.getD n2 (default : BitVec 16 × BitVec 16)).2)) fun (r6 : Bool) =>
    if (r5 || r6) then (
    some (5 : Int)
    ) else (
    chk (((n4 : Int) + (1 : Int)) ≤ 9223372036854775807) <|
    (f13_L1 x1 n2 K2 k) (n4 + 1)
    )
    ) else (
    K2 ()
    )
def f13_L0 (x1 : List (BitVec 16 × BitVec 16)) (K1 : Unit → Option Int) : Nat → Nat → Option Int
  | 0, _ => none
  | k + 1, n2 =>
    if (decide ((n2 : Int) < (((x1).length : Nat) : Int))) then (
    chk ((n2 : Int) < (((x1).length : Nat) : Int)) <|
    (f42 ((x1.getD n2 (default : BitVec 16 × BitVec 16)).1) ((x1.getD n2 (default : BitVec 16 × BitVec 16)).2)).bind fun (r3 : Int) =>
    if (r3 != (0 : Int)) then (
    some r3
    ) else (
    jn (fun (_ : Unit) =>
    optc ((decide ((n2 : Int) > (0 : Int))) == true) (f43 ((x1.getD ((((n2 : Int) - (1 : Int))).toNat) (default : BitVec 16 × BitVec 16)).1) ((x1.getD ((((n2 : Int) - (1 : Int))).toNat) (default : BitVec 16 × BitVec 16)).2) ((x1.getD n2 (default : BitVec 16 × BitVec 16)).1) ((x1.getD n2 (default : BitVec 16 × BitVec 16)).2)) fun (r7 : Int) =>
    chk (((decide ((n2 : Int) > (0 : Int))) == true) = true → -9223372036854775808 ≤ ((n2 : Int) - (1 : Int)) ∧ ((n2 : Int) - (1 : Int)) ≤ 9223372036854775807) <|
    chk (((decide ((n2 : Int) > (0 : Int))) == true) = true → 0 ≤ ((n2 : Int) - (1 : Int)) ∧ ((n2 : Int) - (1 : Int)) < (((x1).length : Nat) : Int)) <|
    if ((decide ((n2 : Int) > (0 : Int))) && (decide (r7 ≥ (0 : Int)))) then (
    some (1 : Int)
    ) else (
    chk (((n2 : Int) + (1 : Int)) ≤ 9223372036854775807) <|
    (f13_L0 x1 K1 k) (n2 + 1)
    )
    ) fun (K2 : Unit → Option Int) =>
    chk ((n2 : Int) ≤ (((x1).length : Nat) : Int)) <|
    f13_L1 x1 n2 K2 FUEL 0
    )
    ) else (
    K1 ()
    )
abbrev f13z0 (x1 : List (BitVec 16 × BitVec 16)) (n2 : Nat) : List V := [.b16 (x1.getD n2 (default : BitVec 16 × BitVec 16)).1, .b16 (x1.getD n2 (default : BitVec 16 × BitVec 16)).2]
abbrev f13z1 (n2 : Nat) := ((decide ((n2 : Int) > (0 : Int))) == true)
abbrev f13z2 (x1 : List (BitVec 16 × BitVec 16)) (n2 : Nat) : List (Nat × V) := [(0, vL 2 eWW (default : BitVec 16 × BitVec 16) x1), (3, .int .i64 (n2 : Int)), (4, .ptr 4 0), (14, vL 2 eWW (default : BitVec 16 × BitVec 16) x1), (15, .int .i64 (((x1).length : Nat) : Int)), (16, .int .i64 (n2 : Int))]
abbrev f13z3 (x1 : List (BitVec 16 × BitVec 16)) (n2 : Nat) (n4 : Nat) : List V := [.b16 ((x1.take n2).getD n4 (default : BitVec 16 × BitVec 16)).1, .b16 ((x1.take n2).getD n4 (default : BitVec 16 × BitVec 16)).2]
abbrev f13z4 (x1 : List (BitVec 16 × BitVec 16)) (n2 : Nat) : Heap := [(4, .cells 30 (f13z0 x1 n2))]
def f13 (x1 : List (BitVec 16 × BitVec 16)) : Option Int :=
  if ((((x1).length : Nat) : Int) == (0 : Int)) then (
  some (9 : Int)
  ) else (
  if (decide ((((x1).length : Nat) : Int) > (100 : Int))) then (
  some (3 : Int)
  ) else (
  jn (fun (_ : Unit) =>
  some (0 : Int)
  ) fun (K1 : Unit → Option Int) =>
  f13_L0 x1 K1 FUEL 0
  )
  )
set_option maxRecDepth 100000 in
theorem f13_ok  (x1 : List (BitVec 16 × BitVec 16)) (r : Int) (h : f13 x1 = some r)  : Spec1 Tryz.prog 13 [] [] [] [vL 2 eWW (default : BitVec 16 × BitVec 16) x1] (.int .i64 r) [] := by
  unfold f13 at h
  refine Spec1.body 0 _ _ Tryz.func13 rfl Tryz.ntmps13 rfl rfl ?_
  refine q2rq [] [] ⟨56, [(0, q2aWW x1)], [], [], 0⟩ trivial ?_
  refine AWp.seq ?_
  refine q2rq [] [] ⟨56, [(0, q2aWW x1), (10, .bool ((lZ x1) == (0 : Int)))], [], [], 0⟩ trivial ?_
  refine AWp.cond (b := ((lZ x1) == (0 : Int))) (by kernel_rfl) (fun hc1 => ?_) (fun hc1 => ?_)
  ·
    replace h := ite_tb hc1 h
    refine q2rq [] [] ⟨56, [(2, .i (9 : Int))], [], [], 0⟩ trivial ?_
    have hret := Option.some.inj h
    subst hret
    refine AWp.le (Le.mk (s' := ⟨56, [(2, .i (9 : Int))], [], [], 0⟩) rfl rfl ⟨.refl _, trivial⟩ trivial) ?_
    refine AWp.ret ?_
    refine thenQ_ret ?_
    exact bodyQ_ret _ rfl ⟨rfl, rfl⟩ rfl
  ·
    replace h := ite_fb hc1 h
    refine AWp.skip ?_
    refine thenQ_normal ?_
    refine AWp.seq ?_
    refine q2rq [] [] ⟨56, [(0, q2aWW x1), (13, .bool (decide ((lZ x1) > (100 : Int))))], [], [], 0⟩ trivial ?_
    refine AWp.cond (b := (decide ((lZ x1) > (100 : Int)))) (by kernel_rfl) (fun hc2 => ?_) (fun hc2 => ?_)
    ·
      replace h := ite_tb hc2 h
      refine q2rq [] [] ⟨56, [(2, .i (3 : Int))], [], [], 0⟩ trivial ?_
      have hret := Option.some.inj h
      subst hret
      refine AWp.le (Le.mk (s' := ⟨56, [(2, .i (3 : Int))], [], [], 0⟩) rfl rfl ⟨.refl _, trivial⟩ trivial) ?_
      refine AWp.ret ?_
      refine thenQ_ret ?_
      exact bodyQ_ret _ rfl ⟨rfl, rfl⟩ rfl
    ·
      replace h := ite_fb hc2 h
      refine AWp.skip ?_
      refine thenQ_normal ?_
      obtain ⟨K1, hK1, h⟩ := jn_some h
      refine AWp.join (α := Unit) (fun (x : Unit) => match x with | () => ⟨56, [], [], [], 0⟩) (fun x => K1 x = some r) ?_ ?_
      ·
        refine q2rq [] [] ⟨56, [(0, q2aWW x1), (14, q2aWW x1), (15, .i (lZ x1)), (16, .i (0 : Int))], [], [], 0⟩ trivial ?_
        refine AWp.block ?_
        refine AWp.loopL (α := Nat × Nat) (fun x => match x with | (_, n2) => ⟨56, [(0, q2aWW x1), (14, q2aWW x1), (15, .i (lZ x1)), (16, .i (n2 : Int))], [], [], 0⟩) (fun x => f13_L0 x1 K1 x.1 x.2 = some r) (fun x => x.1) (FUEL, 0) (Le.mk (s' := ⟨56, [(0, q2aWW x1), (14, q2aWW x1), (15, .i (lZ x1)), (16, .i (0 : Int))], [], [], 0⟩) rfl rfl ⟨.refl _, .refl _, .refl _, .refl _, trivial⟩ trivial) h ?_
        rintro ⟨k0, n2⟩ h
        cases k0 with
        | zero => exact nomatch (show (none : Option Int) = some r from h)
        | succ k0 =>
        obtain ⟨C0, hC0⟩ : ∃ C, C = f13_L0 x1 K1 k0 := ⟨_, rfl⟩
        replace h := (f13_L0.eq_2 ..).symm.trans h
        try rw [← hC0] at h
        refine q2rq [] [] ⟨56, [(0, q2aWW x1), (14, q2aWW x1), (15, .i (lZ x1)), (16, .i (n2 : Int)), (17, .bool (decide ((n2 : Int) < (lZ x1))))], [], [], 0⟩ trivial ?_
        refine AWp.seq ?_
        refine AWp.cond (b := (decide ((n2 : Int) < (lZ x1)))) (by kernel_rfl) (fun hc3 => ?_) (fun hc3 => ?_)
        ·
          replace h := ite_tb hc3 h
          refine AWp.skip ?_
          refine thenQ_normal ?_
          refine AWp.seq ?_
          refine AWp.block ?_
          refine AWp.seq ?_
          obtain ⟨ob0p, h⟩ := chk_some h
          have ob0 : 0 ≤ (n2 : Int) ∧ (n2 : Int) < (((x1).length : Nat) : Int) := ⟨by omega, ob0p⟩
          refine q2rr [] [] ⟨56, (f13z2 x1 n2), (f13z4 x1 n2), [], 0⟩ (an2 ob0 trivial) ?_
          refine thenQ_normal ?_
          refine AWp.seq ?_
          refine AWp.seq ?_
          obtain ⟨r3, hr3, h⟩ := bind_ok h
          refine q2rr [] [(1, ⟨[.agg (f13z0 x1 n2)], [], [], [], .i r3, [], [], []⟩)] ⟨56, [(0, q2aWW x1), (3, .i (n2 : Int)), (4, .ptr 4 0), (5, .i r3), (14, q2aWW x1), (15, .i (lZ x1)), (16, .i (n2 : Int))], (f13z4 x1 n2), [], 0⟩ (an1 (cpT (f42_ok _ _ _ hr3))) ?_
          refine thenQ_normal ?_
          refine q2rq [] [] ⟨56, [(0, q2aWW x1), (3, .i (n2 : Int)), (4, .ptr 4 0), (5, .i r3), (14, q2aWW x1), (15, .i (lZ x1)), (16, .i (n2 : Int)), (24, .bool (r3 != (0 : Int)))], (f13z4 x1 n2), [], 0⟩ trivial ?_
          refine AWp.cond (b := (r3 != (0 : Int))) (by kernel_rfl) (fun hc4 => ?_) (fun hc4 => ?_)
          ·
            replace h := ite_tb hc4 h
            refine q2rq [] [] ⟨56, [(2, .i r3)], [], [], 0⟩ trivial ?_
            have hret := Option.some.inj h
            subst hret
            refine AWp.le (Le.mk (s' := ⟨56, [(2, .i r3)], [], [], 0⟩) rfl rfl ⟨.refl _, trivial⟩ trivial) ?_
            refine AWp.ret ?_
            refine thenQ_ret ?_
            refine blockQ_ret ?_
            refine thenQ_ret ?_
            refine thenQ_ret ?_
            refine blockQ_ret ?_
            refine joinQ_ret ?_
            exact bodyQ_ret _ rfl ⟨rfl, rfl⟩ rfl
          ·
            replace h := ite_fb hc4 h
            refine AWp.skip ?_
            refine thenQ_normal ?_
            obtain ⟨K2, hK2, h⟩ := jn_some h
            refine AWp.join (α := Unit) (fun (x : Unit) => match x with | () => ⟨56, (f13z2 x1 n2), (f13z4 x1 n2), [], 0⟩) (fun x => K2 x = some r) ?_ ?_
            ·
              refine AWp.seq ?_
              obtain ⟨ob1p, h⟩ := chk_some h
              have ob1 : 0 ≤ (n2 : Int) ∧ (n2 : Int) ≤ (((x1).length : Nat) : Int) := ⟨by omega, ob1p⟩
              refine q2rr [] [] ⟨56, [(0, q2aWW x1), (3, .i (n2 : Int)), (4, .ptr 4 0), (14, q2aWW x1), (15, .i (lZ x1)), (16, .i (n2 : Int)), (28, .arr 2 n2 (encF eWW q2dWW x1)), (29, .i (n2 : Int)), (30, .i (0 : Int))], (f13z4 x1 n2), [], 0⟩ (an1 ob1) ?_
              refine thenQ_normal ?_
              refine AWp.le (Le.mk (s' := ⟨56, [(0, q2aWW x1), (3, .i (n2 : Int)), (4, .ptr 4 0), (14, q2aWW x1), (15, .i (lZ x1)), (16, .i (n2 : Int)), (28, q2aWW (x1.take n2)), (29, .i (n2 : Int)), (30, .i (0 : Int))], (f13z4 x1 n2), [], 0⟩) rfl rfl ⟨.refl _, .refl _, .refl _, .refl _, .refl _, .refl _, (VLe.takeL (by first | omega | (simp only [List.length_append, List.length_cons, List.length_nil, List.length_take, List.length_drop] at *; omega) | (simp; done) | (simp_all; done) | (simp_all; omega) | rfl)), .refl _, .refl _, trivial⟩ ⟨⟨_, rfl, .refl _⟩, trivial⟩) ?_
              refine AWp.block ?_
              refine AWp.loopL (α := Nat × Nat) (fun x => match x with | (_, n4) => ⟨56, [(0, q2aWW x1), (3, .i (n2 : Int)), (4, .ptr 4 0), (14, q2aWW x1), (15, .i (lZ x1)), (16, .i (n2 : Int)), (28, q2aWW (x1.take n2)), (29, .i (n2 : Int)), (30, .i (n4 : Int))], (f13z4 x1 n2), [], 0⟩) (fun x => f13_L1 x1 n2 K2 x.1 x.2 = some r) (fun x => x.1) (FUEL, 0) (Le.mk (s' := ⟨56, [(0, q2aWW x1), (3, .i (n2 : Int)), (4, .ptr 4 0), (14, q2aWW x1), (15, .i (lZ x1)), (16, .i (n2 : Int)), (28, q2aWW (x1.take n2)), (29, .i (n2 : Int)), (30, .i (0 : Int))], (f13z4 x1 n2), [], 0⟩) rfl rfl ⟨.refl _, .refl _, .refl _, .refl _, .refl _, .refl _, .refl _, .refl _, .refl _, trivial⟩ ⟨⟨_, rfl, .refl _⟩, trivial⟩) h ?_
              rintro ⟨k1, n4⟩ h
              cases k1 with
              | zero => exact nomatch (show (none : Option Int) = some r from h)
              | succ k1 =>
              obtain ⟨C1, hC1⟩ : ∃ C, C = f13_L1 x1 n2 K2 k1 := ⟨_, rfl⟩
              replace h := (f13_L1.eq_2 ..).symm.trans h
              try rw [← hC1] at h
              refine q2rq [] [] ⟨56, [(0, q2aWW x1), (3, .i (n2 : Int)), (4, .ptr 4 0), (14, q2aWW x1), (15, .i (lZ x1)), (16, .i (n2 : Int)), (28, q2aWW (x1.take n2)), (29, .i (n2 : Int)), (30, .i (n4 : Int)), (31, .bool (decide ((n4 : Int) < (n2 : Int))))], (f13z4 x1 n2), [], 0⟩ trivial ?_
              refine AWp.seq ?_
              refine AWp.cond (b := (decide ((n4 : Int) < (n2 : Int)))) (by kernel_rfl) (fun hc5 => ?_) (fun hc5 => ?_)
              ·
                replace h := ite_tb hc5 h
                refine AWp.skip ?_
                refine thenQ_normal ?_
                refine AWp.seq ?_
                refine AWp.block ?_
                refine AWp.seq ?_
                obtain ⟨ob2p, h⟩ := chk_some h
                have ob2 : 0 ≤ (n4 : Int) ∧ (n4 : Int) < ((((x1.take n2)).length : Nat) : Int) := ⟨by omega, ob2p⟩
                refine q2rr [] [] ⟨56, [(0, q2aWW x1), (3, .i (n2 : Int)), (4, .ptr 4 0), (7, .ptr 7 0), (14, q2aWW x1), (15, .i (lZ x1)), (16, .i (n2 : Int)), (28, q2aWW (x1.take n2)), (29, .i (n2 : Int)), (30, .i (n4 : Int))], [(4, .cells 30 (f13z0 x1 n2)), (7, .cells 30 (f13z3 x1 n2 n4))], [], 0⟩ (an2 ob2 trivial) ?_
                refine thenQ_normal ?_
                refine AWp.seq ?_
                obtain ⟨r5, hr5, h⟩ := bind_ok h
                obtain ⟨r6, hr6, h⟩ := optc_some h
                have ob3 := idA ((r5 == false) = true)
                have ob4 := idA ((r5 == false) = true)
                have ob5 := bqA r5 false
                refine q2rr [] [(2, ⟨[.agg (f13z0 x1 n2), .agg (f13z3 x1 n2 n4)], [], [], [], .bool r5, [], [], []⟩), (6, ⟨[.agg (f13z3 x1 n2 n4), .agg (f13z0 x1 n2)], [], [], [], .bool r6, [], [], []⟩)] ⟨56, [(0, q2aWW x1), (3, .i (n2 : Int)), (4, .ptr 4 0), (14, q2aWW x1), (15, .i (lZ x1)), (16, .i (n2 : Int)), (28, q2aWW (x1.take n2)), (29, .i (n2 : Int)), (30, .i (n4 : Int)), (41, .bool (r5 || r6))], (f13z4 x1 n2), [], 0⟩ (an3 (cpT (f16_ok _ _ _ _ _ hr5)) (And.intro (cpC fun hc => (f16_ok _ _ _ _ _ (hr6 hc))) (an2 ob3 ob4)) ob5) ?_
                refine thenQ_normal ?_
                refine AWp.cond (b := (r5 || r6)) (by kernel_rfl) (fun hc6 => ?_) (fun hc6 => ?_)
                ·
                  replace h := ite_tb hc6 h
                  refine q2rq [] [] ⟨56, [(2, .i (5 : Int))], [], [], 0⟩ trivial ?_
                  have hret := Option.some.inj h
                  subst hret
                  refine AWp.le (Le.mk (s' := ⟨56, [(2, .i (5 : Int))], [], [], 0⟩) rfl rfl ⟨.refl _, trivial⟩ trivial) ?_
                  refine AWp.ret ?_
                  refine blockQ_ret ?_
                  refine thenQ_ret ?_
                  refine thenQ_ret ?_
                  refine blockQ_ret ?_
                  refine joinQ_ret ?_
                  refine blockQ_ret ?_
                  refine thenQ_ret ?_
                  refine thenQ_ret ?_
                  refine blockQ_ret ?_
                  refine joinQ_ret ?_
                  exact bodyQ_ret _ rfl ⟨rfl, rfl⟩ rfl
                ·
                  replace h := ite_fb hc6 h
                  refine AWp.skip ?_
                  refine blockQ_normal ?_
                  refine thenQ_normal ?_
                  obtain ⟨ob6p, h⟩ := chk_some h
                  have ob6 : -9223372036854775808 ≤ ((n4 : Int) + (1 : Int)) ∧ ((n4 : Int) + (1 : Int)) ≤ 9223372036854775807 := ⟨by omega, ob6p⟩
                  refine q2rr [] [] ⟨56, [(0, q2aWW x1), (3, .i (n2 : Int)), (4, .ptr 4 0), (14, q2aWW x1), (15, .i (lZ x1)), (16, .i (n2 : Int)), (28, q2aWW (x1.take n2)), (29, .i (n2 : Int)), (30, .i (((n4 + 1) : Nat) : Int))], (f13z4 x1 n2), [], 0⟩ (an1 ob6) ?_
                  rw [hC1] at h
                  exact loopQ_normal (_, (n4 + 1)) (Le.mk rfl rfl ⟨.refl _, .refl _, .refl _, .refl _, .refl _, .refl _, .refl _, .refl _, .refl _, trivial⟩ ⟨⟨_, rfl, .refl _⟩, trivial⟩) h (Nat.lt_succ_self _)
              ·
                replace h := ite_fb hc5 h
                refine AWp.exit ?_
                refine thenQ_exit ?_
                refine thenQ_exit ?_
                refine blockQ_same ?_
                exact joinQ_normal () (Le.mk rfl rfl ⟨.refl _, .refl _, .refl _, .refl _, .refl _, .refl _, trivial⟩ ⟨⟨_, rfl, .refl _⟩, trivial⟩) h
            ·
              rintro ⟨⟩ h
              replace h := (congrFun hK2 _).symm.trans h
              refine AWp.seq ?_
              obtain ⟨r7, hr7, h⟩ := optc_some h
              obtain ⟨ob7, h⟩ := chk_some h
              have ob8 := idA ((f13z1 n2) = true)
              obtain ⟨ob9, h⟩ := chk_some h
              have ob10 := idA ((f13z1 n2) = true)
              have ob11 := idA ((f13z1 n2) = true)
              have ob12 := idA ((f13z1 n2) = true)
              have ob13 := idA ((f13z1 n2) = true)
              have ob14 := idA ((f13z1 n2) = true)
              have ob15 := idA ((f13z1 n2) = true)
              have ob16 : true = true → (decide ((n2 : Int) > (0 : Int))) = true → (f13z1 n2) = true := fun _ h => beq_iff_eq.2 h
              refine q2rr [] [(9, ⟨[.agg [.b16 (x1.getD ((((n2 : Int) - (1 : Int))).toNat) q2dWW).1, .b16 (x1.getD ((((n2 : Int) - (1 : Int))).toNat) q2dWW).2], .agg (f13z0 x1 n2)], [], [], [], .i r7, [], [], []⟩)] ⟨56, [(0, q2aWW x1), (14, q2aWW x1), (15, .i (lZ x1)), (16, .i (n2 : Int)), (54, .bool ((decide ((n2 : Int) > (0 : Int))) && (decide (r7 ≥ (0 : Int)))))], [], [], 0⟩ (an6 (And.intro ob7 (an1 ob8)) (And.intro ob9 (an2 ob10 ob11)) (an1 ob12) (And.intro (cpC fun hc => (f43_ok _ _ _ _ _ (hr7 hc))) (an2 ob13 ob14)) (an1 ob15) ob16) ?_
              refine thenQ_normal ?_
              refine AWp.cond (b := ((decide ((n2 : Int) > (0 : Int))) && (decide (r7 ≥ (0 : Int))))) (by kernel_rfl) (fun hc7 => ?_) (fun hc7 => ?_)
              ·
                replace h := ite_tb hc7 h
                refine q2rq [] [] ⟨56, [(2, .i (1 : Int))], [], [], 0⟩ trivial ?_
                have hret := Option.some.inj h
                subst hret
                refine AWp.le (Le.mk (s' := ⟨56, [(2, .i (1 : Int))], [], [], 0⟩) rfl rfl ⟨.refl _, trivial⟩ trivial) ?_
                refine AWp.ret ?_
                refine blockQ_ret ?_
                refine thenQ_ret ?_
                refine thenQ_ret ?_
                refine blockQ_ret ?_
                refine joinQ_ret ?_
                exact bodyQ_ret _ rfl ⟨rfl, rfl⟩ rfl
              ·
                replace h := ite_fb hc7 h
                refine AWp.skip ?_
                refine blockQ_normal ?_
                refine thenQ_normal ?_
                obtain ⟨ob17p, h⟩ := chk_some h
                have ob17 : -9223372036854775808 ≤ ((n2 : Int) + (1 : Int)) ∧ ((n2 : Int) + (1 : Int)) ≤ 9223372036854775807 := ⟨by omega, ob17p⟩
                refine q2rr [] [] ⟨56, [(0, q2aWW x1), (14, q2aWW x1), (15, .i (lZ x1)), (16, .i (((n2 + 1) : Nat) : Int))], [], [], 0⟩ (an1 ob17) ?_
                rw [hC0] at h
                exact loopQ_normal (_, (n2 + 1)) (Le.mk rfl rfl ⟨.refl _, .refl _, .refl _, .refl _, trivial⟩ trivial) h (Nat.lt_succ_self _)
        ·
          replace h := ite_fb hc3 h
          refine AWp.exit ?_
          refine thenQ_exit ?_
          refine thenQ_exit ?_
          refine blockQ_same ?_
          exact joinQ_normal () (Le.mk rfl rfl trivial trivial) h
      ·
        rintro ⟨⟩ h
        replace h := (congrFun hK1 _).symm.trans h
        refine q2rq [] [] ⟨56, [(2, .i (0 : Int))], [], [], 0⟩ trivial ?_
        have hret := Option.some.inj h
        subst hret
        refine AWp.le (Le.mk (s' := ⟨56, [(2, .i (0 : Int))], [], [], 0⟩) rfl rfl ⟨.refl _, trivial⟩ trivial) ?_
        refine AWp.ret ?_
        exact bodyQ_ret _ rfl ⟨rfl, rfl⟩ rfl
def f56 (x1 : List (BitVec 16 × BitVec 16)) (x2 : List (BitVec 16 × BitVec 16)) : Option Int :=
  (f13 x1).bind fun (r3 : Int) =>
  if (r3 != (0 : Int)) then (
  some r3
  ) else (
  (f13 x2).bind fun (r4 : Int) =>
  some r4
  )
set_option maxRecDepth 100000 in
theorem f56_ok  (x1 : List (BitVec 16 × BitVec 16)) (x2 : List (BitVec 16 × BitVec 16)) (r : Int) (h : f56 x1 x2 = some r)  : Spec1 Tryz.prog 56 [] [] [] [vL 2 eWW (default : BitVec 16 × BitVec 16) x1, vL 2 eWW (default : BitVec 16 × BitVec 16) x2] (.int .i64 r) [] := by
  unfold f56 at h
  refine Spec1.body 0 _ _ Tryz.func56 rfl Tryz.ntmps56 rfl rfl ?_
  refine q2rq [] [] ⟨13, [(0, q2aWW x1), (1, q2aWW x2)], [], [], 0⟩ trivial ?_
  refine AWp.seq ?_
  refine AWp.seq ?_
  obtain ⟨r3, hr3, h⟩ := bind_ok h
  refine q2rr [] [(1, ⟨[q2aWW x1], [], [], [], .i r3, [], [], []⟩)] ⟨13, [(1, q2aWW x2), (5, .i r3)], [], [], 0⟩ (an1 (cpT (f13_ok _ _ hr3))) ?_
  refine thenQ_normal ?_
  refine q2rq [] [] ⟨13, [(1, q2aWW x2), (5, .i r3), (9, .bool (r3 != (0 : Int)))], [], [], 0⟩ trivial ?_
  refine AWp.cond (b := (r3 != (0 : Int))) (by kernel_rfl) (fun hc1 => ?_) (fun hc1 => ?_)
  ·
    replace h := ite_tb hc1 h
    refine q2rq [] [] ⟨13, [(4, .i r3)], [], [], 0⟩ trivial ?_
    have hret := Option.some.inj h
    subst hret
    refine AWp.le (Le.mk (s' := ⟨13, [(4, .i r3)], [], [], 0⟩) rfl rfl ⟨.refl _, trivial⟩ trivial) ?_
    refine AWp.ret ?_
    refine thenQ_ret ?_
    exact bodyQ_ret _ rfl ⟨rfl, rfl⟩ rfl
  ·
    replace h := ite_fb hc1 h
    refine AWp.skip ?_
    refine thenQ_normal ?_
    refine AWp.seq ?_
    obtain ⟨r4, hr4, h⟩ := bind_ok h
    refine q2rr [] [(1, ⟨[q2aWW x2], [], [], [], .i r4, [], [], []⟩)] ⟨13, [(4, .i r4)], [], [], 0⟩ (an1 (cpT (f13_ok _ _ hr4))) ?_
    refine thenQ_normal ?_
    have hret := Option.some.inj h
    subst hret
    refine AWp.le (Le.mk (s' := ⟨13, [(4, .i r4)], [], [], 0⟩) rfl rfl ⟨.refl _, trivial⟩ trivial) ?_
    refine AWp.ret ?_
    exact bodyQ_ret _ rfl ⟨rfl, rfl⟩ rfl
def f14 (x1 : List (BitVec 16 × BitVec 16)) : Option (List (BitVec 16 × BitVec 16)) :=
  abc ((x1).length = 0) (
  some []
  ) (
  chk ((0 + (x1).length) * 4 ≤ 140737488355328) <|
  some ([] ++ x1)
  )
set_option maxRecDepth 100000 in
theorem f14_ok  (x1 : List (BitVec 16 × BitVec 16)) (r : List (BitVec 16 × BitVec 16)) (h : f14 x1 = some r)  : Spec1 Tryz.prog 14 [] [] [] [vL 2 eWW (default : BitVec 16 × BitVec 16) x1] (.own 3000) [(3000, bL 30 2 eWW (default : BitVec 16 × BitVec 16) r)] := by
  unfold f14 at h
  refine Spec1.body 0 _ _ Tryz.func14 rfl Tryz.ntmps14 rfl rfl ?_
  refine q2rq [] [] ⟨8, [(0, q2aWW x1)], [], [], 0⟩ trivial ?_
  refine AWp.seq ?_
  refine q2rq [] [] ⟨8, [(0, q2aWW x1), (4, .abool (fun b => b = true → (x1).length = 0))], [], [], 0⟩ trivial ?_
  obtain ⟨hA1, hB1⟩ := abc_some h
  refine AWp.condAb (fun b => b = true → (x1).length = 0) (by kernel_rfl) (fun hc1 => ?_) (fun hc1 => ?_)
  ·
    have h := hA1 (hc1 rfl)
    refine q2rq [] [] ⟨8, [(2, .nils)], [], [], 0⟩ trivial ?_
    refine AWp.le (Le.trans (Le.nilOwn 2 3000 30 2 (encF eWW q2dWW []) rfl rfl (Nat.le_of_ble_eq_true rfl)) (Le.mk (s' := ⟨8, [(2, .own 3000)], [(3000, q2bWW_30 [])], [], 0⟩) rfl rfl ⟨.refl _, trivial⟩ ⟨⟨_, rfl, .refl _⟩, trivial⟩)) ?_
    have hret := Option.some.inj h
    subst hret
    refine AWp.le (Le.mk (s' := ⟨8, [(2, .own 3000)], [(3000, q2bWW_30 [])], [], 0⟩) rfl rfl ⟨.refl _, trivial⟩ ⟨⟨_, rfl, .refl _⟩, trivial⟩) ?_
    refine AWp.ret ?_
    refine thenQ_ret ?_
    exact bodyQ_ret _ rfl ⟨rfl, rfl⟩ rfl
  ·
    have h := hB1
    refine AWp.skip ?_
    refine thenQ_normal ?_
    refine AWp.seq ?_
    obtain ⟨ob0, h⟩ := chk_some h
    refine q2rr [] [] ⟨8, [(2, .own 5)], [(5, .rows 30 2 (0 + (x1).length) (appF 0 (lstF 2 []) (encF eWW q2dWW x1)))], [], 0⟩ (an1 ob0) ?_
    refine thenQ_normal ?_
    refine AWp.le (Le.mk (s' := ⟨8, [(2, .own 5)], [(5, q2bWW_30 ([] ++ x1))], [], 0⟩) rfl rfl ⟨.refl _, trivial⟩ ⟨⟨_, rfl, (BLe.of (RL.app (RL.lst (enc := eWW) [] rfl rfl (fun _ => rfl)) (RL.self _)))⟩, trivial⟩) ?_
    refine AWp.le (Le.trans (Le.ren (swapN 5 3000) (swapN_inv 5 3000) rfl) (Le.mk (s' := ⟨8, [(2, .own 3000)], [(3000, q2bWW_30 ([] ++ x1))], [], 0⟩) rfl rfl ⟨.refl _, trivial⟩ ⟨⟨_, rfl, .refl _⟩, trivial⟩)) ?_
    have hret := Option.some.inj h
    subst hret
    refine AWp.le (Le.mk (s' := ⟨8, [(2, .own 3000)], [(3000, q2bWW_30 ([] ++ x1))], [], 0⟩) rfl rfl ⟨.refl _, trivial⟩ ⟨⟨_, rfl, .refl _⟩, trivial⟩) ?_
    refine AWp.ret ?_
    exact bodyQ_ret _ rfl ⟨rfl, rfl⟩ rfl
def f79 (x1 : List (BitVec 16 × BitVec 16)) : Option (List (BitVec 16 × BitVec 16)) := sortO keyF x1
theorem f79_ok (x1 r : List (BitVec 16 × BitVec 16)) (h : f79 x1 = some r) : Spec1 Tryz.prog 79 [] [2000] [(2000, bL 30 2 eWW (default : BitVec 16 × BitVec 16) x1)] [.own 2000, .fn (.func 43) []] (.tup []) [(2000, bL 30 2 eWW (default : BitVec 16 × BitVec 16) r)] := sortFl x1 r h
def f80_L1 (x1 : List (BitVec 16 × BitVec 16)) (n2 : Nat) (K2 : (Nat × (List (BitVec 16 × BitVec 16))) → Option (List (BitVec 16 × BitVec 16))) : Nat → (Nat × Nat × (List (BitVec 16 × BitVec 16))) → Option (List (BitVec 16 × BitVec 16))
  | 0, _ => none
  | k + 1, (n3, n4, l5) =>
    if (decide ((n4 : Int) < ((((x1).length - n2) : Nat) : Int))) then (
    jn (fun ((n6, l7) : Nat × (List (BitVec 16 × BitVec 16))) =>
    chk (((n4 : Int) + (1 : Int)) ≤ 9223372036854775807) <|
    (f80_L1 x1 n2 K2 k) (n6, (n4 + 1), l7)
    ) fun (K3 : (Nat × (List (BitVec 16 × BitVec 16))) → Option (List (BitVec 16 × BitVec 16))) =>
    chk ((n4 : Int) < ((((x1).length - n2) : Nat) : Int)) <|
    chk ((n2 + n4) < (l5).length) <|
    chk (-9223372036854775808 ≤ ((n4 : Int) - (1 : Int)) ∧ ((n4 : Int) - (1 : Int)) ≤ 9223372036854775807) <|
    chk (0 ≤ ((n4 : Int) - (1 : Int)) ∧ ((n4 : Int) - (1 : Int)) < ((((x1).length - n2) : Nat) : Int)) <|
    chk ((n2 + ((((n4 : Int) - (1 : Int))).toNat)) < (l5).length) <|
    if (!((((l5.getD (n2 + n4) (default : BitVec 16 × BitVec 16)).1) == ((l5.getD (n2 + ((((n4 : Int) - (1 : Int))).toNat)) (default : BitVec 16 × BitVec 16)).1)) && ((((l5.getD (n2 + n4) (default : BitVec 16 × BitVec 16)).2) == ((l5.getD (n2 + ((((n4 : Int) - (1 : Int))).toNat)) (default : BitVec 16 × BitVec 16)).2)) && true))) then (
    chk ((n4 : Int) < ((((x1).length - n2) : Nat) : Int)) <|
    chk ((n2 + n4) < (l5).length) <|
    chk ((n3 : Int) < (((l5).length : Nat) : Int)) <|
    chk (n3 < (l5).length) <|
    chk (((n3 : Int) + (1 : Int)) ≤ 9223372036854775807) <|
    K3 ((n3 + 1), (l5.set n3 ((l5.getD (n2 + n4) (default : BitVec 16 × BitVec 16)).1, (l5.getD (n2 + n4) (default : BitVec 16 × BitVec 16)).2)))
    ) else (
    K3 (n3, l5)
    )
    ) else (
    K2 (n3, l5)
    )
def f80_L0 (x1 : List (BitVec 16 × BitVec 16)) (K1 : Unit → Option (List (BitVec 16 × BitVec 16))) : Nat → Nat → Option (List (BitVec 16 × BitVec 16))
  | 0, _ => none
  | k + 1, n2 =>
    if (decide ((n2 : Int) < (((x1).length : Nat) : Int))) then (
    chk ((n2 : Int) < (((x1).length : Nat) : Int)) <|
    chk (n2 < (x1).length) <|
    chk (-9223372036854775808 ≤ ((n2 : Int) - (1 : Int)) ∧ ((n2 : Int) - (1 : Int)) ≤ 9223372036854775807) <|
    chk (0 ≤ ((n2 : Int) - (1 : Int)) ∧ ((n2 : Int) - (1 : Int)) < (((x1).length : Nat) : Int)) <|
    chk (((((n2 : Int) - (1 : Int))).toNat) < (x1).length) <|
    if ((((x1.getD n2 (default : BitVec 16 × BitVec 16)).1) == ((x1.getD ((((n2 : Int) - (1 : Int))).toNat) (default : BitVec 16 × BitVec 16)).1)) && ((((x1.getD n2 (default : BitVec 16 × BitVec 16)).2) == ((x1.getD ((((n2 : Int) - (1 : Int))).toNat) (default : BitVec 16 × BitVec 16)).2)) && true)) then (
    chk ((n2 : Int) ≤ (((x1).length : Nat) : Int)) <|
    jn (fun ((n8, l9) : Nat × (List (BitVec 16 × BitVec 16))) =>
    chk ((n8 : Int) ≤ (((l9).length : Nat) : Int)) <|
    chk (n8 + ((l9).length - n8) ≤ (l9).length ∧ 0 < ((l9).length - n8)) <|
    chk ((n8 : Int) ≤ ((((l9.take n8 ++ List.replicate ((l9).length - n8) ((BitVec.ofInt 16 0), (BitVec.ofInt 16 0)))).length : Nat) : Int)) <|
    chk (n8 ≤ (l9.take n8 ++ List.replicate ((l9).length - n8) ((BitVec.ofInt 16 0), (BitVec.ofInt 16 0))).length) <|
    some ((l9.take n8 ++ List.replicate ((l9).length - n8) ((BitVec.ofInt 16 0), (BitVec.ofInt 16 0))).take n8)
    ) fun (K2 : (Nat × (List (BitVec 16 × BitVec 16))) → Option (List (BitVec 16 × BitVec 16))) =>
    f80_L1 x1 n2 K2 FUEL (n2, 1, x1)
    ) else (
    chk (((n2 : Int) + (1 : Int)) ≤ 9223372036854775807) <|
    (f80_L0 x1 K1 k) (n2 + 1)
    )
    ) else (
    K1 ()
    )
abbrev f80z0 (x1 : List (BitVec 16 × BitVec 16)) : Heap := [(2000, bL 30 2 eWW (default : BitVec 16 × BitVec 16) x1)]
abbrev f80z1 (l5 : List (BitVec 16 × BitVec 16)) (n3 : Nat) (n2 : Nat) (n4 : Nat) : Heap := [(2000, bL 30 2 eWW (default : BitVec 16 × BitVec 16) (l5.set n3 ((l5.getD (n2 + n4) (default : BitVec 16 × BitVec 16)).1, (l5.getD (n2 + n4) (default : BitVec 16 × BitVec 16)).2)))]
abbrev f80z2 (l9 : List (BitVec 16 × BitVec 16)) (n8 : Nat) : Heap := [(2000, bL 30 2 eWW (default : BitVec 16 × BitVec 16) (l9.take n8 ++ List.replicate ((l9).length - n8) ((BitVec.ofInt 16 0), (BitVec.ofInt 16 0))))]
abbrev f80z3 (l5 : List (BitVec 16 × BitVec 16)) : Heap := [(2000, bL 30 2 eWW (default : BitVec 16 × BitVec 16) l5)]
abbrev f80z4 := (List (BitVec 16 × BitVec 16))
def f80 (x1 : List (BitVec 16 × BitVec 16)) : Option (List (BitVec 16 × BitVec 16)) :=
  if (decide ((((x1).length : Nat) : Int) < (2 : Int))) then (
  some x1
  ) else (
  jn (fun (_ : Unit) =>
  some x1
  ) fun (K1 : Unit → Option (List (BitVec 16 × BitVec 16))) =>
  f80_L0 x1 K1 FUEL 1
  )
set_option maxRecDepth 100000 in
theorem f80_ok  (x1 : List (BitVec 16 × BitVec 16)) (r : List (BitVec 16 × BitVec 16)) (h : f80 x1 = some r)  : Spec1 Tryz.prog 80 [] [] [(2000, bL 30 2 eWW (default : BitVec 16 × BitVec 16) x1)] [.own 2000] (.own 2000) [(2000, bL 30 2 eWW (default : BitVec 16 × BitVec 16) r)] := by
  unfold f80 at h
  refine Spec1.body 0 _ _ Tryz.func80 rfl Tryz.ntmps80 rfl rfl ?_
  refine q2rq [] [] ⟨61, [(0, .own 2000)], (f80z0 x1), [], 0⟩ trivial ?_
  refine AWp.seq ?_
  refine q2rq [] [] ⟨61, [(0, .own 2000), (8, .bool (decide ((lZ x1) < (2 : Int))))], (f80z0 x1), [], 0⟩ trivial ?_
  refine AWp.cond (b := (decide ((lZ x1) < (2 : Int)))) (by kernel_rfl) (fun hc1 => ?_) (fun hc1 => ?_)
  ·
    replace h := ite_tb hc1 h
    refine q2rq [] [] ⟨61, [(2, .own 2000)], (f80z0 x1), [], 0⟩ trivial ?_
    have hret := Option.some.inj h
    subst hret
    refine AWp.le (Le.mk (s' := ⟨61, [(2, .own 2000)], (f80z0 x1), [], 0⟩) rfl rfl ⟨.refl _, trivial⟩ ⟨⟨_, rfl, .refl _⟩, trivial⟩) ?_
    refine AWp.ret ?_
    refine thenQ_ret ?_
    exact bodyQ_ret _ rfl ⟨rfl, rfl⟩ rfl
  ·
    replace h := ite_fb hc1 h
    refine AWp.skip ?_
    refine thenQ_normal ?_
    obtain ⟨K1, hK1, h⟩ := jn_some h
    refine AWp.join (α := Unit) (fun (x : Unit) => match x with | () => ⟨61, [(0, .own 2000)], (f80z0 x1), [], 0⟩) (fun x => K1 x = some r) ?_ ?_
    ·
      refine q2rq [] [] ⟨61, [(0, .own 2000), (3, .i (1 : Int))], (f80z0 x1), [], 0⟩ trivial ?_
      refine AWp.block ?_
      refine AWp.loopL (α := Nat × Nat) (fun x => match x with | (_, n2) => ⟨61, [(0, .own 2000), (3, .i (n2 : Int))], (f80z0 x1), [], 0⟩) (fun x => f80_L0 x1 K1 x.1 x.2 = some r) (fun x => x.1) (FUEL, 1) (Le.mk (s' := ⟨61, [(0, .own 2000), (3, .i (1 : Int))], (f80z0 x1), [], 0⟩) rfl rfl ⟨.refl _, .refl _, trivial⟩ ⟨⟨_, rfl, .refl _⟩, trivial⟩) h ?_
      rintro ⟨k0, n2⟩ h
      cases k0 with
      | zero => exact nomatch (show (none : Option (List (BitVec 16 × BitVec 16))) = some r from h)
      | succ k0 =>
      obtain ⟨C0, hC0⟩ : ∃ C, C = f80_L0 x1 K1 k0 := ⟨_, rfl⟩
      replace h := (f80_L0.eq_2 ..).symm.trans h
      try rw [← hC0] at h
      refine AWp.seq ?_
      refine q2rq [] [] ⟨61, [(0, .own 2000), (3, .i (n2 : Int)), (13, .bool (decide ((n2 : Int) < (lZ x1))))], (f80z0 x1), [], 0⟩ trivial ?_
      refine AWp.cond (b := (decide ((n2 : Int) < (lZ x1)))) (by kernel_rfl) (fun hc2 => ?_) (fun hc2 => ?_)
      ·
        replace h := ite_tb hc2 h
        refine AWp.skip ?_
        refine thenQ_normal ?_
        refine AWp.seq ?_
        refine AWp.block ?_
        refine AWp.seq ?_
        obtain ⟨ob0p, h⟩ := chk_some h
        have ob0 : 0 ≤ (n2 : Int) ∧ (n2 : Int) < (((x1).length : Nat) : Int) := ⟨by omega, ob0p⟩
        obtain ⟨ob1, ob2, ob3, ob4, h⟩ := ck4 h
        refine q2rr [] [] ⟨61, [(0, .own 2000), (3, .i (n2 : Int)), (25, .bool ((((x1.getD n2 q2dWW).1) == ((x1.getD ((((n2 : Int) - (1 : Int))).toNat) q2dWW).1)) && ((((x1.getD n2 q2dWW).2) == ((x1.getD ((((n2 : Int) - (1 : Int))).toNat) q2dWW).2)) && true)))], (f80z0 x1), [], 0⟩ (an5 ob0 ob1 ob2 ob3 ob4) ?_
        refine thenQ_normal ?_
        refine AWp.cond (b := ((((x1.getD n2 q2dWW).1) == ((x1.getD ((((n2 : Int) - (1 : Int))).toNat) q2dWW).1)) && ((((x1.getD n2 q2dWW).2) == ((x1.getD ((((n2 : Int) - (1 : Int))).toNat) q2dWW).2)) && true))) (by kernel_rfl) (fun hc3 => ?_) (fun hc3 => ?_)
        ·
          replace h := ite_tb hc3 h
          refine AWp.seq ?_
          obtain ⟨ob5p, h⟩ := chk_some h
          have ob5 : 0 ≤ (n2 : Int) ∧ (n2 : Int) ≤ (((x1).length : Nat) : Int) := ⟨by omega, ob5p⟩
          refine q2rr [] [] ⟨61, [(0, .own 2000), (3, .i (n2 : Int)), (4, .osl 2000 2 n2 ((x1).length - n2))], (f80z0 x1), [], 0⟩ (an1 ob5) ?_
          refine thenQ_normal ?_
          obtain ⟨K2, hK2, h⟩ := jn_some h
          refine AWp.join (α := Nat × (f80z4)) (fun (x : Nat × (f80z4)) => match x with | (n8, l9) => ⟨61, [(0, .own 2000), (3, .i (n8 : Int))], [(2000, q2bWW_30 l9)], [], 0⟩) (fun x => K2 x = some r) ?_ ?_
          ·
            refine q2rq [] [] ⟨61, [(0, .own 2000), (3, .i (n2 : Int)), (4, .osl 2000 2 n2 ((x1).length - n2)), (5, .i (1 : Int))], (f80z0 x1), [], 0⟩ trivial ?_
            refine AWp.block ?_
            refine AWp.loopL (α := Nat × (Nat × Nat × (f80z4))) (fun x => match x with | (_, n3, n4, l5) => ⟨61, [(0, .own 2000), (3, .i (n3 : Int)), (4, .osl 2000 2 n2 ((x1).length - n2)), (5, .i (n4 : Int))], (f80z3 l5), [], 0⟩) (fun x => f80_L1 x1 n2 K2 x.1 x.2 = some r) (fun x => x.1) (FUEL, n2, 1, x1) (Le.mk (s' := ⟨61, [(0, .own 2000), (3, .i (n2 : Int)), (4, .osl 2000 2 n2 ((x1).length - n2)), (5, .i (1 : Int))], (f80z0 x1), [], 0⟩) rfl rfl ⟨.refl _, .refl _, .refl _, .refl _, trivial⟩ ⟨⟨_, rfl, .refl _⟩, trivial⟩) h ?_
            rintro ⟨k1, n3, n4, l5⟩ h
            cases k1 with
            | zero => exact nomatch (show (none : Option (List (BitVec 16 × BitVec 16))) = some r from h)
            | succ k1 =>
            obtain ⟨C1, hC1⟩ : ∃ C, C = f80_L1 x1 n2 K2 k1 := ⟨_, rfl⟩
            replace h := (f80_L1.eq_2 ..).symm.trans h
            try rw [← hC1] at h
            refine AWp.seq ?_
            refine q2rq [] [] ⟨61, [(0, .own 2000), (3, .i (n3 : Int)), (4, .osl 2000 2 n2 ((x1).length - n2)), (5, .i (n4 : Int)), (32, .bool (decide ((n4 : Int) < ((((x1).length - n2) : Nat) : Int))))], (f80z3 l5), [], 0⟩ trivial ?_
            refine AWp.cond (b := (decide ((n4 : Int) < ((((x1).length - n2) : Nat) : Int)))) (by kernel_rfl) (fun hc4 => ?_) (fun hc4 => ?_)
            ·
              replace h := ite_tb hc4 h
              refine AWp.skip ?_
              refine thenQ_normal ?_
              obtain ⟨K3, hK3, h⟩ := jn_some h
              refine AWp.join (α := Nat × (f80z4)) (fun (x : Nat × (f80z4)) => match x with | (n6, l7) => ⟨61, [(0, .own 2000), (3, .i (n6 : Int)), (4, .osl 2000 2 n2 ((x1).length - n2)), (5, .i (n4 : Int))], [(2000, q2bWW_30 l7)], [], 0⟩) (fun x => K3 x = some r) ?_ ?_
              ·
                refine AWp.block ?_
                refine AWp.seq ?_
                obtain ⟨ob6p, h⟩ := chk_some h
                have ob6 : 0 ≤ (n4 : Int) ∧ (n4 : Int) < ((((x1).length - n2) : Nat) : Int) := ⟨by omega, ob6p⟩
                obtain ⟨ob7, ob8, ob9, ob10, h⟩ := ck4 h
                refine q2rr [] [] ⟨61, [(0, .own 2000), (3, .i (n3 : Int)), (4, .osl 2000 2 n2 ((x1).length - n2)), (5, .i (n4 : Int)), (44, .bool (!((((l5.getD (n2 + n4) q2dWW).1) == ((l5.getD (n2 + ((((n4 : Int) - (1 : Int))).toNat)) q2dWW).1)) && ((((l5.getD (n2 + n4) q2dWW).2) == ((l5.getD (n2 + ((((n4 : Int) - (1 : Int))).toNat)) q2dWW).2)) && true))))], (f80z3 l5), [], 0⟩ (an5 ob6 ob7 ob8 ob9 ob10) ?_
                refine thenQ_normal ?_
                refine AWp.cond (b := (!((((l5.getD (n2 + n4) q2dWW).1) == ((l5.getD (n2 + ((((n4 : Int) - (1 : Int))).toNat)) q2dWW).1)) && ((((l5.getD (n2 + n4) q2dWW).2) == ((l5.getD (n2 + ((((n4 : Int) - (1 : Int))).toNat)) q2dWW).2)) && true)))) (by kernel_rfl) (fun hc5 => ?_) (fun hc5 => ?_)
                ·
                  replace h := ite_tb hc5 h
                  refine AWp.seq ?_
                  obtain ⟨ob11p, h⟩ := chk_some h
                  have ob11 : 0 ≤ (n4 : Int) ∧ (n4 : Int) < ((((x1).length - n2) : Nat) : Int) := ⟨by omega, ob11p⟩
                  obtain ⟨ob12, ob13p, h⟩ := ck2 h
                  have ob13 : 0 ≤ (n3 : Int) ∧ (n3 : Int) < (((l5).length : Nat) : Int) := ⟨by omega, ob13p⟩
                  obtain ⟨ob14, h⟩ := chk_some h
                  refine q2rr [] [] ⟨61, [(0, .own 2000), (3, .i (n3 : Int)), (4, .osl 2000 2 n2 ((x1).length - n2)), (5, .i (n4 : Int))], [(2000, .rows 30 2 (l5).length (updF (encF eWW q2dWW l5) n3 0 [.b16 (l5.getD (n2 + n4) q2dWW).1, .b16 (l5.getD (n2 + n4) q2dWW).2]))], [], 0⟩ (an4 ob11 ob12 ob13 ob14) ?_
                  refine thenQ_normal ?_
                  refine AWp.le (Le.mk (s' := ⟨61, [(0, .own 2000), (3, .i (n3 : Int)), (4, .osl 2000 2 n2 ((x1).length - n2)), (5, .i (n4 : Int))], (f80z1 l5 n3 n2 n4), [], 0⟩) rfl rfl ⟨.refl _, .refl _, .refl _, .refl _, trivial⟩ ⟨⟨_, rfl, (BLe.of (RL.set ((l5.getD (n2 + n4) q2dWW).1, (l5.getD (n2 + n4) q2dWW).2) (RL.self _) (by intro j hj; match j, hj with | 0, _ => rfl | 1, _ => rfl)))⟩, trivial⟩) ?_
                  obtain ⟨ob15p, h⟩ := chk_some h
                  have ob15 : -9223372036854775808 ≤ ((n3 : Int) + (1 : Int)) ∧ ((n3 : Int) + (1 : Int)) ≤ 9223372036854775807 := ⟨by omega, ob15p⟩
                  refine q2rr [] [] ⟨61, [(0, .own 2000), (3, .i (((n3 + 1) : Nat) : Int)), (4, .osl 2000 2 n2 ((x1).length - n2)), (5, .i (n4 : Int))], (f80z1 l5 n3 n2 n4), [], 0⟩ (an1 ob15) ?_
                  refine blockQ_normal ?_
                  exact joinQ_normal ((n3 + 1), (l5.set n3 ((l5.getD (n2 + n4) q2dWW).1, (l5.getD (n2 + n4) q2dWW).2))) (Le.mk rfl rfl ⟨.refl _, .refl _, .refl _, .refl _, trivial⟩ ⟨⟨_, rfl, .refl _⟩, trivial⟩) h
                ·
                  replace h := ite_fb hc5 h
                  refine AWp.skip ?_
                  refine blockQ_normal ?_
                  exact joinQ_normal (n3, l5) (Le.mk rfl rfl ⟨.refl _, .refl _, .refl _, .refl _, trivial⟩ ⟨⟨_, rfl, .refl _⟩, trivial⟩) h
              ·
                rintro ⟨n6, l7⟩ h
                replace h := (congrFun hK3 _).symm.trans h
                obtain ⟨ob16p, h⟩ := chk_some h
                have ob16 : -9223372036854775808 ≤ ((n4 : Int) + (1 : Int)) ∧ ((n4 : Int) + (1 : Int)) ≤ 9223372036854775807 := ⟨by omega, ob16p⟩
                refine q2rr [] [] ⟨61, [(0, .own 2000), (3, .i (n6 : Int)), (4, .osl 2000 2 n2 ((x1).length - n2)), (5, .i (((n4 + 1) : Nat) : Int))], [(2000, q2bWW_30 l7)], [], 0⟩ (an1 ob16) ?_
                rw [hC1] at h
                exact loopQ_normal (_, n6, (n4 + 1), l7) (Le.mk rfl rfl ⟨.refl _, .refl _, .refl _, .refl _, trivial⟩ ⟨⟨_, rfl, .refl _⟩, trivial⟩) h (Nat.lt_succ_self _)
            ·
              replace h := ite_fb hc4 h
              refine AWp.exit ?_
              refine thenQ_exit ?_
              refine thenQ_exit ?_
              refine blockQ_same ?_
              exact joinQ_normal (n3, l5) (Le.mk rfl rfl ⟨.refl _, .refl _, trivial⟩ ⟨⟨_, rfl, .refl _⟩, trivial⟩) h
          ·
            rintro ⟨n8, l9⟩ h
            replace h := (congrFun hK2 _).symm.trans h
            refine AWp.seq ?_
            obtain ⟨ob17p, h⟩ := chk_some h
            have ob17 : 0 ≤ (n8 : Int) ∧ (n8 : Int) ≤ (((l9).length : Nat) : Int) := ⟨by omega, ob17p⟩
            obtain ⟨ob18, h⟩ := chk_some h
            refine q2rr [] [] ⟨61, [(0, .own 2000), (3, .i (n8 : Int))], [(2000, .rows 30 2 (l9).length (clrF (encF eWW q2dWW l9) n8 ((l9).length - n8) [.b16 (q2w16 0), .b16 (q2w16 0)]))], [], 0⟩ (an2 ob17 ob18) ?_
            refine thenQ_normal ?_
            refine AWp.le (Le.mk (s' := ⟨61, [(0, .own 2000), (3, .i (n8 : Int))], (f80z2 l9 n8), [], 0⟩) rfl rfl ⟨.refl _, .refl _, trivial⟩ ⟨⟨_, rfl, (BLe.of (RL.clr ((q2w16 0), (q2w16 0)) (RL.self _) (by first | omega | (simp only [List.length_append, List.length_cons, List.length_nil, List.length_take, List.length_drop] at *; omega) | (simp; done) | (simp_all; done) | (simp_all; omega) | rfl) rfl))⟩, trivial⟩) ?_
            refine AWp.seq ?_
            obtain ⟨ob19p, h⟩ := chk_some h
            have ob19 : 0 ≤ (n8 : Int) ∧ (n8 : Int) ≤ ((((l9.take n8 ++ List.replicate ((l9).length - n8) ((q2w16 0), (q2w16 0)))).length : Nat) : Int) := ⟨by omega, ob19p⟩
            refine q2rr [] [] ⟨61, [(2, .osl 2000 2 0 n8)], (f80z2 l9 n8), [], 0⟩ (an1 ob19) ?_
            refine thenQ_normal ?_
            obtain ⟨hk6, h⟩ := chk_some h
            refine AWp.le (Le.trans (Le.cutOwn 2 2000 n8 hk6 rfl rfl rfl) (Le.mk (s' := ⟨61, [(2, .own 2000)], [(2000, q2bWW_30 ((l9.take n8 ++ List.replicate ((l9).length - n8) ((q2w16 0), (q2w16 0))).take n8))], [], 0⟩) rfl rfl ⟨.refl _, trivial⟩ ⟨⟨_, rfl, (BLe.of (RL.take (RL.self _) hk6))⟩, trivial⟩)) ?_
            have hret := Option.some.inj h
            subst hret
            refine AWp.le (Le.mk (s' := ⟨61, [(2, .own 2000)], [(2000, q2bWW_30 ((l9.take n8 ++ List.replicate ((l9).length - n8) ((q2w16 0), (q2w16 0))).take n8))], [], 0⟩) rfl rfl ⟨.refl _, trivial⟩ ⟨⟨_, rfl, .refl _⟩, trivial⟩) ?_
            refine AWp.ret ?_
            refine blockQ_ret ?_
            refine thenQ_ret ?_
            refine thenQ_ret ?_
            refine blockQ_ret ?_
            refine joinQ_ret ?_
            exact bodyQ_ret _ rfl ⟨rfl, rfl⟩ rfl
        ·
          replace h := ite_fb hc3 h
          refine AWp.skip ?_
          refine blockQ_normal ?_
          refine thenQ_normal ?_
          obtain ⟨ob20p, h⟩ := chk_some h
          have ob20 : -9223372036854775808 ≤ ((n2 : Int) + (1 : Int)) ∧ ((n2 : Int) + (1 : Int)) ≤ 9223372036854775807 := ⟨by omega, ob20p⟩
          refine q2rr [] [] ⟨61, [(0, .own 2000), (3, .i (((n2 + 1) : Nat) : Int))], (f80z0 x1), [], 0⟩ (an1 ob20) ?_
          rw [hC0] at h
          exact loopQ_normal (_, (n2 + 1)) (Le.mk rfl rfl ⟨.refl _, .refl _, trivial⟩ ⟨⟨_, rfl, .refl _⟩, trivial⟩) h (Nat.lt_succ_self _)
      ·
        replace h := ite_fb hc2 h
        refine AWp.exit ?_
        refine thenQ_exit ?_
        refine thenQ_exit ?_
        refine blockQ_same ?_
        exact joinQ_normal () (Le.mk rfl rfl ⟨.refl _, trivial⟩ ⟨⟨_, rfl, .refl _⟩, trivial⟩) h
    ·
      rintro ⟨⟩ h
      replace h := (congrFun hK1 _).symm.trans h
      refine q2rq [] [] ⟨61, [(2, .own 2000)], (f80z0 x1), [], 0⟩ trivial ?_
      have hret := Option.some.inj h
      subst hret
      refine AWp.le (Le.mk (s' := ⟨61, [(2, .own 2000)], (f80z0 x1), [], 0⟩) rfl rfl ⟨.refl _, trivial⟩ ⟨⟨_, rfl, .refl _⟩, trivial⟩) ?_
      refine AWp.ret ?_
      exact bodyQ_ret _ rfl ⟨rfl, rfl⟩ rfl
def f81 (x1 : BitVec 16) (x2 : BitVec 16) (x3 : BitVec 16) (x4 : BitVec 16) : Option (Bool × BitVec 16 × BitVec 16) :=
  optc ((!((x3 == x1) && ((x4 == x2) && true))) == true) (f16 x1 x2 x3 x4) fun (r5 : Bool) =>
  some (((!((x3 == x1) && ((x4 == x2) && true))) && r5), x3, x4)
set_option maxRecDepth 100000 in
theorem f81_ok  (x1 : BitVec 16) (x2 : BitVec 16) (x3 : BitVec 16) (x4 : BitVec 16) (r : Bool × BitVec 16 × BitVec 16) (h : f81 x1 x2 x3 x4 = some r)  : Spec1 Tryz.prog 81 [] [2000] [(2000, .cells 30 [.b16 x3, .b16 x4])] [.agg [.b16 x1, .b16 x2], .ptr 2000 0] (.bool r.1) [(2000, .cells 30 [.b16 r.2.1, .b16 r.2.2])] := by
  unfold f81 at h
  refine Spec1.body 0 _ _ Tryz.func81 rfl Tryz.ntmps81 rfl rfl ?_
  refine q2rq [] [] ⟨12, [(1, .ptr 2000 0), (2, .ptr 2 0)], [(2, .cells 30 [.b16 x1, .b16 x2]), (2000, .cells 30 [.b16 x3, .b16 x4])], [2000], 0⟩ trivial ?_
  refine AWp.seq ?_
  obtain ⟨r5, hr5, h⟩ := optc_some h
  have ob0 := idA (((!((x3 == x1) && ((x4 == x2) && true))) == true) = true)
  have ob1 := idA (((!((x3 == x1) && ((x4 == x2) && true))) == true) = true)
  have ob2 := bqA (!((x3 == x1) && ((x4 == x2) && true))) true
  refine q2rr [] [(6, ⟨[.agg [.b16 x1, .b16 x2], .agg [.b16 x3, .b16 x4]], [], [], [], .bool r5, [], [], []⟩)] ⟨12, [(3, .bool ((!((x3 == x1) && ((x4 == x2) && true))) && r5))], [(2000, .cells 30 [.b16 x3, .b16 x4])], [2000], 0⟩ (an2 (And.intro (cpC fun hc => (f16_ok _ _ _ _ _ (hr5 hc))) (an2 ob0 ob1)) ob2) ?_
  refine thenQ_normal ?_
  have hret := Option.some.inj h
  subst hret
  refine AWp.le (Le.mk (s' := ⟨12, [(3, .bool ((!((x3 == x1) && ((x4 == x2) && true))) && r5))], [(2000, .cells 30 [.b16 x3, .b16 x4])], [2000], 0⟩) rfl rfl ⟨.refl _, trivial⟩ ⟨⟨_, rfl, .refl _⟩, trivial⟩) ?_
  refine AWp.ret ?_
  exact bodyQ_ret _ rfl ⟨rfl, rfl⟩ rfl
def f75_L0 (x1 : List (BitVec 16 × BitVec 16)) (K1 : (BitVec 16 × BitVec 16) → Option (Int × BitVec 16 × BitVec 16)) : Nat → (Nat × BitVec 16 × BitVec 16) → Option (Int × BitVec 16 × BitVec 16)
  | 0, _ => none
  | k + 1, (n4, w5, w6) =>
    if (decide ((n4 : Int) < (((x1).length : Nat) : Int))) then (
    (f81 ((x1.getD n4 (default : BitVec 16 × BitVec 16)).1) ((x1.getD n4 (default : BitVec 16 × BitVec 16)).2) w5 w6).bind fun (r7 : Bool × BitVec 16 × BitVec 16) =>
    chk ((n4 : Int) < (((x1).length : Nat) : Int)) <|
    if r7.1 then (
    some ((n4 : Int), r7.2.1, r7.2.2)
    ) else (
    chk (((n4 : Int) + (1 : Int)) ≤ 9223372036854775807) <|
    (f75_L0 x1 K1 k) ((n4 + 1), r7.2.1, r7.2.2)
    )
    ) else (
    K1 (w5, w6)
    )
abbrev f75z0 (r7 : Bool × BitVec 16 × BitVec 16) : Heap := [(2000, .cells 30 [.b16 r7.2.1, .b16 r7.2.2])]
def f75 (x1 : List (BitVec 16 × BitVec 16)) (x2 : BitVec 16) (x3 : BitVec 16) : Option (Int × BitVec 16 × BitVec 16) :=
  jn (fun ((w8, w9) : BitVec 16 × BitVec 16) =>
  some ((-1 : Int), w8, w9)
  ) fun (K1 : (BitVec 16 × BitVec 16) → Option (Int × BitVec 16 × BitVec 16)) =>
  f75_L0 x1 K1 FUEL (0, x2, x3)
set_option maxRecDepth 100000 in
theorem f75_ok  (x1 : List (BitVec 16 × BitVec 16)) (x2 : BitVec 16) (x3 : BitVec 16) (r : Int × BitVec 16 × BitVec 16) (h : f75 x1 x2 x3 = some r)  : Spec1 Tryz.prog 75 [] [2000] [(2000, .cells 30 [.b16 x2, .b16 x3])] [vL 2 eWW (default : BitVec 16 × BitVec 16) x1, .fn (.func 81) [.ptr 2000 0]] (.int .i64 r.1) [(2000, .cells 30 [.b16 r.2.1, .b16 r.2.2])] := by
  unfold f75 at h
  refine Spec1.body 0 _ _ Tryz.func75 rfl Tryz.ntmps75 rfl rfl ?_
  refine q2rq [] [] ⟨19, [(0, q2aWW x1), (1, .fn (.func 81) [.ptr 2000 0])], [(2000, .cells 30 [.b16 x2, .b16 x3])], [2000], 0⟩ trivial ?_
  obtain ⟨K1, hK1, h⟩ := jn_some h
  refine AWp.join (α := BitVec 16 × BitVec 16) (fun (x : BitVec 16 × BitVec 16) => match x with | (w8, w9) => ⟨19, [], [(2000, .cells 30 [.b16 w8, .b16 w9])], [2000], 0⟩) (fun x => K1 x = some r) ?_ ?_
  ·
    refine q2rq [] [] ⟨19, [(0, q2aWW x1), (1, .fn (.func 81) [.ptr 2000 0]), (7, .i (lZ x1)), (8, .i (0 : Int))], [(2000, .cells 30 [.b16 x2, .b16 x3])], [2000], 0⟩ trivial ?_
    refine AWp.block ?_
    refine AWp.loopL (α := Nat × (Nat × BitVec 16 × BitVec 16)) (fun x => match x with | (_, n4, w5, w6) => ⟨19, [(0, q2aWW x1), (1, .fn (.func 81) [.ptr 2000 0]), (7, .i (lZ x1)), (8, .i (n4 : Int))], [(2000, .cells 30 [.b16 w5, .b16 w6])], [2000], 0⟩) (fun x => f75_L0 x1 K1 x.1 x.2 = some r) (fun x => x.1) (FUEL, 0, x2, x3) (Le.mk (s' := ⟨19, [(0, q2aWW x1), (1, .fn (.func 81) [.ptr 2000 0]), (7, .i (lZ x1)), (8, .i (0 : Int))], [(2000, .cells 30 [.b16 x2, .b16 x3])], [2000], 0⟩) rfl rfl ⟨.refl _, .refl _, .refl _, .refl _, trivial⟩ ⟨⟨_, rfl, .refl _⟩, trivial⟩) h ?_
    rintro ⟨k0, n4, w5, w6⟩ h
    cases k0 with
    | zero => exact nomatch (show (none : Option (Int × BitVec 16 × BitVec 16)) = some r from h)
    | succ k0 =>
    obtain ⟨C0, hC0⟩ : ∃ C, C = f75_L0 x1 K1 k0 := ⟨_, rfl⟩
    replace h := (f75_L0.eq_2 ..).symm.trans h
    try rw [← hC0] at h
    refine q2rq [] [] ⟨19, [(0, q2aWW x1), (1, .fn (.func 81) [.ptr 2000 0]), (7, .i (lZ x1)), (8, .i (n4 : Int)), (9, .bool (decide ((n4 : Int) < (lZ x1))))], [(2000, .cells 30 [.b16 w5, .b16 w6])], [2000], 0⟩ trivial ?_
    refine AWp.seq ?_
    refine AWp.cond (b := (decide ((n4 : Int) < (lZ x1)))) (by kernel_rfl) (fun hc1 => ?_) (fun hc1 => ?_)
    ·
      replace h := ite_tb hc1 h
      refine AWp.skip ?_
      refine thenQ_normal ?_
      refine AWp.seq ?_
      refine AWp.block ?_
      refine q2rq [] [] ⟨19, [(0, q2aWW x1), (1, .fn (.func 81) [.ptr 2000 0]), (5, .i (n4 : Int)), (7, .i (lZ x1)), (8, .i (n4 : Int))], [(2000, .cells 30 [.b16 w5, .b16 w6])], [2000], 0⟩ trivial ?_
      refine AWp.seq ?_
      obtain ⟨r7, hr7, h⟩ := bind_ok h
      obtain ⟨ob0p, h⟩ := chk_some h
      have ob0 : 0 ≤ (n4 : Int) ∧ (n4 : Int) < (((x1).length : Nat) : Int) := ⟨by omega, ob0p⟩
      refine q2rr [] [(5, ⟨[.agg [.b16 (x1.getD n4 q2dWW).1, .b16 (x1.getD n4 q2dWW).2], .ptr 2000 0], [2000], [2000], (f75z0 r7), .bool r7.1, [], [], []⟩)] ⟨19, [(0, q2aWW x1), (1, .fn (.func 81) [.ptr 2000 0]), (5, .i (n4 : Int)), (7, .i (lZ x1)), (8, .i (n4 : Int)), (16, .bool r7.1)], (f75z0 r7), [2000], 0⟩ (an2 ob0 (cpT (f81_ok _ _ _ _ _ hr7))) ?_
      refine thenQ_normal ?_
      refine AWp.cond (b := r7.1) (by kernel_rfl) (fun hc2 => ?_) (fun hc2 => ?_)
      ·
        replace h := ite_tb hc2 h
        refine q2rq [] [] ⟨19, [(4, .i (n4 : Int))], (f75z0 r7), [2000], 0⟩ trivial ?_
        have hret := Option.some.inj h
        subst hret
        refine AWp.le (Le.mk (s' := ⟨19, [(4, .i (n4 : Int))], (f75z0 r7), [2000], 0⟩) rfl rfl ⟨.refl _, trivial⟩ ⟨⟨_, rfl, .refl _⟩, trivial⟩) ?_
        refine AWp.ret ?_
        refine blockQ_ret ?_
        refine thenQ_ret ?_
        refine thenQ_ret ?_
        refine blockQ_ret ?_
        refine joinQ_ret ?_
        exact bodyQ_ret _ rfl ⟨rfl, rfl⟩ rfl
      ·
        replace h := ite_fb hc2 h
        refine AWp.skip ?_
        refine blockQ_normal ?_
        refine thenQ_normal ?_
        obtain ⟨ob1p, h⟩ := chk_some h
        have ob1 : -9223372036854775808 ≤ ((n4 : Int) + (1 : Int)) ∧ ((n4 : Int) + (1 : Int)) ≤ 9223372036854775807 := ⟨by omega, ob1p⟩
        refine q2rr [] [] ⟨19, [(0, q2aWW x1), (1, .fn (.func 81) [.ptr 2000 0]), (7, .i (lZ x1)), (8, .i (((n4 + 1) : Nat) : Int))], (f75z0 r7), [2000], 0⟩ (an1 ob1) ?_
        rw [hC0] at h
        exact loopQ_normal (_, (n4 + 1), r7.2.1, r7.2.2) (Le.mk rfl rfl ⟨.refl _, .refl _, .refl _, .refl _, trivial⟩ ⟨⟨_, rfl, .refl _⟩, trivial⟩) h (Nat.lt_succ_self _)
    ·
      replace h := ite_fb hc1 h
      refine AWp.exit ?_
      refine thenQ_exit ?_
      refine thenQ_exit ?_
      refine blockQ_same ?_
      exact joinQ_normal (w5, w6) (Le.mk rfl rfl trivial ⟨⟨_, rfl, .refl _⟩, trivial⟩) h
  ·
    rintro ⟨w8, w9⟩ h
    replace h := (congrFun hK1 _).symm.trans h
    refine q2rq [] [] ⟨19, [(4, .i (-1 : Int))], [(2000, .cells 30 [.b16 w8, .b16 w9])], [2000], 0⟩ trivial ?_
    have hret := Option.some.inj h
    subst hret
    refine AWp.le (Le.mk (s' := ⟨19, [(4, .i (-1 : Int))], [(2000, .cells 30 [.b16 w8, .b16 w9])], [2000], 0⟩) rfl rfl ⟨.refl _, trivial⟩ ⟨⟨_, rfl, .refl _⟩, trivial⟩) ?_
    refine AWp.ret ?_
    exact bodyQ_ret _ rfl ⟨rfl, rfl⟩ rfl
def f48 (x1 : List (BitVec 16 × BitVec 16)) (x2 : BitVec 16) (x3 : BitVec 16) : Option (Bool × BitVec 16 × BitVec 16) :=
  (f75 x1 x2 x3).bind fun (r4 : Int × BitVec 16 × BitVec 16) =>
  some ((decide (r4.1 ≥ (0 : Int))), r4.2.1, r4.2.2)
set_option maxRecDepth 100000 in
theorem f48_ok  (x1 : List (BitVec 16 × BitVec 16)) (x2 : BitVec 16) (x3 : BitVec 16) (r : Bool × BitVec 16 × BitVec 16) (h : f48 x1 x2 x3 = some r)  : Spec1 Tryz.prog 48 [] [2000] [(2000, .cells 30 [.b16 x2, .b16 x3])] [vL 2 eWW (default : BitVec 16 × BitVec 16) x1, .fn (.func 81) [.ptr 2000 0]] (.bool r.1) [(2000, .cells 30 [.b16 r.2.1, .b16 r.2.2])] := by
  unfold f48 at h
  refine Spec1.body 0 _ _ Tryz.func48 rfl Tryz.ntmps48 rfl rfl ?_
  refine q2rq [] [] ⟨9, [(0, q2aWW x1), (1, .fn (.func 81) [.ptr 2000 0])], [(2000, .cells 30 [.b16 x2, .b16 x3])], [2000], 0⟩ trivial ?_
  refine AWp.seq ?_
  obtain ⟨r4, hr4, h⟩ := bind_ok h
  refine q2rr [] [(2, ⟨[q2aWW x1, .fn (.func 81) [.ptr 2000 0]], [2000], [2000], [(2000, .cells 30 [.b16 r4.2.1, .b16 r4.2.2])], .i r4.1, [], [], []⟩)] ⟨9, [(4, .bool (decide (r4.1 ≥ (0 : Int))))], [(2000, .cells 30 [.b16 r4.2.1, .b16 r4.2.2])], [2000], 0⟩ (an1 (cpT (f75_ok _ _ _ _ hr4))) ?_
  refine thenQ_normal ?_
  have hret := Option.some.inj h
  subst hret
  refine AWp.le (Le.mk (s' := ⟨9, [(4, .bool (decide (r4.1 ≥ (0 : Int))))], [(2000, .cells 30 [.b16 r4.2.1, .b16 r4.2.2])], [2000], 0⟩) rfl rfl ⟨.refl _, trivial⟩ ⟨⟨_, rfl, .refl _⟩, trivial⟩) ?_
  refine AWp.ret ?_
  exact bodyQ_ret _ rfl ⟨rfl, rfl⟩ rfl
def f54_L0 (r4 : List (BitVec 16 × BitVec 16)) (K1 : (List (BitVec 16 × BitVec 16)) → Option (Int × (List (BitVec 16 × BitVec 16)))) : Nat → (Nat × (List (BitVec 16 × BitVec 16))) → Option (Int × (List (BitVec 16 × BitVec 16)))
  | 0, _ => none
  | k + 1, (n5, l6) =>
    if (decide ((n5 : Int) < (((r4).length : Nat) : Int))) then (
    jn (fun (l8 : List (BitVec 16 × BitVec 16)) =>
    chk (((n5 : Int) + (1 : Int)) ≤ 9223372036854775807) <|
    (f54_L0 r4 K1 k) ((n5 + 1), l8)
    ) fun (K2 : (List (BitVec 16 × BitVec 16)) → Option (Int × (List (BitVec 16 × BitVec 16)))) =>
    chk ((n5 : Int) < (((r4).length : Nat) : Int)) <|
    chk (n5 < (r4).length) <|
    (f48 r4 ((r4.getD n5 (default : BitVec 16 × BitVec 16)).1) ((r4.getD n5 (default : BitVec 16 × BitVec 16)).2)).bind fun (r7 : Bool × BitVec 16 × BitVec 16) =>
    if (!r7.1) then (
    chk (((l6).length + 1) * 4 ≤ 140737488355328) <|
    K2 (l6 ++ [(r7.2.1, r7.2.2)])
    ) else (
    K2 l6
    )
    ) else (
    K1 l6
    )
abbrev f54z0 (r4 : List (BitVec 16 × BitVec 16)) (n5 : Nat) : List (Nat × V) := [(0, .own 6001), (4, .own 5004), (13, .own 6001), (14, .int .i64 (((r4).length : Nat) : Int)), (15, .int .i64 (n5 : Int))]
abbrev f54z1 (r4 : List (BitVec 16 × BitVec 16)) (n5 : Nat) : List (Nat × V) := [(0, .own 6001), (4, .own 26), (13, .own 6001), (14, .int .i64 (((r4).length : Nat) : Int)), (15, .int .i64 (n5 : Int))]
abbrev f54z2 (r4 : List (BitVec 16 × BitVec 16)) : Heap := [(6001, bL 30 2 eWW (default : BitVec 16 × BitVec 16) r4)]
abbrev f54z3 (l8 : List (BitVec 16 × BitVec 16)) (r4 : List (BitVec 16 × BitVec 16)) : Heap := [(26, bL 30 2 eWW (default : BitVec 16 × BitVec 16) l8), (6001, bL 30 2 eWW (default : BitVec 16 × BitVec 16) r4)]
abbrev f54z4 (l9 : List (BitVec 16 × BitVec 16)) : Heap := [(5004, bL 30 2 eWW (default : BitVec 16 × BitVec 16) l9)]
def f54 (x1 : List (BitVec 16 × BitVec 16)) : Option (Int × (List (BitVec 16 × BitVec 16))) :=
  (f14 x1).bind fun (r2 : List (BitVec 16 × BitVec 16)) =>
  (f79 r2).bind fun (r3 : List (BitVec 16 × BitVec 16)) =>
  (f80 r3).bind fun (r4 : List (BitVec 16 × BitVec 16)) =>
  jn (fun (l9 : List (BitVec 16 × BitVec 16)) =>
  if (decide ((((l9).length : Nat) : Int) > (100 : Int))) then (
  some ((3 : Int), [])
  ) else (
  some ((0 : Int), l9)
  )
  ) fun (K1 : (List (BitVec 16 × BitVec 16)) → Option (Int × (List (BitVec 16 × BitVec 16)))) =>
  f54_L0 r4 K1 FUEL (0, [])
set_option maxRecDepth 100000 in
theorem f54_ok  (x1 : List (BitVec 16 × BitVec 16)) (r : Int × (List (BitVec 16 × BitVec 16))) (h : f54 x1 = some r)  : Spec1 Tryz.prog 54 [] [] [] [vL 2 eWW (default : BitVec 16 × BitVec 16) x1] (.tup [.own 3000, .int .i64 r.1]) [(3000, bL 30 2 eWW (default : BitVec 16 × BitVec 16) r.2)] := by
  unfold f54 at h
  refine Spec1.body 0 _ _ Tryz.func54 rfl Tryz.ntmps54 rfl rfl ?_
  refine q2rq [] [] ⟨32, [(0, q2aWW x1)], [], [], 0⟩ trivial ?_
  refine AWp.seq ?_
  obtain ⟨r2, hr2, h⟩ := bind_ok h
  refine q2rr [] [(1, ⟨[q2aWW x1], [], [], [(6001, q2bWW_30 r2)], .own 6001, [6001], [], []⟩)] ⟨32, [(0, .own 6001)], [(6001, q2bWW_30 r2)], [], 0⟩ (an1 (cpT (Spec1.ren (swapN 3000 6001) (swapN_inv 3000 6001) rfl (f14_ok _ _ hr2)))) ?_
  refine thenQ_normal ?_
  refine AWp.seq ?_
  obtain ⟨r3, hr3, h⟩ := bind_ok h
  refine q2rr [] [(1, ⟨[.own 6001, .fn (.func 43) []], [6001], [6001], [(6001, q2bWW_30 r3)], .tup [], [], [], []⟩)] ⟨32, [(0, .own 6001)], [(6001, q2bWW_30 r3)], [], 0⟩ (an1 (cpT (Spec1.ren (swapN 2000 6001) (swapN_inv 2000 6001) rfl (f79_ok _ _ hr3)))) ?_
  refine thenQ_normal ?_
  refine AWp.seq ?_
  obtain ⟨r4, hr4, h⟩ := bind_ok h
  refine q2rr [] [(1, ⟨[.own 6001], [6001], [], (f54z2 r4), .own 6001, [6001], [], []⟩)] ⟨32, [(0, .own 6001)], (f54z2 r4), [], 0⟩ (an1 (cpT (Spec1.ren (swapN 2000 6001) (swapN_inv 2000 6001) rfl (f80_ok _ _ hr4)))) ?_
  refine thenQ_normal ?_
  refine q2rq [] [] ⟨32, [(0, .own 6001), (4, .nils)], (f54z2 r4), [], 0⟩ trivial ?_
  obtain ⟨K1, hK1, h⟩ := jn_some h
  refine AWp.join (α := List (BitVec 16 × BitVec 16)) (fun (l9 : List (BitVec 16 × BitVec 16)) => ⟨32, [(4, .own 5004)], (f54z4 l9), [], 0⟩) (fun x => K1 x = some r) ?_ ?_
  ·
    refine q2rq [] [] ⟨32, [(0, .own 6001), (4, .nils), (13, .own 6001), (14, .i (lZ r4)), (15, .i (0 : Int))], (f54z2 r4), [], 0⟩ trivial ?_
    refine AWp.block ?_
    refine AWp.loopL (α := Nat × (Nat × (List (BitVec 16 × BitVec 16)))) (fun x => match x with | (_, n5, l6) => ⟨32, (f54z0 r4 n5), [(5004, q2bWW_30 l6), (6001, q2bWW_30 r4)], [], 0⟩) (fun x => f54_L0 r4 K1 x.1 x.2 = some r) (fun x => x.1) (FUEL, 0, []) (Le.trans (Le.trans (Le.nilOwn 4 5004 30 2 (encF eWW q2dWW []) rfl rfl (Nat.le_of_ble_eq_true rfl)) (Le.mk (s' := ⟨32, [(0, .own 6001), (4, .own 5004), (13, .own 6001), (14, .i (lZ r4)), (15, .i (0 : Int))], [(6001, q2bWW_30 r4), (5004, q2bWW_30 [])], [], 0⟩) rfl rfl ⟨.refl _, .refl _, .refl _, .refl _, .refl _, trivial⟩ ⟨⟨_, rfl, .refl _⟩, ⟨_, rfl, .refl _⟩, trivial⟩)) (Le.mk (s' := ⟨32, [(0, .own 6001), (4, .own 5004), (13, .own 6001), (14, .i (lZ r4)), (15, .i (0 : Int))], [(5004, q2bWW_30 []), (6001, q2bWW_30 r4)], [], 0⟩) rfl rfl ⟨.refl _, .refl _, .refl _, .refl _, .refl _, trivial⟩ ⟨⟨_, rfl, .refl _⟩, ⟨_, rfl, .refl _⟩, trivial⟩)) h ?_
    rintro ⟨k0, n5, l6⟩ h
    cases k0 with
    | zero => exact nomatch (show (none : Option (Int × (List (BitVec 16 × BitVec 16)))) = some r from h)
    | succ k0 =>
    obtain ⟨C0, hC0⟩ : ∃ C, C = f54_L0 r4 K1 k0 := ⟨_, rfl⟩
    replace h := (f54_L0.eq_2 ..).symm.trans h
    try rw [← hC0] at h
    refine q2rq [] [] ⟨32, [(0, .own 6001), (4, .own 5004), (13, .own 6001), (14, .i (lZ r4)), (15, .i (n5 : Int)), (16, .bool (decide ((n5 : Int) < (lZ r4))))], [(5004, q2bWW_30 l6), (6001, q2bWW_30 r4)], [], 0⟩ trivial ?_
    refine AWp.seq ?_
    refine AWp.cond (b := (decide ((n5 : Int) < (lZ r4)))) (by kernel_rfl) (fun hc1 => ?_) (fun hc1 => ?_)
    ·
      replace h := ite_tb hc1 h
      refine AWp.skip ?_
      refine thenQ_normal ?_
      obtain ⟨K2, hK2, h⟩ := jn_some h
      refine AWp.join (α := List (BitVec 16 × BitVec 16)) (fun (l8 : List (BitVec 16 × BitVec 16)) => ⟨32, (f54z1 r4 n5), (f54z3 l8 r4), [], 0⟩) (fun x => K2 x = some r) ?_ ?_
      ·
        refine AWp.block ?_
        refine AWp.seq ?_
        obtain ⟨ob0p, h⟩ := chk_some h
        have ob0 : 0 ≤ (n5 : Int) ∧ (n5 : Int) < (((r4).length : Nat) : Int) := ⟨by omega, ob0p⟩
        obtain ⟨ob1, h⟩ := chk_some h
        refine q2rr [] [] ⟨32, [(0, .own 6001), (4, .own 5004), (6, .ptr 6 0), (13, .own 6001), (14, .i (lZ r4)), (15, .i (n5 : Int))], [(6, .cells 30 [.b16 (r4.getD n5 q2dWW).1, .b16 (r4.getD n5 q2dWW).2]), (5004, q2bWW_30 l6), (6001, q2bWW_30 r4)], [], 0⟩ (an3 ob0 ob1 trivial) ?_
        refine thenQ_normal ?_
        refine AWp.seq ?_
        obtain ⟨r7, hr7, h⟩ := bind_ok h
        refine q2rr [] [(2, ⟨[q2aWW r4, .fn (.func 81) [.ptr 6 0]], [6], [6], [(6, .cells 30 [.b16 r7.2.1, .b16 r7.2.2])], .bool r7.1, [], [6001], []⟩)] ⟨32, [(0, .own 6001), (4, .own 5004), (6, .ptr 6 0), (13, .own 6001), (14, .i (lZ r4)), (15, .i (n5 : Int)), (22, .bool (!r7.1))], [(6, .cells 30 [.b16 r7.2.1, .b16 r7.2.2]), (5004, q2bWW_30 l6), (6001, q2bWW_30 r4)], [], 0⟩ (an1 (cpL (c := true) (f54z2 r4) [6001] [.own 6001, .fn (.func 81) [.ptr 6 0]] (fun _ => (Spec1.ren (swapN 2000 6) (swapN_inv 2000 6) rfl (f48_ok _ _ _ _ hr7))) (fun _ => ⟨.refl _, .refl _, trivial⟩) (.inr ⟨rfl, ⟨rfl, trivial⟩⟩))) ?_
        refine thenQ_normal ?_
        refine AWp.cond (b := (!r7.1)) (by kernel_rfl) (fun hc2 => ?_) (fun hc2 => ?_)
        ·
          replace h := ite_tb hc2 h
          obtain ⟨ob2, h⟩ := chk_some h
          refine q2rr [] [] ⟨32, (f54z0 r4 n5), [(5004, .rows 30 2 ((l6).length + 1) (appF (l6).length (encF eWW q2dWW l6) (lstF 2 [.b16 r7.2.1, .b16 r7.2.2]))), (6001, q2bWW_30 r4)], [], 0⟩ (an1 ob2) ?_
          refine blockQ_normal ?_
          exact joinQ_normal ((l6 ++ [(r7.2.1, r7.2.2)])) (Le.trans (Le.mk (s' := ⟨32, (f54z0 r4 n5), [(5004, q2bWW_30 (l6 ++ [(r7.2.1, r7.2.2)])), (6001, q2bWW_30 r4)], [], 0⟩) rfl rfl ⟨.refl _, .refl _, .refl _, .refl _, .refl _, trivial⟩ ⟨⟨_, rfl, (BLe.of (RL.app (RL.self _) (RL.lst (enc := eWW) [(r7.2.1, r7.2.2)] rfl rfl (fun _ => rfl))))⟩, ⟨_, rfl, .refl _⟩, trivial⟩) (Le.trans (Le.trans (Le.ren (swapN 5004 26) (swapN_inv 5004 26) rfl) (Le.mk (s' := ⟨32, (f54z1 r4 n5), [(26, q2bWW_30 (l6 ++ [(r7.2.1, r7.2.2)])), (6001, q2bWW_30 r4)], [], 0⟩) rfl rfl ⟨.refl _, .refl _, .refl _, .refl _, .refl _, trivial⟩ ⟨⟨_, rfl, .refl _⟩, ⟨_, rfl, .refl _⟩, trivial⟩)) (Le.mk rfl rfl ⟨.refl _, .refl _, .refl _, .refl _, .refl _, trivial⟩ ⟨⟨_, rfl, .refl _⟩, ⟨_, rfl, .refl _⟩, trivial⟩))) h
        ·
          replace h := ite_fb hc2 h
          refine AWp.skip ?_
          refine blockQ_normal ?_
          exact joinQ_normal (l6) (Le.trans (Le.trans (Le.ren (swapN 5004 26) (swapN_inv 5004 26) rfl) (Le.mk (s' := ⟨32, [(0, .own 6001), (4, .own 26), (6, .ptr 6 0), (13, .own 6001), (14, .i (lZ r4)), (15, .i (n5 : Int)), (22, .bool (!r7.1))], [(6, .cells 30 [.b16 r7.2.1, .b16 r7.2.2]), (26, q2bWW_30 l6), (6001, q2bWW_30 r4)], [], 0⟩) rfl rfl ⟨.refl _, .refl _, .refl _, .refl _, .refl _, .refl _, .refl _, trivial⟩ ⟨⟨_, rfl, .refl _⟩, ⟨_, rfl, .refl _⟩, ⟨_, rfl, .refl _⟩, trivial⟩)) (Le.mk rfl rfl ⟨.refl _, .refl _, .refl _, .refl _, .refl _, trivial⟩ ⟨⟨_, rfl, .refl _⟩, ⟨_, rfl, .refl _⟩, trivial⟩)) h
      ·
        rintro l8 h
        replace h := (congrFun hK2 _).symm.trans h
        obtain ⟨ob3p, h⟩ := chk_some h
        have ob3 : -9223372036854775808 ≤ ((n5 : Int) + (1 : Int)) ∧ ((n5 : Int) + (1 : Int)) ≤ 9223372036854775807 := ⟨by omega, ob3p⟩
        refine q2rr [] [] ⟨32, [(0, .own 6001), (4, .own 26), (13, .own 6001), (14, .i (lZ r4)), (15, .i (((n5 + 1) : Nat) : Int))], (f54z3 l8 r4), [], 0⟩ (an1 ob3) ?_
        rw [hC0] at h
        exact loopQ_normal (_, (n5 + 1), l8) (Le.trans (Le.trans (Le.ren (swapN 26 5004) (swapN_inv 26 5004) rfl) (Le.mk (s' := ⟨32, [(0, .own 6001), (4, .own 5004), (13, .own 6001), (14, .i (lZ r4)), (15, .i (((n5 + 1) : Nat) : Int))], [(5004, q2bWW_30 l8), (6001, q2bWW_30 r4)], [], 0⟩) rfl rfl ⟨.refl _, .refl _, .refl _, .refl _, .refl _, trivial⟩ ⟨⟨_, rfl, .refl _⟩, ⟨_, rfl, .refl _⟩, trivial⟩)) (Le.mk rfl rfl ⟨.refl _, .refl _, .refl _, .refl _, .refl _, trivial⟩ ⟨⟨_, rfl, .refl _⟩, ⟨_, rfl, .refl _⟩, trivial⟩)) h (Nat.lt_succ_self _)
    ·
      replace h := ite_fb hc1 h
      refine AWp.exit ?_
      refine thenQ_exit ?_
      refine thenQ_exit ?_
      refine blockQ_same ?_
      exact joinQ_normal (l6) (Le.mk rfl rfl ⟨.refl _, trivial⟩ ⟨⟨_, rfl, .refl _⟩, trivial⟩) h
  ·
    rintro l9 h
    replace h := (congrFun hK1 _).symm.trans h
    refine AWp.seq ?_
    refine q2rq [] [] ⟨32, [(4, .own 5004), (30, .bool (decide ((lZ l9) > (100 : Int))))], (f54z4 l9), [], 0⟩ trivial ?_
    refine AWp.cond (b := (decide ((lZ l9) > (100 : Int)))) (by kernel_rfl) (fun hc3 => ?_) (fun hc3 => ?_)
    ·
      replace h := ite_tb hc3 h
      refine q2rq [] [] ⟨32, [(2, .nils), (3, .i (3 : Int))], [], [], 0⟩ trivial ?_
      refine AWp.le (Le.trans (Le.nilOwn 2 3000 30 2 (encF eWW q2dWW []) rfl rfl (Nat.le_of_ble_eq_true rfl)) (Le.mk (s' := ⟨32, [(2, .own 3000), (3, .i (3 : Int))], [(3000, q2bWW_30 [])], [], 0⟩) rfl rfl ⟨.refl _, .refl _, trivial⟩ ⟨⟨_, rfl, .refl _⟩, trivial⟩)) ?_
      have hret := Option.some.inj h
      subst hret
      refine AWp.le (Le.mk (s' := ⟨32, [(2, .own 3000), (3, .i (3 : Int))], [(3000, q2bWW_30 [])], [], 0⟩) rfl rfl ⟨.refl _, .refl _, trivial⟩ ⟨⟨_, rfl, .refl _⟩, trivial⟩) ?_
      refine AWp.ret ?_
      refine thenQ_ret ?_
      exact bodyQ_ret _ rfl ⟨rfl, rfl⟩ rfl
    ·
      replace h := ite_fb hc3 h
      refine AWp.skip ?_
      refine thenQ_normal ?_
      refine q2rq [] [] ⟨32, [(2, .own 5004), (3, .i (0 : Int))], (f54z4 l9), [], 0⟩ trivial ?_
      refine AWp.le (Le.trans (Le.ren (swapN 5004 3000) (swapN_inv 5004 3000) rfl) (Le.mk (s' := ⟨32, [(2, .own 3000), (3, .i (0 : Int))], [(3000, q2bWW_30 l9)], [], 0⟩) rfl rfl ⟨.refl _, .refl _, trivial⟩ ⟨⟨_, rfl, .refl _⟩, trivial⟩)) ?_
      have hret := Option.some.inj h
      subst hret
      refine AWp.le (Le.mk (s' := ⟨32, [(2, .own 3000), (3, .i (0 : Int))], [(3000, q2bWW_30 l9)], [], 0⟩) rfl rfl ⟨.refl _, .refl _, trivial⟩ ⟨⟨_, rfl, .refl _⟩, trivial⟩) ?_
      refine AWp.ret ?_
      exact bodyQ_ret _ rfl ⟨rfl, rfl⟩ rfl
def f27_L1 (x1 : List (BitVec 16 × BitVec 16)) (x2 : List (BitVec 16 × BitVec 16)) (n4 : Nat) (K2 : (List (BitVec 16 × BitVec 16)) → Option (Int × (List (BitVec 16 × BitVec 16)))) : Nat → (Nat × (List (BitVec 16 × BitVec 16))) → Option (Int × (List (BitVec 16 × BitVec 16)))
  | 0, _ => none
  | k + 1, (n6, l7) =>
    if (decide ((n6 : Int) < (((x2).length : Nat) : Int))) then (
    chk ((n6 : Int) < (((x2).length : Nat) : Int)) <|
    (f46 ((x1.getD n4 (default : BitVec 16 × BitVec 16)).1) ((x1.getD n4 (default : BitVec 16 × BitVec 16)).2)).bind fun (r8 : BitVec 16) =>
    (f46 ((x2.getD n6 (default : BitVec 16 × BitVec 16)).1) ((x2.getD n6 (default : BitVec 16 × BitVec 16)).2)).bind fun (r9 : BitVec 16) =>
    chk (((l7).length + 1) * 4 ≤ 140737488355328) <|
    chk (((n6 : Int) + (1 : Int)) ≤ 9223372036854775807) <|
    (f27_L1 x1 x2 n4 K2 k) ((n6 + 1), (l7 ++ [(((x1.getD n4 (default : BitVec 16 × BitVec 16)).1 &&& (x2.getD n6 (default : BitVec 16 × BitVec 16)).1), ((r8 &&& r9) &&& ~~~((x1.getD n4 (default : BitVec 16 × BitVec 16)).1 &&& (x2.getD n6 (default : BitVec 16 × BitVec 16)).1)))]))
    ) else (
    K2 l7
    )
def f27_L0 (x1 : List (BitVec 16 × BitVec 16)) (x2 : List (BitVec 16 × BitVec 16)) (K1 : (List (BitVec 16 × BitVec 16)) → Option (Int × (List (BitVec 16 × BitVec 16)))) : Nat → (Nat × (List (BitVec 16 × BitVec 16))) → Option (Int × (List (BitVec 16 × BitVec 16)))
  | 0, _ => none
  | k + 1, (n4, l5) =>
    if (decide ((n4 : Int) < (((x1).length : Nat) : Int))) then (
    jn (fun (l10 : List (BitVec 16 × BitVec 16)) =>
    chk (((n4 : Int) + (1 : Int)) ≤ 9223372036854775807) <|
    (f27_L0 x1 x2 K1 k) ((n4 + 1), l10)
    ) fun (K2 : (List (BitVec 16 × BitVec 16)) → Option (Int × (List (BitVec 16 × BitVec 16)))) =>
    chk ((n4 : Int) < (((x1).length : Nat) : Int)) <|
    f27_L1 x1 x2 n4 K2 FUEL (0, l5)
    ) else (
    K1 l5
    )
abbrev f27z0 (x1 : List (BitVec 16 × BitVec 16)) (n4 : Nat) := (x1.getD n4 (default : BitVec 16 × BitVec 16))
abbrev f27z1 (x2 : List (BitVec 16 × BitVec 16)) (x1 : List (BitVec 16 × BitVec 16)) (n4 : Nat) (n6 : Nat) : List (Nat × V) := [(1, vL 2 eWW (default : BitVec 16 × BitVec 16) x2), (7, .own 5007), (9, .ptr 9 0), (19, vL 2 eWW (default : BitVec 16 × BitVec 16) x1), (20, .int .i64 (((x1).length : Nat) : Int)), (21, .int .i64 (n4 : Int)), (25, vL 2 eWW (default : BitVec 16 × BitVec 16) x2), (26, .int .i64 (((x2).length : Nat) : Int)), (27, .int .i64 (n6 : Int))]
abbrev f27z2 (x2 : List (BitVec 16 × BitVec 16)) (n6 : Nat) := (x2.getD n6 (default : BitVec 16 × BitVec 16))
abbrev f27z3 (x1 : List (BitVec 16 × BitVec 16)) (n4 : Nat) : List V := [.b16 (f27z0 x1 n4).1, .b16 (f27z0 x1 n4).2]
abbrev f27z4 (x2 : List (BitVec 16 × BitVec 16)) (x1 : List (BitVec 16 × BitVec 16)) (n4 : Nat) : List (Nat × V) := [(1, vL 2 eWW (default : BitVec 16 × BitVec 16) x2), (7, .own 5007), (19, vL 2 eWW (default : BitVec 16 × BitVec 16) x1), (20, .int .i64 (((x1).length : Nat) : Int)), (21, .int .i64 (n4 : Int))]
abbrev f27z5 (x1 : List (BitVec 16 × BitVec 16)) (n4 : Nat) (l7 : List (BitVec 16 × BitVec 16)) (x2 : List (BitVec 16 × BitVec 16)) (n6 : Nat) (r8 : BitVec 16) (r9 : BitVec 16) : Heap := [(9, .cells 30 (f27z3 x1 n4)), (5007, bL 30 2 eWW (default : BitVec 16 × BitVec 16) (l7 ++ [(((f27z0 x1 n4).1 &&& (f27z2 x2 n6).1), ((r8 &&& r9) &&& ~~~((f27z0 x1 n4).1 &&& (f27z2 x2 n6).1)))]))]
abbrev f27z6 := (BitVec 16 × BitVec 16)
def f27 (x1 : List (BitVec 16 × BitVec 16)) (x2 : List (BitVec 16 × BitVec 16)) : Option (Int × (List (BitVec 16 × BitVec 16))) :=
  (f56 x1 x2).bind fun (r3 : Int) =>
  if (r3 != (0 : Int)) then (
  some (r3, [])
  ) else (
  jn (fun (l11 : List (BitVec 16 × BitVec 16)) =>
  (f54 l11).bind fun (r12 : Int × (List (BitVec 16 × BitVec 16))) =>
  some (r12.1, r12.2)
  ) fun (K1 : (List (BitVec 16 × BitVec 16)) → Option (Int × (List (BitVec 16 × BitVec 16)))) =>
  f27_L0 x1 x2 K1 FUEL (0, [])
  )
set_option maxRecDepth 100000 in
theorem f27_ok  (x1 : List (BitVec 16 × BitVec 16)) (x2 : List (BitVec 16 × BitVec 16)) (r : Int × (List (BitVec 16 × BitVec 16))) (h : f27 x1 x2 = some r)  : Spec1 Tryz.prog 27 [] [] [] [vL 2 eWW (default : BitVec 16 × BitVec 16) x1, vL 2 eWW (default : BitVec 16 × BitVec 16) x2] (.tup [.own 3000, .int .i64 r.1]) [(3000, bL 30 2 eWW (default : BitVec 16 × BitVec 16) r.2)] := by
  unfold f27 at h
  refine Spec1.body 0 _ _ Tryz.func27 rfl Tryz.ntmps27 rfl rfl ?_
  refine q2rq [] [] ⟨54, [(0, q2aWW x1), (1, q2aWW x2)], [], [], 0⟩ trivial ?_
  refine AWp.seq ?_
  refine AWp.seq ?_
  obtain ⟨r3, hr3, h⟩ := bind_ok h
  refine q2rr [] [(2, ⟨[q2aWW x1, q2aWW x2], [], [], [], .i r3, [], [], []⟩)] ⟨54, [(0, q2aWW x1), (1, q2aWW x2), (6, .i r3)], [], [], 0⟩ (an1 (cpT (f56_ok _ _ _ hr3))) ?_
  refine thenQ_normal ?_
  refine q2rq [] [] ⟨54, [(0, q2aWW x1), (1, q2aWW x2), (6, .i r3), (17, .bool (r3 != (0 : Int)))], [], [], 0⟩ trivial ?_
  refine AWp.cond (b := (r3 != (0 : Int))) (by kernel_rfl) (fun hc1 => ?_) (fun hc1 => ?_)
  ·
    replace h := ite_tb hc1 h
    refine q2rq [] [] ⟨54, [(4, .nils), (5, .i r3)], [], [], 0⟩ trivial ?_
    refine AWp.le (Le.trans (Le.nilOwn 4 3000 30 2 (encF eWW q2dWW []) rfl rfl (Nat.le_of_ble_eq_true rfl)) (Le.mk (s' := ⟨54, [(4, .own 3000), (5, .i r3)], [(3000, q2bWW_30 [])], [], 0⟩) rfl rfl ⟨.refl _, .refl _, trivial⟩ ⟨⟨_, rfl, .refl _⟩, trivial⟩)) ?_
    have hret := Option.some.inj h
    subst hret
    refine AWp.le (Le.mk (s' := ⟨54, [(4, .own 3000), (5, .i r3)], [(3000, q2bWW_30 [])], [], 0⟩) rfl rfl ⟨.refl _, .refl _, trivial⟩ ⟨⟨_, rfl, .refl _⟩, trivial⟩) ?_
    refine AWp.ret ?_
    refine thenQ_ret ?_
    exact bodyQ_ret _ rfl ⟨rfl, rfl⟩ rfl
  ·
    replace h := ite_fb hc1 h
    refine AWp.skip ?_
    refine thenQ_normal ?_
    refine q2rq [] [] ⟨54, [(0, q2aWW x1), (1, q2aWW x2), (7, .nils)], [], [], 0⟩ trivial ?_
    obtain ⟨K1, hK1, h⟩ := jn_some h
    refine AWp.join (α := List (f27z6)) (fun (l11 : List (f27z6)) => ⟨54, [(7, .own 5007)], [(5007, q2bWW_30 l11)], [], 0⟩) (fun x => K1 x = some r) ?_ ?_
    ·
      refine q2rq [] [] ⟨54, [(1, q2aWW x2), (7, .nils), (19, q2aWW x1), (20, .i (lZ x1)), (21, .i (0 : Int))], [], [], 0⟩ trivial ?_
      refine AWp.block ?_
      refine AWp.loopL (α := Nat × (Nat × (List (f27z6)))) (fun x => match x with | (_, n4, l5) => ⟨54, (f27z4 x2 x1 n4), [(5007, q2bWW_30 l5)], [], 0⟩) (fun x => f27_L0 x1 x2 K1 x.1 x.2 = some r) (fun x => x.1) (FUEL, 0, []) (Le.trans (Le.trans (Le.nilOwn 7 5007 30 2 (encF eWW q2dWW []) rfl rfl (Nat.le_of_ble_eq_true rfl)) (Le.mk (s' := ⟨54, [(1, q2aWW x2), (7, .own 5007), (19, q2aWW x1), (20, .i (lZ x1)), (21, .i (0 : Int))], [(5007, q2bWW_30 [])], [], 0⟩) rfl rfl ⟨.refl _, .refl _, .refl _, .refl _, .refl _, trivial⟩ ⟨⟨_, rfl, .refl _⟩, trivial⟩)) (Le.mk (s' := ⟨54, [(1, q2aWW x2), (7, .own 5007), (19, q2aWW x1), (20, .i (lZ x1)), (21, .i (0 : Int))], [(5007, q2bWW_30 [])], [], 0⟩) rfl rfl ⟨.refl _, .refl _, .refl _, .refl _, .refl _, trivial⟩ ⟨⟨_, rfl, .refl _⟩, trivial⟩)) h ?_
      rintro ⟨k0, n4, l5⟩ h
      cases k0 with
      | zero => exact nomatch (show (none : Option (Int × (List (BitVec 16 × BitVec 16)))) = some r from h)
      | succ k0 =>
      obtain ⟨C0, hC0⟩ : ∃ C, C = f27_L0 x1 x2 K1 k0 := ⟨_, rfl⟩
      replace h := (f27_L0.eq_2 ..).symm.trans h
      try rw [← hC0] at h
      refine q2rq [] [] ⟨54, [(1, q2aWW x2), (7, .own 5007), (19, q2aWW x1), (20, .i (lZ x1)), (21, .i (n4 : Int)), (22, .bool (decide ((n4 : Int) < (lZ x1))))], [(5007, q2bWW_30 l5)], [], 0⟩ trivial ?_
      refine AWp.seq ?_
      refine AWp.cond (b := (decide ((n4 : Int) < (lZ x1)))) (by kernel_rfl) (fun hc2 => ?_) (fun hc2 => ?_)
      ·
        replace h := ite_tb hc2 h
        refine AWp.skip ?_
        refine thenQ_normal ?_
        obtain ⟨K2, hK2, h⟩ := jn_some h
        refine AWp.join (α := List (f27z6)) (fun (l10 : List (f27z6)) => ⟨54, (f27z4 x2 x1 n4), [(5007, q2bWW_30 l10)], [], 0⟩) (fun x => K2 x = some r) ?_ ?_
        ·
          refine AWp.block ?_
          refine AWp.seq ?_
          obtain ⟨ob0p, h⟩ := chk_some h
          have ob0 : 0 ≤ (n4 : Int) ∧ (n4 : Int) < (((x1).length : Nat) : Int) := ⟨by omega, ob0p⟩
          refine q2rr [] [] ⟨54, [(1, q2aWW x2), (7, .own 5007), (9, .ptr 9 0), (19, q2aWW x1), (20, .i (lZ x1)), (21, .i (n4 : Int))], [(9, .cells 30 (f27z3 x1 n4)), (5007, q2bWW_30 l5)], [], 0⟩ (an2 ob0 trivial) ?_
          refine thenQ_normal ?_
          refine q2rq [] [] ⟨54, [(1, q2aWW x2), (7, .own 5007), (9, .ptr 9 0), (19, q2aWW x1), (20, .i (lZ x1)), (21, .i (n4 : Int)), (25, q2aWW x2), (26, .i (lZ x2)), (27, .i (0 : Int))], [(9, .cells 30 (f27z3 x1 n4)), (5007, q2bWW_30 l5)], [], 0⟩ trivial ?_
          refine AWp.block ?_
          refine AWp.loopL (α := Nat × (Nat × (List (f27z6)))) (fun x => match x with | (_, n6, l7) => ⟨54, (f27z1 x2 x1 n4 n6), [(9, .cells 30 (f27z3 x1 n4)), (5007, q2bWW_30 l7)], [], 0⟩) (fun x => f27_L1 x1 x2 n4 K2 x.1 x.2 = some r) (fun x => x.1) (FUEL, 0, l5) (Le.mk (s' := ⟨54, [(1, q2aWW x2), (7, .own 5007), (9, .ptr 9 0), (19, q2aWW x1), (20, .i (lZ x1)), (21, .i (n4 : Int)), (25, q2aWW x2), (26, .i (lZ x2)), (27, .i (0 : Int))], [(9, .cells 30 (f27z3 x1 n4)), (5007, q2bWW_30 l5)], [], 0⟩) rfl rfl ⟨.refl _, .refl _, .refl _, .refl _, .refl _, .refl _, .refl _, .refl _, .refl _, trivial⟩ ⟨⟨_, rfl, .refl _⟩, ⟨_, rfl, .refl _⟩, trivial⟩) h ?_
          rintro ⟨k1, n6, l7⟩ h
          cases k1 with
          | zero => exact nomatch (show (none : Option (Int × (List (BitVec 16 × BitVec 16)))) = some r from h)
          | succ k1 =>
          obtain ⟨C1, hC1⟩ : ∃ C, C = f27_L1 x1 x2 n4 K2 k1 := ⟨_, rfl⟩
          replace h := (f27_L1.eq_2 ..).symm.trans h
          try rw [← hC1] at h
          refine q2rq [] [] ⟨54, [(1, q2aWW x2), (7, .own 5007), (9, .ptr 9 0), (19, q2aWW x1), (20, .i (lZ x1)), (21, .i (n4 : Int)), (25, q2aWW x2), (26, .i (lZ x2)), (27, .i (n6 : Int)), (28, .bool (decide ((n6 : Int) < (lZ x2))))], [(9, .cells 30 (f27z3 x1 n4)), (5007, q2bWW_30 l7)], [], 0⟩ trivial ?_
          refine AWp.seq ?_
          refine AWp.cond (b := (decide ((n6 : Int) < (lZ x2)))) (by kernel_rfl) (fun hc3 => ?_) (fun hc3 => ?_)
          ·
            replace h := ite_tb hc3 h
            refine AWp.skip ?_
            refine thenQ_normal ?_
            refine AWp.seq ?_
            refine AWp.block ?_
            refine AWp.seq ?_
            obtain ⟨ob1p, h⟩ := chk_some h
            have ob1 : 0 ≤ (n6 : Int) ∧ (n6 : Int) < (((x2).length : Nat) : Int) := ⟨by omega, ob1p⟩
            refine q2rr [] [] ⟨54, [(1, q2aWW x2), (7, .own 5007), (9, .ptr 9 0), (11, .ptr 11 0), (19, q2aWW x1), (20, .i (lZ x1)), (21, .i (n4 : Int)), (25, q2aWW x2), (26, .i (lZ x2)), (27, .i (n6 : Int))], [(9, .cells 30 (f27z3 x1 n4)), (11, .cells 30 [.b16 (f27z2 x2 n6).1, .b16 (f27z2 x2 n6).2]), (5007, q2bWW_30 l7)], [], 0⟩ (an2 ob1 trivial) ?_
            refine thenQ_normal ?_
            refine q2rq [] [] ⟨54, [(1, q2aWW x2), (7, .own 5007), (9, .ptr 9 0), (11, .ptr 11 0), (12, .b16 ((f27z0 x1 n4).1 &&& (f27z2 x2 n6).1)), (19, q2aWW x1), (20, .i (lZ x1)), (21, .i (n4 : Int)), (25, q2aWW x2), (26, .i (lZ x2)), (27, .i (n6 : Int))], [(9, .cells 30 (f27z3 x1 n4)), (11, .cells 30 [.b16 (f27z2 x2 n6).1, .b16 (f27z2 x2 n6).2]), (5007, q2bWW_30 l7)], [], 0⟩ trivial ?_
            obtain ⟨r8, hr8, h⟩ := bind_ok h
            obtain ⟨r9, hr9, h⟩ := bind_ok h
            obtain ⟨ob2, h⟩ := chk_some h
            refine q2rr [] [(3, ⟨[.agg (f27z3 x1 n4)], [], [], [], .b16 r8, [], [], []⟩), (5, ⟨[.agg [.b16 (f27z2 x2 n6).1, .b16 (f27z2 x2 n6).2]], [], [], [], .b16 r9, [], [], []⟩)] ⟨54, (f27z1 x2 x1 n4 n6), [(9, .cells 30 (f27z3 x1 n4)), (5007, .rows 30 2 ((l7).length + 1) (appF (l7).length (encF eWW q2dWW l7) (lstF 2 [.b16 ((f27z0 x1 n4).1 &&& (f27z2 x2 n6).1), .b16 ((r8 &&& r9) &&& ~~~((f27z0 x1 n4).1 &&& (f27z2 x2 n6).1))])))], [], 0⟩ (an3 (cpT (f46_ok _ _ _ hr8)) (cpT (f46_ok _ _ _ hr9)) ob2) ?_
            refine blockQ_normal ?_
            refine thenQ_normal ?_
            refine AWp.le (Le.mk (s' := ⟨54, (f27z1 x2 x1 n4 n6), (f27z5 x1 n4 l7 x2 n6 r8 r9), [], 0⟩) rfl rfl ⟨.refl _, .refl _, .refl _, .refl _, .refl _, .refl _, .refl _, .refl _, .refl _, trivial⟩ ⟨⟨_, rfl, .refl _⟩, ⟨_, rfl, (BLe.of (RL.app (RL.self _) (RL.lst (enc := eWW) [(((f27z0 x1 n4).1 &&& (f27z2 x2 n6).1), ((r8 &&& r9) &&& ~~~((f27z0 x1 n4).1 &&& (f27z2 x2 n6).1)))] rfl rfl (fun _ => rfl))))⟩, trivial⟩) ?_
            obtain ⟨ob3p, h⟩ := chk_some h
            have ob3 : -9223372036854775808 ≤ ((n6 : Int) + (1 : Int)) ∧ ((n6 : Int) + (1 : Int)) ≤ 9223372036854775807 := ⟨by omega, ob3p⟩
            refine q2rr [] [] ⟨54, [(1, q2aWW x2), (7, .own 5007), (9, .ptr 9 0), (19, q2aWW x1), (20, .i (lZ x1)), (21, .i (n4 : Int)), (25, q2aWW x2), (26, .i (lZ x2)), (27, .i (((n6 + 1) : Nat) : Int))], (f27z5 x1 n4 l7 x2 n6 r8 r9), [], 0⟩ (an1 ob3) ?_
            rw [hC1] at h
            exact loopQ_normal (_, (n6 + 1), (l7 ++ [(((f27z0 x1 n4).1 &&& (f27z2 x2 n6).1), ((r8 &&& r9) &&& ~~~((f27z0 x1 n4).1 &&& (f27z2 x2 n6).1)))])) (Le.mk rfl rfl ⟨.refl _, .refl _, .refl _, .refl _, .refl _, .refl _, .refl _, .refl _, .refl _, trivial⟩ ⟨⟨_, rfl, .refl _⟩, ⟨_, rfl, .refl _⟩, trivial⟩) h (Nat.lt_succ_self _)
          ·
            replace h := ite_fb hc3 h
            refine AWp.exit ?_
            refine thenQ_exit ?_
            refine thenQ_exit ?_
            refine blockQ_same ?_
            refine blockQ_normal ?_
            exact joinQ_normal (l7) (Le.mk rfl rfl ⟨.refl _, .refl _, .refl _, .refl _, .refl _, trivial⟩ ⟨⟨_, rfl, .refl _⟩, trivial⟩) h
        ·
          rintro l10 h
          replace h := (congrFun hK2 _).symm.trans h
          obtain ⟨ob4p, h⟩ := chk_some h
          have ob4 : -9223372036854775808 ≤ ((n4 : Int) + (1 : Int)) ∧ ((n4 : Int) + (1 : Int)) ≤ 9223372036854775807 := ⟨by omega, ob4p⟩
          refine q2rr [] [] ⟨54, [(1, q2aWW x2), (7, .own 5007), (19, q2aWW x1), (20, .i (lZ x1)), (21, .i (((n4 + 1) : Nat) : Int))], [(5007, q2bWW_30 l10)], [], 0⟩ (an1 ob4) ?_
          rw [hC0] at h
          exact loopQ_normal (_, (n4 + 1), l10) (Le.mk rfl rfl ⟨.refl _, .refl _, .refl _, .refl _, .refl _, trivial⟩ ⟨⟨_, rfl, .refl _⟩, trivial⟩) h (Nat.lt_succ_self _)
      ·
        replace h := ite_fb hc2 h
        refine AWp.exit ?_
        refine thenQ_exit ?_
        refine thenQ_exit ?_
        refine blockQ_same ?_
        exact joinQ_normal (l5) (Le.mk rfl rfl ⟨.refl _, trivial⟩ ⟨⟨_, rfl, .refl _⟩, trivial⟩) h
    ·
      rintro l11 h
      replace h := (congrFun hK1 _).symm.trans h
      refine AWp.seq ?_
      obtain ⟨r12, hr12, h⟩ := bind_ok h
      refine q2rr [] [(1, ⟨[q2aWW l11], [], [], [(6001, q2bWW_30 r12.2)], .tup [.own 6001, .i r12.1], [6001], [5007], []⟩)] ⟨54, [(4, .own 6001), (5, .i r12.1)], [(6001, q2bWW_30 r12.2)], [], 0⟩ (an1 (cpL (c := true) [(5007, q2bWW_30 l11)] [5007] [.own 5007] (fun _ => (Spec1.ren (swapN 3000 6001) (swapN_inv 3000 6001) rfl (f54_ok _ _ hr12))) (fun _ => ⟨.refl _, trivial⟩) (.inr ⟨rfl, ⟨(fun _ _ _ _ => eWW_flat _ _), trivial⟩⟩))) ?_
      refine thenQ_normal ?_
      refine AWp.le (Le.trans (Le.ren (swapN 6001 3000) (swapN_inv 6001 3000) rfl) (Le.mk (s' := ⟨54, [(4, .own 3000), (5, .i r12.1)], [(3000, q2bWW_30 r12.2)], [], 0⟩) rfl rfl ⟨.refl _, .refl _, trivial⟩ ⟨⟨_, rfl, .refl _⟩, trivial⟩)) ?_
      have hret := Option.some.inj h
      subst hret
      refine AWp.le (Le.mk (s' := ⟨54, [(4, .own 3000), (5, .i r12.1)], [(3000, q2bWW_30 r12.2)], [], 0⟩) rfl rfl ⟨.refl _, .refl _, trivial⟩ ⟨⟨_, rfl, .refl _⟩, trivial⟩) ?_
      refine AWp.ret ?_
      exact bodyQ_ret _ rfl ⟨rfl, rfl⟩ rfl
def f22_L0 (x1 : List (BitVec 16 × BitVec 16)) (x2 : List (BitVec 16 × BitVec 16)) (K1 : Unit → Option Bool) : Nat → Nat → Option Bool
  | 0, _ => none
  | k + 1, n3 =>
    if (decide ((n3 : Int) < (((x1).length : Nat) : Int))) then (
    chk ((n3 : Int) < (((x1).length : Nat) : Int)) <|
    chk ((n3 : Int) < (((x2).length : Nat) : Int)) <|
    if (!((((x1.getD n3 (default : BitVec 16 × BitVec 16)).1) == ((x2.getD n3 (default : BitVec 16 × BitVec 16)).1)) && ((((x1.getD n3 (default : BitVec 16 × BitVec 16)).2) == ((x2.getD n3 (default : BitVec 16 × BitVec 16)).2)) && true))) then (
    some false
    ) else (
    chk (((n3 : Int) + (1 : Int)) ≤ 9223372036854775807) <|
    (f22_L0 x1 x2 K1 k) (n3 + 1)
    )
    ) else (
    K1 ()
    )
def f22 (x1 : List (BitVec 16 × BitVec 16)) (x2 : List (BitVec 16 × BitVec 16)) : Option Bool :=
  if ((((x1).length : Nat) : Int) != (((x2).length : Nat) : Int)) then (
  some false
  ) else (
  jn (fun (_ : Unit) =>
  some true
  ) fun (K1 : Unit → Option Bool) =>
  f22_L0 x1 x2 K1 FUEL 0
  )
set_option maxRecDepth 100000 in
theorem f22_ok  (x1 : List (BitVec 16 × BitVec 16)) (x2 : List (BitVec 16 × BitVec 16)) (r : Bool) (h : f22 x1 x2 = some r)  : Spec1 Tryz.prog 22 [] [] [] [vL 2 eWW (default : BitVec 16 × BitVec 16) x1, vL 2 eWW (default : BitVec 16 × BitVec 16) x2] (.bool r) [] := by
  unfold f22 at h
  refine Spec1.body 0 _ _ Tryz.func22 rfl Tryz.ntmps22 rfl rfl ?_
  refine q2rq [] [] ⟨26, [(0, q2aWW x1), (1, q2aWW x2)], [], [], 0⟩ trivial ?_
  refine AWp.seq ?_
  refine q2rq [] [] ⟨26, [(0, q2aWW x1), (1, q2aWW x2), (10, .bool ((lZ x1) != (lZ x2)))], [], [], 0⟩ trivial ?_
  refine AWp.cond (b := ((lZ x1) != (lZ x2))) (by kernel_rfl) (fun hc1 => ?_) (fun hc1 => ?_)
  ·
    replace h := ite_tb hc1 h
    refine q2rq [] [] ⟨26, [(4, .bool false)], [], [], 0⟩ trivial ?_
    have hret := Option.some.inj h
    subst hret
    refine AWp.le (Le.mk (s' := ⟨26, [(4, .bool false)], [], [], 0⟩) rfl rfl ⟨.refl _, trivial⟩ trivial) ?_
    refine AWp.ret ?_
    refine thenQ_ret ?_
    exact bodyQ_ret _ rfl ⟨rfl, rfl⟩ rfl
  ·
    replace h := ite_fb hc1 h
    refine AWp.skip ?_
    refine thenQ_normal ?_
    obtain ⟨K1, hK1, h⟩ := jn_some h
    refine AWp.join (α := Unit) (fun (x : Unit) => match x with | () => ⟨26, [], [], [], 0⟩) (fun x => K1 x = some r) ?_ ?_
    ·
      refine q2rq [] [] ⟨26, [(0, q2aWW x1), (1, q2aWW x2), (5, .i (0 : Int))], [], [], 0⟩ trivial ?_
      refine AWp.block ?_
      refine AWp.loopL (α := Nat × Nat) (fun x => match x with | (_, n3) => ⟨26, [(0, q2aWW x1), (1, q2aWW x2), (5, .i (n3 : Int))], [], [], 0⟩) (fun x => f22_L0 x1 x2 K1 x.1 x.2 = some r) (fun x => x.1) (FUEL, 0) (Le.mk (s' := ⟨26, [(0, q2aWW x1), (1, q2aWW x2), (5, .i (0 : Int))], [], [], 0⟩) rfl rfl ⟨.refl _, .refl _, .refl _, trivial⟩ trivial) h ?_
      rintro ⟨k0, n3⟩ h
      cases k0 with
      | zero => exact nomatch (show (none : Option Bool) = some r from h)
      | succ k0 =>
      obtain ⟨C0, hC0⟩ : ∃ C, C = f22_L0 x1 x2 K1 k0 := ⟨_, rfl⟩
      replace h := (f22_L0.eq_2 ..).symm.trans h
      try rw [← hC0] at h
      refine AWp.seq ?_
      refine q2rq [] [] ⟨26, [(0, q2aWW x1), (1, q2aWW x2), (5, .i (n3 : Int)), (14, .bool (decide ((n3 : Int) < (lZ x1))))], [], [], 0⟩ trivial ?_
      refine AWp.cond (b := (decide ((n3 : Int) < (lZ x1)))) (by kernel_rfl) (fun hc2 => ?_) (fun hc2 => ?_)
      ·
        replace h := ite_tb hc2 h
        refine AWp.skip ?_
        refine thenQ_normal ?_
        refine AWp.seq ?_
        refine AWp.block ?_
        refine AWp.seq ?_
        obtain ⟨ob0p, h⟩ := chk_some h
        have ob0 : 0 ≤ (n3 : Int) ∧ (n3 : Int) < (((x1).length : Nat) : Int) := ⟨by omega, ob0p⟩
        obtain ⟨ob1p, h⟩ := chk_some h
        have ob1 : 0 ≤ (n3 : Int) ∧ (n3 : Int) < (((x2).length : Nat) : Int) := ⟨by omega, ob1p⟩
        refine q2rr [] [] ⟨26, [(0, q2aWW x1), (1, q2aWW x2), (5, .i (n3 : Int)), (25, .bool (!((((x1.getD n3 q2dWW).1) == ((x2.getD n3 q2dWW).1)) && ((((x1.getD n3 q2dWW).2) == ((x2.getD n3 q2dWW).2)) && true))))], [], [], 0⟩ (an2 ob0 ob1) ?_
        refine thenQ_normal ?_
        refine AWp.cond (b := (!((((x1.getD n3 q2dWW).1) == ((x2.getD n3 q2dWW).1)) && ((((x1.getD n3 q2dWW).2) == ((x2.getD n3 q2dWW).2)) && true)))) (by kernel_rfl) (fun hc3 => ?_) (fun hc3 => ?_)
        ·
          replace h := ite_tb hc3 h
          refine q2rq [] [] ⟨26, [(4, .bool false)], [], [], 0⟩ trivial ?_
          have hret := Option.some.inj h
          subst hret
          refine AWp.le (Le.mk (s' := ⟨26, [(4, .bool false)], [], [], 0⟩) rfl rfl ⟨.refl _, trivial⟩ trivial) ?_
          refine AWp.ret ?_
          refine blockQ_ret ?_
          refine thenQ_ret ?_
          refine thenQ_ret ?_
          refine blockQ_ret ?_
          refine joinQ_ret ?_
          exact bodyQ_ret _ rfl ⟨rfl, rfl⟩ rfl
        ·
          replace h := ite_fb hc3 h
          refine AWp.skip ?_
          refine blockQ_normal ?_
          refine thenQ_normal ?_
          obtain ⟨ob2p, h⟩ := chk_some h
          have ob2 : -9223372036854775808 ≤ ((n3 : Int) + (1 : Int)) ∧ ((n3 : Int) + (1 : Int)) ≤ 9223372036854775807 := ⟨by omega, ob2p⟩
          refine q2rr [] [] ⟨26, [(0, q2aWW x1), (1, q2aWW x2), (5, .i (((n3 + 1) : Nat) : Int))], [], [], 0⟩ (an1 ob2) ?_
          rw [hC0] at h
          exact loopQ_normal (_, (n3 + 1)) (Le.mk rfl rfl ⟨.refl _, .refl _, .refl _, trivial⟩ trivial) h (Nat.lt_succ_self _)
      ·
        replace h := ite_fb hc2 h
        refine AWp.exit ?_
        refine thenQ_exit ?_
        refine thenQ_exit ?_
        refine blockQ_same ?_
        exact joinQ_normal () (Le.mk rfl rfl trivial trivial) h
    ·
      rintro ⟨⟩ h
      replace h := (congrFun hK1 _).symm.trans h
      refine q2rq [] [] ⟨26, [(4, .bool true)], [], [], 0⟩ trivial ?_
      have hret := Option.some.inj h
      subst hret
      refine AWp.le (Le.mk (s' := ⟨26, [(4, .bool true)], [], [], 0⟩) rfl rfl ⟨.refl _, trivial⟩ trivial) ?_
      refine AWp.ret ?_
      exact bodyQ_ret _ rfl ⟨rfl, rfl⟩ rfl
def f102 (x1 : Int) : Option (List UInt8) := itoaO x1
theorem f102_ok (x1 : Int) (r : List UInt8) (h : f102 x1 = some r) : Spec1 Tryz.prog 102 [(6, .tab .u64 Lib.pow10Tab)] [] [] [.int .i64 x1] (.str r) [] :=
  itoa_spec (by kernel_rfl) (fun n w h0 h1 ht => Any.strconv_Itoa Tryz.lays171 n h0 h1 w ht) x1 r h
def f62 (x1 : List (List UInt8)) (x2 : List UInt8) : Option (List UInt8) := joinP x1 x2
theorem f62_ok (x1 : List (List UInt8)) (x2 : List UInt8) (r : List UInt8) (h : f62 x1 x2 = some r) : Spec1 Tryz.prog 62 [] [] [] [vL 1 eS [] x1, .str x2] (.str r) [] :=
  join_spec (fun a c sep w => Any.strings_Join_none Tryz.lays156 Tryz.Builder_Extra_156 a c sep w) (fun bk o c xs sep w h1 h2 h3 h4 h5 => Any.strings_Join Tryz.lays156 Tryz.Builder_Extra_156 bk o c xs sep w h1 h2 h3 h4 h5) x1 x2 r h
def f83_L0 (K1 : (List (List UInt8)) → Option (List UInt8)) (r2 : List Int) : Nat → (Nat × List (List UInt8)) → Option (List UInt8)
  | 0, _ => none
  | k + 1, (n3, l4) =>
    if (decide ((n3 : Int) < (((r2).length : Nat) : Int))) then (
    chk ((n3 : Int) < (((r2).length : Nat) : Int)) <|
    chk (n3 < (r2).length) <|
    (f102 (r2.getD n3 0)).bind fun (r5 : List UInt8) =>
    chk (((l4).length + 1) * 16 ≤ 140737488355328) <|
    chk (((n3 : Int) + (1 : Int)) ≤ 9223372036854775807) <|
    (f83_L0 K1 r2 k) ((n3 + 1), (l4 ++ [r5]))
    ) else (
    K1 l4
    )
def f83 (x1 : BitVec 16) : Option (List UInt8) :=
  jn (fun (l6 : List (List UInt8)) =>
  (f62 l6 ([32] : List UInt8)).bind fun (r7 : List UInt8) =>
  chk (([123] : List UInt8).length + r7.length ≤ 9223372036854775807) <|
  chk ((([123] : List UInt8) ++ r7).length + ([125] : List UInt8).length ≤ 9223372036854775807) <|
  some ((([123] : List UInt8) ++ r7) ++ ([125] : List UInt8))
  ) fun (K1 : (List (List UInt8)) → Option (List UInt8)) =>
  (f100 x1).bind fun (r2 : List Int) =>
  f83_L0 K1 r2 FUEL (0, [])
set_option maxRecDepth 100000 in
theorem f83_ok  (x1 : BitVec 16) (r : List UInt8) (h : f83 x1 = some r)  : Spec1 Tryz.prog 83 [(0, .elem 32 1 T0F 0 0), (6, .tab .u64 Lib.pow10Tab)] [] [] [.b16 x1] (.str r) [] := by
  unfold f83 at h
  refine Spec1.body 0 _ _ Tryz.func83 rfl Tryz.ntmps83 rfl rfl ?_
  refine q2rq [] [] ⟨23, [(0, .b16 x1), (1000000, .elem 32 1 T0F 0 0), (1000006, .tab .u64 Lib.pow10Tab)], [], [], 0⟩ trivial ?_
  refine q2rq [] [] ⟨23, [(0, .b16 x1), (3, .nils), (1000000, .elem 32 1 T0F 0 0), (1000006, .tab .u64 Lib.pow10Tab)], [], [], 0⟩ trivial ?_
  obtain ⟨K1, hK1, h⟩ := jn_some h
  refine AWp.join (α := List (List UInt8)) (fun (l6 : List (List UInt8)) => ⟨23, [(3, .own 5003), (1000000, .elem 32 1 T0F 0 0), (1000006, .tab .u64 Lib.pow10Tab)], [(5003, q2bS_9 l6)], [], 0⟩) (fun x => K1 x = some r) ?_ ?_
  ·
    refine AWp.seq ?_
    obtain ⟨r2, hr2, h⟩ := bind_ok h
    refine q2rr [] [(1, ⟨[.b16 x1], [], [], [(6001, q2bI_3 r2)], .own 6001, [6001], [], [0]⟩)] ⟨23, [(3, .nils), (7, .own 6001), (8, .i (lZ r2)), (9, .i (0 : Int)), (1000000, .elem 32 1 T0F 0 0), (1000006, .tab .u64 Lib.pow10Tab)], [(6001, q2bI_3 r2)], [], 0⟩ (an1 (cpT (Spec1.ren (swapN 3000 6001) (swapN_inv 3000 6001) rfl (f100_ok _ _ hr2)))) ?_
    refine thenQ_normal ?_
    refine AWp.block ?_
    refine AWp.loopL (α := Nat × (Nat × List (List UInt8))) (fun x => match x with | (_, n3, l4) => ⟨23, [(3, .own 5003), (7, .own 6001), (8, .i (lZ r2)), (9, .i (n3 : Int)), (1000000, .elem 32 1 T0F 0 0), (1000006, .tab .u64 Lib.pow10Tab)], [(5003, q2bS_9 l4), (6001, q2bI_3 r2)], [], 0⟩) (fun x => f83_L0 K1 r2 x.1 x.2 = some r) (fun x => x.1) (FUEL, 0, []) (Le.trans (Le.trans (Le.nilOwn 3 5003 9 1 (encF eS [] []) rfl rfl (Nat.le_of_ble_eq_true rfl)) (Le.mk (s' := ⟨23, [(3, .own 5003), (7, .own 6001), (8, .i (lZ r2)), (9, .i (0 : Int)), (1000000, .elem 32 1 T0F 0 0), (1000006, .tab .u64 Lib.pow10Tab)], [(6001, q2bI_3 r2), (5003, q2bS_9 [])], [], 0⟩) rfl rfl ⟨.refl _, .refl _, .refl _, .refl _, .refl _, .refl _, trivial⟩ ⟨⟨_, rfl, .refl _⟩, ⟨_, rfl, .refl _⟩, trivial⟩)) (Le.mk (s' := ⟨23, [(3, .own 5003), (7, .own 6001), (8, .i (lZ r2)), (9, .i (0 : Int)), (1000000, .elem 32 1 T0F 0 0), (1000006, .tab .u64 Lib.pow10Tab)], [(5003, q2bS_9 []), (6001, q2bI_3 r2)], [], 0⟩) rfl rfl ⟨.refl _, .refl _, .refl _, .refl _, .refl _, .refl _, trivial⟩ ⟨⟨_, rfl, .refl _⟩, ⟨_, rfl, .refl _⟩, trivial⟩)) h ?_
    rintro ⟨k0, n3, l4⟩ h
    cases k0 with
    | zero => exact nomatch (show (none : Option (List UInt8)) = some r from h)
    | succ k0 =>
    obtain ⟨C0, hC0⟩ : ∃ C, C = f83_L0 K1 r2 k0 := ⟨_, rfl⟩
    replace h := (f83_L0.eq_2 ..).symm.trans h
    try rw [← hC0] at h
    refine q2rq [] [] ⟨23, [(3, .own 5003), (7, .own 6001), (8, .i (lZ r2)), (9, .i (n3 : Int)), (10, .bool (decide ((n3 : Int) < (lZ r2)))), (1000000, .elem 32 1 T0F 0 0), (1000006, .tab .u64 Lib.pow10Tab)], [(5003, q2bS_9 l4), (6001, q2bI_3 r2)], [], 0⟩ trivial ?_
    refine AWp.seq ?_
    refine AWp.cond (b := (decide ((n3 : Int) < (lZ r2)))) (by kernel_rfl) (fun hc1 => ?_) (fun hc1 => ?_)
    ·
      replace h := ite_tb hc1 h
      refine AWp.skip ?_
      refine thenQ_normal ?_
      refine AWp.seq ?_
      refine AWp.block ?_
      refine AWp.seq ?_
      obtain ⟨ob0p, h⟩ := chk_some h
      have ob0 : 0 ≤ (n3 : Int) ∧ (n3 : Int) < (((r2).length : Nat) : Int) := ⟨by omega, ob0p⟩
      obtain ⟨ob1, h⟩ := chk_some h
      refine q2rr [] [] ⟨23, [(3, .own 5003), (5, .i (r2.getD n3 0)), (7, .own 6001), (8, .i (lZ r2)), (9, .i (n3 : Int)), (1000000, .elem 32 1 T0F 0 0), (1000006, .tab .u64 Lib.pow10Tab)], [(5003, q2bS_9 l4), (6001, q2bI_3 r2)], [], 0⟩ (an2 ob0 ob1) ?_
      refine thenQ_normal ?_
      obtain ⟨r5, hr5, h⟩ := bind_ok h
      obtain ⟨ob2, h⟩ := chk_some h
      refine q2rr [] [(2, ⟨[.i (r2.getD n3 0)], [], [], [], .str r5, [], [], [6]⟩)] ⟨23, [(3, .own 5003), (7, .own 6001), (8, .i (lZ r2)), (9, .i (n3 : Int)), (1000000, .elem 32 1 T0F 0 0), (1000006, .tab .u64 Lib.pow10Tab)], [(5003, .rows 9 1 ((l4).length + 1) (appF (l4).length (encF eS [] l4) (lstF 1 [.str r5]))), (6001, q2bI_3 r2)], [], 0⟩ (an2 (cpT (f102_ok _ _ hr5)) ob2) ?_
      refine blockQ_normal ?_
      refine thenQ_normal ?_
      refine AWp.le (Le.mk (s' := ⟨23, [(3, .own 5003), (7, .own 6001), (8, .i (lZ r2)), (9, .i (n3 : Int)), (1000000, .elem 32 1 T0F 0 0), (1000006, .tab .u64 Lib.pow10Tab)], [(5003, q2bS_9 (l4 ++ [r5])), (6001, q2bI_3 r2)], [], 0⟩) rfl rfl ⟨.refl _, .refl _, .refl _, .refl _, .refl _, .refl _, trivial⟩ ⟨⟨_, rfl, (BLe.of (RL.app (RL.self _) (RL.lst (enc := eS) [r5] rfl rfl (fun _ => rfl))))⟩, ⟨_, rfl, .refl _⟩, trivial⟩) ?_
      obtain ⟨ob3p, h⟩ := chk_some h
      have ob3 : -9223372036854775808 ≤ ((n3 : Int) + (1 : Int)) ∧ ((n3 : Int) + (1 : Int)) ≤ 9223372036854775807 := ⟨by omega, ob3p⟩
      refine q2rr [] [] ⟨23, [(3, .own 5003), (7, .own 6001), (8, .i (lZ r2)), (9, .i (((n3 + 1) : Nat) : Int)), (1000000, .elem 32 1 T0F 0 0), (1000006, .tab .u64 Lib.pow10Tab)], [(5003, q2bS_9 (l4 ++ [r5])), (6001, q2bI_3 r2)], [], 0⟩ (an1 ob3) ?_
      rw [hC0] at h
      exact loopQ_normal (_, (n3 + 1), (l4 ++ [r5])) (Le.mk rfl rfl ⟨.refl _, .refl _, .refl _, .refl _, .refl _, .refl _, trivial⟩ ⟨⟨_, rfl, .refl _⟩, ⟨_, rfl, .refl _⟩, trivial⟩) h (Nat.lt_succ_self _)
    ·
      replace h := ite_fb hc1 h
      refine AWp.exit ?_
      refine thenQ_exit ?_
      refine thenQ_exit ?_
      refine blockQ_same ?_
      exact joinQ_normal (l4) (Le.mk rfl rfl ⟨.refl _, .refl _, .refl _, trivial⟩ ⟨⟨_, rfl, .refl _⟩, trivial⟩) h
  ·
    rintro l6 h
    replace h := (congrFun hK1 _).symm.trans h
    refine AWp.seq ?_
    obtain ⟨r7, hr7, h⟩ := bind_ok h
    obtain ⟨ob4, ob5, h⟩ := ck2 h
    refine q2rr [] [(1, ⟨[q2aS l6, .str ([32] : List UInt8)], [], [], [], .str r7, [], [5003], []⟩)] ⟨23, [(2, .str ((([123] : List UInt8) ++ r7) ++ ([125] : List UInt8))), (1000000, .elem 32 1 T0F 0 0), (1000006, .tab .u64 Lib.pow10Tab)], [], [], 0⟩ (an3 (cpL (c := true) [(5003, q2bS_9 l6)] [5003] [.own 5003, .str ([32] : List UInt8)] (fun _ => (f62_ok _ _ _ hr7)) (fun _ => ⟨.refl _, .refl _, trivial⟩) (.inr ⟨rfl, trivial⟩)) ob4 ob5) ?_
    refine thenQ_normal ?_
    have hret := Option.some.inj h
    subst hret
    refine AWp.le (Le.mk (s' := ⟨23, [(2, .str ((([123] : List UInt8) ++ r7) ++ ([125] : List UInt8)))], [], [], 0⟩) rfl rfl ⟨.refl _, trivial⟩ trivial) ?_
    refine AWp.ret ?_
    exact bodyQ_ret _ rfl ⟨rfl, rfl⟩ rfl
abbrev f61z0 := ([98, 121, 122, 32] : List UInt8)
def f61 (x1 : BitVec 16) (x2 : BitVec 16) : Option (List UInt8) :=
  jn (fun (l4 : List (List UInt8)) =>
  jn (fun (l6 : List (List UInt8)) =>
  if ((((l6).length : Nat) : Int) == (0 : Int)) then (
  some ([110, 111, 110, 101] : List UInt8)
  ) else (
  (f62 l6 ([32] : List UInt8)).bind fun (r7 : List UInt8) =>
  some r7
  )
  ) fun (K2 : (List (List UInt8)) → Option (List UInt8)) =>
  if (!(x2 == (BitVec.ofInt 16 0))) then (
  (f83 x2).bind fun (r5 : List UInt8) =>
  chk (cs1.length + r5.length ≤ 9223372036854775807) <|
  chk (((l4).length + 1) * 16 ≤ 140737488355328) <|
  K2 (l4 ++ [(cs1 ++ r5)])
  ) else (
  K2 l4
  )
  ) fun (K1 : (List (List UInt8)) → Option (List UInt8)) =>
  if (!(x1 == (BitVec.ofInt 16 0))) then (
  (f83 x1).bind fun (r3 : List UInt8) =>
  chk (([98, 121, 122, 32] : List UInt8).length + r3.length ≤ 9223372036854775807) <|
  K1 ([(([98, 121, 122, 32] : List UInt8) ++ r3)])
  ) else (
  K1 []
  )
set_option maxRecDepth 100000 in
theorem f61_ok  (x1 : BitVec 16) (x2 : BitVec 16) (r : List UInt8) (h : f61 x1 x2 = some r)  : Spec1 Tryz.prog 61 [(0, .elem 32 1 T0F 0 0), (6, .tab .u64 Lib.pow10Tab)] [] [] [.agg [.b16 x1, .b16 x2]] (.str r) [] := by
  unfold f61 at h
  refine Spec1.body 0 _ _ Tryz.func61 rfl Tryz.ntmps61 rfl rfl ?_
  refine q2rq [] [] ⟨29, [(1, .ptr 1 0), (1000000, .elem 32 1 T0F 0 0), (1000006, .tab .u64 Lib.pow10Tab)], [(1, .cells 30 [.b16 x1, .b16 x2])], [], 0⟩ trivial ?_
  refine q2rq [] [] ⟨29, [(1, .ptr 1 0), (3, .nils), (1000000, .elem 32 1 T0F 0 0), (1000006, .tab .u64 Lib.pow10Tab)], [(1, .cells 30 [.b16 x1, .b16 x2])], [], 0⟩ trivial ?_
  obtain ⟨K1, hK1, h⟩ := jn_some h
  refine AWp.join (α := List (List UInt8)) (fun (l4 : List (List UInt8)) => ⟨29, [(1, .ptr 1 0), (3, .own 13), (1000000, .elem 32 1 T0F 0 0), (1000006, .tab .u64 Lib.pow10Tab)], [(1, .cells 30 [.b16 x1, .b16 x2]), (13, q2bS_9 l4)], [], 0⟩) (fun x => K1 x = some r) ?_ ?_
  ·
    refine q2rq [] [] ⟨29, [(1, .ptr 1 0), (3, .nils), (6, .bool (!(x1 == (q2w16 0)))), (1000000, .elem 32 1 T0F 0 0), (1000006, .tab .u64 Lib.pow10Tab)], [(1, .cells 30 [.b16 x1, .b16 x2])], [], 0⟩ trivial ?_
    refine AWp.cond (b := (!(x1 == (q2w16 0)))) (by kernel_rfl) (fun hc1 => ?_) (fun hc1 => ?_)
    ·
      replace h := ite_tb hc1 h
      obtain ⟨r3, hr3, h⟩ := bind_ok h
      obtain ⟨ob0, h⟩ := chk_some h
      have ob1 : (0 + 1) * 16 ≤ 140737488355328 := by first | decide | omega | simp | (intro h; cases h)
      refine q2rr [] [(3, ⟨[.b16 x1], [], [], [], .str r3, [], [], [0, 6]⟩)] ⟨29, [(1, .ptr 1 0), (3, .own 13), (1000000, .elem 32 1 T0F 0 0), (1000006, .tab .u64 Lib.pow10Tab)], [(1, .cells 30 [.b16 x1, .b16 x2]), (13, .rows 9 1 (0 + 1) (lstF 1 [.str ((f61z0) ++ r3)]))], [], 0⟩ (an3 (cpT (f83_ok _ _ hr3)) ob0 ob1) ?_
      have eq2 : [(([98, 121, 122, 32] : List UInt8) ++ r3)] = ([(([98, 121, 122, 32] : List UInt8) ++ r3)]) := by first | omega | (simp only [List.length_append, List.length_cons, List.length_nil, List.length_take, List.length_drop] at *; omega) | (simp; done) | (simp_all; done) | (simp_all; omega) | rfl
      exact joinQ_normal ([((f61z0) ++ r3)]) (Le.trans (Le.mk (s' := ⟨29, [(1, .ptr 1 0), (3, .own 13), (1000000, .elem 32 1 T0F 0 0), (1000006, .tab .u64 Lib.pow10Tab)], [(1, .cells 30 [.b16 x1, .b16 x2]), (13, q2bS_9 [((f61z0) ++ r3)])], [], 0⟩) rfl rfl ⟨.refl _, .refl _, .refl _, .refl _, trivial⟩ ⟨⟨_, rfl, .refl _⟩, ⟨_, rfl, (BLe.of (RL.app0 (RL.lst (enc := eS) [((f61z0) ++ r3)] rfl rfl (fun _ => rfl))))⟩, trivial⟩) (Le.mk rfl rfl ⟨.refl _, .refl _, .refl _, .refl _, trivial⟩ ⟨⟨_, rfl, .refl _⟩, ⟨_, rfl, (.L eq2)⟩, trivial⟩)) h
    ·
      replace h := ite_fb hc1 h
      refine AWp.skip ?_
      exact joinQ_normal ([]) (Le.trans (Le.trans (Le.nilOwn 3 13 9 1 (encF eS [] []) rfl rfl (Nat.le_of_ble_eq_true rfl)) (Le.mk (s' := ⟨29, [(1, .ptr 1 0), (3, .own 13), (6, .bool (!(x1 == (q2w16 0)))), (1000000, .elem 32 1 T0F 0 0), (1000006, .tab .u64 Lib.pow10Tab)], [(1, .cells 30 [.b16 x1, .b16 x2]), (13, q2bS_9 [])], [], 0⟩) rfl rfl ⟨.refl _, .refl _, .refl _, .refl _, .refl _, trivial⟩ ⟨⟨_, rfl, .refl _⟩, ⟨_, rfl, .refl _⟩, trivial⟩)) (Le.mk rfl rfl ⟨.refl _, .refl _, .refl _, .refl _, trivial⟩ ⟨⟨_, rfl, .refl _⟩, ⟨_, rfl, .refl _⟩, trivial⟩)) h
  ·
    rintro l4 h
    replace h := (congrFun hK1 _).symm.trans h
    obtain ⟨K2, hK2, h⟩ := jn_some h
    refine AWp.join (α := List (List UInt8)) (fun (l6 : List (List UInt8)) => ⟨29, [(3, .own 13), (1000000, .elem 32 1 T0F 0 0), (1000006, .tab .u64 Lib.pow10Tab)], [(13, q2bS_9 l6)], [], 0⟩) (fun x => K2 x = some r) ?_ ?_
    ·
      refine q2rq [] [] ⟨29, [(1, .ptr 1 0), (3, .own 13), (16, .bool (!(x2 == (q2w16 0)))), (1000000, .elem 32 1 T0F 0 0), (1000006, .tab .u64 Lib.pow10Tab)], [(1, .cells 30 [.b16 x1, .b16 x2]), (13, q2bS_9 l4)], [], 0⟩ trivial ?_
      refine AWp.cond (b := (!(x2 == (q2w16 0)))) (by kernel_rfl) (fun hc2 => ?_) (fun hc2 => ?_)
      ·
        replace h := ite_tb hc2 h
        obtain ⟨r5, hr5, h⟩ := bind_ok h
        obtain ⟨ob3, ob4, h⟩ := ck2 h
        refine q2rr [] [(3, ⟨[.b16 x2], [], [], [], .str r5, [], [], [0, 6]⟩)] ⟨29, [(3, .own 13), (1000000, .elem 32 1 T0F 0 0), (1000006, .tab .u64 Lib.pow10Tab)], [(13, .rows 9 1 ((l4).length + 1) (appF (l4).length (encF eS [] l4) (lstF 1 [.str (cs1 ++ r5)])))], [], 0⟩ (an3 (cpT (f83_ok _ _ hr5)) ob3 ob4) ?_
        exact joinQ_normal ((l4 ++ [(cs1 ++ r5)])) (Le.trans (Le.mk (s' := ⟨29, [(3, .own 13), (1000000, .elem 32 1 T0F 0 0), (1000006, .tab .u64 Lib.pow10Tab)], [(13, q2bS_9 (l4 ++ [(cs1 ++ r5)]))], [], 0⟩) rfl rfl ⟨.refl _, .refl _, .refl _, trivial⟩ ⟨⟨_, rfl, (BLe.of (RL.app (RL.self _) (RL.lst (enc := eS) [(cs1 ++ r5)] rfl rfl (fun _ => rfl))))⟩, trivial⟩) (Le.mk rfl rfl ⟨.refl _, .refl _, .refl _, trivial⟩ ⟨⟨_, rfl, .refl _⟩, trivial⟩)) h
      ·
        replace h := ite_fb hc2 h
        refine AWp.skip ?_
        exact joinQ_normal (l4) (Le.mk rfl rfl ⟨.refl _, .refl _, .refl _, trivial⟩ ⟨⟨_, rfl, .refl _⟩, trivial⟩) h
    ·
      rintro l6 h
      replace h := (congrFun hK2 _).symm.trans h
      refine AWp.seq ?_
      refine q2rq [] [] ⟨29, [(3, .own 13), (26, .bool ((lZ l6) == (0 : Int))), (1000000, .elem 32 1 T0F 0 0), (1000006, .tab .u64 Lib.pow10Tab)], [(13, q2bS_9 l6)], [], 0⟩ trivial ?_
      refine AWp.cond (b := ((lZ l6) == (0 : Int))) (by kernel_rfl) (fun hc3 => ?_) (fun hc3 => ?_)
      ·
        replace h := ite_tb hc3 h
        refine q2rq [] [] ⟨29, [(2, .str ([110, 111, 110, 101] : List UInt8)), (1000000, .elem 32 1 T0F 0 0), (1000006, .tab .u64 Lib.pow10Tab)], [], [], 0⟩ trivial ?_
        have hret := Option.some.inj h
        subst hret
        refine AWp.le (Le.mk (s' := ⟨29, [(2, .str ([110, 111, 110, 101] : List UInt8))], [], [], 0⟩) rfl rfl ⟨.refl _, trivial⟩ trivial) ?_
        refine AWp.ret ?_
        refine thenQ_ret ?_
        exact bodyQ_ret _ rfl ⟨rfl, rfl⟩ rfl
      ·
        replace h := ite_fb hc3 h
        refine AWp.skip ?_
        refine thenQ_normal ?_
        refine AWp.seq ?_
        obtain ⟨r7, hr7, h⟩ := bind_ok h
        refine q2rr [] [(1, ⟨[q2aS l6, .str ([32] : List UInt8)], [], [], [], .str r7, [], [13], []⟩)] ⟨29, [(2, .str r7), (1000000, .elem 32 1 T0F 0 0), (1000006, .tab .u64 Lib.pow10Tab)], [], [], 0⟩ (an1 (cpL (c := true) [(13, q2bS_9 l6)] [13] [.own 13, .str ([32] : List UInt8)] (fun _ => (f62_ok _ _ _ hr7)) (fun _ => ⟨.refl _, .refl _, trivial⟩) (.inr ⟨rfl, trivial⟩))) ?_
        refine thenQ_normal ?_
        have hret := Option.some.inj h
        subst hret
        refine AWp.le (Le.mk (s' := ⟨29, [(2, .str r7)], [], [], 0⟩) rfl rfl ⟨.refl _, trivial⟩ trivial) ?_
        refine AWp.ret ?_
        exact bodyQ_ret _ rfl ⟨rfl, rfl⟩ rfl
def f35_L0 (x1 : List (BitVec 16 × BitVec 16)) (K1 : (List (List UInt8)) → Option (List UInt8)) : Nat → (Nat × List (List UInt8)) → Option (List UInt8)
  | 0, _ => none
  | k + 1, (n2, l3) =>
    if (decide ((n2 : Int) < (((x1).length : Nat) : Int))) then (
    chk ((n2 : Int) < (((x1).length : Nat) : Int)) <|
    (f61 ((x1.getD n2 (default : BitVec 16 × BitVec 16)).1) ((x1.getD n2 (default : BitVec 16 × BitVec 16)).2)).bind fun (r4 : List UInt8) =>
    chk (((l3).length + 1) * 16 ≤ 140737488355328) <|
    chk (((n2 : Int) + (1 : Int)) ≤ 9223372036854775807) <|
    (f35_L0 x1 K1 k) ((n2 + 1), (l3 ++ [r4]))
    ) else (
    K1 l3
    )
def f35 (x1 : List (BitVec 16 × BitVec 16)) : Option (List UInt8) :=
  jn (fun (l5 : List (List UInt8)) =>
  (f62 l5 ([32, 124, 32] : List UInt8)).bind fun (r6 : List UInt8) =>
  some r6
  ) fun (K1 : (List (List UInt8)) → Option (List UInt8)) =>
  f35_L0 x1 K1 FUEL (0, [])
set_option maxRecDepth 100000 in
theorem f35_ok  (x1 : List (BitVec 16 × BitVec 16)) (r : List UInt8) (h : f35 x1 = some r)  : Spec1 Tryz.prog 35 [(0, .elem 32 1 T0F 0 0), (6, .tab .u64 Lib.pow10Tab)] [] [] [vL 2 eWW (default : BitVec 16 × BitVec 16) x1] (.str r) [] := by
  unfold f35 at h
  refine Spec1.body 0 _ _ Tryz.func35 rfl Tryz.ntmps35 rfl rfl ?_
  refine q2rq [] [] ⟨20, [(0, q2aWW x1), (1000000, .elem 32 1 T0F 0 0), (1000006, .tab .u64 Lib.pow10Tab)], [], [], 0⟩ trivial ?_
  refine q2rq [] [] ⟨20, [(0, q2aWW x1), (3, .nils), (1000000, .elem 32 1 T0F 0 0), (1000006, .tab .u64 Lib.pow10Tab)], [], [], 0⟩ trivial ?_
  obtain ⟨K1, hK1, h⟩ := jn_some h
  refine AWp.join (α := List (List UInt8)) (fun (l5 : List (List UInt8)) => ⟨20, [(3, .own 5003), (1000000, .elem 32 1 T0F 0 0), (1000006, .tab .u64 Lib.pow10Tab)], [(5003, q2bS_9 l5)], [], 0⟩) (fun x => K1 x = some r) ?_ ?_
  ·
    refine q2rq [] [] ⟨20, [(3, .nils), (6, q2aWW x1), (7, .i (lZ x1)), (8, .i (0 : Int)), (1000000, .elem 32 1 T0F 0 0), (1000006, .tab .u64 Lib.pow10Tab)], [], [], 0⟩ trivial ?_
    refine AWp.block ?_
    refine AWp.loopL (α := Nat × (Nat × List (List UInt8))) (fun x => match x with | (_, n2, l3) => ⟨20, [(3, .own 5003), (6, q2aWW x1), (7, .i (lZ x1)), (8, .i (n2 : Int)), (1000000, .elem 32 1 T0F 0 0), (1000006, .tab .u64 Lib.pow10Tab)], [(5003, q2bS_9 l3)], [], 0⟩) (fun x => f35_L0 x1 K1 x.1 x.2 = some r) (fun x => x.1) (FUEL, 0, []) (Le.trans (Le.trans (Le.nilOwn 3 5003 9 1 (encF eS [] []) rfl rfl (Nat.le_of_ble_eq_true rfl)) (Le.mk (s' := ⟨20, [(3, .own 5003), (6, q2aWW x1), (7, .i (lZ x1)), (8, .i (0 : Int)), (1000000, .elem 32 1 T0F 0 0), (1000006, .tab .u64 Lib.pow10Tab)], [(5003, q2bS_9 [])], [], 0⟩) rfl rfl ⟨.refl _, .refl _, .refl _, .refl _, .refl _, .refl _, trivial⟩ ⟨⟨_, rfl, .refl _⟩, trivial⟩)) (Le.mk (s' := ⟨20, [(3, .own 5003), (6, q2aWW x1), (7, .i (lZ x1)), (8, .i (0 : Int)), (1000000, .elem 32 1 T0F 0 0), (1000006, .tab .u64 Lib.pow10Tab)], [(5003, q2bS_9 [])], [], 0⟩) rfl rfl ⟨.refl _, .refl _, .refl _, .refl _, .refl _, .refl _, trivial⟩ ⟨⟨_, rfl, .refl _⟩, trivial⟩)) h ?_
    rintro ⟨k0, n2, l3⟩ h
    cases k0 with
    | zero => exact nomatch (show (none : Option (List UInt8)) = some r from h)
    | succ k0 =>
    obtain ⟨C0, hC0⟩ : ∃ C, C = f35_L0 x1 K1 k0 := ⟨_, rfl⟩
    replace h := (f35_L0.eq_2 ..).symm.trans h
    try rw [← hC0] at h
    refine q2rq [] [] ⟨20, [(3, .own 5003), (6, q2aWW x1), (7, .i (lZ x1)), (8, .i (n2 : Int)), (9, .bool (decide ((n2 : Int) < (lZ x1)))), (1000000, .elem 32 1 T0F 0 0), (1000006, .tab .u64 Lib.pow10Tab)], [(5003, q2bS_9 l3)], [], 0⟩ trivial ?_
    refine AWp.seq ?_
    refine AWp.cond (b := (decide ((n2 : Int) < (lZ x1)))) (by kernel_rfl) (fun hc1 => ?_) (fun hc1 => ?_)
    ·
      replace h := ite_tb hc1 h
      refine AWp.skip ?_
      refine thenQ_normal ?_
      refine AWp.seq ?_
      refine AWp.block ?_
      refine AWp.seq ?_
      obtain ⟨ob0p, h⟩ := chk_some h
      have ob0 : 0 ≤ (n2 : Int) ∧ (n2 : Int) < (((x1).length : Nat) : Int) := ⟨by omega, ob0p⟩
      refine q2rr [] [] ⟨20, [(3, .own 5003), (5, .ptr 5 0), (6, q2aWW x1), (7, .i (lZ x1)), (8, .i (n2 : Int)), (1000000, .elem 32 1 T0F 0 0), (1000006, .tab .u64 Lib.pow10Tab)], [(5, .cells 30 [.b16 (x1.getD n2 q2dWW).1, .b16 (x1.getD n2 q2dWW).2]), (5003, q2bS_9 l3)], [], 0⟩ (an2 ob0 trivial) ?_
      refine thenQ_normal ?_
      obtain ⟨r4, hr4, h⟩ := bind_ok h
      obtain ⟨ob1, h⟩ := chk_some h
      refine q2rr [] [(2, ⟨[.agg [.b16 (x1.getD n2 q2dWW).1, .b16 (x1.getD n2 q2dWW).2]], [], [], [], .str r4, [], [], [0, 6]⟩)] ⟨20, [(3, .own 5003), (6, q2aWW x1), (7, .i (lZ x1)), (8, .i (n2 : Int)), (1000000, .elem 32 1 T0F 0 0), (1000006, .tab .u64 Lib.pow10Tab)], [(5003, .rows 9 1 ((l3).length + 1) (appF (l3).length (encF eS [] l3) (lstF 1 [.str r4])))], [], 0⟩ (an2 (cpT (f61_ok _ _ _ hr4)) ob1) ?_
      refine blockQ_normal ?_
      refine thenQ_normal ?_
      refine AWp.le (Le.mk (s' := ⟨20, [(3, .own 5003), (6, q2aWW x1), (7, .i (lZ x1)), (8, .i (n2 : Int)), (1000000, .elem 32 1 T0F 0 0), (1000006, .tab .u64 Lib.pow10Tab)], [(5003, q2bS_9 (l3 ++ [r4]))], [], 0⟩) rfl rfl ⟨.refl _, .refl _, .refl _, .refl _, .refl _, .refl _, trivial⟩ ⟨⟨_, rfl, (BLe.of (RL.app (RL.self _) (RL.lst (enc := eS) [r4] rfl rfl (fun _ => rfl))))⟩, trivial⟩) ?_
      obtain ⟨ob2p, h⟩ := chk_some h
      have ob2 : -9223372036854775808 ≤ ((n2 : Int) + (1 : Int)) ∧ ((n2 : Int) + (1 : Int)) ≤ 9223372036854775807 := ⟨by omega, ob2p⟩
      refine q2rr [] [] ⟨20, [(3, .own 5003), (6, q2aWW x1), (7, .i (lZ x1)), (8, .i (((n2 + 1) : Nat) : Int)), (1000000, .elem 32 1 T0F 0 0), (1000006, .tab .u64 Lib.pow10Tab)], [(5003, q2bS_9 (l3 ++ [r4]))], [], 0⟩ (an1 ob2) ?_
      rw [hC0] at h
      exact loopQ_normal (_, (n2 + 1), (l3 ++ [r4])) (Le.mk rfl rfl ⟨.refl _, .refl _, .refl _, .refl _, .refl _, .refl _, trivial⟩ ⟨⟨_, rfl, .refl _⟩, trivial⟩) h (Nat.lt_succ_self _)
    ·
      replace h := ite_fb hc1 h
      refine AWp.exit ?_
      refine thenQ_exit ?_
      refine thenQ_exit ?_
      refine blockQ_same ?_
      exact joinQ_normal (l3) (Le.mk rfl rfl ⟨.refl _, .refl _, .refl _, trivial⟩ ⟨⟨_, rfl, .refl _⟩, trivial⟩) h
  ·
    rintro l5 h
    replace h := (congrFun hK1 _).symm.trans h
    refine AWp.seq ?_
    obtain ⟨r6, hr6, h⟩ := bind_ok h
    refine q2rr [] [(1, ⟨[q2aS l5, .str ([32, 124, 32] : List UInt8)], [], [], [], .str r6, [], [5003], []⟩)] ⟨20, [(2, .str r6), (1000000, .elem 32 1 T0F 0 0), (1000006, .tab .u64 Lib.pow10Tab)], [], [], 0⟩ (an1 (cpL (c := true) [(5003, q2bS_9 l5)] [5003] [.own 5003, .str ([32, 124, 32] : List UInt8)] (fun _ => (f62_ok _ _ _ hr6)) (fun _ => ⟨.refl _, .refl _, trivial⟩) (.inr ⟨rfl, trivial⟩))) ?_
    refine thenQ_normal ?_
    have hret := Option.some.inj h
    subst hret
    refine AWp.le (Le.mk (s' := ⟨20, [(2, .str r6)], [], [], 0⟩) rfl rfl ⟨.refl _, trivial⟩ trivial) ?_
    refine AWp.ret ?_
    exact bodyQ_ret _ rfl ⟨rfl, rfl⟩ rfl
def f64 (x1 : List (BitVec 16)) : Option (List (BitVec 16)) := sortO key x1
theorem f64_ok (x1 r : List (BitVec 16)) (h : f64 x1 = some r) : Spec1 Tryz.prog 64 [] [2000] [(2000, bL 28 1 eW 0#16 x1)] [.own 2000, .fn (.func 65) []] (.tup []) [(2000, bL 28 1 eW 0#16 r)] := sortS x1 r h
def f66_L1 (x1 : List (BitVec 16)) (n2 : Nat) (K2 : (Nat × List (BitVec 16)) → Option (List (BitVec 16))) : Nat → (Nat × Nat × List (BitVec 16)) → Option (List (BitVec 16))
  | 0, _ => none
  | k + 1, (n3, n4, l5) =>
    if (decide ((n4 : Int) < ((((x1).length - n2) : Nat) : Int))) then (
    jn (fun ((n6, l7) : Nat × List (BitVec 16)) =>
    chk (((n4 : Int) + (1 : Int)) ≤ 9223372036854775807) <|
    (f66_L1 x1 n2 K2 k) (n6, (n4 + 1), l7)
    ) fun (K3 : (Nat × List (BitVec 16)) → Option (List (BitVec 16))) =>
    chk ((n4 : Int) < ((((x1).length - n2) : Nat) : Int)) <|
    chk ((n2 + n4) < (l5).length) <|
    chk (-9223372036854775808 ≤ ((n4 : Int) - (1 : Int)) ∧ ((n4 : Int) - (1 : Int)) ≤ 9223372036854775807) <|
    chk (0 ≤ ((n4 : Int) - (1 : Int)) ∧ ((n4 : Int) - (1 : Int)) < ((((x1).length - n2) : Nat) : Int)) <|
    chk ((n2 + ((((n4 : Int) - (1 : Int))).toNat)) < (l5).length) <|
    if (!((l5.getD (n2 + n4) 0#16) == (l5.getD (n2 + ((((n4 : Int) - (1 : Int))).toNat)) 0#16))) then (
    chk ((n4 : Int) < ((((x1).length - n2) : Nat) : Int)) <|
    chk ((n2 + n4) < (l5).length) <|
    chk ((n3 : Int) < (((l5).length : Nat) : Int)) <|
    chk (n3 < (l5).length) <|
    chk (((n3 : Int) + (1 : Int)) ≤ 9223372036854775807) <|
    K3 ((n3 + 1), (l5.set n3 (l5.getD (n2 + n4) 0#16)))
    ) else (
    K3 (n3, l5)
    )
    ) else (
    K2 (n3, l5)
    )
def f66_L0 (x1 : List (BitVec 16)) (K1 : Unit → Option (List (BitVec 16))) : Nat → Nat → Option (List (BitVec 16))
  | 0, _ => none
  | k + 1, n2 =>
    if (decide ((n2 : Int) < (((x1).length : Nat) : Int))) then (
    chk ((n2 : Int) < (((x1).length : Nat) : Int)) <|
    chk (n2 < (x1).length) <|
    chk (-9223372036854775808 ≤ ((n2 : Int) - (1 : Int)) ∧ ((n2 : Int) - (1 : Int)) ≤ 9223372036854775807) <|
    chk (0 ≤ ((n2 : Int) - (1 : Int)) ∧ ((n2 : Int) - (1 : Int)) < (((x1).length : Nat) : Int)) <|
    chk (((((n2 : Int) - (1 : Int))).toNat) < (x1).length) <|
    if ((x1.getD n2 0#16) == (x1.getD ((((n2 : Int) - (1 : Int))).toNat) 0#16)) then (
    chk ((n2 : Int) ≤ (((x1).length : Nat) : Int)) <|
    jn (fun ((n8, l9) : Nat × List (BitVec 16)) =>
    chk ((n8 : Int) ≤ (((l9).length : Nat) : Int)) <|
    chk (n8 + ((l9).length - n8) ≤ (l9).length ∧ 0 < ((l9).length - n8)) <|
    chk ((n8 : Int) ≤ ((((l9.take n8 ++ List.replicate ((l9).length - n8) (BitVec.ofInt 16 0))).length : Nat) : Int)) <|
    chk (n8 ≤ (l9.take n8 ++ List.replicate ((l9).length - n8) (BitVec.ofInt 16 0)).length) <|
    some ((l9.take n8 ++ List.replicate ((l9).length - n8) (BitVec.ofInt 16 0)).take n8)
    ) fun (K2 : (Nat × List (BitVec 16)) → Option (List (BitVec 16))) =>
    f66_L1 x1 n2 K2 FUEL (n2, 1, x1)
    ) else (
    chk (((n2 : Int) + (1 : Int)) ≤ 9223372036854775807) <|
    (f66_L0 x1 K1 k) (n2 + 1)
    )
    ) else (
    K1 ()
    )
abbrev f66z0 (x1 : List (BitVec 16)) : Heap := [(2000, bL 28 1 eW 0#16 x1)]
abbrev f66z1 (l9 : List (BitVec 16)) (n8 : Nat) : Heap := [(2000, bL 28 1 eW 0#16 (l9.take n8 ++ List.replicate ((l9).length - n8) (BitVec.ofInt 16 0)))]
def f66 (x1 : List (BitVec 16)) : Option (List (BitVec 16)) :=
  if (decide ((((x1).length : Nat) : Int) < (2 : Int))) then (
  some x1
  ) else (
  jn (fun (_ : Unit) =>
  some x1
  ) fun (K1 : Unit → Option (List (BitVec 16))) =>
  f66_L0 x1 K1 FUEL 1
  )
set_option maxRecDepth 100000 in
theorem f66_ok  (x1 : List (BitVec 16)) (r : List (BitVec 16)) (h : f66 x1 = some r)  : Spec1 Tryz.prog 66 [] [] [(2000, bL 28 1 eW 0#16 x1)] [.own 2000] (.own 2000) [(2000, bL 28 1 eW 0#16 r)] := by
  unfold f66 at h
  refine Spec1.body 0 _ _ Tryz.func66 rfl Tryz.ntmps66 rfl rfl ?_
  refine q2rq [] [] ⟨61, [(0, .own 2000)], (f66z0 x1), [], 0⟩ trivial ?_
  refine AWp.seq ?_
  refine q2rq [] [] ⟨61, [(0, .own 2000), (8, .bool (decide ((lZ x1) < (2 : Int))))], (f66z0 x1), [], 0⟩ trivial ?_
  refine AWp.cond (b := (decide ((lZ x1) < (2 : Int)))) (by kernel_rfl) (fun hc1 => ?_) (fun hc1 => ?_)
  ·
    replace h := ite_tb hc1 h
    refine q2rq [] [] ⟨61, [(2, .own 2000)], (f66z0 x1), [], 0⟩ trivial ?_
    have hret := Option.some.inj h
    subst hret
    refine AWp.le (Le.mk (s' := ⟨61, [(2, .own 2000)], (f66z0 x1), [], 0⟩) rfl rfl ⟨.refl _, trivial⟩ ⟨⟨_, rfl, .refl _⟩, trivial⟩) ?_
    refine AWp.ret ?_
    refine thenQ_ret ?_
    exact bodyQ_ret _ rfl ⟨rfl, rfl⟩ rfl
  ·
    replace h := ite_fb hc1 h
    refine AWp.skip ?_
    refine thenQ_normal ?_
    obtain ⟨K1, hK1, h⟩ := jn_some h
    refine AWp.join (α := Unit) (fun (x : Unit) => match x with | () => ⟨61, [(0, .own 2000)], (f66z0 x1), [], 0⟩) (fun x => K1 x = some r) ?_ ?_
    ·
      refine q2rq [] [] ⟨61, [(0, .own 2000), (3, .i (1 : Int))], (f66z0 x1), [], 0⟩ trivial ?_
      refine AWp.block ?_
      refine AWp.loopL (α := Nat × Nat) (fun x => match x with | (_, n2) => ⟨61, [(0, .own 2000), (3, .i (n2 : Int))], (f66z0 x1), [], 0⟩) (fun x => f66_L0 x1 K1 x.1 x.2 = some r) (fun x => x.1) (FUEL, 1) (Le.mk (s' := ⟨61, [(0, .own 2000), (3, .i (1 : Int))], (f66z0 x1), [], 0⟩) rfl rfl ⟨.refl _, .refl _, trivial⟩ ⟨⟨_, rfl, .refl _⟩, trivial⟩) h ?_
      rintro ⟨k0, n2⟩ h
      cases k0 with
      | zero => exact nomatch (show (none : Option (List (BitVec 16))) = some r from h)
      | succ k0 =>
      obtain ⟨C0, hC0⟩ : ∃ C, C = f66_L0 x1 K1 k0 := ⟨_, rfl⟩
      replace h := (f66_L0.eq_2 ..).symm.trans h
      try rw [← hC0] at h
      refine AWp.seq ?_
      refine q2rq [] [] ⟨61, [(0, .own 2000), (3, .i (n2 : Int)), (13, .bool (decide ((n2 : Int) < (lZ x1))))], (f66z0 x1), [], 0⟩ trivial ?_
      refine AWp.cond (b := (decide ((n2 : Int) < (lZ x1)))) (by kernel_rfl) (fun hc2 => ?_) (fun hc2 => ?_)
      ·
        replace h := ite_tb hc2 h
        refine AWp.skip ?_
        refine thenQ_normal ?_
        refine AWp.seq ?_
        refine AWp.block ?_
        refine AWp.seq ?_
        obtain ⟨ob0p, h⟩ := chk_some h
        have ob0 : 0 ≤ (n2 : Int) ∧ (n2 : Int) < (((x1).length : Nat) : Int) := ⟨by omega, ob0p⟩
        obtain ⟨ob1, ob2, ob3, ob4, h⟩ := ck4 h
        refine q2rr [] [] ⟨61, [(0, .own 2000), (3, .i (n2 : Int)), (25, .bool ((x1.getD n2 0#16) == (x1.getD ((((n2 : Int) - (1 : Int))).toNat) 0#16)))], (f66z0 x1), [], 0⟩ (an5 ob0 ob1 ob2 ob3 ob4) ?_
        refine thenQ_normal ?_
        refine AWp.cond (b := ((x1.getD n2 0#16) == (x1.getD ((((n2 : Int) - (1 : Int))).toNat) 0#16))) (by kernel_rfl) (fun hc3 => ?_) (fun hc3 => ?_)
        ·
          replace h := ite_tb hc3 h
          refine AWp.seq ?_
          obtain ⟨ob5p, h⟩ := chk_some h
          have ob5 : 0 ≤ (n2 : Int) ∧ (n2 : Int) ≤ (((x1).length : Nat) : Int) := ⟨by omega, ob5p⟩
          refine q2rr [] [] ⟨61, [(0, .own 2000), (3, .i (n2 : Int)), (4, .osl 2000 1 n2 ((x1).length - n2))], (f66z0 x1), [], 0⟩ (an1 ob5) ?_
          refine thenQ_normal ?_
          obtain ⟨K2, hK2, h⟩ := jn_some h
          refine AWp.join (α := Nat × List (BitVec 16)) (fun (x : Nat × List (BitVec 16)) => match x with | (n8, l9) => ⟨61, [(0, .own 2000), (3, .i (n8 : Int))], [(2000, q2bW_28 l9)], [], 0⟩) (fun x => K2 x = some r) ?_ ?_
          ·
            refine q2rq [] [] ⟨61, [(0, .own 2000), (3, .i (n2 : Int)), (4, .osl 2000 1 n2 ((x1).length - n2)), (5, .i (1 : Int))], (f66z0 x1), [], 0⟩ trivial ?_
            refine AWp.block ?_
            refine AWp.loopL (α := Nat × (Nat × Nat × List (BitVec 16))) (fun x => match x with | (_, n3, n4, l5) => ⟨61, [(0, .own 2000), (3, .i (n3 : Int)), (4, .osl 2000 1 n2 ((x1).length - n2)), (5, .i (n4 : Int))], [(2000, q2bW_28 l5)], [], 0⟩) (fun x => f66_L1 x1 n2 K2 x.1 x.2 = some r) (fun x => x.1) (FUEL, n2, 1, x1) (Le.mk (s' := ⟨61, [(0, .own 2000), (3, .i (n2 : Int)), (4, .osl 2000 1 n2 ((x1).length - n2)), (5, .i (1 : Int))], (f66z0 x1), [], 0⟩) rfl rfl ⟨.refl _, .refl _, .refl _, .refl _, trivial⟩ ⟨⟨_, rfl, .refl _⟩, trivial⟩) h ?_
            rintro ⟨k1, n3, n4, l5⟩ h
            cases k1 with
            | zero => exact nomatch (show (none : Option (List (BitVec 16))) = some r from h)
            | succ k1 =>
            obtain ⟨C1, hC1⟩ : ∃ C, C = f66_L1 x1 n2 K2 k1 := ⟨_, rfl⟩
            replace h := (f66_L1.eq_2 ..).symm.trans h
            try rw [← hC1] at h
            refine AWp.seq ?_
            refine q2rq [] [] ⟨61, [(0, .own 2000), (3, .i (n3 : Int)), (4, .osl 2000 1 n2 ((x1).length - n2)), (5, .i (n4 : Int)), (32, .bool (decide ((n4 : Int) < ((((x1).length - n2) : Nat) : Int))))], [(2000, q2bW_28 l5)], [], 0⟩ trivial ?_
            refine AWp.cond (b := (decide ((n4 : Int) < ((((x1).length - n2) : Nat) : Int)))) (by kernel_rfl) (fun hc4 => ?_) (fun hc4 => ?_)
            ·
              replace h := ite_tb hc4 h
              refine AWp.skip ?_
              refine thenQ_normal ?_
              obtain ⟨K3, hK3, h⟩ := jn_some h
              refine AWp.join (α := Nat × List (BitVec 16)) (fun (x : Nat × List (BitVec 16)) => match x with | (n6, l7) => ⟨61, [(0, .own 2000), (3, .i (n6 : Int)), (4, .osl 2000 1 n2 ((x1).length - n2)), (5, .i (n4 : Int))], [(2000, q2bW_28 l7)], [], 0⟩) (fun x => K3 x = some r) ?_ ?_
              ·
                refine AWp.block ?_
                refine AWp.seq ?_
                obtain ⟨ob6p, h⟩ := chk_some h
                have ob6 : 0 ≤ (n4 : Int) ∧ (n4 : Int) < ((((x1).length - n2) : Nat) : Int) := ⟨by omega, ob6p⟩
                obtain ⟨ob7, ob8, ob9, ob10, h⟩ := ck4 h
                refine q2rr [] [] ⟨61, [(0, .own 2000), (3, .i (n3 : Int)), (4, .osl 2000 1 n2 ((x1).length - n2)), (5, .i (n4 : Int)), (44, .bool (!((l5.getD (n2 + n4) 0#16) == (l5.getD (n2 + ((((n4 : Int) - (1 : Int))).toNat)) 0#16))))], [(2000, q2bW_28 l5)], [], 0⟩ (an5 ob6 ob7 ob8 ob9 ob10) ?_
                refine thenQ_normal ?_
                refine AWp.cond (b := (!((l5.getD (n2 + n4) 0#16) == (l5.getD (n2 + ((((n4 : Int) - (1 : Int))).toNat)) 0#16)))) (by kernel_rfl) (fun hc5 => ?_) (fun hc5 => ?_)
                ·
                  replace h := ite_tb hc5 h
                  refine AWp.seq ?_
                  obtain ⟨ob11p, h⟩ := chk_some h
                  have ob11 : 0 ≤ (n4 : Int) ∧ (n4 : Int) < ((((x1).length - n2) : Nat) : Int) := ⟨by omega, ob11p⟩
                  obtain ⟨ob12, ob13p, h⟩ := ck2 h
                  have ob13 : 0 ≤ (n3 : Int) ∧ (n3 : Int) < (((l5).length : Nat) : Int) := ⟨by omega, ob13p⟩
                  obtain ⟨ob14, h⟩ := chk_some h
                  refine q2rr [] [] ⟨61, [(0, .own 2000), (3, .i (n3 : Int)), (4, .osl 2000 1 n2 ((x1).length - n2)), (5, .i (n4 : Int))], [(2000, .rows 28 1 (l5).length (updF (encF eW 0#16 l5) n3 0 [.b16 (l5.getD (n2 + n4) 0#16)]))], [], 0⟩ (an4 ob11 ob12 ob13 ob14) ?_
                  refine thenQ_normal ?_
                  refine AWp.le (Le.mk (s' := ⟨61, [(0, .own 2000), (3, .i (n3 : Int)), (4, .osl 2000 1 n2 ((x1).length - n2)), (5, .i (n4 : Int))], [(2000, q2bW_28 (l5.set n3 (l5.getD (n2 + n4) 0#16)))], [], 0⟩) rfl rfl ⟨.refl _, .refl _, .refl _, .refl _, trivial⟩ ⟨⟨_, rfl, (BLe.of (RL.set (l5.getD (n2 + n4) 0#16) (RL.self _) (by intro j hj; match j, hj with | 0, _ => rfl)))⟩, trivial⟩) ?_
                  obtain ⟨ob15p, h⟩ := chk_some h
                  have ob15 : -9223372036854775808 ≤ ((n3 : Int) + (1 : Int)) ∧ ((n3 : Int) + (1 : Int)) ≤ 9223372036854775807 := ⟨by omega, ob15p⟩
                  refine q2rr [] [] ⟨61, [(0, .own 2000), (3, .i (((n3 + 1) : Nat) : Int)), (4, .osl 2000 1 n2 ((x1).length - n2)), (5, .i (n4 : Int))], [(2000, q2bW_28 (l5.set n3 (l5.getD (n2 + n4) 0#16)))], [], 0⟩ (an1 ob15) ?_
                  refine blockQ_normal ?_
                  exact joinQ_normal ((n3 + 1), (l5.set n3 (l5.getD (n2 + n4) 0#16))) (Le.mk rfl rfl ⟨.refl _, .refl _, .refl _, .refl _, trivial⟩ ⟨⟨_, rfl, .refl _⟩, trivial⟩) h
                ·
                  replace h := ite_fb hc5 h
                  refine AWp.skip ?_
                  refine blockQ_normal ?_
                  exact joinQ_normal (n3, l5) (Le.mk rfl rfl ⟨.refl _, .refl _, .refl _, .refl _, trivial⟩ ⟨⟨_, rfl, .refl _⟩, trivial⟩) h
              ·
                rintro ⟨n6, l7⟩ h
                replace h := (congrFun hK3 _).symm.trans h
                obtain ⟨ob16p, h⟩ := chk_some h
                have ob16 : -9223372036854775808 ≤ ((n4 : Int) + (1 : Int)) ∧ ((n4 : Int) + (1 : Int)) ≤ 9223372036854775807 := ⟨by omega, ob16p⟩
                refine q2rr [] [] ⟨61, [(0, .own 2000), (3, .i (n6 : Int)), (4, .osl 2000 1 n2 ((x1).length - n2)), (5, .i (((n4 + 1) : Nat) : Int))], [(2000, q2bW_28 l7)], [], 0⟩ (an1 ob16) ?_
                rw [hC1] at h
                exact loopQ_normal (_, n6, (n4 + 1), l7) (Le.mk rfl rfl ⟨.refl _, .refl _, .refl _, .refl _, trivial⟩ ⟨⟨_, rfl, .refl _⟩, trivial⟩) h (Nat.lt_succ_self _)
            ·
              replace h := ite_fb hc4 h
              refine AWp.exit ?_
              refine thenQ_exit ?_
              refine thenQ_exit ?_
              refine blockQ_same ?_
              exact joinQ_normal (n3, l5) (Le.mk rfl rfl ⟨.refl _, .refl _, trivial⟩ ⟨⟨_, rfl, .refl _⟩, trivial⟩) h
          ·
            rintro ⟨n8, l9⟩ h
            replace h := (congrFun hK2 _).symm.trans h
            refine AWp.seq ?_
            obtain ⟨ob17p, h⟩ := chk_some h
            have ob17 : 0 ≤ (n8 : Int) ∧ (n8 : Int) ≤ (((l9).length : Nat) : Int) := ⟨by omega, ob17p⟩
            obtain ⟨ob18, h⟩ := chk_some h
            refine q2rr [] [] ⟨61, [(0, .own 2000), (3, .i (n8 : Int))], [(2000, .rows 28 1 (l9).length (clrF (encF eW 0#16 l9) n8 ((l9).length - n8) [.b16 (q2w16 0)]))], [], 0⟩ (an2 ob17 ob18) ?_
            refine thenQ_normal ?_
            refine AWp.le (Le.mk (s' := ⟨61, [(0, .own 2000), (3, .i (n8 : Int))], (f66z1 l9 n8), [], 0⟩) rfl rfl ⟨.refl _, .refl _, trivial⟩ ⟨⟨_, rfl, (BLe.of (RL.clr (q2w16 0) (RL.self _) (by first | omega | (simp only [List.length_append, List.length_cons, List.length_nil, List.length_take, List.length_drop] at *; omega) | (simp; done) | (simp_all; done) | (simp_all; omega) | rfl) rfl))⟩, trivial⟩) ?_
            refine AWp.seq ?_
            obtain ⟨ob19p, h⟩ := chk_some h
            have ob19 : 0 ≤ (n8 : Int) ∧ (n8 : Int) ≤ ((((l9.take n8 ++ List.replicate ((l9).length - n8) (q2w16 0))).length : Nat) : Int) := ⟨by omega, ob19p⟩
            refine q2rr [] [] ⟨61, [(2, .osl 2000 1 0 n8)], (f66z1 l9 n8), [], 0⟩ (an1 ob19) ?_
            refine thenQ_normal ?_
            obtain ⟨hk6, h⟩ := chk_some h
            refine AWp.le (Le.trans (Le.cutOwn 2 2000 n8 hk6 rfl rfl rfl) (Le.mk (s' := ⟨61, [(2, .own 2000)], [(2000, q2bW_28 ((l9.take n8 ++ List.replicate ((l9).length - n8) (q2w16 0)).take n8))], [], 0⟩) rfl rfl ⟨.refl _, trivial⟩ ⟨⟨_, rfl, (BLe.of (RL.take (RL.self _) hk6))⟩, trivial⟩)) ?_
            have hret := Option.some.inj h
            subst hret
            refine AWp.le (Le.mk (s' := ⟨61, [(2, .own 2000)], [(2000, q2bW_28 ((l9.take n8 ++ List.replicate ((l9).length - n8) (q2w16 0)).take n8))], [], 0⟩) rfl rfl ⟨.refl _, trivial⟩ ⟨⟨_, rfl, .refl _⟩, trivial⟩) ?_
            refine AWp.ret ?_
            refine blockQ_ret ?_
            refine thenQ_ret ?_
            refine thenQ_ret ?_
            refine blockQ_ret ?_
            refine joinQ_ret ?_
            exact bodyQ_ret _ rfl ⟨rfl, rfl⟩ rfl
        ·
          replace h := ite_fb hc3 h
          refine AWp.skip ?_
          refine blockQ_normal ?_
          refine thenQ_normal ?_
          obtain ⟨ob20p, h⟩ := chk_some h
          have ob20 : -9223372036854775808 ≤ ((n2 : Int) + (1 : Int)) ∧ ((n2 : Int) + (1 : Int)) ≤ 9223372036854775807 := ⟨by omega, ob20p⟩
          refine q2rr [] [] ⟨61, [(0, .own 2000), (3, .i (((n2 + 1) : Nat) : Int))], (f66z0 x1), [], 0⟩ (an1 ob20) ?_
          rw [hC0] at h
          exact loopQ_normal (_, (n2 + 1)) (Le.mk rfl rfl ⟨.refl _, .refl _, trivial⟩ ⟨⟨_, rfl, .refl _⟩, trivial⟩) h (Nat.lt_succ_self _)
      ·
        replace h := ite_fb hc2 h
        refine AWp.exit ?_
        refine thenQ_exit ?_
        refine thenQ_exit ?_
        refine blockQ_same ?_
        exact joinQ_normal () (Le.mk rfl rfl ⟨.refl _, trivial⟩ ⟨⟨_, rfl, .refl _⟩, trivial⟩) h
    ·
      rintro ⟨⟩ h
      replace h := (congrFun hK1 _).symm.trans h
      refine q2rq [] [] ⟨61, [(2, .own 2000)], (f66z0 x1), [], 0⟩ trivial ?_
      have hret := Option.some.inj h
      subst hret
      refine AWp.le (Le.mk (s' := ⟨61, [(2, .own 2000)], (f66z0 x1), [], 0⟩) rfl rfl ⟨.refl _, trivial⟩ ⟨⟨_, rfl, .refl _⟩, trivial⟩) ?_
      refine AWp.ret ?_
      exact bodyQ_ret _ rfl ⟨rfl, rfl⟩ rfl
def f68 (x1 : BitVec 16) (x2 : BitVec 16) : Option (Bool × BitVec 16) :=
  some (((!(x1 == x2)) && ((x2 &&& ~~~x1) == (BitVec.ofInt 16 0))), x2)
set_option maxRecDepth 100000 in
theorem f68_ok  (x1 : BitVec 16) (x2 : BitVec 16) (r : Bool × BitVec 16) (h : f68 x1 x2 = some r)  : Spec1 Tryz.prog 68 [] [2000] [(2000, .cells 28 [.b16 x2])] [.b16 x1, .ptr 2000 0] (.bool r.1) [(2000, .cells 28 [.b16 r.2])] := by
  unfold f68 at h
  refine Spec1.body 0 _ _ Tryz.func68 rfl Tryz.ntmps68 rfl rfl ?_
  refine q2rq [] [] ⟨13, [(0, .b16 x1), (1, .ptr 2000 0)], [(2000, .cells 28 [.b16 x2])], [2000], 0⟩ trivial ?_
  refine AWp.seq ?_
  have ob0 := idA (((!(x1 == x2)) == true) = true)
  have ob1 := idA (((!(x1 == x2)) == true) = true)
  have ob2 := idA (((!(x1 == x2)) == true) = true)
  have ob3 := bqA (!(x1 == x2)) true
  refine q2rr [] [] ⟨13, [(3, .bool ((!(x1 == x2)) && ((x2 &&& ~~~x1) == (q2w16 0))))], [(2000, .cells 28 [.b16 x2])], [2000], 0⟩ (an3 (an2 ob0 ob1) (an1 ob2) ob3) ?_
  refine thenQ_normal ?_
  have hret := Option.some.inj h
  subst hret
  refine AWp.le (Le.mk (s' := ⟨13, [(3, .bool ((!(x1 == x2)) && ((x2 &&& ~~~x1) == (q2w16 0))))], [(2000, .cells 28 [.b16 x2])], [2000], 0⟩) rfl rfl ⟨.refl _, trivial⟩ ⟨⟨_, rfl, .refl _⟩, trivial⟩) ?_
  refine AWp.ret ?_
  exact bodyQ_ret _ rfl ⟨rfl, rfl⟩ rfl
def f93_L0 (x1 : List (BitVec 16)) (K1 : (BitVec 16) → Option (Int × BitVec 16)) : Nat → (Nat × BitVec 16) → Option (Int × BitVec 16)
  | 0, _ => none
  | k + 1, (n3, w4) =>
    if (decide ((n3 : Int) < (((x1).length : Nat) : Int))) then (
    (f68 (x1.getD n3 0#16) w4).bind fun (r5 : Bool × BitVec 16) =>
    chk ((n3 : Int) < (((x1).length : Nat) : Int)) <|
    if r5.1 then (
    some ((n3 : Int), r5.2)
    ) else (
    chk (((n3 : Int) + (1 : Int)) ≤ 9223372036854775807) <|
    (f93_L0 x1 K1 k) ((n3 + 1), r5.2)
    )
    ) else (
    K1 w4
    )
abbrev f93z0 (r5 : Bool × BitVec 16) : Heap := [(2000, .cells 28 [.b16 r5.2])]
def f93 (x1 : List (BitVec 16)) (x2 : BitVec 16) : Option (Int × BitVec 16) :=
  jn (fun (w6 : BitVec 16) =>
  some ((-1 : Int), w6)
  ) fun (K1 : (BitVec 16) → Option (Int × BitVec 16)) =>
  f93_L0 x1 K1 FUEL (0, x2)
set_option maxRecDepth 100000 in
theorem f93_ok  (x1 : List (BitVec 16)) (x2 : BitVec 16) (r : Int × BitVec 16) (h : f93 x1 x2 = some r)  : Spec1 Tryz.prog 93 [] [2000] [(2000, .cells 28 [.b16 x2])] [vL 1 eW 0#16 x1, .fn (.func 68) [.ptr 2000 0]] (.int .i64 r.1) [(2000, .cells 28 [.b16 r.2])] := by
  unfold f93 at h
  refine Spec1.body 0 _ _ Tryz.func93 rfl Tryz.ntmps93 rfl rfl ?_
  refine q2rq [] [] ⟨19, [(0, q2aW x1), (1, .fn (.func 68) [.ptr 2000 0])], [(2000, .cells 28 [.b16 x2])], [2000], 0⟩ trivial ?_
  obtain ⟨K1, hK1, h⟩ := jn_some h
  refine AWp.join (α := BitVec 16) (fun (w6 : BitVec 16) => ⟨19, [], [(2000, .cells 28 [.b16 w6])], [2000], 0⟩) (fun x => K1 x = some r) ?_ ?_
  ·
    refine q2rq [] [] ⟨19, [(0, q2aW x1), (1, .fn (.func 68) [.ptr 2000 0]), (7, .i (lZ x1)), (8, .i (0 : Int))], [(2000, .cells 28 [.b16 x2])], [2000], 0⟩ trivial ?_
    refine AWp.block ?_
    refine AWp.loopL (α := Nat × (Nat × BitVec 16)) (fun x => match x with | (_, n3, w4) => ⟨19, [(0, q2aW x1), (1, .fn (.func 68) [.ptr 2000 0]), (7, .i (lZ x1)), (8, .i (n3 : Int))], [(2000, .cells 28 [.b16 w4])], [2000], 0⟩) (fun x => f93_L0 x1 K1 x.1 x.2 = some r) (fun x => x.1) (FUEL, 0, x2) (Le.mk (s' := ⟨19, [(0, q2aW x1), (1, .fn (.func 68) [.ptr 2000 0]), (7, .i (lZ x1)), (8, .i (0 : Int))], [(2000, .cells 28 [.b16 x2])], [2000], 0⟩) rfl rfl ⟨.refl _, .refl _, .refl _, .refl _, trivial⟩ ⟨⟨_, rfl, .refl _⟩, trivial⟩) h ?_
    rintro ⟨k0, n3, w4⟩ h
    cases k0 with
    | zero => exact nomatch (show (none : Option (Int × BitVec 16)) = some r from h)
    | succ k0 =>
    obtain ⟨C0, hC0⟩ : ∃ C, C = f93_L0 x1 K1 k0 := ⟨_, rfl⟩
    replace h := (f93_L0.eq_2 ..).symm.trans h
    try rw [← hC0] at h
    refine q2rq [] [] ⟨19, [(0, q2aW x1), (1, .fn (.func 68) [.ptr 2000 0]), (7, .i (lZ x1)), (8, .i (n3 : Int)), (9, .bool (decide ((n3 : Int) < (lZ x1))))], [(2000, .cells 28 [.b16 w4])], [2000], 0⟩ trivial ?_
    refine AWp.seq ?_
    refine AWp.cond (b := (decide ((n3 : Int) < (lZ x1)))) (by kernel_rfl) (fun hc1 => ?_) (fun hc1 => ?_)
    ·
      replace h := ite_tb hc1 h
      refine AWp.skip ?_
      refine thenQ_normal ?_
      refine AWp.seq ?_
      refine AWp.block ?_
      refine q2rq [] [] ⟨19, [(0, q2aW x1), (1, .fn (.func 68) [.ptr 2000 0]), (5, .i (n3 : Int)), (7, .i (lZ x1)), (8, .i (n3 : Int))], [(2000, .cells 28 [.b16 w4])], [2000], 0⟩ trivial ?_
      refine AWp.seq ?_
      obtain ⟨r5, hr5, h⟩ := bind_ok h
      obtain ⟨ob0p, h⟩ := chk_some h
      have ob0 : 0 ≤ (n3 : Int) ∧ (n3 : Int) < (((x1).length : Nat) : Int) := ⟨by omega, ob0p⟩
      refine q2rr [] [(5, ⟨[.b16 (x1.getD n3 0#16), .ptr 2000 0], [2000], [2000], (f93z0 r5), .bool r5.1, [], [], []⟩)] ⟨19, [(0, q2aW x1), (1, .fn (.func 68) [.ptr 2000 0]), (5, .i (n3 : Int)), (7, .i (lZ x1)), (8, .i (n3 : Int)), (16, .bool r5.1)], (f93z0 r5), [2000], 0⟩ (an2 ob0 (cpT (f68_ok _ _ _ hr5))) ?_
      refine thenQ_normal ?_
      refine AWp.cond (b := r5.1) (by kernel_rfl) (fun hc2 => ?_) (fun hc2 => ?_)
      ·
        replace h := ite_tb hc2 h
        refine q2rq [] [] ⟨19, [(4, .i (n3 : Int))], (f93z0 r5), [2000], 0⟩ trivial ?_
        have hret := Option.some.inj h
        subst hret
        refine AWp.le (Le.mk (s' := ⟨19, [(4, .i (n3 : Int))], (f93z0 r5), [2000], 0⟩) rfl rfl ⟨.refl _, trivial⟩ ⟨⟨_, rfl, .refl _⟩, trivial⟩) ?_
        refine AWp.ret ?_
        refine blockQ_ret ?_
        refine thenQ_ret ?_
        refine thenQ_ret ?_
        refine blockQ_ret ?_
        refine joinQ_ret ?_
        exact bodyQ_ret _ rfl ⟨rfl, rfl⟩ rfl
      ·
        replace h := ite_fb hc2 h
        refine AWp.skip ?_
        refine blockQ_normal ?_
        refine thenQ_normal ?_
        obtain ⟨ob1p, h⟩ := chk_some h
        have ob1 : -9223372036854775808 ≤ ((n3 : Int) + (1 : Int)) ∧ ((n3 : Int) + (1 : Int)) ≤ 9223372036854775807 := ⟨by omega, ob1p⟩
        refine q2rr [] [] ⟨19, [(0, q2aW x1), (1, .fn (.func 68) [.ptr 2000 0]), (7, .i (lZ x1)), (8, .i (((n3 + 1) : Nat) : Int))], (f93z0 r5), [2000], 0⟩ (an1 ob1) ?_
        rw [hC0] at h
        exact loopQ_normal (_, (n3 + 1), r5.2) (Le.mk rfl rfl ⟨.refl _, .refl _, .refl _, .refl _, trivial⟩ ⟨⟨_, rfl, .refl _⟩, trivial⟩) h (Nat.lt_succ_self _)
    ·
      replace h := ite_fb hc1 h
      refine AWp.exit ?_
      refine thenQ_exit ?_
      refine thenQ_exit ?_
      refine blockQ_same ?_
      exact joinQ_normal (w4) (Le.mk rfl rfl trivial ⟨⟨_, rfl, .refl _⟩, trivial⟩) h
  ·
    rintro w6 h
    replace h := (congrFun hK1 _).symm.trans h
    refine q2rq [] [] ⟨19, [(4, .i (-1 : Int))], [(2000, .cells 28 [.b16 w6])], [2000], 0⟩ trivial ?_
    have hret := Option.some.inj h
    subst hret
    refine AWp.le (Le.mk (s' := ⟨19, [(4, .i (-1 : Int))], [(2000, .cells 28 [.b16 w6])], [2000], 0⟩) rfl rfl ⟨.refl _, trivial⟩ ⟨⟨_, rfl, .refl _⟩, trivial⟩) ?_
    refine AWp.ret ?_
    exact bodyQ_ret _ rfl ⟨rfl, rfl⟩ rfl
def f67 (x1 : List (BitVec 16)) (x2 : BitVec 16) : Option (Bool × BitVec 16) :=
  (f93 x1 x2).bind fun (r3 : Int × BitVec 16) =>
  some ((decide (r3.1 ≥ (0 : Int))), r3.2)
set_option maxRecDepth 100000 in
theorem f67_ok  (x1 : List (BitVec 16)) (x2 : BitVec 16) (r : Bool × BitVec 16) (h : f67 x1 x2 = some r)  : Spec1 Tryz.prog 67 [] [2000] [(2000, .cells 28 [.b16 x2])] [vL 1 eW 0#16 x1, .fn (.func 68) [.ptr 2000 0]] (.bool r.1) [(2000, .cells 28 [.b16 r.2])] := by
  unfold f67 at h
  refine Spec1.body 0 _ _ Tryz.func67 rfl Tryz.ntmps67 rfl rfl ?_
  refine q2rq [] [] ⟨9, [(0, q2aW x1), (1, .fn (.func 68) [.ptr 2000 0])], [(2000, .cells 28 [.b16 x2])], [2000], 0⟩ trivial ?_
  refine AWp.seq ?_
  obtain ⟨r3, hr3, h⟩ := bind_ok h
  refine q2rr [] [(2, ⟨[q2aW x1, .fn (.func 68) [.ptr 2000 0]], [2000], [2000], [(2000, .cells 28 [.b16 r3.2])], .i r3.1, [], [], []⟩)] ⟨9, [(4, .bool (decide (r3.1 ≥ (0 : Int))))], [(2000, .cells 28 [.b16 r3.2])], [2000], 0⟩ (an1 (cpT (f93_ok _ _ _ hr3))) ?_
  refine thenQ_normal ?_
  have hret := Option.some.inj h
  subst hret
  refine AWp.le (Le.mk (s' := ⟨9, [(4, .bool (decide (r3.1 ≥ (0 : Int))))], [(2000, .cells 28 [.b16 r3.2])], [2000], 0⟩) rfl rfl ⟨.refl _, trivial⟩ ⟨⟨_, rfl, .refl _⟩, trivial⟩) ?_
  refine AWp.ret ?_
  exact bodyQ_ret _ rfl ⟨rfl, rfl⟩ rfl
def f38_L0 (x1 : List (BitVec 16 × BitVec 16)) (K1 : (List (BitVec 16)) → Option (List (BitVec 16))) : Nat → (Nat × List (BitVec 16)) → Option (List (BitVec 16))
  | 0, _ => none
  | k + 1, (n2, l3) =>
    if (decide ((n2 : Int) < (((x1).length : Nat) : Int))) then (
    chk ((n2 : Int) < (((x1).length : Nat) : Int)) <|
    chk (((l3).length + 1) * 2 ≤ 140737488355328) <|
    chk (((n2 : Int) + (1 : Int)) ≤ 9223372036854775807) <|
    (f38_L0 x1 K1 k) ((n2 + 1), (l3 ++ [(x1.getD n2 (default : BitVec 16 × BitVec 16)).1]))
    ) else (
    K1 l3
    )
def f38_L1 (r6 : List (BitVec 16)) (K2 : (List (BitVec 16)) → Option (List (BitVec 16))) : Nat → (Nat × List (BitVec 16)) → Option (List (BitVec 16))
  | 0, _ => none
  | k + 1, (n7, l8) =>
    if (decide ((n7 : Int) < (((r6).length : Nat) : Int))) then (
    jn (fun (l10 : List (BitVec 16)) =>
    chk (((n7 : Int) + (1 : Int)) ≤ 9223372036854775807) <|
    (f38_L1 r6 K2 k) ((n7 + 1), l10)
    ) fun (K3 : (List (BitVec 16)) → Option (List (BitVec 16))) =>
    chk ((n7 : Int) < (((r6).length : Nat) : Int)) <|
    chk (n7 < (r6).length) <|
    (f67 r6 (r6.getD n7 0#16)).bind fun (r9 : Bool × BitVec 16) =>
    if (!r9.1) then (
    chk (((l8).length + 1) * 2 ≤ 140737488355328) <|
    K3 (l8 ++ [r9.2])
    ) else (
    K3 l8
    )
    ) else (
    K2 l8
    )
abbrev f38z0 (r6 : List (BitVec 16)) (n7 : Nat) : List (Nat × V) := [(3, .own 5003), (4, .own 5004), (25, .own 5003), (26, .int .i64 (((r6).length : Nat) : Int)), (27, .int .i64 (n7 : Int))]
abbrev f38z1 (r6 : List (BitVec 16)) (n7 : Nat) : List (Nat × V) := [(3, .own 5003), (4, .own 38), (25, .own 5003), (26, .int .i64 (((r6).length : Nat) : Int)), (27, .int .i64 (n7 : Int))]
abbrev f38z2 (x1 : List (BitVec 16 × BitVec 16)) (n2 : Nat) : List (Nat × V) := [(3, .own 5003), (4, .nils), (9, vL 2 eWW (default : BitVec 16 × BitVec 16) x1), (10, .int .i64 (((x1).length : Nat) : Int)), (11, .int .i64 (n2 : Int))]
abbrev f38z3 (x1 : List (BitVec 16 × BitVec 16)) (n2 : Nat) := (x1.getD n2 (default : BitVec 16 × BitVec 16))
def f38 (x1 : List (BitVec 16 × BitVec 16)) : Option (List (BitVec 16)) :=
  jn (fun (l4 : List (BitVec 16)) =>
  (f64 l4).bind fun (r5 : List (BitVec 16)) =>
  (f66 r5).bind fun (r6 : List (BitVec 16)) =>
  jn (fun (l11 : List (BitVec 16)) =>
  some l11
  ) fun (K2 : (List (BitVec 16)) → Option (List (BitVec 16))) =>
  f38_L1 r6 K2 FUEL (0, [])
  ) fun (K1 : (List (BitVec 16)) → Option (List (BitVec 16))) =>
  f38_L0 x1 K1 FUEL (0, [])
set_option maxRecDepth 100000 in
theorem f38_ok  (x1 : List (BitVec 16 × BitVec 16)) (r : List (BitVec 16)) (h : f38 x1 = some r)  : Spec1 Tryz.prog 38 [] [] [] [vL 2 eWW (default : BitVec 16 × BitVec 16) x1] (.own 3000) [(3000, bL 28 1 eW 0#16 r)] := by
  unfold f38 at h
  refine Spec1.body 0 _ _ Tryz.func38 rfl Tryz.ntmps38 rfl rfl ?_
  refine q2rq [] [] ⟨41, [(0, q2aWW x1)], [], [], 0⟩ trivial ?_
  refine q2rq [] [] ⟨41, [(0, q2aWW x1), (3, .nils), (4, .nils)], [], [], 0⟩ trivial ?_
  obtain ⟨K1, hK1, h⟩ := jn_some h
  refine AWp.join (α := List (BitVec 16)) (fun (l4 : List (BitVec 16)) => ⟨41, [(3, .own 5003), (4, .nils)], [(5003, q2bW_28 l4)], [], 0⟩) (fun x => K1 x = some r) ?_ ?_
  ·
    refine q2rq [] [] ⟨41, [(3, .nils), (4, .nils), (9, q2aWW x1), (10, .i (lZ x1)), (11, .i (0 : Int))], [], [], 0⟩ trivial ?_
    refine AWp.block ?_
    refine AWp.loopL (α := Nat × (Nat × List (BitVec 16))) (fun x => match x with | (_, n2, l3) => ⟨41, (f38z2 x1 n2), [(5003, q2bW_28 l3)], [], 0⟩) (fun x => f38_L0 x1 K1 x.1 x.2 = some r) (fun x => x.1) (FUEL, 0, []) (Le.trans (Le.trans (Le.nilOwn 3 5003 28 1 (encF eW 0#16 []) rfl rfl (Nat.le_of_ble_eq_true rfl)) (Le.mk (s' := ⟨41, [(3, .own 5003), (4, .nils), (9, q2aWW x1), (10, .i (lZ x1)), (11, .i (0 : Int))], [(5003, q2bW_28 [])], [], 0⟩) rfl rfl ⟨.refl _, .refl _, .refl _, .refl _, .refl _, trivial⟩ ⟨⟨_, rfl, .refl _⟩, trivial⟩)) (Le.mk (s' := ⟨41, [(3, .own 5003), (4, .nils), (9, q2aWW x1), (10, .i (lZ x1)), (11, .i (0 : Int))], [(5003, q2bW_28 [])], [], 0⟩) rfl rfl ⟨.refl _, .refl _, .refl _, .refl _, .refl _, trivial⟩ ⟨⟨_, rfl, .refl _⟩, trivial⟩)) h ?_
    rintro ⟨k0, n2, l3⟩ h
    cases k0 with
    | zero => exact nomatch (show (none : Option (List (BitVec 16))) = some r from h)
    | succ k0 =>
    obtain ⟨C0, hC0⟩ : ∃ C, C = f38_L0 x1 K1 k0 := ⟨_, rfl⟩
    replace h := (f38_L0.eq_2 ..).symm.trans h
    try rw [← hC0] at h
    refine q2rq [] [] ⟨41, [(3, .own 5003), (4, .nils), (9, q2aWW x1), (10, .i (lZ x1)), (11, .i (n2 : Int)), (12, .bool (decide ((n2 : Int) < (lZ x1))))], [(5003, q2bW_28 l3)], [], 0⟩ trivial ?_
    refine AWp.seq ?_
    refine AWp.cond (b := (decide ((n2 : Int) < (lZ x1)))) (by kernel_rfl) (fun hc1 => ?_) (fun hc1 => ?_)
    ·
      replace h := ite_tb hc1 h
      refine AWp.skip ?_
      refine thenQ_normal ?_
      refine AWp.seq ?_
      refine AWp.block ?_
      refine AWp.seq ?_
      obtain ⟨ob0p, h⟩ := chk_some h
      have ob0 : 0 ≤ (n2 : Int) ∧ (n2 : Int) < (((x1).length : Nat) : Int) := ⟨by omega, ob0p⟩
      refine q2rr [] [] ⟨41, [(3, .own 5003), (4, .nils), (6, .ptr 6 0), (9, q2aWW x1), (10, .i (lZ x1)), (11, .i (n2 : Int))], [(6, .cells 30 [.b16 (f38z3 x1 n2).1, .b16 (f38z3 x1 n2).2]), (5003, q2bW_28 l3)], [], 0⟩ (an2 ob0 trivial) ?_
      refine thenQ_normal ?_
      obtain ⟨ob1, h⟩ := chk_some h
      refine q2rr [] [] ⟨41, (f38z2 x1 n2), [(5003, .rows 28 1 ((l3).length + 1) (appF (l3).length (encF eW 0#16 l3) (lstF 1 [.b16 (f38z3 x1 n2).1])))], [], 0⟩ (an1 ob1) ?_
      refine blockQ_normal ?_
      refine thenQ_normal ?_
      refine AWp.le (Le.mk (s' := ⟨41, (f38z2 x1 n2), [(5003, q2bW_28 (l3 ++ [(f38z3 x1 n2).1]))], [], 0⟩) rfl rfl ⟨.refl _, .refl _, .refl _, .refl _, .refl _, trivial⟩ ⟨⟨_, rfl, (BLe.of (RL.app (RL.self _) (RL.lst (enc := eW) [(f38z3 x1 n2).1] rfl rfl (fun _ => rfl))))⟩, trivial⟩) ?_
      obtain ⟨ob2p, h⟩ := chk_some h
      have ob2 : -9223372036854775808 ≤ ((n2 : Int) + (1 : Int)) ∧ ((n2 : Int) + (1 : Int)) ≤ 9223372036854775807 := ⟨by omega, ob2p⟩
      refine q2rr [] [] ⟨41, [(3, .own 5003), (4, .nils), (9, q2aWW x1), (10, .i (lZ x1)), (11, .i (((n2 + 1) : Nat) : Int))], [(5003, q2bW_28 (l3 ++ [(f38z3 x1 n2).1]))], [], 0⟩ (an1 ob2) ?_
      rw [hC0] at h
      exact loopQ_normal (_, (n2 + 1), (l3 ++ [(f38z3 x1 n2).1])) (Le.mk rfl rfl ⟨.refl _, .refl _, .refl _, .refl _, .refl _, trivial⟩ ⟨⟨_, rfl, .refl _⟩, trivial⟩) h (Nat.lt_succ_self _)
    ·
      replace h := ite_fb hc1 h
      refine AWp.exit ?_
      refine thenQ_exit ?_
      refine thenQ_exit ?_
      refine blockQ_same ?_
      exact joinQ_normal (l3) (Le.mk rfl rfl ⟨.refl _, .refl _, trivial⟩ ⟨⟨_, rfl, .refl _⟩, trivial⟩) h
  ·
    rintro l4 h
    replace h := (congrFun hK1 _).symm.trans h
    refine AWp.seq ?_
    obtain ⟨r5, hr5, h⟩ := bind_ok h
    refine q2rr [] [(1, ⟨[.own 5003, .fn (.func 65) []], [5003], [5003], [(5003, q2bW_28 r5)], .tup [], [], [], []⟩)] ⟨41, [(3, .own 5003), (4, .nils)], [(5003, q2bW_28 r5)], [], 0⟩ (an1 (cpT (Spec1.ren (swapN 2000 5003) (swapN_inv 2000 5003) rfl (f64_ok _ _ hr5)))) ?_
    refine thenQ_normal ?_
    refine AWp.seq ?_
    obtain ⟨r6, hr6, h⟩ := bind_ok h
    refine q2rr [] [(1, ⟨[.own 5003], [5003], [], [(5003, q2bW_28 r6)], .own 5003, [5003], [], []⟩)] ⟨41, [(3, .own 5003), (4, .nils)], [(5003, q2bW_28 r6)], [], 0⟩ (an1 (cpT (Spec1.ren (swapN 2000 5003) (swapN_inv 2000 5003) rfl (f66_ok _ _ hr6)))) ?_
    refine thenQ_normal ?_
    obtain ⟨K2, hK2, h⟩ := jn_some h
    refine AWp.join (α := List (BitVec 16)) (fun (l11 : List (BitVec 16)) => ⟨41, [(4, .own 5004)], [(5004, q2bW_28 l11)], [], 0⟩) (fun x => K2 x = some r) ?_ ?_
    ·
      refine q2rq [] [] ⟨41, [(3, .own 5003), (4, .nils), (25, .own 5003), (26, .i (lZ r6)), (27, .i (0 : Int))], [(5003, q2bW_28 r6)], [], 0⟩ trivial ?_
      refine AWp.block ?_
      refine AWp.loopL (α := Nat × (Nat × List (BitVec 16))) (fun x => match x with | (_, n7, l8) => ⟨41, (f38z0 r6 n7), [(5003, q2bW_28 r6), (5004, q2bW_28 l8)], [], 0⟩) (fun x => f38_L1 r6 K2 x.1 x.2 = some r) (fun x => x.1) (FUEL, 0, []) (Le.trans (Le.trans (Le.nilOwn 4 5004 28 1 (encF eW 0#16 []) rfl rfl (Nat.le_of_ble_eq_true rfl)) (Le.mk (s' := ⟨41, [(3, .own 5003), (4, .own 5004), (25, .own 5003), (26, .i (lZ r6)), (27, .i (0 : Int))], [(5003, q2bW_28 r6), (5004, q2bW_28 [])], [], 0⟩) rfl rfl ⟨.refl _, .refl _, .refl _, .refl _, .refl _, trivial⟩ ⟨⟨_, rfl, .refl _⟩, ⟨_, rfl, .refl _⟩, trivial⟩)) (Le.mk (s' := ⟨41, [(3, .own 5003), (4, .own 5004), (25, .own 5003), (26, .i (lZ r6)), (27, .i (0 : Int))], [(5003, q2bW_28 r6), (5004, q2bW_28 [])], [], 0⟩) rfl rfl ⟨.refl _, .refl _, .refl _, .refl _, .refl _, trivial⟩ ⟨⟨_, rfl, .refl _⟩, ⟨_, rfl, .refl _⟩, trivial⟩)) h ?_
      rintro ⟨k1, n7, l8⟩ h
      cases k1 with
      | zero => exact nomatch (show (none : Option (List (BitVec 16))) = some r from h)
      | succ k1 =>
      obtain ⟨C1, hC1⟩ : ∃ C, C = f38_L1 r6 K2 k1 := ⟨_, rfl⟩
      replace h := (f38_L1.eq_2 ..).symm.trans h
      try rw [← hC1] at h
      refine q2rq [] [] ⟨41, [(3, .own 5003), (4, .own 5004), (25, .own 5003), (26, .i (lZ r6)), (27, .i (n7 : Int)), (28, .bool (decide ((n7 : Int) < (lZ r6))))], [(5003, q2bW_28 r6), (5004, q2bW_28 l8)], [], 0⟩ trivial ?_
      refine AWp.seq ?_
      refine AWp.cond (b := (decide ((n7 : Int) < (lZ r6)))) (by kernel_rfl) (fun hc2 => ?_) (fun hc2 => ?_)
      ·
        replace h := ite_tb hc2 h
        refine AWp.skip ?_
        refine thenQ_normal ?_
        obtain ⟨K3, hK3, h⟩ := jn_some h
        refine AWp.join (α := List (BitVec 16)) (fun (l10 : List (BitVec 16)) => ⟨41, (f38z1 r6 n7), [(38, q2bW_28 l10), (5003, q2bW_28 r6)], [], 0⟩) (fun x => K3 x = some r) ?_ ?_
        ·
          refine AWp.block ?_
          refine AWp.seq ?_
          obtain ⟨ob3p, h⟩ := chk_some h
          have ob3 : 0 ≤ (n7 : Int) ∧ (n7 : Int) < (((r6).length : Nat) : Int) := ⟨by omega, ob3p⟩
          obtain ⟨ob4, h⟩ := chk_some h
          refine q2rr [] [] ⟨41, [(3, .own 5003), (4, .own 5004), (8, .ptr 8 0), (25, .own 5003), (26, .i (lZ r6)), (27, .i (n7 : Int))], [(8, .cells 28 [.b16 (r6.getD n7 0#16)]), (5003, q2bW_28 r6), (5004, q2bW_28 l8)], [], 0⟩ (an3 ob3 ob4 trivial) ?_
          refine thenQ_normal ?_
          refine AWp.seq ?_
          obtain ⟨r9, hr9, h⟩ := bind_ok h
          refine q2rr [] [(2, ⟨[q2aW r6, .fn (.func 68) [.ptr 8 0]], [8], [8], [(8, .cells 28 [.b16 r9.2])], .bool r9.1, [], [5003], []⟩)] ⟨41, [(3, .own 5003), (4, .own 5004), (8, .ptr 8 0), (25, .own 5003), (26, .i (lZ r6)), (27, .i (n7 : Int)), (34, .bool (!r9.1))], [(8, .cells 28 [.b16 r9.2]), (5003, q2bW_28 r6), (5004, q2bW_28 l8)], [], 0⟩ (an1 (cpL (c := true) [(5003, q2bW_28 r6)] [5003] [.own 5003, .fn (.func 68) [.ptr 8 0]] (fun _ => (Spec1.ren (swapN 2000 8) (swapN_inv 2000 8) rfl (f67_ok _ _ _ hr9))) (fun _ => ⟨.refl _, .refl _, trivial⟩) (.inr ⟨rfl, ⟨rfl, trivial⟩⟩))) ?_
          refine thenQ_normal ?_
          refine AWp.cond (b := (!r9.1)) (by kernel_rfl) (fun hc3 => ?_) (fun hc3 => ?_)
          ·
            replace h := ite_tb hc3 h
            obtain ⟨ob5, h⟩ := chk_some h
            refine q2rr [] [] ⟨41, (f38z0 r6 n7), [(5003, q2bW_28 r6), (5004, .rows 28 1 ((l8).length + 1) (appF (l8).length (encF eW 0#16 l8) (lstF 1 [.b16 r9.2])))], [], 0⟩ (an1 ob5) ?_
            refine blockQ_normal ?_
            exact joinQ_normal ((l8 ++ [r9.2])) (Le.trans (Le.mk (s' := ⟨41, (f38z0 r6 n7), [(5003, q2bW_28 r6), (5004, q2bW_28 (l8 ++ [r9.2]))], [], 0⟩) rfl rfl ⟨.refl _, .refl _, .refl _, .refl _, .refl _, trivial⟩ ⟨⟨_, rfl, .refl _⟩, ⟨_, rfl, (BLe.of (RL.app (RL.self _) (RL.lst (enc := eW) [r9.2] rfl rfl (fun _ => rfl))))⟩, trivial⟩) (Le.trans (Le.trans (Le.ren (swapN 5004 38) (swapN_inv 5004 38) rfl) (Le.mk (s' := ⟨41, (f38z1 r6 n7), [(5003, q2bW_28 r6), (38, q2bW_28 (l8 ++ [r9.2]))], [], 0⟩) rfl rfl ⟨.refl _, .refl _, .refl _, .refl _, .refl _, trivial⟩ ⟨⟨_, rfl, .refl _⟩, ⟨_, rfl, .refl _⟩, trivial⟩)) (Le.mk rfl rfl ⟨.refl _, .refl _, .refl _, .refl _, .refl _, trivial⟩ ⟨⟨_, rfl, .refl _⟩, ⟨_, rfl, .refl _⟩, trivial⟩))) h
          ·
            replace h := ite_fb hc3 h
            refine AWp.skip ?_
            refine blockQ_normal ?_
            exact joinQ_normal (l8) (Le.trans (Le.trans (Le.ren (swapN 5004 38) (swapN_inv 5004 38) rfl) (Le.mk (s' := ⟨41, [(3, .own 5003), (4, .own 38), (8, .ptr 8 0), (25, .own 5003), (26, .i (lZ r6)), (27, .i (n7 : Int)), (34, .bool (!r9.1))], [(8, .cells 28 [.b16 r9.2]), (5003, q2bW_28 r6), (38, q2bW_28 l8)], [], 0⟩) rfl rfl ⟨.refl _, .refl _, .refl _, .refl _, .refl _, .refl _, .refl _, trivial⟩ ⟨⟨_, rfl, .refl _⟩, ⟨_, rfl, .refl _⟩, ⟨_, rfl, .refl _⟩, trivial⟩)) (Le.mk rfl rfl ⟨.refl _, .refl _, .refl _, .refl _, .refl _, trivial⟩ ⟨⟨_, rfl, .refl _⟩, ⟨_, rfl, .refl _⟩, trivial⟩)) h
        ·
          rintro l10 h
          replace h := (congrFun hK3 _).symm.trans h
          obtain ⟨ob6p, h⟩ := chk_some h
          have ob6 : -9223372036854775808 ≤ ((n7 : Int) + (1 : Int)) ∧ ((n7 : Int) + (1 : Int)) ≤ 9223372036854775807 := ⟨by omega, ob6p⟩
          refine q2rr [] [] ⟨41, [(3, .own 5003), (4, .own 38), (25, .own 5003), (26, .i (lZ r6)), (27, .i (((n7 + 1) : Nat) : Int))], [(38, q2bW_28 l10), (5003, q2bW_28 r6)], [], 0⟩ (an1 ob6) ?_
          rw [hC1] at h
          exact loopQ_normal (_, (n7 + 1), l10) (Le.trans (Le.trans (Le.ren (swapN 38 5004) (swapN_inv 38 5004) rfl) (Le.mk (s' := ⟨41, [(3, .own 5003), (4, .own 5004), (25, .own 5003), (26, .i (lZ r6)), (27, .i (((n7 + 1) : Nat) : Int))], [(5004, q2bW_28 l10), (5003, q2bW_28 r6)], [], 0⟩) rfl rfl ⟨.refl _, .refl _, .refl _, .refl _, .refl _, trivial⟩ ⟨⟨_, rfl, .refl _⟩, ⟨_, rfl, .refl _⟩, trivial⟩)) (Le.mk rfl rfl ⟨.refl _, .refl _, .refl _, .refl _, .refl _, trivial⟩ ⟨⟨_, rfl, .refl _⟩, ⟨_, rfl, .refl _⟩, trivial⟩)) h (Nat.lt_succ_self _)
      ·
        replace h := ite_fb hc2 h
        refine AWp.exit ?_
        refine thenQ_exit ?_
        refine thenQ_exit ?_
        refine blockQ_same ?_
        exact joinQ_normal (l8) (Le.mk rfl rfl ⟨.refl _, trivial⟩ ⟨⟨_, rfl, .refl _⟩, trivial⟩) h
    ·
      rintro l11 h
      replace h := (congrFun hK2 _).symm.trans h
      refine q2rq [] [] ⟨41, [(2, .own 5004)], [(5004, q2bW_28 l11)], [], 0⟩ trivial ?_
      refine AWp.le (Le.trans (Le.ren (swapN 5004 3000) (swapN_inv 5004 3000) rfl) (Le.mk (s' := ⟨41, [(2, .own 3000)], [(3000, q2bW_28 l11)], [], 0⟩) rfl rfl ⟨.refl _, trivial⟩ ⟨⟨_, rfl, .refl _⟩, trivial⟩)) ?_
      have hret := Option.some.inj h
      subst hret
      refine AWp.le (Le.mk (s' := ⟨41, [(2, .own 3000)], [(3000, q2bW_28 l11)], [], 0⟩) rfl rfl ⟨.refl _, trivial⟩ ⟨⟨_, rfl, .refl _⟩, trivial⟩) ?_
      refine AWp.ret ?_
      exact bodyQ_ret _ rfl ⟨rfl, rfl⟩ rfl
def f37_L0 (x1 : List (BitVec 16)) (x2 : List (BitVec 16)) (K1 : Unit → Option Bool) : Nat → Nat → Option Bool
  | 0, _ => none
  | k + 1, n3 =>
    if (decide ((n3 : Int) < (((x1).length : Nat) : Int))) then (
    chk ((n3 : Int) < (((x1).length : Nat) : Int)) <|
    chk ((n3 : Int) < (((x2).length : Nat) : Int)) <|
    if (!((x1.getD n3 0#16) == (x2.getD n3 0#16))) then (
    some false
    ) else (
    chk (((n3 : Int) + (1 : Int)) ≤ 9223372036854775807) <|
    (f37_L0 x1 x2 K1 k) (n3 + 1)
    )
    ) else (
    K1 ()
    )
def f37 (x1 : List (BitVec 16)) (x2 : List (BitVec 16)) : Option Bool :=
  if ((((x1).length : Nat) : Int) != (((x2).length : Nat) : Int)) then (
  some false
  ) else (
  jn (fun (_ : Unit) =>
  some true
  ) fun (K1 : Unit → Option Bool) =>
  f37_L0 x1 x2 K1 FUEL 0
  )
end Go.Abs
