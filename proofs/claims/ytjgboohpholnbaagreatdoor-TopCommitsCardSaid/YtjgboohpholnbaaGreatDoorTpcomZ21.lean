/- Part 21 of the proof: Xtz. -/
import Derived.Test.YtjgboohpholnbaaGreatDoorTpcomZ20
namespace Go.Abs
open Go Go.Proofs
set_option maxRecDepth 100000
set_option maxHeartbeats 4000000
abbrev kS := @blockQ_same
abbrev kR := @blockQ_ret
abbrev tE := @thenQ_exit
abbrev kN := @blockQ_normal
abbrev lN := @loopQ_normal
abbrev jN := @joinQ_normal
def eW (x : BitVec 16) : List V := [.b16 x]
theorem eW_flat (x : BitVec 16) (j : Nat) : ((eW x).getD j .any).flat = true := by
 match j with
 | 0 => rfl
 | _ + 1 => rfl
def eWW (x : Tq0) : List V := [.b16 x.1, .b16 x.2]
theorem eWW_flat (x : Tq0) (j : Nat) : ((eWW x).getD j .any).flat = true := by
 match j with
 | 0 => rfl
 | 1 => rfl
 | _ + 2 => rfl
abbrev q2bI_3 (l : List (Int)) : Blk := bL 3 1 eI 0 l
abbrev q2aW (l : List (BitVec 16)) : V := vL 1 eW 0#16 l
abbrev q2bW_27 (l : List (BitVec 16)) : Blk := bL 27 1 eW 0#16 l
abbrev q2aWW (l : List Tq0) : V := vL 2 eWW (default : Tq0) l
abbrev q2bWW_43 (l : List Tq0) : Blk := bL 43 2 eWW (default : Tq0) l
abbrev q2dWW : BitVec 16 × BitVec 16 := default
abbrev q2w16 (i : Int) : BitVec 16 := BitVec.ofInt 16 i
theorem q2rq {Q : Exit → S → Prop} {id : Nat} {draw : Bool} {y : Code} (W : List Nat) (calls : List (Nat × CC)) {l : List Oper} {s : S} (s' : S) {φ : Prop} (hφ : φ) (hQ : AWp Tryz.prog y Q s') (h : Abs.regC Tryz.prog W draw calls (s'.t.map (·.1)) (s'.h.map (·.1)) l s = some (s', φ) := by kernel_rfl) : AWp Tryz.prog (.seq (.region id l.toArray draw) y) Q s := AWp.sq W calls _ _ s' φ Tryz_mixed h hφ hQ
theorem q2rr {Q : Exit → S → Prop} {id : Nat} {draw : Bool} (W : List Nat) (calls : List (Nat × CC)) {l : List Oper} {s : S} (s' : S) {φ : Prop} (hφ : φ) (hQ : Q .normal s') (h : Abs.regC Tryz.prog W draw calls (s'.t.map (·.1)) (s'.h.map (·.1)) l s = some (s', φ) := by kernel_rfl) : AWp Tryz.prog (.region id l.toArray draw) Q s := AWp.regC W calls _ _ s' φ Tryz_mixed h hφ hQ
def f32 (x1 : BitVec 16) (x2 : Int) : Option (BitVec 16 × Int) :=
 some (x1, x2)
theorem f32_ok  (x1 : TB) (x2 : Int) (r : TB × Int) (h : f32 x1 x2 = some r)  : Spec1 Tryz.prog 32 [] [] [] [.b16 x1, .int .i64 x2] (.fn (.func 55) [.ptr 3500 0, .ptr 3501 0]) [(3500, .cells 27 [.b16 r.1]), (3501, .cells 3 [.int .i64 r.2])] := by
 unfold f32 at h
 refine Spec1.body 0 _ _ Tryz.func32 rfl Tryz.ntmps32 rfl rfl ?_
 refine q2rq [] [] ⟨6, [(2, .ptr 2 0), (3, .ptr 3 0)], [(2, .cells 27 [.b16 x1]), (3, .cells 3 [.i x2])], [], 0⟩ trivial ?_
 refine q2rq [] [] ⟨6, [(4, .fn (.func 55) [.ptr 2 0, .ptr 3 0])], [(2, .cells 27 [.b16 x1]), (3, .cells 3 [.i x2])], [], 0⟩ trivial ?_
 refine AWp.le (Le.trans (Le.ren (swapN 2 3500) (swapN_inv 2 3500) rfl) (Le.mk (s' := ⟨6, [(4, .fn (.func 55) [.ptr 3500 0, .ptr 3 0])], [(3500, .cells 27 [.b16 x1]), (3, .cells 3 [.i x2])], [], 0⟩) rfl rfl ⟨.refl _, trivial⟩ ⟨⟨_, rfl, .refl _⟩, ⟨_, rfl, .refl _⟩, trivial⟩)) ?_
 refine AWp.le (Le.trans (Le.ren (swapN 3 3501) (swapN_inv 3 3501) rfl) (Le.mk (s' := ⟨6, [(4, .fn (.func 55) [.ptr 3500 0, .ptr 3501 0])], [(3500, .cells 27 [.b16 x1]), (3501, .cells 3 [.i x2])], [], 0⟩) rfl rfl ⟨.refl _, trivial⟩ ⟨⟨_, rfl, .refl _⟩, ⟨_, rfl, .refl _⟩, trivial⟩)) ?_
 have hret := oJ h
 subst hret
 refine AWp.le (Le.mk (s' := ⟨6, [(4, .fn (.func 55) [.ptr 3500 0, .ptr 3501 0])], [(3500, .cells 27 [.b16 x1]), (3501, .cells 3 [.i x2])], [], 0⟩) rfl rfl ⟨.refl _, trivial⟩ ⟨⟨_, rfl, .refl _⟩, ⟨_, rfl, .refl _⟩, trivial⟩) ?_
 refine AWp.ret ?_
 exact bR _ rfl ⟨rfl, rfl⟩ rfl
def f79 (x1 : BitVec 16) : Option Int :=
 if (x1 == (BitVec.ofInt 16 0)) then (
 some (16 : Int)
 ) else (
 chk (27 ≤ IntKind.bits .u32) <|
 chk (0 ≤ ((IntKind.wrap .u32 ((((x1 &&& (-x1)).toNat : Nat) : Int) * (125613361 : Int))) / 2 ^ 27) ∧ ((IntKind.wrap .u32 ((((x1 &&& (-x1)).toNat : Nat) : Int) * (125613361 : Int))) / 2 ^ 27) < 32) <|
 chk ((((T0.getD (0 + ((((IntKind.wrap .u32 ((((x1 &&& (-x1)).toNat : Nat) : Int) * (125613361 : Int))) / 2 ^ 27)).toNat) * 1 + 0) 0) : Nat) : Int) ≤ 9223372036854775807) <|
 some (((T0.getD (0 + ((((IntKind.wrap .u32 ((((x1 &&& (-x1)).toNat : Nat) : Int) * (125613361 : Int))) / 2 ^ 27)).toNat) * 1 + 0) 0) : Nat) : Int)
 )
theorem f79_ok  (x1 : TB) (r : Int) (h : f79 x1 = some r)  : Spec1 Tryz.prog 79 [(0, .elem 32 1 T0F 0 0)] [] [] [.b16 x1] (.int .i64 r) [] := by
 unfold f79 at h
 refine Spec1.body 0 _ _ Tryz.func79 rfl Tryz.ntmps79 rfl rfl ?_
 refine q2rq [10] [] ⟨15, [(0, .b16 x1), (1000000, .elem 32 1 T0F 0 0)], [], [], 0⟩ trivial ?_
 refine AWp.seq ?_
 refine q2rq [10] [] ⟨15, [(0, .b16 x1), (4, .bool (x1 == (q2w16 0))), (1000000, .elem 32 1 T0F 0 0)], [], [], 0⟩ trivial ?_
 refine AWp.cond (b := (x1 == (q2w16 0))) (by kernel_rfl) (fun hc1 => ?_) (fun hc1 => ?_)
 ·
  replace h := ite_tb hc1 h
  refine q2rq [10] [] ⟨15, [(2, .i (16 : Int)), (1000000, .elem 32 1 T0F 0 0)], [], [], 0⟩ trivial ?_
  have hret := oJ h
  subst hret
  refine AWp.le (Le.mk (s' := ⟨15, [(2, .i (16 : Int))], [], [], 0⟩) rfl rfl ⟨.refl _, trivial⟩ trivial) ?_
  refine AWp.ret ?_
  refine tR ?_
  exact bR _ rfl ⟨rfl, rfl⟩ rfl
 ·
  replace h := ite_fb hc1 h
  refine AWp.skip ?_
  refine tN ?_
  refine AWp.seq ?_
  have ob0 : 0 ≤ (((x1 &&& (-x1)).toNat : Nat) : Int) ∧ (((x1 &&& (-x1)).toNat : Nat) : Int) ≤ 4294967295 := ⟨by omega, by (have := ((x1 &&& (-x1)) : TB).isLt; omega)⟩
  obtain ⟨ob1p, h⟩ := chk_some h
  have ob1 : 0 ≤ (27 : Int) ∧ 27 ≤ IntKind.bits .u32 := ⟨by omega, ob1p⟩
  obtain ⟨ob2, ob3p, h⟩ := ck2 h
  have ob3 : -9223372036854775808 ≤ (((T0.getD (0 + ((((IntKind.wrap .u32 ((((x1 &&& (-x1)).toNat : Nat) : Int) * (125613361 : Int))) / 2 ^ 27)).toNat) * 1 + 0) 0) : Nat) : Int) ∧ (((T0.getD (0 + ((((IntKind.wrap .u32 ((((x1 &&& (-x1)).toNat : Nat) : Int) * (125613361 : Int))) / 2 ^ 27)).toNat) * 1 + 0) 0) : Nat) : Int) ≤ 9223372036854775807 := ⟨by omega, ob3p⟩
  refine q2rr [10] [] ⟨15, [(2, .i (((T0.getD (0 + ((((IntKind.wrap .u32 ((((x1 &&& (-x1)).toNat : Nat) : Int) * (125613361 : Int))) / 2 ^ 27)).toNat) * 1 + 0) 0) : Nat) : Int)), (1000000, .elem 32 1 T0F 0 0)], [], [], 0⟩ (an6 trivial ob0 trivial ob1 ob2 ob3) ?_
  refine tN ?_
  have hret := oJ h
  subst hret
  refine AWp.le (Le.mk (s' := ⟨15, [(2, .i (((T0.getD (0 + ((((IntKind.wrap .u32 ((((x1 &&& (-x1)).toNat : Nat) : Int) * (125613361 : Int))) / 2 ^ 27)).toNat) * 1 + 0) 0) : Nat) : Int))], [], [], 0⟩) rfl rfl ⟨.refl _, trivial⟩ trivial) ?_
  refine AWp.ret ?_
  exact bR _ rfl ⟨rfl, rfl⟩ rfl
def f70_L0 (K1 : (List Int) → Option (List Int)) : Nat → (BitVec 16 × List Int) → Option (List Int)
 | 0, _ => none
 | k + 1, (w2, l3) =>
  if (!(w2 == (BitVec.ofInt 16 0))) then (
  (f79 w2).bind fun (r4 : Int) =>
  chk (((l3).length + 1) * 8 ≤ 140737488355328) <|
  (f70_L0 K1 k) ((w2 &&& (w2 - (BitVec.ofInt 16 1))), (l3 ++ [r4]))
  ) else (
  K1 l3
  )
def f70 (x1 : BitVec 16) : Option (List Int) :=
 jn (fun (l5 : List Int) =>
 some l5
 ) fun (K1 : (List Int) → Option (List Int)) =>
 f70_L0 K1 FUEL (x1, [])
theorem f70_ok  (x1 : TB) (r : List Int) (h : f70 x1 = some r)  : Spec1 Tryz.prog 70 [(0, .elem 32 1 T0F 0 0)] [] [] [.b16 x1] (.own 3000) [(3000, bL 3 1 eI 0 r)] := by
 unfold f70 at h
 refine Spec1.body 0 _ _ Tryz.func70 rfl Tryz.ntmps70 rfl rfl ?_
 refine q2rq [] [] ⟨16, [(0, .b16 x1), (1000000, .elem 32 1 T0F 0 0)], [], [], 0⟩ trivial ?_
 refine q2rq [] [] ⟨16, [(0, .b16 x1), (3, .nils), (1000000, .elem 32 1 T0F 0 0)], [], [], 0⟩ trivial ?_
 obtain ⟨K1, hK1, h⟩ := jn_some h
 refine AWp.join (α := List Int) (fun (l5 : List Int) => ⟨16, [(3, .own 5003), (1000000, .elem 32 1 T0F 0 0)], [(5003, q2bI_3 l5)], [], 0⟩) (fun x => K1 x = some r) ?_ ?_
 ·
  refine AWp.block ?_
  refine AWp.loopL (α := Nat × (TB × List Int)) (fun x => match x with | (_, w2, l3) => ⟨16, [(0, .b16 w2), (3, .own 5003), (1000000, .elem 32 1 T0F 0 0)], [(5003, q2bI_3 l3)], [], 0⟩) (fun x => f70_L0 K1 x.1 x.2 = some r) (fun x => x.1) (FUEL, x1, []) (Le.trans (Le.trans (Le.nilOwn 3 5003 3 1 (encF eI 0 []) rfl rfl (Nat.le_of_ble_eq_true rfl)) (Le.mk (s' := ⟨16, [(0, .b16 x1), (3, .own 5003), (1000000, .elem 32 1 T0F 0 0)], [(5003, q2bI_3 [])], [], 0⟩) rfl rfl ⟨.refl _, .refl _, .refl _, trivial⟩ ⟨⟨_, rfl, .refl _⟩, trivial⟩)) (Le.mk (s' := ⟨16, [(0, .b16 x1), (3, .own 5003), (1000000, .elem 32 1 T0F 0 0)], [(5003, q2bI_3 [])], [], 0⟩) rfl rfl ⟨.refl _, .refl _, .refl _, trivial⟩ ⟨⟨_, rfl, .refl _⟩, trivial⟩)) h ?_
  rintro ⟨k0, w2, l3⟩ h
  cases k0 with
  | zero => exact nomatch (show (none : Option (List Int)) = some r from h)
  | succ k0 =>
  obtain ⟨C0, hC0⟩ : ∃ C, C = f70_L0 K1 k0 := ⟨_, rfl⟩
  replace h := (f70_L0.eq_2 ..).symm.trans h
  try rw [← hC0] at h
  refine AWp.seq ?_
  refine q2rq [] [] ⟨16, [(0, .b16 w2), (3, .own 5003), (5, .bool (!(w2 == (q2w16 0)))), (1000000, .elem 32 1 T0F 0 0)], [(5003, q2bI_3 l3)], [], 0⟩ trivial ?_
  refine AWp.cond (b := (!(w2 == (q2w16 0)))) (by kernel_rfl) (fun hc1 => ?_) (fun hc1 => ?_)
  ·
   replace h := ite_tb hc1 h
   refine AWp.skip ?_
   refine tN ?_
   refine AWp.seq ?_
   refine AWp.block ?_
   obtain ⟨r4, hr4, h⟩ := bind_ok h
   obtain ⟨ob0, h⟩ := chk_some h
   refine q2rr [] [(2, ⟨[.b16 w2], [], [], [], .i r4, [], [], [0]⟩)] ⟨16, [(0, .b16 w2), (3, .own 5003), (1000000, .elem 32 1 T0F 0 0)], [(5003, .rows 3 1 ((l3).length + 1) (appF (l3).length (encF eI 0 l3) (lstF 1 [.i r4])))], [], 0⟩ (an2 (cpT (f79_ok _ _ hr4)) ob0) ?_
   refine kN ?_
   refine tN ?_
   refine AWp.le (Le.mk (s' := ⟨16, [(0, .b16 w2), (3, .own 5003), (1000000, .elem 32 1 T0F 0 0)], [(5003, q2bI_3 (l3 ++ [r4]))], [], 0⟩) rfl rfl ⟨.refl _, .refl _, .refl _, trivial⟩ ⟨⟨_, rfl, (BLe.of (RL.app (RL.self _) (RL.lst (enc := eI) [r4] rfl rfl (fun _ => rfl))))⟩, trivial⟩) ?_
   refine q2rr [] [] ⟨16, [(0, .b16 (w2 &&& (w2 - (q2w16 1)))), (3, .own 5003), (1000000, .elem 32 1 T0F 0 0)], [(5003, q2bI_3 (l3 ++ [r4]))], [], 0⟩ (an1 trivial) ?_
   rw [hC0] at h
   exact lN (_, (w2 &&& (w2 - (q2w16 1))), (l3 ++ [r4])) (Le.mk rfl rfl ⟨.refl _, .refl _, .refl _, trivial⟩ ⟨⟨_, rfl, .refl _⟩, trivial⟩) h (Nat.lt_succ_self _)
  ·
   replace h := ite_fb hc1 h
   refine AWp.exit ?_
   refine tE ?_
   refine tE ?_
   refine kS ?_
   exact jN (l3) (Le.mk rfl rfl ⟨.refl _, .refl _, trivial⟩ ⟨⟨_, rfl, .refl _⟩, trivial⟩) h
 ·
  rintro l5 h
  replace h := (congrFun hK1 _).symm.trans h
  refine q2rq [] [] ⟨16, [(2, .own 5003), (1000000, .elem 32 1 T0F 0 0)], [(5003, q2bI_3 l5)], [], 0⟩ trivial ?_
  refine AWp.le (Le.trans (Le.ren (swapN 5003 3000) (swapN_inv 5003 3000) rfl) (Le.mk (s' := ⟨16, [(2, .own 3000), (1000000, .elem 32 1 T0F 0 0)], [(3000, q2bI_3 l5)], [], 0⟩) rfl rfl ⟨.refl _, .refl _, trivial⟩ ⟨⟨_, rfl, .refl _⟩, trivial⟩)) ?_
  have hret := oJ h
  subst hret
  refine AWp.le (Le.mk (s' := ⟨16, [(2, .own 3000)], [(3000, q2bI_3 l5)], [], 0⟩) rfl rfl ⟨.refl _, trivial⟩ ⟨⟨_, rfl, .refl _⟩, trivial⟩) ?_
  refine AWp.ret ?_
  exact bR _ rfl ⟨rfl, rfl⟩ rfl
def f46_L1 (r8 : List Int) (i9 : Int) (K2 : (BitVec 16) → Option (Bool × Nat × Int × BitVec 16 × BitVec 16 × Int × (List Tq0))) : Nat → (BitVec 16 × Nat) → Option (Bool × Nat × Int × BitVec 16 × BitVec 16 × Int × (List Tq0))
 | 0, _ => none
 | k + 1, (w16, n17) =>
  if (decide ((n17 : Int) < (((r8).length : Nat) : Int))) then (
  jn (fun (w18 : BitVec 16) =>
  chk (((n17 : Int) + (1 : Int)) ≤ 9223372036854775807) <|
  (f46_L1 r8 i9 K2 k) (w18, (n17 + 1))
  ) fun (K3 : (TB) → Option (Bool × Nat × Int × TB × TB × Int × (List Tq0))) =>
  chk ((n17 : Int) < (((r8).length : Nat) : Int)) <|
  chk (n17 < (r8).length) <|
  chk (n17 ≤ IntKind.bits .u32) <|
  if ((bitsI .and .u32 (i9 / 2 ^ n17) (1 : Int)) == (1 : Int)) then (
  chk (0 ≤ (r8.getD n17 0)) <|
  K3 (w16 ||| ((BitVec.ofInt 16 1) <<< (((r8.getD n17 0)).toNat)))
  ) else (
  K3 w16
  )
  ) else (
  K2 w16
  )
def f46_L0 (Y70002 : (Int × BitVec 16 × BitVec 16 × Int × (List Tq0)) → (BitVec 16) → Option (Nat × (Int × BitVec 16 × BitVec 16 × Int × (List Tq0)))) (r8 : List Int) (K1 : (Int × BitVec 16 × BitVec 16 × Int × (List Tq0) × Nat) → Option (Bool × Nat × Int × BitVec 16 × BitVec 16 × Int × (List Tq0))) : Nat → (Int × Int × BitVec 16 × BitVec 16 × Int × (List Tq0) × Nat) → Option (Bool × Nat × Int × BitVec 16 × BitVec 16 × Int × (List Tq0))
 | 0, _ => none
 | k + 1, (i9, i10, w11, w12, i13, l14, n15) =>
  chk ((r8).length ≤ IntKind.bits .u32 ∧ 0 ≤ ((1 : Int) * 2 ^ ((r8).length)) ∧ ((1 : Int) * 2 ^ ((r8).length)) ≤ 4294967295) <|
  if (decide (i9 < ((1 : Int) * 2 ^ ((r8).length)))) then (
  jn (fun (w19 : BitVec 16) =>
  jn (fun ((i21, w22, w23, i24, l25, n26) : Int × BitVec 16 × BitVec 16 × Int × (List Tq0) × Nat) =>
  if (i9 == (0 : Int)) then (
  K1 (i21, w22, w23, i24, l25, n26)
  ) else (
  chk (0 ≤ (i9 + (bitsI .and .u32 i9 (IntKind.wrap .u32 (0 - i9)))) ∧ (i9 + (bitsI .and .u32 i9 (IntKind.wrap .u32 (0 - i9)))) ≤ 4294967295) <|
  chk (0 ≤ (bitsI .xor .u32 i9 (i9 + (bitsI .and .u32 i9 (IntKind.wrap .u32 (0 - i9))))) ∧ 1 ≤ (bitsI .and .u32 i9 (IntKind.wrap .u32 (0 - i9))) ∧ 0 ≤ ((bitsI .xor .u32 i9 (i9 + (bitsI .and .u32 i9 (IntKind.wrap .u32 (0 - i9))))) / (bitsI .and .u32 i9 (IntKind.wrap .u32 (0 - i9)))) ∧ ((bitsI .xor .u32 i9 (i9 + (bitsI .and .u32 i9 (IntKind.wrap .u32 (0 - i9))))) / (bitsI .and .u32 i9 (IntKind.wrap .u32 (0 - i9)))) ≤ 4294967295) <|
  chk (2 ≤ IntKind.bits .u32) <|
  (f46_L0 Y70002 r8 K1 k) ((bitsI .or .u32 (i9 + (bitsI .and .u32 i9 (IntKind.wrap .u32 (0 - i9)))) (((bitsI .xor .u32 i9 (i9 + (bitsI .and .u32 i9 (IntKind.wrap .u32 (0 - i9))))) / (bitsI .and .u32 i9 (IntKind.wrap .u32 (0 - i9)))) / 2 ^ 2)), i21, w22, w23, i24, l25, n26)
  )
  ) fun (K4 : (Int × TB × TB × Int × (List Tq0) × Nat) → Option (Bool × Nat × Int × TB × TB × Int × (List Tq0))) =>
  chk (n15 = 0) <|
  (Y70002 (i13, w12, w11, i10, l14) w19).bind fun (r20 : Nat × (Int × TB × TB × Int × (List Tq0))) =>
  if r20.1 = 0 then (
  if (!true) then (
  some (false, 0, r20.2.1, r20.2.2.1, r20.2.2.2.1, r20.2.2.2.2.1, r20.2.2.2.2.2)
  ) else (
  K4 (r20.2.2.2.2.1, r20.2.2.2.1, r20.2.2.1, r20.2.1, r20.2.2.2.2.2, 0)
  )
  ) else (
  if (!false) then (
  some (false, r20.1, r20.2.1, r20.2.2.1, r20.2.2.2.1, r20.2.2.2.2.1, r20.2.2.2.2.2)
  ) else (
  K4 (r20.2.2.2.2.1, r20.2.2.2.1, r20.2.2.1, r20.2.1, r20.2.2.2.2.2, r20.1)
  )
  )
  ) fun (K2 : (TB) → Option (Bool × Nat × Int × TB × TB × Int × (List Tq0))) =>
  f46_L1 r8 i9 K2 FUEL ((BitVec.ofInt 16 0), 0)
  ) else (
  K1 (i10, w11, w12, i13, l14, n15)
  )
abbrev f46z0 (i13 : Int) (w12 : TB) (w11 : TB) (i10 : Int) (l14 : List Tq0) (r8 : List Int) (C70002 : YC) (n15 : Nat) : Heap := [(6, .cells 23 [.nils]), (7, .cells 37 [.int .i64 i13]), (9, .cells 23 [.own 6400]), (10, .cells 27 [.b16 w12]), (6003, .cells 27 [.b16 w11]), (6004, .cells 3 [.int .i64 i10]), (6400, bL 43 2 eWW (default : Tq0) l14), (26001, bL 3 1 eI 0 r8), (70002, .yld (some ([6, 7, 9, 10], C70002)) n15)]
abbrev f46z1 (i24 : Int) (w23 : TB) (w22 : TB) (i21 : Int) (l25 : List Tq0) (r8 : List Int) (C70002 : YC) (n26 : Nat) : Heap := [(6, .cells 23 [.nils]), (7, .cells 37 [.int .i64 i24]), (9, .cells 23 [.own 6400]), (10, .cells 27 [.b16 w23]), (6003, .cells 27 [.b16 w22]), (6004, .cells 3 [.int .i64 i21]), (6400, bL 43 2 eWW (default : Tq0) l25), (26001, bL 3 1 eI 0 r8), (70002, .yld (some ([6, 7, 9, 10], C70002)) n26)]
abbrev f46z2 (r20 : Nat × (Int × TB × TB × Int × (List Tq0))) : Heap := [(6, .cells 23 [.nils]), (7, .cells 37 [.int .i64 r20.2.1]), (9, .cells 23 [.own 6400]), (10, .cells 27 [.b16 r20.2.2.1]), (6003, .cells 27 [.b16 r20.2.2.2.1]), (6004, .cells 3 [.int .i64 r20.2.2.2.2.1]), (6400, bL 43 2 eWW (default : Tq0) r20.2.2.2.2.2)]
abbrev f46z3 (x3 : Int) (x4 : TB) (x5 : TB) (x6 : Int) (x7 : List Tq0) (r8 : List Int) (C70002 : YC) : Heap := [(6, .cells 23 [.nils]), (7, .cells 37 [.int .i64 x3]), (9, .cells 23 [.own 6400]), (10, .cells 27 [.b16 x4]), (6003, .cells 27 [.b16 x5]), (6004, .cells 3 [.int .i64 x6]), (6400, bL 43 2 eWW (default : Tq0) x7), (26001, bL 3 1 eI 0 r8), (70002, .yld (some ([6, 7, 9, 10], C70002)) 0)]
abbrev f46z4 (C70002 : YC) (r20 : Nat × (Int × TB × TB × Int × (List Tq0))) : Heap := [(70002, .yld (some ([6, 7, 9, 10], C70002)) r20.1), (6, .cells 23 [.nils]), (7, .cells 37 [.int .i64 r20.2.1]), (9, .cells 23 [.own 6400]), (10, .cells 27 [.b16 r20.2.2.1]), (6003, .cells 27 [.b16 r20.2.2.2.1]), (6004, .cells 3 [.int .i64 r20.2.2.2.2.1]), (6400, bL 43 2 eWW (default : Tq0) r20.2.2.2.2.2)]
abbrev f46z5 (C70002 : YC) (r20 : Nat × (Int × TB × TB × Int × (List Tq0))) : Heap := [(70002, .yld (some ([6, 7, 9, 10], C70002)) 0), (6, .cells 23 [.nils]), (7, .cells 37 [.int .i64 r20.2.1]), (9, .cells 23 [.own 6400]), (10, .cells 27 [.b16 r20.2.2.1]), (6003, .cells 27 [.b16 r20.2.2.2.1]), (6004, .cells 3 [.int .i64 r20.2.2.2.2.1]), (6400, bL 43 2 eWW (default : Tq0) r20.2.2.2.2.2)]
abbrev f46z6 (x2 : Int) := ((decide (x2 < (0 : Int))) == false)
abbrev f46z7 := (List Tq0)
def f46 (Y70002 : (Int × BitVec 16 × BitVec 16 × Int × (List Tq0)) → (BitVec 16) → Option (Nat × (Int × BitVec 16 × BitVec 16 × Int × (List Tq0)))) (x1 : BitVec 16) (x2 : Int) (x3 : Int) (x4 : BitVec 16) (x5 : BitVec 16) (x6 : Int) (x7 : List Tq0) : Option (Bool × Nat × Int × BitVec 16 × BitVec 16 × Int × (List Tq0)) :=
 (f70 x1).bind fun (r8 : List Int) =>
 if ((decide (x2 < (0 : Int))) || (decide (x2 > (((r8).length : Nat) : Int)))) then (
 some (true, 0, x3, x4, x5, x6, x7)
 ) else (
 jn (fun ((i20, w21, w22, i23, l24, n25) : Int × BitVec 16 × BitVec 16 × Int × (List Tq0) × Nat) =>
 some (true, n25, i23, w22, w21, i20, l24)
 ) fun (K1 : (Int × TB × TB × Int × (List Tq0) × Nat) → Option (Bool × Nat × Int × TB × TB × Int × (List Tq0))) =>
 chk (0 ≤ x2 ∧ (x2).toNat ≤ IntKind.bits .u32 ∧ 0 ≤ ((1 : Int) * 2 ^ ((x2).toNat)) ∧ ((1 : Int) * 2 ^ ((x2).toNat)) ≤ 4294967295) <|
 chk (0 ≤ (((1 : Int) * 2 ^ ((x2).toNat)) - (1 : Int)) ∧ (((1 : Int) * 2 ^ ((x2).toNat)) - (1 : Int)) ≤ 4294967295) <|
 f46_L0 Y70002 r8 K1 FUEL ((((1 : Int) * 2 ^ ((x2).toNat)) - (1 : Int)), x6, x5, x4, x3, x7, 0)
 )
theorem f46_ok (C70002 : YC) (Y70002 : (Int × TB × TB × Int × (List Tq0)) → (TB) → Option (Nat × (Int × TB × TB × Int × (List Tq0)))) (x1 : TB) (x2 : Int) (x3 : Int) (x4 : TB) (x5 : TB) (x6 : Int) (x7 : List Tq0) (r : Bool × Nat × Int × TB × TB × Int × (List Tq0)) (h : f46 Y70002 x1 x2 x3 x4 x5 x6 x7 = some r) (hY70002 : ∀ s x r, Y70002 s x = some r → YSpec Tryz.prog 70002 [6, 7, 9, 10] C70002 [6, 7, 9, 10, 6003, 6004] [(6, .cells 23 [.nils]), (7, .cells 37 [.int .i64 s.1]), (9, .cells 23 [.own 6400]), (10, .cells 27 [.b16 s.2.1]), (6003, .cells 27 [.b16 s.2.2.1]), (6004, .cells 3 [.int .i64 s.2.2.2.1]), (6400, bL 43 2 eWW (default : Tq0) s.2.2.2.2)] [.b16 x] r.1 [(6, .cells 23 [.nils]), (7, .cells 37 [.int .i64 r.2.1]), (9, .cells 23 [.own 6400]), (10, .cells 27 [.b16 r.2.2.1]), (6003, .cells 27 [.b16 r.2.2.2.1]), (6004, .cells 3 [.int .i64 r.2.2.2.2.1]), (6400, bL 43 2 eWW (default : Tq0) r.2.2.2.2.2)]) : Spec1 Tryz.prog 46 [(0, .elem 32 1 T0F 0 0)] [70002, 6, 7, 9, 10, 6003, 6004] [(70002, .yld (some ([6, 7, 9, 10], C70002)) 0), (6, .cells 23 [.nils]), (7, .cells 37 [.int .i64 x3]), (9, .cells 23 [.own 6400]), (10, .cells 27 [.b16 x4]), (6003, .cells 27 [.b16 x5]), (6004, .cells 3 [.int .i64 x6]), (6400, bL 43 2 eWW (default : Tq0) x7)] [.b16 x1, .int .i64 x2, .own 70002] (.bool r.1) [(70002, .yld (some ([6, 7, 9, 10], C70002)) r.2.1), (6, .cells 23 [.nils]), (7, .cells 37 [.int .i64 r.2.2.1]), (9, .cells 23 [.own 6400]), (10, .cells 27 [.b16 r.2.2.2.1]), (6003, .cells 27 [.b16 r.2.2.2.2.1]), (6004, .cells 3 [.int .i64 r.2.2.2.2.2.1]), (6400, bL 43 2 eWW (default : Tq0) r.2.2.2.2.2.2)] := by
 unfold f46 at h
 refine Spec1.body 20000 _ _ Tryz.func46 rfl Tryz.ntmps46 rfl rfl ?_
 refine q2rq [57] [] ⟨70, [(0, .b16 x1), (1, .i x2), (2, .own 70002), (1000000, .elem 32 1 T0F 0 0)], [(6, .cells 23 [.nils]), (7, .cells 37 [.i x3]), (9, .cells 23 [.own 6400]), (10, .cells 27 [.b16 x4]), (6003, .cells 27 [.b16 x5]), (6004, .cells 3 [.i x6]), (6400, q2bWW_43 x7), (70002, .yld (some ([6, 7, 9, 10], C70002)) 0)], [70002, 6, 7, 9, 10, 6003, 6004], 20000⟩ trivial ?_
 refine AWp.seq ?_
 obtain ⟨r8, hr8, h⟩ := bind_ok h
 refine q2rr [57] [(1, ⟨[.b16 x1], [], [], [(26001, q2bI_3 r8)], .own 26001, [26001], [], [0]⟩)] ⟨70, [(1, .i x2), (2, .own 70002), (7, .own 26001), (1000000, .elem 32 1 T0F 0 0)], (f46z3 x3 x4 x5 x6 x7 r8 C70002), [70002, 6, 7, 9, 10, 6003, 6004], 20000⟩ (an1 (cpT (Spec1.ren (swapN 3000 26001) (swapN_inv 3000 26001) rfl (f70_ok _ _ hr8)))) ?_
 refine tN ?_
 refine AWp.seq ?_
 refine AWp.seq ?_
 have ob0 := idA ((f46z6 x2) = true)
 have ob1 := idA ((f46z6 x2) = true)
 have ob2 := idA ((f46z6 x2) = true)
 have ob3 : true = true → (decide (x2 < (0 : Int))) = false → (f46z6 x2) = true := fun _ h => beq_iff_eq.2 h
 refine q2rr [57] [] ⟨70, [(1, .i x2), (2, .own 70002), (7, .own 26001), (23, .bool ((decide (x2 < (0 : Int))) || (decide (x2 > (lZ r8))))), (1000000, .elem 32 1 T0F 0 0)], (f46z3 x3 x4 x5 x6 x7 r8 C70002), [70002, 6, 7, 9, 10, 6003, 6004], 20000⟩ (an3 (an1 ob0) (an2 ob1 ob2) ob3) ?_
 refine tN ?_
 refine AWp.cond (b := ((decide (x2 < (0 : Int))) || (decide (x2 > (lZ r8))))) (by kernel_rfl) (fun hc1 => ?_) (fun hc1 => ?_)
 ·
  replace h := ite_tb hc1 h
  refine q2rq [57] [] ⟨70, [(6, .bool true), (1000000, .elem 32 1 T0F 0 0)], [(6, .cells 23 [.nils]), (7, .cells 37 [.i x3]), (9, .cells 23 [.own 6400]), (10, .cells 27 [.b16 x4]), (6003, .cells 27 [.b16 x5]), (6004, .cells 3 [.i x6]), (6400, q2bWW_43 x7), (70002, .yld (some ([6, 7, 9, 10], C70002)) 0)], [70002, 6, 7, 9, 10, 6003, 6004], 20000⟩ trivial ?_
  have hret := oJ h
  subst hret
  refine AWp.le (Le.mk (s' := ⟨70, [(6, .bool true)], [(70002, .yld (some ([6, 7, 9, 10], C70002)) 0), (6, .cells 23 [.nils]), (7, .cells 37 [.i x3]), (9, .cells 23 [.own 6400]), (10, .cells 27 [.b16 x4]), (6003, .cells 27 [.b16 x5]), (6004, .cells 3 [.i x6]), (6400, q2bWW_43 x7)], [70002, 6, 7, 9, 10, 6003, 6004], 20000⟩) rfl rfl ⟨.refl _, trivial⟩ ⟨⟨_, rfl, .refl _⟩, ⟨_, rfl, .refl _⟩, ⟨_, rfl, .refl _⟩, ⟨_, rfl, .refl _⟩, ⟨_, rfl, .refl _⟩, ⟨_, rfl, .refl _⟩, ⟨_, rfl, .refl _⟩, ⟨_, rfl, .refl _⟩, trivial⟩) ?_
  refine AWp.ret ?_
  refine tR ?_
  exact bR _ rfl ⟨rfl, rfl⟩ rfl
 ·
  replace h := ite_fb hc1 h
  refine AWp.skip ?_
  refine tN ?_
  obtain ⟨K1, hK1, h⟩ := jn_some h
  refine AWp.join (α := Int × TB × TB × Int × (f46z7) × Nat) (fun (x : Int × TB × TB × Int × (f46z7) × Nat) => match x with | (i20, w21, w22, i23, l24, n25) => ⟨70, [(1000000, .elem 32 1 T0F 0 0)], [(6, .cells 23 [.nils]), (7, .cells 37 [.i i23]), (9, .cells 23 [.own 6400]), (10, .cells 27 [.b16 w22]), (6003, .cells 27 [.b16 w21]), (6004, .cells 3 [.i i20]), (6400, q2bWW_43 l24), (70002, .yld (some ([6, 7, 9, 10], C70002)) n25)], [70002, 6, 7, 9, 10, 6003, 6004], 20000⟩) (fun x => K1 x = some r) ?_ ?_
  ·
   refine AWp.seq ?_
   obtain ⟨ob4, ob5, h⟩ := ck2 h
   refine q2rr [57] [] ⟨70, [(2, .own 70002), (7, .own 26001), (8, .int .u32 (((1 : Int) * 2 ^ ((x2).toNat)) - (1 : Int))), (1000000, .elem 32 1 T0F 0 0)], (f46z3 x3 x4 x5 x6 x7 r8 C70002), [70002, 6, 7, 9, 10, 6003, 6004], 20000⟩ (an2 ob4 ob5) ?_
   refine tN ?_
   refine AWp.block ?_
   refine AWp.loopL (α := Nat × (Int × Int × TB × TB × Int × (f46z7) × Nat)) (fun x => match x with | (_, i9, i10, w11, w12, i13, l14, n15) => ⟨70, [(2, .own 70002), (7, .own 26001), (8, .int .u32 i9), (1000000, .elem 32 1 T0F 0 0)], (f46z0 i13 w12 w11 i10 l14 r8 C70002 n15), [70002, 6, 7, 9, 10, 6003, 6004], 20000⟩) (fun x => f46_L0 Y70002 r8 K1 x.1 x.2 = some r) (fun x => x.1) (FUEL, (((1 : Int) * 2 ^ ((x2).toNat)) - (1 : Int)), x6, x5, x4, x3, x7, 0) (Le.mk (s' := ⟨70, [(2, .own 70002), (7, .own 26001), (8, .int .u32 (((1 : Int) * 2 ^ ((x2).toNat)) - (1 : Int))), (1000000, .elem 32 1 T0F 0 0)], (f46z3 x3 x4 x5 x6 x7 r8 C70002), [70002, 6, 7, 9, 10, 6003, 6004], 20000⟩) rfl rfl ⟨.refl _, .refl _, .refl _, .refl _, trivial⟩ ⟨⟨_, rfl, .refl _⟩, ⟨_, rfl, .refl _⟩, ⟨_, rfl, .refl _⟩, ⟨_, rfl, .refl _⟩, ⟨_, rfl, .refl _⟩, ⟨_, rfl, .refl _⟩, ⟨_, rfl, .refl _⟩, ⟨_, rfl, .refl _⟩, ⟨_, rfl, .refl _⟩, trivial⟩) h ?_
   rintro ⟨k0, i9, i10, w11, w12, i13, l14, n15⟩ h
   cases k0 with
   | zero => exact nomatch (show (none : Option (Bool × Nat × Int × TB × TB × Int × (List Tq0))) = some r from h)
   | succ k0 =>
   obtain ⟨C0, hC0⟩ : ∃ C, C = f46_L0 Y70002 r8 K1 k0 := ⟨_, rfl⟩
   replace h := (f46_L0.eq_2 ..).symm.trans h
   try rw [← hC0] at h
   refine AWp.seq ?_
   refine AWp.seq ?_
   obtain ⟨ob6p, h⟩ := chk_some h
   have ob6 : 0 ≤ (((r8).length : Nat) : Int) ∧ (r8).length ≤ IntKind.bits .u32 ∧ 0 ≤ ((1 : Int) * 2 ^ ((r8).length)) ∧ ((1 : Int) * 2 ^ ((r8).length)) ≤ 4294967295 := ⟨by omega, ob6p.1, ob6p.2.1, ob6p.2.2⟩
   refine q2rr [57] [] ⟨70, [(2, .own 70002), (7, .own 26001), (8, .int .u32 i9), (31, .bool (decide (i9 < ((1 : Int) * 2 ^ ((r8).length))))), (1000000, .elem 32 1 T0F 0 0)], (f46z0 i13 w12 w11 i10 l14 r8 C70002 n15), [70002, 6, 7, 9, 10, 6003, 6004], 20000⟩ (an1 ob6) ?_
   refine tN ?_
   refine AWp.cond (b := (decide (i9 < ((1 : Int) * 2 ^ ((r8).length))))) (by kernel_rfl) (fun hc2 => ?_) (fun hc2 => ?_)
   ·
    replace h := ite_tb hc2 h
    refine AWp.skip ?_
    refine tN ?_
    refine AWp.block ?_
    refine q2rq [57] [] ⟨70, [(2, .own 70002), (7, .own 26001), (8, .int .u32 i9), (9, .b16 (q2w16 0)), (1000000, .elem 32 1 T0F 0 0)], (f46z0 i13 w12 w11 i10 l14 r8 C70002 n15), [70002, 6, 7, 9, 10, 6003, 6004], 20000⟩ trivial ?_
    obtain ⟨K2, hK2, h⟩ := jn_some h
    refine AWp.join (α := TB) (fun (w19 : TB) => ⟨70, [(2, .own 70002), (7, .own 26001), (8, .int .u32 i9), (9, .b16 w19), (1000000, .elem 32 1 T0F 0 0)], (f46z0 i13 w12 w11 i10 l14 r8 C70002 n15), [70002, 6, 7, 9, 10, 6003, 6004], 20000⟩) (fun x => K2 x = some r) ?_ ?_
    ·
     refine q2rq [57] [] ⟨70, [(2, .own 70002), (7, .own 26001), (8, .int .u32 i9), (9, .b16 (q2w16 0)), (32, .own 26001), (33, .i (lZ r8)), (34, .i (0 : Int)), (1000000, .elem 32 1 T0F 0 0)], (f46z0 i13 w12 w11 i10 l14 r8 C70002 n15), [70002, 6, 7, 9, 10, 6003, 6004], 20000⟩ trivial ?_
     refine AWp.block ?_
     refine AWp.loopL (α := Nat × (TB × Nat)) (fun x => match x with | (_, w16, n17) => ⟨70, [(2, .own 70002), (7, .own 26001), (8, .int .u32 i9), (9, .b16 w16), (32, .own 26001), (33, .i (lZ r8)), (34, .i (n17 : Int)), (1000000, .elem 32 1 T0F 0 0)], (f46z0 i13 w12 w11 i10 l14 r8 C70002 n15), [70002, 6, 7, 9, 10, 6003, 6004], 20000⟩) (fun x => f46_L1 r8 i9 K2 x.1 x.2 = some r) (fun x => x.1) (FUEL, (q2w16 0), 0) (Le.mk (s' := ⟨70, [(2, .own 70002), (7, .own 26001), (8, .int .u32 i9), (9, .b16 (q2w16 0)), (32, .own 26001), (33, .i (lZ r8)), (34, .i (0 : Int)), (1000000, .elem 32 1 T0F 0 0)], (f46z0 i13 w12 w11 i10 l14 r8 C70002 n15), [70002, 6, 7, 9, 10, 6003, 6004], 20000⟩) rfl rfl ⟨.refl _, .refl _, .refl _, .refl _, .refl _, .refl _, .refl _, .refl _, trivial⟩ ⟨⟨_, rfl, .refl _⟩, ⟨_, rfl, .refl _⟩, ⟨_, rfl, .refl _⟩, ⟨_, rfl, .refl _⟩, ⟨_, rfl, .refl _⟩, ⟨_, rfl, .refl _⟩, ⟨_, rfl, .refl _⟩, ⟨_, rfl, .refl _⟩, ⟨_, rfl, .refl _⟩, trivial⟩) h ?_
     rintro ⟨k1, w16, n17⟩ h
     cases k1 with
     | zero => exact nomatch (show (none : Option (Bool × Nat × Int × TB × TB × Int × (List Tq0))) = some r from h)
     | succ k1 =>
     obtain ⟨C1, hC1⟩ : ∃ C, C = f46_L1 r8 i9 K2 k1 := ⟨_, rfl⟩
     replace h := (f46_L1.eq_2 ..).symm.trans h
     try rw [← hC1] at h
     refine q2rq [57] [] ⟨70, [(2, .own 70002), (7, .own 26001), (8, .int .u32 i9), (9, .b16 w16), (32, .own 26001), (33, .i (lZ r8)), (34, .i (n17 : Int)), (35, .bool (decide ((n17 : Int) < (lZ r8)))), (1000000, .elem 32 1 T0F 0 0)], (f46z0 i13 w12 w11 i10 l14 r8 C70002 n15), [70002, 6, 7, 9, 10, 6003, 6004], 20000⟩ trivial ?_
     refine AWp.seq ?_
     refine AWp.cond (b := (decide ((n17 : Int) < (lZ r8)))) (by kernel_rfl) (fun hc3 => ?_) (fun hc3 => ?_)
     ·
      replace h := ite_tb hc3 h
      refine AWp.skip ?_
      refine tN ?_
      obtain ⟨K3, hK3, h⟩ := jn_some h
      refine AWp.join (α := TB) (fun (w18 : TB) => ⟨70, [(2, .own 70002), (7, .own 26001), (8, .int .u32 i9), (9, .b16 w18), (32, .own 26001), (33, .i (lZ r8)), (34, .i (n17 : Int)), (1000000, .elem 32 1 T0F 0 0)], (f46z0 i13 w12 w11 i10 l14 r8 C70002 n15), [70002, 6, 7, 9, 10, 6003, 6004], 20000⟩) (fun x => K3 x = some r) ?_ ?_
      ·
       refine AWp.block ?_
       refine AWp.seq ?_
       obtain ⟨ob7p, h⟩ := chk_some h
       have ob7 : 0 ≤ (n17 : Int) ∧ (n17 : Int) < (((r8).length : Nat) : Int) := ⟨by omega, ob7p⟩
       obtain ⟨ob8, h⟩ := chk_some h
       refine q2rr [57] [] ⟨70, [(2, .own 70002), (7, .own 26001), (8, .int .u32 i9), (9, .b16 w16), (10, .i (n17 : Int)), (11, .i (r8.getD n17 0)), (32, .own 26001), (33, .i (lZ r8)), (34, .i (n17 : Int)), (1000000, .elem 32 1 T0F 0 0)], (f46z0 i13 w12 w11 i10 l14 r8 C70002 n15), [70002, 6, 7, 9, 10, 6003, 6004], 20000⟩ (an2 ob7 ob8) ?_
       refine tN ?_
       refine AWp.seq ?_
       obtain ⟨ob9p, h⟩ := chk_some h
       have ob9 : 0 ≤ (n17 : Int) ∧ n17 ≤ IntKind.bits .u32 := ⟨by omega, ob9p⟩
       refine q2rr [57] [] ⟨70, [(2, .own 70002), (7, .own 26001), (8, .int .u32 i9), (9, .b16 w16), (11, .i (r8.getD n17 0)), (32, .own 26001), (33, .i (lZ r8)), (34, .i (n17 : Int)), (43, .bool ((bitsI .and .u32 (i9 / 2 ^ n17) (1 : Int)) == (1 : Int))), (1000000, .elem 32 1 T0F 0 0)], (f46z0 i13 w12 w11 i10 l14 r8 C70002 n15), [70002, 6, 7, 9, 10, 6003, 6004], 20000⟩ (an1 ob9) ?_
       refine tN ?_
       refine AWp.cond (b := ((bitsI .and .u32 (i9 / 2 ^ n17) (1 : Int)) == (1 : Int))) (by kernel_rfl) (fun hc4 => ?_) (fun hc4 => ?_)
       ·
        replace h := ite_tb hc4 h
        obtain ⟨ob10, h⟩ := chk_some h
        refine q2rr [57] [] ⟨70, [(2, .own 70002), (7, .own 26001), (8, .int .u32 i9), (9, .b16 (w16 ||| ((q2w16 1) <<< (((r8.getD n17 0)).toNat)))), (32, .own 26001), (33, .i (lZ r8)), (34, .i (n17 : Int)), (1000000, .elem 32 1 T0F 0 0)], (f46z0 i13 w12 w11 i10 l14 r8 C70002 n15), [70002, 6, 7, 9, 10, 6003, 6004], 20000⟩ (an1 ob10) ?_
        refine kN ?_
        exact jN ((w16 ||| ((q2w16 1) <<< (((r8.getD n17 0)).toNat)))) (Le.mk rfl rfl ⟨.refl _, .refl _, .refl _, .refl _, .refl _, .refl _, .refl _, .refl _, trivial⟩ ⟨⟨_, rfl, .refl _⟩, ⟨_, rfl, .refl _⟩, ⟨_, rfl, .refl _⟩, ⟨_, rfl, .refl _⟩, ⟨_, rfl, .refl _⟩, ⟨_, rfl, .refl _⟩, ⟨_, rfl, .refl _⟩, ⟨_, rfl, .refl _⟩, ⟨_, rfl, .refl _⟩, trivial⟩) h
       ·
        replace h := ite_fb hc4 h
        refine AWp.skip ?_
        refine kN ?_
        exact jN (w16) (Le.mk rfl rfl ⟨.refl _, .refl _, .refl _, .refl _, .refl _, .refl _, .refl _, .refl _, trivial⟩ ⟨⟨_, rfl, .refl _⟩, ⟨_, rfl, .refl _⟩, ⟨_, rfl, .refl _⟩, ⟨_, rfl, .refl _⟩, ⟨_, rfl, .refl _⟩, ⟨_, rfl, .refl _⟩, ⟨_, rfl, .refl _⟩, ⟨_, rfl, .refl _⟩, ⟨_, rfl, .refl _⟩, trivial⟩) h
      ·
       rintro w18 h
       replace h := (congrFun hK3 _).symm.trans h
       obtain ⟨ob11p, h⟩ := chk_some h
       have ob11 : -9223372036854775808 ≤ ((n17 : Int) + (1 : Int)) ∧ ((n17 : Int) + (1 : Int)) ≤ 9223372036854775807 := ⟨by omega, ob11p⟩
       refine q2rr [57] [] ⟨70, [(2, .own 70002), (7, .own 26001), (8, .int .u32 i9), (9, .b16 w18), (32, .own 26001), (33, .i (lZ r8)), (34, .i (((n17 + 1) : Nat) : Int)), (1000000, .elem 32 1 T0F 0 0)], (f46z0 i13 w12 w11 i10 l14 r8 C70002 n15), [70002, 6, 7, 9, 10, 6003, 6004], 20000⟩ (an1 ob11) ?_
       rw [hC1] at h
       exact lN (_, w18, (n17 + 1)) (Le.mk rfl rfl ⟨.refl _, .refl _, .refl _, .refl _, .refl _, .refl _, .refl _, .refl _, trivial⟩ ⟨⟨_, rfl, .refl _⟩, ⟨_, rfl, .refl _⟩, ⟨_, rfl, .refl _⟩, ⟨_, rfl, .refl _⟩, ⟨_, rfl, .refl _⟩, ⟨_, rfl, .refl _⟩, ⟨_, rfl, .refl _⟩, ⟨_, rfl, .refl _⟩, ⟨_, rfl, .refl _⟩, trivial⟩) h (Nat.lt_succ_self _)
     ·
      replace h := ite_fb hc3 h
      refine AWp.exit ?_
      refine tE ?_
      refine tE ?_
      refine kS ?_
      exact jN (w16) (Le.mk rfl rfl ⟨.refl _, .refl _, .refl _, .refl _, .refl _, trivial⟩ ⟨⟨_, rfl, .refl _⟩, ⟨_, rfl, .refl _⟩, ⟨_, rfl, .refl _⟩, ⟨_, rfl, .refl _⟩, ⟨_, rfl, .refl _⟩, ⟨_, rfl, .refl _⟩, ⟨_, rfl, .refl _⟩, ⟨_, rfl, .refl _⟩, ⟨_, rfl, .refl _⟩, trivial⟩) h
    ·
     rintro w19 h
     replace h := (congrFun hK2 _).symm.trans h
     obtain ⟨K4, hK4, h⟩ := jn_some h
     refine AWp.join (α := Int × TB × TB × Int × (f46z7) × Nat) (fun (x : Int × TB × TB × Int × (f46z7) × Nat) => match x with | (i21, w22, w23, i24, l25, n26) => ⟨70, [(2, .own 70002), (7, .own 26001), (8, .int .u32 i9), (1000000, .elem 32 1 T0F 0 0)], (f46z1 i24 w23 w22 i21 l25 r8 C70002 n26), [70002, 6, 7, 9, 10, 6003, 6004], 20000⟩) (fun x => K4 x = some r) ?_ ?_
     ·
      refine AWp.seq ?_
      obtain ⟨hz5, h⟩ := chk_some h
      refine AWp.le (Le.mk (s' := ⟨70, [(2, .own 70002), (7, .own 26001), (8, .int .u32 i9), (9, .b16 w19), (1000000, .elem 32 1 T0F 0 0)], [(6, .cells 23 [.nils]), (7, .cells 37 [.i i13]), (9, .cells 23 [.own 6400]), (10, .cells 27 [.b16 w12]), (6003, .cells 27 [.b16 w11]), (6004, .cells 3 [.i i10]), (6400, q2bWW_43 l14), (26001, q2bI_3 r8), (70002, .yld (some ([6, 7, 9, 10], C70002)) 0)], [70002, 6, 7, 9, 10, 6003, 6004], 20000⟩) rfl rfl ⟨.refl _, .refl _, .refl _, .refl _, .refl _, trivial⟩ ⟨⟨_, rfl, .refl _⟩, ⟨_, rfl, .refl _⟩, ⟨_, rfl, .refl _⟩, ⟨_, rfl, .refl _⟩, ⟨_, rfl, .refl _⟩, ⟨_, rfl, .refl _⟩, ⟨_, rfl, .refl _⟩, ⟨_, rfl, .refl _⟩, ⟨_, rfl, BLe.yldEq hz5⟩, trivial⟩) ?_
      obtain ⟨r20, hr20, h⟩ := bind_ok h
      by_cases hy_r20 : r20.1 = 0
      ·
       replace h := ite_t hy_r20 h
       refine q2rr [57] [(2, ⟨[.b16 w19], [70002, 6, 7, 9, 10, 6003, 6004, 6400], [6, 7, 9, 10, 6003, 6004], (f46z5 C70002 r20), .bool true, [6400], [], []⟩)] ⟨70, [(2, .own 70002), (7, .own 26001), (8, .int .u32 i9), (52, .bool (!true)), (1000000, .elem 32 1 T0F 0 0)], [(6, .cells 23 [.nils]), (7, .cells 37 [.i r20.2.1]), (9, .cells 23 [.own 6400]), (10, .cells 27 [.b16 r20.2.2.1]), (6003, .cells 27 [.b16 r20.2.2.2.1]), (6004, .cells 3 [.i r20.2.2.2.2.1]), (6400, q2bWW_43 r20.2.2.2.2.2), (26001, q2bI_3 r8), (70002, .yld (some ([6, 7, 9, 10], C70002)) 0)], [70002, 6, 7, 9, 10, 6003, 6004], 20000⟩ (an1 (show (((f46z5 C70002 r20) : Heap) = (70002, .yld (some ([6, 7, 9, 10], C70002)) 0) :: (f46z2 r20) ∧ V.bool true = V.bool (0 == 0) ∧ YSpec Tryz.prog 70002 [6, 7, 9, 10] C70002 [6, 7, 9, 10, 6003, 6004] [(6, .cells 23 [.nils]), (7, .cells 37 [.i i13]), (9, .cells 23 [.own 6400]), (10, .cells 27 [.b16 w12]), (6003, .cells 27 [.b16 w11]), (6004, .cells 3 [.i i10]), (6400, q2bWW_43 l14)] [.b16 w19] 0 (f46z2 r20) ∧ VLes [.b16 w19] [.b16 w19]) from ⟨rfl, rfl, (YSpec.zero (hY70002 _ _ r20 hr20) hy_r20), ⟨.refl _, trivial⟩⟩)) ?_
       refine tN ?_
       refine AWp.cond (b := (!true)) (by kernel_rfl) (fun hc7 => ?_) (fun hc7 => ?_)
       ·
        replace h := ite_tb hc7 h
        refine q2rq [57] [] ⟨70, [(6, .bool false), (1000000, .elem 32 1 T0F 0 0)], [(6, .cells 23 [.nils]), (7, .cells 37 [.i r20.2.1]), (9, .cells 23 [.own 6400]), (10, .cells 27 [.b16 r20.2.2.1]), (6003, .cells 27 [.b16 r20.2.2.2.1]), (6004, .cells 3 [.i r20.2.2.2.2.1]), (6400, q2bWW_43 r20.2.2.2.2.2), (70002, .yld (some ([6, 7, 9, 10], C70002)) 0)], [70002, 6, 7, 9, 10, 6003, 6004], 20000⟩ trivial ?_
        have hret := oJ h
        subst hret
        refine AWp.le (Le.mk (s' := ⟨70, [(6, .bool false)], (f46z5 C70002 r20), [70002, 6, 7, 9, 10, 6003, 6004], 20000⟩) rfl rfl ⟨.refl _, trivial⟩ ⟨⟨_, rfl, .refl _⟩, ⟨_, rfl, .refl _⟩, ⟨_, rfl, .refl _⟩, ⟨_, rfl, .refl _⟩, ⟨_, rfl, .refl _⟩, ⟨_, rfl, .refl _⟩, ⟨_, rfl, .refl _⟩, ⟨_, rfl, .refl _⟩, trivial⟩) ?_
        refine AWp.ret ?_
        refine joinQ_ret ?_
        refine kR ?_
        refine tR ?_
        refine kR ?_
        refine joinQ_ret ?_
        exact bR _ rfl ⟨rfl, rfl⟩ rfl
       ·
        replace h := ite_fb hc7 h
        refine AWp.skip ?_
        exact jN (r20.2.2.2.2.1, r20.2.2.2.1, r20.2.2.1, r20.2.1, r20.2.2.2.2.2, 0) (Le.mk rfl rfl ⟨.refl _, .refl _, .refl _, .refl _, trivial⟩ ⟨⟨_, rfl, .refl _⟩, ⟨_, rfl, .refl _⟩, ⟨_, rfl, .refl _⟩, ⟨_, rfl, .refl _⟩, ⟨_, rfl, .refl _⟩, ⟨_, rfl, .refl _⟩, ⟨_, rfl, .refl _⟩, ⟨_, rfl, .refl _⟩, ⟨_, rfl, .refl _⟩, trivial⟩) h
      ·
       replace h := ite_f hy_r20 h
       refine q2rr [57] [(2, ⟨[.b16 w19], [70002, 6, 7, 9, 10, 6003, 6004, 6400], [6, 7, 9, 10, 6003, 6004], (f46z4 C70002 r20), .bool false, [6400], [], []⟩)] ⟨70, [(2, .own 70002), (7, .own 26001), (8, .int .u32 i9), (52, .bool (!false)), (1000000, .elem 32 1 T0F 0 0)], [(6, .cells 23 [.nils]), (7, .cells 37 [.i r20.2.1]), (9, .cells 23 [.own 6400]), (10, .cells 27 [.b16 r20.2.2.1]), (6003, .cells 27 [.b16 r20.2.2.2.1]), (6004, .cells 3 [.i r20.2.2.2.2.1]), (6400, q2bWW_43 r20.2.2.2.2.2), (26001, q2bI_3 r8), (70002, .yld (some ([6, 7, 9, 10], C70002)) r20.1)], [70002, 6, 7, 9, 10, 6003, 6004], 20000⟩ (an1 (show (((f46z4 C70002 r20) : Heap) = (70002, .yld (some ([6, 7, 9, 10], C70002)) r20.1) :: (f46z2 r20) ∧ V.bool false = V.bool (r20.1 == 0) ∧ YSpec Tryz.prog 70002 [6, 7, 9, 10] C70002 [6, 7, 9, 10, 6003, 6004] [(6, .cells 23 [.nils]), (7, .cells 37 [.i i13]), (9, .cells 23 [.own 6400]), (10, .cells 27 [.b16 w12]), (6003, .cells 27 [.b16 w11]), (6004, .cells 3 [.i i10]), (6400, q2bWW_43 l14)] [.b16 w19] r20.1 (f46z2 r20) ∧ VLes [.b16 w19] [.b16 w19]) from ⟨rfl, bool_ne hy_r20, (hY70002 _ _ r20 hr20), ⟨.refl _, trivial⟩⟩)) ?_
       refine tN ?_
       refine AWp.cond (b := (!false)) (by kernel_rfl) (fun hc8 => ?_) (fun hc8 => ?_)
       ·
        replace h := ite_tb hc8 h
        refine q2rq [57] [] ⟨70, [(6, .bool false), (1000000, .elem 32 1 T0F 0 0)], [(6, .cells 23 [.nils]), (7, .cells 37 [.i r20.2.1]), (9, .cells 23 [.own 6400]), (10, .cells 27 [.b16 r20.2.2.1]), (6003, .cells 27 [.b16 r20.2.2.2.1]), (6004, .cells 3 [.i r20.2.2.2.2.1]), (6400, q2bWW_43 r20.2.2.2.2.2), (70002, .yld (some ([6, 7, 9, 10], C70002)) r20.1)], [70002, 6, 7, 9, 10, 6003, 6004], 20000⟩ trivial ?_
        have hret := oJ h
        subst hret
        refine AWp.le (Le.mk (s' := ⟨70, [(6, .bool false)], (f46z4 C70002 r20), [70002, 6, 7, 9, 10, 6003, 6004], 20000⟩) rfl rfl ⟨.refl _, trivial⟩ ⟨⟨_, rfl, .refl _⟩, ⟨_, rfl, .refl _⟩, ⟨_, rfl, .refl _⟩, ⟨_, rfl, .refl _⟩, ⟨_, rfl, .refl _⟩, ⟨_, rfl, .refl _⟩, ⟨_, rfl, .refl _⟩, ⟨_, rfl, .refl _⟩, trivial⟩) ?_
        refine AWp.ret ?_
        refine joinQ_ret ?_
        refine kR ?_
        refine tR ?_
        refine kR ?_
        refine joinQ_ret ?_
        exact bR _ rfl ⟨rfl, rfl⟩ rfl
       ·
        replace h := ite_fb hc8 h
        refine AWp.skip ?_
        exact jN (r20.2.2.2.2.1, r20.2.2.2.1, r20.2.2.1, r20.2.1, r20.2.2.2.2.2, r20.1) (Le.mk rfl rfl ⟨.refl _, .refl _, .refl _, .refl _, trivial⟩ ⟨⟨_, rfl, .refl _⟩, ⟨_, rfl, .refl _⟩, ⟨_, rfl, .refl _⟩, ⟨_, rfl, .refl _⟩, ⟨_, rfl, .refl _⟩, ⟨_, rfl, .refl _⟩, ⟨_, rfl, .refl _⟩, ⟨_, rfl, .refl _⟩, ⟨_, rfl, .refl _⟩, trivial⟩) h
     ·
      rintro ⟨i21, w22, w23, i24, l25, n26⟩ h
      replace h := (congrFun hK4 _).symm.trans h
      refine AWp.seq ?_
      refine q2rq [57] [] ⟨70, [(2, .own 70002), (7, .own 26001), (8, .int .u32 i9), (54, .bool (i9 == (0 : Int))), (1000000, .elem 32 1 T0F 0 0)], (f46z1 i24 w23 w22 i21 l25 r8 C70002 n26), [70002, 6, 7, 9, 10, 6003, 6004], 20000⟩ trivial ?_
      refine AWp.cond (b := (i9 == (0 : Int))) (by kernel_rfl) (fun hc9 => ?_) (fun hc9 => ?_)
      ·
       replace h := ite_tb hc9 h
       refine AWp.exit ?_
       refine tE ?_
       refine blockQ_other (by decide) ?_
       refine tE ?_
       refine kS ?_
       exact jN (i21, w22, w23, i24, l25, n26) (Le.mk rfl rfl ⟨.refl _, trivial⟩ ⟨⟨_, rfl, .refl _⟩, ⟨_, rfl, .refl _⟩, ⟨_, rfl, .refl _⟩, ⟨_, rfl, .refl _⟩, ⟨_, rfl, .refl _⟩, ⟨_, rfl, .refl _⟩, ⟨_, rfl, .refl _⟩, ⟨_, rfl, .refl _⟩, trivial⟩) h
      ·
       replace h := ite_fb hc9 h
       refine AWp.skip ?_
       refine tN ?_
       refine q2rq [57] [] ⟨70, [(2, .own 70002), (7, .own 26001), (8, .int .u32 i9), (12, .int .u32 (bitsI .and .u32 i9 (IntKind.wrap .u32 (0 - i9)))), (1000000, .elem 32 1 T0F 0 0)], (f46z1 i24 w23 w22 i21 l25 r8 C70002 n26), [70002, 6, 7, 9, 10, 6003, 6004], 20000⟩ (an1 trivial) ?_
       refine AWp.seq ?_
       obtain ⟨ob12, h⟩ := chk_some h
       refine q2rr [57] [] ⟨70, [(2, .own 70002), (7, .own 26001), (8, .int .u32 i9), (12, .int .u32 (bitsI .and .u32 i9 (IntKind.wrap .u32 (0 - i9)))), (13, .int .u32 (i9 + (bitsI .and .u32 i9 (IntKind.wrap .u32 (0 - i9))))), (1000000, .elem 32 1 T0F 0 0)], (f46z1 i24 w23 w22 i21 l25 r8 C70002 n26), [70002, 6, 7, 9, 10, 6003, 6004], 20000⟩ (an1 ob12) ?_
       refine tN ?_
       obtain ⟨ob13, ob14p, h⟩ := ck2 h
       have ob14 : 0 ≤ (2 : Int) ∧ 2 ≤ IntKind.bits .u32 := ⟨by omega, ob14p⟩
       refine q2rr [57] [] ⟨70, [(2, .own 70002), (7, .own 26001), (8, .int .u32 (bitsI .or .u32 (i9 + (bitsI .and .u32 i9 (IntKind.wrap .u32 (0 - i9)))) (((bitsI .xor .u32 i9 (i9 + (bitsI .and .u32 i9 (IntKind.wrap .u32 (0 - i9))))) / (bitsI .and .u32 i9 (IntKind.wrap .u32 (0 - i9)))) / 2 ^ 2))), (1000000, .elem 32 1 T0F 0 0)], (f46z1 i24 w23 w22 i21 l25 r8 C70002 n26), [70002, 6, 7, 9, 10, 6003, 6004], 20000⟩ (an2 ob13 ob14) ?_
       refine kN ?_
       rw [hC0] at h
       exact lN (_, (bitsI .or .u32 (i9 + (bitsI .and .u32 i9 (IntKind.wrap .u32 (0 - i9)))) (((bitsI .xor .u32 i9 (i9 + (bitsI .and .u32 i9 (IntKind.wrap .u32 (0 - i9))))) / (bitsI .and .u32 i9 (IntKind.wrap .u32 (0 - i9)))) / 2 ^ 2)), i21, w22, w23, i24, l25, n26) (Le.mk rfl rfl ⟨.refl _, .refl _, .refl _, .refl _, trivial⟩ ⟨⟨_, rfl, .refl _⟩, ⟨_, rfl, .refl _⟩, ⟨_, rfl, .refl _⟩, ⟨_, rfl, .refl _⟩, ⟨_, rfl, .refl _⟩, ⟨_, rfl, .refl _⟩, ⟨_, rfl, .refl _⟩, ⟨_, rfl, .refl _⟩, ⟨_, rfl, .refl _⟩, trivial⟩) h (Nat.lt_succ_self _)
   ·
    replace h := ite_fb hc2 h
    refine AWp.exit ?_
    refine tE ?_
    refine tE ?_
    refine kS ?_
    exact jN (i10, w11, w12, i13, l14, n15) (Le.mk rfl rfl ⟨.refl _, trivial⟩ ⟨⟨_, rfl, .refl _⟩, ⟨_, rfl, .refl _⟩, ⟨_, rfl, .refl _⟩, ⟨_, rfl, .refl _⟩, ⟨_, rfl, .refl _⟩, ⟨_, rfl, .refl _⟩, ⟨_, rfl, .refl _⟩, ⟨_, rfl, .refl _⟩, trivial⟩) h
  ·
   rintro ⟨i20, w21, w22, i23, l24, n25⟩ h
   replace h := (congrFun hK1 _).symm.trans h
   refine q2rq [57] [] ⟨70, [(6, .bool true), (1000000, .elem 32 1 T0F 0 0)], [(6, .cells 23 [.nils]), (7, .cells 37 [.i i23]), (9, .cells 23 [.own 6400]), (10, .cells 27 [.b16 w22]), (6003, .cells 27 [.b16 w21]), (6004, .cells 3 [.i i20]), (6400, q2bWW_43 l24), (70002, .yld (some ([6, 7, 9, 10], C70002)) n25)], [70002, 6, 7, 9, 10, 6003, 6004], 20000⟩ trivial ?_
   have hret := oJ h
   subst hret
   refine AWp.le (Le.mk (s' := ⟨70, [(6, .bool true)], [(70002, .yld (some ([6, 7, 9, 10], C70002)) n25), (6, .cells 23 [.nils]), (7, .cells 37 [.i i23]), (9, .cells 23 [.own 6400]), (10, .cells 27 [.b16 w22]), (6003, .cells 27 [.b16 w21]), (6004, .cells 3 [.i i20]), (6400, q2bWW_43 l24)], [70002, 6, 7, 9, 10, 6003, 6004], 20000⟩) rfl rfl ⟨.refl _, trivial⟩ ⟨⟨_, rfl, .refl _⟩, ⟨_, rfl, .refl _⟩, ⟨_, rfl, .refl _⟩, ⟨_, rfl, .refl _⟩, ⟨_, rfl, .refl _⟩, ⟨_, rfl, .refl _⟩, ⟨_, rfl, .refl _⟩, ⟨_, rfl, .refl _⟩, trivial⟩) ?_
   refine AWp.ret ?_
   exact bR _ rfl ⟨rfl, rfl⟩ rfl
def f55 (Y70002 : (Int × BitVec 16 × BitVec 16 × Int × (List Tq0)) → (BitVec 16) → Option (Nat × (Int × BitVec 16 × BitVec 16 × Int × (List Tq0)))) (x1 : Int) (x2 : BitVec 16) (x3 : BitVec 16) (x4 : Int) (x5 : List Tq0) : Option (Nat × Int × BitVec 16 × BitVec 16 × Int × (List Tq0)) :=
 (f46 Y70002 x3 x4 x1 x2 x3 x4 x5).bind fun (r6 : Bool × Nat × Int × TB × TB × Int × (List Tq0)) =>
 some (r6.2.1, r6.2.2.1, r6.2.2.2.1, r6.2.2.2.2.1, r6.2.2.2.2.2.1, r6.2.2.2.2.2.2)
theorem f55_ok (C70002 : YC) (Y70002 : (Int × TB × TB × Int × (List Tq0)) → (TB) → Option (Nat × (Int × TB × TB × Int × (List Tq0)))) (x1 : Int) (x2 : TB) (x3 : TB) (x4 : Int) (x5 : List Tq0) (r : Nat × Int × TB × TB × Int × (List Tq0)) (h : f55 Y70002 x1 x2 x3 x4 x5 = some r) (hY70002 : ∀ s x r, Y70002 s x = some r → YSpec Tryz.prog 70002 [6, 7, 9, 10] C70002 [6, 7, 9, 10, 6003, 6004] [(6, .cells 23 [.nils]), (7, .cells 37 [.int .i64 s.1]), (9, .cells 23 [.own 6400]), (10, .cells 27 [.b16 s.2.1]), (6003, .cells 27 [.b16 s.2.2.1]), (6004, .cells 3 [.int .i64 s.2.2.2.1]), (6400, bL 43 2 eWW (default : Tq0) s.2.2.2.2)] [.b16 x] r.1 [(6, .cells 23 [.nils]), (7, .cells 37 [.int .i64 r.2.1]), (9, .cells 23 [.own 6400]), (10, .cells 27 [.b16 r.2.2.1]), (6003, .cells 27 [.b16 r.2.2.2.1]), (6004, .cells 3 [.int .i64 r.2.2.2.2.1]), (6400, bL 43 2 eWW (default : Tq0) r.2.2.2.2.2)]) : Spec1 Tryz.prog 55 [(0, .elem 32 1 T0F 0 0)] [70002, 6, 7, 9, 10, 6003, 6004] [(70002, .yld (some ([6, 7, 9, 10], C70002)) 0), (6, .cells 23 [.nils]), (7, .cells 37 [.int .i64 x1]), (9, .cells 23 [.own 6400]), (10, .cells 27 [.b16 x2]), (6003, .cells 27 [.b16 x3]), (6004, .cells 3 [.int .i64 x4]), (6400, bL 43 2 eWW (default : Tq0) x5)] [.own 70002, .ptr 6003 0, .ptr 6004 0] (.tup []) [(70002, .yld (some ([6, 7, 9, 10], C70002)) r.1), (6, .cells 23 [.nils]), (7, .cells 37 [.int .i64 r.2.1]), (9, .cells 23 [.own 6400]), (10, .cells 27 [.b16 r.2.2.1]), (6003, .cells 27 [.b16 r.2.2.2.1]), (6004, .cells 3 [.int .i64 r.2.2.2.2.1]), (6400, bL 43 2 eWW (default : Tq0) r.2.2.2.2.2)] := by
 unfold f55 at h
 refine Spec1.body 10000 _ _ Tryz.func55 rfl Tryz.ntmps55 rfl rfl ?_
 obtain ⟨r6, hr6, h⟩ := bind_ok h
 refine q2rr [] [(3, ⟨[.b16 x3, .i x4, .own 70002], [70002, 6, 7, 9, 10, 6003, 6004, 6400], [70002, 6, 7, 9, 10, 6003, 6004], [(70002, .yld (some ([6, 7, 9, 10], C70002)) r6.2.1), (6, .cells 23 [.nils]), (7, .cells 37 [.i r6.2.2.1]), (9, .cells 23 [.own 6400]), (10, .cells 27 [.b16 r6.2.2.2.1]), (6003, .cells 27 [.b16 r6.2.2.2.2.1]), (6004, .cells 3 [.i r6.2.2.2.2.2.1]), (6400, q2bWW_43 r6.2.2.2.2.2.2)], .bool r6.1, [6400], [], [0]⟩)] ⟨8, [(1000000, .elem 32 1 T0F 0 0)], [(6, .cells 23 [.nils]), (7, .cells 37 [.i r6.2.2.1]), (9, .cells 23 [.own 6400]), (10, .cells 27 [.b16 r6.2.2.2.1]), (6003, .cells 27 [.b16 r6.2.2.2.2.1]), (6004, .cells 3 [.i r6.2.2.2.2.2.1]), (6400, q2bWW_43 r6.2.2.2.2.2.2), (70002, .yld (some ([6, 7, 9, 10], C70002)) r6.2.1)], [70002, 6, 7, 9, 10, 6003, 6004], 10000⟩ (an1 (cpT (f46_ok C70002 _ _ _ _ _ _ _ _ _ hr6 hY70002))) ?_
 have hret := oJ h
 subst hret
 exact bodyQ_le (Le.mk (s' := ⟨8, [], [(70002, .yld (some ([6, 7, 9, 10], C70002)) r6.2.1), (6, .cells 23 [.nils]), (7, .cells 37 [.i r6.2.2.1]), (9, .cells 23 [.own 6400]), (10, .cells 27 [.b16 r6.2.2.2.1]), (6003, .cells 27 [.b16 r6.2.2.2.2.1]), (6004, .cells 3 [.i r6.2.2.2.2.2.1]), (6400, q2bWW_43 r6.2.2.2.2.2.2)], [70002, 6, 7, 9, 10, 6003, 6004], 10000⟩) rfl rfl trivial ⟨⟨_, rfl, .refl _⟩, ⟨_, rfl, .refl _⟩, ⟨_, rfl, .refl _⟩, ⟨_, rfl, .refl _⟩, ⟨_, rfl, .refl _⟩, ⟨_, rfl, .refl _⟩, ⟨_, rfl, .refl _⟩, ⟨_, rfl, .refl _⟩, trivial⟩) (bodyQ_normal _ rfl ⟨rfl, rfl⟩ rfl)
def f46a_L1 (r9 : List Int) (i10 : Int) (K2 : (BitVec 16) → Option (Bool × Nat × Int × Int × BitVec 16 × BitVec 16 × Int × (List Tq0))) : Nat → (BitVec 16 × Nat) → Option (Bool × Nat × Int × Int × BitVec 16 × BitVec 16 × Int × (List Tq0))
 | 0, _ => none
 | k + 1, (w18, n19) =>
  if (decide ((n19 : Int) < (((r9).length : Nat) : Int))) then (
  jn (fun (w20 : BitVec 16) =>
  chk (((n19 : Int) + (1 : Int)) ≤ 9223372036854775807) <|
  (f46a_L1 r9 i10 K2 k) (w20, (n19 + 1))
  ) fun (K3 : (TB) → Option (Bool × Nat × Int × Int × TB × TB × Int × (List Tq0))) =>
  chk ((n19 : Int) < (((r9).length : Nat) : Int)) <|
  chk (n19 < (r9).length) <|
  chk (n19 ≤ IntKind.bits .u32) <|
  if ((bitsI .and .u32 (i10 / 2 ^ n19) (1 : Int)) == (1 : Int)) then (
  chk (0 ≤ (r9.getD n19 0)) <|
  K3 (w18 ||| ((BitVec.ofInt 16 1) <<< (((r9.getD n19 0)).toNat)))
  ) else (
  K3 w18
  )
  ) else (
  K2 w18
  )
def f46a_L0 (Y70001 : (Int × Int × BitVec 16 × BitVec 16 × Int × (List Tq0)) → (BitVec 16) → Option (Nat × (Int × Int × BitVec 16 × BitVec 16 × Int × (List Tq0)))) (r9 : List Int) (K1 : (Int × BitVec 16 × BitVec 16 × Int × Int × (List Tq0) × Nat) → Option (Bool × Nat × Int × Int × BitVec 16 × BitVec 16 × Int × (List Tq0))) : Nat → (Int × Int × BitVec 16 × BitVec 16 × Int × Int × (List Tq0) × Nat) → Option (Bool × Nat × Int × Int × BitVec 16 × BitVec 16 × Int × (List Tq0))
 | 0, _ => none
 | k + 1, (i10, i11, w12, w13, i14, i15, l16, n17) =>
  chk ((r9).length ≤ IntKind.bits .u32 ∧ 0 ≤ ((1 : Int) * 2 ^ ((r9).length)) ∧ ((1 : Int) * 2 ^ ((r9).length)) ≤ 4294967295) <|
  if (decide (i10 < ((1 : Int) * 2 ^ ((r9).length)))) then (
  jn (fun (w21 : BitVec 16) =>
  jn (fun ((i23, w24, w25, i26, i27, l28, n29) : Int × BitVec 16 × BitVec 16 × Int × Int × (List Tq0) × Nat) =>
  if (i10 == (0 : Int)) then (
  K1 (i23, w24, w25, i26, i27, l28, n29)
  ) else (
  chk (0 ≤ (i10 + (bitsI .and .u32 i10 (IntKind.wrap .u32 (0 - i10)))) ∧ (i10 + (bitsI .and .u32 i10 (IntKind.wrap .u32 (0 - i10)))) ≤ 4294967295) <|
  chk (0 ≤ (bitsI .xor .u32 i10 (i10 + (bitsI .and .u32 i10 (IntKind.wrap .u32 (0 - i10))))) ∧ 1 ≤ (bitsI .and .u32 i10 (IntKind.wrap .u32 (0 - i10))) ∧ 0 ≤ ((bitsI .xor .u32 i10 (i10 + (bitsI .and .u32 i10 (IntKind.wrap .u32 (0 - i10))))) / (bitsI .and .u32 i10 (IntKind.wrap .u32 (0 - i10)))) ∧ ((bitsI .xor .u32 i10 (i10 + (bitsI .and .u32 i10 (IntKind.wrap .u32 (0 - i10))))) / (bitsI .and .u32 i10 (IntKind.wrap .u32 (0 - i10)))) ≤ 4294967295) <|
  chk (2 ≤ IntKind.bits .u32) <|
  (f46a_L0 Y70001 r9 K1 k) ((bitsI .or .u32 (i10 + (bitsI .and .u32 i10 (IntKind.wrap .u32 (0 - i10)))) (((bitsI .xor .u32 i10 (i10 + (bitsI .and .u32 i10 (IntKind.wrap .u32 (0 - i10))))) / (bitsI .and .u32 i10 (IntKind.wrap .u32 (0 - i10)))) / 2 ^ 2)), i23, w24, w25, i26, i27, l28, n29)
  )
  ) fun (K4 : (Int × TB × TB × Int × Int × (List Tq0) × Nat) → Option (Bool × Nat × Int × Int × TB × TB × Int × (List Tq0))) =>
  chk (n17 = 0) <|
  (Y70001 (i15, i14, w13, w12, i11, l16) w21).bind fun (r22 : Nat × (Int × Int × TB × TB × Int × (List Tq0))) =>
  if r22.1 = 0 then (
  if (!true) then (
  some (false, 0, r22.2.1, r22.2.2.1, r22.2.2.2.1, r22.2.2.2.2.1, r22.2.2.2.2.2.1, r22.2.2.2.2.2.2)
  ) else (
  K4 (r22.2.2.2.2.2.1, r22.2.2.2.2.1, r22.2.2.2.1, r22.2.2.1, r22.2.1, r22.2.2.2.2.2.2, 0)
  )
  ) else (
  if (!false) then (
  some (false, r22.1, r22.2.1, r22.2.2.1, r22.2.2.2.1, r22.2.2.2.2.1, r22.2.2.2.2.2.1, r22.2.2.2.2.2.2)
  ) else (
  K4 (r22.2.2.2.2.2.1, r22.2.2.2.2.1, r22.2.2.2.1, r22.2.2.1, r22.2.1, r22.2.2.2.2.2.2, r22.1)
  )
  )
  ) fun (K2 : (TB) → Option (Bool × Nat × Int × Int × TB × TB × Int × (List Tq0))) =>
  f46a_L1 r9 i10 K2 FUEL ((BitVec.ofInt 16 0), 0)
  ) else (
  K1 (i11, w12, w13, i14, i15, l16, n17)
  )
abbrev f46az0 (i15 : Int) (i14 : Int) (w13 : TB) (w12 : TB) (i11 : Int) (l16 : List Tq0) (r9 : List Int) (C70001 : YC) (n17 : Nat) : Heap := [(5, .cells 3 [.int .i64 i15]), (6, .cells 23 [.nils]), (7, .cells 37 [.int .i64 i14]), (8, .cells 27 [.b16 w13]), (9, .cells 23 [.own 6400]), (6001, .cells 27 [.b16 w12]), (6002, .cells 3 [.int .i64 i11]), (6400, bL 43 2 eWW (default : Tq0) l16), (26001, bL 3 1 eI 0 r9), (70001, .yld (some ([5, 6, 7, 8, 9], C70001)) n17)]
abbrev f46az1 (i27 : Int) (i26 : Int) (w25 : TB) (w24 : TB) (i23 : Int) (l28 : List Tq0) (r9 : List Int) (C70001 : YC) (n29 : Nat) : Heap := [(5, .cells 3 [.int .i64 i27]), (6, .cells 23 [.nils]), (7, .cells 37 [.int .i64 i26]), (8, .cells 27 [.b16 w25]), (9, .cells 23 [.own 6400]), (6001, .cells 27 [.b16 w24]), (6002, .cells 3 [.int .i64 i23]), (6400, bL 43 2 eWW (default : Tq0) l28), (26001, bL 3 1 eI 0 r9), (70001, .yld (some ([5, 6, 7, 8, 9], C70001)) n29)]
abbrev f46az2 (r22 : Nat × (Int × Int × TB × TB × Int × (List Tq0))) : Heap := [(5, .cells 3 [.int .i64 r22.2.1]), (6, .cells 23 [.nils]), (7, .cells 37 [.int .i64 r22.2.2.1]), (8, .cells 27 [.b16 r22.2.2.2.1]), (9, .cells 23 [.own 6400]), (6001, .cells 27 [.b16 r22.2.2.2.2.1]), (6002, .cells 3 [.int .i64 r22.2.2.2.2.2.1]), (6400, bL 43 2 eWW (default : Tq0) r22.2.2.2.2.2.2)]
abbrev f46az3 (x3 : Int) (x4 : Int) (x5 : TB) (x6 : TB) (x7 : Int) (x8 : List Tq0) (r9 : List Int) (C70001 : YC) : Heap := [(5, .cells 3 [.int .i64 x3]), (6, .cells 23 [.nils]), (7, .cells 37 [.int .i64 x4]), (8, .cells 27 [.b16 x5]), (9, .cells 23 [.own 6400]), (6001, .cells 27 [.b16 x6]), (6002, .cells 3 [.int .i64 x7]), (6400, bL 43 2 eWW (default : Tq0) x8), (26001, bL 3 1 eI 0 r9), (70001, .yld (some ([5, 6, 7, 8, 9], C70001)) 0)]
abbrev f46az4 (C70001 : YC) (r22 : Nat × (Int × Int × TB × TB × Int × (List Tq0))) : Heap := [(70001, .yld (some ([5, 6, 7, 8, 9], C70001)) r22.1), (5, .cells 3 [.int .i64 r22.2.1]), (6, .cells 23 [.nils]), (7, .cells 37 [.int .i64 r22.2.2.1]), (8, .cells 27 [.b16 r22.2.2.2.1]), (9, .cells 23 [.own 6400]), (6001, .cells 27 [.b16 r22.2.2.2.2.1]), (6002, .cells 3 [.int .i64 r22.2.2.2.2.2.1]), (6400, bL 43 2 eWW (default : Tq0) r22.2.2.2.2.2.2)]
abbrev f46az5 (C70001 : YC) (r22 : Nat × (Int × Int × TB × TB × Int × (List Tq0))) : Heap := [(70001, .yld (some ([5, 6, 7, 8, 9], C70001)) 0), (5, .cells 3 [.int .i64 r22.2.1]), (6, .cells 23 [.nils]), (7, .cells 37 [.int .i64 r22.2.2.1]), (8, .cells 27 [.b16 r22.2.2.2.1]), (9, .cells 23 [.own 6400]), (6001, .cells 27 [.b16 r22.2.2.2.2.1]), (6002, .cells 3 [.int .i64 r22.2.2.2.2.2.1]), (6400, bL 43 2 eWW (default : Tq0) r22.2.2.2.2.2.2)]
abbrev f46az6 (x2 : Int) := ((decide (x2 < (0 : Int))) == false)
abbrev f46az7 := (List Tq0)
def f46a (Y70001 : (Int × Int × BitVec 16 × BitVec 16 × Int × (List Tq0)) → (BitVec 16) → Option (Nat × (Int × Int × BitVec 16 × BitVec 16 × Int × (List Tq0)))) (x1 : BitVec 16) (x2 : Int) (x3 : Int) (x4 : Int) (x5 : BitVec 16) (x6 : BitVec 16) (x7 : Int) (x8 : List Tq0) : Option (Bool × Nat × Int × Int × BitVec 16 × BitVec 16 × Int × (List Tq0)) :=
 (f70 x1).bind fun (r9 : List Int) =>
 if ((decide (x2 < (0 : Int))) || (decide (x2 > (((r9).length : Nat) : Int)))) then (
 some (true, 0, x3, x4, x5, x6, x7, x8)
 ) else (
 jn (fun ((i22, w23, w24, i25, i26, l27, n28) : Int × BitVec 16 × BitVec 16 × Int × Int × (List Tq0) × Nat) =>
 some (true, n28, i26, i25, w24, w23, i22, l27)
 ) fun (K1 : (Int × TB × TB × Int × Int × (List Tq0) × Nat) → Option (Bool × Nat × Int × Int × TB × TB × Int × (List Tq0))) =>
 chk (0 ≤ x2 ∧ (x2).toNat ≤ IntKind.bits .u32 ∧ 0 ≤ ((1 : Int) * 2 ^ ((x2).toNat)) ∧ ((1 : Int) * 2 ^ ((x2).toNat)) ≤ 4294967295) <|
 chk (0 ≤ (((1 : Int) * 2 ^ ((x2).toNat)) - (1 : Int)) ∧ (((1 : Int) * 2 ^ ((x2).toNat)) - (1 : Int)) ≤ 4294967295) <|
 f46a_L0 Y70001 r9 K1 FUEL ((((1 : Int) * 2 ^ ((x2).toNat)) - (1 : Int)), x7, x6, x5, x4, x3, x8, 0)
 )
theorem f46a_ok (C70001 : YC) (Y70001 : (Int × Int × TB × TB × Int × (List Tq0)) → (TB) → Option (Nat × (Int × Int × TB × TB × Int × (List Tq0)))) (x1 : TB) (x2 : Int) (x3 : Int) (x4 : Int) (x5 : TB) (x6 : TB) (x7 : Int) (x8 : List Tq0) (r : Bool × Nat × Int × Int × TB × TB × Int × (List Tq0)) (h : f46a Y70001 x1 x2 x3 x4 x5 x6 x7 x8 = some r) (hY70001 : ∀ s x r, Y70001 s x = some r → YSpec Tryz.prog 70001 [5, 6, 7, 8, 9] C70001 [5, 6, 7, 8, 9, 6001, 6002] [(5, .cells 3 [.int .i64 s.1]), (6, .cells 23 [.nils]), (7, .cells 37 [.int .i64 s.2.1]), (8, .cells 27 [.b16 s.2.2.1]), (9, .cells 23 [.own 6400]), (6001, .cells 27 [.b16 s.2.2.2.1]), (6002, .cells 3 [.int .i64 s.2.2.2.2.1]), (6400, bL 43 2 eWW (default : Tq0) s.2.2.2.2.2)] [.b16 x] r.1 [(5, .cells 3 [.int .i64 r.2.1]), (6, .cells 23 [.nils]), (7, .cells 37 [.int .i64 r.2.2.1]), (8, .cells 27 [.b16 r.2.2.2.1]), (9, .cells 23 [.own 6400]), (6001, .cells 27 [.b16 r.2.2.2.2.1]), (6002, .cells 3 [.int .i64 r.2.2.2.2.2.1]), (6400, bL 43 2 eWW (default : Tq0) r.2.2.2.2.2.2)]) : Spec1 Tryz.prog 46 [(0, .elem 32 1 T0F 0 0)] [70001, 5, 6, 7, 8, 9, 6001, 6002] [(70001, .yld (some ([5, 6, 7, 8, 9], C70001)) 0), (5, .cells 3 [.int .i64 x3]), (6, .cells 23 [.nils]), (7, .cells 37 [.int .i64 x4]), (8, .cells 27 [.b16 x5]), (9, .cells 23 [.own 6400]), (6001, .cells 27 [.b16 x6]), (6002, .cells 3 [.int .i64 x7]), (6400, bL 43 2 eWW (default : Tq0) x8)] [.b16 x1, .int .i64 x2, .own 70001] (.bool r.1) [(70001, .yld (some ([5, 6, 7, 8, 9], C70001)) r.2.1), (5, .cells 3 [.int .i64 r.2.2.1]), (6, .cells 23 [.nils]), (7, .cells 37 [.int .i64 r.2.2.2.1]), (8, .cells 27 [.b16 r.2.2.2.2.1]), (9, .cells 23 [.own 6400]), (6001, .cells 27 [.b16 r.2.2.2.2.2.1]), (6002, .cells 3 [.int .i64 r.2.2.2.2.2.2.1]), (6400, bL 43 2 eWW (default : Tq0) r.2.2.2.2.2.2.2)] := by
 unfold f46a at h
 refine Spec1.body 20000 _ _ Tryz.func46 rfl Tryz.ntmps46 rfl rfl ?_
 refine q2rq [57] [] ⟨70, [(0, .b16 x1), (1, .i x2), (2, .own 70001), (1000000, .elem 32 1 T0F 0 0)], [(5, .cells 3 [.i x3]), (6, .cells 23 [.nils]), (7, .cells 37 [.i x4]), (8, .cells 27 [.b16 x5]), (9, .cells 23 [.own 6400]), (6001, .cells 27 [.b16 x6]), (6002, .cells 3 [.i x7]), (6400, q2bWW_43 x8), (70001, .yld (some ([5, 6, 7, 8, 9], C70001)) 0)], [70001, 5, 6, 7, 8, 9, 6001, 6002], 20000⟩ trivial ?_
 refine AWp.seq ?_
 obtain ⟨r9, hr9, h⟩ := bind_ok h
 refine q2rr [57] [(1, ⟨[.b16 x1], [], [], [(26001, q2bI_3 r9)], .own 26001, [26001], [], [0]⟩)] ⟨70, [(1, .i x2), (2, .own 70001), (7, .own 26001), (1000000, .elem 32 1 T0F 0 0)], (f46az3 x3 x4 x5 x6 x7 x8 r9 C70001), [70001, 5, 6, 7, 8, 9, 6001, 6002], 20000⟩ (an1 (cpT (Spec1.ren (swapN 3000 26001) (swapN_inv 3000 26001) rfl (f70_ok _ _ hr9)))) ?_
 refine tN ?_
 refine AWp.seq ?_
 refine AWp.seq ?_
 have ob0 := idA ((f46az6 x2) = true)
 have ob1 := idA ((f46az6 x2) = true)
 have ob2 := idA ((f46az6 x2) = true)
 have ob3 : true = true → (decide (x2 < (0 : Int))) = false → (f46az6 x2) = true := fun _ h => beq_iff_eq.2 h
 refine q2rr [57] [] ⟨70, [(1, .i x2), (2, .own 70001), (7, .own 26001), (23, .bool ((decide (x2 < (0 : Int))) || (decide (x2 > (lZ r9))))), (1000000, .elem 32 1 T0F 0 0)], (f46az3 x3 x4 x5 x6 x7 x8 r9 C70001), [70001, 5, 6, 7, 8, 9, 6001, 6002], 20000⟩ (an3 (an1 ob0) (an2 ob1 ob2) ob3) ?_
 refine tN ?_
 refine AWp.cond (b := ((decide (x2 < (0 : Int))) || (decide (x2 > (lZ r9))))) (by kernel_rfl) (fun hc1 => ?_) (fun hc1 => ?_)
 ·
  replace h := ite_tb hc1 h
  refine q2rq [57] [] ⟨70, [(6, .bool true), (1000000, .elem 32 1 T0F 0 0)], [(5, .cells 3 [.i x3]), (6, .cells 23 [.nils]), (7, .cells 37 [.i x4]), (8, .cells 27 [.b16 x5]), (9, .cells 23 [.own 6400]), (6001, .cells 27 [.b16 x6]), (6002, .cells 3 [.i x7]), (6400, q2bWW_43 x8), (70001, .yld (some ([5, 6, 7, 8, 9], C70001)) 0)], [70001, 5, 6, 7, 8, 9, 6001, 6002], 20000⟩ trivial ?_
  have hret := oJ h
  subst hret
  refine AWp.le (Le.mk (s' := ⟨70, [(6, .bool true)], [(70001, .yld (some ([5, 6, 7, 8, 9], C70001)) 0), (5, .cells 3 [.i x3]), (6, .cells 23 [.nils]), (7, .cells 37 [.i x4]), (8, .cells 27 [.b16 x5]), (9, .cells 23 [.own 6400]), (6001, .cells 27 [.b16 x6]), (6002, .cells 3 [.i x7]), (6400, q2bWW_43 x8)], [70001, 5, 6, 7, 8, 9, 6001, 6002], 20000⟩) rfl rfl ⟨.refl _, trivial⟩ ⟨⟨_, rfl, .refl _⟩, ⟨_, rfl, .refl _⟩, ⟨_, rfl, .refl _⟩, ⟨_, rfl, .refl _⟩, ⟨_, rfl, .refl _⟩, ⟨_, rfl, .refl _⟩, ⟨_, rfl, .refl _⟩, ⟨_, rfl, .refl _⟩, ⟨_, rfl, .refl _⟩, trivial⟩) ?_
  refine AWp.ret ?_
  refine tR ?_
  exact bR _ rfl ⟨rfl, rfl⟩ rfl
 ·
  replace h := ite_fb hc1 h
  refine AWp.skip ?_
  refine tN ?_
  obtain ⟨K1, hK1, h⟩ := jn_some h
  refine AWp.join (α := Int × TB × TB × Int × Int × (f46az7) × Nat) (fun (x : Int × TB × TB × Int × Int × (f46az7) × Nat) => match x with | (i22, w23, w24, i25, i26, l27, n28) => ⟨70, [(1000000, .elem 32 1 T0F 0 0)], [(5, .cells 3 [.i i26]), (6, .cells 23 [.nils]), (7, .cells 37 [.i i25]), (8, .cells 27 [.b16 w24]), (9, .cells 23 [.own 6400]), (6001, .cells 27 [.b16 w23]), (6002, .cells 3 [.i i22]), (6400, q2bWW_43 l27), (70001, .yld (some ([5, 6, 7, 8, 9], C70001)) n28)], [70001, 5, 6, 7, 8, 9, 6001, 6002], 20000⟩) (fun x => K1 x = some r) ?_ ?_
  ·
   refine AWp.seq ?_
   obtain ⟨ob4, ob5, h⟩ := ck2 h
   refine q2rr [57] [] ⟨70, [(2, .own 70001), (7, .own 26001), (8, .int .u32 (((1 : Int) * 2 ^ ((x2).toNat)) - (1 : Int))), (1000000, .elem 32 1 T0F 0 0)], (f46az3 x3 x4 x5 x6 x7 x8 r9 C70001), [70001, 5, 6, 7, 8, 9, 6001, 6002], 20000⟩ (an2 ob4 ob5) ?_
   refine tN ?_
   refine AWp.block ?_
   refine AWp.loopL (α := Nat × (Int × Int × TB × TB × Int × Int × (f46az7) × Nat)) (fun x => match x with | (_, i10, i11, w12, w13, i14, i15, l16, n17) => ⟨70, [(2, .own 70001), (7, .own 26001), (8, .int .u32 i10), (1000000, .elem 32 1 T0F 0 0)], (f46az0 i15 i14 w13 w12 i11 l16 r9 C70001 n17), [70001, 5, 6, 7, 8, 9, 6001, 6002], 20000⟩) (fun x => f46a_L0 Y70001 r9 K1 x.1 x.2 = some r) (fun x => x.1) (FUEL, (((1 : Int) * 2 ^ ((x2).toNat)) - (1 : Int)), x7, x6, x5, x4, x3, x8, 0) (Le.mk (s' := ⟨70, [(2, .own 70001), (7, .own 26001), (8, .int .u32 (((1 : Int) * 2 ^ ((x2).toNat)) - (1 : Int))), (1000000, .elem 32 1 T0F 0 0)], (f46az3 x3 x4 x5 x6 x7 x8 r9 C70001), [70001, 5, 6, 7, 8, 9, 6001, 6002], 20000⟩) rfl rfl ⟨.refl _, .refl _, .refl _, .refl _, trivial⟩ ⟨⟨_, rfl, .refl _⟩, ⟨_, rfl, .refl _⟩, ⟨_, rfl, .refl _⟩, ⟨_, rfl, .refl _⟩, ⟨_, rfl, .refl _⟩, ⟨_, rfl, .refl _⟩, ⟨_, rfl, .refl _⟩, ⟨_, rfl, .refl _⟩, ⟨_, rfl, .refl _⟩, ⟨_, rfl, .refl _⟩, trivial⟩) h ?_
   rintro ⟨k0, i10, i11, w12, w13, i14, i15, l16, n17⟩ h
   cases k0 with
   | zero => exact nomatch (show (none : Option (Bool × Nat × Int × Int × TB × TB × Int × (List Tq0))) = some r from h)
   | succ k0 =>
   obtain ⟨C0, hC0⟩ : ∃ C, C = f46a_L0 Y70001 r9 K1 k0 := ⟨_, rfl⟩
   replace h := (f46a_L0.eq_2 ..).symm.trans h
   try rw [← hC0] at h
   refine AWp.seq ?_
   refine AWp.seq ?_
   obtain ⟨ob6p, h⟩ := chk_some h
   have ob6 : 0 ≤ (((r9).length : Nat) : Int) ∧ (r9).length ≤ IntKind.bits .u32 ∧ 0 ≤ ((1 : Int) * 2 ^ ((r9).length)) ∧ ((1 : Int) * 2 ^ ((r9).length)) ≤ 4294967295 := ⟨by omega, ob6p.1, ob6p.2.1, ob6p.2.2⟩
   refine q2rr [57] [] ⟨70, [(2, .own 70001), (7, .own 26001), (8, .int .u32 i10), (31, .bool (decide (i10 < ((1 : Int) * 2 ^ ((r9).length))))), (1000000, .elem 32 1 T0F 0 0)], (f46az0 i15 i14 w13 w12 i11 l16 r9 C70001 n17), [70001, 5, 6, 7, 8, 9, 6001, 6002], 20000⟩ (an1 ob6) ?_
   refine tN ?_
   refine AWp.cond (b := (decide (i10 < ((1 : Int) * 2 ^ ((r9).length))))) (by kernel_rfl) (fun hc2 => ?_) (fun hc2 => ?_)
   ·
    replace h := ite_tb hc2 h
    refine AWp.skip ?_
    refine tN ?_
    refine AWp.block ?_
    refine q2rq [57] [] ⟨70, [(2, .own 70001), (7, .own 26001), (8, .int .u32 i10), (9, .b16 (q2w16 0)), (1000000, .elem 32 1 T0F 0 0)], (f46az0 i15 i14 w13 w12 i11 l16 r9 C70001 n17), [70001, 5, 6, 7, 8, 9, 6001, 6002], 20000⟩ trivial ?_
    obtain ⟨K2, hK2, h⟩ := jn_some h
    refine AWp.join (α := TB) (fun (w21 : TB) => ⟨70, [(2, .own 70001), (7, .own 26001), (8, .int .u32 i10), (9, .b16 w21), (1000000, .elem 32 1 T0F 0 0)], (f46az0 i15 i14 w13 w12 i11 l16 r9 C70001 n17), [70001, 5, 6, 7, 8, 9, 6001, 6002], 20000⟩) (fun x => K2 x = some r) ?_ ?_
    ·
     refine q2rq [57] [] ⟨70, [(2, .own 70001), (7, .own 26001), (8, .int .u32 i10), (9, .b16 (q2w16 0)), (32, .own 26001), (33, .i (lZ r9)), (34, .i (0 : Int)), (1000000, .elem 32 1 T0F 0 0)], (f46az0 i15 i14 w13 w12 i11 l16 r9 C70001 n17), [70001, 5, 6, 7, 8, 9, 6001, 6002], 20000⟩ trivial ?_
     refine AWp.block ?_
     refine AWp.loopL (α := Nat × (TB × Nat)) (fun x => match x with | (_, w18, n19) => ⟨70, [(2, .own 70001), (7, .own 26001), (8, .int .u32 i10), (9, .b16 w18), (32, .own 26001), (33, .i (lZ r9)), (34, .i (n19 : Int)), (1000000, .elem 32 1 T0F 0 0)], (f46az0 i15 i14 w13 w12 i11 l16 r9 C70001 n17), [70001, 5, 6, 7, 8, 9, 6001, 6002], 20000⟩) (fun x => f46a_L1 r9 i10 K2 x.1 x.2 = some r) (fun x => x.1) (FUEL, (q2w16 0), 0) (Le.mk (s' := ⟨70, [(2, .own 70001), (7, .own 26001), (8, .int .u32 i10), (9, .b16 (q2w16 0)), (32, .own 26001), (33, .i (lZ r9)), (34, .i (0 : Int)), (1000000, .elem 32 1 T0F 0 0)], (f46az0 i15 i14 w13 w12 i11 l16 r9 C70001 n17), [70001, 5, 6, 7, 8, 9, 6001, 6002], 20000⟩) rfl rfl ⟨.refl _, .refl _, .refl _, .refl _, .refl _, .refl _, .refl _, .refl _, trivial⟩ ⟨⟨_, rfl, .refl _⟩, ⟨_, rfl, .refl _⟩, ⟨_, rfl, .refl _⟩, ⟨_, rfl, .refl _⟩, ⟨_, rfl, .refl _⟩, ⟨_, rfl, .refl _⟩, ⟨_, rfl, .refl _⟩, ⟨_, rfl, .refl _⟩, ⟨_, rfl, .refl _⟩, ⟨_, rfl, .refl _⟩, trivial⟩) h ?_
     rintro ⟨k1, w18, n19⟩ h
     cases k1 with
     | zero => exact nomatch (show (none : Option (Bool × Nat × Int × Int × TB × TB × Int × (List Tq0))) = some r from h)
     | succ k1 =>
     obtain ⟨C1, hC1⟩ : ∃ C, C = f46a_L1 r9 i10 K2 k1 := ⟨_, rfl⟩
     replace h := (f46a_L1.eq_2 ..).symm.trans h
     try rw [← hC1] at h
     refine q2rq [57] [] ⟨70, [(2, .own 70001), (7, .own 26001), (8, .int .u32 i10), (9, .b16 w18), (32, .own 26001), (33, .i (lZ r9)), (34, .i (n19 : Int)), (35, .bool (decide ((n19 : Int) < (lZ r9)))), (1000000, .elem 32 1 T0F 0 0)], (f46az0 i15 i14 w13 w12 i11 l16 r9 C70001 n17), [70001, 5, 6, 7, 8, 9, 6001, 6002], 20000⟩ trivial ?_
     refine AWp.seq ?_
     refine AWp.cond (b := (decide ((n19 : Int) < (lZ r9)))) (by kernel_rfl) (fun hc3 => ?_) (fun hc3 => ?_)
     ·
      replace h := ite_tb hc3 h
      refine AWp.skip ?_
      refine tN ?_
      obtain ⟨K3, hK3, h⟩ := jn_some h
      refine AWp.join (α := TB) (fun (w20 : TB) => ⟨70, [(2, .own 70001), (7, .own 26001), (8, .int .u32 i10), (9, .b16 w20), (32, .own 26001), (33, .i (lZ r9)), (34, .i (n19 : Int)), (1000000, .elem 32 1 T0F 0 0)], (f46az0 i15 i14 w13 w12 i11 l16 r9 C70001 n17), [70001, 5, 6, 7, 8, 9, 6001, 6002], 20000⟩) (fun x => K3 x = some r) ?_ ?_
      ·
       refine AWp.block ?_
       refine AWp.seq ?_
       obtain ⟨ob7p, h⟩ := chk_some h
       have ob7 : 0 ≤ (n19 : Int) ∧ (n19 : Int) < (((r9).length : Nat) : Int) := ⟨by omega, ob7p⟩
       obtain ⟨ob8, h⟩ := chk_some h
       refine q2rr [57] [] ⟨70, [(2, .own 70001), (7, .own 26001), (8, .int .u32 i10), (9, .b16 w18), (10, .i (n19 : Int)), (11, .i (r9.getD n19 0)), (32, .own 26001), (33, .i (lZ r9)), (34, .i (n19 : Int)), (1000000, .elem 32 1 T0F 0 0)], (f46az0 i15 i14 w13 w12 i11 l16 r9 C70001 n17), [70001, 5, 6, 7, 8, 9, 6001, 6002], 20000⟩ (an2 ob7 ob8) ?_
       refine tN ?_
       refine AWp.seq ?_
       obtain ⟨ob9p, h⟩ := chk_some h
       have ob9 : 0 ≤ (n19 : Int) ∧ n19 ≤ IntKind.bits .u32 := ⟨by omega, ob9p⟩
       refine q2rr [57] [] ⟨70, [(2, .own 70001), (7, .own 26001), (8, .int .u32 i10), (9, .b16 w18), (11, .i (r9.getD n19 0)), (32, .own 26001), (33, .i (lZ r9)), (34, .i (n19 : Int)), (43, .bool ((bitsI .and .u32 (i10 / 2 ^ n19) (1 : Int)) == (1 : Int))), (1000000, .elem 32 1 T0F 0 0)], (f46az0 i15 i14 w13 w12 i11 l16 r9 C70001 n17), [70001, 5, 6, 7, 8, 9, 6001, 6002], 20000⟩ (an1 ob9) ?_
       refine tN ?_
       refine AWp.cond (b := ((bitsI .and .u32 (i10 / 2 ^ n19) (1 : Int)) == (1 : Int))) (by kernel_rfl) (fun hc4 => ?_) (fun hc4 => ?_)
       ·
        replace h := ite_tb hc4 h
        obtain ⟨ob10, h⟩ := chk_some h
        refine q2rr [57] [] ⟨70, [(2, .own 70001), (7, .own 26001), (8, .int .u32 i10), (9, .b16 (w18 ||| ((q2w16 1) <<< (((r9.getD n19 0)).toNat)))), (32, .own 26001), (33, .i (lZ r9)), (34, .i (n19 : Int)), (1000000, .elem 32 1 T0F 0 0)], (f46az0 i15 i14 w13 w12 i11 l16 r9 C70001 n17), [70001, 5, 6, 7, 8, 9, 6001, 6002], 20000⟩ (an1 ob10) ?_
        refine kN ?_
        exact jN ((w18 ||| ((q2w16 1) <<< (((r9.getD n19 0)).toNat)))) (Le.mk rfl rfl ⟨.refl _, .refl _, .refl _, .refl _, .refl _, .refl _, .refl _, .refl _, trivial⟩ ⟨⟨_, rfl, .refl _⟩, ⟨_, rfl, .refl _⟩, ⟨_, rfl, .refl _⟩, ⟨_, rfl, .refl _⟩, ⟨_, rfl, .refl _⟩, ⟨_, rfl, .refl _⟩, ⟨_, rfl, .refl _⟩, ⟨_, rfl, .refl _⟩, ⟨_, rfl, .refl _⟩, ⟨_, rfl, .refl _⟩, trivial⟩) h
       ·
        replace h := ite_fb hc4 h
        refine AWp.skip ?_
        refine kN ?_
        exact jN (w18) (Le.mk rfl rfl ⟨.refl _, .refl _, .refl _, .refl _, .refl _, .refl _, .refl _, .refl _, trivial⟩ ⟨⟨_, rfl, .refl _⟩, ⟨_, rfl, .refl _⟩, ⟨_, rfl, .refl _⟩, ⟨_, rfl, .refl _⟩, ⟨_, rfl, .refl _⟩, ⟨_, rfl, .refl _⟩, ⟨_, rfl, .refl _⟩, ⟨_, rfl, .refl _⟩, ⟨_, rfl, .refl _⟩, ⟨_, rfl, .refl _⟩, trivial⟩) h
      ·
       rintro w20 h
       replace h := (congrFun hK3 _).symm.trans h
       obtain ⟨ob11p, h⟩ := chk_some h
       have ob11 : -9223372036854775808 ≤ ((n19 : Int) + (1 : Int)) ∧ ((n19 : Int) + (1 : Int)) ≤ 9223372036854775807 := ⟨by omega, ob11p⟩
       refine q2rr [57] [] ⟨70, [(2, .own 70001), (7, .own 26001), (8, .int .u32 i10), (9, .b16 w20), (32, .own 26001), (33, .i (lZ r9)), (34, .i (((n19 + 1) : Nat) : Int)), (1000000, .elem 32 1 T0F 0 0)], (f46az0 i15 i14 w13 w12 i11 l16 r9 C70001 n17), [70001, 5, 6, 7, 8, 9, 6001, 6002], 20000⟩ (an1 ob11) ?_
       rw [hC1] at h
       exact lN (_, w20, (n19 + 1)) (Le.mk rfl rfl ⟨.refl _, .refl _, .refl _, .refl _, .refl _, .refl _, .refl _, .refl _, trivial⟩ ⟨⟨_, rfl, .refl _⟩, ⟨_, rfl, .refl _⟩, ⟨_, rfl, .refl _⟩, ⟨_, rfl, .refl _⟩, ⟨_, rfl, .refl _⟩, ⟨_, rfl, .refl _⟩, ⟨_, rfl, .refl _⟩, ⟨_, rfl, .refl _⟩, ⟨_, rfl, .refl _⟩, ⟨_, rfl, .refl _⟩, trivial⟩) h (Nat.lt_succ_self _)
     ·
      replace h := ite_fb hc3 h
      refine AWp.exit ?_
      refine tE ?_
      refine tE ?_
      refine kS ?_
      exact jN (w18) (Le.mk rfl rfl ⟨.refl _, .refl _, .refl _, .refl _, .refl _, trivial⟩ ⟨⟨_, rfl, .refl _⟩, ⟨_, rfl, .refl _⟩, ⟨_, rfl, .refl _⟩, ⟨_, rfl, .refl _⟩, ⟨_, rfl, .refl _⟩, ⟨_, rfl, .refl _⟩, ⟨_, rfl, .refl _⟩, ⟨_, rfl, .refl _⟩, ⟨_, rfl, .refl _⟩, ⟨_, rfl, .refl _⟩, trivial⟩) h
    ·
     rintro w21 h
     replace h := (congrFun hK2 _).symm.trans h
     obtain ⟨K4, hK4, h⟩ := jn_some h
     refine AWp.join (α := Int × TB × TB × Int × Int × (f46az7) × Nat) (fun (x : Int × TB × TB × Int × Int × (f46az7) × Nat) => match x with | (i23, w24, w25, i26, i27, l28, n29) => ⟨70, [(2, .own 70001), (7, .own 26001), (8, .int .u32 i10), (1000000, .elem 32 1 T0F 0 0)], (f46az1 i27 i26 w25 w24 i23 l28 r9 C70001 n29), [70001, 5, 6, 7, 8, 9, 6001, 6002], 20000⟩) (fun x => K4 x = some r) ?_ ?_
     ·
      refine AWp.seq ?_
      obtain ⟨hz5, h⟩ := chk_some h
      refine AWp.le (Le.mk (s' := ⟨70, [(2, .own 70001), (7, .own 26001), (8, .int .u32 i10), (9, .b16 w21), (1000000, .elem 32 1 T0F 0 0)], [(5, .cells 3 [.i i15]), (6, .cells 23 [.nils]), (7, .cells 37 [.i i14]), (8, .cells 27 [.b16 w13]), (9, .cells 23 [.own 6400]), (6001, .cells 27 [.b16 w12]), (6002, .cells 3 [.i i11]), (6400, q2bWW_43 l16), (26001, q2bI_3 r9), (70001, .yld (some ([5, 6, 7, 8, 9], C70001)) 0)], [70001, 5, 6, 7, 8, 9, 6001, 6002], 20000⟩) rfl rfl ⟨.refl _, .refl _, .refl _, .refl _, .refl _, trivial⟩ ⟨⟨_, rfl, .refl _⟩, ⟨_, rfl, .refl _⟩, ⟨_, rfl, .refl _⟩, ⟨_, rfl, .refl _⟩, ⟨_, rfl, .refl _⟩, ⟨_, rfl, .refl _⟩, ⟨_, rfl, .refl _⟩, ⟨_, rfl, .refl _⟩, ⟨_, rfl, .refl _⟩, ⟨_, rfl, BLe.yldEq hz5⟩, trivial⟩) ?_
      obtain ⟨r22, hr22, h⟩ := bind_ok h
      by_cases hy_r22 : r22.1 = 0
      ·
       replace h := ite_t hy_r22 h
       refine q2rr [57] [(2, ⟨[.b16 w21], [70001, 5, 6, 7, 8, 9, 6001, 6002, 6400], [5, 6, 7, 8, 9, 6001, 6002], (f46az5 C70001 r22), .bool true, [6400], [], []⟩)] ⟨70, [(2, .own 70001), (7, .own 26001), (8, .int .u32 i10), (52, .bool (!true)), (1000000, .elem 32 1 T0F 0 0)], [(5, .cells 3 [.i r22.2.1]), (6, .cells 23 [.nils]), (7, .cells 37 [.i r22.2.2.1]), (8, .cells 27 [.b16 r22.2.2.2.1]), (9, .cells 23 [.own 6400]), (6001, .cells 27 [.b16 r22.2.2.2.2.1]), (6002, .cells 3 [.i r22.2.2.2.2.2.1]), (6400, q2bWW_43 r22.2.2.2.2.2.2), (26001, q2bI_3 r9), (70001, .yld (some ([5, 6, 7, 8, 9], C70001)) 0)], [70001, 5, 6, 7, 8, 9, 6001, 6002], 20000⟩ (an1 (show (((f46az5 C70001 r22) : Heap) = (70001, .yld (some ([5, 6, 7, 8, 9], C70001)) 0) :: (f46az2 r22) ∧ V.bool true = V.bool (0 == 0) ∧ YSpec Tryz.prog 70001 [5, 6, 7, 8, 9] C70001 [5, 6, 7, 8, 9, 6001, 6002] [(5, .cells 3 [.i i15]), (6, .cells 23 [.nils]), (7, .cells 37 [.i i14]), (8, .cells 27 [.b16 w13]), (9, .cells 23 [.own 6400]), (6001, .cells 27 [.b16 w12]), (6002, .cells 3 [.i i11]), (6400, q2bWW_43 l16)] [.b16 w21] 0 (f46az2 r22) ∧ VLes [.b16 w21] [.b16 w21]) from ⟨rfl, rfl, (YSpec.zero (hY70001 _ _ r22 hr22) hy_r22), ⟨.refl _, trivial⟩⟩)) ?_
       refine tN ?_
       refine AWp.cond (b := (!true)) (by kernel_rfl) (fun hc7 => ?_) (fun hc7 => ?_)
       ·
        replace h := ite_tb hc7 h
        refine q2rq [57] [] ⟨70, [(6, .bool false), (1000000, .elem 32 1 T0F 0 0)], [(5, .cells 3 [.i r22.2.1]), (6, .cells 23 [.nils]), (7, .cells 37 [.i r22.2.2.1]), (8, .cells 27 [.b16 r22.2.2.2.1]), (9, .cells 23 [.own 6400]), (6001, .cells 27 [.b16 r22.2.2.2.2.1]), (6002, .cells 3 [.i r22.2.2.2.2.2.1]), (6400, q2bWW_43 r22.2.2.2.2.2.2), (70001, .yld (some ([5, 6, 7, 8, 9], C70001)) 0)], [70001, 5, 6, 7, 8, 9, 6001, 6002], 20000⟩ trivial ?_
        have hret := oJ h
        subst hret
        refine AWp.le (Le.mk (s' := ⟨70, [(6, .bool false)], (f46az5 C70001 r22), [70001, 5, 6, 7, 8, 9, 6001, 6002], 20000⟩) rfl rfl ⟨.refl _, trivial⟩ ⟨⟨_, rfl, .refl _⟩, ⟨_, rfl, .refl _⟩, ⟨_, rfl, .refl _⟩, ⟨_, rfl, .refl _⟩, ⟨_, rfl, .refl _⟩, ⟨_, rfl, .refl _⟩, ⟨_, rfl, .refl _⟩, ⟨_, rfl, .refl _⟩, ⟨_, rfl, .refl _⟩, trivial⟩) ?_
        refine AWp.ret ?_
        refine joinQ_ret ?_
        refine kR ?_
        refine tR ?_
        refine kR ?_
        refine joinQ_ret ?_
        exact bR _ rfl ⟨rfl, rfl⟩ rfl
       ·
        replace h := ite_fb hc7 h
        refine AWp.skip ?_
        exact jN (r22.2.2.2.2.2.1, r22.2.2.2.2.1, r22.2.2.2.1, r22.2.2.1, r22.2.1, r22.2.2.2.2.2.2, 0) (Le.mk rfl rfl ⟨.refl _, .refl _, .refl _, .refl _, trivial⟩ ⟨⟨_, rfl, .refl _⟩, ⟨_, rfl, .refl _⟩, ⟨_, rfl, .refl _⟩, ⟨_, rfl, .refl _⟩, ⟨_, rfl, .refl _⟩, ⟨_, rfl, .refl _⟩, ⟨_, rfl, .refl _⟩, ⟨_, rfl, .refl _⟩, ⟨_, rfl, .refl _⟩, ⟨_, rfl, .refl _⟩, trivial⟩) h
      ·
       replace h := ite_f hy_r22 h
       refine q2rr [57] [(2, ⟨[.b16 w21], [70001, 5, 6, 7, 8, 9, 6001, 6002, 6400], [5, 6, 7, 8, 9, 6001, 6002], (f46az4 C70001 r22), .bool false, [6400], [], []⟩)] ⟨70, [(2, .own 70001), (7, .own 26001), (8, .int .u32 i10), (52, .bool (!false)), (1000000, .elem 32 1 T0F 0 0)], [(5, .cells 3 [.i r22.2.1]), (6, .cells 23 [.nils]), (7, .cells 37 [.i r22.2.2.1]), (8, .cells 27 [.b16 r22.2.2.2.1]), (9, .cells 23 [.own 6400]), (6001, .cells 27 [.b16 r22.2.2.2.2.1]), (6002, .cells 3 [.i r22.2.2.2.2.2.1]), (6400, q2bWW_43 r22.2.2.2.2.2.2), (26001, q2bI_3 r9), (70001, .yld (some ([5, 6, 7, 8, 9], C70001)) r22.1)], [70001, 5, 6, 7, 8, 9, 6001, 6002], 20000⟩ (an1 (show (((f46az4 C70001 r22) : Heap) = (70001, .yld (some ([5, 6, 7, 8, 9], C70001)) r22.1) :: (f46az2 r22) ∧ V.bool false = V.bool (r22.1 == 0) ∧ YSpec Tryz.prog 70001 [5, 6, 7, 8, 9] C70001 [5, 6, 7, 8, 9, 6001, 6002] [(5, .cells 3 [.i i15]), (6, .cells 23 [.nils]), (7, .cells 37 [.i i14]), (8, .cells 27 [.b16 w13]), (9, .cells 23 [.own 6400]), (6001, .cells 27 [.b16 w12]), (6002, .cells 3 [.i i11]), (6400, q2bWW_43 l16)] [.b16 w21] r22.1 (f46az2 r22) ∧ VLes [.b16 w21] [.b16 w21]) from ⟨rfl, bool_ne hy_r22, (hY70001 _ _ r22 hr22), ⟨.refl _, trivial⟩⟩)) ?_
       refine tN ?_
       refine AWp.cond (b := (!false)) (by kernel_rfl) (fun hc8 => ?_) (fun hc8 => ?_)
       ·
        replace h := ite_tb hc8 h
        refine q2rq [57] [] ⟨70, [(6, .bool false), (1000000, .elem 32 1 T0F 0 0)], [(5, .cells 3 [.i r22.2.1]), (6, .cells 23 [.nils]), (7, .cells 37 [.i r22.2.2.1]), (8, .cells 27 [.b16 r22.2.2.2.1]), (9, .cells 23 [.own 6400]), (6001, .cells 27 [.b16 r22.2.2.2.2.1]), (6002, .cells 3 [.i r22.2.2.2.2.2.1]), (6400, q2bWW_43 r22.2.2.2.2.2.2), (70001, .yld (some ([5, 6, 7, 8, 9], C70001)) r22.1)], [70001, 5, 6, 7, 8, 9, 6001, 6002], 20000⟩ trivial ?_
        have hret := oJ h
        subst hret
        refine AWp.le (Le.mk (s' := ⟨70, [(6, .bool false)], (f46az4 C70001 r22), [70001, 5, 6, 7, 8, 9, 6001, 6002], 20000⟩) rfl rfl ⟨.refl _, trivial⟩ ⟨⟨_, rfl, .refl _⟩, ⟨_, rfl, .refl _⟩, ⟨_, rfl, .refl _⟩, ⟨_, rfl, .refl _⟩, ⟨_, rfl, .refl _⟩, ⟨_, rfl, .refl _⟩, ⟨_, rfl, .refl _⟩, ⟨_, rfl, .refl _⟩, ⟨_, rfl, .refl _⟩, trivial⟩) ?_
        refine AWp.ret ?_
        refine joinQ_ret ?_
        refine kR ?_
        refine tR ?_
        refine kR ?_
        refine joinQ_ret ?_
        exact bR _ rfl ⟨rfl, rfl⟩ rfl
       ·
        replace h := ite_fb hc8 h
        refine AWp.skip ?_
        exact jN (r22.2.2.2.2.2.1, r22.2.2.2.2.1, r22.2.2.2.1, r22.2.2.1, r22.2.1, r22.2.2.2.2.2.2, r22.1) (Le.mk rfl rfl ⟨.refl _, .refl _, .refl _, .refl _, trivial⟩ ⟨⟨_, rfl, .refl _⟩, ⟨_, rfl, .refl _⟩, ⟨_, rfl, .refl _⟩, ⟨_, rfl, .refl _⟩, ⟨_, rfl, .refl _⟩, ⟨_, rfl, .refl _⟩, ⟨_, rfl, .refl _⟩, ⟨_, rfl, .refl _⟩, ⟨_, rfl, .refl _⟩, ⟨_, rfl, .refl _⟩, trivial⟩) h
     ·
      rintro ⟨i23, w24, w25, i26, i27, l28, n29⟩ h
      replace h := (congrFun hK4 _).symm.trans h
      refine AWp.seq ?_
      refine q2rq [57] [] ⟨70, [(2, .own 70001), (7, .own 26001), (8, .int .u32 i10), (54, .bool (i10 == (0 : Int))), (1000000, .elem 32 1 T0F 0 0)], (f46az1 i27 i26 w25 w24 i23 l28 r9 C70001 n29), [70001, 5, 6, 7, 8, 9, 6001, 6002], 20000⟩ trivial ?_
      refine AWp.cond (b := (i10 == (0 : Int))) (by kernel_rfl) (fun hc9 => ?_) (fun hc9 => ?_)
      ·
       replace h := ite_tb hc9 h
       refine AWp.exit ?_
       refine tE ?_
       refine blockQ_other (by decide) ?_
       refine tE ?_
       refine kS ?_
       exact jN (i23, w24, w25, i26, i27, l28, n29) (Le.mk rfl rfl ⟨.refl _, trivial⟩ ⟨⟨_, rfl, .refl _⟩, ⟨_, rfl, .refl _⟩, ⟨_, rfl, .refl _⟩, ⟨_, rfl, .refl _⟩, ⟨_, rfl, .refl _⟩, ⟨_, rfl, .refl _⟩, ⟨_, rfl, .refl _⟩, ⟨_, rfl, .refl _⟩, ⟨_, rfl, .refl _⟩, trivial⟩) h
      ·
       replace h := ite_fb hc9 h
       refine AWp.skip ?_
       refine tN ?_
       refine q2rq [57] [] ⟨70, [(2, .own 70001), (7, .own 26001), (8, .int .u32 i10), (12, .int .u32 (bitsI .and .u32 i10 (IntKind.wrap .u32 (0 - i10)))), (1000000, .elem 32 1 T0F 0 0)], (f46az1 i27 i26 w25 w24 i23 l28 r9 C70001 n29), [70001, 5, 6, 7, 8, 9, 6001, 6002], 20000⟩ (an1 trivial) ?_
       refine AWp.seq ?_
       obtain ⟨ob12, h⟩ := chk_some h
       refine q2rr [57] [] ⟨70, [(2, .own 70001), (7, .own 26001), (8, .int .u32 i10), (12, .int .u32 (bitsI .and .u32 i10 (IntKind.wrap .u32 (0 - i10)))), (13, .int .u32 (i10 + (bitsI .and .u32 i10 (IntKind.wrap .u32 (0 - i10))))), (1000000, .elem 32 1 T0F 0 0)], (f46az1 i27 i26 w25 w24 i23 l28 r9 C70001 n29), [70001, 5, 6, 7, 8, 9, 6001, 6002], 20000⟩ (an1 ob12) ?_
       refine tN ?_
       obtain ⟨ob13, ob14p, h⟩ := ck2 h
       have ob14 : 0 ≤ (2 : Int) ∧ 2 ≤ IntKind.bits .u32 := ⟨by omega, ob14p⟩
       refine q2rr [57] [] ⟨70, [(2, .own 70001), (7, .own 26001), (8, .int .u32 (bitsI .or .u32 (i10 + (bitsI .and .u32 i10 (IntKind.wrap .u32 (0 - i10)))) (((bitsI .xor .u32 i10 (i10 + (bitsI .and .u32 i10 (IntKind.wrap .u32 (0 - i10))))) / (bitsI .and .u32 i10 (IntKind.wrap .u32 (0 - i10)))) / 2 ^ 2))), (1000000, .elem 32 1 T0F 0 0)], (f46az1 i27 i26 w25 w24 i23 l28 r9 C70001 n29), [70001, 5, 6, 7, 8, 9, 6001, 6002], 20000⟩ (an2 ob13 ob14) ?_
       refine kN ?_
       rw [hC0] at h
       exact lN (_, (bitsI .or .u32 (i10 + (bitsI .and .u32 i10 (IntKind.wrap .u32 (0 - i10)))) (((bitsI .xor .u32 i10 (i10 + (bitsI .and .u32 i10 (IntKind.wrap .u32 (0 - i10))))) / (bitsI .and .u32 i10 (IntKind.wrap .u32 (0 - i10)))) / 2 ^ 2)), i23, w24, w25, i26, i27, l28, n29) (Le.mk rfl rfl ⟨.refl _, .refl _, .refl _, .refl _, trivial⟩ ⟨⟨_, rfl, .refl _⟩, ⟨_, rfl, .refl _⟩, ⟨_, rfl, .refl _⟩, ⟨_, rfl, .refl _⟩, ⟨_, rfl, .refl _⟩, ⟨_, rfl, .refl _⟩, ⟨_, rfl, .refl _⟩, ⟨_, rfl, .refl _⟩, ⟨_, rfl, .refl _⟩, ⟨_, rfl, .refl _⟩, trivial⟩) h (Nat.lt_succ_self _)
   ·
    replace h := ite_fb hc2 h
    refine AWp.exit ?_
    refine tE ?_
    refine tE ?_
    refine kS ?_
    exact jN (i11, w12, w13, i14, i15, l16, n17) (Le.mk rfl rfl ⟨.refl _, trivial⟩ ⟨⟨_, rfl, .refl _⟩, ⟨_, rfl, .refl _⟩, ⟨_, rfl, .refl _⟩, ⟨_, rfl, .refl _⟩, ⟨_, rfl, .refl _⟩, ⟨_, rfl, .refl _⟩, ⟨_, rfl, .refl _⟩, ⟨_, rfl, .refl _⟩, ⟨_, rfl, .refl _⟩, trivial⟩) h
  ·
   rintro ⟨i22, w23, w24, i25, i26, l27, n28⟩ h
   replace h := (congrFun hK1 _).symm.trans h
   refine q2rq [57] [] ⟨70, [(6, .bool true), (1000000, .elem 32 1 T0F 0 0)], [(5, .cells 3 [.i i26]), (6, .cells 23 [.nils]), (7, .cells 37 [.i i25]), (8, .cells 27 [.b16 w24]), (9, .cells 23 [.own 6400]), (6001, .cells 27 [.b16 w23]), (6002, .cells 3 [.i i22]), (6400, q2bWW_43 l27), (70001, .yld (some ([5, 6, 7, 8, 9], C70001)) n28)], [70001, 5, 6, 7, 8, 9, 6001, 6002], 20000⟩ trivial ?_
   have hret := oJ h
   subst hret
   refine AWp.le (Le.mk (s' := ⟨70, [(6, .bool true)], [(70001, .yld (some ([5, 6, 7, 8, 9], C70001)) n28), (5, .cells 3 [.i i26]), (6, .cells 23 [.nils]), (7, .cells 37 [.i i25]), (8, .cells 27 [.b16 w24]), (9, .cells 23 [.own 6400]), (6001, .cells 27 [.b16 w23]), (6002, .cells 3 [.i i22]), (6400, q2bWW_43 l27)], [70001, 5, 6, 7, 8, 9, 6001, 6002], 20000⟩) rfl rfl ⟨.refl _, trivial⟩ ⟨⟨_, rfl, .refl _⟩, ⟨_, rfl, .refl _⟩, ⟨_, rfl, .refl _⟩, ⟨_, rfl, .refl _⟩, ⟨_, rfl, .refl _⟩, ⟨_, rfl, .refl _⟩, ⟨_, rfl, .refl _⟩, ⟨_, rfl, .refl _⟩, ⟨_, rfl, .refl _⟩, trivial⟩) ?_
   refine AWp.ret ?_
   exact bR _ rfl ⟨rfl, rfl⟩ rfl
def f55a (Y70001 : (Int × Int × BitVec 16 × BitVec 16 × Int × (List Tq0)) → (BitVec 16) → Option (Nat × (Int × Int × BitVec 16 × BitVec 16 × Int × (List Tq0)))) (x1 : Int) (x2 : Int) (x3 : BitVec 16) (x4 : BitVec 16) (x5 : Int) (x6 : List Tq0) : Option (Nat × Int × Int × BitVec 16 × BitVec 16 × Int × (List Tq0)) :=
 (f46a Y70001 x4 x5 x1 x2 x3 x4 x5 x6).bind fun (r7 : Bool × Nat × Int × Int × TB × TB × Int × (List Tq0)) =>
 some (r7.2.1, r7.2.2.1, r7.2.2.2.1, r7.2.2.2.2.1, r7.2.2.2.2.2.1, r7.2.2.2.2.2.2.1, r7.2.2.2.2.2.2.2)
theorem f55a_ok (C70001 : YC) (Y70001 : (Int × Int × TB × TB × Int × (List Tq0)) → (TB) → Option (Nat × (Int × Int × TB × TB × Int × (List Tq0)))) (x1 : Int) (x2 : Int) (x3 : TB) (x4 : TB) (x5 : Int) (x6 : List Tq0) (r : Nat × Int × Int × TB × TB × Int × (List Tq0)) (h : f55a Y70001 x1 x2 x3 x4 x5 x6 = some r) (hY70001 : ∀ s x r, Y70001 s x = some r → YSpec Tryz.prog 70001 [5, 6, 7, 8, 9] C70001 [5, 6, 7, 8, 9, 6001, 6002] [(5, .cells 3 [.int .i64 s.1]), (6, .cells 23 [.nils]), (7, .cells 37 [.int .i64 s.2.1]), (8, .cells 27 [.b16 s.2.2.1]), (9, .cells 23 [.own 6400]), (6001, .cells 27 [.b16 s.2.2.2.1]), (6002, .cells 3 [.int .i64 s.2.2.2.2.1]), (6400, bL 43 2 eWW (default : Tq0) s.2.2.2.2.2)] [.b16 x] r.1 [(5, .cells 3 [.int .i64 r.2.1]), (6, .cells 23 [.nils]), (7, .cells 37 [.int .i64 r.2.2.1]), (8, .cells 27 [.b16 r.2.2.2.1]), (9, .cells 23 [.own 6400]), (6001, .cells 27 [.b16 r.2.2.2.2.1]), (6002, .cells 3 [.int .i64 r.2.2.2.2.2.1]), (6400, bL 43 2 eWW (default : Tq0) r.2.2.2.2.2.2)]) : Spec1 Tryz.prog 55 [(0, .elem 32 1 T0F 0 0)] [70001, 5, 6, 7, 8, 9, 6001, 6002] [(70001, .yld (some ([5, 6, 7, 8, 9], C70001)) 0), (5, .cells 3 [.int .i64 x1]), (6, .cells 23 [.nils]), (7, .cells 37 [.int .i64 x2]), (8, .cells 27 [.b16 x3]), (9, .cells 23 [.own 6400]), (6001, .cells 27 [.b16 x4]), (6002, .cells 3 [.int .i64 x5]), (6400, bL 43 2 eWW (default : Tq0) x6)] [.own 70001, .ptr 6001 0, .ptr 6002 0] (.tup []) [(70001, .yld (some ([5, 6, 7, 8, 9], C70001)) r.1), (5, .cells 3 [.int .i64 r.2.1]), (6, .cells 23 [.nils]), (7, .cells 37 [.int .i64 r.2.2.1]), (8, .cells 27 [.b16 r.2.2.2.1]), (9, .cells 23 [.own 6400]), (6001, .cells 27 [.b16 r.2.2.2.2.1]), (6002, .cells 3 [.int .i64 r.2.2.2.2.2.1]), (6400, bL 43 2 eWW (default : Tq0) r.2.2.2.2.2.2)] := by
 unfold f55a at h
 refine Spec1.body 10000 _ _ Tryz.func55 rfl Tryz.ntmps55 rfl rfl ?_
 obtain ⟨r7, hr7, h⟩ := bind_ok h
 refine q2rr [] [(3, ⟨[.b16 x4, .i x5, .own 70001], [70001, 5, 6, 7, 8, 9, 6001, 6002, 6400], [70001, 5, 6, 7, 8, 9, 6001, 6002], [(70001, .yld (some ([5, 6, 7, 8, 9], C70001)) r7.2.1), (5, .cells 3 [.i r7.2.2.1]), (6, .cells 23 [.nils]), (7, .cells 37 [.i r7.2.2.2.1]), (8, .cells 27 [.b16 r7.2.2.2.2.1]), (9, .cells 23 [.own 6400]), (6001, .cells 27 [.b16 r7.2.2.2.2.2.1]), (6002, .cells 3 [.i r7.2.2.2.2.2.2.1]), (6400, q2bWW_43 r7.2.2.2.2.2.2.2)], .bool r7.1, [6400], [], [0]⟩)] ⟨8, [(1000000, .elem 32 1 T0F 0 0)], [(5, .cells 3 [.i r7.2.2.1]), (6, .cells 23 [.nils]), (7, .cells 37 [.i r7.2.2.2.1]), (8, .cells 27 [.b16 r7.2.2.2.2.1]), (9, .cells 23 [.own 6400]), (6001, .cells 27 [.b16 r7.2.2.2.2.2.1]), (6002, .cells 3 [.i r7.2.2.2.2.2.2.1]), (6400, q2bWW_43 r7.2.2.2.2.2.2.2), (70001, .yld (some ([5, 6, 7, 8, 9], C70001)) r7.2.1)], [70001, 5, 6, 7, 8, 9, 6001, 6002], 10000⟩ (an1 (cpT (f46a_ok C70001 _ _ _ _ _ _ _ _ _ _ hr7 hY70001))) ?_
 have hret := oJ h
 subst hret
 exact bodyQ_le (Le.mk (s' := ⟨8, [], [(70001, .yld (some ([5, 6, 7, 8, 9], C70001)) r7.2.1), (5, .cells 3 [.i r7.2.2.1]), (6, .cells 23 [.nils]), (7, .cells 37 [.i r7.2.2.2.1]), (8, .cells 27 [.b16 r7.2.2.2.2.1]), (9, .cells 23 [.own 6400]), (6001, .cells 27 [.b16 r7.2.2.2.2.2.1]), (6002, .cells 3 [.i r7.2.2.2.2.2.2.1]), (6400, q2bWW_43 r7.2.2.2.2.2.2.2)], [70001, 5, 6, 7, 8, 9, 6001, 6002], 10000⟩) rfl rfl trivial ⟨⟨_, rfl, .refl _⟩, ⟨_, rfl, .refl _⟩, ⟨_, rfl, .refl _⟩, ⟨_, rfl, .refl _⟩, ⟨_, rfl, .refl _⟩, ⟨_, rfl, .refl _⟩, ⟨_, rfl, .refl _⟩, ⟨_, rfl, .refl _⟩, ⟨_, rfl, .refl _⟩, trivial⟩) (bodyQ_normal _ rfl ⟨rfl, rfl⟩ rfl)
def f14_Y70002 : (Int × BitVec 16 × BitVec 16 × Int × (List Tq0)) → (BitVec 16) → Option (Nat × (Int × BitVec 16 × BitVec 16 × Int × (List Tq0)))
 | (i17, w16, w15, i14, l18), x19 =>
  chk (((l18).length + 1) * 4 ≤ 140737488355328) <|
  if (decide (((((l18 ++ [(w16, x19)])).length : Nat) : Int) > (100 : Int))) then (
  some (2, ((3 : Int), w16, w15, i14, (l18 ++ [(w16, x19)])))
  ) else (
  some (0, (i17, w16, w15, i14, (l18 ++ [(w16, x19)])))
  )
def f14_Y70001 : (Int × Int × BitVec 16 × BitVec 16 × Int × (List Tq0)) → (BitVec 16) → Option (Nat × (Int × Int × BitVec 16 × BitVec 16 × Int × (List Tq0)))
 | (i10, i9, w7, w6, i5, l11), x12 =>
  (f32 (w7 &&& ~~~x12) i10).bind fun (r13 : TB × Int) =>
  (f55 f14_Y70002 i9 x12 r13.1 r13.2 l11).bind fun (r20 : Nat × Int × TB × TB × Int × (List Tq0)) =>
  chk (r20.1 ≠ 1) <|
  if r20.1 = 0 then (
  some (0, (i10, r20.2.1, w7, w6, i5, r20.2.2.2.2.2))
  ) else (
  if r20.1 = 2 then (
  some (2, (i10, r20.2.1, w7, w6, i5, r20.2.2.2.2.2))
  ) else (
  none
  )
  )
abbrev f14z0 (x1 : Int) (x2 : Int) (x3 : Int) := ((((decide (x1 < (0 : Int))) || (decide (x1 > (12 : Int)))) || (decide (x2 < (0 : Int)))) || (decide (x3 < (0 : Int))))
abbrev f14z1 (x3 : Int) (x1 : Int) (r4 : TB × Int) : Heap := [(5, .cells 3 [.int .i64 x3]), (6, .cells 23 [.nils]), (7, .cells 37 [.int .i64 (0 : Int)]), (8, .cells 27 [.b16 (((BitVec.ofInt 16 1) <<< ((x1).toNat)) - (BitVec.ofInt 16 1))]), (9, .cells 23 [.own 6400]), (6001, .cells 27 [.b16 r4.1]), (6002, .cells 3 [.int .i64 r4.2]), (6400, bL 43 2 eWW (default : Tq0) [])]
abbrev f14z2 (i10 : Int) (i9 : Int) (w7 : TB) (x12 : TB) (w6 : TB) (i5 : Int) (r13 : TB × Int) (l11 : List Tq0) : Heap := [(5, .cells 3 [.int .i64 i10]), (6, .cells 23 [.nils]), (7, .cells 37 [.int .i64 i9]), (8, .cells 27 [.b16 w7]), (9, .cells 23 [.own 6400]), (10, .cells 27 [.b16 x12]), (6001, .cells 27 [.b16 w6]), (6002, .cells 3 [.int .i64 i5]), (6003, .cells 27 [.b16 r13.1]), (6004, .cells 3 [.int .i64 r13.2]), (6400, bL 43 2 eWW (default : Tq0) l11)]
abbrev f14z3 (x1 : Int) := ((decide (x1 < (0 : Int))) || (decide (x1 > (12 : Int))))
abbrev f14z4 (i17 : Int) (w16 : TB) (w15 : TB) (i14 : Int) (l18 : List Tq0) (x19 : TB) : Heap := [(6, .cells 23 [.nils]), (7, .cells 37 [.int .i64 i17]), (9, .cells 23 [.own 6400]), (10, .cells 27 [.b16 w16]), (6003, .cells 27 [.b16 w15]), (6004, .cells 3 [.int .i64 i14]), (6400, bL 43 2 eWW (default : Tq0) (l18 ++ [(w16, x19)]))]
abbrev f14z5 (x1 : Int) (x2 : Int) (x3 : Int) := (((f14z0 x1 x2 x3) || (decide (x2 > x1))) == false)
abbrev f14z6 (x1 : Int) : List V := [.b16 (((BitVec.ofInt 16 1) <<< ((x1).toNat)) - (BitVec.ofInt 16 1))]
abbrev f14z7 : List V := [.ptr 6001 0, .ptr 6002 0]
abbrev f14z8 : List V := [.int .i64 (0 : Int)]
abbrev f14z9 : List V := [.ptr 6003 0, .ptr 6004 0]
def f14 (x1 : Int) (x2 : Int) (x3 : Int) : Option ((List Tq0) × Int) :=
 chk (((((((decide (x1 < (0 : Int))) || (decide (x1 > (12 : Int)))) || (decide (x2 < (0 : Int)))) || (decide (x3 < (0 : Int)))) || (decide (x2 > x1))) == false) = true → -9223372036854775808 ≤ (x1 - x2) ∧ (x1 - x2) ≤ 9223372036854775807) <|
 if ((((((decide (x1 < (0 : Int))) || (decide (x1 > (12 : Int)))) || (decide (x2 < (0 : Int)))) || (decide (x3 < (0 : Int)))) || (decide (x2 > x1))) || (decide (x3 > (x1 - x2)))) then (
 some ([], (7 : Int))
 ) else (
 chk (0 ≤ x1) <|
 (f32 (((BitVec.ofInt 16 1) <<< ((x1).toNat)) - (BitVec.ofInt 16 1)) x2).bind fun (r4 : TB × Int) =>
 (f55a f14_Y70001 x3 (0 : Int) (((BitVec.ofInt 16 1) <<< ((x1).toNat)) - (BitVec.ofInt 16 1)) r4.1 r4.2 []).bind fun (r21 : Nat × Int × Int × TB × TB × Int × (List Tq0)) =>
 chk (r21.1 ≠ 1) <|
 if r21.1 = 0 then (
 some (r21.2.2.2.2.2.2, (0 : Int))
 ) else (
 if r21.1 = 2 then (
 some ([], r21.2.2.1)
 ) else (
 none
 )
 )
 )
theorem f14_ok  (x1 : Int) (x2 : Int) (x3 : Int) (r : (List Tq0) × Int) (h : f14 x1 x2 x3 = some r)  : Spec1 Tryz.prog 14 [(0, .elem 32 1 T0F 0 0)] [] [] [.int .i64 x1, .int .i64 x2, .int .i64 x3] (.tup [vL 2 eWW (default : Tq0) r.1, .int .i64 r.2]) [] := by
 unfold f14 at h
 refine Spec1.bodyD [6, 7] 0 _ _ Tryz.func14 rfl Tryz.ntmps14 rfl rfl ?_
 refine q2rq [] [] ⟨61, [(0, .i x1), (1, .i x2), (5, .ptr 5 0), (6, .ptr 6 0), (7, .ptr 7 0), (1000000, .elem 32 1 T0F 0 0)], [(5, .cells 3 [.i x3]), (6, .cells 23 [.nils]), (7, .cells 37 (f14z8))], [], 0⟩ trivial ?_
 refine AWp.seq ?_
 refine AWp.seq ?_
 have ob0 := idA (((decide (x1 < (0 : Int))) == false) = true)
 have ob1 := bqA (decide (x1 < (0 : Int))) false
 have ob2 := idA (((f14z3 x1) == false) = true)
 have ob3 := bqA (f14z3 x1) false
 have ob4 := idA ((((f14z3 x1) || (decide (x2 < (0 : Int)))) == false) = true)
 have ob5 := bqA ((f14z3 x1) || (decide (x2 < (0 : Int)))) false
 have ob6 := idA (((f14z0 x1 x2 x3) == false) = true)
 have ob7 := idA (((f14z0 x1 x2 x3) == false) = true)
 have ob8 := bqA (f14z0 x1 x2 x3) false
 obtain ⟨ob9, h⟩ := chk_some h
 have ob10 := idA ((f14z5 x1 x2 x3) = true)
 have ob11 := idA ((f14z5 x1 x2 x3) = true)
 have ob12 := idA ((f14z5 x1 x2 x3) = true)
 have ob13 := idA ((f14z5 x1 x2 x3) = true)
 have ob14 : true = true → ((f14z0 x1 x2 x3) || (decide (x2 > x1))) = false → (f14z5 x1 x2 x3) = true := fun _ h => beq_iff_eq.2 h
 refine q2rr [] [] ⟨61, [(0, .i x1), (1, .i x2), (5, .ptr 5 0), (6, .ptr 6 0), (7, .ptr 7 0), (37, .bool (((f14z0 x1 x2 x3) || (decide (x2 > x1))) || (decide (x3 > (x1 - x2))))), (1000000, .elem 32 1 T0F 0 0)], [(5, .cells 3 [.i x3]), (6, .cells 23 [.nils]), (7, .cells 37 (f14z8))], [], 0⟩ (ac6 (an1 ob0) ob1 (an1 ob2) ob3 (an1 ob4) ob5 (an5 (an2 ob6 ob7) ob8 (And.intro ob9 (an2 ob10 ob11)) (an2 ob12 ob13) ob14)) ?_
 refine tN ?_
 refine AWp.cond (b := (((f14z0 x1 x2 x3) || (decide (x2 > x1))) || (decide (x3 > (x1 - x2))))) (by kernel_rfl) (fun hc1 => ?_) (fun hc1 => ?_)
 ·
  replace h := ite_tb hc1 h
  refine q2rq [] [] ⟨61, [(6, .ptr 6 0), (7, .ptr 7 0), (1000000, .elem 32 1 T0F 0 0)], [(6, .cells 23 [.nils]), (7, .cells 37 [.i (7 : Int)])], [], 0⟩ (an2 trivial trivial) ?_
  have hret := oJ h
  subst hret
  refine AWp.le (Le.mk (s' := ⟨61, [(6, .ptr 6 0), (7, .ptr 7 0)], [(6, .cells 23 [q2aWW []]), (7, .cells 37 [.i (7 : Int)])], [], 0⟩) rfl rfl ⟨.refl _, .refl _, trivial⟩ ⟨⟨_, rfl, (.cellsL ⟨.nilL, trivial⟩)⟩, ⟨_, rfl, .refl _⟩, trivial⟩) ?_
  refine AWp.ret ?_
  refine tR ?_
  exact bR _ rfl ⟨rfl, rfl⟩ rfl
 ·
  replace h := ite_fb hc1 h
  refine AWp.skip ?_
  refine tN ?_
  refine AWp.seq ?_
  obtain ⟨ob15, h⟩ := chk_some h
  refine q2rr [] [] ⟨61, [(1, .i x2), (5, .ptr 5 0), (6, .ptr 6 0), (7, .ptr 7 0), (8, .ptr 8 0), (1000000, .elem 32 1 T0F 0 0)], [(5, .cells 3 [.i x3]), (6, .cells 23 [.nils]), (7, .cells 37 (f14z8)), (8, .cells 27 (f14z6 x1))], [], 0⟩ (an3 ob15 trivial trivial) ?_
  refine tN ?_
  refine q2rq [] [] ⟨61, [(1, .i x2), (5, .ptr 5 0), (6, .ptr 6 0), (7, .ptr 7 0), (8, .ptr 8 0), (9, .ptr 9 0), (1000000, .elem 32 1 T0F 0 0)], [(5, .cells 3 [.i x3]), (6, .cells 23 [.nils]), (7, .cells 37 (f14z8)), (8, .cells 27 (f14z6 x1)), (9, .cells 23 [.nils])], [], 0⟩ trivial ?_
  refine AWp.seq ?_
  refine AWp.seq ?_
  obtain ⟨r4, hr4, h⟩ := bind_ok h
  refine q2rr [] [(2, ⟨[.b16 (((q2w16 1) <<< ((x1).toNat)) - (q2w16 1)), .i x2], [], [], [(6001, .cells 27 [.b16 r4.1]), (6002, .cells 3 [.i r4.2])], .fn (.func 55) (f14z7), [6001, 6002], [], []⟩)] ⟨61, [(5, .ptr 5 0), (6, .ptr 6 0), (7, .ptr 7 0), (8, .ptr 8 0), (9, .ptr 9 0), (43, .fn (.func 55) (f14z7)), (1000000, .elem 32 1 T0F 0 0)], [(5, .cells 3 [.i x3]), (6, .cells 23 [.nils]), (7, .cells 37 (f14z8)), (8, .cells 27 (f14z6 x1)), (9, .cells 23 [.nils]), (6001, .cells 27 [.b16 r4.1]), (6002, .cells 3 [.i r4.2])], [], 0⟩ (an1 (cpT (Spec1.ren (swapN 3501 6002) (swapN_inv 3501 6002) rfl (Spec1.ren (swapN 3500 6001) (swapN_inv 3500 6001) rfl (f32_ok _ _ _ hr4))))) ?_
  refine tN ?_
  refine AWp.block ?_
  refine AWp.le (Le.trans (Le.trans (Le.nilOwnC 9 0 6400 43 2 (encF eWW q2dWW []) rfl rfl rfl) (Le.mk (s' := ⟨61, [(5, .ptr 5 0), (6, .ptr 6 0), (7, .ptr 7 0), (8, .ptr 8 0), (9, .ptr 9 0), (43, .fn (.func 55) (f14z7)), (1000000, .elem 32 1 T0F 0 0)], (f14z1 x3 x1 r4), [], 0⟩) rfl rfl ⟨.refl _, .refl _, .refl _, .refl _, .refl _, .refl _, .refl _, trivial⟩ ⟨⟨_, rfl, .refl _⟩, ⟨_, rfl, .refl _⟩, ⟨_, rfl, .refl _⟩, ⟨_, rfl, .refl _⟩, ⟨_, rfl, .refl _⟩, ⟨_, rfl, .refl _⟩, ⟨_, rfl, .refl _⟩, ⟨_, rfl, .refl _⟩, trivial⟩)) (Le.mk (s' := ⟨61, [(5, .ptr 5 0), (6, .ptr 6 0), (7, .ptr 7 0), (8, .ptr 8 0), (9, .ptr 9 0), (43, .fn (.func 55) (f14z7)), (1000000, .elem 32 1 T0F 0 0)], (f14z1 x3 x1 r4), [], 0⟩) rfl rfl ⟨.refl _, .refl _, .refl _, .refl _, .refl _, .refl _, .refl _, trivial⟩ ⟨⟨_, rfl, .refl _⟩, ⟨_, rfl, .refl _⟩, ⟨_, rfl, .refl _⟩, ⟨_, rfl, .refl _⟩, ⟨_, rfl, .refl _⟩, ⟨_, rfl, .refl _⟩, ⟨_, rfl, .refl _⟩, ⟨_, rfl, .refl _⟩, trivial⟩)) ?_
  obtain ⟨r21, hr21, h⟩ := bind_ok h
  obtain ⟨hkr21, h⟩ := chk_some h
  refine AWp.rangeFunc (s := ⟨61, [(5, .ptr 5 0), (6, .ptr 6 0), (7, .ptr 7 0), (8, .ptr 8 0), (9, .ptr 9 0), (43, .fn (.func 55) (f14z7)), (1000000, .elem 32 1 T0F 0 0)], (f14z1 x3 x1 r4), [], 0⟩) 70001 [5, 6, 7, 8, 9] [5, 6, 7, 8, 9, 1000000] [.ret] 55 (f14z7) ⟨[.own 70001, .ptr 6001 0, .ptr 6002 0], [5, 6, 7, 8, 9, 6001, 6002, 6400], [70001, 5, 6, 7, 8, 9, 6001, 6002], [], .tup [], [6400], [], [0]⟩ r21.1 [(5, .cells 3 [.i r21.2.1]), (6, .cells 23 [.nils]), (7, .cells 37 [.i r21.2.2.1]), (8, .cells 27 [.b16 r21.2.2.2.1]), (9, .cells 23 [.own 6400]), (6001, .cells 27 [.b16 r21.2.2.2.2.1]), (6002, .cells 3 [.i r21.2.2.2.2.2.1]), (6400, q2bWW_43 r21.2.2.2.2.2.2)] ⟨61, [(5, .ptr 5 0), (6, .ptr 6 0), (7, .ptr 7 0), (8, .ptr 8 0), (9, .ptr 9 0), (43, .fn (.func 55) (f14z7)), (1000000, .elem 32 1 T0F 0 0)], [(5, .cells 3 [.i r21.2.1]), (6, .cells 23 [.nils]), (7, .cells 37 [.i r21.2.2.1]), (8, .cells 27 [.b16 r21.2.2.2.1]), (9, .cells 23 [.own 6400]), (6001, .cells 27 [.b16 r21.2.2.2.2.1]), (6002, .cells 3 [.i r21.2.2.2.2.2.1]), (6400, q2bWW_43 r21.2.2.2.2.2.2)], [], 0⟩ rfl (by kernel_rfl) (by kernel_rfl) (fun g0 => ?_) (fun C => (by kernel_rfl)) (by kernel_rfl) (by kernel_rfl) (by kernel_rfl) (by kernel_rfl) hkr21 (by kernel_rfl) ?_ ?_
  ·
   refine ⟨fun _ => (f55a_ok _ f14_Y70001 x3 (0 : Int) (((q2w16 1) <<< ((x1).toNat)) - (q2w16 1)) r4.1 r4.2 [] r21 hr21 ?_), fun _ => ⟨.refl _, .refl _, .refl _, trivial⟩, .inl rfl⟩
   clear h
   rintro ⟨i10, i9, w7, w6, i5, l11⟩ x12 rY70001 h
   replace h := (f14_Y70001.eq_1 ..).symm.trans h
   refine YSpec.body 0 rfl (of_decide_eq_true (by kernel_rfl)) (of_decide_eq_true (by kernel_rfl)) (within_tget (by kernel_rfl)) (by kernel_rfl) (by kernel_rfl) (by kernel_rfl) (by kernel_rfl) ?_
   refine AWp.le (Le.mk (s' := ⟨61, [(44, .b16 x12), (5, .ptr 5 0), (6, .ptr 6 0), (7, .ptr 7 0), (8, .ptr 8 0), (9, .ptr 9 0), (1000000, .elem 32 1 T0F 0 0)], [(5, .cells 3 [.i i10]), (6, .cells 23 [.nils]), (7, .cells 37 [.i i9]), (8, .cells 27 [.b16 w7]), (9, .cells 23 [.own 6400]), (6001, .cells 27 [.b16 w6]), (6002, .cells 3 [.i i5]), (6400, q2bWW_43 l11)], [5, 6, 7, 8, 9, 6001, 6002], 0⟩) rfl rfl ⟨.refl _, .refl _, .refl _, .refl _, .refl _, .refl _, .refl _, trivial⟩ ⟨⟨_, rfl, .refl _⟩, ⟨_, rfl, .refl _⟩, ⟨_, rfl, .refl _⟩, ⟨_, rfl, .refl _⟩, ⟨_, rfl, .refl _⟩, ⟨_, rfl, .refl _⟩, ⟨_, rfl, .refl _⟩, ⟨_, rfl, .refl _⟩, trivial⟩) ?_
   refine q2rr [] [] ⟨61, [(5, .ptr 5 0), (6, .ptr 6 0), (7, .ptr 7 0), (8, .ptr 8 0), (9, .ptr 9 0), (10, .ptr 10 0), (1000000, .elem 32 1 T0F 0 0)], [(5, .cells 3 [.i i10]), (6, .cells 23 [.nils]), (7, .cells 37 [.i i9]), (8, .cells 27 [.b16 w7]), (9, .cells 23 [.own 6400]), (10, .cells 27 [.b16 x12]), (6001, .cells 27 [.b16 w6]), (6002, .cells 3 [.i i5]), (6400, q2bWW_43 l11)], [5, 6, 7, 8, 9, 6001, 6002], 0⟩ (an1 trivial) ?_
   refine ⟨rfl, rfl, ?_⟩
   refine AWp.block ?_
   refine AWp.seq ?_
   obtain ⟨r13, hr13, h⟩ := bind_ok h
   refine q2rr [] [(4, ⟨[.b16 (w7 &&& ~~~x12), .i i10], [], [], [(6003, .cells 27 [.b16 r13.1]), (6004, .cells 3 [.i r13.2])], .fn (.func 55) (f14z9), [6003, 6004], [], []⟩)] ⟨61, [(6, .ptr 6 0), (7, .ptr 7 0), (9, .ptr 9 0), (10, .ptr 10 0), (49, .fn (.func 55) (f14z9)), (1000000, .elem 32 1 T0F 0 0)], (f14z2 i10 i9 w7 x12 w6 i5 r13 l11), [5, 6, 7, 8, 9, 6001, 6002], 0⟩ (an1 (cpT (Spec1.ren (swapN 3501 6004) (swapN_inv 3501 6004) rfl (Spec1.ren (swapN 3500 6003) (swapN_inv 3500 6003) rfl (f32_ok _ _ _ hr13))))) ?_
   refine tN ?_
   refine AWp.block ?_
   refine AWp.le (Le.mk (s' := ⟨61, [(6, .ptr 6 0), (7, .ptr 7 0), (9, .ptr 9 0), (10, .ptr 10 0), (49, .fn (.func 55) (f14z9)), (1000000, .elem 32 1 T0F 0 0)], (f14z2 i10 i9 w7 x12 w6 i5 r13 l11), [5, 6, 7, 8, 9, 6001, 6002], 0⟩) rfl rfl ⟨.refl _, .refl _, .refl _, .refl _, .refl _, .refl _, trivial⟩ ⟨⟨_, rfl, .refl _⟩, ⟨_, rfl, .refl _⟩, ⟨_, rfl, .refl _⟩, ⟨_, rfl, .refl _⟩, ⟨_, rfl, .refl _⟩, ⟨_, rfl, .refl _⟩, ⟨_, rfl, .refl _⟩, ⟨_, rfl, .refl _⟩, ⟨_, rfl, .refl _⟩, ⟨_, rfl, .refl _⟩, ⟨_, rfl, .refl _⟩, trivial⟩) ?_
   obtain ⟨r20, hr20, h⟩ := bind_ok h
   obtain ⟨hkr20, h⟩ := chk_some h
   refine AWp.rangeFunc (s := ⟨61, [(6, .ptr 6 0), (7, .ptr 7 0), (9, .ptr 9 0), (10, .ptr 10 0), (49, .fn (.func 55) (f14z9)), (1000000, .elem 32 1 T0F 0 0)], (f14z2 i10 i9 w7 x12 w6 i5 r13 l11), [5, 6, 7, 8, 9, 6001, 6002], 0⟩) 70002 [6, 7, 9, 10] [6, 7, 9, 10, 1000000] [.ret] 55 (f14z9) ⟨[.own 70002, .ptr 6003 0, .ptr 6004 0], [6, 7, 9, 10, 6003, 6004, 6400], [70002, 6, 7, 9, 10, 6003, 6004], [], .tup [], [6400], [], [0]⟩ r20.1 [(6, .cells 23 [.nils]), (7, .cells 37 [.i r20.2.1]), (9, .cells 23 [.own 6400]), (10, .cells 27 [.b16 r20.2.2.1]), (6003, .cells 27 [.b16 r20.2.2.2.1]), (6004, .cells 3 [.i r20.2.2.2.2.1]), (6400, q2bWW_43 r20.2.2.2.2.2)] ⟨61, [(6, .ptr 6 0), (7, .ptr 7 0), (9, .ptr 9 0), (10, .ptr 10 0), (49, .fn (.func 55) (f14z9)), (1000000, .elem 32 1 T0F 0 0)], [(6, .cells 23 [.nils]), (7, .cells 37 [.i r20.2.1]), (9, .cells 23 [.own 6400]), (10, .cells 27 [.b16 r20.2.2.1]), (6003, .cells 27 [.b16 r20.2.2.2.1]), (6004, .cells 3 [.i r20.2.2.2.2.1]), (6400, q2bWW_43 r20.2.2.2.2.2), (5, .cells 3 [.i i10]), (8, .cells 27 [.b16 w7]), (6001, .cells 27 [.b16 w6]), (6002, .cells 3 [.i i5])], [5, 6, 7, 8, 9, 6001, 6002], 0⟩ rfl (by kernel_rfl) (by kernel_rfl) (fun g0 => ?_) (fun C => (by kernel_rfl)) (by kernel_rfl) (by kernel_rfl) (by kernel_rfl) (by kernel_rfl) hkr20 (by kernel_rfl) ?_ ?_
   ·
    refine ⟨fun _ => (f55_ok _ f14_Y70002 i9 x12 r13.1 r13.2 l11 r20 hr20 ?_), fun _ => ⟨.refl _, .refl _, .refl _, trivial⟩, .inl rfl⟩
    clear h
    rintro ⟨i17, w16, w15, i14, l18⟩ x19 rY70002 h
    replace h := (f14_Y70002.eq_1 ..).symm.trans h
    refine YSpec.body 0 rfl (of_decide_eq_true (by kernel_rfl)) (of_decide_eq_true (by kernel_rfl)) (within_tget (by kernel_rfl)) (by kernel_rfl) (by kernel_rfl) (by kernel_rfl) (by kernel_rfl) ?_
    refine AWp.le (Le.mk (s' := ⟨61, [(50, .b16 x19), (6, .ptr 6 0), (7, .ptr 7 0), (9, .ptr 9 0), (10, .ptr 10 0), (1000000, .elem 32 1 T0F 0 0)], [(6, .cells 23 [.nils]), (7, .cells 37 [.i i17]), (9, .cells 23 [.own 6400]), (10, .cells 27 [.b16 w16]), (6003, .cells 27 [.b16 w15]), (6004, .cells 3 [.i i14]), (6400, q2bWW_43 l18)], [6, 7, 9, 10, 6003, 6004], 0⟩) rfl rfl ⟨.refl _, .refl _, .refl _, .refl _, .refl _, .refl _, trivial⟩ ⟨⟨_, rfl, .refl _⟩, ⟨_, rfl, .refl _⟩, ⟨_, rfl, .refl _⟩, ⟨_, rfl, .refl _⟩, ⟨_, rfl, .refl _⟩, ⟨_, rfl, .refl _⟩, ⟨_, rfl, .refl _⟩, trivial⟩) ?_
    refine q2rr [] [] ⟨61, [(6, .ptr 6 0), (7, .ptr 7 0), (9, .ptr 9 0), (10, .ptr 10 0), (11, .b16 x19), (1000000, .elem 32 1 T0F 0 0)], [(6, .cells 23 [.nils]), (7, .cells 37 [.i i17]), (9, .cells 23 [.own 6400]), (10, .cells 27 [.b16 w16]), (6003, .cells 27 [.b16 w15]), (6004, .cells 3 [.i i14]), (6400, q2bWW_43 l18)], [6, 7, 9, 10, 6003, 6004], 0⟩ trivial ?_
    refine ⟨rfl, rfl, ?_⟩
    refine AWp.block ?_
    refine AWp.seq ?_
    obtain ⟨ob16, h⟩ := chk_some h
    refine q2rr [] [] ⟨61, [(6, .ptr 6 0), (7, .ptr 7 0), (9, .ptr 9 0), (1000000, .elem 32 1 T0F 0 0)], [(6, .cells 23 [.nils]), (7, .cells 37 [.i i17]), (9, .cells 23 [.own 6400]), (10, .cells 27 [.b16 w16]), (6003, .cells 27 [.b16 w15]), (6004, .cells 3 [.i i14]), (6400, .rows 43 2 ((l18).length + 1) (appF (l18).length (encF eWW q2dWW l18) (lstF 2 [.b16 w16, .b16 x19])))], [6, 7, 9, 10, 6003, 6004], 0⟩ (an2 ob16 trivial) ?_
    refine tN ?_
    refine AWp.le (Le.mk (s' := ⟨61, [(6, .ptr 6 0), (7, .ptr 7 0), (9, .ptr 9 0), (1000000, .elem 32 1 T0F 0 0)], (f14z4 i17 w16 w15 i14 l18 x19), [6, 7, 9, 10, 6003, 6004], 0⟩) rfl rfl ⟨.refl _, .refl _, .refl _, .refl _, trivial⟩ ⟨⟨_, rfl, .refl _⟩, ⟨_, rfl, .refl _⟩, ⟨_, rfl, .refl _⟩, ⟨_, rfl, .refl _⟩, ⟨_, rfl, .refl _⟩, ⟨_, rfl, .refl _⟩, ⟨_, rfl, (BLe.of (RL.app (RL.self _) (RL.lst (enc := eWW) [(w16, x19)] rfl rfl (fun _ => rfl))))⟩, trivial⟩) ?_
    refine q2rq [] [] ⟨61, [(6, .ptr 6 0), (7, .ptr 7 0), (59, .bool (decide (((((l18 ++ [(w16, x19)])).length : Nat) : Int) > (100 : Int)))), (1000000, .elem 32 1 T0F 0 0)], (f14z4 i17 w16 w15 i14 l18 x19), [6, 7, 9, 10, 6003, 6004], 0⟩ trivial ?_
    refine AWp.cond (b := (decide (((((l18 ++ [(w16, x19)])).length : Nat) : Int) > (100 : Int)))) (by kernel_rfl) (fun hc2 => ?_) (fun hc2 => ?_)
    ·
     replace h := ite_tb hc2 h
     refine q2rq [] [] ⟨61, [(1000000, .elem 32 1 T0F 0 0)], [(6, .cells 23 [.nils]), (7, .cells 37 [.i (3 : Int)]), (9, .cells 23 [.own 6400]), (10, .cells 27 [.b16 w16]), (6003, .cells 27 [.b16 w15]), (6004, .cells 3 [.i i14]), (6400, q2bWW_43 (l18 ++ [(w16, x19)]))], [6, 7, 9, 10, 6003, 6004], 0⟩ (an2 trivial trivial) ?_
     refine AWp.ret ?_
     refine kR ?_
     have hret := oJ h
     subst hret
     exact ⟨_, (Le.mk (s' := ⟨61, [], [(6, .cells 23 [.nils]), (7, .cells 37 [.i (3 : Int)]), (9, .cells 23 [.own 6400]), (10, .cells 27 [.b16 w16]), (6003, .cells 27 [.b16 w15]), (6004, .cells 3 [.i i14]), (6400, q2bWW_43 (l18 ++ [(w16, x19)]))], [6, 7, 9, 10, 6003, 6004], 0⟩) rfl rfl trivial ⟨⟨_, rfl, .refl _⟩, ⟨_, rfl, .refl _⟩, ⟨_, rfl, .refl _⟩, ⟨_, rfl, .refl _⟩, ⟨_, rfl, .refl _⟩, ⟨_, rfl, .refl _⟩, ⟨_, rfl, .refl _⟩, trivial⟩), rfl, rfl, .inr ⟨0, _, rfl, rfl, .inl ⟨rfl, rfl⟩⟩⟩
    ·
     replace h := ite_fb hc2 h
     refine AWp.skip ?_
     refine kN ?_
     have hret := oJ h
     subst hret
     exact ⟨_, (Le.mk (s' := ⟨61, [], (f14z4 i17 w16 w15 i14 l18 x19), [6, 7, 9, 10, 6003, 6004], 0⟩) rfl rfl trivial ⟨⟨_, rfl, .refl _⟩, ⟨_, rfl, .refl _⟩, ⟨_, rfl, .refl _⟩, ⟨_, rfl, .refl _⟩, ⟨_, rfl, .refl _⟩, ⟨_, rfl, .refl _⟩, ⟨_, rfl, .refl _⟩, trivial⟩), rfl, rfl, .inl ⟨rfl, rfl⟩⟩
   ·
    intro hk0
    replace h := ite_t hk0 h
    refine kN ?_
    refine kN ?_
    have hret := oJ h
    subst hret
    exact ⟨_, (Le.mk (s' := ⟨61, [], [(5, .cells 3 [.i i10]), (6, .cells 23 [.nils]), (7, .cells 37 [.i r20.2.1]), (8, .cells 27 [.b16 w7]), (9, .cells 23 [.own 6400]), (6001, .cells 27 [.b16 w6]), (6002, .cells 3 [.i i5]), (6400, q2bWW_43 r20.2.2.2.2.2)], [5, 6, 7, 8, 9, 6001, 6002], 0⟩) rfl rfl trivial ⟨⟨_, rfl, .refl _⟩, ⟨_, rfl, .refl _⟩, ⟨_, rfl, .refl _⟩, ⟨_, rfl, .refl _⟩, ⟨_, rfl, .refl _⟩, ⟨_, rfl, .refl _⟩, ⟨_, rfl, .refl _⟩, ⟨_, rfl, .refl _⟩, trivial⟩), rfl, rfl, .inl ⟨rfl, rfl⟩⟩
   ·
    intro j hkj
    replace h := ite_f (by omega) h
    cases j with
    | zero =>
     replace h := ite_t (by omega) h
     refine ⟨_, rfl, ?_⟩
     refine AWp.ret ?_
     refine kR ?_
     refine kR ?_
     have hret := oJ h
     subst hret
     exact ⟨_, (Le.mk (s' := ⟨61, [], [(5, .cells 3 [.i i10]), (6, .cells 23 [.nils]), (7, .cells 37 [.i r20.2.1]), (8, .cells 27 [.b16 w7]), (9, .cells 23 [.own 6400]), (6001, .cells 27 [.b16 w6]), (6002, .cells 3 [.i i5]), (6400, q2bWW_43 r20.2.2.2.2.2)], [5, 6, 7, 8, 9, 6001, 6002], 0⟩) rfl rfl trivial ⟨⟨_, rfl, .refl _⟩, ⟨_, rfl, .refl _⟩, ⟨_, rfl, .refl _⟩, ⟨_, rfl, .refl _⟩, ⟨_, rfl, .refl _⟩, ⟨_, rfl, .refl _⟩, ⟨_, rfl, .refl _⟩, ⟨_, rfl, .refl _⟩, trivial⟩), rfl, rfl, .inr ⟨0, _, rfl, rfl, .inl ⟨rfl, rfl⟩⟩⟩
    | succ j =>
    replace h := ite_f (by omega) h
    exact nomatch (show (none : Option (Nat × (Int × Int × TB × TB × Int × (List Tq0)))) = some rY70001 from h)
  ·
   intro hk0
   replace h := ite_t hk0 h
   refine kN ?_
   refine tN ?_
   refine q2rq [] [] ⟨61, [(6, .ptr 6 0), (7, .ptr 7 0), (1000000, .elem 32 1 T0F 0 0)], [(6, .cells 23 [.own 6400]), (7, .cells 37 (f14z8)), (6400, q2bWW_43 r21.2.2.2.2.2.2)], [], 0⟩ (an2 trivial trivial) ?_
   refine AWp.le (Le.trans (Le.freeze 6400 rfl rfl) (Le.mk (s' := ⟨61, [(6, .ptr 6 0), (7, .ptr 7 0), (1000000, .elem 32 1 T0F 0 0)], [(6, .cells 23 [q2aWW r21.2.2.2.2.2.2]), (7, .cells 37 (f14z8))], [], 0⟩) rfl rfl ⟨.refl _, .refl _, .refl _, trivial⟩ ⟨⟨_, rfl, .refl _⟩, ⟨_, rfl, .refl _⟩, trivial⟩)) ?_
   have hret := oJ h
   subst hret
   refine AWp.le (Le.mk (s' := ⟨61, [(6, .ptr 6 0), (7, .ptr 7 0)], [(6, .cells 23 [q2aWW r21.2.2.2.2.2.2]), (7, .cells 37 (f14z8))], [], 0⟩) rfl rfl ⟨.refl _, .refl _, trivial⟩ ⟨⟨_, rfl, .refl _⟩, ⟨_, rfl, .refl _⟩, trivial⟩) ?_
   refine AWp.ret ?_
   exact bR _ rfl ⟨rfl, rfl⟩ rfl
  ·
   intro j hkj
   replace h := ite_f (by omega) h
   cases j with
   | zero =>
    replace h := ite_t (by omega) h
    refine ⟨_, rfl, ?_⟩
    have hret := oJ h
    subst hret
    refine AWp.le (Le.mk (s' := ⟨61, [(6, .ptr 6 0), (7, .ptr 7 0)], [(6, .cells 23 [q2aWW []]), (7, .cells 37 [.i r21.2.2.1])], [], 0⟩) rfl rfl ⟨.refl _, .refl _, trivial⟩ ⟨⟨_, rfl, (.cellsL ⟨.nilL, trivial⟩)⟩, ⟨_, rfl, .refl _⟩, trivial⟩) ?_
    refine AWp.ret ?_
    refine kR ?_
    refine tR ?_
    exact bR _ rfl ⟨rfl, rfl⟩ rfl
   | succ j =>
   replace h := ite_f (by omega) h
   exact nomatch (show (none : Option ((List Tq0) × Int)) = some r from h)
abbrev f86z0 (x1 : Int) := ((x1 == (95 : Int)) || ((decide (x1 ≥ (65 : Int))) && (decide (x1 ≤ (90 : Int)))))
abbrev f86z1 (x1 : Int) := ((x1 == (95 : Int)) == false)
def f86 (x1 : Int) : Option Bool :=
 chk (((x1 == (95 : Int)) == false) = true → ((x1 == (95 : Int)) == false) = true → (decide (x1 ≥ (65 : Int))) = true → (((x1 == (95 : Int)) == false) && ((decide (x1 ≥ (65 : Int))) == true)) = true) <|
 chk ((((x1 == (95 : Int)) || ((decide (x1 ≥ (65 : Int))) && (decide (x1 ≤ (90 : Int))))) == false) = true → (((x1 == (95 : Int)) || ((decide (x1 ≥ (65 : Int))) && (decide (x1 ≤ (90 : Int))))) == false) = true → (decide (x1 ≥ (97 : Int))) = true → ((((x1 == (95 : Int)) || ((decide (x1 ≥ (65 : Int))) && (decide (x1 ≤ (90 : Int))))) == false) && ((decide (x1 ≥ (97 : Int))) == true)) = true) <|
 some (((x1 == (95 : Int)) || ((decide (x1 ≥ (65 : Int))) && (decide (x1 ≤ (90 : Int))))) || ((decide (x1 ≥ (97 : Int))) && (decide (x1 ≤ (122 : Int)))))
theorem f86_ok  (x1 : Int) (r : Bool) (h : f86 x1 = some r)  : Spec1 Tryz.prog 86 [] [] [] [.int .u8 x1] (.bool r) [] := by
 unfold f86 at h
 refine Spec1.body 0 _ _ Tryz.func86 rfl Tryz.ntmps86 rfl rfl ?_
 refine q2rq [] [] ⟨21, [(0, .int .u8 x1)], [], [], 0⟩ trivial ?_
 refine AWp.seq ?_
 have ob0 := idA ((f86z1 x1) = true)
 have ob1 := idA ((f86z1 x1) = true)
 have ob2 := idA (((f86z1 x1) && ((decide (x1 ≥ (65 : Int))) == true)) = true)
 obtain ⟨ob3, h⟩ := chk_some h
 have ob4 := idA ((f86z1 x1) = true)
 have ob5 : true = true → (x1 == (95 : Int)) = false → (f86z1 x1) = true := fun _ h => beq_iff_eq.2 h
 have ob6 := idA (((f86z0 x1) == false) = true)
 have ob7 := idA (((f86z0 x1) == false) = true)
 have ob8 := idA ((((f86z0 x1) == false) && ((decide (x1 ≥ (97 : Int))) == true)) = true)
 obtain ⟨ob9, h⟩ := chk_some h
 have ob10 := idA (((f86z0 x1) == false) = true)
 have ob11 := bqA (f86z0 x1) false
 refine q2rr [] [] ⟨21, [(2, .bool ((f86z0 x1) || ((decide (x1 ≥ (97 : Int))) && (decide (x1 ≤ (122 : Int))))))], [], [], 0⟩ (ac6 (an1 ob0) (an1 ob1) (an1 ob2) (And.intro ob3 (an1 ob4)) ob5 (an1 ob6) (an4 (an1 ob7) (an1 ob8) (And.intro ob9 (an1 ob10)) ob11)) ?_
 refine tN ?_
 have hret := oJ h
 subst hret
 refine AWp.le (Le.mk (s' := ⟨21, [(2, .bool ((f86z0 x1) || ((decide (x1 ≥ (97 : Int))) && (decide (x1 ≤ (122 : Int))))))], [], [], 0⟩) rfl rfl ⟨.refl _, trivial⟩ trivial) ?_
 refine AWp.ret ?_
 exact bR _ rfl ⟨rfl, rfl⟩ rfl
def f105 (x1 : Int) : Option Bool :=
 some ((decide (x1 ≥ (48 : Int))) && (decide (x1 ≤ (57 : Int))))
theorem f105_ok  (x1 : Int) (r : Bool) (h : f105 x1 = some r)  : Spec1 Tryz.prog 105 [] [] [] [.int .u8 x1] (.bool r) [] := by
 unfold f105 at h
 refine Spec1.body 0 _ _ Tryz.func105 rfl Tryz.ntmps105 rfl rfl ?_
 refine q2rq [] [] ⟨9, [(0, .int .u8 x1)], [], [], 0⟩ trivial ?_
 refine AWp.seq ?_
 have ob0 := idA (((decide (x1 ≥ (48 : Int))) == true) = true)
 have ob1 := bqA (decide (x1 ≥ (48 : Int))) true
 refine q2rr [] [] ⟨9, [(2, .bool ((decide (x1 ≥ (48 : Int))) && (decide (x1 ≤ (57 : Int)))))], [], [], 0⟩ (an2 (an1 ob0) ob1) ?_
 refine tN ?_
 have hret := oJ h
 subst hret
 refine AWp.le (Le.mk (s' := ⟨9, [(2, .bool ((decide (x1 ≥ (48 : Int))) && (decide (x1 ≤ (57 : Int)))))], [], [], 0⟩) rfl rfl ⟨.refl _, trivial⟩ trivial) ?_
 refine AWp.ret ?_
 exact bR _ rfl ⟨rfl, rfl⟩ rfl
def f88 (x1 : Int) : Option Bool :=
 (f86 x1).bind fun (r2 : Bool) =>
 optc (r2 == false) (f105 x1) fun (r3 : Bool) =>
 some (r2 || r3)
theorem f88_ok  (x1 : Int) (r : Bool) (h : f88 x1 = some r)  : Spec1 Tryz.prog 88 [] [] [] [.int .u8 x1] (.bool r) [] := by
 unfold f88 at h
 refine Spec1.body 0 _ _ Tryz.func88 rfl Tryz.ntmps88 rfl rfl ?_
 refine q2rq [] [] ⟨9, [(0, .int .u8 x1)], [], [], 0⟩ trivial ?_
 refine AWp.seq ?_
 obtain ⟨r2, hr2, h⟩ := bind_ok h
 obtain ⟨r3, hr3, h⟩ := optc_some h
 have ob0 := idA ((r2 == false) = true)
 have ob1 := bqA r2 false
 refine q2rr [] [(1, ⟨[.int .u8 x1], [], [], [], .bool r2, [], [], []⟩), (4, ⟨[.int .u8 x1], [], [], [], .bool r3, [], [], []⟩)] ⟨9, [(2, .bool (r2 || r3))], [], [], 0⟩ (an3 (cpT (f86_ok _ _ hr2)) (And.intro (cpC fun hc => (f105_ok _ _ (hr3 hc))) (an1 ob0)) ob1) ?_
 refine tN ?_
 have hret := oJ h
 subst hret
 refine AWp.le (Le.mk (s' := ⟨9, [(2, .bool (r2 || r3))], [], [], 0⟩) rfl rfl ⟨.refl _, trivial⟩ trivial) ?_
 refine AWp.ret ?_
 exact bR _ rfl ⟨rfl, rfl⟩ rfl
def f87_L0 (x1 : List UInt8) (K1 : Nat → Option Int) : Nat → Nat → Option Int
 | 0, _ => none
 | k + 1, n2 =>
  optc ((decide ((n2 : Int) < ((x1.length : Nat) : Int))) == true) (f88 (((x1.getD n2 0).toNat : Nat) : Int)) fun (r3 : Bool) =>
  chk (((decide ((n2 : Int) < ((x1.length : Nat) : Int))) == true) = true → 0 ≤ (n2 : Int) ∧ (n2 : Int) < ((x1.length : Nat) : Int)) <|
  if ((decide ((n2 : Int) < ((x1.length : Nat) : Int))) && r3) then (
  chk (((n2 : Int) + (1 : Int)) ≤ 9223372036854775807) <|
  (f87_L0 x1 K1 k) (n2 + 1)
  ) else (
  K1 n2
  )
def f87 (x1 : List UInt8) : Option Int :=
 jn (fun (n4 : Nat) =>
 some (n4 : Int)
 ) fun (K1 : Nat → Option Int) =>
 f87_L0 x1 K1 FUEL 0
theorem f87_ok  (x1 : List UInt8) (r : Int) (h : f87 x1 = some r)  : Spec1 Tryz.prog 87 [] [] [] [.str x1, .fn (.func 88) []] (.int .i64 r) [] := by
 unfold f87 at h
 refine Spec1.body 0 _ _ Tryz.func87 rfl Tryz.ntmps87 rfl rfl ?_
 refine q2rq [] [] ⟨20, [(0, .str x1), (1, .fn (.func 88) [])], [], [], 0⟩ trivial ?_
 refine q2rq [] [] ⟨20, [(0, .str x1), (1, .fn (.func 88) []), (5, .i (0 : Int))], [], [], 0⟩ trivial ?_
 obtain ⟨K1, hK1, h⟩ := jn_some h
 refine AWp.join (α := Nat) (fun (n4 : Nat) => ⟨20, [(5, .i (n4 : Int))], [], [], 0⟩) (fun x => K1 x = some r) ?_ ?_
 ·
  refine AWp.block ?_
  refine AWp.loopL (α := Nat × Nat) (fun x => match x with | (_, n2) => ⟨20, [(0, .str x1), (1, .fn (.func 88) []), (5, .i (n2 : Int))], [], [], 0⟩) (fun x => f87_L0 x1 K1 x.1 x.2 = some r) (fun x => x.1) (FUEL, 0) (Le.mk (s' := ⟨20, [(0, .str x1), (1, .fn (.func 88) []), (5, .i (0 : Int))], [], [], 0⟩) rfl rfl ⟨.refl _, .refl _, .refl _, trivial⟩ trivial) h ?_
  rintro ⟨k0, n2⟩ h
  cases k0 with
  | zero => exact nomatch (show (none : Option Int) = some r from h)
  | succ k0 =>
  obtain ⟨C0, hC0⟩ : ∃ C, C = f87_L0 x1 K1 k0 := ⟨_, rfl⟩
  replace h := (f87_L0.eq_2 ..).symm.trans h
  try rw [← hC0] at h
  refine AWp.seq ?_
  refine AWp.seq ?_
  obtain ⟨r3, hr3, h⟩ := optc_some h
  obtain ⟨ob0, h⟩ := chk_some h
  have ob1 := idA (((decide ((n2 : Int) < (lZ x1))) == true) = true)
  have ob2 := idA (((decide ((n2 : Int) < (lZ x1))) == true) = true)
  have ob3 := idA (((decide ((n2 : Int) < (lZ x1))) == true) = true)
  have ob4 := idA (((decide ((n2 : Int) < (lZ x1))) == true) = true)
  have ob5 := bqA (decide ((n2 : Int) < (lZ x1))) true
  refine q2rr [] [(9, ⟨[.int .u8 (((x1.getD n2 0).toNat : Nat) : Int)], [], [], [], .bool r3, [], [], []⟩)] ⟨20, [(0, .str x1), (1, .fn (.func 88) []), (5, .i (n2 : Int)), (16, .bool ((decide ((n2 : Int) < (lZ x1))) && r3))], [], [], 0⟩ (an3 (And.intro ob0 (an2 ob1 ob2)) (And.intro (cpC fun hc => (f88_ok _ _ (hr3 hc))) (an2 ob3 ob4)) ob5) ?_
  refine tN ?_
  refine AWp.cond (b := ((decide ((n2 : Int) < (lZ x1))) && r3)) (by kernel_rfl) (fun hc1 => ?_) (fun hc1 => ?_)
  ·
   replace h := ite_tb hc1 h
   refine AWp.skip ?_
   refine tN ?_
   refine AWp.block ?_
   obtain ⟨ob6p, h⟩ := chk_some h
   have ob6 : -9223372036854775808 ≤ ((n2 : Int) + (1 : Int)) ∧ ((n2 : Int) + (1 : Int)) ≤ 9223372036854775807 := ⟨by omega, ob6p⟩
   refine q2rr [] [] ⟨20, [(0, .str x1), (1, .fn (.func 88) []), (5, .i (((n2 + 1) : Nat) : Int))], [], [], 0⟩ (an1 ob6) ?_
   refine kN ?_
   rw [hC0] at h
   exact lN (_, (n2 + 1)) (Le.mk rfl rfl ⟨.refl _, .refl _, .refl _, trivial⟩ trivial) h (Nat.lt_succ_self _)
  ·
   replace h := ite_fb hc1 h
   refine AWp.exit ?_
   refine tE ?_
   refine tE ?_
   refine kS ?_
   exact jN (n2) (Le.mk rfl rfl ⟨.refl _, trivial⟩ trivial) h
 ·
  rintro n4 h
  replace h := (congrFun hK1 _).symm.trans h
  refine q2rq [] [] ⟨20, [(4, .i (n4 : Int))], [], [], 0⟩ trivial ?_
  have hret := oJ h
  subst hret
  refine AWp.le (Le.mk (s' := ⟨20, [(4, .i (n4 : Int))], [], [], 0⟩) rfl rfl ⟨.refl _, trivial⟩ trivial) ?_
  refine AWp.ret ?_
  exact bR _ rfl ⟨rfl, rfl⟩ rfl
def f71 (x1 : List UInt8) : Option Bool :=
 optc (((!(x1 == [])) && (decide (((x1.length : Nat) : Int) ≤ (24 : Int)))) == true) (f86 (((x1.getD 0 0).toNat : Nat) : Int)) fun (r2 : Bool) =>
 optc ((((!(x1 == [])) && (decide (((x1.length : Nat) : Int) ≤ (24 : Int)))) && r2) == true) (f87 x1) fun (r3 : Int) =>
 chk ((((!(x1 == [])) && (decide (((x1.length : Nat) : Int) ≤ (24 : Int)))) == true) = true → 0 ≤ (0 : Int) ∧ (0 : Int) < ((x1.length : Nat) : Int)) <|
 some ((((!(x1 == [])) && (decide (((x1.length : Nat) : Int) ≤ (24 : Int)))) && r2) && (r3 == ((x1.length : Nat) : Int)))
theorem f71_ok  (x1 : List UInt8) (r : Bool) (h : f71 x1 = some r)  : Spec1 Tryz.prog 71 [] [] [] [.str x1] (.bool r) [] := by
 unfold f71 at h
 refine Spec1.body 0 _ _ Tryz.func71 rfl Tryz.ntmps71 rfl rfl ?_
 refine q2rq [] [] ⟨22, [(0, .str x1)], [], [], 0⟩ trivial ?_
 refine AWp.seq ?_
 obtain ⟨r2, hr2, h⟩ := optc_some h
 obtain ⟨r3, hr3, h⟩ := optc_some h
 have ob0 := idA (((!(x1 == [])) == true) = true)
 have ob1 := idA (((!(x1 == [])) == true) = true)
 have ob2 := bqA (!(x1 == [])) true
 obtain ⟨ob3, h⟩ := chk_some h
 have ob4 := idA ((((!(x1 == [])) && (decide ((lZ x1) ≤ (24 : Int)))) == true) = true)
 have ob5 := idA ((((!(x1 == [])) && (decide ((lZ x1) ≤ (24 : Int)))) == true) = true)
 have ob6 := bqA ((!(x1 == [])) && (decide ((lZ x1) ≤ (24 : Int)))) true
 have ob7 := idA (((((!(x1 == [])) && (decide ((lZ x1) ≤ (24 : Int)))) && r2) == true) = true)
 have ob8 := idA (((((!(x1 == [])) && (decide ((lZ x1) ≤ (24 : Int)))) && r2) == true) = true)
 have ob9 := idA (((((!(x1 == [])) && (decide ((lZ x1) ≤ (24 : Int)))) && r2) == true) = true)
 have ob10 := idA (((((!(x1 == [])) && (decide ((lZ x1) ≤ (24 : Int)))) && r2) == true) = true)
 have ob11 := bqA (((!(x1 == [])) && (decide ((lZ x1) ≤ (24 : Int)))) && r2) true
 refine q2rr [] [(10, ⟨[.int .u8 (((x1.getD 0 0).toNat : Nat) : Int)], [], [], [], .bool r2, [], [], []⟩), (14, ⟨[.str x1, .fn (.func 88) []], [], [], [], .i r3, [], [], []⟩)] ⟨22, [(2, .bool ((((!(x1 == [])) && (decide ((lZ x1) ≤ (24 : Int)))) && r2) && (r3 == (lZ x1))))], [], [], 0⟩ (ac6 (an1 ob0) (an1 ob1) ob2 (And.intro ob3 (an1 ob4)) (And.intro (cpC fun hc => (f86_ok _ _ (hr2 hc))) (an1 ob5)) ob6 (an4 (And.intro (cpC fun hc => (f87_ok _ _ (hr3 hc))) (an1 ob7)) (an1 ob8) (an2 ob9 ob10) ob11)) ?_
 refine tN ?_
 have hret := oJ h
 subst hret
 refine AWp.le (Le.mk (s' := ⟨22, [(2, .bool ((((!(x1 == [])) && (decide ((lZ x1) ≤ (24 : Int)))) && r2) && (r3 == (lZ x1))))], [], [], 0⟩) rfl rfl ⟨.refl _, trivial⟩ trivial) ?_
 refine AWp.ret ?_
 exact bR _ rfl ⟨rfl, rfl⟩ rfl
def f48 (x1 : BitVec 16) (x2 : BitVec 16) : Option Bool :=
 some ((x2 &&& ~~~x1) == (BitVec.ofInt 16 0))
theorem f48_ok  (x1 : TB) (x2 : TB) (r : Bool) (h : f48 x1 x2 = some r)  : Spec1 Tryz.prog 48 [] [] [] [.b16 x1, .b16 x2] (.bool r) [] := by
 unfold f48 at h
 refine Spec1.body 0 _ _ Tryz.func48 rfl Tryz.ntmps48 rfl rfl ?_
 refine q2rq [] [] ⟨9, [(0, .b16 x1), (1, .b16 x2)], [], [], 0⟩ trivial ?_
 refine q2rq [] [] ⟨9, [(4, .bool ((x2 &&& ~~~x1) == (q2w16 0)))], [], [], 0⟩ trivial ?_
 have hret := oJ h
 subst hret
 refine AWp.le (Le.mk (s' := ⟨9, [(4, .bool ((x2 &&& ~~~x1) == (q2w16 0)))], [], [], 0⟩) rfl rfl ⟨.refl _, trivial⟩ trivial) ?_
 refine AWp.ret ?_
 exact bR _ rfl ⟨rfl, rfl⟩ rfl
def f47 (x1 : BitVec 16) (x2 : BitVec 16) : Option (Bool × BitVec 16) :=
 (f48 x2 x1).bind fun (r3 : Bool) =>
 some (r3, x2)
theorem f47_ok  (x1 : TB) (x2 : TB) (r : Bool × TB) (h : f47 x1 x2 = some r)  : Spec1 Tryz.prog 47 [] [2000] [(2000, .cells 27 [.b16 x2])] [.b16 x1, .ptr 2000 0] (.bool r.1) [(2000, .cells 27 [.b16 r.2])] := by
 unfold f47 at h
 refine Spec1.body 0 _ _ Tryz.func47 rfl Tryz.ntmps47 rfl rfl ?_
 refine q2rq [] [] ⟨7, [(0, .b16 x1), (1, .ptr 2000 0)], [(2000, .cells 27 [.b16 x2])], [2000], 0⟩ trivial ?_
 refine AWp.seq ?_
 obtain ⟨r3, hr3, h⟩ := bind_ok h
 refine q2rr [] [(2, ⟨[.b16 x2, .b16 x1], [], [], [], .bool r3, [], [], []⟩)] ⟨7, [(3, .bool r3)], [(2000, .cells 27 [.b16 x2])], [2000], 0⟩ (an1 (cpT (f48_ok _ _ _ hr3))) ?_
 refine tN ?_
 have hret := oJ h
 subst hret
 refine AWp.le (Le.mk (s' := ⟨7, [(3, .bool r3)], [(2000, .cells 27 [.b16 x2])], [2000], 0⟩) rfl rfl ⟨.refl _, trivial⟩ ⟨⟨_, rfl, .refl _⟩, trivial⟩) ?_
 refine AWp.ret ?_
 exact bR _ rfl ⟨rfl, rfl⟩ rfl
def f54_L0 (x1 : List (BitVec 16)) (K1 : (BitVec 16) → Option (Int × BitVec 16)) : Nat → (Nat × BitVec 16) → Option (Int × BitVec 16)
 | 0, _ => none
 | k + 1, (n3, w4) =>
  if (decide ((n3 : Int) < (((x1).length : Nat) : Int))) then (
  (f47 (x1.getD n3 0#16) w4).bind fun (r5 : Bool × TB) =>
  chk ((n3 : Int) < (((x1).length : Nat) : Int)) <|
  if r5.1 then (
  some ((n3 : Int), r5.2)
  ) else (
  chk (((n3 : Int) + (1 : Int)) ≤ 9223372036854775807) <|
  (f54_L0 x1 K1 k) ((n3 + 1), r5.2)
  )
  ) else (
  K1 w4
  )
abbrev f54z0 (r5 : Bool × TB) : Heap := [(2000, .cells 27 [.b16 r5.2])]
def f54 (x1 : List (BitVec 16)) (x2 : BitVec 16) : Option (Int × BitVec 16) :=
 jn (fun (w6 : BitVec 16) =>
 some ((-1 : Int), w6)
 ) fun (K1 : (TB) → Option (Int × TB)) =>
 f54_L0 x1 K1 FUEL (0, x2)
theorem f54_ok  (x1 : List (TB)) (x2 : TB) (r : Int × TB) (h : f54 x1 x2 = some r)  : Spec1 Tryz.prog 54 [] [2000] [(2000, .cells 27 [.b16 x2])] [vL 1 eW 0#16 x1, .fn (.func 47) [.ptr 2000 0]] (.int .i64 r.1) [(2000, .cells 27 [.b16 r.2])] := by
 unfold f54 at h
 refine Spec1.body 0 _ _ Tryz.func54 rfl Tryz.ntmps54 rfl rfl ?_
 refine q2rq [] [] ⟨19, [(0, q2aW x1), (1, .fn (.func 47) [.ptr 2000 0])], [(2000, .cells 27 [.b16 x2])], [2000], 0⟩ trivial ?_
 obtain ⟨K1, hK1, h⟩ := jn_some h
 refine AWp.join (α := TB) (fun (w6 : TB) => ⟨19, [], [(2000, .cells 27 [.b16 w6])], [2000], 0⟩) (fun x => K1 x = some r) ?_ ?_
 ·
  refine q2rq [] [] ⟨19, [(0, q2aW x1), (1, .fn (.func 47) [.ptr 2000 0]), (7, .i (lZ x1)), (8, .i (0 : Int))], [(2000, .cells 27 [.b16 x2])], [2000], 0⟩ trivial ?_
  refine AWp.block ?_
  refine AWp.loopL (α := Nat × (Nat × TB)) (fun x => match x with | (_, n3, w4) => ⟨19, [(0, q2aW x1), (1, .fn (.func 47) [.ptr 2000 0]), (7, .i (lZ x1)), (8, .i (n3 : Int))], [(2000, .cells 27 [.b16 w4])], [2000], 0⟩) (fun x => f54_L0 x1 K1 x.1 x.2 = some r) (fun x => x.1) (FUEL, 0, x2) (Le.mk (s' := ⟨19, [(0, q2aW x1), (1, .fn (.func 47) [.ptr 2000 0]), (7, .i (lZ x1)), (8, .i (0 : Int))], [(2000, .cells 27 [.b16 x2])], [2000], 0⟩) rfl rfl ⟨.refl _, .refl _, .refl _, .refl _, trivial⟩ ⟨⟨_, rfl, .refl _⟩, trivial⟩) h ?_
  rintro ⟨k0, n3, w4⟩ h
  cases k0 with
  | zero => exact nomatch (show (none : Option (Int × TB)) = some r from h)
  | succ k0 =>
  obtain ⟨C0, hC0⟩ : ∃ C, C = f54_L0 x1 K1 k0 := ⟨_, rfl⟩
  replace h := (f54_L0.eq_2 ..).symm.trans h
  try rw [← hC0] at h
  refine q2rq [] [] ⟨19, [(0, q2aW x1), (1, .fn (.func 47) [.ptr 2000 0]), (7, .i (lZ x1)), (8, .i (n3 : Int)), (9, .bool (decide ((n3 : Int) < (lZ x1))))], [(2000, .cells 27 [.b16 w4])], [2000], 0⟩ trivial ?_
  refine AWp.seq ?_
  refine AWp.cond (b := (decide ((n3 : Int) < (lZ x1)))) (by kernel_rfl) (fun hc1 => ?_) (fun hc1 => ?_)
  ·
   replace h := ite_tb hc1 h
   refine AWp.skip ?_
   refine tN ?_
   refine AWp.seq ?_
   refine AWp.block ?_
   refine q2rq [] [] ⟨19, [(0, q2aW x1), (1, .fn (.func 47) [.ptr 2000 0]), (5, .i (n3 : Int)), (7, .i (lZ x1)), (8, .i (n3 : Int))], [(2000, .cells 27 [.b16 w4])], [2000], 0⟩ trivial ?_
   refine AWp.seq ?_
   obtain ⟨r5, hr5, h⟩ := bind_ok h
   obtain ⟨ob0p, h⟩ := chk_some h
   have ob0 : 0 ≤ (n3 : Int) ∧ (n3 : Int) < (((x1).length : Nat) : Int) := ⟨by omega, ob0p⟩
   refine q2rr [] [(5, ⟨[.b16 (x1.getD n3 0#16), .ptr 2000 0], [2000], [2000], (f54z0 r5), .bool r5.1, [], [], []⟩)] ⟨19, [(0, q2aW x1), (1, .fn (.func 47) [.ptr 2000 0]), (5, .i (n3 : Int)), (7, .i (lZ x1)), (8, .i (n3 : Int)), (16, .bool r5.1)], (f54z0 r5), [2000], 0⟩ (an2 ob0 (cpT (f47_ok _ _ _ hr5))) ?_
   refine tN ?_
   refine AWp.cond (b := r5.1) (by kernel_rfl) (fun hc2 => ?_) (fun hc2 => ?_)
   ·
    replace h := ite_tb hc2 h
    refine q2rq [] [] ⟨19, [(4, .i (n3 : Int))], (f54z0 r5), [2000], 0⟩ trivial ?_
    have hret := oJ h
    subst hret
    refine AWp.le (Le.mk (s' := ⟨19, [(4, .i (n3 : Int))], (f54z0 r5), [2000], 0⟩) rfl rfl ⟨.refl _, trivial⟩ ⟨⟨_, rfl, .refl _⟩, trivial⟩) ?_
    refine AWp.ret ?_
    refine kR ?_
    refine tR ?_
    refine tR ?_
    refine kR ?_
    refine joinQ_ret ?_
    exact bR _ rfl ⟨rfl, rfl⟩ rfl
   ·
    replace h := ite_fb hc2 h
    refine AWp.skip ?_
    refine kN ?_
    refine tN ?_
    obtain ⟨ob1p, h⟩ := chk_some h
    have ob1 : -9223372036854775808 ≤ ((n3 : Int) + (1 : Int)) ∧ ((n3 : Int) + (1 : Int)) ≤ 9223372036854775807 := ⟨by omega, ob1p⟩
    refine q2rr [] [] ⟨19, [(0, q2aW x1), (1, .fn (.func 47) [.ptr 2000 0]), (7, .i (lZ x1)), (8, .i (((n3 + 1) : Nat) : Int))], (f54z0 r5), [2000], 0⟩ (an1 ob1) ?_
    rw [hC0] at h
    exact lN (_, (n3 + 1), r5.2) (Le.mk rfl rfl ⟨.refl _, .refl _, .refl _, .refl _, trivial⟩ ⟨⟨_, rfl, .refl _⟩, trivial⟩) h (Nat.lt_succ_self _)
  ·
   replace h := ite_fb hc1 h
   refine AWp.exit ?_
   refine tE ?_
   refine tE ?_
   refine kS ?_
   exact jN (w4) (Le.mk rfl rfl trivial ⟨⟨_, rfl, .refl _⟩, trivial⟩) h
 ·
  rintro w6 h
  replace h := (congrFun hK1 _).symm.trans h
  refine q2rq [] [] ⟨19, [(4, .i (-1 : Int))], [(2000, .cells 27 [.b16 w6])], [2000], 0⟩ trivial ?_
  have hret := oJ h
  subst hret
  refine AWp.le (Le.mk (s' := ⟨19, [(4, .i (-1 : Int))], [(2000, .cells 27 [.b16 w6])], [2000], 0⟩) rfl rfl ⟨.refl _, trivial⟩ ⟨⟨_, rfl, .refl _⟩, trivial⟩) ?_
  refine AWp.ret ?_
  exact bR _ rfl ⟨rfl, rfl⟩ rfl
def f30 (x1 : List (BitVec 16)) (x2 : BitVec 16) : Option (Bool × BitVec 16) :=
 (f54 x1 x2).bind fun (r3 : Int × TB) =>
 some ((decide (r3.1 ≥ (0 : Int))), r3.2)
theorem f30_ok  (x1 : List (TB)) (x2 : TB) (r : Bool × TB) (h : f30 x1 x2 = some r)  : Spec1 Tryz.prog 30 [] [2000] [(2000, .cells 27 [.b16 x2])] [vL 1 eW 0#16 x1, .fn (.func 47) [.ptr 2000 0]] (.bool r.1) [(2000, .cells 27 [.b16 r.2])] := by
 unfold f30 at h
 refine Spec1.body 0 _ _ Tryz.func30 rfl Tryz.ntmps30 rfl rfl ?_
 refine q2rq [] [] ⟨9, [(0, q2aW x1), (1, .fn (.func 47) [.ptr 2000 0])], [(2000, .cells 27 [.b16 x2])], [2000], 0⟩ trivial ?_
 refine AWp.seq ?_
 obtain ⟨r3, hr3, h⟩ := bind_ok h
 refine q2rr [] [(2, ⟨[q2aW x1, .fn (.func 47) [.ptr 2000 0]], [2000], [2000], [(2000, .cells 27 [.b16 r3.2])], .i r3.1, [], [], []⟩)] ⟨9, [(4, .bool (decide (r3.1 ≥ (0 : Int))))], [(2000, .cells 27 [.b16 r3.2])], [2000], 0⟩ (an1 (cpT (f54_ok _ _ _ hr3))) ?_
 refine tN ?_
 have hret := oJ h
 subst hret
 refine AWp.le (Le.mk (s' := ⟨9, [(4, .bool (decide (r3.1 ≥ (0 : Int))))], [(2000, .cells 27 [.b16 r3.2])], [2000], 0⟩) rfl rfl ⟨.refl _, trivial⟩ ⟨⟨_, rfl, .refl _⟩, trivial⟩) ?_
 refine AWp.ret ?_
 exact bR _ rfl ⟨rfl, rfl⟩ rfl
def f24 (x1 : List (BitVec 16)) (x2 : BitVec 16) : Option Bool :=
 (f30 x1 x2).bind fun (r3 : Bool × TB) =>
 some r3.1
theorem f24_ok  (x1 : List (TB)) (x2 : TB) (r : Bool) (h : f24 x1 x2 = some r)  : Spec1 Tryz.prog 24 [] [] [] [vL 1 eW 0#16 x1, .b16 x2] (.bool r) [] := by
 unfold f24 at h
 refine Spec1.body 0 _ _ Tryz.func24 rfl Tryz.ntmps24 rfl rfl ?_
 refine q2rq [] [] ⟨8, [(0, q2aW x1), (3, .ptr 3 0)], [(3, .cells 27 [.b16 x2])], [], 0⟩ trivial ?_
 refine AWp.seq ?_
 obtain ⟨r3, hr3, h⟩ := bind_ok h
 refine q2rr [] [(2, ⟨[q2aW x1, .fn (.func 47) [.ptr 3 0]], [3], [3], [(3, .cells 27 [.b16 r3.2])], .bool r3.1, [], [], []⟩)] ⟨8, [(4, .bool r3.1)], [], [], 0⟩ (an1 (cpT (Spec1.ren (swapN 2000 3) (swapN_inv 2000 3) rfl (f30_ok _ _ _ hr3)))) ?_
 refine tN ?_
 have hret := oJ h
 subst hret
 refine AWp.le (Le.mk (s' := ⟨8, [(4, .bool r3.1)], [], [], 0⟩) rfl rfl ⟨.refl _, trivial⟩ trivial) ?_
 refine AWp.ret ?_
 exact bR _ rfl ⟨rfl, rfl⟩ rfl
def f21_L0 (x1 : List (BitVec 16)) (K1 : Unit → Option Int) : Nat → Nat → Option Int
 | 0, _ => none
 | k + 1, n2 =>
  if (decide ((n2 : Int) < (((x1).length : Nat) : Int))) then (
  chk ((n2 : Int) < (((x1).length : Nat) : Int)) <|
  if (!(((x1.getD n2 0#16) &&& (BitVec.ofInt 16 61440)) == (BitVec.ofInt 16 0))) then (
  some (7 : Int)
  ) else (
  optc ((decide ((n2 : Int) > (0 : Int))) == true) (f43 (x1.getD ((((n2 : Int) - (1 : Int))).toNat) 0#16) (x1.getD n2 0#16)) fun (r3 : Int) =>
  chk (((decide ((n2 : Int) > (0 : Int))) == true) = true → -9223372036854775808 ≤ ((n2 : Int) - (1 : Int)) ∧ ((n2 : Int) - (1 : Int)) ≤ 9223372036854775807) <|
  chk (((decide ((n2 : Int) > (0 : Int))) == true) = true → 0 ≤ ((n2 : Int) - (1 : Int)) ∧ ((n2 : Int) - (1 : Int)) < (((x1).length : Nat) : Int)) <|
  if ((decide ((n2 : Int) > (0 : Int))) && (decide (r3 ≥ (0 : Int)))) then (
  some (1 : Int)
  ) else (
  chk (((n2 : Int) + (1 : Int)) ≤ 9223372036854775807) <|
  (f21_L0 x1 K1 k) (n2 + 1)
  )
  )
  ) else (
  K1 ()
  )
def f21_L1 (x1 : List (BitVec 16)) (K2 : Unit → Option Int) : Nat → Nat → Option Int
 | 0, _ => none
 | k + 1, n4 =>
  if (decide ((n4 : Int) < (((x1).length : Nat) : Int))) then (
  chk ((n4 : Int) < (((x1).length : Nat) : Int)) <|
  (f24 (x1.take n4) (x1.getD n4 0#16)).bind fun (r5 : Bool) =>
  chk ((n4 : Int) ≤ (((x1).length : Nat) : Int)) <|
  if r5 then (
  some (1 : Int)
  ) else (
  chk (((n4 : Int) + (1 : Int)) ≤ 9223372036854775807) <|
  (f21_L1 x1 K2 k) (n4 + 1)
  )
  ) else (
  K2 ()
  )
abbrev f21z0 (n2 : Nat) := ((decide ((n2 : Int) > (0 : Int))) == true)
def f21 (x1 : List (BitVec 16)) : Option Int :=
 if (decide ((((x1).length : Nat) : Int) > (400 : Int))) then (
 some (3 : Int)
 ) else (
 jn (fun (_ : Unit) =>
 jn (fun (_ : Unit) =>
 some (0 : Int)
 ) fun (K2 : Unit → Option Int) =>
 f21_L1 x1 K2 FUEL 0
 ) fun (K1 : Unit → Option Int) =>
 f21_L0 x1 K1 FUEL 0
 )
theorem f21_ok  (x1 : List (TB)) (r : Int) (h : f21 x1 = some r)  : Spec1 Tryz.prog 21 [] [] [] [vL 1 eW 0#16 x1] (.int .i64 r) [] := by
 unfold f21 at h
 refine Spec1.body 0 _ _ Tryz.func21 rfl Tryz.ntmps21 rfl rfl ?_
 refine q2rq [] [] ⟨48, [(0, q2aW x1)], [], [], 0⟩ trivial ?_
 refine AWp.seq ?_
 refine q2rq [] [] ⟨48, [(0, q2aW x1), (9, .bool (decide ((lZ x1) > (400 : Int))))], [], [], 0⟩ trivial ?_
 refine AWp.cond (b := (decide ((lZ x1) > (400 : Int)))) (by kernel_rfl) (fun hc1 => ?_) (fun hc1 => ?_)
 ·
  replace h := ite_tb hc1 h
  refine q2rq [] [] ⟨48, [(2, .i (3 : Int))], [], [], 0⟩ trivial ?_
  have hret := oJ h
  subst hret
  refine AWp.le (Le.mk (s' := ⟨48, [(2, .i (3 : Int))], [], [], 0⟩) rfl rfl ⟨.refl _, trivial⟩ trivial) ?_
  refine AWp.ret ?_
  refine tR ?_
  exact bR _ rfl ⟨rfl, rfl⟩ rfl
 ·
  replace h := ite_fb hc1 h
  refine AWp.skip ?_
  refine tN ?_
  obtain ⟨K1, hK1, h⟩ := jn_some h
  refine AWp.join (α := Unit) (fun (x : Unit) => match x with | () => ⟨48, [(0, q2aW x1)], [], [], 0⟩) (fun x => K1 x = some r) ?_ ?_
  ·
   refine q2rq [] [] ⟨48, [(0, q2aW x1), (10, q2aW x1), (11, .i (lZ x1)), (12, .i (0 : Int))], [], [], 0⟩ trivial ?_
   refine AWp.block ?_
   refine AWp.loopL (α := Nat × Nat) (fun x => match x with | (_, n2) => ⟨48, [(0, q2aW x1), (10, q2aW x1), (11, .i (lZ x1)), (12, .i (n2 : Int))], [], [], 0⟩) (fun x => f21_L0 x1 K1 x.1 x.2 = some r) (fun x => x.1) (FUEL, 0) (Le.mk (s' := ⟨48, [(0, q2aW x1), (10, q2aW x1), (11, .i (lZ x1)), (12, .i (0 : Int))], [], [], 0⟩) rfl rfl ⟨.refl _, .refl _, .refl _, .refl _, trivial⟩ trivial) h ?_
   rintro ⟨k0, n2⟩ h
   cases k0 with
   | zero => exact nomatch (show (none : Option Int) = some r from h)
   | succ k0 =>
   obtain ⟨C0, hC0⟩ : ∃ C, C = f21_L0 x1 K1 k0 := ⟨_, rfl⟩
   replace h := (f21_L0.eq_2 ..).symm.trans h
   try rw [← hC0] at h
   refine q2rq [] [] ⟨48, [(0, q2aW x1), (10, q2aW x1), (11, .i (lZ x1)), (12, .i (n2 : Int)), (13, .bool (decide ((n2 : Int) < (lZ x1))))], [], [], 0⟩ trivial ?_
   refine AWp.seq ?_
   refine AWp.cond (b := (decide ((n2 : Int) < (lZ x1)))) (by kernel_rfl) (fun hc2 => ?_) (fun hc2 => ?_)
   ·
    replace h := ite_tb hc2 h
    refine AWp.skip ?_
    refine tN ?_
    refine AWp.seq ?_
    refine AWp.block ?_
    refine AWp.seq ?_
    obtain ⟨ob0p, h⟩ := chk_some h
    have ob0 : 0 ≤ (n2 : Int) ∧ (n2 : Int) < (((x1).length : Nat) : Int) := ⟨by omega, ob0p⟩
    refine q2rr [] [] ⟨48, [(0, q2aW x1), (3, .i (n2 : Int)), (4, .b16 (x1.getD n2 0#16)), (10, q2aW x1), (11, .i (lZ x1)), (12, .i (n2 : Int))], [], [], 0⟩ (an1 ob0) ?_
    refine tN ?_
    refine AWp.block ?_
    refine q2rq [] [] ⟨48, [(0, q2aW x1), (3, .i (n2 : Int)), (4, .b16 (x1.getD n2 0#16)), (10, q2aW x1), (11, .i (lZ x1)), (12, .i (n2 : Int)), (17, .bool (!(((x1.getD n2 0#16) &&& (q2w16 61440)) == (q2w16 0))))], [], [], 0⟩ trivial ?_
    refine AWp.cond (b := (!(((x1.getD n2 0#16) &&& (q2w16 61440)) == (q2w16 0)))) (by kernel_rfl) (fun hc3 => ?_) (fun hc3 => ?_)
    ·
     replace h := ite_tb hc3 h
     refine q2rq [] [] ⟨48, [(2, .i (7 : Int))], [], [], 0⟩ trivial ?_
     have hret := oJ h
     subst hret
     refine AWp.le (Le.mk (s' := ⟨48, [(2, .i (7 : Int))], [], [], 0⟩) rfl rfl ⟨.refl _, trivial⟩ trivial) ?_
     refine AWp.ret ?_
     refine kR ?_
     refine kR ?_
     refine tR ?_
     refine tR ?_
     refine kR ?_
     refine joinQ_ret ?_
     exact bR _ rfl ⟨rfl, rfl⟩ rfl
    ·
     replace h := ite_fb hc3 h
     refine AWp.seq ?_
     obtain ⟨r3, hr3, h⟩ := optc_some h
     obtain ⟨ob1, h⟩ := chk_some h
     have ob2 := idA ((f21z0 n2) = true)
     obtain ⟨ob3, h⟩ := chk_some h
     have ob4 := idA ((f21z0 n2) = true)
     have ob5 := idA ((f21z0 n2) = true)
     have ob6 := idA ((f21z0 n2) = true)
     have ob7 := idA ((f21z0 n2) = true)
     have ob8 := idA ((f21z0 n2) = true)
     have ob9 := idA ((f21z0 n2) = true)
     have ob10 : true = true → (decide ((n2 : Int) > (0 : Int))) = true → (f21z0 n2) = true := fun _ h => beq_iff_eq.2 h
     refine q2rr [] [(9, ⟨[.b16 (x1.getD ((((n2 : Int) - (1 : Int))).toNat) 0#16), .b16 (x1.getD n2 0#16)], [], [], [], .i r3, [], [], []⟩)] ⟨48, [(0, q2aW x1), (10, q2aW x1), (11, .i (lZ x1)), (12, .i (n2 : Int)), (21, .bool ((decide ((n2 : Int) > (0 : Int))) && (decide (r3 ≥ (0 : Int)))))], [], [], 0⟩ (an6 (And.intro ob1 (an1 ob2)) (And.intro ob3 (an2 ob4 ob5)) (an1 ob6) (And.intro (cpC fun hc => (f43_ok _ _ _ (hr3 hc))) (an2 ob7 ob8)) (an1 ob9) ob10) ?_
     refine tN ?_
     refine AWp.cond (b := ((decide ((n2 : Int) > (0 : Int))) && (decide (r3 ≥ (0 : Int))))) (by kernel_rfl) (fun hc4 => ?_) (fun hc4 => ?_)
     ·
      replace h := ite_tb hc4 h
      refine q2rq [] [] ⟨48, [(2, .i (1 : Int))], [], [], 0⟩ trivial ?_
      have hret := oJ h
      subst hret
      refine AWp.le (Le.mk (s' := ⟨48, [(2, .i (1 : Int))], [], [], 0⟩) rfl rfl ⟨.refl _, trivial⟩ trivial) ?_
      refine AWp.ret ?_
      refine kR ?_
      refine kR ?_
      refine tR ?_
      refine tR ?_
      refine kR ?_
      refine joinQ_ret ?_
      exact bR _ rfl ⟨rfl, rfl⟩ rfl
     ·
      replace h := ite_fb hc4 h
      refine AWp.skip ?_
      refine kN ?_
      refine kN ?_
      refine tN ?_
      obtain ⟨ob11p, h⟩ := chk_some h
      have ob11 : -9223372036854775808 ≤ ((n2 : Int) + (1 : Int)) ∧ ((n2 : Int) + (1 : Int)) ≤ 9223372036854775807 := ⟨by omega, ob11p⟩
      refine q2rr [] [] ⟨48, [(0, q2aW x1), (10, q2aW x1), (11, .i (lZ x1)), (12, .i (((n2 + 1) : Nat) : Int))], [], [], 0⟩ (an1 ob11) ?_
      rw [hC0] at h
      exact lN (_, (n2 + 1)) (Le.mk rfl rfl ⟨.refl _, .refl _, .refl _, .refl _, trivial⟩ trivial) h (Nat.lt_succ_self _)
   ·
    replace h := ite_fb hc2 h
    refine AWp.exit ?_
    refine tE ?_
    refine tE ?_
    refine kS ?_
    exact jN () (Le.mk rfl rfl ⟨.refl _, trivial⟩ trivial) h
  ·
   rintro ⟨⟩ h
   replace h := (congrFun hK1 _).symm.trans h
   obtain ⟨K2, hK2, h⟩ := jn_some h
   refine AWp.join (α := Unit) (fun (x : Unit) => match x with | () => ⟨48, [], [], [], 0⟩) (fun x => K2 x = some r) ?_ ?_
   ·
    refine q2rq [] [] ⟨48, [(0, q2aW x1), (35, q2aW x1), (36, .i (lZ x1)), (37, .i (0 : Int))], [], [], 0⟩ trivial ?_
    refine AWp.block ?_
    refine AWp.loopL (α := Nat × Nat) (fun x => match x with | (_, n4) => ⟨48, [(0, q2aW x1), (35, q2aW x1), (36, .i (lZ x1)), (37, .i (n4 : Int))], [], [], 0⟩) (fun x => f21_L1 x1 K2 x.1 x.2 = some r) (fun x => x.1) (FUEL, 0) (Le.mk (s' := ⟨48, [(0, q2aW x1), (35, q2aW x1), (36, .i (lZ x1)), (37, .i (0 : Int))], [], [], 0⟩) rfl rfl ⟨.refl _, .refl _, .refl _, .refl _, trivial⟩ trivial) h ?_
    rintro ⟨k1, n4⟩ h
    cases k1 with
    | zero => exact nomatch (show (none : Option Int) = some r from h)
    | succ k1 =>
    obtain ⟨C1, hC1⟩ : ∃ C, C = f21_L1 x1 K2 k1 := ⟨_, rfl⟩
    replace h := (f21_L1.eq_2 ..).symm.trans h
    try rw [← hC1] at h
    refine q2rq [] [] ⟨48, [(0, q2aW x1), (35, q2aW x1), (36, .i (lZ x1)), (37, .i (n4 : Int)), (38, .bool (decide ((n4 : Int) < (lZ x1))))], [], [], 0⟩ trivial ?_
    refine AWp.seq ?_
    refine AWp.cond (b := (decide ((n4 : Int) < (lZ x1)))) (by kernel_rfl) (fun hc5 => ?_) (fun hc5 => ?_)
    ·
     replace h := ite_tb hc5 h
     refine AWp.skip ?_
     refine tN ?_
     refine AWp.seq ?_
     refine AWp.block ?_
     refine AWp.seq ?_
     obtain ⟨ob12p, h⟩ := chk_some h
     have ob12 : 0 ≤ (n4 : Int) ∧ (n4 : Int) < (((x1).length : Nat) : Int) := ⟨by omega, ob12p⟩
     refine q2rr [] [] ⟨48, [(0, q2aW x1), (5, .i (n4 : Int)), (6, .b16 (x1.getD n4 0#16)), (35, q2aW x1), (36, .i (lZ x1)), (37, .i (n4 : Int))], [], [], 0⟩ (an1 ob12) ?_
     refine tN ?_
     refine AWp.seq ?_
     obtain ⟨r5, hr5, h⟩ := bind_ok h
     obtain ⟨ob13p, h⟩ := chk_some h
     have ob13 : 0 ≤ (n4 : Int) ∧ (n4 : Int) ≤ (((x1).length : Nat) : Int) := ⟨by omega, ob13p⟩
     refine q2rr [] [(4, ⟨[q2aW (x1.take n4), .b16 (x1.getD n4 0#16)], [], [], [], .bool r5, [], [], []⟩)] ⟨48, [(0, q2aW x1), (35, q2aW x1), (36, .i (lZ x1)), (37, .i (n4 : Int)), (46, .bool r5)], [], [], 0⟩ (an2 ob13 (cpL (c := true) [] [] [.arr 1 n4 (encF eW 0#16 x1), .b16 (x1.getD n4 0#16)] (fun _ => (f24_ok _ _ _ hr5)) (fun _ => ⟨(VLe.takeL (by first | omega | (simp only [List.length_append, List.length_cons, List.length_nil, List.length_take, List.length_drop] at *; omega) | (simp; done) | (simp_all; done) | (simp_all; omega) | rfl)), .refl _, trivial⟩) (.inl rfl))) ?_
     refine tN ?_
     refine AWp.cond (b := r5) (by kernel_rfl) (fun hc6 => ?_) (fun hc6 => ?_)
     ·
      replace h := ite_tb hc6 h
      refine q2rq [] [] ⟨48, [(2, .i (1 : Int))], [], [], 0⟩ trivial ?_
      have hret := oJ h
      subst hret
      refine AWp.le (Le.mk (s' := ⟨48, [(2, .i (1 : Int))], [], [], 0⟩) rfl rfl ⟨.refl _, trivial⟩ trivial) ?_
      refine AWp.ret ?_
      refine kR ?_
      refine tR ?_
      refine tR ?_
      refine kR ?_
      refine joinQ_ret ?_
      exact bR _ rfl ⟨rfl, rfl⟩ rfl
     ·
      replace h := ite_fb hc6 h
      refine AWp.skip ?_
      refine kN ?_
      refine tN ?_
      obtain ⟨ob14p, h⟩ := chk_some h
      have ob14 : -9223372036854775808 ≤ ((n4 : Int) + (1 : Int)) ∧ ((n4 : Int) + (1 : Int)) ≤ 9223372036854775807 := ⟨by omega, ob14p⟩
      refine q2rr [] [] ⟨48, [(0, q2aW x1), (35, q2aW x1), (36, .i (lZ x1)), (37, .i (((n4 + 1) : Nat) : Int))], [], [], 0⟩ (an1 ob14) ?_
      rw [hC1] at h
      exact lN (_, (n4 + 1)) (Le.mk rfl rfl ⟨.refl _, .refl _, .refl _, .refl _, trivial⟩ trivial) h (Nat.lt_succ_self _)
    ·
     replace h := ite_fb hc5 h
     refine AWp.exit ?_
     refine tE ?_
     refine tE ?_
     refine kS ?_
     exact jN () (Le.mk rfl rfl trivial trivial) h
   ·
    rintro ⟨⟩ h
    replace h := (congrFun hK2 _).symm.trans h
    refine q2rq [] [] ⟨48, [(2, .i (0 : Int))], [], [], 0⟩ trivial ?_
    have hret := oJ h
    subst hret
    refine AWp.le (Le.mk (s' := ⟨48, [(2, .i (0 : Int))], [], [], 0⟩) rfl rfl ⟨.refl _, trivial⟩ trivial) ?_
    refine AWp.ret ?_
    exact bR _ rfl ⟨rfl, rfl⟩ rfl
def f23_L0 (x1 : List (BitVec 16)) (K1 : (BitVec 16) → Option (BitVec 16)) : Nat → (BitVec 16 × Nat) → Option (BitVec 16)
 | 0, _ => none
 | k + 1, (w2, n3) =>
  if (decide ((n3 : Int) < (((x1).length : Nat) : Int))) then (
  chk ((n3 : Int) < (((x1).length : Nat) : Int)) <|
  chk (((n3 : Int) + (1 : Int)) ≤ 9223372036854775807) <|
  (f23_L0 x1 K1 k) ((w2 ||| (x1.getD n3 0#16)), (n3 + 1))
  ) else (
  K1 w2
  )
def f23 (x1 : List (BitVec 16)) : Option (BitVec 16) :=
 jn (fun (w4 : BitVec 16) =>
 some w4
 ) fun (K1 : (TB) → Option (TB)) =>
 f23_L0 x1 K1 FUEL ((BitVec.ofInt 16 0), 0)
theorem f23_ok  (x1 : List (TB)) (r : TB) (h : f23 x1 = some r)  : Spec1 Tryz.prog 23 [] [] [] [vL 1 eW 0#16 x1] (.b16 r) [] := by
 unfold f23 at h
 refine Spec1.body 0 _ _ Tryz.func23 rfl Tryz.ntmps23 rfl rfl ?_
 refine q2rq [] [] ⟨17, [(0, q2aW x1)], [], [], 0⟩ trivial ?_
 refine q2rq [] [] ⟨17, [(0, q2aW x1), (3, .b16 (q2w16 0))], [], [], 0⟩ trivial ?_
 obtain ⟨K1, hK1, h⟩ := jn_some h
 refine AWp.join (α := TB) (fun (w4 : TB) => ⟨17, [(3, .b16 w4)], [], [], 0⟩) (fun x => K1 x = some r) ?_ ?_
 ·
  refine q2rq [] [] ⟨17, [(3, .b16 (q2w16 0)), (6, q2aW x1), (7, .i (lZ x1)), (8, .i (0 : Int))], [], [], 0⟩ trivial ?_
  refine AWp.block ?_
  refine AWp.loopL (α := Nat × (TB × Nat)) (fun x => match x with | (_, w2, n3) => ⟨17, [(3, .b16 w2), (6, q2aW x1), (7, .i (lZ x1)), (8, .i (n3 : Int))], [], [], 0⟩) (fun x => f23_L0 x1 K1 x.1 x.2 = some r) (fun x => x.1) (FUEL, (q2w16 0), 0) (Le.mk (s' := ⟨17, [(3, .b16 (q2w16 0)), (6, q2aW x1), (7, .i (lZ x1)), (8, .i (0 : Int))], [], [], 0⟩) rfl rfl ⟨.refl _, .refl _, .refl _, .refl _, trivial⟩ trivial) h ?_
  rintro ⟨k0, w2, n3⟩ h
  cases k0 with
  | zero => exact nomatch (show (none : Option (TB)) = some r from h)
  | succ k0 =>
  obtain ⟨C0, hC0⟩ : ∃ C, C = f23_L0 x1 K1 k0 := ⟨_, rfl⟩
  replace h := (f23_L0.eq_2 ..).symm.trans h
  try rw [← hC0] at h
  refine q2rq [] [] ⟨17, [(3, .b16 w2), (6, q2aW x1), (7, .i (lZ x1)), (8, .i (n3 : Int)), (9, .bool (decide ((n3 : Int) < (lZ x1))))], [], [], 0⟩ trivial ?_
  refine AWp.seq ?_
  refine AWp.cond (b := (decide ((n3 : Int) < (lZ x1)))) (by kernel_rfl) (fun hc1 => ?_) (fun hc1 => ?_)
  ·
   replace h := ite_tb hc1 h
   refine AWp.skip ?_
   refine tN ?_
   refine AWp.seq ?_
   refine AWp.block ?_
   refine AWp.seq ?_
   obtain ⟨ob0p, h⟩ := chk_some h
   have ob0 : 0 ≤ (n3 : Int) ∧ (n3 : Int) < (((x1).length : Nat) : Int) := ⟨by omega, ob0p⟩
   refine q2rr [] [] ⟨17, [(3, .b16 w2), (5, .b16 (x1.getD n3 0#16)), (6, q2aW x1), (7, .i (lZ x1)), (8, .i (n3 : Int))], [], [], 0⟩ (an1 ob0) ?_
   refine tN ?_
   refine q2rr [] [] ⟨17, [(3, .b16 (w2 ||| (x1.getD n3 0#16))), (6, q2aW x1), (7, .i (lZ x1)), (8, .i (n3 : Int))], [], [], 0⟩ trivial ?_
   refine kN ?_
   refine tN ?_
   obtain ⟨ob1p, h⟩ := chk_some h
   have ob1 : -9223372036854775808 ≤ ((n3 : Int) + (1 : Int)) ∧ ((n3 : Int) + (1 : Int)) ≤ 9223372036854775807 := ⟨by omega, ob1p⟩
   refine q2rr [] [] ⟨17, [(3, .b16 (w2 ||| (x1.getD n3 0#16))), (6, q2aW x1), (7, .i (lZ x1)), (8, .i (((n3 + 1) : Nat) : Int))], [], [], 0⟩ (an1 ob1) ?_
   rw [hC0] at h
   exact lN (_, (w2 ||| (x1.getD n3 0#16)), (n3 + 1)) (Le.mk rfl rfl ⟨.refl _, .refl _, .refl _, .refl _, trivial⟩ trivial) h (Nat.lt_succ_self _)
  ·
   replace h := ite_fb hc1 h
   refine AWp.exit ?_
   refine tE ?_
   refine tE ?_
   refine kS ?_
   exact jN (w2) (Le.mk rfl rfl ⟨.refl _, trivial⟩ trivial) h
 ·
  rintro w4 h
  replace h := (congrFun hK1 _).symm.trans h
  refine q2rq [] [] ⟨17, [(2, .b16 w4)], [], [], 0⟩ trivial ?_
  have hret := oJ h
  subst hret
  refine AWp.le (Le.mk (s' := ⟨17, [(2, .b16 w4)], [], [], 0⟩) rfl rfl ⟨.refl _, trivial⟩ trivial) ?_
  refine AWp.ret ?_
  exact bR _ rfl ⟨rfl, rfl⟩ rfl
def f72 (x1 : List (BitVec 16)) (x2 : BitVec 16) : Option Int :=
 (f21 x1).bind fun (r3 : Int) =>
 if (r3 != (0 : Int)) then (
 some r3
 ) else (
 chk ((((((x1).length : Nat) : Int) == (0 : Int)) == false) = true → 0 ≤ (0 : Int) ∧ (0 : Int) < (((x1).length : Nat) : Int)) <|
 if (((((x1).length : Nat) : Int) == (0 : Int)) || ((x1.getD 0 0#16) == (BitVec.ofInt 16 0))) then (
 some (9 : Int)
 ) else (
 (f23 x1).bind fun (r4 : TB) =>
 if (!((r4 &&& ~~~x2) == (BitVec.ofInt 16 0))) then (
 some (7 : Int)
 ) else (
 some (0 : Int)
 )
 )
 )
theorem f72_ok  (x1 : List (TB)) (x2 : TB) (r : Int) (h : f72 x1 x2 = some r)  : Spec1 Tryz.prog 72 [] [] [] [vL 1 eW 0#16 x1, .b16 x2] (.int .i64 r) [] := by
 unfold f72 at h
 refine Spec1.body 0 _ _ Tryz.func72 rfl Tryz.ntmps72 rfl rfl ?_
 refine q2rq [] [] ⟨25, [(0, q2aW x1), (1, .b16 x2)], [], [], 0⟩ trivial ?_
 refine AWp.seq ?_
 refine AWp.seq ?_
 obtain ⟨r3, hr3, h⟩ := bind_ok h
 refine q2rr [] [(1, ⟨[q2aW x1], [], [], [], .i r3, [], [], []⟩)] ⟨25, [(0, q2aW x1), (1, .b16 x2), (5, .i r3)], [], [], 0⟩ (an1 (cpT (f21_ok _ _ hr3))) ?_
 refine tN ?_
 refine q2rq [] [] ⟨25, [(0, q2aW x1), (1, .b16 x2), (5, .i r3), (9, .bool (r3 != (0 : Int)))], [], [], 0⟩ trivial ?_
 refine AWp.cond (b := (r3 != (0 : Int))) (by kernel_rfl) (fun hc1 => ?_) (fun hc1 => ?_)
 ·
  replace h := ite_tb hc1 h
  refine q2rq [] [] ⟨25, [(4, .i r3)], [], [], 0⟩ trivial ?_
  have hret := oJ h
  subst hret
  refine AWp.le (Le.mk (s' := ⟨25, [(4, .i r3)], [], [], 0⟩) rfl rfl ⟨.refl _, trivial⟩ trivial) ?_
  refine AWp.ret ?_
  refine tR ?_
  exact bR _ rfl ⟨rfl, rfl⟩ rfl
 ·
  replace h := ite_fb hc1 h
  refine AWp.skip ?_
  refine tN ?_
  refine AWp.seq ?_
  refine AWp.seq ?_
  obtain ⟨ob0, h⟩ := chk_some h
  have ob1 := idA ((((lZ x1) == (0 : Int)) == false) = true)
  have ob2 := idA ((((lZ x1) == (0 : Int)) == false) = true)
  have ob3 := idA ((((lZ x1) == (0 : Int)) == false) = true)
  have ob4 := bqA ((lZ x1) == (0 : Int)) false
  refine q2rr [] [] ⟨25, [(0, q2aW x1), (1, .b16 x2), (19, .bool (((lZ x1) == (0 : Int)) || ((x1.getD 0 0#16) == (q2w16 0))))], [], [], 0⟩ (an4 (And.intro ob0 (an1 ob1)) (an1 ob2) (an1 ob3) ob4) ?_
  refine tN ?_
  refine AWp.cond (b := (((lZ x1) == (0 : Int)) || ((x1.getD 0 0#16) == (q2w16 0)))) (by kernel_rfl) (fun hc2 => ?_) (fun hc2 => ?_)
  ·
   replace h := ite_tb hc2 h
   refine q2rq [] [] ⟨25, [(4, .i (9 : Int))], [], [], 0⟩ trivial ?_
   have hret := oJ h
   subst hret
   refine AWp.le (Le.mk (s' := ⟨25, [(4, .i (9 : Int))], [], [], 0⟩) rfl rfl ⟨.refl _, trivial⟩ trivial) ?_
   refine AWp.ret ?_
   refine tR ?_
   exact bR _ rfl ⟨rfl, rfl⟩ rfl
  ·
   replace h := ite_fb hc2 h
   refine AWp.skip ?_
   refine tN ?_
   refine AWp.seq ?_
   refine AWp.seq ?_
   obtain ⟨r4, hr4, h⟩ := bind_ok h
   refine q2rr [] [(1, ⟨[q2aW x1], [], [], [], .b16 r4, [], [], []⟩)] ⟨25, [(24, .bool (!((r4 &&& ~~~x2) == (q2w16 0))))], [], [], 0⟩ (an1 (cpT (f23_ok _ _ hr4))) ?_
   refine tN ?_
   refine AWp.cond (b := (!((r4 &&& ~~~x2) == (q2w16 0)))) (by kernel_rfl) (fun hc3 => ?_) (fun hc3 => ?_)
   ·
    replace h := ite_tb hc3 h
    refine q2rq [] [] ⟨25, [(4, .i (7 : Int))], [], [], 0⟩ trivial ?_
    have hret := oJ h
    subst hret
    refine AWp.le (Le.mk (s' := ⟨25, [(4, .i (7 : Int))], [], [], 0⟩) rfl rfl ⟨.refl _, trivial⟩ trivial) ?_
    refine AWp.ret ?_
    refine tR ?_
    exact bR _ rfl ⟨rfl, rfl⟩ rfl
   ·
    replace h := ite_fb hc3 h
    refine AWp.skip ?_
    refine tN ?_
    refine q2rq [] [] ⟨25, [(4, .i (0 : Int))], [], [], 0⟩ trivial ?_
    have hret := oJ h
    subst hret
    refine AWp.le (Le.mk (s' := ⟨25, [(4, .i (0 : Int))], [], [], 0⟩) rfl rfl ⟨.refl _, trivial⟩ trivial) ?_
    refine AWp.ret ?_
    exact bR _ rfl ⟨rfl, rfl⟩ rfl
def f89 (x1 : BitVec 16) (x2 : BitVec 16) : Option (BitVec 16) :=
 some (x1 ||| x2)
theorem f89_ok  (x1 : TB) (x2 : TB) (r : TB) (h : f89 x1 x2 = some r)  : Spec1 Tryz.prog 89 [] [] [] [.agg [.b16 x1, .b16 x2]] (.b16 r) [] := by
 unfold f89 at h
 refine Spec1.body 0 _ _ Tryz.func89 rfl Tryz.ntmps89 rfl rfl ?_
 refine q2rq [] [] ⟨8, [(1, .ptr 1 0)], [(1, .cells 43 [.b16 x1, .b16 x2])], [], 0⟩ trivial ?_
 refine q2rq [] [] ⟨8, [(2, .b16 (x1 ||| x2))], [], [], 0⟩ trivial ?_
 have hret := oJ h
 subst hret
 refine AWp.le (Le.mk (s' := ⟨8, [(2, .b16 (x1 ||| x2))], [], [], 0⟩) rfl rfl ⟨.refl _, trivial⟩ trivial) ?_
 refine AWp.ret ?_
 exact bR _ rfl ⟨rfl, rfl⟩ rfl
def f73 (x1 : BitVec 16) (x2 : BitVec 16) : Option Int :=
 (f89 x1 x2).bind fun (r3 : TB) =>
 if (!((r3 &&& ~~~(BitVec.ofInt 16 4095)) == (BitVec.ofInt 16 0))) then (
 some (7 : Int)
 ) else (
 if (!((x1 &&& x2) == (BitVec.ofInt 16 0))) then (
 some (1 : Int)
 ) else (
 some (0 : Int)
 )
 )
theorem f73_ok  (x1 : TB) (x2 : TB) (r : Int) (h : f73 x1 x2 = some r)  : Spec1 Tryz.prog 73 [] [] [] [.agg [.b16 x1, .b16 x2]] (.int .i64 r) [] := by
 unfold f73 at h
 refine Spec1.body 0 _ _ Tryz.func73 rfl Tryz.ntmps73 rfl rfl ?_
 refine q2rq [] [] ⟨13, [(1, .ptr 1 0)], [(1, .cells 43 [.b16 x1, .b16 x2])], [], 0⟩ trivial ?_
 refine AWp.seq ?_
 refine AWp.seq ?_
 obtain ⟨r3, hr3, h⟩ := bind_ok h
 refine q2rr [] [(1, ⟨[.agg [.b16 x1, .b16 x2]], [], [], [], .b16 r3, [], [], []⟩)] ⟨13, [(1, .ptr 1 0), (6, .bool (!((r3 &&& ~~~(q2w16 4095)) == (q2w16 0))))], [(1, .cells 43 [.b16 x1, .b16 x2])], [], 0⟩ (an1 (cpT (f89_ok _ _ _ hr3))) ?_
 refine tN ?_
 refine AWp.cond (b := (!((r3 &&& ~~~(q2w16 4095)) == (q2w16 0)))) (by kernel_rfl) (fun hc1 => ?_) (fun hc1 => ?_)
 ·
  replace h := ite_tb hc1 h
  refine q2rq [] [] ⟨13, [(2, .i (7 : Int))], [], [], 0⟩ trivial ?_
  have hret := oJ h
  subst hret
  refine AWp.le (Le.mk (s' := ⟨13, [(2, .i (7 : Int))], [], [], 0⟩) rfl rfl ⟨.refl _, trivial⟩ trivial) ?_
  refine AWp.ret ?_
  refine tR ?_
  exact bR _ rfl ⟨rfl, rfl⟩ rfl
 ·
  replace h := ite_fb hc1 h
  refine AWp.skip ?_
  refine tN ?_
  refine AWp.seq ?_
  refine q2rq [] [] ⟨13, [(12, .bool (!((x1 &&& x2) == (q2w16 0))))], [], [], 0⟩ trivial ?_
  refine AWp.cond (b := (!((x1 &&& x2) == (q2w16 0)))) (by kernel_rfl) (fun hc2 => ?_) (fun hc2 => ?_)
  ·
   replace h := ite_tb hc2 h
   refine q2rq [] [] ⟨13, [(2, .i (1 : Int))], [], [], 0⟩ trivial ?_
   have hret := oJ h
   subst hret
   refine AWp.le (Le.mk (s' := ⟨13, [(2, .i (1 : Int))], [], [], 0⟩) rfl rfl ⟨.refl _, trivial⟩ trivial) ?_
   refine AWp.ret ?_
   refine tR ?_
   exact bR _ rfl ⟨rfl, rfl⟩ rfl
  ·
   replace h := ite_fb hc2 h
   refine AWp.skip ?_
   refine tN ?_
   refine q2rq [] [] ⟨13, [(2, .i (0 : Int))], [], [], 0⟩ trivial ?_
   have hret := oJ h
   subst hret
   refine AWp.le (Le.mk (s' := ⟨13, [(2, .i (0 : Int))], [], [], 0⟩) rfl rfl ⟨.refl _, trivial⟩ trivial) ?_
   refine AWp.ret ?_
   exact bR _ rfl ⟨rfl, rfl⟩ rfl
abbrev f74z0 (x3 : TB) (x1 : TB) := (((x3 &&& ~~~x1) == (BitVec.ofInt 16 0)) == true)
def f74 (x1 : BitVec 16) (x2 : BitVec 16) (x3 : BitVec 16) (x4 : BitVec 16) : Option Bool :=
 optc (((x3 &&& ~~~x1) == (BitVec.ofInt 16 0)) == true) (f89 x3 x4) fun (r5 : TB) =>
 optc (((x3 &&& ~~~x1) == (BitVec.ofInt 16 0)) == true) (f89 x1 x2) fun (r6 : TB) =>
 some (((x3 &&& ~~~x1) == (BitVec.ofInt 16 0)) && ((r5 &&& ~~~r6) == (BitVec.ofInt 16 0)))
theorem f74_ok  (x1 : TB) (x2 : TB) (x3 : TB) (x4 : TB) (r : Bool) (h : f74 x1 x2 x3 x4 = some r)  : Spec1 Tryz.prog 74 [] [] [] [.agg [.b16 x1, .b16 x2], .agg [.b16 x3, .b16 x4]] (.bool r) [] := by
 unfold f74 at h
 refine Spec1.body 0 _ _ Tryz.func74 rfl Tryz.ntmps74 rfl rfl ?_
 refine q2rq [] [] ⟨19, [(2, .ptr 2 0), (3, .ptr 3 0)], [(2, .cells 43 [.b16 x1, .b16 x2]), (3, .cells 43 [.b16 x3, .b16 x4])], [], 0⟩ trivial ?_
 refine AWp.seq ?_
 obtain ⟨r5, hr5, h⟩ := optc_some h
 obtain ⟨r6, hr6, h⟩ := optc_some h
 have ob0 := idA ((f74z0 x3 x1) = true)
 have ob1 := idA ((f74z0 x3 x1) = true)
 have ob2 := idA ((f74z0 x3 x1) = true)
 have ob3 := idA ((f74z0 x3 x1) = true)
 have ob4 := idA ((f74z0 x3 x1) = true)
 have ob5 : true = true → ((x3 &&& ~~~x1) == (q2w16 0)) = true → (f74z0 x3 x1) = true := fun _ h => beq_iff_eq.2 h
 refine q2rr [] [(8, ⟨[.agg [.b16 x3, .b16 x4]], [], [], [], .b16 r5, [], [], []⟩), (10, ⟨[.agg [.b16 x1, .b16 x2]], [], [], [], .b16 r6, [], [], []⟩)] ⟨19, [(4, .bool (((x3 &&& ~~~x1) == (q2w16 0)) && ((r5 &&& ~~~r6) == (q2w16 0))))], [], [], 0⟩ (an5 (And.intro (cpC fun hc => (f89_ok _ _ _ (hr5 hc))) (an1 ob0)) (And.intro (cpC fun hc => (f89_ok _ _ _ (hr6 hc))) (an1 ob1)) (an2 ob2 ob3) (an1 ob4) ob5) ?_
 refine tN ?_
 have hret := oJ h
 subst hret
 refine AWp.le (Le.mk (s' := ⟨19, [(4, .bool (((x3 &&& ~~~x1) == (q2w16 0)) && ((r5 &&& ~~~r6) == (q2w16 0))))], [], [], 0⟩) rfl rfl ⟨.refl _, trivial⟩ trivial) ?_
 refine AWp.ret ?_
 exact bR _ rfl ⟨rfl, rfl⟩ rfl
def f75 (x1 : BitVec 16) (x2 : BitVec 16) (x3 : BitVec 16) (x4 : BitVec 16) : Option Int :=
 (f43 x1 x3).bind fun (r5 : Int) =>
 (f43 x2 x4).bind fun (r6 : Int) =>
 (f66 [r5, r6]).bind fun (r7 : Int) =>
 some r7
theorem f75_ok  (x1 : TB) (x2 : TB) (x3 : TB) (x4 : TB) (r : Int) (h : f75 x1 x2 x3 x4 = some r)  : Spec1 Tryz.prog 75 [] [] [] [.agg [.b16 x1, .b16 x2], .agg [.b16 x3, .b16 x4]] (.int .i64 r) [] := by
 unfold f75 at h
 refine Spec1.body 0 _ _ Tryz.func75 rfl Tryz.ntmps75 rfl rfl ?_
 refine q2rq [] [] ⟨17, [(2, .ptr 2 0), (3, .ptr 3 0)], [(2, .cells 43 [.b16 x1, .b16 x2]), (3, .cells 43 [.b16 x3, .b16 x4])], [], 0⟩ trivial ?_
 refine AWp.seq ?_
 obtain ⟨r5, hr5, h⟩ := bind_ok h
 obtain ⟨r6, hr6, h⟩ := bind_ok h
 obtain ⟨r7, hr7, h⟩ := bind_ok h
 refine q2rr [] [(4, ⟨[.b16 x1, .b16 x3], [], [], [], .i r5, [], [], []⟩), (9, ⟨[.b16 x2, .b16 x4], [], [], [], .i r6, [], [], []⟩), (11, ⟨[vL 1 eI 0 [r5, r6]], [], [], [], .i r7, [], [15], []⟩)] ⟨17, [(4, .i r7)], [], [], 0⟩ (an3 (cpT (f43_ok _ _ _ hr5)) (cpT (f43_ok _ _ _ hr6)) (cpL (c := true) [(15, .rows 3 1 2 (lstF 1 [.i r5, .i r6]))] [15] [.own 15] (fun _ => (f66_ok _ _ hr7)) (fun _ => ⟨(VLe.of (RL.lst (enc := eI) [r5, r6] rfl rfl (fun _ => rfl))), trivial⟩) (.inr ⟨rfl, trivial⟩))) ?_
 refine tN ?_
 have hret := oJ h
 subst hret
 refine AWp.le (Le.mk (s' := ⟨17, [(4, .i r7)], [], [], 0⟩) rfl rfl ⟨.refl _, trivial⟩ trivial) ?_
 refine AWp.ret ?_
 exact bR _ rfl ⟨rfl, rfl⟩ rfl
def f51_L1 (x1 : List Tq0) (n2 : Nat) (K2 : Unit → Option Int) : Nat → Nat → Option Int
 | 0, _ => none
 | k + 1, n4 =>
  if (decide ((n4 : Int) < (n2 : Int))) then (
  chk ((n4 : Int) < ((((x1.take n2)).length : Nat) : Int)) <|
  (f74 ((x1.getD n2 (default : Tq0)).1) ((x1.getD n2 (default : Tq0)).2) (((x1.take n2).getD n4 (default : Tq0)).1) (((x1.take n2).getD n4 (default : Tq0)).2)).bind fun (r5 : Bool) =>
  optc (r5 == false) (f74 (((x1.take n2).getD n4 (default : Tq0)).1) (((x1.take n2).getD n4 (default : Tq0)).2) ((x1.getD n2 (default : Tq0)).1) ((x1.getD n2 (default : Tq0)).2)) fun (r6 : Bool) =>
  if (r5 || r6) then (
  some (5 : Int)
  ) else (
  chk (((n4 : Int) + (1 : Int)) ≤ 9223372036854775807) <|
  (f51_L1 x1 n2 K2 k) (n4 + 1)
  )
  ) else (
  K2 ()
  )
def f51_L0 (x1 : List Tq0) (K1 : Unit → Option Int) : Nat → Nat → Option Int
 | 0, _ => none
 | k + 1, n2 =>
  if (decide ((n2 : Int) < (((x1).length : Nat) : Int))) then (
  chk ((n2 : Int) < (((x1).length : Nat) : Int)) <|
  (f73 ((x1.getD n2 (default : Tq0)).1) ((x1.getD n2 (default : Tq0)).2)).bind fun (r3 : Int) =>
  if (r3 != (0 : Int)) then (
  some r3
  ) else (
  jn (fun (_ : Unit) =>
  optc ((decide ((n2 : Int) > (0 : Int))) == true) (f75 ((x1.getD ((((n2 : Int) - (1 : Int))).toNat) (default : Tq0)).1) ((x1.getD ((((n2 : Int) - (1 : Int))).toNat) (default : Tq0)).2) ((x1.getD n2 (default : Tq0)).1) ((x1.getD n2 (default : Tq0)).2)) fun (r7 : Int) =>
  chk (((decide ((n2 : Int) > (0 : Int))) == true) = true → -9223372036854775808 ≤ ((n2 : Int) - (1 : Int)) ∧ ((n2 : Int) - (1 : Int)) ≤ 9223372036854775807) <|
  chk (((decide ((n2 : Int) > (0 : Int))) == true) = true → 0 ≤ ((n2 : Int) - (1 : Int)) ∧ ((n2 : Int) - (1 : Int)) < (((x1).length : Nat) : Int)) <|
  if ((decide ((n2 : Int) > (0 : Int))) && (decide (r7 ≥ (0 : Int)))) then (
  some (1 : Int)
  ) else (
  chk (((n2 : Int) + (1 : Int)) ≤ 9223372036854775807) <|
  (f51_L0 x1 K1 k) (n2 + 1)
  )
  ) fun (K2 : Unit → Option Int) =>
  chk ((n2 : Int) ≤ (((x1).length : Nat) : Int)) <|
  f51_L1 x1 n2 K2 FUEL 0
  )
  ) else (
  K1 ()
  )
abbrev f51z0 (x1 : List Tq0) (n2 : Nat) : List V := [.b16 (x1.getD n2 (default : Tq0)).1, .b16 (x1.getD n2 (default : Tq0)).2]
abbrev f51z1 (n2 : Nat) := ((decide ((n2 : Int) > (0 : Int))) == true)
abbrev f51z2 (x1 : List Tq0) (n2 : Nat) : List (Nat × V) := [(0, vL 2 eWW (default : Tq0) x1), (3, .int .i64 (n2 : Int)), (4, .ptr 4 0), (14, vL 2 eWW (default : Tq0) x1), (15, .int .i64 (((x1).length : Nat) : Int)), (16, .int .i64 (n2 : Int))]
abbrev f51z3 (x1 : List Tq0) (n2 : Nat) (n4 : Nat) : List V := [.b16 ((x1.take n2).getD n4 (default : Tq0)).1, .b16 ((x1.take n2).getD n4 (default : Tq0)).2]
abbrev f51z4 (x1 : List Tq0) (n2 : Nat) : Heap := [(4, .cells 43 (f51z0 x1 n2))]
def f51 (x1 : List Tq0) : Option Int :=
 if ((((x1).length : Nat) : Int) == (0 : Int)) then (
 some (9 : Int)
 ) else (
 if (decide ((((x1).length : Nat) : Int) > (100 : Int))) then (
 some (3 : Int)
 ) else (
 jn (fun (_ : Unit) =>
 some (0 : Int)
 ) fun (K1 : Unit → Option Int) =>
 f51_L0 x1 K1 FUEL 0
 )
 )
theorem f51_ok  (x1 : List Tq0) (r : Int) (h : f51 x1 = some r)  : Spec1 Tryz.prog 51 [] [] [] [vL 2 eWW (default : Tq0) x1] (.int .i64 r) [] := by
 unfold f51 at h
 refine Spec1.body 0 _ _ Tryz.func51 rfl Tryz.ntmps51 rfl rfl ?_
 refine q2rq [] [] ⟨56, [(0, q2aWW x1)], [], [], 0⟩ trivial ?_
 refine AWp.seq ?_
 refine q2rq [] [] ⟨56, [(0, q2aWW x1), (10, .bool ((lZ x1) == (0 : Int)))], [], [], 0⟩ trivial ?_
 refine AWp.cond (b := ((lZ x1) == (0 : Int))) (by kernel_rfl) (fun hc1 => ?_) (fun hc1 => ?_)
 ·
  replace h := ite_tb hc1 h
  refine q2rq [] [] ⟨56, [(2, .i (9 : Int))], [], [], 0⟩ trivial ?_
  have hret := oJ h
  subst hret
  refine AWp.le (Le.mk (s' := ⟨56, [(2, .i (9 : Int))], [], [], 0⟩) rfl rfl ⟨.refl _, trivial⟩ trivial) ?_
  refine AWp.ret ?_
  refine tR ?_
  exact bR _ rfl ⟨rfl, rfl⟩ rfl
 ·
  replace h := ite_fb hc1 h
  refine AWp.skip ?_
  refine tN ?_
  refine AWp.seq ?_
  refine q2rq [] [] ⟨56, [(0, q2aWW x1), (13, .bool (decide ((lZ x1) > (100 : Int))))], [], [], 0⟩ trivial ?_
  refine AWp.cond (b := (decide ((lZ x1) > (100 : Int)))) (by kernel_rfl) (fun hc2 => ?_) (fun hc2 => ?_)
  ·
   replace h := ite_tb hc2 h
   refine q2rq [] [] ⟨56, [(2, .i (3 : Int))], [], [], 0⟩ trivial ?_
   have hret := oJ h
   subst hret
   refine AWp.le (Le.mk (s' := ⟨56, [(2, .i (3 : Int))], [], [], 0⟩) rfl rfl ⟨.refl _, trivial⟩ trivial) ?_
   refine AWp.ret ?_
   refine tR ?_
   exact bR _ rfl ⟨rfl, rfl⟩ rfl
  ·
   replace h := ite_fb hc2 h
   refine AWp.skip ?_
   refine tN ?_
   obtain ⟨K1, hK1, h⟩ := jn_some h
   refine AWp.join (α := Unit) (fun (x : Unit) => match x with | () => ⟨56, [], [], [], 0⟩) (fun x => K1 x = some r) ?_ ?_
   ·
    refine q2rq [] [] ⟨56, [(0, q2aWW x1), (14, q2aWW x1), (15, .i (lZ x1)), (16, .i (0 : Int))], [], [], 0⟩ trivial ?_
    refine AWp.block ?_
    refine AWp.loopL (α := Nat × Nat) (fun x => match x with | (_, n2) => ⟨56, [(0, q2aWW x1), (14, q2aWW x1), (15, .i (lZ x1)), (16, .i (n2 : Int))], [], [], 0⟩) (fun x => f51_L0 x1 K1 x.1 x.2 = some r) (fun x => x.1) (FUEL, 0) (Le.mk (s' := ⟨56, [(0, q2aWW x1), (14, q2aWW x1), (15, .i (lZ x1)), (16, .i (0 : Int))], [], [], 0⟩) rfl rfl ⟨.refl _, .refl _, .refl _, .refl _, trivial⟩ trivial) h ?_
    rintro ⟨k0, n2⟩ h
    cases k0 with
    | zero => exact nomatch (show (none : Option Int) = some r from h)
    | succ k0 =>
    obtain ⟨C0, hC0⟩ : ∃ C, C = f51_L0 x1 K1 k0 := ⟨_, rfl⟩
    replace h := (f51_L0.eq_2 ..).symm.trans h
    try rw [← hC0] at h
    refine q2rq [] [] ⟨56, [(0, q2aWW x1), (14, q2aWW x1), (15, .i (lZ x1)), (16, .i (n2 : Int)), (17, .bool (decide ((n2 : Int) < (lZ x1))))], [], [], 0⟩ trivial ?_
    refine AWp.seq ?_
    refine AWp.cond (b := (decide ((n2 : Int) < (lZ x1)))) (by kernel_rfl) (fun hc3 => ?_) (fun hc3 => ?_)
    ·
     replace h := ite_tb hc3 h
     refine AWp.skip ?_
     refine tN ?_
     refine AWp.seq ?_
     refine AWp.block ?_
     refine AWp.seq ?_
     obtain ⟨ob0p, h⟩ := chk_some h
     have ob0 : 0 ≤ (n2 : Int) ∧ (n2 : Int) < (((x1).length : Nat) : Int) := ⟨by omega, ob0p⟩
     refine q2rr [] [] ⟨56, (f51z2 x1 n2), (f51z4 x1 n2), [], 0⟩ (an2 ob0 trivial) ?_
     refine tN ?_
     refine AWp.seq ?_
     refine AWp.seq ?_
     obtain ⟨r3, hr3, h⟩ := bind_ok h
     refine q2rr [] [(1, ⟨[.agg (f51z0 x1 n2)], [], [], [], .i r3, [], [], []⟩)] ⟨56, [(0, q2aWW x1), (3, .i (n2 : Int)), (4, .ptr 4 0), (5, .i r3), (14, q2aWW x1), (15, .i (lZ x1)), (16, .i (n2 : Int))], (f51z4 x1 n2), [], 0⟩ (an1 (cpT (f73_ok _ _ _ hr3))) ?_
     refine tN ?_
     refine q2rq [] [] ⟨56, [(0, q2aWW x1), (3, .i (n2 : Int)), (4, .ptr 4 0), (5, .i r3), (14, q2aWW x1), (15, .i (lZ x1)), (16, .i (n2 : Int)), (24, .bool (r3 != (0 : Int)))], (f51z4 x1 n2), [], 0⟩ trivial ?_
     refine AWp.cond (b := (r3 != (0 : Int))) (by kernel_rfl) (fun hc4 => ?_) (fun hc4 => ?_)
     ·
      replace h := ite_tb hc4 h
      refine q2rq [] [] ⟨56, [(2, .i r3)], [], [], 0⟩ trivial ?_
      have hret := oJ h
      subst hret
      refine AWp.le (Le.mk (s' := ⟨56, [(2, .i r3)], [], [], 0⟩) rfl rfl ⟨.refl _, trivial⟩ trivial) ?_
      refine AWp.ret ?_
      refine tR ?_
      refine kR ?_
      refine tR ?_
      refine tR ?_
      refine kR ?_
      refine joinQ_ret ?_
      exact bR _ rfl ⟨rfl, rfl⟩ rfl
     ·
      replace h := ite_fb hc4 h
      refine AWp.skip ?_
      refine tN ?_
      obtain ⟨K2, hK2, h⟩ := jn_some h
      refine AWp.join (α := Unit) (fun (x : Unit) => match x with | () => ⟨56, (f51z2 x1 n2), (f51z4 x1 n2), [], 0⟩) (fun x => K2 x = some r) ?_ ?_
      ·
       refine AWp.seq ?_
       obtain ⟨ob1p, h⟩ := chk_some h
       have ob1 : 0 ≤ (n2 : Int) ∧ (n2 : Int) ≤ (((x1).length : Nat) : Int) := ⟨by omega, ob1p⟩
       refine q2rr [] [] ⟨56, [(0, q2aWW x1), (3, .i (n2 : Int)), (4, .ptr 4 0), (14, q2aWW x1), (15, .i (lZ x1)), (16, .i (n2 : Int)), (28, .arr 2 n2 (encF eWW q2dWW x1)), (29, .i (n2 : Int)), (30, .i (0 : Int))], (f51z4 x1 n2), [], 0⟩ (an1 ob1) ?_
       refine tN ?_
       refine AWp.le (Le.mk (s' := ⟨56, [(0, q2aWW x1), (3, .i (n2 : Int)), (4, .ptr 4 0), (14, q2aWW x1), (15, .i (lZ x1)), (16, .i (n2 : Int)), (28, q2aWW (x1.take n2)), (29, .i (n2 : Int)), (30, .i (0 : Int))], (f51z4 x1 n2), [], 0⟩) rfl rfl ⟨.refl _, .refl _, .refl _, .refl _, .refl _, .refl _, (VLe.takeL (by first | omega | (simp only [List.length_append, List.length_cons, List.length_nil, List.length_take, List.length_drop] at *; omega) | (simp; done) | (simp_all; done) | (simp_all; omega) | rfl)), .refl _, .refl _, trivial⟩ ⟨⟨_, rfl, .refl _⟩, trivial⟩) ?_
       refine AWp.block ?_
       refine AWp.loopL (α := Nat × Nat) (fun x => match x with | (_, n4) => ⟨56, [(0, q2aWW x1), (3, .i (n2 : Int)), (4, .ptr 4 0), (14, q2aWW x1), (15, .i (lZ x1)), (16, .i (n2 : Int)), (28, q2aWW (x1.take n2)), (29, .i (n2 : Int)), (30, .i (n4 : Int))], (f51z4 x1 n2), [], 0⟩) (fun x => f51_L1 x1 n2 K2 x.1 x.2 = some r) (fun x => x.1) (FUEL, 0) (Le.mk (s' := ⟨56, [(0, q2aWW x1), (3, .i (n2 : Int)), (4, .ptr 4 0), (14, q2aWW x1), (15, .i (lZ x1)), (16, .i (n2 : Int)), (28, q2aWW (x1.take n2)), (29, .i (n2 : Int)), (30, .i (0 : Int))], (f51z4 x1 n2), [], 0⟩) rfl rfl ⟨.refl _, .refl _, .refl _, .refl _, .refl _, .refl _, .refl _, .refl _, .refl _, trivial⟩ ⟨⟨_, rfl, .refl _⟩, trivial⟩) h ?_
       rintro ⟨k1, n4⟩ h
       cases k1 with
       | zero => exact nomatch (show (none : Option Int) = some r from h)
       | succ k1 =>
       obtain ⟨C1, hC1⟩ : ∃ C, C = f51_L1 x1 n2 K2 k1 := ⟨_, rfl⟩
       replace h := (f51_L1.eq_2 ..).symm.trans h
       try rw [← hC1] at h
       refine q2rq [] [] ⟨56, [(0, q2aWW x1), (3, .i (n2 : Int)), (4, .ptr 4 0), (14, q2aWW x1), (15, .i (lZ x1)), (16, .i (n2 : Int)), (28, q2aWW (x1.take n2)), (29, .i (n2 : Int)), (30, .i (n4 : Int)), (31, .bool (decide ((n4 : Int) < (n2 : Int))))], (f51z4 x1 n2), [], 0⟩ trivial ?_
       refine AWp.seq ?_
       refine AWp.cond (b := (decide ((n4 : Int) < (n2 : Int)))) (by kernel_rfl) (fun hc5 => ?_) (fun hc5 => ?_)
       ·
        replace h := ite_tb hc5 h
        refine AWp.skip ?_
        refine tN ?_
        refine AWp.seq ?_
        refine AWp.block ?_
        refine AWp.seq ?_
        obtain ⟨ob2p, h⟩ := chk_some h
        have ob2 : 0 ≤ (n4 : Int) ∧ (n4 : Int) < ((((x1.take n2)).length : Nat) : Int) := ⟨by omega, ob2p⟩
        refine q2rr [] [] ⟨56, [(0, q2aWW x1), (3, .i (n2 : Int)), (4, .ptr 4 0), (7, .ptr 7 0), (14, q2aWW x1), (15, .i (lZ x1)), (16, .i (n2 : Int)), (28, q2aWW (x1.take n2)), (29, .i (n2 : Int)), (30, .i (n4 : Int))], [(4, .cells 43 (f51z0 x1 n2)), (7, .cells 43 (f51z3 x1 n2 n4))], [], 0⟩ (an2 ob2 trivial) ?_
        refine tN ?_
        refine AWp.seq ?_
        obtain ⟨r5, hr5, h⟩ := bind_ok h
        obtain ⟨r6, hr6, h⟩ := optc_some h
        have ob3 := idA ((r5 == false) = true)
        have ob4 := idA ((r5 == false) = true)
        have ob5 := bqA r5 false
        refine q2rr [] [(2, ⟨[.agg (f51z0 x1 n2), .agg (f51z3 x1 n2 n4)], [], [], [], .bool r5, [], [], []⟩), (6, ⟨[.agg (f51z3 x1 n2 n4), .agg (f51z0 x1 n2)], [], [], [], .bool r6, [], [], []⟩)] ⟨56, [(0, q2aWW x1), (3, .i (n2 : Int)), (4, .ptr 4 0), (14, q2aWW x1), (15, .i (lZ x1)), (16, .i (n2 : Int)), (28, q2aWW (x1.take n2)), (29, .i (n2 : Int)), (30, .i (n4 : Int)), (41, .bool (r5 || r6))], (f51z4 x1 n2), [], 0⟩ (an3 (cpT (f74_ok _ _ _ _ _ hr5)) (And.intro (cpC fun hc => (f74_ok _ _ _ _ _ (hr6 hc))) (an2 ob3 ob4)) ob5) ?_
        refine tN ?_
        refine AWp.cond (b := (r5 || r6)) (by kernel_rfl) (fun hc6 => ?_) (fun hc6 => ?_)
        ·
         replace h := ite_tb hc6 h
         refine q2rq [] [] ⟨56, [(2, .i (5 : Int))], [], [], 0⟩ trivial ?_
         have hret := oJ h
         subst hret
         refine AWp.le (Le.mk (s' := ⟨56, [(2, .i (5 : Int))], [], [], 0⟩) rfl rfl ⟨.refl _, trivial⟩ trivial) ?_
         refine AWp.ret ?_
         refine kR ?_
         refine tR ?_
         refine tR ?_
         refine kR ?_
         refine joinQ_ret ?_
         refine kR ?_
         refine tR ?_
         refine tR ?_
         refine kR ?_
         refine joinQ_ret ?_
         exact bR _ rfl ⟨rfl, rfl⟩ rfl
        ·
         replace h := ite_fb hc6 h
         refine AWp.skip ?_
         refine kN ?_
         refine tN ?_
         obtain ⟨ob6p, h⟩ := chk_some h
         have ob6 : -9223372036854775808 ≤ ((n4 : Int) + (1 : Int)) ∧ ((n4 : Int) + (1 : Int)) ≤ 9223372036854775807 := ⟨by omega, ob6p⟩
         refine q2rr [] [] ⟨56, [(0, q2aWW x1), (3, .i (n2 : Int)), (4, .ptr 4 0), (14, q2aWW x1), (15, .i (lZ x1)), (16, .i (n2 : Int)), (28, q2aWW (x1.take n2)), (29, .i (n2 : Int)), (30, .i (((n4 + 1) : Nat) : Int))], (f51z4 x1 n2), [], 0⟩ (an1 ob6) ?_
         rw [hC1] at h
         exact lN (_, (n4 + 1)) (Le.mk rfl rfl ⟨.refl _, .refl _, .refl _, .refl _, .refl _, .refl _, .refl _, .refl _, .refl _, trivial⟩ ⟨⟨_, rfl, .refl _⟩, trivial⟩) h (Nat.lt_succ_self _)
       ·
        replace h := ite_fb hc5 h
        refine AWp.exit ?_
        refine tE ?_
        refine tE ?_
        refine kS ?_
        exact jN () (Le.mk rfl rfl ⟨.refl _, .refl _, .refl _, .refl _, .refl _, .refl _, trivial⟩ ⟨⟨_, rfl, .refl _⟩, trivial⟩) h
      ·
       rintro ⟨⟩ h
       replace h := (congrFun hK2 _).symm.trans h
       refine AWp.seq ?_
       obtain ⟨r7, hr7, h⟩ := optc_some h
       obtain ⟨ob7, h⟩ := chk_some h
       have ob8 := idA ((f51z1 n2) = true)
       obtain ⟨ob9, h⟩ := chk_some h
       have ob10 := idA ((f51z1 n2) = true)
       have ob11 := idA ((f51z1 n2) = true)
       have ob12 := idA ((f51z1 n2) = true)
       have ob13 := idA ((f51z1 n2) = true)
       have ob14 := idA ((f51z1 n2) = true)
       have ob15 := idA ((f51z1 n2) = true)
       have ob16 : true = true → (decide ((n2 : Int) > (0 : Int))) = true → (f51z1 n2) = true := fun _ h => beq_iff_eq.2 h
       refine q2rr [] [(9, ⟨[.agg [.b16 (x1.getD ((((n2 : Int) - (1 : Int))).toNat) q2dWW).1, .b16 (x1.getD ((((n2 : Int) - (1 : Int))).toNat) q2dWW).2], .agg (f51z0 x1 n2)], [], [], [], .i r7, [], [], []⟩)] ⟨56, [(0, q2aWW x1), (14, q2aWW x1), (15, .i (lZ x1)), (16, .i (n2 : Int)), (54, .bool ((decide ((n2 : Int) > (0 : Int))) && (decide (r7 ≥ (0 : Int)))))], [], [], 0⟩ (an6 (And.intro ob7 (an1 ob8)) (And.intro ob9 (an2 ob10 ob11)) (an1 ob12) (And.intro (cpC fun hc => (f75_ok _ _ _ _ _ (hr7 hc))) (an2 ob13 ob14)) (an1 ob15) ob16) ?_
       refine tN ?_
       refine AWp.cond (b := ((decide ((n2 : Int) > (0 : Int))) && (decide (r7 ≥ (0 : Int))))) (by kernel_rfl) (fun hc7 => ?_) (fun hc7 => ?_)
       ·
        replace h := ite_tb hc7 h
        refine q2rq [] [] ⟨56, [(2, .i (1 : Int))], [], [], 0⟩ trivial ?_
        have hret := oJ h
        subst hret
        refine AWp.le (Le.mk (s' := ⟨56, [(2, .i (1 : Int))], [], [], 0⟩) rfl rfl ⟨.refl _, trivial⟩ trivial) ?_
        refine AWp.ret ?_
        refine kR ?_
        refine tR ?_
        refine tR ?_
        refine kR ?_
        refine joinQ_ret ?_
        exact bR _ rfl ⟨rfl, rfl⟩ rfl
       ·
        replace h := ite_fb hc7 h
        refine AWp.skip ?_
        refine kN ?_
        refine tN ?_
        obtain ⟨ob17p, h⟩ := chk_some h
        have ob17 : -9223372036854775808 ≤ ((n2 : Int) + (1 : Int)) ∧ ((n2 : Int) + (1 : Int)) ≤ 9223372036854775807 := ⟨by omega, ob17p⟩
        refine q2rr [] [] ⟨56, [(0, q2aWW x1), (14, q2aWW x1), (15, .i (lZ x1)), (16, .i (((n2 + 1) : Nat) : Int))], [], [], 0⟩ (an1 ob17) ?_
        rw [hC0] at h
        exact lN (_, (n2 + 1)) (Le.mk rfl rfl ⟨.refl _, .refl _, .refl _, .refl _, trivial⟩ trivial) h (Nat.lt_succ_self _)
    ·
     replace h := ite_fb hc3 h
     refine AWp.exit ?_
     refine tE ?_
     refine tE ?_
     refine kS ?_
     exact jN () (Le.mk rfl rfl trivial trivial) h
   ·
    rintro ⟨⟩ h
    replace h := (congrFun hK1 _).symm.trans h
    refine q2rq [] [] ⟨56, [(2, .i (0 : Int))], [], [], 0⟩ trivial ?_
    have hret := oJ h
    subst hret
    refine AWp.le (Le.mk (s' := ⟨56, [(2, .i (0 : Int))], [], [], 0⟩) rfl rfl ⟨.refl _, trivial⟩ trivial) ?_
    refine AWp.ret ?_
    exact bR _ rfl ⟨rfl, rfl⟩ rfl
abbrev f50z0 (x1 : List UInt8) (x2 : Int) (x3 : TB) (x4 : List (TB)) (x5 : List (TB)) (x6 : List Tq0) : Heap := [(1, .cells 33 [.str x1, .int .i64 x2, .b16 x3, vL 1 eW 0#16 x4, vL 1 eW 0#16 x5, vL 2 eWW (default : Tq0) x6])]
abbrev f50z1 (r7 : Bool) (x2 : Int) := (((!r7) == false) && ((x2 != (1 : Int)) == true))
def f50 (x1 : List UInt8) (x2 : Int) (x3 : BitVec 16) (x4 : List (BitVec 16)) (x5 : List (BitVec 16)) (x6 : List Tq0) : Option Int :=
 (f71 x1).bind fun (r7 : Bool) =>
 chk (((!r7) == false) = true → ((!r7) == false) = true → (x2 != (1 : Int)) = true → (((!r7) == false) && ((x2 != (1 : Int)) == true)) = true) <|
 if ((!r7) || ((x2 != (1 : Int)) && (x2 != (2 : Int)))) then (
 some (1 : Int)
 ) else (
 if (!((x3 >>> 12) == (BitVec.ofInt 16 0))) then (
 some (7 : Int)
 ) else (
 if (x3 == (BitVec.ofInt 16 0)) then (
 some (9 : Int)
 ) else (
 (f72 x4 x3).bind fun (r8 : Int) =>
 if (r8 != (0 : Int)) then (
 some r8
 ) else (
 (f72 x5 x3).bind fun (r9 : Int) =>
 if (r9 != (0 : Int)) then (
 some r9
 ) else (
 (f51 x6).bind fun (r10 : Int) =>
 some r10
 )
 )
 )
 )
 )
theorem f50_ok  (x1 : List UInt8) (x2 : Int) (x3 : TB) (x4 : List (TB)) (x5 : List (TB)) (x6 : List Tq0) (r : Int) (h : f50 x1 x2 x3 x4 x5 x6 = some r)  : Spec1 Tryz.prog 50 [] [] [] [.agg [.str x1, .int .i64 x2, .b16 x3, vL 1 eW 0#16 x4, vL 1 eW 0#16 x5, vL 2 eWW (default : Tq0) x6]] (.int .i64 r) [] := by
 unfold f50 at h
 refine Spec1.body 0 _ _ Tryz.func50 rfl Tryz.ntmps50 rfl rfl ?_
 refine q2rq [] [] ⟨48, [(1, .ptr 1 0)], (f50z0 x1 x2 x3 x4 x5 x6), [], 0⟩ trivial ?_
 refine AWp.seq ?_
 refine AWp.block ?_
 refine AWp.seq ?_
 obtain ⟨r7, hr7, h⟩ := bind_ok h
 have ob0 := idA (((!r7) == false) = true)
 have ob1 := idA (((!r7) == false) = true)
 have ob2 := idA (((!r7) == false) = true)
 have ob3 := idA ((f50z1 r7 x2) = true)
 have ob4 := idA ((f50z1 r7 x2) = true)
 obtain ⟨ob5, h⟩ := chk_some h
 have ob6 := idA (((!r7) == false) = true)
 have ob7 := bqA (!r7) false
 refine q2rr [] [(2, ⟨[.str x1], [], [], [], .bool r7, [], [], []⟩)] ⟨48, [(1, .ptr 1 0), (5, .bool ((!r7) || ((x2 != (1 : Int)) && (x2 != (2 : Int)))))], (f50z0 x1 x2 x3 x4 x5 x6), [], 0⟩ (ac6 (cpT (f71_ok _ _ hr7)) (an1 ob0) (an1 ob1) (an1 ob2) (an1 ob3) (an1 ob4) (an2 (And.intro ob5 (an1 ob6)) ob7)) ?_
 refine tN ?_
 refine AWp.cond (b := ((!r7) || ((x2 != (1 : Int)) && (x2 != (2 : Int))))) (by kernel_rfl) (fun hc1 => ?_) (fun hc1 => ?_)
 ·
  replace h := ite_tb hc1 h
  refine q2rq [] [] ⟨48, [(2, .i (1 : Int))], [], [], 0⟩ trivial ?_
  have hret := oJ h
  subst hret
  refine AWp.le (Le.mk (s' := ⟨48, [(2, .i (1 : Int))], [], [], 0⟩) rfl rfl ⟨.refl _, trivial⟩ trivial) ?_
  refine AWp.ret ?_
  refine kR ?_
  refine tR ?_
  exact bR _ rfl ⟨rfl, rfl⟩ rfl
 ·
  replace h := ite_fb hc1 h
  refine AWp.seq ?_
  have ob8 : 0 ≤ (12 : Int) := by first | decide | omega | simp | (intro h; cases h)
  refine q2rr [] [] ⟨48, [(1, .ptr 1 0), (20, .bool (!((x3 >>> 12) == (q2w16 0))))], (f50z0 x1 x2 x3 x4 x5 x6), [], 0⟩ (an1 ob8) ?_
  refine tN ?_
  refine AWp.cond (b := (!((x3 >>> 12) == (q2w16 0)))) (by kernel_rfl) (fun hc2 => ?_) (fun hc2 => ?_)
  ·
   replace h := ite_tb hc2 h
   refine q2rq [] [] ⟨48, [(2, .i (7 : Int))], [], [], 0⟩ trivial ?_
   have hret := oJ h
   subst hret
   refine AWp.le (Le.mk (s' := ⟨48, [(2, .i (7 : Int))], [], [], 0⟩) rfl rfl ⟨.refl _, trivial⟩ trivial) ?_
   refine AWp.ret ?_
   refine kR ?_
   refine tR ?_
   exact bR _ rfl ⟨rfl, rfl⟩ rfl
  ·
   replace h := ite_fb hc2 h
   refine q2rq [] [] ⟨48, [(1, .ptr 1 0), (25, .bool (x3 == (q2w16 0)))], (f50z0 x1 x2 x3 x4 x5 x6), [], 0⟩ trivial ?_
   refine AWp.cond (b := (x3 == (q2w16 0))) (by kernel_rfl) (fun hc3 => ?_) (fun hc3 => ?_)
   ·
    replace h := ite_tb hc3 h
    refine q2rq [] [] ⟨48, [(2, .i (9 : Int))], [], [], 0⟩ trivial ?_
    have hret := oJ h
    subst hret
    refine AWp.le (Le.mk (s' := ⟨48, [(2, .i (9 : Int))], [], [], 0⟩) rfl rfl ⟨.refl _, trivial⟩ trivial) ?_
    refine AWp.ret ?_
    refine kR ?_
    refine tR ?_
    exact bR _ rfl ⟨rfl, rfl⟩ rfl
   ·
    replace h := ite_fb hc3 h
    refine AWp.skip ?_
    refine kN ?_
    refine tN ?_
    refine AWp.seq ?_
    refine AWp.seq ?_
    obtain ⟨r8, hr8, h⟩ := bind_ok h
    refine q2rr [] [(4, ⟨[q2aW x4, .b16 x3], [], [], [], .i r8, [], [], []⟩)] ⟨48, [(1, .ptr 1 0), (3, .i r8)], (f50z0 x1 x2 x3 x4 x5 x6), [], 0⟩ (an1 (cpT (f72_ok _ _ _ hr8))) ?_
    refine tN ?_
    refine q2rq [] [] ⟨48, [(1, .ptr 1 0), (3, .i r8), (35, .bool (r8 != (0 : Int)))], (f50z0 x1 x2 x3 x4 x5 x6), [], 0⟩ trivial ?_
    refine AWp.cond (b := (r8 != (0 : Int))) (by kernel_rfl) (fun hc4 => ?_) (fun hc4 => ?_)
    ·
     replace h := ite_tb hc4 h
     refine q2rq [] [] ⟨48, [(2, .i r8)], [], [], 0⟩ trivial ?_
     have hret := oJ h
     subst hret
     refine AWp.le (Le.mk (s' := ⟨48, [(2, .i r8)], [], [], 0⟩) rfl rfl ⟨.refl _, trivial⟩ trivial) ?_
     refine AWp.ret ?_
     refine tR ?_
     exact bR _ rfl ⟨rfl, rfl⟩ rfl
    ·
     replace h := ite_fb hc4 h
     refine AWp.skip ?_
     refine tN ?_
     refine AWp.seq ?_
     refine AWp.seq ?_
     obtain ⟨r9, hr9, h⟩ := bind_ok h
     refine q2rr [] [(4, ⟨[q2aW x5, .b16 x3], [], [], [], .i r9, [], [], []⟩)] ⟨48, [(1, .ptr 1 0), (4, .i r9)], (f50z0 x1 x2 x3 x4 x5 x6), [], 0⟩ (an1 (cpT (f72_ok _ _ _ hr9))) ?_
     refine tN ?_
     refine q2rq [] [] ⟨48, [(1, .ptr 1 0), (4, .i r9), (43, .bool (r9 != (0 : Int)))], (f50z0 x1 x2 x3 x4 x5 x6), [], 0⟩ trivial ?_
     refine AWp.cond (b := (r9 != (0 : Int))) (by kernel_rfl) (fun hc5 => ?_) (fun hc5 => ?_)
     ·
      replace h := ite_tb hc5 h
      refine q2rq [] [] ⟨48, [(2, .i r9)], [], [], 0⟩ trivial ?_
      have hret := oJ h
      subst hret
      refine AWp.le (Le.mk (s' := ⟨48, [(2, .i r9)], [], [], 0⟩) rfl rfl ⟨.refl _, trivial⟩ trivial) ?_
      refine AWp.ret ?_
      refine tR ?_
      exact bR _ rfl ⟨rfl, rfl⟩ rfl
     ·
      replace h := ite_fb hc5 h
      refine AWp.skip ?_
      refine tN ?_
      refine AWp.seq ?_
      obtain ⟨r10, hr10, h⟩ := bind_ok h
      refine q2rr [] [(2, ⟨[q2aWW x6], [], [], [], .i r10, [], [], []⟩)] ⟨48, [(2, .i r10)], [], [], 0⟩ (an1 (cpT (f51_ok _ _ hr10))) ?_
      refine tN ?_
      have hret := oJ h
      subst hret
      refine AWp.le (Le.mk (s' := ⟨48, [(2, .i r10)], [], [], 0⟩) rfl rfl ⟨.refl _, trivial⟩ trivial) ?_
      refine AWp.ret ?_
      exact bR _ rfl ⟨rfl, rfl⟩ rfl
def f26 (x1 : List UInt8) (x2 : Int) (x3 : BitVec 16) (x4 : List (BitVec 16)) (x5 : List (BitVec 16)) (x6 : List Tq0) (x7 : List Tq0) : Option Int :=
 (f50 x1 x2 x3 x4 x5 x6).bind fun (r8 : Int) =>
 if (r8 != (0 : Int)) then (
 some r8
 ) else (
 (f51 x7).bind fun (r9 : Int) =>
 some r9
 )
theorem f26_ok  (x1 : List UInt8) (x2 : Int) (x3 : TB) (x4 : List (TB)) (x5 : List (TB)) (x6 : List Tq0) (x7 : List Tq0) (r : Int) (h : f26 x1 x2 x3 x4 x5 x6 x7 = some r)  : Spec1 Tryz.prog 26 [] [] [] [.agg [.str x1, .int .i64 x2, .b16 x3, vL 1 eW 0#16 x4, vL 1 eW 0#16 x5, vL 2 eWW (default : Tq0) x6], vL 2 eWW (default : Tq0) x7] (.int .i64 r) [] := by
 unfold f26 at h
 refine Spec1.body 0 _ _ Tryz.func26 rfl Tryz.ntmps26 rfl rfl ?_
 refine q2rq [] [] ⟨13, [(1, q2aWW x7), (2, .ptr 2 0)], [(2, .cells 33 [.str x1, .i x2, .b16 x3, q2aW x4, q2aW x5, q2aWW x6])], [], 0⟩ trivial ?_
 refine AWp.seq ?_
 refine AWp.seq ?_
 obtain ⟨r8, hr8, h⟩ := bind_ok h
 refine q2rr [] [(1, ⟨[.agg [.str x1, .i x2, .b16 x3, q2aW x4, q2aW x5, q2aWW x6]], [], [], [], .i r8, [], [], []⟩)] ⟨13, [(1, q2aWW x7), (5, .i r8)], [], [], 0⟩ (an1 (cpT (f50_ok _ _ _ _ _ _ _ hr8))) ?_
 refine tN ?_
 refine q2rq [] [] ⟨13, [(1, q2aWW x7), (5, .i r8), (9, .bool (r8 != (0 : Int)))], [], [], 0⟩ trivial ?_
 refine AWp.cond (b := (r8 != (0 : Int))) (by kernel_rfl) (fun hc1 => ?_) (fun hc1 => ?_)
 ·
  replace h := ite_tb hc1 h
  refine q2rq [] [] ⟨13, [(4, .i r8)], [], [], 0⟩ trivial ?_
  have hret := oJ h
  subst hret
  refine AWp.le (Le.mk (s' := ⟨13, [(4, .i r8)], [], [], 0⟩) rfl rfl ⟨.refl _, trivial⟩ trivial) ?_
  refine AWp.ret ?_
  refine tR ?_
  exact bR _ rfl ⟨rfl, rfl⟩ rfl
 ·
  replace h := ite_fb hc1 h
  refine AWp.skip ?_
  refine tN ?_
  refine AWp.seq ?_
  obtain ⟨r9, hr9, h⟩ := bind_ok h
  refine q2rr [] [(1, ⟨[q2aWW x7], [], [], [], .i r9, [], [], []⟩)] ⟨13, [(4, .i r9)], [], [], 0⟩ (an1 (cpT (f51_ok _ _ hr9))) ?_
  refine tN ?_
  have hret := oJ h
  subst hret
  refine AWp.le (Le.mk (s' := ⟨13, [(4, .i r9)], [], [], 0⟩) rfl rfl ⟨.refl _, trivial⟩ trivial) ?_
  refine AWp.ret ?_
  exact bR _ rfl ⟨rfl, rfl⟩ rfl
def f40 (x1 : BitVec 16) : Option Bool :=
 some (!((x1 &&& (BitVec.ofInt 16 61440)) == (BitVec.ofInt 16 0)))
theorem f40_ok  (x1 : TB) (r : Bool) (h : f40 x1 = some r)  : Spec1 Tryz.prog 40 [] [] [] [.b16 x1] (.bool r) [] := by
 unfold f40 at h
 refine Spec1.body 0 _ _ Tryz.func40 rfl Tryz.ntmps40 rfl rfl ?_
 refine q2rq [] [] ⟨6, [(0, .b16 x1)], [], [], 0⟩ trivial ?_
 refine q2rq [] [] ⟨6, [(2, .bool (!((x1 &&& (q2w16 61440)) == (q2w16 0))))], [], [], 0⟩ trivial ?_
 have hret := oJ h
 subst hret
 refine AWp.le (Le.mk (s' := ⟨6, [(2, .bool (!((x1 &&& (q2w16 61440)) == (q2w16 0))))], [], [], 0⟩) rfl rfl ⟨.refl _, trivial⟩ trivial) ?_
 refine AWp.ret ?_
 exact bR _ rfl ⟨rfl, rfl⟩ rfl
def f54a_L0 (x1 : List (BitVec 16)) (K1 : Unit → Option Int) : Nat → Nat → Option Int
 | 0, _ => none
 | k + 1, n2 =>
  if (decide ((n2 : Int) < (((x1).length : Nat) : Int))) then (
  (f40 (x1.getD n2 0#16)).bind fun (r3 : Bool) =>
  chk ((n2 : Int) < (((x1).length : Nat) : Int)) <|
  if r3 then (
  some (n2 : Int)
  ) else (
  chk (((n2 : Int) + (1 : Int)) ≤ 9223372036854775807) <|
  (f54a_L0 x1 K1 k) (n2 + 1)
  )
  ) else (
  K1 ()
  )
def f54a (x1 : List (BitVec 16)) : Option Int :=
 jn (fun (_ : Unit) =>
 some (-1 : Int)
 ) fun (K1 : Unit → Option Int) =>
 f54a_L0 x1 K1 FUEL 0
theorem f54a_ok  (x1 : List (TB)) (r : Int) (h : f54a x1 = some r)  : Spec1 Tryz.prog 54 [] [] [] [vL 1 eW 0#16 x1, .fn (.func 40) []] (.int .i64 r) [] := by
 unfold f54a at h
 refine Spec1.body 0 _ _ Tryz.func54 rfl Tryz.ntmps54 rfl rfl ?_
 refine q2rq [] [] ⟨19, [(0, q2aW x1), (1, .fn (.func 40) [])], [], [], 0⟩ trivial ?_
 obtain ⟨K1, hK1, h⟩ := jn_some h
 refine AWp.join (α := Unit) (fun (x : Unit) => match x with | () => ⟨19, [], [], [], 0⟩) (fun x => K1 x = some r) ?_ ?_
 ·
  refine q2rq [] [] ⟨19, [(0, q2aW x1), (1, .fn (.func 40) []), (7, .i (lZ x1)), (8, .i (0 : Int))], [], [], 0⟩ trivial ?_
  refine AWp.block ?_
  refine AWp.loopL (α := Nat × Nat) (fun x => match x with | (_, n2) => ⟨19, [(0, q2aW x1), (1, .fn (.func 40) []), (7, .i (lZ x1)), (8, .i (n2 : Int))], [], [], 0⟩) (fun x => f54a_L0 x1 K1 x.1 x.2 = some r) (fun x => x.1) (FUEL, 0) (Le.mk (s' := ⟨19, [(0, q2aW x1), (1, .fn (.func 40) []), (7, .i (lZ x1)), (8, .i (0 : Int))], [], [], 0⟩) rfl rfl ⟨.refl _, .refl _, .refl _, .refl _, trivial⟩ trivial) h ?_
  rintro ⟨k0, n2⟩ h
  cases k0 with
  | zero => exact nomatch (show (none : Option Int) = some r from h)
  | succ k0 =>
  obtain ⟨C0, hC0⟩ : ∃ C, C = f54a_L0 x1 K1 k0 := ⟨_, rfl⟩
  replace h := (f54a_L0.eq_2 ..).symm.trans h
  try rw [← hC0] at h
  refine q2rq [] [] ⟨19, [(0, q2aW x1), (1, .fn (.func 40) []), (7, .i (lZ x1)), (8, .i (n2 : Int)), (9, .bool (decide ((n2 : Int) < (lZ x1))))], [], [], 0⟩ trivial ?_
  refine AWp.seq ?_
  refine AWp.cond (b := (decide ((n2 : Int) < (lZ x1)))) (by kernel_rfl) (fun hc1 => ?_) (fun hc1 => ?_)
  ·
   replace h := ite_tb hc1 h
   refine AWp.skip ?_
   refine tN ?_
   refine AWp.seq ?_
   refine AWp.block ?_
   refine q2rq [] [] ⟨19, [(0, q2aW x1), (1, .fn (.func 40) []), (5, .i (n2 : Int)), (7, .i (lZ x1)), (8, .i (n2 : Int))], [], [], 0⟩ trivial ?_
   refine AWp.seq ?_
   obtain ⟨r3, hr3, h⟩ := bind_ok h
   obtain ⟨ob0p, h⟩ := chk_some h
   have ob0 : 0 ≤ (n2 : Int) ∧ (n2 : Int) < (((x1).length : Nat) : Int) := ⟨by omega, ob0p⟩
   refine q2rr [] [(5, ⟨[.b16 (x1.getD n2 0#16)], [], [], [], .bool r3, [], [], []⟩)] ⟨19, [(0, q2aW x1), (1, .fn (.func 40) []), (5, .i (n2 : Int)), (7, .i (lZ x1)), (8, .i (n2 : Int)), (16, .bool r3)], [], [], 0⟩ (an2 ob0 (cpT (f40_ok _ _ hr3))) ?_
   refine tN ?_
   refine AWp.cond (b := r3) (by kernel_rfl) (fun hc2 => ?_) (fun hc2 => ?_)
   ·
    replace h := ite_tb hc2 h
    refine q2rq [] [] ⟨19, [(4, .i (n2 : Int))], [], [], 0⟩ trivial ?_
    have hret := oJ h
    subst hret
    refine AWp.le (Le.mk (s' := ⟨19, [(4, .i (n2 : Int))], [], [], 0⟩) rfl rfl ⟨.refl _, trivial⟩ trivial) ?_
    refine AWp.ret ?_
    refine kR ?_
    refine tR ?_
    refine tR ?_
    refine kR ?_
    refine joinQ_ret ?_
    exact bR _ rfl ⟨rfl, rfl⟩ rfl
   ·
    replace h := ite_fb hc2 h
    refine AWp.skip ?_
    refine kN ?_
    refine tN ?_
    obtain ⟨ob1p, h⟩ := chk_some h
    have ob1 : -9223372036854775808 ≤ ((n2 : Int) + (1 : Int)) ∧ ((n2 : Int) + (1 : Int)) ≤ 9223372036854775807 := ⟨by omega, ob1p⟩
    refine q2rr [] [] ⟨19, [(0, q2aW x1), (1, .fn (.func 40) []), (7, .i (lZ x1)), (8, .i (((n2 + 1) : Nat) : Int))], [], [], 0⟩ (an1 ob1) ?_
    rw [hC0] at h
    exact lN (_, (n2 + 1)) (Le.mk rfl rfl ⟨.refl _, .refl _, .refl _, .refl _, trivial⟩ trivial) h (Nat.lt_succ_self _)
  ·
   replace h := ite_fb hc1 h
   refine AWp.exit ?_
   refine tE ?_
   refine tE ?_
   refine kS ?_
   exact jN () (Le.mk rfl rfl trivial trivial) h
 ·
  rintro ⟨⟩ h
  replace h := (congrFun hK1 _).symm.trans h
  refine q2rq [] [] ⟨19, [(4, .i (-1 : Int))], [], [], 0⟩ trivial ?_
  have hret := oJ h
  subst hret
  refine AWp.le (Le.mk (s' := ⟨19, [(4, .i (-1 : Int))], [], [], 0⟩) rfl rfl ⟨.refl _, trivial⟩ trivial) ?_
  refine AWp.ret ?_
  exact bR _ rfl ⟨rfl, rfl⟩ rfl
def f30a (x1 : List (BitVec 16)) : Option Bool :=
 (f54a x1).bind fun (r2 : Int) =>
 some (decide (r2 ≥ (0 : Int)))
theorem f30a_ok  (x1 : List (TB)) (r : Bool) (h : f30a x1 = some r)  : Spec1 Tryz.prog 30 [] [] [] [vL 1 eW 0#16 x1, .fn (.func 40) []] (.bool r) [] := by
 unfold f30a at h
 refine Spec1.body 0 _ _ Tryz.func30 rfl Tryz.ntmps30 rfl rfl ?_
 refine q2rq [] [] ⟨9, [(0, q2aW x1), (1, .fn (.func 40) [])], [], [], 0⟩ trivial ?_
 refine AWp.seq ?_
 obtain ⟨r2, hr2, h⟩ := bind_ok h
 refine q2rr [] [(2, ⟨[q2aW x1, .fn (.func 40) []], [], [], [], .i r2, [], [], []⟩)] ⟨9, [(4, .bool (decide (r2 ≥ (0 : Int))))], [], [], 0⟩ (an1 (cpT (f54a_ok _ _ hr2))) ?_
 refine tN ?_
 have hret := oJ h
 subst hret
 refine AWp.le (Le.mk (s' := ⟨9, [(4, .bool (decide (r2 ≥ (0 : Int))))], [], [], 0⟩) rfl rfl ⟨.refl _, trivial⟩ trivial) ?_
 refine AWp.ret ?_
 exact bR _ rfl ⟨rfl, rfl⟩ rfl
def f63 (x1 : List (BitVec 16)) : Option (List (BitVec 16)) :=
 abc ((x1).length = 0) (
 some []
 ) (
 chk ((0 + (x1).length) * 2 ≤ 140737488355328) <|
 some ([] ++ x1)
 )
theorem f63_ok  (x1 : List (TB)) (r : List (TB)) (h : f63 x1 = some r)  : Spec1 Tryz.prog 63 [] [] [] [vL 1 eW 0#16 x1] (.own 3000) [(3000, bL 27 1 eW 0#16 r)] := by
 unfold f63 at h
 refine Spec1.body 0 _ _ Tryz.func63 rfl Tryz.ntmps63 rfl rfl ?_
 refine q2rq [] [] ⟨8, [(0, q2aW x1)], [], [], 0⟩ trivial ?_
 refine AWp.seq ?_
 refine q2rq [] [] ⟨8, [(0, q2aW x1), (4, .abool (fun b => b = true → (x1).length = 0))], [], [], 0⟩ trivial ?_
 obtain ⟨hA1, hB1⟩ := abc_some h
 refine AWp.condAb (fun b => b = true → (x1).length = 0) (by kernel_rfl) (fun hc1 => ?_) (fun hc1 => ?_)
 ·
  have h := hA1 (hc1 rfl)
  refine q2rq [] [] ⟨8, [(2, .nils)], [], [], 0⟩ trivial ?_
  refine AWp.le (Le.trans (Le.nilOwn 2 3000 27 1 (encF eW 0#16 []) rfl rfl (Nat.le_of_ble_eq_true rfl)) (Le.mk (s' := ⟨8, [(2, .own 3000)], [(3000, q2bW_27 [])], [], 0⟩) rfl rfl ⟨.refl _, trivial⟩ ⟨⟨_, rfl, .refl _⟩, trivial⟩)) ?_
  have hret := oJ h
  subst hret
  refine AWp.le (Le.mk (s' := ⟨8, [(2, .own 3000)], [(3000, q2bW_27 [])], [], 0⟩) rfl rfl ⟨.refl _, trivial⟩ ⟨⟨_, rfl, .refl _⟩, trivial⟩) ?_
  refine AWp.ret ?_
  refine tR ?_
  exact bR _ rfl ⟨rfl, rfl⟩ rfl
 ·
  have h := hB1
  refine AWp.skip ?_
  refine tN ?_
  refine AWp.seq ?_
  obtain ⟨ob0, h⟩ := chk_some h
  refine q2rr [] [] ⟨8, [(2, .own 5)], [(5, .rows 27 1 (0 + (x1).length) (appF 0 (lstF 1 []) (encF eW 0#16 x1)))], [], 0⟩ (an1 ob0) ?_
  refine tN ?_
  refine AWp.le (Le.mk (s' := ⟨8, [(2, .own 5)], [(5, q2bW_27 ([] ++ x1))], [], 0⟩) rfl rfl ⟨.refl _, trivial⟩ ⟨⟨_, rfl, (BLe.of (RL.app (RL.lst (enc := eW) [] rfl rfl (fun _ => rfl)) (RL.self _)))⟩, trivial⟩) ?_
  refine AWp.le (Le.trans (Le.ren (swapN 5 3000) (swapN_inv 5 3000) rfl) (Le.mk (s' := ⟨8, [(2, .own 3000)], [(3000, q2bW_27 ([] ++ x1))], [], 0⟩) rfl rfl ⟨.refl _, trivial⟩ ⟨⟨_, rfl, .refl _⟩, trivial⟩)) ?_
  have hret := oJ h
  subst hret
  refine AWp.le (Le.mk (s' := ⟨8, [(2, .own 3000)], [(3000, q2bW_27 ([] ++ x1))], [], 0⟩) rfl rfl ⟨.refl _, trivial⟩ ⟨⟨_, rfl, .refl _⟩, trivial⟩) ?_
  refine AWp.ret ?_
  exact bR _ rfl ⟨rfl, rfl⟩ rfl
def f64 (x1 : List (BitVec 16)) : Option (List (BitVec 16)) := sortO key x1
theorem f64_ok (x1 r : List (TB)) (h : f64 x1 = some r) : Spec1 Tryz.prog 64 [] [2000] [(2000, bL 27 1 eW 0#16 x1)] [.own 2000, .fn (.func 43) []] (.tup []) [(2000, bL 27 1 eW 0#16 r)] := sortS x1 r h
def f65_L1 (x1 : List (BitVec 16)) (n2 : Nat) (K2 : Tq1 → Option (List (BitVec 16))) : Nat → (Nat × Nat × List (BitVec 16)) → Option (List (BitVec 16))
 | 0, _ => none
 | k + 1, (n3, n4, l5) =>
  if (decide ((n4 : Int) < ((((x1).length - n2) : Nat) : Int))) then (
  jn (fun ((n6, l7) : Tq1) =>
  chk (((n4 : Int) + (1 : Int)) ≤ 9223372036854775807) <|
  (f65_L1 x1 n2 K2 k) (n6, (n4 + 1), l7)
  ) fun (K3 : Tq1 → Option (List (TB))) =>
  chk ((n4 : Int) < ((((x1).length - n2) : Nat) : Int)) <|
  chk ((n2 + n4) < (l5).length) <|
  chk (-9223372036854775808 ≤ ((n4 : Int) - (1 : Int)) ∧ ((n4 : Int) - (1 : Int)) ≤ 9223372036854775807) <|
  chk (0 ≤ ((n4 : Int) - (1 : Int)) ∧ ((n4 : Int) - (1 : Int)) < ((((x1).length - n2) : Nat) : Int)) <|
  chk ((n2 + ((((n4 : Int) - (1 : Int))).toNat)) < (l5).length) <|
  if (!((l5.getD (n2 + n4) 0#16) == (l5.getD (n2 + ((((n4 : Int) - (1 : Int))).toNat)) 0#16))) then (
  chk ((n4 : Int) < ((((x1).length - n2) : Nat) : Int)) <|
  chk ((n2 + n4) < (l5).length) <|
  chk ((n3 : Int) < (((l5).length : Nat) : Int)) <|
  chk (n3 < (l5).length) <|
  chk (((n3 : Int) + (1 : Int)) ≤ 9223372036854775807) <|
  K3 ((n3 + 1), (l5.set n3 (l5.getD (n2 + n4) 0#16)))
  ) else (
  K3 (n3, l5)
  )
  ) else (
  K2 (n3, l5)
  )
def f65_L0 (x1 : List (BitVec 16)) (K1 : Unit → Option (List (BitVec 16))) : Nat → Nat → Option (List (BitVec 16))
 | 0, _ => none
 | k + 1, n2 =>
  if (decide ((n2 : Int) < (((x1).length : Nat) : Int))) then (
  chk ((n2 : Int) < (((x1).length : Nat) : Int)) <|
  chk (n2 < (x1).length) <|
  chk (-9223372036854775808 ≤ ((n2 : Int) - (1 : Int)) ∧ ((n2 : Int) - (1 : Int)) ≤ 9223372036854775807) <|
  chk (0 ≤ ((n2 : Int) - (1 : Int)) ∧ ((n2 : Int) - (1 : Int)) < (((x1).length : Nat) : Int)) <|
  chk (((((n2 : Int) - (1 : Int))).toNat) < (x1).length) <|
  if ((x1.getD n2 0#16) == (x1.getD ((((n2 : Int) - (1 : Int))).toNat) 0#16)) then (
  chk ((n2 : Int) ≤ (((x1).length : Nat) : Int)) <|
  jn (fun ((n8, l9) : Tq1) =>
  chk ((n8 : Int) ≤ (((l9).length : Nat) : Int)) <|
  chk (n8 + ((l9).length - n8) ≤ (l9).length ∧ 0 < ((l9).length - n8)) <|
  chk ((n8 : Int) ≤ ((((l9.take n8 ++ List.replicate ((l9).length - n8) (BitVec.ofInt 16 0))).length : Nat) : Int)) <|
  chk (n8 ≤ (l9.take n8 ++ List.replicate ((l9).length - n8) (BitVec.ofInt 16 0)).length) <|
  some ((l9.take n8 ++ List.replicate ((l9).length - n8) (BitVec.ofInt 16 0)).take n8)
  ) fun (K2 : Tq1 → Option (List (TB))) =>
  f65_L1 x1 n2 K2 FUEL (n2, 1, x1)
  ) else (
  chk (((n2 : Int) + (1 : Int)) ≤ 9223372036854775807) <|
  (f65_L0 x1 K1 k) (n2 + 1)
  )
  ) else (
  K1 ()
  )
abbrev f65z0 (x1 : List (TB)) : Heap := [(2000, bL 27 1 eW 0#16 x1)]
abbrev f65z1 (l9 : List (TB)) (n8 : Nat) : Heap := [(2000, bL 27 1 eW 0#16 (l9.take n8 ++ List.replicate ((l9).length - n8) (BitVec.ofInt 16 0)))]
def f65 (x1 : List (BitVec 16)) : Option (List (BitVec 16)) :=
 if (decide ((((x1).length : Nat) : Int) < (2 : Int))) then (
 some x1
 ) else (
 jn (fun (_ : Unit) =>
 some x1
 ) fun (K1 : Unit → Option (List (TB))) =>
 f65_L0 x1 K1 FUEL 1
 )
theorem f65_ok  (x1 : List (TB)) (r : List (TB)) (h : f65 x1 = some r)  : Spec1 Tryz.prog 65 [] [] [(2000, bL 27 1 eW 0#16 x1)] [.own 2000] (.own 2000) [(2000, bL 27 1 eW 0#16 r)] := by
 unfold f65 at h
 refine Spec1.body 0 _ _ Tryz.func65 rfl Tryz.ntmps65 rfl rfl ?_
 refine q2rq [] [] ⟨61, [(0, .own 2000)], (f65z0 x1), [], 0⟩ trivial ?_
 refine AWp.seq ?_
 refine q2rq [] [] ⟨61, [(0, .own 2000), (8, .bool (decide ((lZ x1) < (2 : Int))))], (f65z0 x1), [], 0⟩ trivial ?_
 refine AWp.cond (b := (decide ((lZ x1) < (2 : Int)))) (by kernel_rfl) (fun hc1 => ?_) (fun hc1 => ?_)
 ·
  replace h := ite_tb hc1 h
  refine q2rq [] [] ⟨61, [(2, .own 2000)], (f65z0 x1), [], 0⟩ trivial ?_
  have hret := oJ h
  subst hret
  refine AWp.le (Le.mk (s' := ⟨61, [(2, .own 2000)], (f65z0 x1), [], 0⟩) rfl rfl ⟨.refl _, trivial⟩ ⟨⟨_, rfl, .refl _⟩, trivial⟩) ?_
  refine AWp.ret ?_
  refine tR ?_
  exact bR _ rfl ⟨rfl, rfl⟩ rfl
 ·
  replace h := ite_fb hc1 h
  refine AWp.skip ?_
  refine tN ?_
  obtain ⟨K1, hK1, h⟩ := jn_some h
  refine AWp.join (α := Unit) (fun (x : Unit) => match x with | () => ⟨61, [(0, .own 2000)], (f65z0 x1), [], 0⟩) (fun x => K1 x = some r) ?_ ?_
  ·
   refine q2rq [] [] ⟨61, [(0, .own 2000), (3, .i (1 : Int))], (f65z0 x1), [], 0⟩ trivial ?_
   refine AWp.block ?_
   refine AWp.loopL (α := Nat × Nat) (fun x => match x with | (_, n2) => ⟨61, [(0, .own 2000), (3, .i (n2 : Int))], (f65z0 x1), [], 0⟩) (fun x => f65_L0 x1 K1 x.1 x.2 = some r) (fun x => x.1) (FUEL, 1) (Le.mk (s' := ⟨61, [(0, .own 2000), (3, .i (1 : Int))], (f65z0 x1), [], 0⟩) rfl rfl ⟨.refl _, .refl _, trivial⟩ ⟨⟨_, rfl, .refl _⟩, trivial⟩) h ?_
   rintro ⟨k0, n2⟩ h
   cases k0 with
   | zero => exact nomatch (show (none : Option (List (TB))) = some r from h)
   | succ k0 =>
   obtain ⟨C0, hC0⟩ : ∃ C, C = f65_L0 x1 K1 k0 := ⟨_, rfl⟩
   replace h := (f65_L0.eq_2 ..).symm.trans h
   try rw [← hC0] at h
   refine AWp.seq ?_
   refine q2rq [] [] ⟨61, [(0, .own 2000), (3, .i (n2 : Int)), (13, .bool (decide ((n2 : Int) < (lZ x1))))], (f65z0 x1), [], 0⟩ trivial ?_
   refine AWp.cond (b := (decide ((n2 : Int) < (lZ x1)))) (by kernel_rfl) (fun hc2 => ?_) (fun hc2 => ?_)
   ·
    replace h := ite_tb hc2 h
    refine AWp.skip ?_
    refine tN ?_
    refine AWp.seq ?_
    refine AWp.block ?_
    refine AWp.seq ?_
    obtain ⟨ob0p, h⟩ := chk_some h
    have ob0 : 0 ≤ (n2 : Int) ∧ (n2 : Int) < (((x1).length : Nat) : Int) := ⟨by omega, ob0p⟩
    obtain ⟨ob1, ob2, ob3, ob4, h⟩ := ck4 h
    refine q2rr [] [] ⟨61, [(0, .own 2000), (3, .i (n2 : Int)), (25, .bool ((x1.getD n2 0#16) == (x1.getD ((((n2 : Int) - (1 : Int))).toNat) 0#16)))], (f65z0 x1), [], 0⟩ (an5 ob0 ob1 ob2 ob3 ob4) ?_
    refine tN ?_
    refine AWp.cond (b := ((x1.getD n2 0#16) == (x1.getD ((((n2 : Int) - (1 : Int))).toNat) 0#16))) (by kernel_rfl) (fun hc3 => ?_) (fun hc3 => ?_)
    ·
     replace h := ite_tb hc3 h
     refine AWp.seq ?_
     obtain ⟨ob5p, h⟩ := chk_some h
     have ob5 : 0 ≤ (n2 : Int) ∧ (n2 : Int) ≤ (((x1).length : Nat) : Int) := ⟨by omega, ob5p⟩
     refine q2rr [] [] ⟨61, [(0, .own 2000), (3, .i (n2 : Int)), (4, .osl 2000 1 n2 ((x1).length - n2))], (f65z0 x1), [], 0⟩ (an1 ob5) ?_
     refine tN ?_
     obtain ⟨K2, hK2, h⟩ := jn_some h
     refine AWp.join (α := Nat × List (TB)) (fun (x : Tq1) => match x with | (n8, l9) => ⟨61, [(0, .own 2000), (3, .i (n8 : Int))], [(2000, q2bW_27 l9)], [], 0⟩) (fun x => K2 x = some r) ?_ ?_
     ·
      refine q2rq [] [] ⟨61, [(0, .own 2000), (3, .i (n2 : Int)), (4, .osl 2000 1 n2 ((x1).length - n2)), (5, .i (1 : Int))], (f65z0 x1), [], 0⟩ trivial ?_
      refine AWp.block ?_
      refine AWp.loopL (α := Nat × (Nat × Nat × List (TB))) (fun x => match x with | (_, n3, n4, l5) => ⟨61, [(0, .own 2000), (3, .i (n3 : Int)), (4, .osl 2000 1 n2 ((x1).length - n2)), (5, .i (n4 : Int))], [(2000, q2bW_27 l5)], [], 0⟩) (fun x => f65_L1 x1 n2 K2 x.1 x.2 = some r) (fun x => x.1) (FUEL, n2, 1, x1) (Le.mk (s' := ⟨61, [(0, .own 2000), (3, .i (n2 : Int)), (4, .osl 2000 1 n2 ((x1).length - n2)), (5, .i (1 : Int))], (f65z0 x1), [], 0⟩) rfl rfl ⟨.refl _, .refl _, .refl _, .refl _, trivial⟩ ⟨⟨_, rfl, .refl _⟩, trivial⟩) h ?_
      rintro ⟨k1, n3, n4, l5⟩ h
      cases k1 with
      | zero => exact nomatch (show (none : Option (List (TB))) = some r from h)
      | succ k1 =>
      obtain ⟨C1, hC1⟩ : ∃ C, C = f65_L1 x1 n2 K2 k1 := ⟨_, rfl⟩
      replace h := (f65_L1.eq_2 ..).symm.trans h
      try rw [← hC1] at h
      refine AWp.seq ?_
      refine q2rq [] [] ⟨61, [(0, .own 2000), (3, .i (n3 : Int)), (4, .osl 2000 1 n2 ((x1).length - n2)), (5, .i (n4 : Int)), (32, .bool (decide ((n4 : Int) < ((((x1).length - n2) : Nat) : Int))))], [(2000, q2bW_27 l5)], [], 0⟩ trivial ?_
      refine AWp.cond (b := (decide ((n4 : Int) < ((((x1).length - n2) : Nat) : Int)))) (by kernel_rfl) (fun hc4 => ?_) (fun hc4 => ?_)
      ·
       replace h := ite_tb hc4 h
       refine AWp.skip ?_
       refine tN ?_
       obtain ⟨K3, hK3, h⟩ := jn_some h
       refine AWp.join (α := Nat × List (TB)) (fun (x : Tq1) => match x with | (n6, l7) => ⟨61, [(0, .own 2000), (3, .i (n6 : Int)), (4, .osl 2000 1 n2 ((x1).length - n2)), (5, .i (n4 : Int))], [(2000, q2bW_27 l7)], [], 0⟩) (fun x => K3 x = some r) ?_ ?_
       ·
        refine AWp.block ?_
        refine AWp.seq ?_
        obtain ⟨ob6p, h⟩ := chk_some h
        have ob6 : 0 ≤ (n4 : Int) ∧ (n4 : Int) < ((((x1).length - n2) : Nat) : Int) := ⟨by omega, ob6p⟩
        obtain ⟨ob7, ob8, ob9, ob10, h⟩ := ck4 h
        refine q2rr [] [] ⟨61, [(0, .own 2000), (3, .i (n3 : Int)), (4, .osl 2000 1 n2 ((x1).length - n2)), (5, .i (n4 : Int)), (44, .bool (!((l5.getD (n2 + n4) 0#16) == (l5.getD (n2 + ((((n4 : Int) - (1 : Int))).toNat)) 0#16))))], [(2000, q2bW_27 l5)], [], 0⟩ (an5 ob6 ob7 ob8 ob9 ob10) ?_
        refine tN ?_
        refine AWp.cond (b := (!((l5.getD (n2 + n4) 0#16) == (l5.getD (n2 + ((((n4 : Int) - (1 : Int))).toNat)) 0#16)))) (by kernel_rfl) (fun hc5 => ?_) (fun hc5 => ?_)
        ·
         replace h := ite_tb hc5 h
         refine AWp.seq ?_
         obtain ⟨ob11p, h⟩ := chk_some h
         have ob11 : 0 ≤ (n4 : Int) ∧ (n4 : Int) < ((((x1).length - n2) : Nat) : Int) := ⟨by omega, ob11p⟩
         obtain ⟨ob12, ob13p, h⟩ := ck2 h
         have ob13 : 0 ≤ (n3 : Int) ∧ (n3 : Int) < (((l5).length : Nat) : Int) := ⟨by omega, ob13p⟩
         obtain ⟨ob14, h⟩ := chk_some h
         refine q2rr [] [] ⟨61, [(0, .own 2000), (3, .i (n3 : Int)), (4, .osl 2000 1 n2 ((x1).length - n2)), (5, .i (n4 : Int))], [(2000, .rows 27 1 (l5).length (updF (encF eW 0#16 l5) n3 0 [.b16 (l5.getD (n2 + n4) 0#16)]))], [], 0⟩ (an4 ob11 ob12 ob13 ob14) ?_
         refine tN ?_
         refine AWp.le (Le.mk (s' := ⟨61, [(0, .own 2000), (3, .i (n3 : Int)), (4, .osl 2000 1 n2 ((x1).length - n2)), (5, .i (n4 : Int))], [(2000, q2bW_27 (l5.set n3 (l5.getD (n2 + n4) 0#16)))], [], 0⟩) rfl rfl ⟨.refl _, .refl _, .refl _, .refl _, trivial⟩ ⟨⟨_, rfl, (BLe.of (RL.set (l5.getD (n2 + n4) 0#16) (RL.self _) (by intro j hj; match j, hj with | 0, _ => rfl)))⟩, trivial⟩) ?_
         obtain ⟨ob15p, h⟩ := chk_some h
         have ob15 : -9223372036854775808 ≤ ((n3 : Int) + (1 : Int)) ∧ ((n3 : Int) + (1 : Int)) ≤ 9223372036854775807 := ⟨by omega, ob15p⟩
         refine q2rr [] [] ⟨61, [(0, .own 2000), (3, .i (((n3 + 1) : Nat) : Int)), (4, .osl 2000 1 n2 ((x1).length - n2)), (5, .i (n4 : Int))], [(2000, q2bW_27 (l5.set n3 (l5.getD (n2 + n4) 0#16)))], [], 0⟩ (an1 ob15) ?_
         refine kN ?_
         exact jN ((n3 + 1), (l5.set n3 (l5.getD (n2 + n4) 0#16))) (Le.mk rfl rfl ⟨.refl _, .refl _, .refl _, .refl _, trivial⟩ ⟨⟨_, rfl, .refl _⟩, trivial⟩) h
        ·
         replace h := ite_fb hc5 h
         refine AWp.skip ?_
         refine kN ?_
         exact jN (n3, l5) (Le.mk rfl rfl ⟨.refl _, .refl _, .refl _, .refl _, trivial⟩ ⟨⟨_, rfl, .refl _⟩, trivial⟩) h
       ·
        rintro ⟨n6, l7⟩ h
        replace h := (congrFun hK3 _).symm.trans h
        obtain ⟨ob16p, h⟩ := chk_some h
        have ob16 : -9223372036854775808 ≤ ((n4 : Int) + (1 : Int)) ∧ ((n4 : Int) + (1 : Int)) ≤ 9223372036854775807 := ⟨by omega, ob16p⟩
        refine q2rr [] [] ⟨61, [(0, .own 2000), (3, .i (n6 : Int)), (4, .osl 2000 1 n2 ((x1).length - n2)), (5, .i (((n4 + 1) : Nat) : Int))], [(2000, q2bW_27 l7)], [], 0⟩ (an1 ob16) ?_
        rw [hC1] at h
        exact lN (_, n6, (n4 + 1), l7) (Le.mk rfl rfl ⟨.refl _, .refl _, .refl _, .refl _, trivial⟩ ⟨⟨_, rfl, .refl _⟩, trivial⟩) h (Nat.lt_succ_self _)
      ·
       replace h := ite_fb hc4 h
       refine AWp.exit ?_
       refine tE ?_
       refine tE ?_
       refine kS ?_
       exact jN (n3, l5) (Le.mk rfl rfl ⟨.refl _, .refl _, trivial⟩ ⟨⟨_, rfl, .refl _⟩, trivial⟩) h
     ·
      rintro ⟨n8, l9⟩ h
      replace h := (congrFun hK2 _).symm.trans h
      refine AWp.seq ?_
      obtain ⟨ob17p, h⟩ := chk_some h
      have ob17 : 0 ≤ (n8 : Int) ∧ (n8 : Int) ≤ (((l9).length : Nat) : Int) := ⟨by omega, ob17p⟩
      obtain ⟨ob18, h⟩ := chk_some h
      refine q2rr [] [] ⟨61, [(0, .own 2000), (3, .i (n8 : Int))], [(2000, .rows 27 1 (l9).length (clrF (encF eW 0#16 l9) n8 ((l9).length - n8) [.b16 (q2w16 0)]))], [], 0⟩ (an2 ob17 ob18) ?_
      refine tN ?_
      refine AWp.le (Le.mk (s' := ⟨61, [(0, .own 2000), (3, .i (n8 : Int))], (f65z1 l9 n8), [], 0⟩) rfl rfl ⟨.refl _, .refl _, trivial⟩ ⟨⟨_, rfl, (BLe.of (RL.clr (q2w16 0) (RL.self _) (by first | omega | (simp only [List.length_append, List.length_cons, List.length_nil, List.length_take, List.length_drop] at *; omega) | (simp; done) | (simp_all; done) | (simp_all; omega) | rfl) rfl))⟩, trivial⟩) ?_
      refine AWp.seq ?_
      obtain ⟨ob19p, h⟩ := chk_some h
      have ob19 : 0 ≤ (n8 : Int) ∧ (n8 : Int) ≤ ((((l9.take n8 ++ List.replicate ((l9).length - n8) (q2w16 0))).length : Nat) : Int) := ⟨by omega, ob19p⟩
      refine q2rr [] [] ⟨61, [(2, .osl 2000 1 0 n8)], (f65z1 l9 n8), [], 0⟩ (an1 ob19) ?_
      refine tN ?_
      obtain ⟨hk6, h⟩ := chk_some h
      refine AWp.le (Le.trans (Le.cutOwn 2 2000 n8 hk6 rfl rfl rfl) (Le.mk (s' := ⟨61, [(2, .own 2000)], [(2000, q2bW_27 ((l9.take n8 ++ List.replicate ((l9).length - n8) (q2w16 0)).take n8))], [], 0⟩) rfl rfl ⟨.refl _, trivial⟩ ⟨⟨_, rfl, (BLe.of (RL.take (RL.self _) hk6))⟩, trivial⟩)) ?_
      have hret := oJ h
      subst hret
      refine AWp.le (Le.mk (s' := ⟨61, [(2, .own 2000)], [(2000, q2bW_27 ((l9.take n8 ++ List.replicate ((l9).length - n8) (q2w16 0)).take n8))], [], 0⟩) rfl rfl ⟨.refl _, trivial⟩ ⟨⟨_, rfl, .refl _⟩, trivial⟩) ?_
      refine AWp.ret ?_
      refine kR ?_
      refine tR ?_
      refine tR ?_
      refine kR ?_
      refine joinQ_ret ?_
      exact bR _ rfl ⟨rfl, rfl⟩ rfl
    ·
     replace h := ite_fb hc3 h
     refine AWp.skip ?_
     refine kN ?_
     refine tN ?_
     obtain ⟨ob20p, h⟩ := chk_some h
     have ob20 : -9223372036854775808 ≤ ((n2 : Int) + (1 : Int)) ∧ ((n2 : Int) + (1 : Int)) ≤ 9223372036854775807 := ⟨by omega, ob20p⟩
     refine q2rr [] [] ⟨61, [(0, .own 2000), (3, .i (((n2 + 1) : Nat) : Int))], (f65z0 x1), [], 0⟩ (an1 ob20) ?_
     rw [hC0] at h
     exact lN (_, (n2 + 1)) (Le.mk rfl rfl ⟨.refl _, .refl _, trivial⟩ ⟨⟨_, rfl, .refl _⟩, trivial⟩) h (Nat.lt_succ_self _)
   ·
    replace h := ite_fb hc2 h
    refine AWp.exit ?_
    refine tE ?_
    refine tE ?_
    refine kS ?_
    exact jN () (Le.mk rfl rfl ⟨.refl _, trivial⟩ ⟨⟨_, rfl, .refl _⟩, trivial⟩) h
  ·
   rintro ⟨⟩ h
   replace h := (congrFun hK1 _).symm.trans h
   refine q2rq [] [] ⟨61, [(2, .own 2000)], (f65z0 x1), [], 0⟩ trivial ?_
   have hret := oJ h
   subst hret
   refine AWp.le (Le.mk (s' := ⟨61, [(2, .own 2000)], (f65z0 x1), [], 0⟩) rfl rfl ⟨.refl _, trivial⟩ ⟨⟨_, rfl, .refl _⟩, trivial⟩) ?_
   refine AWp.ret ?_
   exact bR _ rfl ⟨rfl, rfl⟩ rfl
def f42 (x1 : List (BitVec 16)) : Option (List (BitVec 16)) :=
 (f63 x1).bind fun (r2 : List (TB)) =>
 (f64 r2).bind fun (r3 : List (TB)) =>
 (f65 r3).bind fun (r4 : List (TB)) =>
 some r4
theorem f42_ok  (x1 : List (TB)) (r : List (TB)) (h : f42 x1 = some r)  : Spec1 Tryz.prog 42 [] [] [] [vL 1 eW 0#16 x1] (.own 3000) [(3000, bL 27 1 eW 0#16 r)] := by
 unfold f42 at h
 refine Spec1.body 0 _ _ Tryz.func42 rfl Tryz.ntmps42 rfl rfl ?_
 refine q2rq [] [] ⟨10, [(0, q2aW x1)], [], [], 0⟩ trivial ?_
 refine AWp.seq ?_
 obtain ⟨r2, hr2, h⟩ := bind_ok h
 refine q2rr [] [(1, ⟨[q2aW x1], [], [], [(6001, q2bW_27 r2)], .own 6001, [6001], [], []⟩)] ⟨10, [(3, .own 6001)], [(6001, q2bW_27 r2)], [], 0⟩ (an1 (cpT (Spec1.ren (swapN 3000 6001) (swapN_inv 3000 6001) rfl (f63_ok _ _ hr2)))) ?_
 refine tN ?_
 refine AWp.seq ?_
 obtain ⟨r3, hr3, h⟩ := bind_ok h
 refine q2rr [] [(1, ⟨[.own 6001, .fn (.func 43) []], [6001], [6001], [(6001, q2bW_27 r3)], .tup [], [], [], []⟩)] ⟨10, [(3, .own 6001)], [(6001, q2bW_27 r3)], [], 0⟩ (an1 (cpT (Spec1.ren (swapN 2000 6001) (swapN_inv 2000 6001) rfl (f64_ok _ _ hr3)))) ?_
 refine tN ?_
 refine AWp.seq ?_
 obtain ⟨r4, hr4, h⟩ := bind_ok h
 refine q2rr [] [(1, ⟨[.own 6001], [6001], [], [(6001, q2bW_27 r4)], .own 6001, [6001], [], []⟩)] ⟨10, [(2, .own 6001)], [(6001, q2bW_27 r4)], [], 0⟩ (an1 (cpT (Spec1.ren (swapN 2000 6001) (swapN_inv 2000 6001) rfl (f65_ok _ _ hr4)))) ?_
 refine tN ?_
 refine AWp.le (Le.trans (Le.ren (swapN 6001 3000) (swapN_inv 6001 3000) rfl) (Le.mk (s' := ⟨10, [(2, .own 3000)], [(3000, q2bW_27 r4)], [], 0⟩) rfl rfl ⟨.refl _, trivial⟩ ⟨⟨_, rfl, .refl _⟩, trivial⟩)) ?_
 have hret := oJ h
 subst hret
 refine AWp.le (Le.mk (s' := ⟨10, [(2, .own 3000)], [(3000, q2bW_27 r4)], [], 0⟩) rfl rfl ⟨.refl _, trivial⟩ ⟨⟨_, rfl, .refl _⟩, trivial⟩) ?_
 refine AWp.ret ?_
 exact bR _ rfl ⟨rfl, rfl⟩ rfl
def f90 (x1 : List (BitVec 16)) : Option (List (BitVec 16)) :=
 some x1
theorem f90_ok  (x1 : List (TB)) (r : List (TB)) (h : f90 x1 = some r)  : Spec1 Tryz.prog 90 [] [] [] [vL 1 eW 0#16 x1] (.fn (.func 106) [.ptr 3500 0]) [(3500, .cells 31 [vL 1 eW 0#16 r])] := by
 unfold f90 at h
 refine Spec1.body 0 _ _ Tryz.func90 rfl Tryz.ntmps90 rfl rfl ?_
 refine q2rq [] [] ⟨4, [(1, .ptr 1 0)], [(1, .cells 31 [q2aW x1])], [], 0⟩ trivial ?_
 refine q2rq [] [] ⟨4, [(2, .fn (.func 106) [.ptr 1 0])], [(1, .cells 31 [q2aW x1])], [], 0⟩ trivial ?_
 refine AWp.le (Le.trans (Le.ren (swapN 1 3500) (swapN_inv 1 3500) rfl) (Le.mk (s' := ⟨4, [(2, .fn (.func 106) [.ptr 3500 0])], [(3500, .cells 31 [q2aW x1])], [], 0⟩) rfl rfl ⟨.refl _, trivial⟩ ⟨⟨_, rfl, .refl _⟩, trivial⟩)) ?_
 have hret := oJ h
 subst hret
 refine AWp.le (Le.mk (s' := ⟨4, [(2, .fn (.func 106) [.ptr 3500 0])], [(3500, .cells 31 [q2aW x1])], [], 0⟩) rfl rfl ⟨.refl _, trivial⟩ ⟨⟨_, rfl, .refl _⟩, trivial⟩) ?_
 refine AWp.ret ?_
 exact bR _ rfl ⟨rfl, rfl⟩ rfl
def f91 (x1 : BitVec 16) (x2 : BitVec 16) : Option (Bool × BitVec 16) :=
 (f48 x1 x2).bind fun (r3 : Bool) =>
 some (r3, x2)
theorem f91_ok  (x1 : TB) (x2 : TB) (r : Bool × TB) (h : f91 x1 x2 = some r)  : Spec1 Tryz.prog 91 [] [2000] [(2000, .cells 27 [.b16 x2])] [.b16 x1, .ptr 2000 0] (.bool r.1) [(2000, .cells 27 [.b16 r.2])] := by
 unfold f91 at h
 refine Spec1.body 0 _ _ Tryz.func91 rfl Tryz.ntmps91 rfl rfl ?_
 refine q2rq [] [] ⟨7, [(0, .b16 x1), (1, .ptr 2000 0)], [(2000, .cells 27 [.b16 x2])], [2000], 0⟩ trivial ?_
 refine AWp.seq ?_
 obtain ⟨r3, hr3, h⟩ := bind_ok h
 refine q2rr [] [(2, ⟨[.b16 x1, .b16 x2], [], [], [], .bool r3, [], [], []⟩)] ⟨7, [(3, .bool r3)], [(2000, .cells 27 [.b16 x2])], [2000], 0⟩ (an1 (cpT (f48_ok _ _ _ hr3))) ?_
 refine tN ?_
 have hret := oJ h
 subst hret
 refine AWp.le (Le.mk (s' := ⟨7, [(3, .bool r3)], [(2000, .cells 27 [.b16 x2])], [2000], 0⟩) rfl rfl ⟨.refl _, trivial⟩ ⟨⟨_, rfl, .refl _⟩, trivial⟩) ?_
 refine AWp.ret ?_
 exact bR _ rfl ⟨rfl, rfl⟩ rfl
def f54b_L0 (x1 : List (BitVec 16)) (K1 : (BitVec 16) → Option (Int × BitVec 16)) : Nat → (Nat × BitVec 16) → Option (Int × BitVec 16)
 | 0, _ => none
 | k + 1, (n3, w4) =>
  if (decide ((n3 : Int) < (((x1).length : Nat) : Int))) then (
  (f91 (x1.getD n3 0#16) w4).bind fun (r5 : Bool × TB) =>
  chk ((n3 : Int) < (((x1).length : Nat) : Int)) <|
  if r5.1 then (
  some ((n3 : Int), r5.2)
  ) else (
  chk (((n3 : Int) + (1 : Int)) ≤ 9223372036854775807) <|
  (f54b_L0 x1 K1 k) ((n3 + 1), r5.2)
  )
  ) else (
  K1 w4
  )
def f54b (x1 : List (BitVec 16)) (x2 : BitVec 16) : Option (Int × BitVec 16) :=
 jn (fun (w6 : BitVec 16) =>
 some ((-1 : Int), w6)
 ) fun (K1 : (TB) → Option (Int × TB)) =>
 f54b_L0 x1 K1 FUEL (0, x2)
theorem f54b_ok  (x1 : List (TB)) (x2 : TB) (r : Int × TB) (h : f54b x1 x2 = some r)  : Spec1 Tryz.prog 54 [] [2000] [(2000, .cells 27 [.b16 x2])] [vL 1 eW 0#16 x1, .fn (.func 91) [.ptr 2000 0]] (.int .i64 r.1) [(2000, .cells 27 [.b16 r.2])] := by
 unfold f54b at h
 refine Spec1.body 0 _ _ Tryz.func54 rfl Tryz.ntmps54 rfl rfl ?_
 refine q2rq [] [] ⟨19, [(0, q2aW x1), (1, .fn (.func 91) [.ptr 2000 0])], [(2000, .cells 27 [.b16 x2])], [2000], 0⟩ trivial ?_
 obtain ⟨K1, hK1, h⟩ := jn_some h
 refine AWp.join (α := TB) (fun (w6 : TB) => ⟨19, [], [(2000, .cells 27 [.b16 w6])], [2000], 0⟩) (fun x => K1 x = some r) ?_ ?_
 ·
  refine q2rq [] [] ⟨19, [(0, q2aW x1), (1, .fn (.func 91) [.ptr 2000 0]), (7, .i (lZ x1)), (8, .i (0 : Int))], [(2000, .cells 27 [.b16 x2])], [2000], 0⟩ trivial ?_
  refine AWp.block ?_
  refine AWp.loopL (α := Nat × (Nat × TB)) (fun x => match x with | (_, n3, w4) => ⟨19, [(0, q2aW x1), (1, .fn (.func 91) [.ptr 2000 0]), (7, .i (lZ x1)), (8, .i (n3 : Int))], [(2000, .cells 27 [.b16 w4])], [2000], 0⟩) (fun x => f54b_L0 x1 K1 x.1 x.2 = some r) (fun x => x.1) (FUEL, 0, x2) (Le.mk (s' := ⟨19, [(0, q2aW x1), (1, .fn (.func 91) [.ptr 2000 0]), (7, .i (lZ x1)), (8, .i (0 : Int))], [(2000, .cells 27 [.b16 x2])], [2000], 0⟩) rfl rfl ⟨.refl _, .refl _, .refl _, .refl _, trivial⟩ ⟨⟨_, rfl, .refl _⟩, trivial⟩) h ?_
  rintro ⟨k0, n3, w4⟩ h
  cases k0 with
  | zero => exact nomatch (show (none : Option (Int × TB)) = some r from h)
  | succ k0 =>
  obtain ⟨C0, hC0⟩ : ∃ C, C = f54b_L0 x1 K1 k0 := ⟨_, rfl⟩
  replace h := (f54b_L0.eq_2 ..).symm.trans h
  try rw [← hC0] at h
  refine q2rq [] [] ⟨19, [(0, q2aW x1), (1, .fn (.func 91) [.ptr 2000 0]), (7, .i (lZ x1)), (8, .i (n3 : Int)), (9, .bool (decide ((n3 : Int) < (lZ x1))))], [(2000, .cells 27 [.b16 w4])], [2000], 0⟩ trivial ?_
  refine AWp.seq ?_
  refine AWp.cond (b := (decide ((n3 : Int) < (lZ x1)))) (by kernel_rfl) (fun hc1 => ?_) (fun hc1 => ?_)
  ·
   replace h := ite_tb hc1 h
   refine AWp.skip ?_
   refine tN ?_
   refine AWp.seq ?_
   refine AWp.block ?_
   refine q2rq [] [] ⟨19, [(0, q2aW x1), (1, .fn (.func 91) [.ptr 2000 0]), (5, .i (n3 : Int)), (7, .i (lZ x1)), (8, .i (n3 : Int))], [(2000, .cells 27 [.b16 w4])], [2000], 0⟩ trivial ?_
   refine AWp.seq ?_
   obtain ⟨r5, hr5, h⟩ := bind_ok h
   obtain ⟨ob0p, h⟩ := chk_some h
   have ob0 : 0 ≤ (n3 : Int) ∧ (n3 : Int) < (((x1).length : Nat) : Int) := ⟨by omega, ob0p⟩
   refine q2rr [] [(5, ⟨[.b16 (x1.getD n3 0#16), .ptr 2000 0], [2000], [2000], [(2000, .cells 27 [.b16 r5.2])], .bool r5.1, [], [], []⟩)] ⟨19, [(0, q2aW x1), (1, .fn (.func 91) [.ptr 2000 0]), (5, .i (n3 : Int)), (7, .i (lZ x1)), (8, .i (n3 : Int)), (16, .bool r5.1)], [(2000, .cells 27 [.b16 r5.2])], [2000], 0⟩ (an2 ob0 (cpT (f91_ok _ _ _ hr5))) ?_
   refine tN ?_
   refine AWp.cond (b := r5.1) (by kernel_rfl) (fun hc2 => ?_) (fun hc2 => ?_)
   ·
    replace h := ite_tb hc2 h
    refine q2rq [] [] ⟨19, [(4, .i (n3 : Int))], [(2000, .cells 27 [.b16 r5.2])], [2000], 0⟩ trivial ?_
    have hret := oJ h
    subst hret
    refine AWp.le (Le.mk (s' := ⟨19, [(4, .i (n3 : Int))], [(2000, .cells 27 [.b16 r5.2])], [2000], 0⟩) rfl rfl ⟨.refl _, trivial⟩ ⟨⟨_, rfl, .refl _⟩, trivial⟩) ?_
    refine AWp.ret ?_
    refine kR ?_
    refine tR ?_
    refine tR ?_
    refine kR ?_
    refine joinQ_ret ?_
    exact bR _ rfl ⟨rfl, rfl⟩ rfl
   ·
    replace h := ite_fb hc2 h
    refine AWp.skip ?_
    refine kN ?_
    refine tN ?_
    obtain ⟨ob1p, h⟩ := chk_some h
    have ob1 : -9223372036854775808 ≤ ((n3 : Int) + (1 : Int)) ∧ ((n3 : Int) + (1 : Int)) ≤ 9223372036854775807 := ⟨by omega, ob1p⟩
    refine q2rr [] [] ⟨19, [(0, q2aW x1), (1, .fn (.func 91) [.ptr 2000 0]), (7, .i (lZ x1)), (8, .i (((n3 + 1) : Nat) : Int))], [(2000, .cells 27 [.b16 r5.2])], [2000], 0⟩ (an1 ob1) ?_
    rw [hC0] at h
    exact lN (_, (n3 + 1), r5.2) (Le.mk rfl rfl ⟨.refl _, .refl _, .refl _, .refl _, trivial⟩ ⟨⟨_, rfl, .refl _⟩, trivial⟩) h (Nat.lt_succ_self _)
  ·
   replace h := ite_fb hc1 h
   refine AWp.exit ?_
   refine tE ?_
   refine tE ?_
   refine kS ?_
   exact jN (w4) (Le.mk rfl rfl trivial ⟨⟨_, rfl, .refl _⟩, trivial⟩) h
 ·
  rintro w6 h
  replace h := (congrFun hK1 _).symm.trans h
  refine q2rq [] [] ⟨19, [(4, .i (-1 : Int))], [(2000, .cells 27 [.b16 w6])], [2000], 0⟩ trivial ?_
  have hret := oJ h
  subst hret
  refine AWp.le (Le.mk (s' := ⟨19, [(4, .i (-1 : Int))], [(2000, .cells 27 [.b16 w6])], [2000], 0⟩) rfl rfl ⟨.refl _, trivial⟩ ⟨⟨_, rfl, .refl _⟩, trivial⟩) ?_
  refine AWp.ret ?_
  exact bR _ rfl ⟨rfl, rfl⟩ rfl
def f30b (x1 : List (BitVec 16)) (x2 : BitVec 16) : Option (Bool × BitVec 16) :=
 (f54b x1 x2).bind fun (r3 : Int × TB) =>
 some ((decide (r3.1 ≥ (0 : Int))), r3.2)
theorem f30b_ok  (x1 : List (TB)) (x2 : TB) (r : Bool × TB) (h : f30b x1 x2 = some r)  : Spec1 Tryz.prog 30 [] [2000] [(2000, .cells 27 [.b16 x2])] [vL 1 eW 0#16 x1, .fn (.func 91) [.ptr 2000 0]] (.bool r.1) [(2000, .cells 27 [.b16 r.2])] := by
 unfold f30b at h
 refine Spec1.body 0 _ _ Tryz.func30 rfl Tryz.ntmps30 rfl rfl ?_
 refine q2rq [] [] ⟨9, [(0, q2aW x1), (1, .fn (.func 91) [.ptr 2000 0])], [(2000, .cells 27 [.b16 x2])], [2000], 0⟩ trivial ?_
 refine AWp.seq ?_
 obtain ⟨r3, hr3, h⟩ := bind_ok h
 refine q2rr [] [(2, ⟨[q2aW x1, .fn (.func 91) [.ptr 2000 0]], [2000], [2000], [(2000, .cells 27 [.b16 r3.2])], .i r3.1, [], [], []⟩)] ⟨9, [(4, .bool (decide (r3.1 ≥ (0 : Int))))], [(2000, .cells 27 [.b16 r3.2])], [2000], 0⟩ (an1 (cpT (f54b_ok _ _ _ hr3))) ?_
 refine tN ?_
 have hret := oJ h
 subst hret
 refine AWp.le (Le.mk (s' := ⟨9, [(4, .bool (decide (r3.1 ≥ (0 : Int))))], [(2000, .cells 27 [.b16 r3.2])], [2000], 0⟩) rfl rfl ⟨.refl _, trivial⟩ ⟨⟨_, rfl, .refl _⟩, trivial⟩) ?_
 refine AWp.ret ?_
 exact bR _ rfl ⟨rfl, rfl⟩ rfl
def f106_L0 (Y70003 : (List (BitVec 16) × List (BitVec 16)) → (Int × BitVec 16) → Option (Nat × (List (BitVec 16) × List (BitVec 16)))) : Nat → (Int × List (BitVec 16) × List (BitVec 16) × Nat) → Option (Nat × List (BitVec 16) × List (BitVec 16))
 | 0, _ => none
 | k + 1, (i3, l4, l5, n6) =>
  if (decide (i3 ≥ (0 : Int))) then (
  jn (fun ((l8, l9, n10) : List (BitVec 16) × List (BitVec 16) × Nat) =>
  chk (-9223372036854775808 ≤ (i3 - (1 : Int)) ∧ (i3 - (1 : Int)) ≤ 9223372036854775807) <|
  (f106_L0 Y70003 k) ((i3 - (1 : Int)), l8, l9, n10)
  ) fun (K1 : (List (TB) × List (TB) × Nat) → Option (Nat × List (TB) × List (TB))) =>
  chk (n6 = 0) <|
  (Y70003 (l5, l4) (i3, (l4.getD ((i3).toNat) 0#16))).bind fun (r7 : Nat × (List (TB) × List (TB))) =>
  if r7.1 = 0 then (
  chk (0 ≤ i3 ∧ i3 < (((l4).length : Nat) : Int)) <|
  if (!true) then (
  some (0, r7.2.1, r7.2.2)
  ) else (
  K1 (r7.2.2, r7.2.1, 0)
  )
  ) else (
  chk (0 ≤ i3 ∧ i3 < (((l4).length : Nat) : Int)) <|
  if (!false) then (
  some (r7.1, r7.2.1, r7.2.2)
  ) else (
  K1 (r7.2.2, r7.2.1, r7.1)
  )
  )
  ) else (
  some (n6, l5, l4)
  )
abbrev f106z0 (r7 : Nat × (List (TB) × List (TB))) : Heap := [(3, .cells 31 [.own 5800]), (5800, bL 27 1 eW 0#16 r7.2.1), (6002, .cells 31 [vL 1 eW 0#16 r7.2.2])]
abbrev f106z1 (i3 : Int) (l4 : List (TB)) : List V := [.int .i64 i3, .b16 (l4.getD ((i3).toNat) 0#16)]
abbrev f106z2 (C70003 : YC) (r7 : Nat × (List (TB) × List (TB))) : Heap := [(70003, .yld (some ([3], C70003)) r7.1), (3, .cells 31 [.own 5800]), (5800, bL 27 1 eW 0#16 r7.2.1), (6002, .cells 31 [vL 1 eW 0#16 r7.2.2])]
abbrev f106z3 (C70003 : YC) (r7 : Nat × (List (TB) × List (TB))) : Heap := [(70003, .yld (some ([3], C70003)) 0), (3, .cells 31 [.own 5800]), (5800, bL 27 1 eW 0#16 r7.2.1), (6002, .cells 31 [vL 1 eW 0#16 r7.2.2])]
abbrev f106z4 (l9 : List (TB)) (l8 : List (TB)) (C70003 : YC) (n10 : Nat) : Heap := [(3, .cells 31 [.own 5800]), (5800, bL 27 1 eW 0#16 l9), (6002, .cells 31 [vL 1 eW 0#16 l8]), (70003, .yld (some ([3], C70003)) n10)]
abbrev f106z5 (i3 : Int) : List (Nat × V) := [(0, .own 70003), (1, .ptr 6002 0), (3, .int .i64 i3)]
def f106 (Y70003 : (List (BitVec 16) × List (BitVec 16)) → (Int × BitVec 16) → Option (Nat × (List (BitVec 16) × List (BitVec 16)))) (x1 : List (BitVec 16)) (x2 : List (BitVec 16)) : Option (Nat × List (BitVec 16) × List (BitVec 16)) :=
 chk (-9223372036854775808 ≤ ((((x2).length : Nat) : Int) - (1 : Int)) ∧ ((((x2).length : Nat) : Int) - (1 : Int)) ≤ 9223372036854775807) <|
 f106_L0 Y70003 FUEL (((((x2).length : Nat) : Int) - (1 : Int)), x2, x1, 0)
theorem f106_ok (C70003 : YC) (Y70003 : (List (TB) × List (TB)) → (Int × TB) → Option (Nat × (List (TB) × List (TB)))) (x1 : List (TB)) (x2 : List (TB)) (r : Nat × List (TB) × List (TB)) (h : f106 Y70003 x1 x2 = some r) (hY70003 : ∀ s x r, Y70003 s x = some r → YSpec Tryz.prog 70003 [3] C70003 [3, 6002] [(3, .cells 31 [.own 5800]), (5800, bL 27 1 eW 0#16 s.1), (6002, .cells 31 [vL 1 eW 0#16 s.2])] [.int .i64 x.1, .b16 x.2] r.1 [(3, .cells 31 [.own 5800]), (5800, bL 27 1 eW 0#16 r.2.1), (6002, .cells 31 [vL 1 eW 0#16 r.2.2])]) : Spec1 Tryz.prog 106 [] [70003, 3, 6002] [(70003, .yld (some ([3], C70003)) 0), (3, .cells 31 [.own 5800]), (5800, bL 27 1 eW 0#16 x1), (6002, .cells 31 [vL 1 eW 0#16 x2])] [.own 70003, .ptr 6002 0] (.tup []) [(70003, .yld (some ([3], C70003)) r.1), (3, .cells 31 [.own 5800]), (5800, bL 27 1 eW 0#16 r.2.1), (6002, .cells 31 [vL 1 eW 0#16 r.2.2])] := by
 unfold f106 at h
 refine Spec1.body 10000 _ _ Tryz.func106 rfl Tryz.ntmps106 rfl rfl ?_
 refine AWp.seq ?_
 obtain ⟨ob0, h⟩ := chk_some h
 refine q2rr [] [] ⟨19, [(0, .own 70003), (1, .ptr 6002 0), (3, .i ((lZ x2) - (1 : Int)))], [(3, .cells 31 [.own 5800]), (5800, q2bW_27 x1), (6002, .cells 31 [q2aW x2]), (70003, .yld (some ([3], C70003)) 0)], [70003, 3, 6002], 10000⟩ (an1 ob0) ?_
 refine tN ?_
 refine AWp.block ?_
 refine AWp.loopL (α := Nat × (Int × List (TB) × List (TB) × Nat)) (fun x => match x with | (_, i3, l4, l5, n6) => ⟨19, (f106z5 i3), [(3, .cells 31 [.own 5800]), (5800, q2bW_27 l5), (6002, .cells 31 [q2aW l4]), (70003, .yld (some ([3], C70003)) n6)], [70003, 3, 6002], 10000⟩) (fun x => f106_L0 Y70003 x.1 x.2 = some r) (fun x => x.1) (FUEL, ((lZ x2) - (1 : Int)), x2, x1, 0) (Le.mk (s' := ⟨19, [(0, .own 70003), (1, .ptr 6002 0), (3, .i ((lZ x2) - (1 : Int)))], [(3, .cells 31 [.own 5800]), (5800, q2bW_27 x1), (6002, .cells 31 [q2aW x2]), (70003, .yld (some ([3], C70003)) 0)], [70003, 3, 6002], 10000⟩) rfl rfl ⟨.refl _, .refl _, .refl _, trivial⟩ ⟨⟨_, rfl, .refl _⟩, ⟨_, rfl, .refl _⟩, ⟨_, rfl, .refl _⟩, ⟨_, rfl, .refl _⟩, trivial⟩) h ?_
 rintro ⟨k0, i3, l4, l5, n6⟩ h
 cases k0 with
 | zero => exact nomatch (show (none : Option (Nat × List (TB) × List (TB))) = some r from h)
 | succ k0 =>
 obtain ⟨C0, hC0⟩ : ∃ C, C = f106_L0 Y70003 k0 := ⟨_, rfl⟩
 replace h := (f106_L0.eq_2 ..).symm.trans h
 try rw [← hC0] at h
 refine AWp.seq ?_
 refine q2rq [] [] ⟨19, [(0, .own 70003), (1, .ptr 6002 0), (3, .i i3), (8, .bool (decide (i3 ≥ (0 : Int))))], [(3, .cells 31 [.own 5800]), (5800, q2bW_27 l5), (6002, .cells 31 [q2aW l4]), (70003, .yld (some ([3], C70003)) n6)], [70003, 3, 6002], 10000⟩ trivial ?_
 refine AWp.cond (b := (decide (i3 ≥ (0 : Int)))) (by kernel_rfl) (fun hc1 => ?_) (fun hc1 => ?_)
 ·
  replace h := ite_tb hc1 h
  refine AWp.skip ?_
  refine tN ?_
  obtain ⟨K1, hK1, h⟩ := jn_some h
  refine AWp.join (α := List (TB) × List (TB) × Nat) (fun (x : List (TB) × List (TB) × Nat) => match x with | (l8, l9, n10) => ⟨19, (f106z5 i3), (f106z4 l9 l8 C70003 n10), [70003, 3, 6002], 10000⟩) (fun x => K1 x = some r) ?_ ?_
  ·
   refine AWp.block ?_
   refine AWp.seq ?_
   obtain ⟨hz2, h⟩ := chk_some h
   refine AWp.le (Le.mk (s' := ⟨19, [(0, .own 70003), (1, .ptr 6002 0), (3, .i i3), (8, .bool (decide (i3 ≥ (0 : Int))))], [(3, .cells 31 [.own 5800]), (5800, q2bW_27 l5), (6002, .cells 31 [q2aW l4]), (70003, .yld (some ([3], C70003)) 0)], [70003, 3, 6002], 10000⟩) rfl rfl ⟨.refl _, .refl _, .refl _, .refl _, trivial⟩ ⟨⟨_, rfl, .refl _⟩, ⟨_, rfl, .refl _⟩, ⟨_, rfl, .refl _⟩, ⟨_, rfl, BLe.yldEq hz2⟩, trivial⟩) ?_
   obtain ⟨r7, hr7, h⟩ := bind_ok h
   by_cases hy_r7 : r7.1 = 0
   ·
    replace h := ite_t hy_r7 h
    obtain ⟨ob1, h⟩ := chk_some h
    refine q2rr [] [(6, ⟨(f106z1 i3 l4), [70003, 3, 5800, 6002], [3, 6002], (f106z3 C70003 r7), .bool true, [5800], [], []⟩)] ⟨19, [(0, .own 70003), (1, .ptr 6002 0), (3, .i i3), (18, .bool (!true))], [(3, .cells 31 [.own 5800]), (5800, q2bW_27 r7.2.1), (6002, .cells 31 [q2aW r7.2.2]), (70003, .yld (some ([3], C70003)) 0)], [70003, 3, 6002], 10000⟩ (an2 ob1 (show (((f106z3 C70003 r7) : Heap) = (70003, .yld (some ([3], C70003)) 0) :: (f106z0 r7) ∧ V.bool true = V.bool (0 == 0) ∧ YSpec Tryz.prog 70003 [3] C70003 [3, 6002] [(3, .cells 31 [.own 5800]), (5800, q2bW_27 l5), (6002, .cells 31 [q2aW l4])] (f106z1 i3 l4) 0 (f106z0 r7) ∧ VLes (f106z1 i3 l4) (f106z1 i3 l4)) from ⟨rfl, rfl, (YSpec.zero (hY70003 _ _ r7 hr7) hy_r7), ⟨.refl _, .refl _, trivial⟩⟩)) ?_
    refine tN ?_
    refine AWp.cond (b := (!true)) (by kernel_rfl) (fun hc4 => ?_) (fun hc4 => ?_)
    ·
     replace h := ite_tb hc4 h
     have hret := oJ h
     subst hret
     refine AWp.le (Le.mk (s' := ⟨19, [], (f106z3 C70003 r7), [70003, 3, 6002], 10000⟩) rfl rfl trivial ⟨⟨_, rfl, .refl _⟩, ⟨_, rfl, .refl _⟩, ⟨_, rfl, .refl _⟩, ⟨_, rfl, .refl _⟩, trivial⟩) ?_
     refine AWp.ret ?_
     refine kR ?_
     refine joinQ_ret ?_
     refine tR ?_
     refine kR ?_
     exact bR _ rfl ⟨rfl, rfl⟩ rfl
    ·
     replace h := ite_fb hc4 h
     refine AWp.skip ?_
     refine kN ?_
     exact jN (r7.2.2, r7.2.1, 0) (Le.mk rfl rfl ⟨.refl _, .refl _, .refl _, trivial⟩ ⟨⟨_, rfl, .refl _⟩, ⟨_, rfl, .refl _⟩, ⟨_, rfl, .refl _⟩, ⟨_, rfl, .refl _⟩, trivial⟩) h
   ·
    replace h := ite_f hy_r7 h
    obtain ⟨ob1, h⟩ := chk_some h
    refine q2rr [] [(6, ⟨(f106z1 i3 l4), [70003, 3, 5800, 6002], [3, 6002], (f106z2 C70003 r7), .bool false, [5800], [], []⟩)] ⟨19, [(0, .own 70003), (1, .ptr 6002 0), (3, .i i3), (18, .bool (!false))], [(3, .cells 31 [.own 5800]), (5800, q2bW_27 r7.2.1), (6002, .cells 31 [q2aW r7.2.2]), (70003, .yld (some ([3], C70003)) r7.1)], [70003, 3, 6002], 10000⟩ (an2 ob1 (show (((f106z2 C70003 r7) : Heap) = (70003, .yld (some ([3], C70003)) r7.1) :: (f106z0 r7) ∧ V.bool false = V.bool (r7.1 == 0) ∧ YSpec Tryz.prog 70003 [3] C70003 [3, 6002] [(3, .cells 31 [.own 5800]), (5800, q2bW_27 l5), (6002, .cells 31 [q2aW l4])] (f106z1 i3 l4) r7.1 (f106z0 r7) ∧ VLes (f106z1 i3 l4) (f106z1 i3 l4)) from ⟨rfl, bool_ne hy_r7, (hY70003 _ _ r7 hr7), ⟨.refl _, .refl _, trivial⟩⟩)) ?_
    refine tN ?_
    refine AWp.cond (b := (!false)) (by kernel_rfl) (fun hc5 => ?_) (fun hc5 => ?_)
    ·
     replace h := ite_tb hc5 h
     have hret := oJ h
     subst hret
     refine AWp.le (Le.mk (s' := ⟨19, [], (f106z2 C70003 r7), [70003, 3, 6002], 10000⟩) rfl rfl trivial ⟨⟨_, rfl, .refl _⟩, ⟨_, rfl, .refl _⟩, ⟨_, rfl, .refl _⟩, ⟨_, rfl, .refl _⟩, trivial⟩) ?_
     refine AWp.ret ?_
     refine kR ?_
     refine joinQ_ret ?_
     refine tR ?_
     refine kR ?_
     exact bR _ rfl ⟨rfl, rfl⟩ rfl
    ·
     replace h := ite_fb hc5 h
     refine AWp.skip ?_
     refine kN ?_
     exact jN (r7.2.2, r7.2.1, r7.1) (Le.mk rfl rfl ⟨.refl _, .refl _, .refl _, trivial⟩ ⟨⟨_, rfl, .refl _⟩, ⟨_, rfl, .refl _⟩, ⟨_, rfl, .refl _⟩, ⟨_, rfl, .refl _⟩, trivial⟩) h
  ·
   rintro ⟨l8, l9, n10⟩ h
   replace h := (congrFun hK1 _).symm.trans h
   obtain ⟨ob2, h⟩ := chk_some h
   refine q2rr [] [] ⟨19, [(0, .own 70003), (1, .ptr 6002 0), (3, .i (i3 - (1 : Int)))], (f106z4 l9 l8 C70003 n10), [70003, 3, 6002], 10000⟩ (an1 ob2) ?_
   rw [hC0] at h
   exact lN (_, (i3 - (1 : Int)), l8, l9, n10) (Le.mk rfl rfl ⟨.refl _, .refl _, .refl _, trivial⟩ ⟨⟨_, rfl, .refl _⟩, ⟨_, rfl, .refl _⟩, ⟨_, rfl, .refl _⟩, ⟨_, rfl, .refl _⟩, trivial⟩) h (Nat.lt_succ_self _)
 ·
  replace h := ite_fb hc1 h
  refine AWp.exit ?_
  refine tE ?_
  refine tE ?_
  refine kS ?_
  have hret := oJ h
  subst hret
  exact bodyQ_le (Le.mk (s' := ⟨19, [], [(70003, .yld (some ([3], C70003)) n6), (3, .cells 31 [.own 5800]), (5800, q2bW_27 l5), (6002, .cells 31 [q2aW l4])], [70003, 3, 6002], 10000⟩) rfl rfl trivial ⟨⟨_, rfl, .refl _⟩, ⟨_, rfl, .refl _⟩, ⟨_, rfl, .refl _⟩, ⟨_, rfl, .refl _⟩, trivial⟩) (bodyQ_normal _ rfl ⟨rfl, rfl⟩ rfl)
def f92_L0 : Nat → (Nat × Int × List (BitVec 16)) → Option (List (BitVec 16))
 | 0, _ => none
 | k + 1, (n2, i3, l4) =>
  if (decide ((n2 : Int) < i3)) then (
  chk (0 ≤ i3 ∧ i3 < (((l4).length : Nat) : Int)) <|
  chk (((i3).toNat) < (l4).length) <|
  chk ((n2 : Int) < (((l4).length : Nat) : Int)) <|
  chk (n2 < (l4).length) <|
  chk ((n2 : Int) < (((l4).length : Nat) : Int)) <|
  chk (n2 < (l4).length) <|
  chk (0 ≤ i3 ∧ i3 < (((l4).length : Nat) : Int)) <|
  chk (((i3).toNat) < (l4).length) <|
  chk (((n2 : Int) + (1 : Int)) ≤ 9223372036854775807) <|
  chk (-9223372036854775808 ≤ (i3 - (1 : Int)) ∧ (i3 - (1 : Int)) ≤ 9223372036854775807) <|
  (f92_L0 k) ((n2 + 1), (i3 - (1 : Int)), ((l4.set n2 (l4.getD ((i3).toNat) 0#16)).set ((i3).toNat) (l4.getD n2 0#16)))
  ) else (
  some l4
  )
abbrev f92z0 (l4 : List (TB)) (n2 : Nat) (i3 : Int) : Heap := [(2000, bL 27 1 eW 0#16 ((l4.set n2 (l4.getD ((i3).toNat) 0#16)).set ((i3).toNat) (l4.getD n2 0#16)))]
abbrev f92z1 (n2 : Nat) (i3 : Int) : List (Nat × V) := [(0, .own 2000), (2, .int .i64 (n2 : Int)), (3, .int .i64 i3)]
def f92 (x1 : List (BitVec 16)) : Option (List (BitVec 16)) :=
 chk (-9223372036854775808 ≤ ((((x1).length : Nat) : Int) - (1 : Int)) ∧ ((((x1).length : Nat) : Int) - (1 : Int)) ≤ 9223372036854775807) <|
 f92_L0 FUEL (0, ((((x1).length : Nat) : Int) - (1 : Int)), x1)
theorem f92_ok  (x1 : List (TB)) (r : List (TB)) (h : f92 x1 = some r)  : Spec1 Tryz.prog 92 [] [2000] [(2000, bL 27 1 eW 0#16 x1)] [.own 2000] (.tup []) [(2000, bL 27 1 eW 0#16 r)] := by
 unfold f92 at h
 refine Spec1.body 0 _ _ Tryz.func92 rfl Tryz.ntmps92 rfl rfl ?_
 refine AWp.seq ?_
 obtain ⟨ob0, h⟩ := chk_some h
 refine q2rr [] [] ⟨28, [(0, .own 2000), (2, .i (0 : Int)), (3, .i ((lZ x1) - (1 : Int)))], [(2000, q2bW_27 x1)], [2000], 0⟩ (an1 ob0) ?_
 refine tN ?_
 refine AWp.block ?_
 refine AWp.loopL (α := Nat × (Nat × Int × List (TB))) (fun x => match x with | (_, n2, i3, l4) => ⟨28, (f92z1 n2 i3), [(2000, q2bW_27 l4)], [2000], 0⟩) (fun x => f92_L0 x.1 x.2 = some r) (fun x => x.1) (FUEL, 0, ((lZ x1) - (1 : Int)), x1) (Le.mk (s' := ⟨28, [(0, .own 2000), (2, .i (0 : Int)), (3, .i ((lZ x1) - (1 : Int)))], [(2000, q2bW_27 x1)], [2000], 0⟩) rfl rfl ⟨.refl _, .refl _, .refl _, trivial⟩ ⟨⟨_, rfl, .refl _⟩, trivial⟩) h ?_
 rintro ⟨k0, n2, i3, l4⟩ h
 cases k0 with
 | zero => exact nomatch (show (none : Option (List (TB))) = some r from h)
 | succ k0 =>
 obtain ⟨C0, hC0⟩ : ∃ C, C = f92_L0 k0 := ⟨_, rfl⟩
 replace h := (f92_L0.eq_2 ..).symm.trans h
 try rw [← hC0] at h
 refine AWp.seq ?_
 refine q2rq [] [] ⟨28, [(0, .own 2000), (2, .i (n2 : Int)), (3, .i i3), (9, .bool (decide ((n2 : Int) < i3)))], [(2000, q2bW_27 l4)], [2000], 0⟩ trivial ?_
 refine AWp.cond (b := (decide ((n2 : Int) < i3))) (by kernel_rfl) (fun hc1 => ?_) (fun hc1 => ?_)
 ·
  replace h := ite_tb hc1 h
  refine AWp.skip ?_
  refine tN ?_
  refine AWp.seq ?_
  refine AWp.block ?_
  obtain ⟨ob1, ob2, ob3p, h⟩ := ck3 h
  have ob3 : 0 ≤ (n2 : Int) ∧ (n2 : Int) < (((l4).length : Nat) : Int) := ⟨by omega, ob3p⟩
  obtain ⟨ob4, ob5p, h⟩ := ck2 h
  have ob5 : 0 ≤ (n2 : Int) ∧ (n2 : Int) < (((l4).length : Nat) : Int) := ⟨by omega, ob5p⟩
  obtain ⟨ob6, ob7, ob8, h⟩ := ck3 h
  refine q2rr [] [] ⟨28, (f92z1 n2 i3), [(2000, .rows 27 1 (l4).length (updF (updF (encF eW 0#16 l4) n2 0 [.b16 (l4.getD ((i3).toNat) 0#16)]) ((i3).toNat) 0 [.b16 (l4.getD n2 0#16)]))], [2000], 0⟩ (ac6 ob1 ob2 ob3 ob4 ob5 ob6 (an2 ob7 ob8)) ?_
  refine kN ?_
  refine tN ?_
  refine AWp.le (Le.mk (s' := ⟨28, (f92z1 n2 i3), (f92z0 l4 n2 i3), [2000], 0⟩) rfl rfl ⟨.refl _, .refl _, .refl _, trivial⟩ ⟨⟨_, rfl, (BLe.of (RL.set (l4.getD n2 0#16) (RL.set (l4.getD ((i3).toNat) 0#16) (RL.self _) (by intro j hj; match j, hj with | 0, _ => rfl)) (by intro j hj; match j, hj with | 0, _ => rfl)))⟩, trivial⟩) ?_
  obtain ⟨ob9p, h⟩ := chk_some h
  have ob9 : -9223372036854775808 ≤ ((n2 : Int) + (1 : Int)) ∧ ((n2 : Int) + (1 : Int)) ≤ 9223372036854775807 := ⟨by omega, ob9p⟩
  obtain ⟨ob10, h⟩ := chk_some h
  refine q2rr [] [] ⟨28, [(0, .own 2000), (2, .i (((n2 + 1) : Nat) : Int)), (3, .i (i3 - (1 : Int)))], (f92z0 l4 n2 i3), [2000], 0⟩ (an2 ob9 ob10) ?_
  rw [hC0] at h
  exact lN (_, (n2 + 1), (i3 - (1 : Int)), ((l4.set n2 (l4.getD ((i3).toNat) 0#16)).set ((i3).toNat) (l4.getD n2 0#16))) (Le.mk rfl rfl ⟨.refl _, .refl _, .refl _, trivial⟩ ⟨⟨_, rfl, .refl _⟩, trivial⟩) h (Nat.lt_succ_self _)
 ·
  replace h := ite_fb hc1 h
  refine AWp.exit ?_
  refine tE ?_
  refine tE ?_
  refine kS ?_
  have hret := oJ h
  subst hret
  exact bodyQ_le (Le.mk (s' := ⟨28, [], [(2000, q2bW_27 l4)], [2000], 0⟩) rfl rfl trivial ⟨⟨_, rfl, .refl _⟩, trivial⟩) (bodyQ_normal _ rfl ⟨rfl, rfl⟩ rfl)
def f76_Y70003 : (List (BitVec 16) × List (BitVec 16)) → (Int × BitVec 16) → Option (Nat × (List (BitVec 16) × List (BitVec 16)))
 | (l5, l4), (x6, x7) =>
  (f30b l5 x7).bind fun (r8 : Bool × TB) =>
  if (!r8.1) then (
  chk (((l5).length + 1) * 2 ≤ 140737488355328) <|
  some (0, ((l5 ++ [r8.2]), l4))
  ) else (
  some (0, (l5, l4))
  )
def f76 (x1 : List (BitVec 16)) : Option (List (BitVec 16)) :=
 (f42 x1).bind fun (r2 : List (TB)) =>
 (f90 r2).bind fun (r3 : List (TB)) =>
 (f106 f76_Y70003 [] r3).bind fun (r9 : Nat × List (TB) × List (TB)) =>
 chk (r9.1 ≠ 1) <|
 if r9.1 = 0 then (
 (f92 r9.2.1).bind fun (r10 : List (TB)) =>
 some r10
 ) else (
 none
 )
theorem f76_ok  (x1 : List (TB)) (r : List (TB)) (h : f76 x1 = some r)  : Spec1 Tryz.prog 76 [] [] [] [vL 1 eW 0#16 x1] (.own 3000) [(3000, bL 27 1 eW 0#16 r)] := by
 unfold f76 at h
 refine Spec1.body 0 _ _ Tryz.func76 rfl Tryz.ntmps76 rfl rfl ?_
 refine q2rq [] [] ⟨22, [(0, q2aW x1)], [], [], 0⟩ trivial ?_
 refine q2rq [] [] ⟨22, [(0, q2aW x1), (3, .ptr 3 0)], [(3, .cells 31 [.nils])], [], 0⟩ trivial ?_
 refine AWp.seq ?_
 refine AWp.seq ?_
 obtain ⟨r2, hr2, h⟩ := bind_ok h
 obtain ⟨r3, hr3, h⟩ := bind_ok h
 refine q2rr [] [(1, ⟨[q2aW x1], [], [], [(6001, q2bW_27 r2)], .own 6001, [6001], [], []⟩), (2, ⟨[.own 6001], [6001], [], [(6002, .cells 31 [q2aW r3])], .fn (.func 106) [.ptr 6002 0], [6002], [], []⟩)] ⟨22, [(3, .ptr 3 0), (8, .fn (.func 106) [.ptr 6002 0])], [(3, .cells 31 [.nils]), (6002, .cells 31 [q2aW r3])], [], 0⟩ (an2 (cpT (Spec1.ren (swapN 3000 6001) (swapN_inv 3000 6001) rfl (f42_ok _ _ hr2))) (show (callP Tryz.prog true 90 [] [] [(6001, q2bW_27 r2)] [] [] [.own 6001] [.own 6001] (.fn (.func 106) [.ptr 6002 0]) [(6002, .cells 31 [q2aW r3])]) from ⟨fun _ => (Spec1.pre (Spec1.ren (swapN 3500 6002) (swapN_inv 3500 6002) rfl (f90_ok _ _ hr3)) rfl rfl rfl (Le.trans (Le.freeze 6001 rfl rfl) (Le.mk (s' := ⟨1, [(0, q2aW r2)], [], [], 0⟩) rfl rfl ⟨.refl _, trivial⟩ trivial))), fun _ => ⟨.refl _, trivial⟩, .inl rfl⟩)) ?_
 refine tN ?_
 refine AWp.block ?_
 refine AWp.le (Le.trans (Le.trans (Le.nilOwnC 3 0 5800 27 1 (encF eW 0#16 []) rfl rfl rfl) (Le.mk (s' := ⟨22, [(3, .ptr 3 0), (8, .fn (.func 106) [.ptr 6002 0])], [(3, .cells 31 [.own 5800]), (6002, .cells 31 [q2aW r3]), (5800, q2bW_27 [])], [], 0⟩) rfl rfl ⟨.refl _, .refl _, trivial⟩ ⟨⟨_, rfl, .refl _⟩, ⟨_, rfl, .refl _⟩, ⟨_, rfl, .refl _⟩, trivial⟩)) (Le.mk (s' := ⟨22, [(3, .ptr 3 0), (8, .fn (.func 106) [.ptr 6002 0])], [(3, .cells 31 [.own 5800]), (5800, q2bW_27 []), (6002, .cells 31 [q2aW r3])], [], 0⟩) rfl rfl ⟨.refl _, .refl _, trivial⟩ ⟨⟨_, rfl, .refl _⟩, ⟨_, rfl, .refl _⟩, ⟨_, rfl, .refl _⟩, trivial⟩)) ?_
 obtain ⟨r9, hr9, h⟩ := bind_ok h
 obtain ⟨hkr9, h⟩ := chk_some h
 refine AWp.rangeFunc (s := ⟨22, [(3, .ptr 3 0), (8, .fn (.func 106) [.ptr 6002 0])], [(3, .cells 31 [.own 5800]), (5800, q2bW_27 []), (6002, .cells 31 [q2aW r3])], [], 0⟩) 70003 [3] [3] [] 106 [.ptr 6002 0] ⟨[.own 70003, .ptr 6002 0], [3, 5800, 6002], [70003, 3, 6002], [], .tup [], [5800], [], []⟩ r9.1 [(3, .cells 31 [.own 5800]), (5800, q2bW_27 r9.2.1), (6002, .cells 31 [q2aW r9.2.2])] ⟨22, [(3, .ptr 3 0), (8, .fn (.func 106) [.ptr 6002 0])], [(3, .cells 31 [.own 5800]), (5800, q2bW_27 r9.2.1), (6002, .cells 31 [q2aW r9.2.2])], [], 0⟩ rfl (by kernel_rfl) (by kernel_rfl) (fun g0 => ?_) (fun C => (by kernel_rfl)) (by kernel_rfl) (by kernel_rfl) (by kernel_rfl) (by kernel_rfl) hkr9 (by kernel_rfl) ?_ ?_
 ·
  refine ⟨fun _ => (f106_ok _ f76_Y70003 [] r3 r9 hr9 ?_), fun _ => ⟨.refl _, .refl _, trivial⟩, .inl rfl⟩
  clear h
  rintro ⟨l5, l4⟩ ⟨x6, x7⟩ rY70003 h
  replace h := (f76_Y70003.eq_1 ..).symm.trans h
  refine YSpec.body 0 rfl (of_decide_eq_true (by kernel_rfl)) (of_decide_eq_true (by kernel_rfl)) (within_tget (by kernel_rfl)) (by kernel_rfl) (by kernel_rfl) (by kernel_rfl) (by kernel_rfl) ?_
  refine AWp.le (Le.mk (s' := ⟨22, [(9, .i x6), (10, .b16 x7), (3, .ptr 3 0)], [(3, .cells 31 [.own 5800]), (5800, q2bW_27 l5), (6002, .cells 31 [q2aW l4])], [3, 6002], 0⟩) rfl rfl ⟨.refl _, .refl _, .refl _, trivial⟩ ⟨⟨_, rfl, .refl _⟩, ⟨_, rfl, .refl _⟩, ⟨_, rfl, .refl _⟩, trivial⟩) ?_
  refine q2rr [] [] ⟨22, [(3, .ptr 3 0), (5, .ptr 5 0)], [(3, .cells 31 [.own 5800]), (5, .cells 27 [.b16 x7]), (5800, q2bW_27 l5), (6002, .cells 31 [q2aW l4])], [3, 6002], 0⟩ (an1 trivial) ?_
  refine ⟨rfl, rfl, ?_⟩
  refine AWp.block ?_
  refine AWp.seq ?_
  obtain ⟨r8, hr8, h⟩ := bind_ok h
  refine q2rr [] [(2, ⟨[q2aW l5, .fn (.func 91) [.ptr 5 0]], [5], [5], [(5, .cells 27 [.b16 r8.2])], .bool r8.1, [], [5800], []⟩)] ⟨22, [(3, .ptr 3 0), (5, .ptr 5 0), (14, .bool (!r8.1))], [(3, .cells 31 [.own 5800]), (5, .cells 27 [.b16 r8.2]), (5800, q2bW_27 l5), (6002, .cells 31 [q2aW l4])], [3, 6002], 0⟩ (an1 (cpL (c := true) [(5800, q2bW_27 l5)] [5800] [.own 5800, .fn (.func 91) [.ptr 5 0]] (fun _ => (Spec1.ren (swapN 2000 5) (swapN_inv 2000 5) rfl (f30b_ok _ _ _ hr8))) (fun _ => ⟨.refl _, .refl _, trivial⟩) (.inr ⟨rfl, ⟨rfl, trivial⟩⟩))) ?_
  refine tN ?_
  refine AWp.cond (b := (!r8.1)) (by kernel_rfl) (fun hc1 => ?_) (fun hc1 => ?_)
  ·
   replace h := ite_tb hc1 h
   obtain ⟨ob0, h⟩ := chk_some h
   refine q2rr [] [] ⟨22, [], [(3, .cells 31 [.own 5800]), (5800, .rows 27 1 ((l5).length + 1) (appF (l5).length (encF eW 0#16 l5) (lstF 1 [.b16 r8.2]))), (6002, .cells 31 [q2aW l4])], [3, 6002], 0⟩ (an2 ob0 trivial) ?_
   refine kN ?_
   have hret := oJ h
   subst hret
   exact ⟨_, (Le.trans (Le.mk (s' := ⟨22, [], [(3, .cells 31 [.own 5800]), (5800, q2bW_27 (l5 ++ [r8.2])), (6002, .cells 31 [q2aW l4])], [3, 6002], 0⟩) rfl rfl trivial ⟨⟨_, rfl, .refl _⟩, ⟨_, rfl, (BLe.of (RL.app (RL.self _) (RL.lst (enc := eW) [r8.2] rfl rfl (fun _ => rfl))))⟩, ⟨_, rfl, .refl _⟩, trivial⟩) (Le.mk (s' := ⟨22, [], [(3, .cells 31 [.own 5800]), (5800, q2bW_27 (l5 ++ [r8.2])), (6002, .cells 31 [q2aW l4])], [3, 6002], 0⟩) rfl rfl trivial ⟨⟨_, rfl, .refl _⟩, ⟨_, rfl, .refl _⟩, ⟨_, rfl, .refl _⟩, trivial⟩)), rfl, rfl, .inl ⟨rfl, rfl⟩⟩
  ·
   replace h := ite_fb hc1 h
   refine AWp.skip ?_
   refine kN ?_
   have hret := oJ h
   subst hret
   exact ⟨_, (Le.mk (s' := ⟨22, [], [(3, .cells 31 [.own 5800]), (5800, q2bW_27 l5), (6002, .cells 31 [q2aW l4])], [3, 6002], 0⟩) rfl rfl trivial ⟨⟨_, rfl, .refl _⟩, ⟨_, rfl, .refl _⟩, ⟨_, rfl, .refl _⟩, trivial⟩), rfl, rfl, .inl ⟨rfl, rfl⟩⟩
 ·
  intro hk0
  replace h := ite_t hk0 h
  refine kN ?_
  refine tN ?_
  refine AWp.seq ?_
  obtain ⟨r10, hr10, h⟩ := bind_ok h
  refine q2rr [] [(1, ⟨[.own 5800], [5800], [5800], [(5800, q2bW_27 r10)], .tup [], [], [], []⟩)] ⟨22, [(3, .ptr 3 0)], [(3, .cells 31 [.own 5800]), (5800, q2bW_27 r10)], [], 0⟩ (an1 (cpT (Spec1.ren (swapN 2000 5800) (swapN_inv 2000 5800) rfl (f92_ok _ _ hr10)))) ?_
  refine tN ?_
  refine q2rq [] [] ⟨22, [(2, .own 5800)], [(5800, q2bW_27 r10)], [], 0⟩ trivial ?_
  refine AWp.le (Le.trans (Le.ren (swapN 5800 3000) (swapN_inv 5800 3000) rfl) (Le.mk (s' := ⟨22, [(2, .own 3000)], [(3000, q2bW_27 r10)], [], 0⟩) rfl rfl ⟨.refl _, trivial⟩ ⟨⟨_, rfl, .refl _⟩, trivial⟩)) ?_
  have hret := oJ h
  subst hret
  refine AWp.le (Le.mk (s' := ⟨22, [(2, .own 3000)], [(3000, q2bW_27 r10)], [], 0⟩) rfl rfl ⟨.refl _, trivial⟩ ⟨⟨_, rfl, .refl _⟩, trivial⟩) ?_
  refine AWp.ret ?_
  exact bR _ rfl ⟨rfl, rfl⟩ rfl
 ·
  intro j hkj
  replace h := ite_f (by omega) h
  exact nomatch (show (none : Option (List (TB))) = some r from h)
def f41 (x1 : List (BitVec 16)) : Option (List (BitVec 16) × Int) :=
 if (decide ((((x1).length : Nat) : Int) > (400 : Int))) then (
 some ([], (3 : Int))
 ) else (
 some (x1, (0 : Int))
 )
theorem f41_ok  (x1 : List (TB)) (r : List (TB) × Int) (h : f41 x1 = some r)  : Spec1 Tryz.prog 41 [] [] [] [vL 1 eW 0#16 x1] (.tup [vL 1 eW 0#16 r.1, .int .i64 r.2]) [] := by
 unfold f41 at h
 refine Spec1.body 0 _ _ Tryz.func41 rfl Tryz.ntmps41 rfl rfl ?_
 refine q2rq [] [] ⟨8, [(0, q2aW x1)], [], [], 0⟩ trivial ?_
 refine AWp.seq ?_
 refine q2rq [] [] ⟨8, [(0, q2aW x1), (6, .bool (decide ((lZ x1) > (400 : Int))))], [], [], 0⟩ trivial ?_
 refine AWp.cond (b := (decide ((lZ x1) > (400 : Int)))) (by kernel_rfl) (fun hc1 => ?_) (fun hc1 => ?_)
 ·
  replace h := ite_tb hc1 h
  refine q2rq [] [] ⟨8, [(2, .nils), (3, .i (3 : Int))], [], [], 0⟩ trivial ?_
  have hret := oJ h
  subst hret
  refine AWp.le (Le.mk (s' := ⟨8, [(2, q2aW []), (3, .i (3 : Int))], [], [], 0⟩) rfl rfl ⟨.nilL, .refl _, trivial⟩ trivial) ?_
  refine AWp.ret ?_
  refine tR ?_
  exact bR _ rfl ⟨rfl, rfl⟩ rfl
 ·
  replace h := ite_fb hc1 h
  refine AWp.skip ?_
  refine tN ?_
  refine q2rq [] [] ⟨8, [(2, q2aW x1), (3, .i (0 : Int))], [], [], 0⟩ trivial ?_
  have hret := oJ h
  subst hret
  refine AWp.le (Le.mk (s' := ⟨8, [(2, q2aW x1), (3, .i (0 : Int))], [], [], 0⟩) rfl rfl ⟨.refl _, .refl _, trivial⟩ trivial) ?_
  refine AWp.ret ?_
  exact bR _ rfl ⟨rfl, rfl⟩ rfl
def f19 (x1 : List (BitVec 16)) : Option (List (BitVec 16) × Int) :=
 (f30a x1).bind fun (r2 : Bool) =>
 if r2 then (
 some ([], (7 : Int))
 ) else (
 (f76 x1).bind fun (r3 : List (TB)) =>
 (f41 r3).bind fun (r4 : List (TB) × Int) =>
 some (r4.1, r4.2)
 )
theorem f19_ok  (x1 : List (TB)) (r : List (TB) × Int) (h : f19 x1 = some r)  : Spec1 Tryz.prog 19 [] [] [] [vL 1 eW 0#16 x1, .fn (.func 76) []] (.tup [vL 1 eW 0#16 r.1, .int .i64 r.2]) [] := by
 unfold f19 at h
 refine Spec1.body 0 _ _ Tryz.func19 rfl Tryz.ntmps19 rfl rfl ?_
 refine q2rq [] [] ⟨14, [(0, q2aW x1), (1, .fn (.func 76) [])], [], [], 0⟩ trivial ?_
 refine AWp.seq ?_
 refine AWp.seq ?_
 obtain ⟨r2, hr2, h⟩ := bind_ok h
 refine q2rr [] [(1, ⟨[q2aW x1, .fn (.func 40) []], [], [], [], .bool r2, [], [], []⟩)] ⟨14, [(0, q2aW x1), (1, .fn (.func 76) []), (7, .bool r2)], [], [], 0⟩ (an1 (cpT (f30a_ok _ _ hr2))) ?_
 refine tN ?_
 refine AWp.cond (b := r2) (by kernel_rfl) (fun hc1 => ?_) (fun hc1 => ?_)
 ·
  replace h := ite_tb hc1 h
  refine q2rq [] [] ⟨14, [(4, .nils), (5, .i (7 : Int))], [], [], 0⟩ trivial ?_
  have hret := oJ h
  subst hret
  refine AWp.le (Le.mk (s' := ⟨14, [(4, q2aW []), (5, .i (7 : Int))], [], [], 0⟩) rfl rfl ⟨.nilL, .refl _, trivial⟩ trivial) ?_
  refine AWp.ret ?_
  refine tR ?_
  exact bR _ rfl ⟨rfl, rfl⟩ rfl
 ·
  replace h := ite_fb hc1 h
  refine AWp.skip ?_
  refine tN ?_
  refine AWp.seq ?_
  obtain ⟨r3, hr3, h⟩ := bind_ok h
  obtain ⟨r4, hr4, h⟩ := bind_ok h
  refine q2rr [] [(2, ⟨[q2aW x1], [], [], [(6001, q2bW_27 r3)], .own 6001, [6001], [], []⟩), (3, ⟨[.own 6001], [6001], [], [], .tup [q2aW r4.1, .i r4.2], [], [], []⟩)] ⟨14, [(4, q2aW r4.1), (5, .i r4.2)], [], [], 0⟩ (an2 (cpT (Spec1.ren (swapN 3000 6001) (swapN_inv 3000 6001) rfl (f76_ok _ _ hr3))) (show (callP Tryz.prog true 41 [] [] [(6001, q2bW_27 r3)] [] [] [.own 6001] [.own 6001] (.tup [q2aW r4.1, .i r4.2]) []) from ⟨fun _ => (Spec1.pre (f41_ok _ _ hr4) rfl rfl rfl (Le.trans (Le.freeze 6001 rfl rfl) (Le.mk (s' := ⟨1, [(0, q2aW r3)], [], [], 0⟩) rfl rfl ⟨.refl _, trivial⟩ trivial))), fun _ => ⟨.refl _, trivial⟩, .inl rfl⟩)) ?_
  refine tN ?_
  have hret := oJ h
  subst hret
  refine AWp.le (Le.mk (s' := ⟨14, [(4, q2aW r4.1), (5, .i r4.2)], [], [], 0⟩) rfl rfl ⟨.refl _, .refl _, trivial⟩ trivial) ?_
  refine AWp.ret ?_
  exact bR _ rfl ⟨rfl, rfl⟩ rfl
def f52 (x1 : List (BitVec 16)) : Option (List (BitVec 16) × Int) :=
 (f19 x1).bind fun (r2 : List (TB) × Int) =>
 some (r2.1, r2.2)
theorem f52_ok  (x1 : List (TB)) (r : List (TB) × Int) (h : f52 x1 = some r)  : Spec1 Tryz.prog 52 [] [] [] [vL 1 eW 0#16 x1] (.tup [vL 1 eW 0#16 r.1, .int .i64 r.2]) [] := by
 unfold f52 at h
 refine Spec1.body 0 _ _ Tryz.func52 rfl Tryz.ntmps52 rfl rfl ?_
 refine q2rq [] [] ⟨8, [(0, q2aW x1)], [], [], 0⟩ trivial ?_
 refine AWp.seq ?_
 obtain ⟨r2, hr2, h⟩ := bind_ok h
 refine q2rr [] [(1, ⟨[q2aW x1, .fn (.func 76) []], [], [], [], .tup [q2aW r2.1, .i r2.2], [], [], []⟩)] ⟨8, [(2, q2aW r2.1), (3, .i r2.2)], [], [], 0⟩ (an1 (cpT (f19_ok _ _ hr2))) ?_
 refine tN ?_
 have hret := oJ h
 subst hret
 refine AWp.le (Le.mk (s' := ⟨8, [(2, q2aW r2.1), (3, .i r2.2)], [], [], 0⟩) rfl rfl ⟨.refl _, .refl _, trivial⟩ trivial) ?_
 refine AWp.ret ?_
 exact bR _ rfl ⟨rfl, rfl⟩ rfl
def f27_L0 (x3 : BitVec 16) (x7 : List Tq0) (K1 : (List (BitVec 16)) → Option (List (BitVec 16))) : Nat → Tq1 → Option (List (BitVec 16))
 | 0, _ => none
 | k + 1, (n8, l9) =>
  if (decide ((n8 : Int) < (((x7).length : Nat) : Int))) then (
  chk ((n8 : Int) < (((x7).length : Nat) : Int)) <|
  chk (((l9).length + 1) * 2 ≤ 140737488355328) <|
  chk (((n8 : Int) + (1 : Int)) ≤ 9223372036854775807) <|
  (f27_L0 x3 x7 K1 k) ((n8 + 1), (l9 ++ [((x7.getD n8 (default : Tq0)).1 &&& x3)]))
  ) else (
  K1 l9
  )
abbrev f27z0 (x1 : List UInt8) (x2 : Int) (x3 : TB) (x4 : List (TB)) (x5 : List (TB)) (x6 : List Tq0) : List V := [.str x1, .int .i64 x2, .b16 x3, vL 1 eW 0#16 x4, vL 1 eW 0#16 x5, vL 2 eWW (default : Tq0) x6]
abbrev f27z1 (x7 : List Tq0) (n8 : Nat) : List (Nat × V) := [(2, .ptr 2 0), (5, .own 5005), (10, vL 2 eWW (default : Tq0) x7), (11, .int .i64 (((x7).length : Nat) : Int)), (12, .int .i64 (n8 : Int))]
abbrev f27z2 (x7 : List Tq0) (n8 : Nat) := (x7.getD n8 (default : Tq0))
def f27 (x1 : List UInt8) (x2 : Int) (x3 : BitVec 16) (x4 : List (BitVec 16)) (x5 : List (BitVec 16)) (x6 : List Tq0) (x7 : List Tq0) : Option (List (BitVec 16)) :=
 jn (fun (l10 : List (BitVec 16)) =>
 (f52 l10).bind fun (r11 : List (TB) × Int) =>
 some r11.1
 ) fun (K1 : (List (TB)) → Option (List (TB))) =>
 f27_L0 x3 x7 K1 FUEL (0, [])
theorem f27_ok  (x1 : List UInt8) (x2 : Int) (x3 : TB) (x4 : List (TB)) (x5 : List (TB)) (x6 : List Tq0) (x7 : List Tq0) (r : List (TB)) (h : f27 x1 x2 x3 x4 x5 x6 x7 = some r)  : Spec1 Tryz.prog 27 [] [] [] [.agg [.str x1, .int .i64 x2, .b16 x3, vL 1 eW 0#16 x4, vL 1 eW 0#16 x5, vL 2 eWW (default : Tq0) x6], vL 2 eWW (default : Tq0) x7] (vL 1 eW 0#16 r) [] := by
 unfold f27 at h
 refine Spec1.body 0 _ _ Tryz.func27 rfl Tryz.ntmps27 rfl rfl ?_
 refine q2rq [] [] ⟨31, [(1, q2aWW x7), (2, .ptr 2 0)], [(2, .cells 33 (f27z0 x1 x2 x3 x4 x5 x6))], [], 0⟩ trivial ?_
 refine q2rq [] [] ⟨31, [(1, q2aWW x7), (2, .ptr 2 0), (5, .nils)], [(2, .cells 33 (f27z0 x1 x2 x3 x4 x5 x6))], [], 0⟩ trivial ?_
 obtain ⟨K1, hK1, h⟩ := jn_some h
 refine AWp.join (α := List (TB)) (fun (l10 : List (TB)) => ⟨31, [(5, .own 5005)], [(5005, q2bW_27 l10)], [], 0⟩) (fun x => K1 x = some r) ?_ ?_
 ·
  refine q2rq [] [] ⟨31, [(2, .ptr 2 0), (5, .nils), (10, q2aWW x7), (11, .i (lZ x7)), (12, .i (0 : Int))], [(2, .cells 33 (f27z0 x1 x2 x3 x4 x5 x6))], [], 0⟩ trivial ?_
  refine AWp.block ?_
  refine AWp.loopL (α := Nat × Tq1) (fun x => match x with | (_, n8, l9) => ⟨31, (f27z1 x7 n8), [(2, .cells 33 (f27z0 x1 x2 x3 x4 x5 x6)), (5005, q2bW_27 l9)], [], 0⟩) (fun x => f27_L0 x3 x7 K1 x.1 x.2 = some r) (fun x => x.1) (FUEL, 0, []) (Le.trans (Le.trans (Le.nilOwn 5 5005 27 1 (encF eW 0#16 []) rfl rfl (Nat.le_of_ble_eq_true rfl)) (Le.mk (s' := ⟨31, [(2, .ptr 2 0), (5, .own 5005), (10, q2aWW x7), (11, .i (lZ x7)), (12, .i (0 : Int))], [(2, .cells 33 (f27z0 x1 x2 x3 x4 x5 x6)), (5005, q2bW_27 [])], [], 0⟩) rfl rfl ⟨.refl _, .refl _, .refl _, .refl _, .refl _, trivial⟩ ⟨⟨_, rfl, .refl _⟩, ⟨_, rfl, .refl _⟩, trivial⟩)) (Le.mk (s' := ⟨31, [(2, .ptr 2 0), (5, .own 5005), (10, q2aWW x7), (11, .i (lZ x7)), (12, .i (0 : Int))], [(2, .cells 33 (f27z0 x1 x2 x3 x4 x5 x6)), (5005, q2bW_27 [])], [], 0⟩) rfl rfl ⟨.refl _, .refl _, .refl _, .refl _, .refl _, trivial⟩ ⟨⟨_, rfl, .refl _⟩, ⟨_, rfl, .refl _⟩, trivial⟩)) h ?_
  rintro ⟨k0, n8, l9⟩ h
  cases k0 with
  | zero => exact nomatch (show (none : Option (List (TB))) = some r from h)
  | succ k0 =>
  obtain ⟨C0, hC0⟩ : ∃ C, C = f27_L0 x3 x7 K1 k0 := ⟨_, rfl⟩
  replace h := (f27_L0.eq_2 ..).symm.trans h
  try rw [← hC0] at h
  refine q2rq [] [] ⟨31, [(2, .ptr 2 0), (5, .own 5005), (10, q2aWW x7), (11, .i (lZ x7)), (12, .i (n8 : Int)), (13, .bool (decide ((n8 : Int) < (lZ x7))))], [(2, .cells 33 (f27z0 x1 x2 x3 x4 x5 x6)), (5005, q2bW_27 l9)], [], 0⟩ trivial ?_
  refine AWp.seq ?_
  refine AWp.cond (b := (decide ((n8 : Int) < (lZ x7)))) (by kernel_rfl) (fun hc1 => ?_) (fun hc1 => ?_)
  ·
   replace h := ite_tb hc1 h
   refine AWp.skip ?_
   refine tN ?_
   refine AWp.seq ?_
   refine AWp.block ?_
   refine AWp.seq ?_
   obtain ⟨ob0p, h⟩ := chk_some h
   have ob0 : 0 ≤ (n8 : Int) ∧ (n8 : Int) < (((x7).length : Nat) : Int) := ⟨by omega, ob0p⟩
   refine q2rr [] [] ⟨31, [(2, .ptr 2 0), (5, .own 5005), (7, .ptr 7 0), (10, q2aWW x7), (11, .i (lZ x7)), (12, .i (n8 : Int))], [(2, .cells 33 (f27z0 x1 x2 x3 x4 x5 x6)), (7, .cells 43 [.b16 (f27z2 x7 n8).1, .b16 (f27z2 x7 n8).2]), (5005, q2bW_27 l9)], [], 0⟩ (an2 ob0 trivial) ?_
   refine tN ?_
   obtain ⟨ob1, h⟩ := chk_some h
   refine q2rr [] [] ⟨31, (f27z1 x7 n8), [(2, .cells 33 (f27z0 x1 x2 x3 x4 x5 x6)), (5005, .rows 27 1 ((l9).length + 1) (appF (l9).length (encF eW 0#16 l9) (lstF 1 [.b16 ((f27z2 x7 n8).1 &&& x3)])))], [], 0⟩ (an1 ob1) ?_
   refine kN ?_
   refine tN ?_
   refine AWp.le (Le.mk (s' := ⟨31, (f27z1 x7 n8), [(2, .cells 33 (f27z0 x1 x2 x3 x4 x5 x6)), (5005, q2bW_27 (l9 ++ [((f27z2 x7 n8).1 &&& x3)]))], [], 0⟩) rfl rfl ⟨.refl _, .refl _, .refl _, .refl _, .refl _, trivial⟩ ⟨⟨_, rfl, .refl _⟩, ⟨_, rfl, (BLe.of (RL.app (RL.self _) (RL.lst (enc := eW) [((f27z2 x7 n8).1 &&& x3)] rfl rfl (fun _ => rfl))))⟩, trivial⟩) ?_
   obtain ⟨ob2p, h⟩ := chk_some h
   have ob2 : -9223372036854775808 ≤ ((n8 : Int) + (1 : Int)) ∧ ((n8 : Int) + (1 : Int)) ≤ 9223372036854775807 := ⟨by omega, ob2p⟩
   refine q2rr [] [] ⟨31, [(2, .ptr 2 0), (5, .own 5005), (10, q2aWW x7), (11, .i (lZ x7)), (12, .i (((n8 + 1) : Nat) : Int))], [(2, .cells 33 (f27z0 x1 x2 x3 x4 x5 x6)), (5005, q2bW_27 (l9 ++ [((f27z2 x7 n8).1 &&& x3)]))], [], 0⟩ (an1 ob2) ?_
   rw [hC0] at h
   exact lN (_, (n8 + 1), (l9 ++ [((f27z2 x7 n8).1 &&& x3)])) (Le.mk rfl rfl ⟨.refl _, .refl _, .refl _, .refl _, .refl _, trivial⟩ ⟨⟨_, rfl, .refl _⟩, ⟨_, rfl, .refl _⟩, trivial⟩) h (Nat.lt_succ_self _)
  ·
   replace h := ite_fb hc1 h
   refine AWp.exit ?_
   refine tE ?_
   refine tE ?_
   refine kS ?_
   exact jN (l9) (Le.mk rfl rfl ⟨.refl _, trivial⟩ ⟨⟨_, rfl, .refl _⟩, trivial⟩) h
 ·
  rintro l10 h
  replace h := (congrFun hK1 _).symm.trans h
  refine AWp.seq ?_
  refine AWp.le (Le.trans (Le.freeze 5005 rfl rfl) (Le.mk (s' := ⟨31, [(5, q2aW l10)], [], [], 0⟩) rfl rfl ⟨.refl _, trivial⟩ trivial)) ?_
  obtain ⟨r11, hr11, h⟩ := bind_ok h
  refine q2rr [] [(1, ⟨[q2aW l10], [], [], [], .tup [q2aW r11.1, .i r11.2], [], [], []⟩)] ⟨31, [(8, q2aW r11.1)], [], [], 0⟩ (an1 (cpT (f52_ok _ _ hr11))) ?_
  refine tN ?_
  refine q2rq [] [] ⟨31, [(4, q2aW r11.1)], [], [], 0⟩ trivial ?_
  have hret := oJ h
  subst hret
  refine AWp.le (Le.mk (s' := ⟨31, [(4, q2aW r11.1)], [], [], 0⟩) rfl rfl ⟨.refl _, trivial⟩ trivial) ?_
  refine AWp.ret ?_
  exact bR _ rfl ⟨rfl, rfl⟩ rfl
def f22 (x1 : BitVec 16) : Option (BitVec 16) :=
 some x1
theorem f22_ok  (x1 : TB) (r : TB) (h : f22 x1 = some r)  : Spec1 Tryz.prog 22 [] [] [] [.b16 x1] (.fn (.func 44) [.ptr 3500 0]) [(3500, .cells 27 [.b16 r])] := by
 unfold f22 at h
 refine Spec1.body 0 _ _ Tryz.func22 rfl Tryz.ntmps22 rfl rfl ?_
 refine q2rq [] [] ⟨4, [(1, .ptr 1 0)], [(1, .cells 27 [.b16 x1])], [], 0⟩ trivial ?_
 refine q2rq [] [] ⟨4, [(2, .fn (.func 44) [.ptr 1 0])], [(1, .cells 27 [.b16 x1])], [], 0⟩ trivial ?_
 refine AWp.le (Le.trans (Le.ren (swapN 1 3500) (swapN_inv 1 3500) rfl) (Le.mk (s' := ⟨4, [(2, .fn (.func 44) [.ptr 3500 0])], [(3500, .cells 27 [.b16 x1])], [], 0⟩) rfl rfl ⟨.refl _, trivial⟩ ⟨⟨_, rfl, .refl _⟩, trivial⟩)) ?_
 have hret := oJ h
 subst hret
 refine AWp.le (Le.mk (s' := ⟨4, [(2, .fn (.func 44) [.ptr 3500 0])], [(3500, .cells 27 [.b16 x1])], [], 0⟩) rfl rfl ⟨.refl _, trivial⟩ ⟨⟨_, rfl, .refl _⟩, trivial⟩) ?_
 refine AWp.ret ?_
 exact bR _ rfl ⟨rfl, rfl⟩ rfl
def f28_L1 (x4 : List (BitVec 16)) (x7 : BitVec 16) (x8 : List (BitVec 16)) (x9 : BitVec 16) (n10 : Nat) (K2 : Unit → Option Bool) : Nat → Nat → Option Bool
 | 0, _ => none
 | k + 1, n11 =>
  if (decide ((n11 : Int) < (((x8).length : Nat) : Int))) then (
  chk ((n11 : Int) < (((x8).length : Nat) : Int)) <|
  if (((x9 &&& (x4.getD n10 0#16)) &&& ~~~((x8.getD n11 0#16) ||| x7)) == (BitVec.ofInt 16 0)) then (
  some false
  ) else (
  chk (((n11 : Int) + (1 : Int)) ≤ 9223372036854775807) <|
  (f28_L1 x4 x7 x8 x9 n10 K2 k) (n11 + 1)
  )
  ) else (
  K2 ()
  )
def f28_L0 (x4 : List (BitVec 16)) (x7 : BitVec 16) (x8 : List (BitVec 16)) (x9 : BitVec 16) (K1 : Unit → Option Bool) : Nat → Nat → Option Bool
 | 0, _ => none
 | k + 1, n10 =>
  if (decide ((n10 : Int) < (((x4).length : Nat) : Int))) then (
  jn (fun (_ : Unit) =>
  chk (((n10 : Int) + (1 : Int)) ≤ 9223372036854775807) <|
  (f28_L0 x4 x7 x8 x9 K1 k) (n10 + 1)
  ) fun (K2 : Unit → Option Bool) =>
  chk ((n10 : Int) < (((x4).length : Nat) : Int)) <|
  f28_L1 x4 x7 x8 x9 n10 K2 FUEL 0
  ) else (
  K1 ()
  )
abbrev f28z0 (x7 : TB) (x8 : List (TB)) (x9 : TB) (x4 : List (TB)) (n10 : Nat) : List (Nat × V) := [(1, .b16 x7), (2, vL 1 eW 0#16 x8), (3, .b16 x9), (14, vL 1 eW 0#16 x4), (15, .int .i64 (((x4).length : Nat) : Int)), (16, .int .i64 (n10 : Int))]
def f28 (x1 : List UInt8) (x2 : Int) (x3 : BitVec 16) (x4 : List (BitVec 16)) (x5 : List (BitVec 16)) (x6 : List Tq0) (x7 : BitVec 16) (x8 : List (BitVec 16)) (x9 : BitVec 16) : Option Bool :=
 jn (fun (_ : Unit) =>
 some true
 ) fun (K1 : Unit → Option Bool) =>
 f28_L0 x4 x7 x8 x9 K1 FUEL 0
theorem f28_ok  (x1 : List UInt8) (x2 : Int) (x3 : TB) (x4 : List (TB)) (x5 : List (TB)) (x6 : List Tq0) (x7 : TB) (x8 : List (TB)) (x9 : TB) (r : Bool) (h : f28 x1 x2 x3 x4 x5 x6 x7 x8 x9 = some r)  : Spec1 Tryz.prog 28 [] [] [] [.agg [.str x1, .int .i64 x2, .b16 x3, vL 1 eW 0#16 x4, vL 1 eW 0#16 x5, vL 2 eWW (default : Tq0) x6], .b16 x7, vL 1 eW 0#16 x8, .b16 x9] (.bool r) [] := by
 unfold f28 at h
 refine Spec1.body 0 _ _ Tryz.func28 rfl Tryz.ntmps28 rfl rfl ?_
 refine q2rq [] [] ⟨36, [(1, .b16 x7), (2, q2aW x8), (3, .b16 x9), (4, .ptr 4 0)], [(4, .cells 33 [.str x1, .i x2, .b16 x3, q2aW x4, q2aW x5, q2aWW x6])], [], 0⟩ trivial ?_
 obtain ⟨K1, hK1, h⟩ := jn_some h
 refine AWp.join (α := Unit) (fun (x : Unit) => match x with | () => ⟨36, [], [], [], 0⟩) (fun x => K1 x = some r) ?_ ?_
 ·
  refine q2rq [] [] ⟨36, [(1, .b16 x7), (2, q2aW x8), (3, .b16 x9), (14, q2aW x4), (15, .i (lZ x4)), (16, .i (0 : Int))], [], [], 0⟩ trivial ?_
  refine AWp.block ?_
  refine AWp.loopL (α := Nat × Nat) (fun x => match x with | (_, n10) => ⟨36, (f28z0 x7 x8 x9 x4 n10), [], [], 0⟩) (fun x => f28_L0 x4 x7 x8 x9 K1 x.1 x.2 = some r) (fun x => x.1) (FUEL, 0) (Le.mk (s' := ⟨36, [(1, .b16 x7), (2, q2aW x8), (3, .b16 x9), (14, q2aW x4), (15, .i (lZ x4)), (16, .i (0 : Int))], [], [], 0⟩) rfl rfl ⟨.refl _, .refl _, .refl _, .refl _, .refl _, .refl _, trivial⟩ trivial) h ?_
  rintro ⟨k0, n10⟩ h
  cases k0 with
  | zero => exact nomatch (show (none : Option Bool) = some r from h)
  | succ k0 =>
  obtain ⟨C0, hC0⟩ : ∃ C, C = f28_L0 x4 x7 x8 x9 K1 k0 := ⟨_, rfl⟩
  replace h := (f28_L0.eq_2 ..).symm.trans h
  try rw [← hC0] at h
  refine q2rq [] [] ⟨36, [(1, .b16 x7), (2, q2aW x8), (3, .b16 x9), (14, q2aW x4), (15, .i (lZ x4)), (16, .i (n10 : Int)), (17, .bool (decide ((n10 : Int) < (lZ x4))))], [], [], 0⟩ trivial ?_
  refine AWp.seq ?_
  refine AWp.cond (b := (decide ((n10 : Int) < (lZ x4)))) (by kernel_rfl) (fun hc1 => ?_) (fun hc1 => ?_)
  ·
   replace h := ite_tb hc1 h
   refine AWp.skip ?_
   refine tN ?_
   obtain ⟨K2, hK2, h⟩ := jn_some h
   refine AWp.join (α := Unit) (fun (x : Unit) => match x with | () => ⟨36, (f28z0 x7 x8 x9 x4 n10), [], [], 0⟩) (fun x => K2 x = some r) ?_ ?_
   ·
    refine AWp.block ?_
    refine AWp.seq ?_
    obtain ⟨ob0p, h⟩ := chk_some h
    have ob0 : 0 ≤ (n10 : Int) ∧ (n10 : Int) < (((x4).length : Nat) : Int) := ⟨by omega, ob0p⟩
    refine q2rr [] [] ⟨36, [(1, .b16 x7), (2, q2aW x8), (3, .b16 x9), (10, .b16 (x4.getD n10 0#16)), (14, q2aW x4), (15, .i (lZ x4)), (16, .i (n10 : Int))], [], [], 0⟩ (an1 ob0) ?_
    refine tN ?_
    refine q2rq [] [] ⟨36, [(1, .b16 x7), (2, q2aW x8), (3, .b16 x9), (10, .b16 (x4.getD n10 0#16)), (14, q2aW x4), (15, .i (lZ x4)), (16, .i (n10 : Int)), (20, q2aW x8), (21, .i (lZ x8)), (22, .i (0 : Int))], [], [], 0⟩ trivial ?_
    refine AWp.block ?_
    refine AWp.loopL (α := Nat × Nat) (fun x => match x with | (_, n11) => ⟨36, [(1, .b16 x7), (2, q2aW x8), (3, .b16 x9), (10, .b16 (x4.getD n10 0#16)), (14, q2aW x4), (15, .i (lZ x4)), (16, .i (n10 : Int)), (20, q2aW x8), (21, .i (lZ x8)), (22, .i (n11 : Int))], [], [], 0⟩) (fun x => f28_L1 x4 x7 x8 x9 n10 K2 x.1 x.2 = some r) (fun x => x.1) (FUEL, 0) (Le.mk (s' := ⟨36, [(1, .b16 x7), (2, q2aW x8), (3, .b16 x9), (10, .b16 (x4.getD n10 0#16)), (14, q2aW x4), (15, .i (lZ x4)), (16, .i (n10 : Int)), (20, q2aW x8), (21, .i (lZ x8)), (22, .i (0 : Int))], [], [], 0⟩) rfl rfl ⟨.refl _, .refl _, .refl _, .refl _, .refl _, .refl _, .refl _, .refl _, .refl _, .refl _, trivial⟩ trivial) h ?_
    rintro ⟨k1, n11⟩ h
    cases k1 with
    | zero => exact nomatch (show (none : Option Bool) = some r from h)
    | succ k1 =>
    obtain ⟨C1, hC1⟩ : ∃ C, C = f28_L1 x4 x7 x8 x9 n10 K2 k1 := ⟨_, rfl⟩
    replace h := (f28_L1.eq_2 ..).symm.trans h
    try rw [← hC1] at h
    refine q2rq [] [] ⟨36, [(1, .b16 x7), (2, q2aW x8), (3, .b16 x9), (10, .b16 (x4.getD n10 0#16)), (14, q2aW x4), (15, .i (lZ x4)), (16, .i (n10 : Int)), (20, q2aW x8), (21, .i (lZ x8)), (22, .i (n11 : Int)), (23, .bool (decide ((n11 : Int) < (lZ x8))))], [], [], 0⟩ trivial ?_
    refine AWp.seq ?_
    refine AWp.cond (b := (decide ((n11 : Int) < (lZ x8)))) (by kernel_rfl) (fun hc2 => ?_) (fun hc2 => ?_)
    ·
     replace h := ite_tb hc2 h
     refine AWp.skip ?_
     refine tN ?_
     refine AWp.seq ?_
     refine AWp.block ?_
     refine AWp.seq ?_
     obtain ⟨ob1p, h⟩ := chk_some h
     have ob1 : 0 ≤ (n11 : Int) ∧ (n11 : Int) < (((x8).length : Nat) : Int) := ⟨by omega, ob1p⟩
     refine q2rr [] [] ⟨36, [(1, .b16 x7), (2, q2aW x8), (3, .b16 x9), (10, .b16 (x4.getD n10 0#16)), (12, .b16 (x8.getD n11 0#16)), (14, q2aW x4), (15, .i (lZ x4)), (16, .i (n10 : Int)), (20, q2aW x8), (21, .i (lZ x8)), (22, .i (n11 : Int))], [], [], 0⟩ (an1 ob1) ?_
     refine tN ?_
     refine q2rq [] [] ⟨36, [(1, .b16 x7), (2, q2aW x8), (3, .b16 x9), (10, .b16 (x4.getD n10 0#16)), (14, q2aW x4), (15, .i (lZ x4)), (16, .i (n10 : Int)), (20, q2aW x8), (21, .i (lZ x8)), (22, .i (n11 : Int)), (33, .bool (((x9 &&& (x4.getD n10 0#16)) &&& ~~~((x8.getD n11 0#16) ||| x7)) == (q2w16 0)))], [], [], 0⟩ trivial ?_
     refine AWp.cond (b := (((x9 &&& (x4.getD n10 0#16)) &&& ~~~((x8.getD n11 0#16) ||| x7)) == (q2w16 0))) (by kernel_rfl) (fun hc3 => ?_) (fun hc3 => ?_)
     ·
      replace h := ite_tb hc3 h
      refine q2rq [] [] ⟨36, [(8, .bool false)], [], [], 0⟩ trivial ?_
      have hret := oJ h
      subst hret
      refine AWp.le (Le.mk (s' := ⟨36, [(8, .bool false)], [], [], 0⟩) rfl rfl ⟨.refl _, trivial⟩ trivial) ?_
      refine AWp.ret ?_
      refine kR ?_
      refine tR ?_
      refine tR ?_
      refine kR ?_
      refine kR ?_
      refine joinQ_ret ?_
      refine tR ?_
      refine kR ?_
      refine joinQ_ret ?_
      exact bR _ rfl ⟨rfl, rfl⟩ rfl
     ·
      replace h := ite_fb hc3 h
      refine AWp.skip ?_
      refine kN ?_
      refine tN ?_
      obtain ⟨ob2p, h⟩ := chk_some h
      have ob2 : -9223372036854775808 ≤ ((n11 : Int) + (1 : Int)) ∧ ((n11 : Int) + (1 : Int)) ≤ 9223372036854775807 := ⟨by omega, ob2p⟩
      refine q2rr [] [] ⟨36, [(1, .b16 x7), (2, q2aW x8), (3, .b16 x9), (10, .b16 (x4.getD n10 0#16)), (14, q2aW x4), (15, .i (lZ x4)), (16, .i (n10 : Int)), (20, q2aW x8), (21, .i (lZ x8)), (22, .i (((n11 + 1) : Nat) : Int))], [], [], 0⟩ (an1 ob2) ?_
      rw [hC1] at h
      exact lN (_, (n11 + 1)) (Le.mk rfl rfl ⟨.refl _, .refl _, .refl _, .refl _, .refl _, .refl _, .refl _, .refl _, .refl _, .refl _, trivial⟩ trivial) h (Nat.lt_succ_self _)
    ·
     replace h := ite_fb hc2 h
     refine AWp.exit ?_
     refine tE ?_
     refine tE ?_
     refine kS ?_
     refine kN ?_
     exact jN () (Le.mk rfl rfl ⟨.refl _, .refl _, .refl _, .refl _, .refl _, .refl _, trivial⟩ trivial) h
   ·
    rintro ⟨⟩ h
    replace h := (congrFun hK2 _).symm.trans h
    obtain ⟨ob3p, h⟩ := chk_some h
    have ob3 : -9223372036854775808 ≤ ((n10 : Int) + (1 : Int)) ∧ ((n10 : Int) + (1 : Int)) ≤ 9223372036854775807 := ⟨by omega, ob3p⟩
    refine q2rr [] [] ⟨36, [(1, .b16 x7), (2, q2aW x8), (3, .b16 x9), (14, q2aW x4), (15, .i (lZ x4)), (16, .i (((n10 + 1) : Nat) : Int))], [], [], 0⟩ (an1 ob3) ?_
    rw [hC0] at h
    exact lN (_, (n10 + 1)) (Le.mk rfl rfl ⟨.refl _, .refl _, .refl _, .refl _, .refl _, .refl _, trivial⟩ trivial) h (Nat.lt_succ_self _)
  ·
   replace h := ite_fb hc1 h
   refine AWp.exit ?_
   refine tE ?_
   refine tE ?_
   refine kS ?_
   exact jN () (Le.mk rfl rfl trivial trivial) h
 ·
  rintro ⟨⟩ h
  replace h := (congrFun hK1 _).symm.trans h
  refine q2rq [] [] ⟨36, [(8, .bool true)], [], [], 0⟩ trivial ?_
  have hret := oJ h
  subst hret
  refine AWp.le (Le.mk (s' := ⟨36, [(8, .bool true)], [], [], 0⟩) rfl rfl ⟨.refl _, trivial⟩ trivial) ?_
  refine AWp.ret ?_
  exact bR _ rfl ⟨rfl, rfl⟩ rfl
def f46b_L1 (r13 : List Int) (i14 : Int) (K2 : (BitVec 16) → Option (Bool × Nat × List UInt8 × Int × BitVec 16 × List (BitVec 16) × List (BitVec 16) × (List Tq0) × BitVec 16 × List (BitVec 16) × BitVec 16 × List (BitVec 16))) : Nat → (BitVec 16 × Nat) → Option (Bool × Nat × List UInt8 × Int × BitVec 16 × List (BitVec 16) × List (BitVec 16) × (List Tq0) × BitVec 16 × List (BitVec 16) × BitVec 16 × List (BitVec 16))
 | 0, _ => none
 | k + 1, (w26, n27) =>
  if (decide ((n27 : Int) < (((r13).length : Nat) : Int))) then (
  jn (fun (w28 : BitVec 16) =>
  chk (((n27 : Int) + (1 : Int)) ≤ 9223372036854775807) <|
  (f46b_L1 r13 i14 K2 k) (w28, (n27 + 1))
  ) fun (K3 : (TB) → Option (Bool × Nat × List UInt8 × Int × TB × List (TB) × List (TB) × (List Tq0) × TB × List (TB) × TB × List (TB))) =>
  chk ((n27 : Int) < (((r13).length : Nat) : Int)) <|
  chk (n27 < (r13).length) <|
  chk (n27 ≤ IntKind.bits .u32) <|
  if ((bitsI .and .u32 (i14 / 2 ^ n27) (1 : Int)) == (1 : Int)) then (
  chk (0 ≤ (r13.getD n27 0)) <|
  K3 (w26 ||| ((BitVec.ofInt 16 1) <<< (((r13.getD n27 0)).toNat)))
  ) else (
  K3 w26
  )
  ) else (
  K2 w26
  )
def f46b_L0 (Y70004 : (List UInt8 × Int × BitVec 16 × List (BitVec 16) × List (BitVec 16) × (List Tq0) × BitVec 16 × List (BitVec 16) × BitVec 16 × List (BitVec 16)) → (BitVec 16) → Option (Nat × (List UInt8 × Int × BitVec 16 × List (BitVec 16) × List (BitVec 16) × (List Tq0) × BitVec 16 × List (BitVec 16) × BitVec 16 × List (BitVec 16)))) (r13 : List Int) (K1 : (BitVec 16 × List (BitVec 16) × BitVec 16 × List UInt8 × Int × BitVec 16 × List (BitVec 16) × List (BitVec 16) × (List Tq0) × List (BitVec 16) × Nat) → Option (Bool × Nat × List UInt8 × Int × BitVec 16 × List (BitVec 16) × List (BitVec 16) × (List Tq0) × BitVec 16 × List (BitVec 16) × BitVec 16 × List (BitVec 16))) : Nat → (Int × BitVec 16 × List (BitVec 16) × BitVec 16 × List UInt8 × Int × BitVec 16 × List (BitVec 16) × List (BitVec 16) × (List Tq0) × List (BitVec 16) × Nat) → Option (Bool × Nat × List UInt8 × Int × BitVec 16 × List (BitVec 16) × List (BitVec 16) × (List Tq0) × BitVec 16 × List (BitVec 16) × BitVec 16 × List (BitVec 16))
 | 0, _ => none
 | k + 1, (i14, w15, l16, w17, s18, i19, w20, l21, l22, l23, l24, n25) =>
  chk ((r13).length ≤ IntKind.bits .u32 ∧ 0 ≤ ((1 : Int) * 2 ^ ((r13).length)) ∧ ((1 : Int) * 2 ^ ((r13).length)) ≤ 4294967295) <|
  if (decide (i14 < ((1 : Int) * 2 ^ ((r13).length)))) then (
  jn (fun (w29 : BitVec 16) =>
  jn (fun ((w31, l32, w33, s34, i35, w36, l37, l38, l39, l40, n41) : BitVec 16 × List (BitVec 16) × BitVec 16 × List UInt8 × Int × BitVec 16 × List (BitVec 16) × List (BitVec 16) × (List Tq0) × List (BitVec 16) × Nat) =>
  if (i14 == (0 : Int)) then (
  K1 (w31, l32, w33, s34, i35, w36, l37, l38, l39, l40, n41)
  ) else (
  chk (0 ≤ (i14 + (bitsI .and .u32 i14 (IntKind.wrap .u32 (0 - i14)))) ∧ (i14 + (bitsI .and .u32 i14 (IntKind.wrap .u32 (0 - i14)))) ≤ 4294967295) <|
  chk (0 ≤ (bitsI .xor .u32 i14 (i14 + (bitsI .and .u32 i14 (IntKind.wrap .u32 (0 - i14))))) ∧ 1 ≤ (bitsI .and .u32 i14 (IntKind.wrap .u32 (0 - i14))) ∧ 0 ≤ ((bitsI .xor .u32 i14 (i14 + (bitsI .and .u32 i14 (IntKind.wrap .u32 (0 - i14))))) / (bitsI .and .u32 i14 (IntKind.wrap .u32 (0 - i14)))) ∧ ((bitsI .xor .u32 i14 (i14 + (bitsI .and .u32 i14 (IntKind.wrap .u32 (0 - i14))))) / (bitsI .and .u32 i14 (IntKind.wrap .u32 (0 - i14)))) ≤ 4294967295) <|
  chk (2 ≤ IntKind.bits .u32) <|
  (f46b_L0 Y70004 r13 K1 k) ((bitsI .or .u32 (i14 + (bitsI .and .u32 i14 (IntKind.wrap .u32 (0 - i14)))) (((bitsI .xor .u32 i14 (i14 + (bitsI .and .u32 i14 (IntKind.wrap .u32 (0 - i14))))) / (bitsI .and .u32 i14 (IntKind.wrap .u32 (0 - i14)))) / 2 ^ 2)), w31, l32, w33, s34, i35, w36, l37, l38, l39, l40, n41)
  )
  ) fun (K4 : (TB × List (TB) × TB × List UInt8 × Int × TB × List (TB) × List (TB) × (List Tq0) × List (TB) × Nat) → Option (Bool × Nat × List UInt8 × Int × TB × List (TB) × List (TB) × (List Tq0) × TB × List (TB) × TB × List (TB))) =>
  chk (n25 = 0) <|
  (Y70004 (s18, i19, w20, l21, l22, l23, w17, l16, w15, l24) w29).bind fun (r30 : Nat × (List UInt8 × Int × TB × List (TB) × List (TB) × (List Tq0) × TB × List (TB) × TB × List (TB))) =>
  if r30.1 = 0 then (
  if (!true) then (
  some (false, 0, r30.2.1, r30.2.2.1, r30.2.2.2.1, r30.2.2.2.2.1, r30.2.2.2.2.2.1, r30.2.2.2.2.2.2.1, r30.2.2.2.2.2.2.2.1, r30.2.2.2.2.2.2.2.2.1, r30.2.2.2.2.2.2.2.2.2.1, r30.2.2.2.2.2.2.2.2.2.2)
  ) else (
  K4 (r30.2.2.2.2.2.2.2.2.2.1, r30.2.2.2.2.2.2.2.2.1, r30.2.2.2.2.2.2.2.1, r30.2.1, r30.2.2.1, r30.2.2.2.1, r30.2.2.2.2.1, r30.2.2.2.2.2.1, r30.2.2.2.2.2.2.1, r30.2.2.2.2.2.2.2.2.2.2, 0)
  )
  ) else (
  if (!false) then (
  some (false, r30.1, r30.2.1, r30.2.2.1, r30.2.2.2.1, r30.2.2.2.2.1, r30.2.2.2.2.2.1, r30.2.2.2.2.2.2.1, r30.2.2.2.2.2.2.2.1, r30.2.2.2.2.2.2.2.2.1, r30.2.2.2.2.2.2.2.2.2.1, r30.2.2.2.2.2.2.2.2.2.2)
  ) else (
  K4 (r30.2.2.2.2.2.2.2.2.2.1, r30.2.2.2.2.2.2.2.2.1, r30.2.2.2.2.2.2.2.1, r30.2.1, r30.2.2.1, r30.2.2.2.1, r30.2.2.2.2.1, r30.2.2.2.2.2.1, r30.2.2.2.2.2.2.1, r30.2.2.2.2.2.2.2.2.2.2, r30.1)
  )
  )
  ) fun (K2 : (TB) → Option (Bool × Nat × List UInt8 × Int × TB × List (TB) × List (TB) × (List Tq0) × TB × List (TB) × TB × List (TB))) =>
  f46b_L1 r13 i14 K2 FUEL ((BitVec.ofInt 16 0), 0)
  ) else (
  K1 (w15, l16, w17, s18, i19, w20, l21, l22, l23, l24, n25)
  )
abbrev f46bz0 (s18 : List UInt8) (i19 : Int) (w20 : TB) (l21 : List (TB)) (l22 : List (TB)) (l23 : List Tq0) (w17 : TB) (l16 : List (TB)) (w15 : TB) (l24 : List (TB)) (r13 : List Int) (C70004 : YC) (n25 : Nat) : Heap := [(3, .cells 33 [.str s18, .int .i64 i19, .b16 w20, vL 1 eW 0#16 l21, vL 1 eW 0#16 l22, vL 2 eWW (default : Tq0) l23]), (4, .cells 27 [.b16 w17]), (9, .cells 31 [vL 1 eW 0#16 l16]), (10, .cells 31 [.own 6500]), (6001, .cells 27 [.b16 w15]), (6500, bL 27 1 eW 0#16 l24), (26001, bL 3 1 eI 0 r13), (70004, .yld (some ([3, 4, 9, 10], C70004)) n25)]
abbrev f46bz1 (r30 : Nat × (List UInt8 × Int × TB × List (TB) × List (TB) × (List Tq0) × TB × List (TB) × TB × List (TB))) : List V := [.str r30.2.1, .int .i64 r30.2.2.1, .b16 r30.2.2.2.1, vL 1 eW 0#16 r30.2.2.2.2.1, vL 1 eW 0#16 r30.2.2.2.2.2.1, vL 2 eWW (default : Tq0) r30.2.2.2.2.2.2.1]
abbrev f46bz2 (s34 : List UInt8) (i35 : Int) (w36 : TB) (l37 : List (TB)) (l38 : List (TB)) (l39 : List Tq0) (w33 : TB) (l32 : List (TB)) (w31 : TB) (l40 : List (TB)) (r13 : List Int) (C70004 : YC) (n41 : Nat) : Heap := [(3, .cells 33 [.str s34, .int .i64 i35, .b16 w36, vL 1 eW 0#16 l37, vL 1 eW 0#16 l38, vL 2 eWW (default : Tq0) l39]), (4, .cells 27 [.b16 w33]), (9, .cells 31 [vL 1 eW 0#16 l32]), (10, .cells 31 [.own 6500]), (6001, .cells 27 [.b16 w31]), (6500, bL 27 1 eW 0#16 l40), (26001, bL 3 1 eI 0 r13), (70004, .yld (some ([3, 4, 9, 10], C70004)) n41)]
abbrev f46bz3 (x3 : List UInt8) (x4 : Int) (x5 : TB) (x6 : List (TB)) (x7 : List (TB)) (x8 : List Tq0) (x9 : TB) (x10 : List (TB)) (x11 : TB) (x12 : List (TB)) (r13 : List Int) (C70004 : YC) : Heap := [(3, .cells 33 [.str x3, .int .i64 x4, .b16 x5, vL 1 eW 0#16 x6, vL 1 eW 0#16 x7, vL 2 eWW (default : Tq0) x8]), (4, .cells 27 [.b16 x9]), (9, .cells 31 [vL 1 eW 0#16 x10]), (10, .cells 31 [.own 6500]), (6001, .cells 27 [.b16 x11]), (6500, bL 27 1 eW 0#16 x12), (26001, bL 3 1 eI 0 r13), (70004, .yld (some ([3, 4, 9, 10], C70004)) 0)]
abbrev f46bz4 (r30 : Nat × (List UInt8 × Int × TB × List (TB) × List (TB) × (List Tq0) × TB × List (TB) × TB × List (TB))) : Heap := [(3, .cells 33 (f46bz1 r30)), (4, .cells 27 [.b16 r30.2.2.2.2.2.2.2.1]), (9, .cells 31 [vL 1 eW 0#16 r30.2.2.2.2.2.2.2.2.1]), (10, .cells 31 [.own 6500]), (6001, .cells 27 [.b16 r30.2.2.2.2.2.2.2.2.2.1]), (6500, bL 27 1 eW 0#16 r30.2.2.2.2.2.2.2.2.2.2)]
abbrev f46bz5 (C70004 : YC) (r30 : Nat × (List UInt8 × Int × TB × List (TB) × List (TB) × (List Tq0) × TB × List (TB) × TB × List (TB))) : Heap := [(70004, .yld (some ([3, 4, 9, 10], C70004)) r30.1), (3, .cells 33 (f46bz1 r30)), (4, .cells 27 [.b16 r30.2.2.2.2.2.2.2.1]), (9, .cells 31 [vL 1 eW 0#16 r30.2.2.2.2.2.2.2.2.1]), (10, .cells 31 [.own 6500]), (6001, .cells 27 [.b16 r30.2.2.2.2.2.2.2.2.2.1]), (6500, bL 27 1 eW 0#16 r30.2.2.2.2.2.2.2.2.2.2)]
abbrev f46bz6 (C70004 : YC) (r30 : Nat × (List UInt8 × Int × TB × List (TB) × List (TB) × (List Tq0) × TB × List (TB) × TB × List (TB))) : Heap := [(70004, .yld (some ([3, 4, 9, 10], C70004)) 0), (3, .cells 33 (f46bz1 r30)), (4, .cells 27 [.b16 r30.2.2.2.2.2.2.2.1]), (9, .cells 31 [vL 1 eW 0#16 r30.2.2.2.2.2.2.2.2.1]), (10, .cells 31 [.own 6500]), (6001, .cells 27 [.b16 r30.2.2.2.2.2.2.2.2.2.1]), (6500, bL 27 1 eW 0#16 r30.2.2.2.2.2.2.2.2.2.2)]
abbrev f46bz7 (x2 : Int) := ((decide (x2 < (0 : Int))) == false)
abbrev f46bz8 (s18 : List UInt8) (i19 : Int) (w20 : TB) (l21 : List (TB)) (l22 : List (TB)) (l23 : List Tq0) : List V := [.str s18, .int .i64 i19, .b16 w20, vL 1 eW 0#16 l21, vL 1 eW 0#16 l22, vL 2 eWW (default : Tq0) l23]
abbrev f46bz9 := (List Tq0)
def f46b (Y70004 : (List UInt8 × Int × BitVec 16 × List (BitVec 16) × List (BitVec 16) × (List Tq0) × BitVec 16 × List (BitVec 16) × BitVec 16 × List (BitVec 16)) → (BitVec 16) → Option (Nat × (List UInt8 × Int × BitVec 16 × List (BitVec 16) × List (BitVec 16) × (List Tq0) × BitVec 16 × List (BitVec 16) × BitVec 16 × List (BitVec 16)))) (x1 : BitVec 16) (x2 : Int) (x3 : List UInt8) (x4 : Int) (x5 : BitVec 16) (x6 : List (BitVec 16)) (x7 : List (BitVec 16)) (x8 : List Tq0) (x9 : BitVec 16) (x10 : List (BitVec 16)) (x11 : BitVec 16) (x12 : List (BitVec 16)) : Option (Bool × Nat × List UInt8 × Int × BitVec 16 × List (BitVec 16) × List (BitVec 16) × (List Tq0) × BitVec 16 × List (BitVec 16) × BitVec 16 × List (BitVec 16)) :=
 (f70 x1).bind fun (r13 : List Int) =>
 if ((decide (x2 < (0 : Int))) || (decide (x2 > (((r13).length : Nat) : Int)))) then (
 some (true, 0, x3, x4, x5, x6, x7, x8, x9, x10, x11, x12)
 ) else (
 jn (fun ((w30, l31, w32, s33, i34, w35, l36, l37, l38, l39, n40) : BitVec 16 × List (BitVec 16) × BitVec 16 × List UInt8 × Int × BitVec 16 × List (BitVec 16) × List (BitVec 16) × (List Tq0) × List (BitVec 16) × Nat) =>
 some (true, n40, s33, i34, w35, l36, l37, l38, w32, l31, w30, l39)
 ) fun (K1 : (TB × List (TB) × TB × List UInt8 × Int × TB × List (TB) × List (TB) × (List Tq0) × List (TB) × Nat) → Option (Bool × Nat × List UInt8 × Int × TB × List (TB) × List (TB) × (List Tq0) × TB × List (TB) × TB × List (TB))) =>
 chk (0 ≤ x2 ∧ (x2).toNat ≤ IntKind.bits .u32 ∧ 0 ≤ ((1 : Int) * 2 ^ ((x2).toNat)) ∧ ((1 : Int) * 2 ^ ((x2).toNat)) ≤ 4294967295) <|
 chk (0 ≤ (((1 : Int) * 2 ^ ((x2).toNat)) - (1 : Int)) ∧ (((1 : Int) * 2 ^ ((x2).toNat)) - (1 : Int)) ≤ 4294967295) <|
 f46b_L0 Y70004 r13 K1 FUEL ((((1 : Int) * 2 ^ ((x2).toNat)) - (1 : Int)), x11, x10, x9, x3, x4, x5, x6, x7, x8, x12, 0)
 )
end Go.Abs
