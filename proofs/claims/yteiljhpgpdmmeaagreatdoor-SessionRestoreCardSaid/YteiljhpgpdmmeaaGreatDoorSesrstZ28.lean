/- Part 28 of the proof: X49w. -/
import Derived.Test.YteiljhpgpdmmeaaGreatDoorSesrstZ27
namespace Go.Abs
open Go Go.Proofs
set_option maxHeartbeats 4000000
def eU8 (x : Int) : List V := [.int .u8 x]
abbrev q4aSSI (l : List (List UInt8 × List UInt8 × Int)) : V := vL 3 eSSI (default : List UInt8 × List UInt8 × Int) l
abbrev q4bSSI_76 (l : List (List UInt8 × List UInt8 × Int)) : Blk := bL 76 3 eSSI (default : List UInt8 × List UInt8 × Int) l
abbrev q4dSSI : List UInt8 × List UInt8 × Int := default
abbrev q4aIIS (l : List (Int × Int × List UInt8)) : V := vL 3 eIIS (default : Int × Int × List UInt8) l
abbrev q4bIIS_45 (l : List (Int × Int × List UInt8)) : Blk := bL 45 3 eIIS (default : Int × Int × List UInt8) l
abbrev q4dIIS : Int × Int × List UInt8 := default
abbrev q4aS (l : List (List UInt8)) : V := vL 1 eS [] l
abbrev q4bS_9 (l : List (List UInt8)) : Blk := bL 9 1 eS [] l
abbrev q4bU8_5 (l : List (Int)) : Blk := bL 5 1 eU8 0 l
theorem q4rq {Q : Exit → S → Prop} {id : Nat} {draw : Bool} {y : Code} (W : List Nat) (calls : List (Nat × CC)) {l : List Oper} {s : S} (s' : S) {φ : Prop} (hφ : φ) (hQ : AWp Tryz.prog y Q s') (h : Abs.regC Tryz.prog W draw calls (s'.t.map (·.1)) (s'.h.map (·.1)) l s = some (s', φ) := by kernel_rfl) : AWp Tryz.prog (.seq (.region id l.toArray draw) y) Q s := AWp.sq W calls _ _ s' φ Tryz_mixed h hφ hQ
theorem q4rr {Q : Exit → S → Prop} {id : Nat} {draw : Bool} (W : List Nat) (calls : List (Nat × CC)) {l : List Oper} {s : S} (s' : S) {φ : Prop} (hφ : φ) (hQ : Q .normal s') (h : Abs.regC Tryz.prog W draw calls (s'.t.map (·.1)) (s'.h.map (·.1)) l s = some (s', φ) := by kernel_rfl) : AWp Tryz.prog (.region id l.toArray draw) Q s := AWp.regC W calls _ _ s' φ Tryz_mixed h hφ hQ
abbrev f85z0 (x1 : List (List UInt8)) (x2 : Int) : Heap := [(2, .cells 48 [vL 1 eS [] x1]), (3, .cells 3 [.int .i64 x2])]
def f85 (x1 : List (List UInt8)) (x2 : Int) : Option (List (List UInt8) × Int) :=
  if (decide (x2 < (1 : Int))) then (
  none
  ) else (
  some (x1, x2)
  )
set_option maxRecDepth 100000 in
theorem f85_ok  (x1 : List (List UInt8)) (x2 : Int) (r : List (List UInt8) × Int) (h : f85 x1 x2 = some r)  : Spec1 Tryz.prog 85 [] [] [] [vL 1 eS [] x1, .int .i64 x2] (.fn (.func 121) [.ptr 3500 0, .ptr 3501 0]) [(3500, .cells 48 [vL 1 eS [] r.1]), (3501, .cells 3 [.int .i64 r.2])] := by
  unfold f85 at h
  refine Spec1.body 0 _ _ Tryz.func85 rfl Tryz.ntmps85 rfl rfl ?_
  refine q4rq [] [] ⟨9, [(2, .ptr 2 0), (3, .ptr 3 0)], (f85z0 x1 x2), [], 0⟩ trivial ?_
  refine AWp.seq ?_
  refine q4rq [] [] ⟨9, [(2, .ptr 2 0), (3, .ptr 3 0), (6, .bool (decide (x2 < (1 : Int))))], (f85z0 x1 x2), [], 0⟩ trivial ?_
  refine AWp.cond (b := (decide (x2 < (1 : Int)))) (by kernel_rfl) (fun hc1 => ?_) (fun hc1 => ?_)
  ·
    replace h := ite_tb hc1 h
    exact nomatch (show (none : Option (List (List UInt8) × Int)) = some r from h)
  ·
    replace h := ite_fb hc1 h
    refine AWp.skip ?_
    refine thenQ_normal ?_
    refine q4rq [] [] ⟨9, [(4, .fn (.func 121) [.ptr 2 0, .ptr 3 0])], (f85z0 x1 x2), [], 0⟩ trivial ?_
    refine AWp.le (Le.trans (Le.ren (swapN 2 3500) (swapN_inv 2 3500) rfl) (Le.mk (s' := ⟨9, [(4, .fn (.func 121) [.ptr 3500 0, .ptr 3 0])], [(3500, .cells 48 [q4aS x1]), (3, .cells 3 [.i x2])], [], 0⟩) rfl rfl ⟨.refl _, trivial⟩ ⟨⟨_, rfl, .refl _⟩, ⟨_, rfl, .refl _⟩, trivial⟩)) ?_
    refine AWp.le (Le.trans (Le.ren (swapN 3 3501) (swapN_inv 3 3501) rfl) (Le.mk (s' := ⟨9, [(4, .fn (.func 121) [.ptr 3500 0, .ptr 3501 0])], [(3500, .cells 48 [q4aS x1]), (3501, .cells 3 [.i x2])], [], 0⟩) rfl rfl ⟨.refl _, trivial⟩ ⟨⟨_, rfl, .refl _⟩, ⟨_, rfl, .refl _⟩, trivial⟩)) ?_
    have hret := Option.some.inj h
    subst hret
    refine AWp.le (Le.mk (s' := ⟨9, [(4, .fn (.func 121) [.ptr 3500 0, .ptr 3501 0])], [(3500, .cells 48 [q4aS x1]), (3501, .cells 3 [.i x2])], [], 0⟩) rfl rfl ⟨.refl _, trivial⟩ ⟨⟨_, rfl, .refl _⟩, ⟨_, rfl, .refl _⟩, trivial⟩) ?_
    refine AWp.ret ?_
    exact bodyQ_ret _ rfl ⟨rfl, rfl⟩ rfl
def f86 (x1 : List UInt8) : Option (Int × Bool) :=
  (f103 x1).bind fun (r2 : Int × Bool) =>
  optc ((!r2.2) == true) (f56 r2.1) fun (r3 : List UInt8) =>
  some (r2.1, ((!r2.2) && (r3 == x1)))
set_option maxRecDepth 100000 in
theorem f86_ok  (x1 : List UInt8) (r : Int × Bool) (h : f86 x1 = some r)  : Spec1 Tryz.prog 86 [(1, .tab .u64 Lib.pow10Tab), (2, errG), (3, errG)] [] [] [.str x1] (.tup [.int .i64 r.1, .bool r.2]) [] := by
  unfold f86 at h
  refine Spec1.body 0 _ _ Tryz.func86 rfl Tryz.ntmps86 rfl rfl ?_
  refine q4rq [] [] ⟨20, [(0, .str x1), (1000001, .tab .u64 Lib.pow10Tab), (1000002, errG), (1000003, errG)], [], [], 0⟩ trivial ?_
  refine AWp.seq ?_
  obtain ⟨r2, hr2, h⟩ := bind_ok h
  refine q4rr [] [(1, ⟨[.str x1], [], [], [], .tup [.i r2.1, .ifc r2.2], [], [], [2, 3]⟩)] ⟨20, [(0, .str x1), (4, .i r2.1), (5, .ifc r2.2), (1000001, .tab .u64 Lib.pow10Tab), (1000002, errG), (1000003, errG)], [], [], 0⟩ (an1 (cpT (f103_ok _ _ hr2))) ?_
  refine thenQ_normal ?_
  refine AWp.seq ?_
  obtain ⟨r3, hr3, h⟩ := optc_some h
  have ob0 := idA (((!r2.2) == true) = true)
  have ob3 := bqA (!r2.2) true
  refine q4rr [] [(2, ⟨[.ifc r2.2, .lit (.nilIface)], [], [], [], .bool (!r2.2), [], [], []⟩), (5, ⟨[.i r2.1], [], [], [], .str r3, [], [], [1]⟩)] ⟨20, [(2, .i r2.1), (3, .bool ((!r2.2) && (r3 == x1))), (1000001, .tab .u64 Lib.pow10Tab), (1000002, errG), (1000003, errG)], [], [], 0⟩ (an4 (And.intro (ifcE_spec (P := Tryz.prog) Tryz.underlying147 (.tmp 12) 147 4 r2.2) (VLes.same [.ifc r2.2, .lit (.nilIface)])) (And.intro (cpC fun hc => (f56_ok _ _ (hr3 hc))) (an1 ob0)) (an2 ob0 ob0) ob3) ?_
  refine thenQ_normal ?_
  have hret := Option.some.inj h
  subst hret
  refine AWp.le (Le.mk (s' := ⟨20, [(2, .i r2.1), (3, .bool ((!r2.2) && (r3 == x1)))], [], [], 0⟩) rfl rfl ⟨.refl _, .refl _, trivial⟩ trivial) ?_
  refine AWp.ret ?_
  exact bodyQ_ret _ rfl ⟨rfl, rfl⟩ rfl
def f121_L0 (Y70002 : (Bool × List (List UInt8) × Int × (List (Int × Int × List UInt8))) → (List (List UInt8)) → Option (Nat × (Bool × List (List UInt8) × Int × (List (Int × Int × List UInt8))))) : Nat → (Int × Int × List (List UInt8) × Bool × (List (Int × Int × List UInt8)) × Nat) → Option (Nat × Bool × List (List UInt8) × Int × (List (Int × Int × List UInt8)))
  | 0, _ => none
  | k + 1, (i5, i6, l7, b8, l9, n10) =>
    if (decide (i5 < (((l7).length : Nat) : Int))) then (
    jn (fun ((i12, l13, b14, l15, n16) : Int × List (List UInt8) × Bool × (List (Int × Int × List UInt8)) × Nat) =>
    chk (-9223372036854775808 ≤ (i5 + i12) ∧ (i5 + i12) ≤ 9223372036854775807) <|
    (f121_L0 Y70002 k) ((i5 + i12), i12, l13, b14, l15, n16)
    ) fun (K1 : (Int × List (List UInt8) × Bool × (List (Int × Int × List UInt8)) × Nat) → Option (Nat × Bool × List (List UInt8) × Int × (List (Int × Int × List UInt8)))) =>
    chk (0 ≤ i5 ∧ i5 ≤ (((l7).length : Nat) : Int)) <|
    chk (n10 = 0) <|
    (Y70002 (b8, l7, i6, l9) ((l7.take (((i5 + (min i6 ((((l7).length - (i5).toNat) : Nat) : Int)))).toNat)).drop ((i5).toNat))).bind fun (r11 : Nat × (Bool × List (List UInt8) × Int × (List (Int × Int × List UInt8)))) =>
    if r11.1 = 0 then (
    chk (-9223372036854775808 ≤ (i5 + (min i6 ((((l7).length - (i5).toNat) : Nat) : Int))) ∧ (i5 + (min i6 ((((l7).length - (i5).toNat) : Nat) : Int))) ≤ 9223372036854775807) <|
    chk (-9223372036854775808 ≤ (i5 + (min i6 ((((l7).length - (i5).toNat) : Nat) : Int))) ∧ (i5 + (min i6 ((((l7).length - (i5).toNat) : Nat) : Int))) ≤ 9223372036854775807) <|
    chk (0 ≤ i5 ∧ i5 ≤ (i5 + (min i6 ((((l7).length - (i5).toNat) : Nat) : Int))) ∧ (i5 + (min i6 ((((l7).length - (i5).toNat) : Nat) : Int))) ≤ (i5 + (min i6 ((((l7).length - (i5).toNat) : Nat) : Int))) ∧ (i5 + (min i6 ((((l7).length - (i5).toNat) : Nat) : Int))) ≤ (((l7).length : Nat) : Int)) <|
    if (!true) then (
    some (0, r11.2.1, r11.2.2.1, r11.2.2.2.1, r11.2.2.2.2)
    ) else (
    K1 (r11.2.2.2.1, r11.2.2.1, r11.2.1, r11.2.2.2.2, 0)
    )
    ) else (
    chk (-9223372036854775808 ≤ (i5 + (min i6 ((((l7).length - (i5).toNat) : Nat) : Int))) ∧ (i5 + (min i6 ((((l7).length - (i5).toNat) : Nat) : Int))) ≤ 9223372036854775807) <|
    chk (-9223372036854775808 ≤ (i5 + (min i6 ((((l7).length - (i5).toNat) : Nat) : Int))) ∧ (i5 + (min i6 ((((l7).length - (i5).toNat) : Nat) : Int))) ≤ 9223372036854775807) <|
    chk (0 ≤ i5 ∧ i5 ≤ (i5 + (min i6 ((((l7).length - (i5).toNat) : Nat) : Int))) ∧ (i5 + (min i6 ((((l7).length - (i5).toNat) : Nat) : Int))) ≤ (i5 + (min i6 ((((l7).length - (i5).toNat) : Nat) : Int))) ∧ (i5 + (min i6 ((((l7).length - (i5).toNat) : Nat) : Int))) ≤ (((l7).length : Nat) : Int)) <|
    if (!false) then (
    some (r11.1, r11.2.1, r11.2.2.1, r11.2.2.2.1, r11.2.2.2.2)
    ) else (
    K1 (r11.2.2.2.1, r11.2.2.1, r11.2.1, r11.2.2.2.2, r11.1)
    )
    )
    ) else (
    some (n10, b8, l7, i6, l9)
    )
abbrev f121z0 (r11 : Nat × (Bool × List (List UInt8) × Int × (List (Int × Int × List UInt8)))) : Heap := [(2, .cells 28 [.nils]), (3, .cells 4 [.bool r11.2.1]), (7, .cells 28 [.own 6200]), (6002, .cells 48 [vL 1 eS [] r11.2.2.1]), (6003, .cells 3 [.int .i64 r11.2.2.2.1]), (6200, bL 45 3 eIIS (default : Int × Int × List UInt8) r11.2.2.2.2)]
abbrev f121z1 (C70002 : YC) (r11 : Nat × (Bool × List (List UInt8) × Int × (List (Int × Int × List UInt8)))) : Heap := [(70002, .yld (some ([2, 3, 7], C70002)) r11.1), (2, .cells 28 [.nils]), (3, .cells 4 [.bool r11.2.1]), (7, .cells 28 [.own 6200]), (6002, .cells 48 [vL 1 eS [] r11.2.2.1]), (6003, .cells 3 [.int .i64 r11.2.2.2.1]), (6200, bL 45 3 eIIS (default : Int × Int × List UInt8) r11.2.2.2.2)]
abbrev f121z2 (C70002 : YC) (r11 : Nat × (Bool × List (List UInt8) × Int × (List (Int × Int × List UInt8)))) : Heap := [(70002, .yld (some ([2, 3, 7], C70002)) 0), (2, .cells 28 [.nils]), (3, .cells 4 [.bool r11.2.1]), (7, .cells 28 [.own 6200]), (6002, .cells 48 [vL 1 eS [] r11.2.2.1]), (6003, .cells 3 [.int .i64 r11.2.2.2.1]), (6200, bL 45 3 eIIS (default : Int × Int × List UInt8) r11.2.2.2.2)]
abbrev f121z3 (l7 : List (List UInt8)) (i5 : Int) (i6 : Int) : List V := [vL 1 eS [] ((l7.take (((i5 + (min i6 ((((l7).length - (i5).toNat) : Nat) : Int)))).toNat)).drop ((i5).toNat))]
abbrev f121z4 (b8 : Bool) (l7 : List (List UInt8)) (i6 : Int) (l9 : List (Int × Int × List UInt8)) (C70002 : YC) (n10 : Nat) : Heap := [(2, .cells 28 [.nils]), (3, .cells 4 [.bool b8]), (7, .cells 28 [.own 6200]), (6002, .cells 48 [vL 1 eS [] l7]), (6003, .cells 3 [.int .i64 i6]), (6200, bL 45 3 eIIS (default : Int × Int × List UInt8) l9), (70002, .yld (some ([2, 3, 7], C70002)) n10)]
abbrev f121z5 (b14 : Bool) (l13 : List (List UInt8)) (i12 : Int) (l15 : List (Int × Int × List UInt8)) (C70002 : YC) (n16 : Nat) : Heap := [(2, .cells 28 [.nils]), (3, .cells 4 [.bool b14]), (7, .cells 28 [.own 6200]), (6002, .cells 48 [vL 1 eS [] l13]), (6003, .cells 3 [.int .i64 i12]), (6200, bL 45 3 eIIS (default : Int × Int × List UInt8) l15), (70002, .yld (some ([2, 3, 7], C70002)) n16)]
abbrev f121z6 (i5 : Int) : List (Nat × V) := [(0, .own 70002), (1, .ptr 6002 0), (2, .ptr 6003 0), (4, .int .i64 i5)]
def f121 (Y70002 : (Bool × List (List UInt8) × Int × (List (Int × Int × List UInt8))) → (List (List UInt8)) → Option (Nat × (Bool × List (List UInt8) × Int × (List (Int × Int × List UInt8))))) (x1 : Bool) (x2 : List (List UInt8)) (x3 : Int) (x4 : List (Int × Int × List UInt8)) : Option (Nat × Bool × List (List UInt8) × Int × (List (Int × Int × List UInt8))) :=
  f121_L0 Y70002 FUEL ((0 : Int), x3, x2, x1, x4, 0)
set_option maxRecDepth 100000 in
theorem f121_ok (C70002 : YC) (Y70002 : (Bool × List (List UInt8) × Int × (List (Int × Int × List UInt8))) → (List (List UInt8)) → Option (Nat × (Bool × List (List UInt8) × Int × (List (Int × Int × List UInt8))))) (x1 : Bool) (x2 : List (List UInt8)) (x3 : Int) (x4 : List (Int × Int × List UInt8)) (r : Nat × Bool × List (List UInt8) × Int × (List (Int × Int × List UInt8))) (h : f121 Y70002 x1 x2 x3 x4 = some r) (hY70002 : ∀ s x r, Y70002 s x = some r → YSpec Tryz.prog 70002 [2, 3, 7] C70002 [2, 3, 7, 6002, 6003] [(2, .cells 28 [.nils]), (3, .cells 4 [.bool s.1]), (7, .cells 28 [.own 6200]), (6002, .cells 48 [vL 1 eS [] s.2.1]), (6003, .cells 3 [.int .i64 s.2.2.1]), (6200, bL 45 3 eIIS (default : Int × Int × List UInt8) s.2.2.2)] [vL 1 eS [] x] r.1 [(2, .cells 28 [.nils]), (3, .cells 4 [.bool r.2.1]), (7, .cells 28 [.own 6200]), (6002, .cells 48 [vL 1 eS [] r.2.2.1]), (6003, .cells 3 [.int .i64 r.2.2.2.1]), (6200, bL 45 3 eIIS (default : Int × Int × List UInt8) r.2.2.2.2)]) : Spec1 Tryz.prog 121 [] [70002, 2, 3, 7, 6002, 6003] [(70002, .yld (some ([2, 3, 7], C70002)) 0), (2, .cells 28 [.nils]), (3, .cells 4 [.bool x1]), (7, .cells 28 [.own 6200]), (6002, .cells 48 [vL 1 eS [] x2]), (6003, .cells 3 [.int .i64 x3]), (6200, bL 45 3 eIIS (default : Int × Int × List UInt8) x4)] [.own 70002, .ptr 6002 0, .ptr 6003 0] (.tup []) [(70002, .yld (some ([2, 3, 7], C70002)) r.1), (2, .cells 28 [.nils]), (3, .cells 4 [.bool r.2.1]), (7, .cells 28 [.own 6200]), (6002, .cells 48 [vL 1 eS [] r.2.2.1]), (6003, .cells 3 [.int .i64 r.2.2.2.1]), (6200, bL 45 3 eIIS (default : Int × Int × List UInt8) r.2.2.2.2)] := by
  unfold f121 at h
  refine Spec1.body 10000 _ _ Tryz.func121 rfl Tryz.ntmps121 rfl rfl ?_
  refine q4rq [] [] ⟨31, [(0, .own 70002), (1, .ptr 6002 0), (2, .ptr 6003 0), (4, .i (0 : Int))], [(2, .cells 28 [.nils]), (3, .cells 4 [.bool x1]), (7, .cells 28 [.own 6200]), (6002, .cells 48 [q4aS x2]), (6003, .cells 3 [.i x3]), (6200, q4bIIS_45 x4), (70002, .yld (some ([2, 3, 7], C70002)) 0)], [70002, 2, 3, 7, 6002, 6003], 10000⟩ trivial ?_
  refine AWp.block ?_
  refine AWp.loopL (α := Nat × (Int × Int × List (List UInt8) × Bool × (List (Int × Int × List UInt8)) × Nat)) (fun x => match x with | (_, i5, i6, l7, b8, l9, n10) => ⟨31, (f121z6 i5), (f121z4 b8 l7 i6 l9 C70002 n10), [70002, 2, 3, 7, 6002, 6003], 10000⟩) (fun x => f121_L0 Y70002 x.1 x.2 = some r) (fun x => x.1) (FUEL, (0 : Int), x3, x2, x1, x4, 0) (Le.mk (s' := ⟨31, [(0, .own 70002), (1, .ptr 6002 0), (2, .ptr 6003 0), (4, .i (0 : Int))], [(2, .cells 28 [.nils]), (3, .cells 4 [.bool x1]), (7, .cells 28 [.own 6200]), (6002, .cells 48 [q4aS x2]), (6003, .cells 3 [.i x3]), (6200, q4bIIS_45 x4), (70002, .yld (some ([2, 3, 7], C70002)) 0)], [70002, 2, 3, 7, 6002, 6003], 10000⟩) rfl rfl ⟨.refl _, .refl _, .refl _, .refl _, trivial⟩ ⟨⟨_, rfl, .refl _⟩, ⟨_, rfl, .refl _⟩, ⟨_, rfl, .refl _⟩, ⟨_, rfl, .refl _⟩, ⟨_, rfl, .refl _⟩, ⟨_, rfl, .refl _⟩, ⟨_, rfl, .refl _⟩, trivial⟩) h ?_
  rintro ⟨k0, i5, i6, l7, b8, l9, n10⟩ h
  cases k0 with
  | zero => exact nomatch (show (none : Option (Nat × Bool × List (List UInt8) × Int × (List (Int × Int × List UInt8)))) = some r from h)
  | succ k0 =>
  obtain ⟨C0, hC0⟩ : ∃ C, C = f121_L0 Y70002 k0 := ⟨_, rfl⟩
  replace h := (f121_L0.eq_2 ..).symm.trans h
  try rw [← hC0] at h
  refine AWp.seq ?_
  refine q4rq [] [] ⟨31, [(0, .own 70002), (1, .ptr 6002 0), (2, .ptr 6003 0), (4, .i i5), (9, .bool (decide (i5 < (lZ l7))))], (f121z4 b8 l7 i6 l9 C70002 n10), [70002, 2, 3, 7, 6002, 6003], 10000⟩ trivial ?_
  refine AWp.cond (b := (decide (i5 < (lZ l7)))) (by kernel_rfl) (fun hc1 => ?_) (fun hc1 => ?_)
  ·
    replace h := ite_tb hc1 h
    refine AWp.skip ?_
    refine thenQ_normal ?_
    obtain ⟨K1, hK1, h⟩ := jn_some h
    refine AWp.join (α := Int × List (List UInt8) × Bool × (List (Int × Int × List UInt8)) × Nat) (fun (x : Int × List (List UInt8) × Bool × (List (Int × Int × List UInt8)) × Nat) => match x with | (i12, l13, b14, l15, n16) => ⟨31, (f121z6 i5), (f121z5 b14 l13 i12 l15 C70002 n16), [70002, 2, 3, 7, 6002, 6003], 10000⟩) (fun x => K1 x = some r) ?_ ?_
    ·
      refine AWp.block ?_
      refine AWp.seq ?_
      obtain ⟨ob0, h⟩ := chk_some h
      refine q4rr [] [] ⟨31, [(0, .own 70002), (1, .ptr 6002 0), (2, .ptr 6003 0), (4, .i i5), (5, .i (min i6 ((((l7).length - (i5).toNat) : Nat) : Int)))], (f121z4 b8 l7 i6 l9 C70002 n10), [70002, 2, 3, 7, 6002, 6003], 10000⟩ (an1 ob0) ?_
      refine thenQ_normal ?_
      refine AWp.seq ?_
      obtain ⟨hz2, h⟩ := chk_some h
      refine AWp.le (Le.mk (s' := ⟨31, [(0, .own 70002), (1, .ptr 6002 0), (2, .ptr 6003 0), (4, .i i5), (5, .i (min i6 ((((l7).length - (i5).toNat) : Nat) : Int)))], [(2, .cells 28 [.nils]), (3, .cells 4 [.bool b8]), (7, .cells 28 [.own 6200]), (6002, .cells 48 [q4aS l7]), (6003, .cells 3 [.i i6]), (6200, q4bIIS_45 l9), (70002, .yld (some ([2, 3, 7], C70002)) 0)], [70002, 2, 3, 7, 6002, 6003], 10000⟩) rfl rfl ⟨.refl _, .refl _, .refl _, .refl _, .refl _, trivial⟩ ⟨⟨_, rfl, .refl _⟩, ⟨_, rfl, .refl _⟩, ⟨_, rfl, .refl _⟩, ⟨_, rfl, .refl _⟩, ⟨_, rfl, .refl _⟩, ⟨_, rfl, .refl _⟩, ⟨_, rfl, BLe.yldEq hz2⟩, trivial⟩) ?_
      obtain ⟨r11, hr11, h⟩ := bind_ok h
      by_cases hy_r11 : r11.1 = 0
      ·
        replace h := ite_t hy_r11 h
        obtain ⟨ob1, ob2, ob3, h⟩ := ck3 h
        refine q4rr [] [(10, ⟨(f121z3 l7 i5 i6), [70002, 2, 3, 7, 6002, 6003, 6200], [2, 3, 7, 6002, 6003], (f121z2 C70002 r11), .bool true, [6200], [], []⟩)] ⟨31, [(0, .own 70002), (1, .ptr 6002 0), (2, .ptr 6003 0), (4, .i i5), (30, .bool (!true))], [(2, .cells 28 [.nils]), (3, .cells 4 [.bool r11.2.1]), (7, .cells 28 [.own 6200]), (6002, .cells 48 [q4aS r11.2.2.1]), (6003, .cells 3 [.i r11.2.2.2.1]), (6200, q4bIIS_45 r11.2.2.2.2), (70002, .yld (some ([2, 3, 7], C70002)) 0)], [70002, 2, 3, 7, 6002, 6003], 10000⟩ (an4 ob1 ob2 ob3 (show (((f121z2 C70002 r11) : Heap) = (70002, .yld (some ([2, 3, 7], C70002)) 0) :: (f121z0 r11) ∧ V.bool true = V.bool (0 == 0) ∧ YSpec Tryz.prog 70002 [2, 3, 7] C70002 [2, 3, 7, 6002, 6003] [(2, .cells 28 [.nils]), (3, .cells 4 [.bool b8]), (7, .cells 28 [.own 6200]), (6002, .cells 48 [q4aS l7]), (6003, .cells 3 [.i i6]), (6200, q4bIIS_45 l9)] (f121z3 l7 i5 i6) 0 (f121z0 r11) ∧ VLes [.arr 1 (((i5 + (min i6 ((((l7).length - (i5).toNat) : Nat) : Int)))).toNat - (i5).toNat) (fun i j => (encF eS [] l7) (i + ((i5).toNat)) j)] (f121z3 l7 i5 i6)) from ⟨rfl, rfl, (YSpec.zero (hY70002 _ _ r11 hr11) hy_r11), ⟨(VLe.subL (by first | omega | (simp only [List.length_append, List.length_cons, List.length_nil, List.length_take, List.length_drop] at *; omega) | (simp; done) | (simp_all; done) | (simp_all; omega) | rfl)), trivial⟩⟩)) ?_
        refine thenQ_normal ?_
        refine AWp.cond (b := (!true)) (by kernel_rfl) (fun hc4 => ?_) (fun hc4 => ?_)
        ·
          replace h := ite_tb hc4 h
          have hret := Option.some.inj h
          subst hret
          refine AWp.le (Le.mk (s' := ⟨31, [], (f121z2 C70002 r11), [70002, 2, 3, 7, 6002, 6003], 10000⟩) rfl rfl trivial ⟨⟨_, rfl, .refl _⟩, ⟨_, rfl, .refl _⟩, ⟨_, rfl, .refl _⟩, ⟨_, rfl, .refl _⟩, ⟨_, rfl, .refl _⟩, ⟨_, rfl, .refl _⟩, ⟨_, rfl, .refl _⟩, trivial⟩) ?_
          refine AWp.ret ?_
          refine blockQ_ret ?_
          refine joinQ_ret ?_
          refine thenQ_ret ?_
          refine blockQ_ret ?_
          exact bodyQ_ret _ rfl ⟨rfl, rfl⟩ rfl
        ·
          replace h := ite_fb hc4 h
          refine AWp.skip ?_
          refine blockQ_normal ?_
          exact joinQ_normal (r11.2.2.2.1, r11.2.2.1, r11.2.1, r11.2.2.2.2, 0) (Le.mk rfl rfl ⟨.refl _, .refl _, .refl _, .refl _, trivial⟩ ⟨⟨_, rfl, .refl _⟩, ⟨_, rfl, .refl _⟩, ⟨_, rfl, .refl _⟩, ⟨_, rfl, .refl _⟩, ⟨_, rfl, .refl _⟩, ⟨_, rfl, .refl _⟩, ⟨_, rfl, .refl _⟩, trivial⟩) h
      ·
        replace h := ite_f hy_r11 h
        obtain ⟨ob1, ob2, ob3, h⟩ := ck3 h
        refine q4rr [] [(10, ⟨(f121z3 l7 i5 i6), [70002, 2, 3, 7, 6002, 6003, 6200], [2, 3, 7, 6002, 6003], (f121z1 C70002 r11), .bool false, [6200], [], []⟩)] ⟨31, [(0, .own 70002), (1, .ptr 6002 0), (2, .ptr 6003 0), (4, .i i5), (30, .bool (!false))], [(2, .cells 28 [.nils]), (3, .cells 4 [.bool r11.2.1]), (7, .cells 28 [.own 6200]), (6002, .cells 48 [q4aS r11.2.2.1]), (6003, .cells 3 [.i r11.2.2.2.1]), (6200, q4bIIS_45 r11.2.2.2.2), (70002, .yld (some ([2, 3, 7], C70002)) r11.1)], [70002, 2, 3, 7, 6002, 6003], 10000⟩ (an4 ob1 ob2 ob3 (show (((f121z1 C70002 r11) : Heap) = (70002, .yld (some ([2, 3, 7], C70002)) r11.1) :: (f121z0 r11) ∧ V.bool false = V.bool (r11.1 == 0) ∧ YSpec Tryz.prog 70002 [2, 3, 7] C70002 [2, 3, 7, 6002, 6003] [(2, .cells 28 [.nils]), (3, .cells 4 [.bool b8]), (7, .cells 28 [.own 6200]), (6002, .cells 48 [q4aS l7]), (6003, .cells 3 [.i i6]), (6200, q4bIIS_45 l9)] (f121z3 l7 i5 i6) r11.1 (f121z0 r11) ∧ VLes [.arr 1 (((i5 + (min i6 ((((l7).length - (i5).toNat) : Nat) : Int)))).toNat - (i5).toNat) (fun i j => (encF eS [] l7) (i + ((i5).toNat)) j)] (f121z3 l7 i5 i6)) from ⟨rfl, bool_ne hy_r11, (hY70002 _ _ r11 hr11), ⟨(VLe.subL (by first | omega | (simp only [List.length_append, List.length_cons, List.length_nil, List.length_take, List.length_drop] at *; omega) | (simp; done) | (simp_all; done) | (simp_all; omega) | rfl)), trivial⟩⟩)) ?_
        refine thenQ_normal ?_
        refine AWp.cond (b := (!false)) (by kernel_rfl) (fun hc5 => ?_) (fun hc5 => ?_)
        ·
          replace h := ite_tb hc5 h
          have hret := Option.some.inj h
          subst hret
          refine AWp.le (Le.mk (s' := ⟨31, [], (f121z1 C70002 r11), [70002, 2, 3, 7, 6002, 6003], 10000⟩) rfl rfl trivial ⟨⟨_, rfl, .refl _⟩, ⟨_, rfl, .refl _⟩, ⟨_, rfl, .refl _⟩, ⟨_, rfl, .refl _⟩, ⟨_, rfl, .refl _⟩, ⟨_, rfl, .refl _⟩, ⟨_, rfl, .refl _⟩, trivial⟩) ?_
          refine AWp.ret ?_
          refine blockQ_ret ?_
          refine joinQ_ret ?_
          refine thenQ_ret ?_
          refine blockQ_ret ?_
          exact bodyQ_ret _ rfl ⟨rfl, rfl⟩ rfl
        ·
          replace h := ite_fb hc5 h
          refine AWp.skip ?_
          refine blockQ_normal ?_
          exact joinQ_normal (r11.2.2.2.1, r11.2.2.1, r11.2.1, r11.2.2.2.2, r11.1) (Le.mk rfl rfl ⟨.refl _, .refl _, .refl _, .refl _, trivial⟩ ⟨⟨_, rfl, .refl _⟩, ⟨_, rfl, .refl _⟩, ⟨_, rfl, .refl _⟩, ⟨_, rfl, .refl _⟩, ⟨_, rfl, .refl _⟩, ⟨_, rfl, .refl _⟩, ⟨_, rfl, .refl _⟩, trivial⟩) h
    ·
      rintro ⟨i12, l13, b14, l15, n16⟩ h
      replace h := (congrFun hK1 _).symm.trans h
      obtain ⟨ob4, h⟩ := chk_some h
      refine q4rr [] [] ⟨31, [(0, .own 70002), (1, .ptr 6002 0), (2, .ptr 6003 0), (4, .i (i5 + i12))], (f121z5 b14 l13 i12 l15 C70002 n16), [70002, 2, 3, 7, 6002, 6003], 10000⟩ (an1 ob4) ?_
      rw [hC0] at h
      exact loopQ_normal (_, (i5 + i12), i12, l13, b14, l15, n16) (Le.mk rfl rfl ⟨.refl _, .refl _, .refl _, .refl _, trivial⟩ ⟨⟨_, rfl, .refl _⟩, ⟨_, rfl, .refl _⟩, ⟨_, rfl, .refl _⟩, ⟨_, rfl, .refl _⟩, ⟨_, rfl, .refl _⟩, ⟨_, rfl, .refl _⟩, ⟨_, rfl, .refl _⟩, trivial⟩) h (Nat.lt_succ_self _)
  ·
    replace h := ite_fb hc1 h
    refine AWp.exit ?_
    refine thenQ_exit ?_
    refine thenQ_exit ?_
    refine blockQ_same ?_
    have hret := Option.some.inj h
    subst hret
    exact bodyQ_le (Le.mk (s' := ⟨31, [], [(70002, .yld (some ([2, 3, 7], C70002)) n10), (2, .cells 28 [.nils]), (3, .cells 4 [.bool b8]), (7, .cells 28 [.own 6200]), (6002, .cells 48 [q4aS l7]), (6003, .cells 3 [.i i6]), (6200, q4bIIS_45 l9)], [70002, 2, 3, 7, 6002, 6003], 10000⟩) rfl rfl trivial ⟨⟨_, rfl, .refl _⟩, ⟨_, rfl, .refl _⟩, ⟨_, rfl, .refl _⟩, ⟨_, rfl, .refl _⟩, ⟨_, rfl, .refl _⟩, ⟨_, rfl, .refl _⟩, ⟨_, rfl, .refl _⟩, trivial⟩) (bodyQ_normal _ rfl ⟨rfl, rfl⟩ rfl)
def f48_Y70002 : (Bool × List (List UInt8) × Int × (List (Int × Int × List UInt8))) → (List (List UInt8)) → Option (Nat × (Bool × List (List UInt8) × Int × (List (Int × Int × List UInt8))))
  | (b6, l5, i4, l7), x8 =>
    (f86 (x8.getD 0 [])).bind fun (r9 : Int × Bool) =>
    chk ((0 : Int) < (((x8).length : Nat) : Int)) <|
    (f86 (x8.getD 1 [])).bind fun (r10 : Int × Bool) =>
    chk ((1 : Int) < (((x8).length : Nat) : Int)) <|
    optc (((!r9.2) || (!r10.2)) == false) (f34 r9.1 r10.1) fun (r11 : Bool) =>
    chk (((((!r9.2) || (!r10.2)) || (!r11)) == false) = true → 0 ≤ (2 : Int) ∧ (2 : Int) < (((x8).length : Nat) : Int)) <|
    chk (((((((!r9.2) || (!r10.2)) || (!r11)) || (decide ((((x8.getD 2 []).length : Nat) : Int) > (400 : Int)))) == false) && ((decide ((((l7).length : Nat) : Int) > (0 : Int))) == true)) = true → -9223372036854775808 ≤ ((((l7).length : Nat) : Int) - (1 : Int)) ∧ ((((l7).length : Nat) : Int) - (1 : Int)) ≤ 9223372036854775807) <|
    chk (((((((!r9.2) || (!r10.2)) || (!r11)) || (decide ((((x8.getD 2 []).length : Nat) : Int) > (400 : Int)))) == false) && ((decide ((((l7).length : Nat) : Int) > (0 : Int))) == true)) = true → 0 ≤ ((((l7).length : Nat) : Int) - (1 : Int)) ∧ ((((l7).length : Nat) : Int) - (1 : Int)) < (((l7).length : Nat) : Int)) <|
    chk (((((((!r9.2) || (!r10.2)) || (!r11)) || (decide ((((x8.getD 2 []).length : Nat) : Int) > (400 : Int)))) == false) && ((decide ((((l7).length : Nat) : Int) > (0 : Int))) == true)) = true → ((((((l7).length : Nat) : Int) - (1 : Int))).toNat) < (l7).length) <|
    chk ((((((!r9.2) || (!r10.2)) || (!r11)) || (decide ((((x8.getD 2 []).length : Nat) : Int) > (400 : Int)))) == false) = true → (((((!r9.2) || (!r10.2)) || (!r11)) || (decide ((((x8.getD 2 []).length : Nat) : Int) > (400 : Int)))) == false) = true → (decide ((((l7).length : Nat) : Int) > (0 : Int))) = true → ((((((!r9.2) || (!r10.2)) || (!r11)) || (decide ((((x8.getD 2 []).length : Nat) : Int) > (400 : Int)))) == false) && ((decide ((((l7).length : Nat) : Int) > (0 : Int))) == true)) = true) <|
    if (((((!r9.2) || (!r10.2)) || (!r11)) || (decide ((((x8.getD 2 []).length : Nat) : Int) > (400 : Int)))) || ((decide ((((l7).length : Nat) : Int) > (0 : Int))) && (decide ((l7.getD ((((((l7).length : Nat) : Int) - (1 : Int))).toNat) (default : Int × Int × List UInt8)).1 ≥ r9.1)))) then (
    some (2, (false, l5, i4, l7))
    ) else (
    chk ((2 : Int) < (((x8).length : Nat) : Int)) <|
    chk (((l7).length + 1) * 32 ≤ 140737488355328) <|
    some (0, (b6, l5, i4, (l7 ++ [(r9.1, r10.1, (x8.getD 2 []))])))
    )
abbrev f48z0 (b6 : Bool) (l5 : List (List UInt8)) (i4 : Int) (l7 : List (Int × Int × List UInt8)) : Heap := [(2, .cells 28 [.nils]), (3, .cells 4 [.bool b6]), (7, .cells 28 [.own 6200]), (6002, .cells 48 [vL 1 eS [] l5]), (6003, .cells 3 [.int .i64 i4]), (6200, bL 45 3 eIIS (default : Int × Int × List UInt8) l7)]
abbrev f48z1 (r9 : Int × Bool) (r10 : Int × Bool) (r11 : Bool) := (((!r9.2) || (!r10.2)) || (!r11))
abbrev f48z2 (r3 : List (List UInt8) × Int) : Heap := [(2, .cells 28 [.nils]), (3, .cells 4 [.bool false]), (7, .cells 28 [.own 6200]), (6002, .cells 48 [vL 1 eS [] r3.1]), (6003, .cells 3 [.int .i64 r3.2]), (6200, bL 45 3 eIIS (default : Int × Int × List UInt8) [])]
abbrev f48z3 : List (Nat × V) := [(2, .ptr 2 0), (3, .ptr 3 0), (1000001, .tab .u64 Lib.pow10Tab), (1000002, errG), (1000003, errG)]
abbrev f48z4 (r2 : Int × Int × List (List UInt8)) := (r2.2.1 != (0 : Int))
abbrev f48z5 : List V := [.ptr 6002 0, .ptr 6003 0]
abbrev f48z6 : List (Nat × V) := [(1000001, .tab .u64 Lib.pow10Tab), (1000002, errG), (1000003, errG)]
def f48 (x1 : List UInt8) : Option ((List (Int × Int × List UInt8)) × Bool) :=
  (f84 x1).bind fun (r2 : Int × Int × List (List UInt8)) =>
  chk ((((r2.2.1 != (0 : Int)) || (r2.1 != ((x1.length : Nat) : Int))) == false) = true → 0 ≤ (((r2.2.2).length : Nat) : Int) ∧ 1 ≤ (3 : Int)) <|
  if (((r2.2.1 != (0 : Int)) || (r2.1 != ((x1.length : Nat) : Int))) || (((((r2.2.2).length % 3) : Nat) : Int) != (0 : Int))) then (
  some ([], false)
  ) else (
  (f85 r2.2.2 (3 : Int)).bind fun (r3 : List (List UInt8) × Int) =>
  (f121 f48_Y70002 false r3.1 r3.2 []).bind fun (r12 : Nat × Bool × List (List UInt8) × Int × (List (Int × Int × List UInt8))) =>
  chk (r12.1 ≠ 1) <|
  if r12.1 = 0 then (
  some (r12.2.2.2.2, true)
  ) else (
  if r12.1 = 2 then (
  some ([], r12.2.1)
  ) else (
  none
  )
  )
  )
set_option maxRecDepth 100000 in
theorem f48_ok  (x1 : List UInt8) (r : (List (Int × Int × List UInt8)) × Bool) (h : f48 x1 = some r)  : Spec1 Tryz.prog 48 [(1, .tab .u64 Lib.pow10Tab), (2, errG), (3, errG)] [] [] [.str x1] (.tup [vL 3 eIIS (default : Int × Int × List UInt8) r.1, .bool r.2]) [] := by
  unfold f48 at h
  refine Spec1.bodyD [2, 3] 0 _ _ Tryz.func48 rfl Tryz.ntmps48 rfl rfl ?_
  refine q4rq [] [] ⟨95, [(0, .str x1), (2, .ptr 2 0), (3, .ptr 3 0), (1000001, .tab .u64 Lib.pow10Tab), (1000002, errG), (1000003, errG)], [(2, .cells 28 [.nils]), (3, .cells 4 [.bool false])], [], 0⟩ trivial ?_
  refine AWp.seq ?_
  obtain ⟨r2, hr2, h⟩ := bind_ok h
  refine q4rr [] [(1, ⟨[.str x1], [], [], [(6001, q4bS_9 r2.2.2)], .tup [.own 6001, .i r2.1, .i r2.2.1], [6001], [], []⟩)] ⟨95, [(0, .str x1), (2, .ptr 2 0), (3, .ptr 3 0), (4, .own 6001), (5, .i r2.1), (6, .i r2.2.1), (1000001, .tab .u64 Lib.pow10Tab), (1000002, errG), (1000003, errG)], [(2, .cells 28 [.nils]), (3, .cells 4 [.bool false]), (6001, q4bS_9 r2.2.2)], [], 0⟩ (an1 (cpT (Spec1.ren (swapN 3000 6001) (swapN_inv 3000 6001) rfl (f84_ok _ _ hr2)))) ?_
  refine thenQ_normal ?_
  refine AWp.seq ?_
  refine AWp.seq ?_
  have ob0 := idA (((f48z4 r2) == false) = true)
  have ob3 := bqA (f48z4 r2) false
  have ob4 := idA ((((f48z4 r2) || (r2.1 != (lZ x1))) == false) = true)
  obtain ⟨ob5, h⟩ := chk_some h
  have ob8 := bqA ((f48z4 r2) || (r2.1 != (lZ x1))) false
  refine q4rr [] [] ⟨95, [(2, .ptr 2 0), (3, .ptr 3 0), (4, .own 6001), (32, .bool (((f48z4 r2) || (r2.1 != (lZ x1))) || (((((r2.2.2).length % 3) : Nat) : Int) != (0 : Int)))), (1000001, .tab .u64 Lib.pow10Tab), (1000002, errG), (1000003, errG)], [(2, .cells 28 [.nils]), (3, .cells 4 [.bool false]), (6001, q4bS_9 r2.2.2)], [], 0⟩ (ac6 (an1 ob0) (an2 ob0 ob0) ob3 (an1 ob4) (And.intro ob5 (an1 ob4)) (an1 ob4) (an1 ob8)) ?_
  refine thenQ_normal ?_
  refine AWp.cond (b := (((f48z4 r2) || (r2.1 != (lZ x1))) || (((((r2.2.2).length % 3) : Nat) : Int) != (0 : Int)))) (by kernel_rfl) (fun hc1 => ?_) (fun hc1 => ?_)
  ·
    replace h := ite_tb hc1 h
    refine q4rq [] [] ⟨95, (f48z3), [(2, .cells 28 [.nils]), (3, .cells 4 [.bool false])], [], 0⟩ (an2 trivial trivial) ?_
    have hret := Option.some.inj h
    subst hret
    refine AWp.le (Le.mk (s' := ⟨95, [(2, .ptr 2 0), (3, .ptr 3 0)], [(2, .cells 28 [q4aIIS []]), (3, .cells 4 [.bool false])], [], 0⟩) rfl rfl ⟨.refl _, .refl _, trivial⟩ ⟨⟨_, rfl, (.cellsL ⟨.nilL, trivial⟩)⟩, ⟨_, rfl, .refl _⟩, trivial⟩) ?_
    refine AWp.ret ?_
    refine thenQ_ret ?_
    exact bodyQ_ret _ rfl ⟨rfl, rfl⟩ rfl
  ·
    replace h := ite_fb hc1 h
    refine AWp.skip ?_
    refine thenQ_normal ?_
    refine q4rq [] [] ⟨95, [(2, .ptr 2 0), (3, .ptr 3 0), (4, .own 6001), (7, .ptr 7 0), (1000001, .tab .u64 Lib.pow10Tab), (1000002, errG), (1000003, errG)], [(2, .cells 28 [.nils]), (3, .cells 4 [.bool false]), (7, .cells 28 [.nils]), (6001, q4bS_9 r2.2.2)], [], 0⟩ trivial ?_
    refine AWp.seq ?_
    refine AWp.seq ?_
    refine AWp.le (Le.trans (Le.freeze 6001 rfl rfl) (Le.mk (s' := ⟨95, [(2, .ptr 2 0), (3, .ptr 3 0), (4, q4aS r2.2.2), (7, .ptr 7 0), (1000001, .tab .u64 Lib.pow10Tab), (1000002, errG), (1000003, errG)], [(2, .cells 28 [.nils]), (3, .cells 4 [.bool false]), (7, .cells 28 [.nils])], [], 0⟩) rfl rfl ⟨.refl _, .refl _, .refl _, .refl _, .refl _, .refl _, .refl _, trivial⟩ ⟨⟨_, rfl, .refl _⟩, ⟨_, rfl, .refl _⟩, ⟨_, rfl, .refl _⟩, trivial⟩)) ?_
    obtain ⟨r3, hr3, h⟩ := bind_ok h
    refine q4rr [] [(1, ⟨[q4aS r2.2.2, .i (3 : Int)], [], [], [(6002, .cells 48 [q4aS r3.1]), (6003, .cells 3 [.i r3.2])], .fn (.func 121) (f48z5), [6002, 6003], [], []⟩)] ⟨95, [(2, .ptr 2 0), (3, .ptr 3 0), (7, .ptr 7 0), (34, .fn (.func 121) (f48z5)), (1000001, .tab .u64 Lib.pow10Tab), (1000002, errG), (1000003, errG)], [(2, .cells 28 [.nils]), (3, .cells 4 [.bool false]), (7, .cells 28 [.nils]), (6002, .cells 48 [q4aS r3.1]), (6003, .cells 3 [.i r3.2])], [], 0⟩ (an1 (cpT (Spec1.ren (swapN 3501 6003) (swapN_inv 3501 6003) rfl (Spec1.ren (swapN 3500 6002) (swapN_inv 3500 6002) rfl (f85_ok _ _ _ hr3))))) ?_
    refine thenQ_normal ?_
    refine AWp.block ?_
    refine AWp.le (Le.trans (Le.trans (Le.nilOwnC 7 0 6200 45 3 (encF eIIS q4dIIS []) rfl rfl rfl) (Le.mk (s' := ⟨95, [(2, .ptr 2 0), (3, .ptr 3 0), (7, .ptr 7 0), (34, .fn (.func 121) (f48z5)), (1000001, .tab .u64 Lib.pow10Tab), (1000002, errG), (1000003, errG)], (f48z2 r3), [], 0⟩) rfl rfl ⟨.refl _, .refl _, .refl _, .refl _, .refl _, .refl _, .refl _, trivial⟩ ⟨⟨_, rfl, .refl _⟩, ⟨_, rfl, .refl _⟩, ⟨_, rfl, .refl _⟩, ⟨_, rfl, .refl _⟩, ⟨_, rfl, .refl _⟩, ⟨_, rfl, .refl _⟩, trivial⟩)) (Le.mk (s' := ⟨95, [(2, .ptr 2 0), (3, .ptr 3 0), (7, .ptr 7 0), (34, .fn (.func 121) (f48z5)), (1000001, .tab .u64 Lib.pow10Tab), (1000002, errG), (1000003, errG)], (f48z2 r3), [], 0⟩) rfl rfl ⟨.refl _, .refl _, .refl _, .refl _, .refl _, .refl _, .refl _, trivial⟩ ⟨⟨_, rfl, .refl _⟩, ⟨_, rfl, .refl _⟩, ⟨_, rfl, .refl _⟩, ⟨_, rfl, .refl _⟩, ⟨_, rfl, .refl _⟩, ⟨_, rfl, .refl _⟩, trivial⟩)) ?_
    obtain ⟨r12, hr12, h⟩ := bind_ok h
    obtain ⟨hkr12, h⟩ := chk_some h
    refine AWp.rangeFunc (s := ⟨95, [(2, .ptr 2 0), (3, .ptr 3 0), (7, .ptr 7 0), (34, .fn (.func 121) (f48z5)), (1000001, .tab .u64 Lib.pow10Tab), (1000002, errG), (1000003, errG)], (f48z2 r3), [], 0⟩) 70002 [2, 3, 7] [2, 3, 7, 1000001, 1000002, 1000003] [.ret] 121 (f48z5) ⟨[.own 70002, .ptr 6002 0, .ptr 6003 0], [2, 3, 7, 6002, 6003, 6200], [70002, 2, 3, 7, 6002, 6003], [], .tup [], [6200], [], []⟩ r12.1 [(2, .cells 28 [.nils]), (3, .cells 4 [.bool r12.2.1]), (7, .cells 28 [.own 6200]), (6002, .cells 48 [q4aS r12.2.2.1]), (6003, .cells 3 [.i r12.2.2.2.1]), (6200, q4bIIS_45 r12.2.2.2.2)] ⟨95, [(2, .ptr 2 0), (3, .ptr 3 0), (7, .ptr 7 0), (34, .fn (.func 121) (f48z5)), (1000001, .tab .u64 Lib.pow10Tab), (1000002, errG), (1000003, errG)], [(2, .cells 28 [.nils]), (3, .cells 4 [.bool r12.2.1]), (7, .cells 28 [.own 6200]), (6002, .cells 48 [q4aS r12.2.2.1]), (6003, .cells 3 [.i r12.2.2.2.1]), (6200, q4bIIS_45 r12.2.2.2.2)], [], 0⟩ rfl (by kernel_rfl) (by kernel_rfl) (fun g0 => ?_) (fun C => (by kernel_rfl)) (by kernel_rfl) (by kernel_rfl) (by kernel_rfl) (by kernel_rfl) hkr12 (by kernel_rfl) ?_ ?_
    ·
      refine ⟨fun _ => (f121_ok _ f48_Y70002 false r3.1 r3.2 [] r12 hr12 ?_), fun _ => ⟨.refl _, .refl _, .refl _, trivial⟩, .inl rfl⟩
      clear h
      rintro ⟨b6, l5, i4, l7⟩ x8 rY70002 h
      replace h := (f48_Y70002.eq_1 ..).symm.trans h
      refine YSpec.body 0 rfl (of_decide_eq_true (by kernel_rfl)) (of_decide_eq_true (by kernel_rfl)) (within_tget (by kernel_rfl)) (by kernel_rfl) (by kernel_rfl) (by kernel_rfl) (by kernel_rfl) ?_
      refine AWp.le (Le.mk (s' := ⟨95, [(35, q4aS x8), (2, .ptr 2 0), (3, .ptr 3 0), (7, .ptr 7 0), (1000001, .tab .u64 Lib.pow10Tab), (1000002, errG), (1000003, errG)], (f48z0 b6 l5 i4 l7), [2, 3, 7, 6002, 6003], 0⟩) rfl rfl ⟨.refl _, .refl _, .refl _, .refl _, .refl _, .refl _, .refl _, trivial⟩ ⟨⟨_, rfl, .refl _⟩, ⟨_, rfl, .refl _⟩, ⟨_, rfl, .refl _⟩, ⟨_, rfl, .refl _⟩, ⟨_, rfl, .refl _⟩, ⟨_, rfl, .refl _⟩, trivial⟩) ?_
      refine q4rr [] [] ⟨95, [(2, .ptr 2 0), (3, .ptr 3 0), (7, .ptr 7 0), (8, q4aS x8), (1000001, .tab .u64 Lib.pow10Tab), (1000002, errG), (1000003, errG)], (f48z0 b6 l5 i4 l7), [2, 3, 7, 6002, 6003], 0⟩ trivial ?_
      refine ⟨rfl, rfl, ?_⟩
      refine AWp.block ?_
      refine AWp.seq ?_
      obtain ⟨r9, hr9, h⟩ := bind_ok h
      obtain ⟨ob9p, h⟩ := chk_some h
      have ob9 : 0 ≤ (0 : Int) ∧ (0 : Int) < (((x8).length : Nat) : Int) := ⟨by omega, ob9p⟩
      refine q4rr [] [(3, ⟨[.str (x8.getD 0 [])], [], [], [], .tup [.i r9.1, .bool r9.2], [], [], [1, 2, 3]⟩)] ⟨95, [(2, .ptr 2 0), (3, .ptr 3 0), (7, .ptr 7 0), (8, q4aS x8), (9, .i r9.1), (10, .bool r9.2), (1000001, .tab .u64 Lib.pow10Tab), (1000002, errG), (1000003, errG)], (f48z0 b6 l5 i4 l7), [2, 3, 7, 6002, 6003], 0⟩ (an2 ob9 (cpT (f86_ok _ _ hr9))) ?_
      refine thenQ_normal ?_
      refine AWp.seq ?_
      obtain ⟨r10, hr10, h⟩ := bind_ok h
      obtain ⟨ob10p, h⟩ := chk_some h
      have ob10 : 0 ≤ (1 : Int) ∧ (1 : Int) < (((x8).length : Nat) : Int) := ⟨by omega, ob10p⟩
      refine q4rr [] [(3, ⟨[.str (x8.getD 1 [])], [], [], [], .tup [.i r10.1, .bool r10.2], [], [], [1, 2, 3]⟩)] ⟨95, [(2, .ptr 2 0), (3, .ptr 3 0), (7, .ptr 7 0), (8, q4aS x8), (9, .i r9.1), (10, .bool r9.2), (11, .i r10.1), (12, .bool r10.2), (1000001, .tab .u64 Lib.pow10Tab), (1000002, errG), (1000003, errG)], (f48z0 b6 l5 i4 l7), [2, 3, 7, 6002, 6003], 0⟩ (an2 ob10 (cpT (f86_ok _ _ hr10))) ?_
      refine thenQ_normal ?_
      refine AWp.seq ?_
      refine AWp.seq ?_
      obtain ⟨r11, hr11, h⟩ := optc_some h
      have ob11 := idA (((!r9.2) == false) = true)
      have ob12 := bqA (!r9.2) false
      have ob13 := idA ((((!r9.2) || (!r10.2)) == false) = true)
      have ob16 := bqA ((!r9.2) || (!r10.2)) false
      obtain ⟨ob17, h⟩ := chk_some h
      have ob18 := idA (((f48z1 r9 r10 r11) == false) = true)
      have ob22 := bqA (f48z1 r9 r10 r11) false
      have ob23 := idA ((((f48z1 r9 r10 r11) || (decide ((((x8.getD 2 []).length : Nat) : Int) > (400 : Int)))) == false) = true)
      have ob26 := idA (((((f48z1 r9 r10 r11) || (decide ((((x8.getD 2 []).length : Nat) : Int) > (400 : Int)))) == false) && ((decide ((lZ l7) > (0 : Int))) == true)) = true)
      obtain ⟨ob27, h⟩ := chk_some h
      obtain ⟨ob29, h⟩ := chk_some h
      obtain ⟨ob33, h⟩ := chk_some h
      obtain ⟨ob37, h⟩ := chk_some h
      have ob39 := bqA ((f48z1 r9 r10 r11) || (decide ((((x8.getD 2 []).length : Nat) : Int) > (400 : Int)))) false
      refine q4rr [] [(9, ⟨[.i r9.1, .i r10.1], [], [], [], .bool r11, [], [], []⟩)] ⟨95, [(2, .ptr 2 0), (3, .ptr 3 0), (7, .ptr 7 0), (8, q4aS x8), (9, .i r9.1), (11, .i r10.1), (84, .bool (((f48z1 r9 r10 r11) || (decide ((((x8.getD 2 []).length : Nat) : Int) > (400 : Int)))) || ((decide ((lZ l7) > (0 : Int))) && (decide ((l7.getD ((((lZ l7) - (1 : Int))).toNat) q4dIIS).1 ≥ r9.1))))), (1000001, .tab .u64 Lib.pow10Tab), (1000002, errG), (1000003, errG)], (f48z0 b6 l5 i4 l7), [2, 3, 7, 6002, 6003], 0⟩ (ac6 (an1 ob11) ob12 (And.intro (cpC fun hc => (f34_ok _ _ _ (hr11 hc))) (an2 ob13 ob13)) (an1 ob13) ob16 (And.intro ob17 (an1 ob18)) (ac6 (an1 ob18) (an1 ob18) (an1 ob18) ob22 (an1 ob23) (an1 ob23) (ac6 (an1 ob23) (an1 ob26) (And.intro ob27 (an1 ob26)) (And.intro ob29 (an2 ob26 ob26)) (an1 ob26) (And.intro ob33 (an1 ob26)) (an3 (an2 ob26 ob26) (And.intro ob37 (an1 ob23)) ob39)))) ?_
      refine thenQ_normal ?_
      refine AWp.cond (b := (((f48z1 r9 r10 r11) || (decide ((((x8.getD 2 []).length : Nat) : Int) > (400 : Int)))) || ((decide ((lZ l7) > (0 : Int))) && (decide ((l7.getD ((((lZ l7) - (1 : Int))).toNat) q4dIIS).1 ≥ r9.1))))) (by kernel_rfl) (fun hc2 => ?_) (fun hc2 => ?_)
      ·
        replace h := ite_tb hc2 h
        refine q4rq [] [] ⟨95, (f48z6), [(2, .cells 28 [.nils]), (3, .cells 4 [.bool false]), (7, .cells 28 [.own 6200]), (6002, .cells 48 [q4aS l5]), (6003, .cells 3 [.i i4]), (6200, q4bIIS_45 l7)], [2, 3, 7, 6002, 6003], 0⟩ (an2 trivial trivial) ?_
        refine AWp.ret ?_
        refine thenQ_ret ?_
        refine blockQ_ret ?_
        have hret := Option.some.inj h
        subst hret
        exact ⟨_, (Le.mk (s' := ⟨95, [], [(2, .cells 28 [.nils]), (3, .cells 4 [.bool false]), (7, .cells 28 [.own 6200]), (6002, .cells 48 [q4aS l5]), (6003, .cells 3 [.i i4]), (6200, q4bIIS_45 l7)], [2, 3, 7, 6002, 6003], 0⟩) rfl rfl trivial ⟨⟨_, rfl, .refl _⟩, ⟨_, rfl, .refl _⟩, ⟨_, rfl, .refl _⟩, ⟨_, rfl, .refl _⟩, ⟨_, rfl, .refl _⟩, ⟨_, rfl, .refl _⟩, trivial⟩), rfl, rfl, .inr ⟨0, _, rfl, rfl, .inl ⟨rfl, rfl⟩⟩⟩
      ·
        replace h := ite_fb hc2 h
        refine AWp.skip ?_
        refine thenQ_normal ?_
        obtain ⟨ob40p, h⟩ := chk_some h
        have ob40 : 0 ≤ (2 : Int) ∧ (2 : Int) < (((x8).length : Nat) : Int) := ⟨by omega, ob40p⟩
        obtain ⟨ob41, h⟩ := chk_some h
        refine q4rr [] [] ⟨95, (f48z6), [(2, .cells 28 [.nils]), (3, .cells 4 [.bool b6]), (7, .cells 28 [.own 6200]), (6002, .cells 48 [q4aS l5]), (6003, .cells 3 [.i i4]), (6200, .rows 45 3 ((l7).length + 1) (appF (l7).length (encF eIIS q4dIIS l7) (lstF 3 [.i r9.1, .i r10.1, .str (x8.getD 2 [])])))], [2, 3, 7, 6002, 6003], 0⟩ (an3 ob40 ob41 trivial) ?_
        refine blockQ_normal ?_
        have hret := Option.some.inj h
        subst hret
        exact ⟨_, (Le.trans (Le.mk (s' := ⟨95, (f48z6), [(2, .cells 28 [.nils]), (3, .cells 4 [.bool b6]), (7, .cells 28 [.own 6200]), (6002, .cells 48 [q4aS l5]), (6003, .cells 3 [.i i4]), (6200, q4bIIS_45 (l7 ++ [(r9.1, r10.1, (x8.getD 2 []))]))], [2, 3, 7, 6002, 6003], 0⟩) rfl rfl ⟨.refl _, .refl _, .refl _, trivial⟩ ⟨⟨_, rfl, .refl _⟩, ⟨_, rfl, .refl _⟩, ⟨_, rfl, .refl _⟩, ⟨_, rfl, .refl _⟩, ⟨_, rfl, .refl _⟩, ⟨_, rfl, (BLe.of (RL.app (RL.self _) (RL.lst (enc := eIIS) [(r9.1, r10.1, (x8.getD 2 []))] rfl rfl (fun _ => rfl))))⟩, trivial⟩) (Le.mk (s' := ⟨95, [], [(2, .cells 28 [.nils]), (3, .cells 4 [.bool b6]), (7, .cells 28 [.own 6200]), (6002, .cells 48 [q4aS l5]), (6003, .cells 3 [.i i4]), (6200, q4bIIS_45 (l7 ++ [(r9.1, r10.1, (x8.getD 2 []))]))], [2, 3, 7, 6002, 6003], 0⟩) rfl rfl trivial ⟨⟨_, rfl, .refl _⟩, ⟨_, rfl, .refl _⟩, ⟨_, rfl, .refl _⟩, ⟨_, rfl, .refl _⟩, ⟨_, rfl, .refl _⟩, ⟨_, rfl, .refl _⟩, trivial⟩)), rfl, rfl, .inl ⟨rfl, rfl⟩⟩
    ·
      intro hk0
      replace h := ite_t hk0 h
      refine blockQ_normal ?_
      refine thenQ_normal ?_
      refine q4rq [] [] ⟨95, (f48z3), [(2, .cells 28 [.own 6200]), (3, .cells 4 [.bool true]), (6200, q4bIIS_45 r12.2.2.2.2)], [], 0⟩ (an2 trivial trivial) ?_
      refine AWp.le (Le.trans (Le.freeze 6200 rfl rfl) (Le.mk (s' := ⟨95, (f48z3), [(2, .cells 28 [q4aIIS r12.2.2.2.2]), (3, .cells 4 [.bool true])], [], 0⟩) rfl rfl ⟨.refl _, .refl _, .refl _, .refl _, .refl _, trivial⟩ ⟨⟨_, rfl, .refl _⟩, ⟨_, rfl, .refl _⟩, trivial⟩)) ?_
      have hret := Option.some.inj h
      subst hret
      refine AWp.le (Le.mk (s' := ⟨95, [(2, .ptr 2 0), (3, .ptr 3 0)], [(2, .cells 28 [q4aIIS r12.2.2.2.2]), (3, .cells 4 [.bool true])], [], 0⟩) rfl rfl ⟨.refl _, .refl _, trivial⟩ ⟨⟨_, rfl, .refl _⟩, ⟨_, rfl, .refl _⟩, trivial⟩) ?_
      refine AWp.ret ?_
      exact bodyQ_ret _ rfl ⟨rfl, rfl⟩ rfl
    ·
      intro j hkj
      replace h := ite_f (by omega) h
      cases j with
      | zero =>
        replace h := ite_t (by omega) h
        refine ⟨_, rfl, ?_⟩
        have hret := Option.some.inj h
        subst hret
        refine AWp.le (Le.mk (s' := ⟨95, [(2, .ptr 2 0), (3, .ptr 3 0)], [(2, .cells 28 [q4aIIS []]), (3, .cells 4 [.bool r12.2.1])], [], 0⟩) rfl rfl ⟨.refl _, .refl _, trivial⟩ ⟨⟨_, rfl, (.cellsL ⟨.nilL, trivial⟩)⟩, ⟨_, rfl, .refl _⟩, trivial⟩) ?_
        refine AWp.ret ?_
        refine blockQ_ret ?_
        refine thenQ_ret ?_
        exact bodyQ_ret _ rfl ⟨rfl, rfl⟩ rfl
      | succ j =>
      replace h := ite_f (by omega) h
      exact nomatch (show (none : Option ((List (Int × Int × List UInt8)) × Bool)) = some r from h)
def f87 (x1 : List UInt8) : Option (List UInt8) :=
  some x1
set_option maxRecDepth 100000 in
theorem f87_ok  (x1 : List UInt8) (r : List UInt8) (h : f87 x1 = some r)  : Spec1 Tryz.prog 87 [] [] [] [.str x1] (.fn (.func 122) [.ptr 3500 0]) [(3500, .cells 9 [.str r])] := by
  unfold f87 at h
  refine Spec1.body 0 _ _ Tryz.func87 rfl Tryz.ntmps87 rfl rfl ?_
  refine q4rq [] [] ⟨4, [(1, .ptr 1 0)], [(1, .cells 9 [.str x1])], [], 0⟩ trivial ?_
  refine q4rq [] [] ⟨4, [(2, .fn (.func 122) [.ptr 1 0])], [(1, .cells 9 [.str x1])], [], 0⟩ trivial ?_
  refine AWp.le (Le.trans (Le.ren (swapN 1 3500) (swapN_inv 1 3500) rfl) (Le.mk (s' := ⟨4, [(2, .fn (.func 122) [.ptr 3500 0])], [(3500, .cells 9 [.str x1])], [], 0⟩) rfl rfl ⟨.refl _, trivial⟩ ⟨⟨_, rfl, .refl _⟩, trivial⟩)) ?_
  have hret := Option.some.inj h
  subst hret
  refine AWp.le (Le.mk (s' := ⟨4, [(2, .fn (.func 122) [.ptr 3500 0])], [(3500, .cells 9 [.str x1])], [], 0⟩) rfl rfl ⟨.refl _, trivial⟩ ⟨⟨_, rfl, .refl _⟩, trivial⟩) ?_
  refine AWp.ret ?_
  exact bodyQ_ret _ rfl ⟨rfl, rfl⟩ rfl
def f169 (x1 : List UInt8) (x2 : List UInt8) : Option Bool :=
  chk (((decide (((x1.length : Nat) : Int) ≥ ((x2.length : Nat) : Int))) == true) = true → -9223372036854775808 ≤ (((x1.length : Nat) : Int) - ((x2.length : Nat) : Int)) ∧ (((x1.length : Nat) : Int) - ((x2.length : Nat) : Int)) ≤ 9223372036854775807) <|
  chk (((decide (((x1.length : Nat) : Int) ≥ ((x2.length : Nat) : Int))) == true) = true → 0 ≤ (((x1.length : Nat) : Int) - ((x2.length : Nat) : Int)) ∧ (((x1.length : Nat) : Int) - ((x2.length : Nat) : Int)) ≤ ((x1.length : Nat) : Int)) <|
  some ((decide (((x1.length : Nat) : Int) ≥ ((x2.length : Nat) : Int))) && ((x1.drop (((((x1.length : Nat) : Int) - ((x2.length : Nat) : Int))).toNat)) == x2))
set_option maxRecDepth 100000 in
theorem f169_ok  (x1 : List UInt8) (x2 : List UInt8) (r : Bool) (h : f169 x1 x2 = some r)  : Spec1 Tryz.prog 169 [] [] [] [.str x1, .str x2] (.bool r) [] := by
  unfold f169 at h
  refine Spec1.body 0 _ _ Tryz.func169 rfl Tryz.ntmps169 rfl rfl ?_
  refine q4rq [] [] ⟨21, [(0, .str x1), (1, .str x2)], [], [], 0⟩ trivial ?_
  refine AWp.seq ?_
  have ob0 := idA (((decide ((lZ x1) ≥ (lZ x2))) == true) = true)
  obtain ⟨ob2, h⟩ := chk_some h
  obtain ⟨ob5, h⟩ := chk_some h
  have ob10 := bqA (decide ((lZ x1) ≥ (lZ x2))) true
  refine q4rr [] [] ⟨21, [(4, .bool ((decide ((lZ x1) ≥ (lZ x2))) && ((x1.drop ((((lZ x1) - (lZ x2))).toNat)) == x2)))], [], [], 0⟩ (an6 (an1 ob0) (an1 ob0) (And.intro ob2 (an2 ob0 ob0)) (And.intro ob5 (an2 ob0 ob0)) (an2 ob0 ob0) ob10) ?_
  refine thenQ_normal ?_
  have hret := Option.some.inj h
  subst hret
  refine AWp.ret ?_
  exact bodyQ_ret _ rfl ⟨rfl, rfl⟩ rfl
def f148 (x1 : List UInt8) (x2 : List UInt8) : Option (List UInt8) :=
  (f169 x1 x2).bind fun (r3 : Bool) =>
  if r3 then (
  chk (-9223372036854775808 ≤ (((x1.length : Nat) : Int) - ((x2.length : Nat) : Int)) ∧ (((x1.length : Nat) : Int) - ((x2.length : Nat) : Int)) ≤ 9223372036854775807) <|
  chk (0 ≤ (((x1.length : Nat) : Int) - ((x2.length : Nat) : Int)) ∧ (((x1.length : Nat) : Int) - ((x2.length : Nat) : Int)) ≤ ((x1.length : Nat) : Int)) <|
  some (x1.take (((((x1.length : Nat) : Int) - ((x2.length : Nat) : Int))).toNat))
  ) else (
  some x1
  )
set_option maxRecDepth 100000 in
theorem f148_ok  (x1 : List UInt8) (x2 : List UInt8) (r : List UInt8) (h : f148 x1 x2 = some r)  : Spec1 Tryz.prog 148 [] [] [] [.str x1, .str x2] (.str r) [] := by
  unfold f148 at h
  refine Spec1.body 0 _ _ Tryz.func148 rfl Tryz.ntmps148 rfl rfl ?_
  refine q4rq [] [] ⟨16, [(0, .str x1), (1, .str x2)], [], [], 0⟩ trivial ?_
  refine AWp.seq ?_
  refine AWp.seq ?_
  obtain ⟨r3, hr3, h⟩ := bind_ok h
  refine q4rr [] [(2, ⟨[.str x1, .str x2], [], [], [], .bool r3, [], [], []⟩)] ⟨16, [(0, .str x1), (1, .str x2), (7, .bool r3)], [], [], 0⟩ (an1 (cpT (f169_ok _ _ _ hr3))) ?_
  refine thenQ_normal ?_
  refine AWp.cond (b := r3) (by kernel_rfl) (fun hc1 => ?_) (fun hc1 => ?_)
  ·
    replace h := ite_tb hc1 h
    refine AWp.seq ?_
    obtain ⟨ob0, ob1, h⟩ := ck2 h
    refine q4rr [] [] ⟨16, [(4, .str (x1.take ((((lZ x1) - (lZ x2))).toNat)))], [], [], 0⟩ (an2 ob0 ob1) ?_
    refine thenQ_normal ?_
    have hret := Option.some.inj h
    subst hret
    refine AWp.ret ?_
    refine thenQ_ret ?_
    exact bodyQ_ret _ rfl ⟨rfl, rfl⟩ rfl
  ·
    replace h := ite_fb hc1 h
    refine AWp.skip ?_
    refine thenQ_normal ?_
    refine q4rq [] [] ⟨16, [(4, .str x1)], [], [], 0⟩ trivial ?_
    have hret := Option.some.inj h
    subst hret
    refine AWp.ret ?_
    exact bodyQ_ret _ rfl ⟨rfl, rfl⟩ rfl
def f124 (x1 : List UInt8) (x2 : List UInt8) : Option (List UInt8) :=
  (f148 x1 x2).bind fun (r3 : List UInt8) =>
  some r3
set_option maxRecDepth 100000 in
theorem f124_ok  (x1 : List UInt8) (x2 : List UInt8) (r : List UInt8) (h : f124 x1 x2 = some r)  : Spec1 Tryz.prog 124 [] [] [] [.str x1, .str x2] (.str r) [] := by
  unfold f124 at h
  refine Spec1.body 0 _ _ Tryz.func124 rfl Tryz.ntmps124 rfl rfl ?_
  refine q4rq [] [] ⟨8, [(0, .str x1), (1, .str x2)], [], [], 0⟩ trivial ?_
  refine AWp.seq ?_
  obtain ⟨r3, hr3, h⟩ := bind_ok h
  refine q4rr [] [(2, ⟨[.str x1, .str x2], [], [], [], .str r3, [], [], []⟩)] ⟨8, [(4, .str r3)], [], [], 0⟩ (an1 (cpT (f148_ok _ _ _ hr3))) ?_
  refine thenQ_normal ?_
  have hret := Option.some.inj h
  subst hret
  refine AWp.ret ?_
  exact bodyQ_ret _ rfl ⟨rfl, rfl⟩ rfl
abbrev f88z0 : List V := [.str [], .str [], .int .i64 (0 : Int)]
abbrev f88z1 (r3 : List (List UInt8)) (r4 : Int × Bool) : List V := [.str (r3.getD 0 []), .str (r3.getD 2 []), .int .i64 r4.1]
def f88 (x1 : List UInt8) : Option (List UInt8 × List UInt8 × Int × Bool) :=
  (f124 x1 ([10] : List UInt8)).bind fun (r2 : List UInt8) =>
  (f63 r2 ([32] : List UInt8)).bind fun (r3 : List (List UInt8)) =>
  chk ((((((r3).length : Nat) : Int) != (3 : Int)) == false) = true → 0 ≤ (1 : Int) ∧ (1 : Int) < (((r3).length : Nat) : Int)) <|
  chk ((((((r3).length : Nat) : Int) != (3 : Int)) == false) = true → 1 < (r3).length) <|
  if (((((r3).length : Nat) : Int) != (3 : Int)) || (decide ((((r3.getD 1 []).length : Nat) : Int) > (15 : Int)))) then (
  some ([], [], (0 : Int), false)
  ) else (
  (f103 (r3.getD 1 [])).bind fun (r4 : Int × Bool) =>
  chk ((1 : Int) < (((r3).length : Nat) : Int)) <|
  chk (1 < (r3).length) <|
  chk ((0 : Int) < (((r3).length : Nat) : Int)) <|
  chk (0 < (r3).length) <|
  chk ((2 : Int) < (((r3).length : Nat) : Int)) <|
  chk (2 < (r3).length) <|
  optc ((!r4.2) == true) (f99 (r3.getD 0 []) (r3.getD 2 []) r4.1) fun (r5 : List UInt8) =>
  some ((r3.getD 0 []), (r3.getD 2 []), r4.1, ((!r4.2) && (r5 == x1)))
  )
set_option maxRecDepth 100000 in
theorem f88_ok  (x1 : List UInt8) (r : List UInt8 × List UInt8 × Int × Bool) (h : f88 x1 = some r)  : Spec1 Tryz.prog 88 [(1, .tab .u64 Lib.pow10Tab), (2, errG), (3, errG)] [] [] [.str x1] (.tup [.agg [.str r.1, .str r.2.1, .int .i64 r.2.2.1], .bool r.2.2.2]) [] := by
  unfold f88 at h
  refine Spec1.bodyD [2] 0 _ _ Tryz.func88 rfl Tryz.ntmps88 rfl rfl ?_
  refine q4rq [] [] ⟨46, [(0, .str x1), (2, .ptr 2 0), (1000001, .tab .u64 Lib.pow10Tab), (1000002, errG), (1000003, errG)], [(2, .cells 76 (f88z0))], [], 0⟩ trivial ?_
  refine AWp.seq ?_
  obtain ⟨r2, hr2, h⟩ := bind_ok h
  obtain ⟨r3, hr3, h⟩ := bind_ok h
  refine q4rr [] [(1, ⟨[.str x1, .str ([10] : List UInt8)], [], [], [], .str r2, [], [], []⟩), (2, ⟨[.str r2, .str ([32] : List UInt8)], [], [], [(6001, q4bS_9 r3)], .own 6001, [6001], [], []⟩)] ⟨46, [(0, .str x1), (2, .ptr 2 0), (4, .own 6001), (1000001, .tab .u64 Lib.pow10Tab), (1000002, errG), (1000003, errG)], [(2, .cells 76 (f88z0)), (6001, q4bS_9 r3)], [], 0⟩ (an2 (cpT (f124_ok _ _ _ hr2)) (cpT (Spec1.ren (swapN 3000 6001) (swapN_inv 3000 6001) rfl (f63_ok _ _ _ hr3)))) ?_
  refine thenQ_normal ?_
  refine AWp.seq ?_
  refine AWp.seq ?_
  obtain ⟨ob0, h⟩ := chk_some h
  have ob1 := idA ((((lZ r3) != (3 : Int)) == false) = true)
  obtain ⟨ob2, h⟩ := chk_some h
  have ob6 := bqA ((lZ r3) != (3 : Int)) false
  refine q4rr [] [] ⟨46, [(0, .str x1), (2, .ptr 2 0), (4, .own 6001), (20, .bool (((lZ r3) != (3 : Int)) || (decide ((((r3.getD 1 []).length : Nat) : Int) > (15 : Int))))), (1000001, .tab .u64 Lib.pow10Tab), (1000002, errG), (1000003, errG)], [(2, .cells 76 (f88z0)), (6001, q4bS_9 r3)], [], 0⟩ (an5 (And.intro ob0 (an1 ob1)) (And.intro ob2 (an1 ob1)) (an1 ob1) (an1 ob1) ob6) ?_
  refine thenQ_normal ?_
  refine AWp.cond (b := (((lZ r3) != (3 : Int)) || (decide ((((r3.getD 1 []).length : Nat) : Int) > (15 : Int))))) (by kernel_rfl) (fun hc1 => ?_) (fun hc1 => ?_)
  ·
    replace h := ite_tb hc1 h
    refine q4rq [] [] ⟨46, [(2, .ptr 2 0), (3, .bool false), (1000001, .tab .u64 Lib.pow10Tab), (1000002, errG), (1000003, errG)], [(2, .cells 76 (f88z0))], [], 0⟩ (an1 trivial) ?_
    have hret := Option.some.inj h
    subst hret
    refine AWp.le (Le.mk (s' := ⟨46, [(2, .ptr 2 0), (3, .bool false)], [(2, .cells 76 (f88z0))], [], 0⟩) rfl rfl ⟨.refl _, .refl _, trivial⟩ ⟨⟨_, rfl, .refl _⟩, trivial⟩) ?_
    refine AWp.ret ?_
    refine thenQ_ret ?_
    exact bodyQ_ret _ rfl ⟨rfl, rfl⟩ rfl
  ·
    replace h := ite_fb hc1 h
    refine AWp.skip ?_
    refine thenQ_normal ?_
    refine AWp.seq ?_
    obtain ⟨r4, hr4, h⟩ := bind_ok h
    obtain ⟨ob7p, h⟩ := chk_some h
    have ob7 : 0 ≤ (1 : Int) ∧ (1 : Int) < (((r3).length : Nat) : Int) := ⟨by omega, ob7p⟩
    obtain ⟨ob8, h⟩ := chk_some h
    refine q4rr [] [(3, ⟨[.str (r3.getD 1 [])], [], [], [], .tup [.i r4.1, .ifc r4.2], [], [], [2, 3]⟩)] ⟨46, [(0, .str x1), (2, .ptr 2 0), (4, .own 6001), (5, .i r4.1), (6, .ifc r4.2), (1000001, .tab .u64 Lib.pow10Tab), (1000002, errG), (1000003, errG)], [(2, .cells 76 (f88z0)), (6001, q4bS_9 r3)], [], 0⟩ (an3 ob7 ob8 (cpT (f103_ok _ _ hr4))) ?_
    refine thenQ_normal ?_
    refine AWp.seq ?_
    obtain ⟨ob9p, h⟩ := chk_some h
    have ob9 : 0 ≤ (0 : Int) ∧ (0 : Int) < (((r3).length : Nat) : Int) := ⟨by omega, ob9p⟩
    obtain ⟨ob10, ob11p, h⟩ := ck2 h
    have ob11 : 0 ≤ (2 : Int) ∧ (2 : Int) < (((r3).length : Nat) : Int) := ⟨by omega, ob11p⟩
    obtain ⟨ob12, h⟩ := chk_some h
    refine q4rr [] [] ⟨46, [(0, .str x1), (2, .ptr 2 0), (6, .ifc r4.2), (7, .ptr 7 0), (1000001, .tab .u64 Lib.pow10Tab), (1000002, errG), (1000003, errG)], [(2, .cells 76 (f88z0)), (7, .cells 76 (f88z1 r3 r4))], [], 0⟩ (an5 ob9 ob10 ob11 ob12 trivial) ?_
    refine thenQ_normal ?_
    refine AWp.seq ?_
    obtain ⟨r5, hr5, h⟩ := optc_some h
    have ob13 := idA (((!r4.2) == true) = true)
    have ob16 := bqA (!r4.2) true
    refine q4rr [] [(2, ⟨[.ifc r4.2, .lit (.nilIface)], [], [], [], .bool (!r4.2), [], [], []⟩), (5, ⟨[.agg (f88z1 r3 r4)], [], [], [], .str r5, [], [], [1]⟩)] ⟨46, [(2, .ptr 2 0), (3, .bool ((!r4.2) && (r5 == x1))), (1000001, .tab .u64 Lib.pow10Tab), (1000002, errG), (1000003, errG)], [(2, .cells 76 (f88z1 r3 r4))], [], 0⟩ (an5 (And.intro (ifcE_spec (P := Tryz.prog) Tryz.underlying147 (.tmp 38) 147 4 r4.2) (VLes.same [.ifc r4.2, .lit (.nilIface)])) (And.intro (cpC fun hc => (f99_ok _ _ _ _ (hr5 hc))) (an1 ob13)) (an2 ob13 ob13) ob16 trivial) ?_
    refine thenQ_normal ?_
    have hret := Option.some.inj h
    subst hret
    refine AWp.le (Le.mk (s' := ⟨46, [(2, .ptr 2 0), (3, .bool ((!r4.2) && (r5 == x1)))], [(2, .cells 76 (f88z1 r3 r4))], [], 0⟩) rfl rfl ⟨.refl _, .refl _, trivial⟩ ⟨⟨_, rfl, .refl _⟩, trivial⟩) ?_
    refine AWp.ret ?_
    exact bodyQ_ret _ rfl ⟨rfl, rfl⟩ rfl
def f123 (x1 : List UInt8) (x2 : Int) : Option Int := ixbO x1 x2
theorem f123_ok (x1 : List UInt8) (x2 r : Int) (h : f123 x1 x2 = some r) : Spec1 Tryz.prog 123 [] [] [] [.str x1, .int .u8 x2] (.int .i64 r) [] :=
  ixb_spec (fun s c w => Any.strings_IndexByte Tryz.lays137 s c w) x1 x2 r h
def f122_L0 (Y70003 : (Int × (List (List UInt8 × List UInt8 × Int)) × List UInt8) → (List UInt8) → Option (Nat × (Int × (List (List UInt8 × List UInt8 × Int)) × List UInt8))) : Nat → (List UInt8 × Int × (List (List UInt8 × List UInt8 × Int)) × Nat) → Option (Nat × Int × (List (List UInt8 × List UInt8 × Int)) × List UInt8)
  | 0, _ => none
  | k + 1, (s4, i5, l6, n7) =>
    if (decide (((s4.length : Nat) : Int) > (0 : Int))) then (
    jn (fun ((s9, s10) : List UInt8 × List UInt8) =>
    chk (n7 = 0) <|
    (Y70003 (i5, l6, s10) s9).bind fun (r11 : Nat × (Int × (List (List UInt8 × List UInt8 × Int)) × List UInt8)) =>
    if r11.1 = 0 then (
    if (!true) then (
    some (0, r11.2.1, r11.2.2.1, r11.2.2.2)
    ) else (
    (f122_L0 Y70003 k) (r11.2.2.2, r11.2.1, r11.2.2.1, 0)
    )
    ) else (
    if (!false) then (
    some (r11.1, r11.2.1, r11.2.2.1, r11.2.2.2)
    ) else (
    (f122_L0 Y70003 k) (r11.2.2.2, r11.2.1, r11.2.2.1, r11.1)
    )
    )
    ) fun (K1 : (List UInt8 × List UInt8) → Option (Nat × Int × (List (List UInt8 × List UInt8 × Int)) × List UInt8)) =>
    (f123 s4 (10 : Int)).bind fun (r8 : Int) =>
    if (decide (r8 ≥ (0 : Int))) then (
    chk (-9223372036854775808 ≤ (r8 + (1 : Int)) ∧ (r8 + (1 : Int)) ≤ 9223372036854775807) <|
    chk (0 ≤ (r8 + (1 : Int)) ∧ (r8 + (1 : Int)) ≤ ((s4.length : Nat) : Int)) <|
    chk (-9223372036854775808 ≤ (r8 + (1 : Int)) ∧ (r8 + (1 : Int)) ≤ 9223372036854775807) <|
    chk (0 ≤ (r8 + (1 : Int)) ∧ (r8 + (1 : Int)) ≤ ((s4.length : Nat) : Int)) <|
    K1 ((s4.take (((r8 + (1 : Int))).toNat)), (s4.drop (((r8 + (1 : Int))).toNat)))
    ) else (
    K1 (s4, [])
    )
    ) else (
    some (n7, i5, l6, s4)
    )
abbrev f122z0 (i5 : Int) (l6 : List (List UInt8 × List UInt8 × Int)) (s4 : List UInt8) (C70003 : YC) (n7 : Nat) : Heap := [(2, .cells 27 [.nils]), (3, .cells 49 [.int .i64 i5]), (4, .cells 27 [.own 5900]), (5900, bL 76 3 eSSI (default : List UInt8 × List UInt8 × Int) l6), (6001, .cells 9 [.str s4]), (70003, .yld (some ([2, 3, 4], C70003)) n7)]
abbrev f122z1 (r11 : Nat × (Int × (List (List UInt8 × List UInt8 × Int)) × List UInt8)) : Heap := [(2, .cells 27 [.nils]), (3, .cells 49 [.int .i64 r11.2.1]), (4, .cells 27 [.own 5900]), (5900, bL 76 3 eSSI (default : List UInt8 × List UInt8 × Int) r11.2.2.1), (6001, .cells 9 [.str r11.2.2.2])]
abbrev f122z2 (C70003 : YC) (r11 : Nat × (Int × (List (List UInt8 × List UInt8 × Int)) × List UInt8)) : Heap := [(70003, .yld (some ([2, 3, 4], C70003)) r11.1), (2, .cells 27 [.nils]), (3, .cells 49 [.int .i64 r11.2.1]), (4, .cells 27 [.own 5900]), (5900, bL 76 3 eSSI (default : List UInt8 × List UInt8 × Int) r11.2.2.1), (6001, .cells 9 [.str r11.2.2.2])]
abbrev f122z3 (C70003 : YC) (r11 : Nat × (Int × (List (List UInt8 × List UInt8 × Int)) × List UInt8)) : Heap := [(70003, .yld (some ([2, 3, 4], C70003)) 0), (2, .cells 27 [.nils]), (3, .cells 49 [.int .i64 r11.2.1]), (4, .cells 27 [.own 5900]), (5900, bL 76 3 eSSI (default : List UInt8 × List UInt8 × Int) r11.2.2.1), (6001, .cells 9 [.str r11.2.2.2])]
abbrev f122z4 : List (Nat × V) := [(0, .own 70003), (1, .ptr 6001 0)]
def f122 (Y70003 : (Int × (List (List UInt8 × List UInt8 × Int)) × List UInt8) → (List UInt8) → Option (Nat × (Int × (List (List UInt8 × List UInt8 × Int)) × List UInt8))) (x1 : Int) (x2 : List (List UInt8 × List UInt8 × Int)) (x3 : List UInt8) : Option (Nat × Int × (List (List UInt8 × List UInt8 × Int)) × List UInt8) :=
  f122_L0 Y70003 FUEL (x3, x1, x2, 0)
set_option maxRecDepth 100000 in
theorem f122_ok (C70003 : YC) (Y70003 : (Int × (List (List UInt8 × List UInt8 × Int)) × List UInt8) → (List UInt8) → Option (Nat × (Int × (List (List UInt8 × List UInt8 × Int)) × List UInt8))) (x1 : Int) (x2 : List (List UInt8 × List UInt8 × Int)) (x3 : List UInt8) (r : Nat × Int × (List (List UInt8 × List UInt8 × Int)) × List UInt8) (h : f122 Y70003 x1 x2 x3 = some r) (hY70003 : ∀ s x r, Y70003 s x = some r → YSpec Tryz.prog 70003 [2, 3, 4] C70003 [2, 3, 4, 6001] [(2, .cells 27 [.nils]), (3, .cells 49 [.int .i64 s.1]), (4, .cells 27 [.own 5900]), (5900, bL 76 3 eSSI (default : List UInt8 × List UInt8 × Int) s.2.1), (6001, .cells 9 [.str s.2.2])] [.str x] r.1 [(2, .cells 27 [.nils]), (3, .cells 49 [.int .i64 r.2.1]), (4, .cells 27 [.own 5900]), (5900, bL 76 3 eSSI (default : List UInt8 × List UInt8 × Int) r.2.2.1), (6001, .cells 9 [.str r.2.2.2])]) : Spec1 Tryz.prog 122 [] [70003, 2, 3, 4, 6001] [(70003, .yld (some ([2, 3, 4], C70003)) 0), (2, .cells 27 [.nils]), (3, .cells 49 [.int .i64 x1]), (4, .cells 27 [.own 5900]), (5900, bL 76 3 eSSI (default : List UInt8 × List UInt8 × Int) x2), (6001, .cells 9 [.str x3])] [.own 70003, .ptr 6001 0] (.tup []) [(70003, .yld (some ([2, 3, 4], C70003)) r.1), (2, .cells 27 [.nils]), (3, .cells 49 [.int .i64 r.2.1]), (4, .cells 27 [.own 5900]), (5900, bL 76 3 eSSI (default : List UInt8 × List UInt8 × Int) r.2.2.1), (6001, .cells 9 [.str r.2.2.2])] := by
  unfold f122 at h
  refine Spec1.body 10000 _ _ Tryz.func122 rfl Tryz.ntmps122 rfl rfl ?_
  refine AWp.block ?_
  refine AWp.loopL (α := Nat × (List UInt8 × Int × (List (List UInt8 × List UInt8 × Int)) × Nat)) (fun x => match x with | (_, s4, i5, l6, n7) => ⟨25, (f122z4), (f122z0 i5 l6 s4 C70003 n7), [70003, 2, 3, 4, 6001], 10000⟩) (fun x => f122_L0 Y70003 x.1 x.2 = some r) (fun x => x.1) (FUEL, x3, x1, x2, 0) (Le.mk (s' := ⟨25, (f122z4), [(2, .cells 27 [.nils]), (3, .cells 49 [.i x1]), (4, .cells 27 [.own 5900]), (5900, q4bSSI_76 x2), (6001, .cells 9 [.str x3]), (70003, .yld (some ([2, 3, 4], C70003)) 0)], [70003, 2, 3, 4, 6001], 10000⟩) rfl rfl ⟨.refl _, .refl _, trivial⟩ ⟨⟨_, rfl, .refl _⟩, ⟨_, rfl, .refl _⟩, ⟨_, rfl, .refl _⟩, ⟨_, rfl, .refl _⟩, ⟨_, rfl, .refl _⟩, ⟨_, rfl, .refl _⟩, trivial⟩) h ?_
  rintro ⟨k0, s4, i5, l6, n7⟩ h
  cases k0 with
  | zero => exact nomatch (show (none : Option (Nat × Int × (List (List UInt8 × List UInt8 × Int)) × List UInt8)) = some r from h)
  | succ k0 =>
  obtain ⟨C0, hC0⟩ : ∃ C, C = f122_L0 Y70003 k0 := ⟨_, rfl⟩
  replace h := (f122_L0.eq_2 ..).symm.trans h
  try rw [← hC0] at h
  refine AWp.seq ?_
  refine q4rq [] [] ⟨25, [(0, .own 70003), (1, .ptr 6001 0), (7, .bool (decide ((lZ s4) > (0 : Int))))], (f122z0 i5 l6 s4 C70003 n7), [70003, 2, 3, 4, 6001], 10000⟩ trivial ?_
  refine AWp.cond (b := (decide ((lZ s4) > (0 : Int)))) (by kernel_rfl) (fun hc1 => ?_) (fun hc1 => ?_)
  ·
    replace h := ite_tb hc1 h
    refine AWp.skip ?_
    refine thenQ_normal ?_
    refine AWp.block ?_
    refine q4rq [] [] ⟨25, (f122z4), (f122z0 i5 l6 s4 C70003 n7), [70003, 2, 3, 4, 6001], 10000⟩ trivial ?_
    obtain ⟨K1, hK1, h⟩ := jn_some h
    refine AWp.join (α := List UInt8 × List UInt8) (fun (x : List UInt8 × List UInt8) => match x with | (s9, s10) => ⟨25, [(0, .own 70003), (1, .ptr 6001 0), (3, .str s9)], [(2, .cells 27 [.nils]), (3, .cells 49 [.i i5]), (4, .cells 27 [.own 5900]), (5900, q4bSSI_76 l6), (6001, .cells 9 [.str s10]), (70003, .yld (some ([2, 3, 4], C70003)) n7)], [70003, 2, 3, 4, 6001], 10000⟩) (fun x => K1 x = some r) ?_ ?_
    ·
      refine AWp.seq ?_
      obtain ⟨r8, hr8, h⟩ := bind_ok h
      refine q4rr [] [(1, ⟨[.str s4, .int .u8 (10 : Int)], [], [], [], .i r8, [], [], []⟩)] ⟨25, [(0, .own 70003), (1, .ptr 6001 0), (4, .i r8)], (f122z0 i5 l6 s4 C70003 n7), [70003, 2, 3, 4, 6001], 10000⟩ (an1 (cpT (f123_ok _ _ _ hr8))) ?_
      refine thenQ_normal ?_
      refine q4rq [] [] ⟨25, [(0, .own 70003), (1, .ptr 6001 0), (4, .i r8), (11, .bool (decide (r8 ≥ (0 : Int))))], (f122z0 i5 l6 s4 C70003 n7), [70003, 2, 3, 4, 6001], 10000⟩ trivial ?_
      refine AWp.cond (b := (decide (r8 ≥ (0 : Int)))) (by kernel_rfl) (fun hc2 => ?_) (fun hc2 => ?_)
      ·
        replace h := ite_tb hc2 h
        obtain ⟨ob0, ob1, ob2, ob3, h⟩ := ck4 h
        refine q4rr [] [] ⟨25, [(0, .own 70003), (1, .ptr 6001 0), (3, .str (s4.take (((r8 + (1 : Int))).toNat)))], [(2, .cells 27 [.nils]), (3, .cells 49 [.i i5]), (4, .cells 27 [.own 5900]), (5900, q4bSSI_76 l6), (6001, .cells 9 [.str (s4.drop (((r8 + (1 : Int))).toNat))]), (70003, .yld (some ([2, 3, 4], C70003)) n7)], [70003, 2, 3, 4, 6001], 10000⟩ (an5 ob0 ob1 ob2 ob3 trivial) ?_
        exact joinQ_normal ((s4.take (((r8 + (1 : Int))).toNat)), (s4.drop (((r8 + (1 : Int))).toNat))) (Le.mk rfl rfl ⟨.refl _, .refl _, .refl _, trivial⟩ ⟨⟨_, rfl, .refl _⟩, ⟨_, rfl, .refl _⟩, ⟨_, rfl, .refl _⟩, ⟨_, rfl, .refl _⟩, ⟨_, rfl, .refl _⟩, ⟨_, rfl, .refl _⟩, trivial⟩) h
      ·
        replace h := ite_fb hc2 h
        refine q4rr [] [] ⟨25, [(0, .own 70003), (1, .ptr 6001 0), (3, .str s4)], [(2, .cells 27 [.nils]), (3, .cells 49 [.i i5]), (4, .cells 27 [.own 5900]), (5900, q4bSSI_76 l6), (6001, .cells 9 [.str []]), (70003, .yld (some ([2, 3, 4], C70003)) n7)], [70003, 2, 3, 4, 6001], 10000⟩ (an1 trivial) ?_
        exact joinQ_normal (s4, []) (Le.mk rfl rfl ⟨.refl _, .refl _, .refl _, trivial⟩ ⟨⟨_, rfl, .refl _⟩, ⟨_, rfl, .refl _⟩, ⟨_, rfl, .refl _⟩, ⟨_, rfl, .refl _⟩, ⟨_, rfl, .refl _⟩, ⟨_, rfl, .refl _⟩, trivial⟩) h
    ·
      rintro ⟨s9, s10⟩ h
      replace h := (congrFun hK1 _).symm.trans h
      refine AWp.seq ?_
      obtain ⟨hz3, h⟩ := chk_some h
      refine AWp.le (Le.mk (s' := ⟨25, [(0, .own 70003), (1, .ptr 6001 0), (3, .str s9)], [(2, .cells 27 [.nils]), (3, .cells 49 [.i i5]), (4, .cells 27 [.own 5900]), (5900, q4bSSI_76 l6), (6001, .cells 9 [.str s10]), (70003, .yld (some ([2, 3, 4], C70003)) 0)], [70003, 2, 3, 4, 6001], 10000⟩) rfl rfl ⟨.refl _, .refl _, .refl _, trivial⟩ ⟨⟨_, rfl, .refl _⟩, ⟨_, rfl, .refl _⟩, ⟨_, rfl, .refl _⟩, ⟨_, rfl, .refl _⟩, ⟨_, rfl, .refl _⟩, ⟨_, rfl, BLe.yldEq hz3⟩, trivial⟩) ?_
      obtain ⟨r11, hr11, h⟩ := bind_ok h
      by_cases hy_r11 : r11.1 = 0
      ·
        replace h := ite_t hy_r11 h
        refine q4rr [] [(2, ⟨[.str s9], [70003, 2, 3, 4, 5900, 6001], [2, 3, 4, 6001], (f122z3 C70003 r11), .bool true, [5900], [], []⟩)] ⟨25, [(0, .own 70003), (1, .ptr 6001 0), (24, .bool (!true))], [(2, .cells 27 [.nils]), (3, .cells 49 [.i r11.2.1]), (4, .cells 27 [.own 5900]), (5900, q4bSSI_76 r11.2.2.1), (6001, .cells 9 [.str r11.2.2.2]), (70003, .yld (some ([2, 3, 4], C70003)) 0)], [70003, 2, 3, 4, 6001], 10000⟩ (an1 (show (((f122z3 C70003 r11) : Heap) = (70003, .yld (some ([2, 3, 4], C70003)) 0) :: (f122z1 r11) ∧ V.bool true = V.bool (0 == 0) ∧ YSpec Tryz.prog 70003 [2, 3, 4] C70003 [2, 3, 4, 6001] [(2, .cells 27 [.nils]), (3, .cells 49 [.i i5]), (4, .cells 27 [.own 5900]), (5900, q4bSSI_76 l6), (6001, .cells 9 [.str s10])] [.str s9] 0 (f122z1 r11) ∧ VLes [.str s9] [.str s9]) from ⟨rfl, rfl, (YSpec.zero (hY70003 _ _ r11 hr11) hy_r11), ⟨.refl _, trivial⟩⟩)) ?_
        refine thenQ_normal ?_
        refine AWp.cond (b := (!true)) (by kernel_rfl) (fun hc5 => ?_) (fun hc5 => ?_)
        ·
          replace h := ite_tb hc5 h
          have hret := Option.some.inj h
          subst hret
          refine AWp.le (Le.mk (s' := ⟨25, [], (f122z3 C70003 r11), [70003, 2, 3, 4, 6001], 10000⟩) rfl rfl trivial ⟨⟨_, rfl, .refl _⟩, ⟨_, rfl, .refl _⟩, ⟨_, rfl, .refl _⟩, ⟨_, rfl, .refl _⟩, ⟨_, rfl, .refl _⟩, ⟨_, rfl, .refl _⟩, trivial⟩) ?_
          refine AWp.ret ?_
          refine blockQ_ret ?_
          refine thenQ_ret ?_
          refine blockQ_ret ?_
          exact bodyQ_ret _ rfl ⟨rfl, rfl⟩ rfl
        ·
          replace h := ite_fb hc5 h
          refine AWp.skip ?_
          refine blockQ_normal ?_
          rw [hC0] at h
          exact loopQ_normal (_, r11.2.2.2, r11.2.1, r11.2.2.1, 0) (Le.mk rfl rfl ⟨.refl _, .refl _, trivial⟩ ⟨⟨_, rfl, .refl _⟩, ⟨_, rfl, .refl _⟩, ⟨_, rfl, .refl _⟩, ⟨_, rfl, .refl _⟩, ⟨_, rfl, .refl _⟩, ⟨_, rfl, .refl _⟩, trivial⟩) h (Nat.lt_succ_self _)
      ·
        replace h := ite_f hy_r11 h
        refine q4rr [] [(2, ⟨[.str s9], [70003, 2, 3, 4, 5900, 6001], [2, 3, 4, 6001], (f122z2 C70003 r11), .bool false, [5900], [], []⟩)] ⟨25, [(0, .own 70003), (1, .ptr 6001 0), (24, .bool (!false))], [(2, .cells 27 [.nils]), (3, .cells 49 [.i r11.2.1]), (4, .cells 27 [.own 5900]), (5900, q4bSSI_76 r11.2.2.1), (6001, .cells 9 [.str r11.2.2.2]), (70003, .yld (some ([2, 3, 4], C70003)) r11.1)], [70003, 2, 3, 4, 6001], 10000⟩ (an1 (show (((f122z2 C70003 r11) : Heap) = (70003, .yld (some ([2, 3, 4], C70003)) r11.1) :: (f122z1 r11) ∧ V.bool false = V.bool (r11.1 == 0) ∧ YSpec Tryz.prog 70003 [2, 3, 4] C70003 [2, 3, 4, 6001] [(2, .cells 27 [.nils]), (3, .cells 49 [.i i5]), (4, .cells 27 [.own 5900]), (5900, q4bSSI_76 l6), (6001, .cells 9 [.str s10])] [.str s9] r11.1 (f122z1 r11) ∧ VLes [.str s9] [.str s9]) from ⟨rfl, bool_ne hy_r11, (hY70003 _ _ r11 hr11), ⟨.refl _, trivial⟩⟩)) ?_
        refine thenQ_normal ?_
        refine AWp.cond (b := (!false)) (by kernel_rfl) (fun hc6 => ?_) (fun hc6 => ?_)
        ·
          replace h := ite_tb hc6 h
          have hret := Option.some.inj h
          subst hret
          refine AWp.le (Le.mk (s' := ⟨25, [], (f122z2 C70003 r11), [70003, 2, 3, 4, 6001], 10000⟩) rfl rfl trivial ⟨⟨_, rfl, .refl _⟩, ⟨_, rfl, .refl _⟩, ⟨_, rfl, .refl _⟩, ⟨_, rfl, .refl _⟩, ⟨_, rfl, .refl _⟩, ⟨_, rfl, .refl _⟩, trivial⟩) ?_
          refine AWp.ret ?_
          refine blockQ_ret ?_
          refine thenQ_ret ?_
          refine blockQ_ret ?_
          exact bodyQ_ret _ rfl ⟨rfl, rfl⟩ rfl
        ·
          replace h := ite_fb hc6 h
          refine AWp.skip ?_
          refine blockQ_normal ?_
          rw [hC0] at h
          exact loopQ_normal (_, r11.2.2.2, r11.2.1, r11.2.2.1, r11.1) (Le.mk rfl rfl ⟨.refl _, .refl _, trivial⟩ ⟨⟨_, rfl, .refl _⟩, ⟨_, rfl, .refl _⟩, ⟨_, rfl, .refl _⟩, ⟨_, rfl, .refl _⟩, ⟨_, rfl, .refl _⟩, ⟨_, rfl, .refl _⟩, trivial⟩) h (Nat.lt_succ_self _)
  ·
    replace h := ite_fb hc1 h
    refine AWp.exit ?_
    refine thenQ_exit ?_
    refine thenQ_exit ?_
    refine blockQ_same ?_
    have hret := Option.some.inj h
    subst hret
    exact bodyQ_le (Le.mk (s' := ⟨25, [], [(70003, .yld (some ([2, 3, 4], C70003)) n7), (2, .cells 27 [.nils]), (3, .cells 49 [.i i5]), (4, .cells 27 [.own 5900]), (5900, q4bSSI_76 l6), (6001, .cells 9 [.str s4])], [70003, 2, 3, 4, 6001], 10000⟩) rfl rfl trivial ⟨⟨_, rfl, .refl _⟩, ⟨_, rfl, .refl _⟩, ⟨_, rfl, .refl _⟩, ⟨_, rfl, .refl _⟩, ⟨_, rfl, .refl _⟩, ⟨_, rfl, .refl _⟩, trivial⟩) (bodyQ_normal _ rfl ⟨rfl, rfl⟩ rfl)
def f49_Y70003 : (Int × (List (List UInt8 × List UInt8 × Int)) × List UInt8) → (List UInt8) → Option (Nat × (Int × (List (List UInt8 × List UInt8 × Int)) × List UInt8))
  | (i7, l8, s6), x9 =>
    (f88 x9).bind fun (r10 : List UInt8 × List UInt8 × Int × Bool) =>
    if (!r10.2.2.2) then (
    some (2, ((2 : Int), l8, s6))
    ) else (
    chk (((l8).length + 1) * 40 ≤ 140737488355328) <|
    some (0, (i7, (l8 ++ [(r10.1, r10.2.1, r10.2.2.1)]), s6))
    )
def f49_L0 (x1 : List (List UInt8)) (K1 : (Int × (List (List UInt8 × List UInt8 × Int))) → Option ((List (List UInt8 × List UInt8 × Int)) × Int)) : Nat → (Nat × Int × (List (List UInt8 × List UInt8 × Int))) → Option ((List (List UInt8 × List UInt8 × Int)) × Int)
  | 0, _ => none
  | k + 1, (n2, i3, l4) =>
    if (decide ((n2 : Int) < (((x1).length : Nat) : Int))) then (
    chk ((n2 : Int) < (((x1).length : Nat) : Int)) <|
    if ((x1.getD n2 []) == []) then (
    some ([], (2 : Int))
    ) else (
    (f87 (x1.getD n2 [])).bind fun (r5 : List UInt8) =>
    (f122 f49_Y70003 i3 l4 r5).bind fun (r11 : Nat × Int × (List (List UInt8 × List UInt8 × Int)) × List UInt8) =>
    chk (r11.1 ≠ 1) <|
    if r11.1 = 0 then (
    chk (((n2 : Int) + (1 : Int)) ≤ 9223372036854775807) <|
    (f49_L0 x1 K1 k) ((n2 + 1), r11.2.1, r11.2.2.1)
    ) else (
    if r11.1 = 2 then (
    some ([], r11.2.1)
    ) else (
    none
    )
    )
    )
    ) else (
    K1 (i3, l4)
    )
abbrev f49z0 (x1 : List (List UInt8)) : List (Nat × V) := [(2, .ptr 2 0), (3, .ptr 3 0), (4, .ptr 4 0), (11, vL 1 eS [] x1), (12, .int .i64 (((x1).length : Nat) : Int)), (13, .int .i64 (0 : Int)), (1000001, .tab .u64 Lib.pow10Tab), (1000002, errG), (1000003, errG)]
abbrev f49z1 (i3 : Int) (l4 : List (List UInt8 × List UInt8 × Int)) : Heap := [(2, .cells 27 [.nils]), (3, .cells 49 [.int .i64 i3]), (4, .cells 27 [.own 5900]), (5900, bL 76 3 eSSI (default : List UInt8 × List UInt8 × Int) l4)]
abbrev f49z2 : List (Nat × V) := [(2, .ptr 2 0), (3, .ptr 3 0), (1000001, .tab .u64 Lib.pow10Tab), (1000002, errG), (1000003, errG)]
abbrev f49z3 (i3 : Int) (l4 : List (List UInt8 × List UInt8 × Int)) (r5 : List UInt8) : Heap := [(2, .cells 27 [.nils]), (3, .cells 49 [.int .i64 i3]), (4, .cells 27 [.own 5900]), (5900, bL 76 3 eSSI (default : List UInt8 × List UInt8 × Int) l4), (6001, .cells 9 [.str r5])]
abbrev f49z4 (i12 : Int) (l13 : List (List UInt8 × List UInt8 × Int)) : Heap := [(2, .cells 27 [.nils]), (3, .cells 49 [.int .i64 i12]), (4, .cells 27 [.own 5900]), (5900, bL 76 3 eSSI (default : List UInt8 × List UInt8 × Int) l13)]
abbrev f49z5 : Heap := [(2, .cells 27 [.nils]), (3, .cells 49 [.int .i64 (0 : Int)]), (4, .cells 27 [.nils])]
abbrev f49z6 : List (Nat × V) := [(1000001, .tab .u64 Lib.pow10Tab), (1000002, errG), (1000003, errG)]
abbrev f49z7 : List V := [vL 3 eSSI (default : List UInt8 × List UInt8 × Int) []]
abbrev f49z8 : List V := [.int .i64 (0 : Int)]
def f49 (x1 : List (List UInt8)) : Option ((List (List UInt8 × List UInt8 × Int)) × Int) :=
  jn (fun ((i12, l13) : Int × (List (List UInt8 × List UInt8 × Int))) =>
  (f89 l13).bind fun (r14 : Int) =>
  if (r14 != (0 : Int)) then (
  some ([], r14)
  ) else (
  some (l13, (0 : Int))
  )
  ) fun (K1 : (Int × (List (List UInt8 × List UInt8 × Int))) → Option ((List (List UInt8 × List UInt8 × Int)) × Int)) =>
  f49_L0 x1 K1 FUEL (0, (0 : Int), [])
set_option maxRecDepth 100000 in
theorem f49_ok  (x1 : List (List UInt8)) (r : (List (List UInt8 × List UInt8 × Int)) × Int) (h : f49 x1 = some r)  : Spec1 Tryz.prog 49 [(1, .tab .u64 Lib.pow10Tab), (2, errG), (3, errG)] [] [] [vL 1 eS [] x1] (.tup [vL 3 eSSI (default : List UInt8 × List UInt8 × Int) r.1, .int .i64 r.2]) [] := by
  unfold f49 at h
  refine Spec1.bodyD [2, 3] 0 _ _ Tryz.func49 rfl Tryz.ntmps49 rfl rfl ?_
  refine q4rq [] [] ⟨40, [(0, q4aS x1), (2, .ptr 2 0), (3, .ptr 3 0), (1000001, .tab .u64 Lib.pow10Tab), (1000002, errG), (1000003, errG)], [(2, .cells 27 [.nils]), (3, .cells 49 (f49z8))], [], 0⟩ trivial ?_
  refine q4rq [] [] ⟨40, [(0, q4aS x1), (2, .ptr 2 0), (3, .ptr 3 0), (4, .ptr 4 0), (1000001, .tab .u64 Lib.pow10Tab), (1000002, errG), (1000003, errG)], (f49z5), [], 0⟩ trivial ?_
  obtain ⟨K1, hK1, h⟩ := jn_some h
  refine AWp.join (α := Int × (List (List UInt8 × List UInt8 × Int))) (fun (x : Int × (List (List UInt8 × List UInt8 × Int))) => match x with | (i12, l13) => ⟨40, [(2, .ptr 2 0), (3, .ptr 3 0), (4, .ptr 4 0), (1000001, .tab .u64 Lib.pow10Tab), (1000002, errG), (1000003, errG)], (f49z4 i12 l13), [], 0⟩) (fun x => K1 x = some r) ?_ ?_
  ·
    refine q4rq [] [] ⟨40, (f49z0 x1), (f49z5), [], 0⟩ trivial ?_
    refine AWp.block ?_
    refine AWp.loopL (α := Nat × (Nat × Int × (List (List UInt8 × List UInt8 × Int)))) (fun x => match x with | (_, n2, i3, l4) => ⟨40, [(2, .ptr 2 0), (3, .ptr 3 0), (4, .ptr 4 0), (11, q4aS x1), (12, .i (lZ x1)), (13, .i (n2 : Int)), (1000001, .tab .u64 Lib.pow10Tab), (1000002, errG), (1000003, errG)], (f49z1 i3 l4), [], 0⟩) (fun x => f49_L0 x1 K1 x.1 x.2 = some r) (fun x => x.1) (FUEL, 0, (0 : Int), []) (Le.trans (Le.trans (Le.nilOwnC 4 0 5900 76 3 (encF eSSI q4dSSI []) rfl rfl rfl) (Le.mk (s' := ⟨40, (f49z0 x1), [(2, .cells 27 [.nils]), (3, .cells 49 (f49z8)), (4, .cells 27 [.own 5900]), (5900, q4bSSI_76 [])], [], 0⟩) rfl rfl ⟨.refl _, .refl _, .refl _, .refl _, .refl _, .refl _, .refl _, .refl _, .refl _, trivial⟩ ⟨⟨_, rfl, .refl _⟩, ⟨_, rfl, .refl _⟩, ⟨_, rfl, .refl _⟩, ⟨_, rfl, .refl _⟩, trivial⟩)) (Le.mk (s' := ⟨40, (f49z0 x1), [(2, .cells 27 [.nils]), (3, .cells 49 (f49z8)), (4, .cells 27 [.own 5900]), (5900, q4bSSI_76 [])], [], 0⟩) rfl rfl ⟨.refl _, .refl _, .refl _, .refl _, .refl _, .refl _, .refl _, .refl _, .refl _, trivial⟩ ⟨⟨_, rfl, .refl _⟩, ⟨_, rfl, .refl _⟩, ⟨_, rfl, .refl _⟩, ⟨_, rfl, .refl _⟩, trivial⟩)) h ?_
    rintro ⟨k0, n2, i3, l4⟩ h
    cases k0 with
    | zero => exact nomatch (show (none : Option ((List (List UInt8 × List UInt8 × Int)) × Int)) = some r from h)
    | succ k0 =>
    obtain ⟨C0, hC0⟩ : ∃ C, C = f49_L0 x1 K1 k0 := ⟨_, rfl⟩
    replace h := (f49_L0.eq_2 ..).symm.trans h
    try rw [← hC0] at h
    refine q4rq [] [] ⟨40, [(2, .ptr 2 0), (3, .ptr 3 0), (4, .ptr 4 0), (11, q4aS x1), (12, .i (lZ x1)), (13, .i (n2 : Int)), (14, .bool (decide ((n2 : Int) < (lZ x1)))), (1000001, .tab .u64 Lib.pow10Tab), (1000002, errG), (1000003, errG)], (f49z1 i3 l4), [], 0⟩ trivial ?_
    refine AWp.seq ?_
    refine AWp.cond (b := (decide ((n2 : Int) < (lZ x1)))) (by kernel_rfl) (fun hc1 => ?_) (fun hc1 => ?_)
    ·
      replace h := ite_tb hc1 h
      refine AWp.skip ?_
      refine thenQ_normal ?_
      refine AWp.seq ?_
      refine AWp.block ?_
      refine AWp.seq ?_
      obtain ⟨ob0p, h⟩ := chk_some h
      have ob0 : 0 ≤ (n2 : Int) ∧ (n2 : Int) < (((x1).length : Nat) : Int) := ⟨by omega, ob0p⟩
      refine q4rr [] [] ⟨40, [(2, .ptr 2 0), (3, .ptr 3 0), (4, .ptr 4 0), (6, .str (x1.getD n2 [])), (11, q4aS x1), (12, .i (lZ x1)), (13, .i (n2 : Int)), (1000001, .tab .u64 Lib.pow10Tab), (1000002, errG), (1000003, errG)], (f49z1 i3 l4), [], 0⟩ (an1 ob0) ?_
      refine thenQ_normal ?_
      refine AWp.seq ?_
      refine q4rq [] [] ⟨40, [(2, .ptr 2 0), (3, .ptr 3 0), (4, .ptr 4 0), (6, .str (x1.getD n2 [])), (11, q4aS x1), (12, .i (lZ x1)), (13, .i (n2 : Int)), (18, .bool ((x1.getD n2 []) == [])), (1000001, .tab .u64 Lib.pow10Tab), (1000002, errG), (1000003, errG)], (f49z1 i3 l4), [], 0⟩ trivial ?_
      refine AWp.cond (b := ((x1.getD n2 []) == [])) (by kernel_rfl) (fun hc2 => ?_) (fun hc2 => ?_)
      ·
        replace h := ite_tb hc2 h
        refine q4rq [] [] ⟨40, (f49z2), [(2, .cells 27 [.nils]), (3, .cells 49 [.i (2 : Int)])], [], 0⟩ (an2 trivial trivial) ?_
        have hret := Option.some.inj h
        subst hret
        refine AWp.le (Le.mk (s' := ⟨40, [(2, .ptr 2 0), (3, .ptr 3 0)], [(2, .cells 27 (f49z7)), (3, .cells 49 [.i (2 : Int)])], [], 0⟩) rfl rfl ⟨.refl _, .refl _, trivial⟩ ⟨⟨_, rfl, (.cellsL ⟨.nilL, trivial⟩)⟩, ⟨_, rfl, .refl _⟩, trivial⟩) ?_
        refine AWp.ret ?_
        refine thenQ_ret ?_
        refine blockQ_ret ?_
        refine thenQ_ret ?_
        refine thenQ_ret ?_
        refine blockQ_ret ?_
        refine joinQ_ret ?_
        exact bodyQ_ret _ rfl ⟨rfl, rfl⟩ rfl
      ·
        replace h := ite_fb hc2 h
        refine AWp.skip ?_
        refine thenQ_normal ?_
        refine AWp.seq ?_
        obtain ⟨r5, hr5, h⟩ := bind_ok h
        refine q4rr [] [(1, ⟨[.str (x1.getD n2 [])], [], [], [(6001, .cells 9 [.str r5])], .fn (.func 122) [.ptr 6001 0], [6001], [], []⟩)] ⟨40, [(2, .ptr 2 0), (3, .ptr 3 0), (4, .ptr 4 0), (11, q4aS x1), (12, .i (lZ x1)), (13, .i (n2 : Int)), (20, .fn (.func 122) [.ptr 6001 0]), (1000001, .tab .u64 Lib.pow10Tab), (1000002, errG), (1000003, errG)], (f49z3 i3 l4 r5), [], 0⟩ (an1 (cpT (Spec1.ren (swapN 3500 6001) (swapN_inv 3500 6001) rfl (f87_ok _ _ hr5)))) ?_
        refine thenQ_normal ?_
        refine AWp.block ?_
        obtain ⟨r11, hr11, h⟩ := bind_ok h
        obtain ⟨hkr11, h⟩ := chk_some h
        refine AWp.rangeFunc (s := ⟨40, [(2, .ptr 2 0), (3, .ptr 3 0), (4, .ptr 4 0), (11, q4aS x1), (12, .i (lZ x1)), (13, .i (n2 : Int)), (20, .fn (.func 122) [.ptr 6001 0]), (1000001, .tab .u64 Lib.pow10Tab), (1000002, errG), (1000003, errG)], (f49z3 i3 l4 r5), [], 0⟩) 70003 [2, 3, 4] [2, 3, 4, 1000001, 1000002, 1000003] [.ret] 122 [.ptr 6001 0] ⟨[.own 70003, .ptr 6001 0], [2, 3, 4, 5900, 6001], [70003, 2, 3, 4, 6001], [], .tup [], [5900], [], []⟩ r11.1 [(2, .cells 27 [.nils]), (3, .cells 49 [.i r11.2.1]), (4, .cells 27 [.own 5900]), (5900, q4bSSI_76 r11.2.2.1), (6001, .cells 9 [.str r11.2.2.2])] ⟨40, [(2, .ptr 2 0), (3, .ptr 3 0), (4, .ptr 4 0), (11, q4aS x1), (12, .i (lZ x1)), (13, .i (n2 : Int)), (20, .fn (.func 122) [.ptr 6001 0]), (1000001, .tab .u64 Lib.pow10Tab), (1000002, errG), (1000003, errG)], [(2, .cells 27 [.nils]), (3, .cells 49 [.i r11.2.1]), (4, .cells 27 [.own 5900]), (5900, q4bSSI_76 r11.2.2.1), (6001, .cells 9 [.str r11.2.2.2])], [], 0⟩ rfl (by kernel_rfl) (by kernel_rfl) (fun g0 => ?_) (fun C => (by kernel_rfl)) (by kernel_rfl) (by kernel_rfl) (by kernel_rfl) (by kernel_rfl) hkr11 (by kernel_rfl) ?_ ?_
        ·
          refine ⟨fun _ => (f122_ok _ f49_Y70003 i3 l4 r5 r11 hr11 ?_), fun _ => ⟨.refl _, .refl _, trivial⟩, .inl rfl⟩
          clear h
          rintro ⟨i7, l8, s6⟩ x9 rY70003 h
          replace h := (f49_Y70003.eq_1 ..).symm.trans h
          refine YSpec.body 0 rfl (of_decide_eq_true (by kernel_rfl)) (of_decide_eq_true (by kernel_rfl)) (within_tget (by kernel_rfl)) (by kernel_rfl) (by kernel_rfl) (by kernel_rfl) (by kernel_rfl) ?_
          refine AWp.le (Le.mk (s' := ⟨40, [(21, .str x9), (2, .ptr 2 0), (3, .ptr 3 0), (4, .ptr 4 0), (1000001, .tab .u64 Lib.pow10Tab), (1000002, errG), (1000003, errG)], [(2, .cells 27 [.nils]), (3, .cells 49 [.i i7]), (4, .cells 27 [.own 5900]), (5900, q4bSSI_76 l8), (6001, .cells 9 [.str s6])], [2, 3, 4, 6001], 0⟩) rfl rfl ⟨.refl _, .refl _, .refl _, .refl _, .refl _, .refl _, .refl _, trivial⟩ ⟨⟨_, rfl, .refl _⟩, ⟨_, rfl, .refl _⟩, ⟨_, rfl, .refl _⟩, ⟨_, rfl, .refl _⟩, ⟨_, rfl, .refl _⟩, trivial⟩) ?_
          refine q4rr [] [] ⟨40, [(2, .ptr 2 0), (3, .ptr 3 0), (4, .ptr 4 0), (7, .str x9), (1000001, .tab .u64 Lib.pow10Tab), (1000002, errG), (1000003, errG)], [(2, .cells 27 [.nils]), (3, .cells 49 [.i i7]), (4, .cells 27 [.own 5900]), (5900, q4bSSI_76 l8), (6001, .cells 9 [.str s6])], [2, 3, 4, 6001], 0⟩ trivial ?_
          refine ⟨rfl, rfl, ?_⟩
          refine AWp.block ?_
          refine AWp.seq ?_
          obtain ⟨r10, hr10, h⟩ := bind_ok h
          refine q4rr [] [(1, ⟨[.str x9], [], [], [], .tup [.agg [.str r10.1, .str r10.2.1, .i r10.2.2.1], .bool r10.2.2.2], [], [], [1, 2, 3]⟩)] ⟨40, [(2, .ptr 2 0), (3, .ptr 3 0), (4, .ptr 4 0), (8, .ptr 8 0), (9, .bool r10.2.2.2), (1000001, .tab .u64 Lib.pow10Tab), (1000002, errG), (1000003, errG)], [(2, .cells 27 [.nils]), (3, .cells 49 [.i i7]), (4, .cells 27 [.own 5900]), (8, .cells 76 [.str r10.1, .str r10.2.1, .i r10.2.2.1]), (5900, q4bSSI_76 l8), (6001, .cells 9 [.str s6])], [2, 3, 4, 6001], 0⟩ (an2 (cpT (f88_ok _ _ hr10)) trivial) ?_
          refine thenQ_normal ?_
          refine AWp.seq ?_
          refine q4rq [] [] ⟨40, [(2, .ptr 2 0), (3, .ptr 3 0), (4, .ptr 4 0), (8, .ptr 8 0), (28, .bool (!r10.2.2.2)), (1000001, .tab .u64 Lib.pow10Tab), (1000002, errG), (1000003, errG)], [(2, .cells 27 [.nils]), (3, .cells 49 [.i i7]), (4, .cells 27 [.own 5900]), (8, .cells 76 [.str r10.1, .str r10.2.1, .i r10.2.2.1]), (5900, q4bSSI_76 l8), (6001, .cells 9 [.str s6])], [2, 3, 4, 6001], 0⟩ trivial ?_
          refine AWp.cond (b := (!r10.2.2.2)) (by kernel_rfl) (fun hc3 => ?_) (fun hc3 => ?_)
          ·
            replace h := ite_tb hc3 h
            refine q4rq [] [] ⟨40, (f49z6), [(2, .cells 27 [.nils]), (3, .cells 49 [.i (2 : Int)]), (4, .cells 27 [.own 5900]), (5900, q4bSSI_76 l8), (6001, .cells 9 [.str s6])], [2, 3, 4, 6001], 0⟩ (an2 trivial trivial) ?_
            refine AWp.ret ?_
            refine thenQ_ret ?_
            refine blockQ_ret ?_
            have hret := Option.some.inj h
            subst hret
            exact ⟨_, (Le.mk (s' := ⟨40, [], [(2, .cells 27 [.nils]), (3, .cells 49 [.i (2 : Int)]), (4, .cells 27 [.own 5900]), (5900, q4bSSI_76 l8), (6001, .cells 9 [.str s6])], [2, 3, 4, 6001], 0⟩) rfl rfl trivial ⟨⟨_, rfl, .refl _⟩, ⟨_, rfl, .refl _⟩, ⟨_, rfl, .refl _⟩, ⟨_, rfl, .refl _⟩, ⟨_, rfl, .refl _⟩, trivial⟩), rfl, rfl, .inr ⟨0, _, rfl, rfl, .inl ⟨rfl, rfl⟩⟩⟩
          ·
            replace h := ite_fb hc3 h
            refine AWp.skip ?_
            refine thenQ_normal ?_
            obtain ⟨ob1, h⟩ := chk_some h
            refine q4rr [] [] ⟨40, (f49z6), [(2, .cells 27 [.nils]), (3, .cells 49 [.i i7]), (4, .cells 27 [.own 5900]), (5900, .rows 76 3 ((l8).length + 1) (appF (l8).length (encF eSSI q4dSSI l8) (lstF 3 [.str r10.1, .str r10.2.1, .i r10.2.2.1]))), (6001, .cells 9 [.str s6])], [2, 3, 4, 6001], 0⟩ (an2 ob1 trivial) ?_
            refine blockQ_normal ?_
            have hret := Option.some.inj h
            subst hret
            exact ⟨_, (Le.trans (Le.mk (s' := ⟨40, (f49z6), [(2, .cells 27 [.nils]), (3, .cells 49 [.i i7]), (4, .cells 27 [.own 5900]), (5900, q4bSSI_76 (l8 ++ [(r10.1, r10.2.1, r10.2.2.1)])), (6001, .cells 9 [.str s6])], [2, 3, 4, 6001], 0⟩) rfl rfl ⟨.refl _, .refl _, .refl _, trivial⟩ ⟨⟨_, rfl, .refl _⟩, ⟨_, rfl, .refl _⟩, ⟨_, rfl, .refl _⟩, ⟨_, rfl, (BLe.of (RL.app (RL.self _) (RL.lst (enc := eSSI) [(r10.1, r10.2.1, r10.2.2.1)] rfl rfl (fun _ => rfl))))⟩, ⟨_, rfl, .refl _⟩, trivial⟩) (Le.mk (s' := ⟨40, [], [(2, .cells 27 [.nils]), (3, .cells 49 [.i i7]), (4, .cells 27 [.own 5900]), (5900, q4bSSI_76 (l8 ++ [(r10.1, r10.2.1, r10.2.2.1)])), (6001, .cells 9 [.str s6])], [2, 3, 4, 6001], 0⟩) rfl rfl trivial ⟨⟨_, rfl, .refl _⟩, ⟨_, rfl, .refl _⟩, ⟨_, rfl, .refl _⟩, ⟨_, rfl, .refl _⟩, ⟨_, rfl, .refl _⟩, trivial⟩)), rfl, rfl, .inl ⟨rfl, rfl⟩⟩
        ·
          intro hk0
          replace h := ite_t hk0 h
          refine blockQ_normal ?_
          refine blockQ_normal ?_
          refine thenQ_normal ?_
          obtain ⟨ob2p, h⟩ := chk_some h
          have ob2 : -9223372036854775808 ≤ ((n2 : Int) + (1 : Int)) ∧ ((n2 : Int) + (1 : Int)) ≤ 9223372036854775807 := ⟨by omega, ob2p⟩
          refine q4rr [] [] ⟨40, [(2, .ptr 2 0), (3, .ptr 3 0), (4, .ptr 4 0), (11, q4aS x1), (12, .i (lZ x1)), (13, .i (((n2 + 1) : Nat) : Int)), (1000001, .tab .u64 Lib.pow10Tab), (1000002, errG), (1000003, errG)], [(2, .cells 27 [.nils]), (3, .cells 49 [.i r11.2.1]), (4, .cells 27 [.own 5900]), (5900, q4bSSI_76 r11.2.2.1)], [], 0⟩ (an1 ob2) ?_
          rw [hC0] at h
          exact loopQ_normal (_, (n2 + 1), r11.2.1, r11.2.2.1) (Le.mk rfl rfl ⟨.refl _, .refl _, .refl _, .refl _, .refl _, .refl _, .refl _, .refl _, .refl _, trivial⟩ ⟨⟨_, rfl, .refl _⟩, ⟨_, rfl, .refl _⟩, ⟨_, rfl, .refl _⟩, ⟨_, rfl, .refl _⟩, trivial⟩) h (Nat.lt_succ_self _)
        ·
          intro j hkj
          replace h := ite_f (by omega) h
          cases j with
          | zero =>
            replace h := ite_t (by omega) h
            refine ⟨_, rfl, ?_⟩
            have hret := Option.some.inj h
            subst hret
            refine AWp.le (Le.mk (s' := ⟨40, [(2, .ptr 2 0), (3, .ptr 3 0)], [(2, .cells 27 (f49z7)), (3, .cells 49 [.i r11.2.1])], [], 0⟩) rfl rfl ⟨.refl _, .refl _, trivial⟩ ⟨⟨_, rfl, (.cellsL ⟨.nilL, trivial⟩)⟩, ⟨_, rfl, .refl _⟩, trivial⟩) ?_
            refine AWp.ret ?_
            refine blockQ_ret ?_
            refine blockQ_ret ?_
            refine thenQ_ret ?_
            refine thenQ_ret ?_
            refine blockQ_ret ?_
            refine joinQ_ret ?_
            exact bodyQ_ret _ rfl ⟨rfl, rfl⟩ rfl
          | succ j =>
          replace h := ite_f (by omega) h
          exact nomatch (show (none : Option ((List (List UInt8 × List UInt8 × Int)) × Int)) = some r from h)
    ·
      replace h := ite_fb hc1 h
      refine AWp.exit ?_
      refine thenQ_exit ?_
      refine thenQ_exit ?_
      refine blockQ_same ?_
      exact joinQ_normal (i3, l4) (Le.mk rfl rfl ⟨.refl _, .refl _, .refl _, .refl _, .refl _, .refl _, trivial⟩ ⟨⟨_, rfl, .refl _⟩, ⟨_, rfl, .refl _⟩, ⟨_, rfl, .refl _⟩, ⟨_, rfl, .refl _⟩, trivial⟩) h
  ·
    rintro ⟨i12, l13⟩ h
    replace h := (congrFun hK1 _).symm.trans h
    refine AWp.seq ?_
    refine AWp.seq ?_
    obtain ⟨r14, hr14, h⟩ := bind_ok h
    refine q4rr [] [(1, ⟨[q4aSSI l13], [], [], [], .i r14, [], [5900], []⟩)] ⟨40, [(2, .ptr 2 0), (3, .ptr 3 0), (4, .ptr 4 0), (10, .i r14), (1000001, .tab .u64 Lib.pow10Tab), (1000002, errG), (1000003, errG)], (f49z4 i12 l13), [], 0⟩ (an1 (cpL (c := true) [(5900, q4bSSI_76 l13)] [5900] [.own 5900] (fun _ => (f89_ok _ _ hr14)) (fun _ => ⟨.refl _, trivial⟩) (.inr ⟨rfl, trivial⟩))) ?_
    refine thenQ_normal ?_
    refine q4rq [] [] ⟨40, [(2, .ptr 2 0), (3, .ptr 3 0), (4, .ptr 4 0), (10, .i r14), (37, .bool (r14 != (0 : Int))), (1000001, .tab .u64 Lib.pow10Tab), (1000002, errG), (1000003, errG)], (f49z4 i12 l13), [], 0⟩ trivial ?_
    refine AWp.cond (b := (r14 != (0 : Int))) (by kernel_rfl) (fun hc4 => ?_) (fun hc4 => ?_)
    ·
      replace h := ite_tb hc4 h
      refine q4rq [] [] ⟨40, (f49z2), [(2, .cells 27 [.nils]), (3, .cells 49 [.i r14])], [], 0⟩ (an2 trivial trivial) ?_
      have hret := Option.some.inj h
      subst hret
      refine AWp.le (Le.mk (s' := ⟨40, [(2, .ptr 2 0), (3, .ptr 3 0)], [(2, .cells 27 (f49z7)), (3, .cells 49 [.i r14])], [], 0⟩) rfl rfl ⟨.refl _, .refl _, trivial⟩ ⟨⟨_, rfl, (.cellsL ⟨.nilL, trivial⟩)⟩, ⟨_, rfl, .refl _⟩, trivial⟩) ?_
      refine AWp.ret ?_
      refine thenQ_ret ?_
      exact bodyQ_ret _ rfl ⟨rfl, rfl⟩ rfl
    ·
      replace h := ite_fb hc4 h
      refine AWp.skip ?_
      refine thenQ_normal ?_
      refine q4rq [] [] ⟨40, (f49z2), [(2, .cells 27 [.own 5900]), (3, .cells 49 (f49z8)), (5900, q4bSSI_76 l13)], [], 0⟩ (an2 trivial trivial) ?_
      refine AWp.le (Le.trans (Le.freeze 5900 rfl rfl) (Le.mk (s' := ⟨40, (f49z2), [(2, .cells 27 [q4aSSI l13]), (3, .cells 49 (f49z8))], [], 0⟩) rfl rfl ⟨.refl _, .refl _, .refl _, .refl _, .refl _, trivial⟩ ⟨⟨_, rfl, .refl _⟩, ⟨_, rfl, .refl _⟩, trivial⟩)) ?_
      have hret := Option.some.inj h
      subst hret
      refine AWp.le (Le.mk (s' := ⟨40, [(2, .ptr 2 0), (3, .ptr 3 0)], [(2, .cells 27 [q4aSSI l13]), (3, .cells 49 (f49z8))], [], 0⟩) rfl rfl ⟨.refl _, .refl _, trivial⟩ ⟨⟨_, rfl, .refl _⟩, ⟨_, rfl, .refl _⟩, trivial⟩) ?_
      refine AWp.ret ?_
      exact bodyQ_ret _ rfl ⟨rfl, rfl⟩ rfl
def f50_L0 (x1 : List (List UInt8)) (x2 : List (List UInt8)) (K1 : Unit → Option Bool) : Nat → Nat → Option Bool
  | 0, _ => none
  | k + 1, n3 =>
    if (decide ((n3 : Int) < (((x1).length : Nat) : Int))) then (
    chk ((n3 : Int) < (((x1).length : Nat) : Int)) <|
    chk ((n3 : Int) < (((x2).length : Nat) : Int)) <|
    if (!((x1.getD n3 []) == (x2.getD n3 []))) then (
    some false
    ) else (
    chk (((n3 : Int) + (1 : Int)) ≤ 9223372036854775807) <|
    (f50_L0 x1 x2 K1 k) (n3 + 1)
    )
    ) else (
    K1 ()
    )
def f50 (x1 : List (List UInt8)) (x2 : List (List UInt8)) : Option Bool :=
  if ((((x1).length : Nat) : Int) != (((x2).length : Nat) : Int)) then (
  some false
  ) else (
  jn (fun (_ : Unit) =>
  some true
  ) fun (K1 : Unit → Option Bool) =>
  f50_L0 x1 x2 K1 FUEL 0
  )
set_option maxRecDepth 100000 in
theorem f50_ok  (x1 : List (List UInt8)) (x2 : List (List UInt8)) (r : Bool) (h : f50 x1 x2 = some r)  : Spec1 Tryz.prog 50 [] [] [] [vL 1 eS [] x1, vL 1 eS [] x2] (.bool r) [] := by
  unfold f50 at h
  refine Spec1.body 0 _ _ Tryz.func50 rfl Tryz.ntmps50 rfl rfl ?_
  refine q4rq [] [] ⟨26, [(0, q4aS x1), (1, q4aS x2)], [], [], 0⟩ trivial ?_
  refine AWp.seq ?_
  refine q4rq [] [] ⟨26, [(0, q4aS x1), (1, q4aS x2), (10, .bool ((lZ x1) != (lZ x2)))], [], [], 0⟩ trivial ?_
  refine AWp.cond (b := ((lZ x1) != (lZ x2))) (by kernel_rfl) (fun hc1 => ?_) (fun hc1 => ?_)
  ·
    replace h := ite_tb hc1 h
    refine q4rq [] [] ⟨26, [(4, .bool false)], [], [], 0⟩ trivial ?_
    have hret := Option.some.inj h
    subst hret
    refine AWp.ret ?_
    refine thenQ_ret ?_
    exact bodyQ_ret _ rfl ⟨rfl, rfl⟩ rfl
  ·
    replace h := ite_fb hc1 h
    refine AWp.skip ?_
    refine thenQ_normal ?_
    obtain ⟨K1, hK1, h⟩ := jn_some h
    refine AWp.join (α := Unit) (fun (x : Unit) => match x with | () => ⟨26, [], [], [], 0⟩) (fun x => K1 x = some r) ?_ ?_
    ·
      refine q4rq [] [] ⟨26, [(0, q4aS x1), (1, q4aS x2), (12, .i (lZ x1)), (13, .i (0 : Int))], [], [], 0⟩ trivial ?_
      refine AWp.block ?_
      refine AWp.loopL (α := Nat × Nat) (fun x => match x with | (_, n3) => ⟨26, [(0, q4aS x1), (1, q4aS x2), (12, .i (lZ x1)), (13, .i (n3 : Int))], [], [], 0⟩) (fun x => f50_L0 x1 x2 K1 x.1 x.2 = some r) (fun x => x.1) (FUEL, 0) (Le.mk (s' := ⟨26, [(0, q4aS x1), (1, q4aS x2), (12, .i (lZ x1)), (13, .i (0 : Int))], [], [], 0⟩) rfl rfl ⟨.refl _, .refl _, .refl _, .refl _, trivial⟩ trivial) h ?_
      rintro ⟨k0, n3⟩ h
      cases k0 with
      | zero => exact nomatch (show (none : Option Bool) = some r from h)
      | succ k0 =>
      obtain ⟨C0, hC0⟩ : ∃ C, C = f50_L0 x1 x2 K1 k0 := ⟨_, rfl⟩
      replace h := (f50_L0.eq_2 ..).symm.trans h
      try rw [← hC0] at h
      refine q4rq [] [] ⟨26, [(0, q4aS x1), (1, q4aS x2), (12, .i (lZ x1)), (13, .i (n3 : Int)), (14, .bool (decide ((n3 : Int) < (lZ x1))))], [], [], 0⟩ trivial ?_
      refine AWp.seq ?_
      refine AWp.cond (b := (decide ((n3 : Int) < (lZ x1)))) (by kernel_rfl) (fun hc2 => ?_) (fun hc2 => ?_)
      ·
        replace h := ite_tb hc2 h
        refine AWp.skip ?_
        refine thenQ_normal ?_
        refine AWp.seq ?_
        refine AWp.block ?_
        refine q4rq [] [] ⟨26, [(0, q4aS x1), (1, q4aS x2), (5, .i (n3 : Int)), (12, .i (lZ x1)), (13, .i (n3 : Int))], [], [], 0⟩ trivial ?_
        refine AWp.seq ?_
        obtain ⟨ob0p, h⟩ := chk_some h
        have ob0 : 0 ≤ (n3 : Int) ∧ (n3 : Int) < (((x1).length : Nat) : Int) := ⟨by omega, ob0p⟩
        obtain ⟨ob1p, h⟩ := chk_some h
        have ob1 : 0 ≤ (n3 : Int) ∧ (n3 : Int) < (((x2).length : Nat) : Int) := ⟨by omega, ob1p⟩
        refine q4rr [] [] ⟨26, [(0, q4aS x1), (1, q4aS x2), (12, .i (lZ x1)), (13, .i (n3 : Int)), (24, .bool (!((x1.getD n3 []) == (x2.getD n3 []))))], [], [], 0⟩ (an2 ob0 ob1) ?_
        refine thenQ_normal ?_
        refine AWp.cond (b := (!((x1.getD n3 []) == (x2.getD n3 [])))) (by kernel_rfl) (fun hc3 => ?_) (fun hc3 => ?_)
        ·
          replace h := ite_tb hc3 h
          refine q4rq [] [] ⟨26, [(4, .bool false)], [], [], 0⟩ trivial ?_
          have hret := Option.some.inj h
          subst hret
          refine AWp.ret ?_
          refine blockQ_ret ?_
          refine thenQ_ret ?_
          refine thenQ_ret ?_
          refine blockQ_ret ?_
          refine joinQ_ret ?_
          exact bodyQ_ret _ rfl ⟨rfl, rfl⟩ rfl
        ·
          replace h := ite_fb hc3 h
          refine AWp.skip ?_
          refine blockQ_normal ?_
          refine thenQ_normal ?_
          obtain ⟨ob2p, h⟩ := chk_some h
          have ob2 : -9223372036854775808 ≤ ((n3 : Int) + (1 : Int)) ∧ ((n3 : Int) + (1 : Int)) ≤ 9223372036854775807 := ⟨by omega, ob2p⟩
          refine q4rr [] [] ⟨26, [(0, q4aS x1), (1, q4aS x2), (12, .i (lZ x1)), (13, .i (((n3 + 1) : Nat) : Int))], [], [], 0⟩ (an1 ob2) ?_
          rw [hC0] at h
          exact loopQ_normal (_, (n3 + 1)) (Le.mk rfl rfl ⟨.refl _, .refl _, .refl _, .refl _, trivial⟩ trivial) h (Nat.lt_succ_self _)
      ·
        replace h := ite_fb hc2 h
        refine AWp.exit ?_
        refine thenQ_exit ?_
        refine thenQ_exit ?_
        refine blockQ_same ?_
        exact joinQ_normal () (Le.mk rfl rfl trivial trivial) h
    ·
      rintro ⟨⟩ h
      replace h := (congrFun hK1 _).symm.trans h
      refine q4rq [] [] ⟨26, [(4, .bool true)], [], [], 0⟩ trivial ?_
      have hret := Option.some.inj h
      subst hret
      refine AWp.ret ?_
      exact bodyQ_ret _ rfl ⟨rfl, rfl⟩ rfl
abbrev f23z0 (r3 : (List (List UInt8 × List UInt8 × Int)) × Int) (r2 : (List (Int × Int × List UInt8)) × Bool) : List V := [vL 3 eSSI (default : List UInt8 × List UInt8 × Int) r3.1, vL 3 eIIS (default : Int × Int × List UInt8) r2.1]
abbrev f23z1 : Heap := [(2, .cells 30 [vL 3 eSSI (default : List UInt8 × List UInt8 × Int) [], vL 3 eIIS (default : Int × Int × List UInt8) []])]
abbrev f23z2 : List (Nat × V) := [(2, .ptr 2 0), (3, .int .i64 (2 : Int)), (1000001, .tab .u64 Lib.pow10Tab), (1000002, errG), (1000003, errG)]
abbrev f23z3 : Heap := [(2, .cells 30 [.nils, .nils])]
def f23 (x1 : List (List UInt8)) : Option ((List (List UInt8 × List UInt8 × Int)) × (List (Int × Int × List UInt8)) × Int) :=
  if ((((x1).length : Nat) : Int) == (0 : Int)) then (
  some ([], [], (2 : Int))
  ) else (
  (f48 (x1.getD 0 [])).bind fun (r2 : (List (Int × Int × List UInt8)) × Bool) =>
  chk ((0 : Int) < (((x1).length : Nat) : Int)) <|
  (f49 (x1.drop 1)).bind fun (r3 : (List (List UInt8 × List UInt8 × Int)) × Int) =>
  chk ((1 : Int) ≤ (((x1).length : Nat) : Int)) <|
  if ((!r2.2) || (r3.2 != (0 : Int))) = true then (
  some ([], [], (2 : Int))
  ) else (
  (f27 r3.1 r2.1).bind fun (r4 : List (List UInt8)) =>
  (f50 r4 x1).bind fun (r5 : Bool) =>
  if (!r5) then (
  some ([], [], (2 : Int))
  ) else (
  some (r3.1, r2.1, (0 : Int))
  )
  )
  )
set_option maxRecDepth 100000 in
theorem f23_ok  (x1 : List (List UInt8)) (r : (List (List UInt8 × List UInt8 × Int)) × (List (Int × Int × List UInt8)) × Int) (h : f23 x1 = some r)  : Spec1 Tryz.prog 23 [(1, .tab .u64 Lib.pow10Tab), (2, errG), (3, errG)] [] [] [vL 1 eS [] x1] (.tup [.agg [vL 3 eSSI (default : List UInt8 × List UInt8 × Int) r.1, vL 3 eIIS (default : Int × Int × List UInt8) r.2.1], .int .i64 r.2.2]) [] := by
  unfold f23 at h
  refine Spec1.bodyD [2] 0 _ _ Tryz.func23 rfl Tryz.ntmps23 rfl rfl ?_
  refine q4rq [] [] ⟨44, [(0, q4aS x1), (2, .ptr 2 0), (1000001, .tab .u64 Lib.pow10Tab), (1000002, errG), (1000003, errG)], (f23z3), [], 0⟩ trivial ?_
  refine AWp.seq ?_
  refine q4rq [] [] ⟨44, [(0, q4aS x1), (2, .ptr 2 0), (11, .bool ((lZ x1) == (0 : Int))), (1000001, .tab .u64 Lib.pow10Tab), (1000002, errG), (1000003, errG)], (f23z3), [], 0⟩ trivial ?_
  refine AWp.cond (b := ((lZ x1) == (0 : Int))) (by kernel_rfl) (fun hc1 => ?_) (fun hc1 => ?_)
  ·
    replace h := ite_tb hc1 h
    refine q4rq [] [] ⟨44, (f23z2), (f23z3), [], 0⟩ (an1 trivial) ?_
    have hret := Option.some.inj h
    subst hret
    refine AWp.le (Le.mk (s' := ⟨44, [(2, .ptr 2 0), (3, .i (2 : Int))], (f23z1), [], 0⟩) rfl rfl ⟨.refl _, .refl _, trivial⟩ ⟨⟨_, rfl, (.cellsL ⟨.nilL, .nilL, trivial⟩)⟩, trivial⟩) ?_
    refine AWp.ret ?_
    refine thenQ_ret ?_
    exact bodyQ_ret _ rfl ⟨rfl, rfl⟩ rfl
  ·
    replace h := ite_fb hc1 h
    refine AWp.skip ?_
    refine thenQ_normal ?_
    refine AWp.seq ?_
    obtain ⟨r2, hr2, h⟩ := bind_ok h
    obtain ⟨ob0p, h⟩ := chk_some h
    have ob0 : 0 ≤ (0 : Int) ∧ (0 : Int) < (((x1).length : Nat) : Int) := ⟨by omega, ob0p⟩
    refine q4rr [] [(3, ⟨[.str (x1.getD 0 [])], [], [], [], .tup [q4aIIS r2.1, .bool r2.2], [], [], [1, 2, 3]⟩)] ⟨44, [(0, q4aS x1), (2, .ptr 2 0), (4, q4aIIS r2.1), (5, .bool r2.2), (1000001, .tab .u64 Lib.pow10Tab), (1000002, errG), (1000003, errG)], (f23z3), [], 0⟩ (an2 ob0 (cpT (f48_ok _ _ hr2))) ?_
    refine thenQ_normal ?_
    refine AWp.seq ?_
    obtain ⟨r3, hr3, h⟩ := bind_ok h
    obtain ⟨ob1p, h⟩ := chk_some h
    have ob1 : 0 ≤ (1 : Int) ∧ (1 : Int) ≤ (((x1).length : Nat) : Int) := ⟨by omega, ob1p⟩
    refine q4rr [] [(2, ⟨[q4aS (x1.drop 1)], [], [], [], .tup [q4aSSI r3.1, .i r3.2], [], [], [1, 2, 3]⟩)] ⟨44, [(0, q4aS x1), (2, .ptr 2 0), (4, q4aIIS r2.1), (5, .bool r2.2), (6, q4aSSI r3.1), (7, .i r3.2), (1000001, .tab .u64 Lib.pow10Tab), (1000002, errG), (1000003, errG)], (f23z3), [], 0⟩ (an2 ob1 (cpL (c := true) [] [] [.arr 1 ((x1).length - 1) (fun i j => (encF eS [] x1) (i + 1) j)] (fun _ => (f49_ok _ _ hr3)) (fun _ => ⟨VLe.dropL, trivial⟩) (.inl rfl))) ?_
    refine thenQ_normal ?_
    refine q4rq [] [] ⟨44, [(0, q4aS x1), (2, .ptr 2 0), (5, .bool r2.2), (7, .i r3.2), (8, .ptr 8 0), (1000001, .tab .u64 Lib.pow10Tab), (1000002, errG), (1000003, errG)], [(2, .cells 30 [.nils, .nils]), (8, .cells 30 (f23z0 r3 r2))], [], 0⟩ (an1 trivial) ?_
    refine AWp.seq ?_
    refine AWp.seq ?_
    by_cases hg6_6 : ((!r2.2) || (r3.2 != (0 : Int))) = true
    ·
      replace h := ite_t hg6_6 h
      have ob2 := idA (((!r2.2) == false) = true)
      have ob3 := bqA (!r2.2) false
      have ob4 := idA (false = true)
      have ob8 : true = true → true = false → false = true := by first | decide | omega | simp | (intro h; cases h)
      refine q4rr [] [(6, ⟨[], [], [], [], (.bool true), [], [0], []⟩), (8, ⟨[], [], [], [], .any, [], [], []⟩), (10, ⟨[], [], [], [], .bool false, [], [], []⟩)] ⟨44, [(2, .ptr 2 0), (8, .ptr 8 0), (41, .bool true), (1000001, .tab .u64 Lib.pow10Tab), (1000002, errG), (1000003, errG)], [(2, .cells 30 [.nils, .nils]), (8, .cells 30 (f23z0 r3 r2))], [], 0⟩ (ac6 (an1 ob2) ob3 (show ((.bool ((!r2.2) || (r3.2 != (0 : Int)))) : V) = (.bool true) from (congrArg (fun x => ((.bool x) : V)) hg6_6)) (And.intro (show (callP Tryz.prog false 27 [] [] [] [] [] [.agg (f23z0 r3 r2)] [] (.any) []) from ⟨nofun, nofun, .inl rfl⟩) (an1 ob4)) (And.intro (show (callP Tryz.prog false 50 [] [] [] [] [] [.any, q4aS x1] [] (.bool false) []) from ⟨nofun, nofun, .inl rfl⟩) (an2 ob4 ob4)) (an1 ob4) (an1 ob8)) ?_
      refine thenQ_normal ?_
      refine AWp.cond (b := true) (by kernel_rfl) (fun hc => ?_) (fun hc => ?_)
      ·
        clear hc
        refine q4rq [] [] ⟨44, (f23z2), (f23z3), [], 0⟩ (an1 trivial) ?_
        have hret := Option.some.inj h
        subst hret
        refine AWp.le (Le.mk (s' := ⟨44, [(2, .ptr 2 0), (3, .i (2 : Int))], (f23z1), [], 0⟩) rfl rfl ⟨.refl _, .refl _, trivial⟩ ⟨⟨_, rfl, (.cellsL ⟨.nilL, .nilL, trivial⟩)⟩, trivial⟩) ?_
        refine AWp.ret ?_
        refine thenQ_ret ?_
        exact bodyQ_ret _ rfl ⟨rfl, rfl⟩ rfl
      ·
        cases hc
    ·
      replace h := ite_f hg6_6 h
      obtain ⟨r4, hr4, h⟩ := bind_ok h
      obtain ⟨r5, hr5, h⟩ := bind_ok h
      have ob2 := idA (((!r2.2) == false) = true)
      have ob3 := bqA (!r2.2) false
      have ob4 := idA (true = true)
      have ob7 : true = true → false = false → true = true := by first | decide | omega | simp | (intro h; cases h)
      refine q4rr [] [(6, ⟨[], [], [], [], (.bool false), [], [0], []⟩), (8, ⟨[.agg (f23z0 r3 r2)], [], [], [(6001, q4bS_9 r4)], .own 6001, [6001], [], [1]⟩), (10, ⟨[q4aS r4, q4aS x1], [], [], [], .bool r5, [], [6001], []⟩)] ⟨44, [(2, .ptr 2 0), (8, .ptr 8 0), (41, .bool (!r5)), (1000001, .tab .u64 Lib.pow10Tab), (1000002, errG), (1000003, errG)], [(2, .cells 30 [.nils, .nils]), (8, .cells 30 (f23z0 r3 r2))], [], 0⟩ (ac6 (an1 ob2) ob3 (show ((.bool ((!r2.2) || (r3.2 != (0 : Int)))) : V) = (.bool false) from (congrArg (fun x => ((.bool x) : V)) (Bool.eq_false_iff.2 hg6_6))) (And.intro (cpT (Spec1.ren (swapN 3000 6001) (swapN_inv 3000 6001) rfl (f27_ok _ _ _ hr4))) (an1 ob4)) (And.intro (cpL (c := true) [(6001, q4bS_9 r4)] [6001] [.own 6001, q4aS x1] (fun _ => (f50_ok _ _ _ hr5)) (fun _ => ⟨.refl _, .refl _, trivial⟩) (.inr ⟨rfl, trivial⟩)) (an1 ob4)) (an1 ob4) (an1 ob7)) ?_
      refine thenQ_normal ?_
      refine AWp.cond (b := (!r5)) (by kernel_rfl) (fun hc3 => ?_) (fun hc3 => ?_)
      ·
        replace h := ite_tb hc3 h
        refine q4rq [] [] ⟨44, (f23z2), (f23z3), [], 0⟩ (an1 trivial) ?_
        have hret := Option.some.inj h
        subst hret
        refine AWp.le (Le.mk (s' := ⟨44, [(2, .ptr 2 0), (3, .i (2 : Int))], (f23z1), [], 0⟩) rfl rfl ⟨.refl _, .refl _, trivial⟩ ⟨⟨_, rfl, (.cellsL ⟨.nilL, .nilL, trivial⟩)⟩, trivial⟩) ?_
        refine AWp.ret ?_
        refine thenQ_ret ?_
        exact bodyQ_ret _ rfl ⟨rfl, rfl⟩ rfl
      ·
        replace h := ite_fb hc3 h
        refine AWp.skip ?_
        refine thenQ_normal ?_
        refine q4rq [] [] ⟨44, [(2, .ptr 2 0), (3, .i (0 : Int)), (1000001, .tab .u64 Lib.pow10Tab), (1000002, errG), (1000003, errG)], [(2, .cells 30 (f23z0 r3 r2))], [], 0⟩ (an1 trivial) ?_
        have hret := Option.some.inj h
        subst hret
        refine AWp.le (Le.mk (s' := ⟨44, [(2, .ptr 2 0), (3, .i (0 : Int))], [(2, .cells 30 (f23z0 r3 r2))], [], 0⟩) rfl rfl ⟨.refl _, .refl _, trivial⟩ ⟨⟨_, rfl, .refl _⟩, trivial⟩) ?_
        refine AWp.ret ?_
        exact bodyQ_ret _ rfl ⟨rfl, rfl⟩ rfl
def f90_L0 (x1 : List UInt8) (K1 : Unit → Option (Int × Int × Int)) : Nat → (Int × Int × Nat) → Option (Int × Int × Int)
  | 0, _ => none
  | k + 1, (i2, i3, n4) =>
    if ((decide ((n4 : Int) < ((x1.length : Nat) : Int))) && (decide ((n4 : Int) < (10 : Int)))) then (
    chk ((n4 : Int) < ((x1.length : Nat) : Int)) <|
    chk ((((x1.getD n4 0).toNat : Nat) : Int) ≤ 18446744073709551615) <|
    if (decide ((((x1.getD n4 0).toNat : Nat) : Int) ≥ (128 : Int))) then (
    chk (0 ≤ ((((x1.getD n4 0).toNat : Nat) : Int) - (128 : Int)) ∧ ((((x1.getD n4 0).toNat : Nat) : Int) - (128 : Int)) ≤ 18446744073709551615) <|
    chk (((n4 : Int) + (1 : Int)) ≤ 9223372036854775807) <|
    (f90_L0 x1 K1 k) ((IntKind.wrap .u64 (i2 + (IntKind.wrap .u64 (((((x1.getD n4 0).toNat : Nat) : Int) - (128 : Int)) * i3)))), (IntKind.wrap .u64 (i3 * (128 : Int))), (n4 + 1))
    ) else (
    if (((n4 : Int) == (9 : Int)) && (decide ((((x1.getD n4 0).toNat : Nat) : Int) > (1 : Int)))) then (
    some ((0 : Int), (0 : Int), (7 : Int))
    ) else (
    if (((((x1.getD n4 0).toNat : Nat) : Int) == (0 : Int)) && (decide ((n4 : Int) > (0 : Int)))) then (
    some ((0 : Int), (0 : Int), (2 : Int))
    ) else (
    chk (0 ≤ ((((x1.getD n4 0).toNat : Nat) : Int) * i3) ∧ ((((x1.getD n4 0).toNat : Nat) : Int) * i3) ≤ 18446744073709551615) <|
    chk (0 ≤ (i2 + ((((x1.getD n4 0).toNat : Nat) : Int) * i3)) ∧ (i2 + ((((x1.getD n4 0).toNat : Nat) : Int) * i3)) ≤ 18446744073709551615) <|
    chk (((n4 : Int) + (1 : Int)) ≤ 9223372036854775807) <|
    some ((i2 + ((((x1.getD n4 0).toNat : Nat) : Int) * i3)), (((n4 + 1) : Nat) : Int), (0 : Int))
    )
    )
    )
    ) else (
    K1 ()
    )
theorem f90_L0_e2 (x1 : List UInt8) (K1 : Unit → Option (Int × Int × Int)) (k : Nat) (i2 : Int) (i3 : Int) (n4 : Nat) : f90_L0 x1 K1 (k + 1) (i2, i3, n4) =
    if ((decide ((n4 : Int) < ((x1.length : Nat) : Int))) && (decide ((n4 : Int) < (10 : Int)))) then (
    chk ((n4 : Int) < ((x1.length : Nat) : Int)) <|
    chk ((((x1.getD n4 0).toNat : Nat) : Int) ≤ 18446744073709551615) <|
    if (decide ((((x1.getD n4 0).toNat : Nat) : Int) ≥ (128 : Int))) then (
    chk (0 ≤ ((((x1.getD n4 0).toNat : Nat) : Int) - (128 : Int)) ∧ ((((x1.getD n4 0).toNat : Nat) : Int) - (128 : Int)) ≤ 18446744073709551615) <|
    chk (((n4 : Int) + (1 : Int)) ≤ 9223372036854775807) <|
    (f90_L0 x1 K1 k) ((IntKind.wrap .u64 (i2 + (IntKind.wrap .u64 (((((x1.getD n4 0).toNat : Nat) : Int) - (128 : Int)) * i3)))), (IntKind.wrap .u64 (i3 * (128 : Int))), (n4 + 1))
    ) else (
    if (((n4 : Int) == (9 : Int)) && (decide ((((x1.getD n4 0).toNat : Nat) : Int) > (1 : Int)))) then (
    some ((0 : Int), (0 : Int), (7 : Int))
    ) else (
    if (((((x1.getD n4 0).toNat : Nat) : Int) == (0 : Int)) && (decide ((n4 : Int) > (0 : Int)))) then (
    some ((0 : Int), (0 : Int), (2 : Int))
    ) else (
    chk (0 ≤ ((((x1.getD n4 0).toNat : Nat) : Int) * i3) ∧ ((((x1.getD n4 0).toNat : Nat) : Int) * i3) ≤ 18446744073709551615) <|
    chk (0 ≤ (i2 + ((((x1.getD n4 0).toNat : Nat) : Int) * i3)) ∧ (i2 + ((((x1.getD n4 0).toNat : Nat) : Int) * i3)) ≤ 18446744073709551615) <|
    chk (((n4 : Int) + (1 : Int)) ≤ 9223372036854775807) <|
    some ((i2 + ((((x1.getD n4 0).toNat : Nat) : Int) * i3)), (((n4 + 1) : Nat) : Int), (0 : Int))
    )
    )
    )
    ) else (
    K1 ()
    ) := rfl
abbrev f90z0 : List (Nat × V) := [(2, .int .u64 (0 : Int)), (3, .int .i64 (0 : Int)), (4, .int .i64 (7 : Int))]
abbrev f90z1 (n4 : Nat) := ((n4 : Int) == (9 : Int))
def f90 (x1 : List UInt8) : Option (Int × Int × Int) :=
  jn (fun (_ : Unit) =>
  if (decide (((x1.length : Nat) : Int) < (10 : Int))) then (
  some ((0 : Int), (0 : Int), (9 : Int))
  ) else (
  some ((0 : Int), (0 : Int), (7 : Int))
  )
  ) fun (K1 : Unit → Option (Int × Int × Int)) =>
  f90_L0 x1 K1 FUEL ((0 : Int), (1 : Int), 0)
set_option maxRecDepth 100000 in
theorem f90_ok  (x1 : List UInt8) (r : Int × Int × Int) (h : f90 x1 = some r)  : Spec1 Tryz.prog 90 [] [] [] [.str x1] (.tup [.int .u64 r.1, .int .i64 r.2.1, .int .i64 r.2.2]) [] := by
  unfold f90 at h
  refine Spec1.body 0 _ _ Tryz.func90 rfl Tryz.ntmps90 rfl rfl ?_
  refine q4rq [29, 30, 32] [] ⟨55, [(0, .str x1)], [], [], 0⟩ trivial ?_
  refine q4rq [29, 30, 32] [] ⟨55, [(0, .str x1), (5, .int .u64 (0 : Int)), (6, .int .u64 (1 : Int))], [], [], 0⟩ trivial ?_
  obtain ⟨K1, hK1, h⟩ := jn_some h
  refine AWp.join (α := Unit) (fun (x : Unit) => match x with | () => ⟨55, [(0, .str x1)], [], [], 0⟩) (fun x => K1 x = some r) ?_ ?_
  ·
    refine q4rq [29, 30, 32] [] ⟨55, [(0, .str x1), (5, .int .u64 (0 : Int)), (6, .int .u64 (1 : Int)), (7, .i (0 : Int))], [], [], 0⟩ trivial ?_
    refine AWp.block ?_
    refine AWp.loopL (α := Nat × (Int × Int × Nat)) (fun x => match x with | (_, i2, i3, n4) => ⟨55, [(0, .str x1), (5, .int .u64 i2), (6, .int .u64 i3), (7, .i (n4 : Int))], [], [], 0⟩) (fun x => f90_L0 x1 K1 x.1 x.2 = some r) (fun x => x.1) (FUEL, (0 : Int), (1 : Int), 0) (Le.mk (s' := ⟨55, [(0, .str x1), (5, .int .u64 (0 : Int)), (6, .int .u64 (1 : Int)), (7, .i (0 : Int))], [], [], 0⟩) rfl rfl ⟨.refl _, .refl _, .refl _, .refl _, trivial⟩ trivial) h ?_
    rintro ⟨k0, i2, i3, n4⟩ h
    cases k0 with
    | zero => exact nomatch (show (none : Option (Int × Int × Int)) = some r from h)
    | succ k0 =>
    obtain ⟨C0, hC0⟩ : ∃ C, C = f90_L0 x1 K1 k0 := ⟨_, rfl⟩
    replace h := (f90_L0_e2 ..).symm.trans h
    try rw [← hC0] at h
    refine AWp.seq ?_
    refine AWp.seq ?_
    have ob0 := idA (((decide ((n4 : Int) < (lZ x1))) == true) = true)
    have ob1 := bqA (decide ((n4 : Int) < (lZ x1))) true
    refine q4rr [29, 30, 32] [] ⟨55, [(0, .str x1), (5, .int .u64 i2), (6, .int .u64 i3), (7, .i (n4 : Int)), (16, .bool ((decide ((n4 : Int) < (lZ x1))) && (decide ((n4 : Int) < (10 : Int)))))], [], [], 0⟩ (an2 (an1 ob0) ob1) ?_
    refine thenQ_normal ?_
    refine AWp.cond (b := ((decide ((n4 : Int) < (lZ x1))) && (decide ((n4 : Int) < (10 : Int))))) (by kernel_rfl) (fun hc1 => ?_) (fun hc1 => ?_)
    ·
      replace h := ite_tb hc1 h
      refine AWp.skip ?_
      refine thenQ_normal ?_
      refine AWp.seq ?_
      refine AWp.block ?_
      refine AWp.seq ?_
      obtain ⟨ob2p, h⟩ := chk_some h
      have ob2 : 0 ≤ (n4 : Int) ∧ (n4 : Int) < ((x1.length : Nat) : Int) := ⟨by omega, ob2p⟩
      obtain ⟨ob3p, h⟩ := chk_some h
      have ob3 : 0 ≤ (((x1.getD n4 0).toNat : Nat) : Int) ∧ (((x1.getD n4 0).toNat : Nat) : Int) ≤ 18446744073709551615 := ⟨by omega, ob3p⟩
      refine q4rr [29, 30, 32] [] ⟨55, [(0, .str x1), (5, .int .u64 i2), (6, .int .u64 i3), (7, .i (n4 : Int)), (8, .int .u64 (((x1.getD n4 0).toNat : Nat) : Int))], [], [], 0⟩ (an2 ob2 ob3) ?_
      refine thenQ_normal ?_
      refine AWp.seq ?_
      refine q4rq [29, 30, 32] [] ⟨55, [(0, .str x1), (5, .int .u64 i2), (6, .int .u64 i3), (7, .i (n4 : Int)), (8, .int .u64 (((x1.getD n4 0).toNat : Nat) : Int)), (24, .bool (decide ((((x1.getD n4 0).toNat : Nat) : Int) ≥ (128 : Int))))], [], [], 0⟩ trivial ?_
      refine AWp.cond (b := (decide ((((x1.getD n4 0).toNat : Nat) : Int) ≥ (128 : Int)))) (by kernel_rfl) (fun hc2 => ?_) (fun hc2 => ?_)
      ·
        replace h := ite_tb hc2 h
        refine AWp.seq ?_
        obtain ⟨ob4, h⟩ := chk_some h
        refine q4rr [29, 30, 32] [] ⟨55, [(0, .str x1), (5, .int .u64 (IntKind.wrap .u64 (i2 + (IntKind.wrap .u64 (((((x1.getD n4 0).toNat : Nat) : Int) - (128 : Int)) * i3))))), (6, .int .u64 i3), (7, .i (n4 : Int))], [], [], 0⟩ (an3 ob4 trivial trivial) ?_
        refine thenQ_normal ?_
        refine q4rq [29, 30, 32] [] ⟨55, [(0, .str x1), (5, .int .u64 (IntKind.wrap .u64 (i2 + (IntKind.wrap .u64 (((((x1.getD n4 0).toNat : Nat) : Int) - (128 : Int)) * i3))))), (6, .int .u64 (IntKind.wrap .u64 (i3 * (128 : Int)))), (7, .i (n4 : Int))], [], [], 0⟩ (an1 trivial) ?_
        refine AWp.exit ?_
        refine thenQ_exit ?_
        refine blockQ_same ?_
        refine thenQ_normal ?_
        obtain ⟨ob5p, h⟩ := chk_some h
        have ob5 : -9223372036854775808 ≤ ((n4 : Int) + (1 : Int)) ∧ ((n4 : Int) + (1 : Int)) ≤ 9223372036854775807 := ⟨by omega, ob5p⟩
        refine q4rr [29, 30, 32] [] ⟨55, [(0, .str x1), (5, .int .u64 (IntKind.wrap .u64 (i2 + (IntKind.wrap .u64 (((((x1.getD n4 0).toNat : Nat) : Int) - (128 : Int)) * i3))))), (6, .int .u64 (IntKind.wrap .u64 (i3 * (128 : Int)))), (7, .i (((n4 + 1) : Nat) : Int))], [], [], 0⟩ (an1 ob5) ?_
        rw [hC0] at h
        exact loopQ_normal (_, (IntKind.wrap .u64 (i2 + (IntKind.wrap .u64 (((((x1.getD n4 0).toNat : Nat) : Int) - (128 : Int)) * i3)))), (IntKind.wrap .u64 (i3 * (128 : Int))), (n4 + 1)) (Le.mk rfl rfl ⟨.refl _, .refl _, .refl _, .refl _, trivial⟩ trivial) h (Nat.lt_succ_self _)
      ·
        replace h := ite_fb hc2 h
        refine AWp.skip ?_
        refine thenQ_normal ?_
        refine AWp.seq ?_
        refine AWp.seq ?_
        have ob6 := idA (((f90z1 n4) == true) = true)
        have ob7 := bqA (f90z1 n4) true
        refine q4rr [29, 30, 32] [] ⟨55, [(5, .int .u64 i2), (6, .int .u64 i3), (7, .i (n4 : Int)), (8, .int .u64 (((x1.getD n4 0).toNat : Nat) : Int)), (38, .bool ((f90z1 n4) && (decide ((((x1.getD n4 0).toNat : Nat) : Int) > (1 : Int)))))], [], [], 0⟩ (an2 (an1 ob6) ob7) ?_
        refine thenQ_normal ?_
        refine AWp.cond (b := ((f90z1 n4) && (decide ((((x1.getD n4 0).toNat : Nat) : Int) > (1 : Int))))) (by kernel_rfl) (fun hc3 => ?_) (fun hc3 => ?_)
        ·
          replace h := ite_tb hc3 h
          refine q4rq [29, 30, 32] [] ⟨55, (f90z0), [], [], 0⟩ trivial ?_
          have hret := Option.some.inj h
          subst hret
          refine AWp.le (Le.mk (s' := ⟨55, (f90z0), [], [], 0⟩) rfl rfl ⟨.refl _, .refl _, .refl _, trivial⟩ trivial) ?_
          refine AWp.ret ?_
          refine thenQ_ret ?_
          refine blockQ_ret ?_
          refine thenQ_ret ?_
          refine thenQ_ret ?_
          refine blockQ_ret ?_
          refine joinQ_ret ?_
          exact bodyQ_ret _ rfl ⟨rfl, rfl⟩ rfl
        ·
          replace h := ite_fb hc3 h
          refine AWp.skip ?_
          refine thenQ_normal ?_
          refine AWp.seq ?_
          refine AWp.seq ?_
          have ob8 := idA ((((((x1.getD n4 0).toNat : Nat) : Int) == (0 : Int)) == true) = true)
          have ob9 := bqA ((((x1.getD n4 0).toNat : Nat) : Int) == (0 : Int)) true
          refine q4rr [29, 30, 32] [] ⟨55, [(5, .int .u64 i2), (6, .int .u64 i3), (7, .i (n4 : Int)), (8, .int .u64 (((x1.getD n4 0).toNat : Nat) : Int)), (44, .bool (((((x1.getD n4 0).toNat : Nat) : Int) == (0 : Int)) && (decide ((n4 : Int) > (0 : Int)))))], [], [], 0⟩ (an2 (an1 ob8) ob9) ?_
          refine thenQ_normal ?_
          refine AWp.cond (b := (((((x1.getD n4 0).toNat : Nat) : Int) == (0 : Int)) && (decide ((n4 : Int) > (0 : Int))))) (by kernel_rfl) (fun hc4 => ?_) (fun hc4 => ?_)
          ·
            replace h := ite_tb hc4 h
            refine q4rq [29, 30, 32] [] ⟨55, [(2, .int .u64 (0 : Int)), (3, .i (0 : Int)), (4, .i (2 : Int))], [], [], 0⟩ trivial ?_
            have hret := Option.some.inj h
            subst hret
            refine AWp.ret ?_
            refine thenQ_ret ?_
            refine blockQ_ret ?_
            refine thenQ_ret ?_
            refine thenQ_ret ?_
            refine blockQ_ret ?_
            refine joinQ_ret ?_
            exact bodyQ_ret _ rfl ⟨rfl, rfl⟩ rfl
          ·
            replace h := ite_fb hc4 h
            refine AWp.skip ?_
            refine thenQ_normal ?_
            refine AWp.seq ?_
            obtain ⟨ob10, ob11, ob12p, h⟩ := ck3 h
            have ob12 : -9223372036854775808 ≤ ((n4 : Int) + (1 : Int)) ∧ ((n4 : Int) + (1 : Int)) ≤ 9223372036854775807 := ⟨by omega, ob12p⟩
            refine q4rr [29, 30, 32] [] ⟨55, [(2, .int .u64 (i2 + ((((x1.getD n4 0).toNat : Nat) : Int) * i3))), (3, .i (((n4 + 1) : Nat) : Int)), (4, .i (0 : Int))], [], [], 0⟩ (an3 ob10 ob11 ob12) ?_
            refine thenQ_normal ?_
            have hret := Option.some.inj h
            subst hret
            refine AWp.ret ?_
            refine blockQ_ret ?_
            refine thenQ_ret ?_
            refine thenQ_ret ?_
            refine blockQ_ret ?_
            refine joinQ_ret ?_
            exact bodyQ_ret _ rfl ⟨rfl, rfl⟩ rfl
    ·
      replace h := ite_fb hc1 h
      refine AWp.exit ?_
      refine thenQ_exit ?_
      refine thenQ_exit ?_
      refine blockQ_same ?_
      exact joinQ_normal () (Le.mk rfl rfl ⟨.refl _, trivial⟩ trivial) h
  ·
    rintro ⟨⟩ h
    replace h := (congrFun hK1 _).symm.trans h
    refine AWp.seq ?_
    refine q4rq [29, 30, 32] [] ⟨55, [(54, .bool (decide ((lZ x1) < (10 : Int))))], [], [], 0⟩ trivial ?_
    refine AWp.cond (b := (decide ((lZ x1) < (10 : Int)))) (by kernel_rfl) (fun hc5 => ?_) (fun hc5 => ?_)
    ·
      replace h := ite_tb hc5 h
      refine q4rq [29, 30, 32] [] ⟨55, [(2, .int .u64 (0 : Int)), (3, .i (0 : Int)), (4, .i (9 : Int))], [], [], 0⟩ trivial ?_
      have hret := Option.some.inj h
      subst hret
      refine AWp.ret ?_
      refine thenQ_ret ?_
      exact bodyQ_ret _ rfl ⟨rfl, rfl⟩ rfl
    ·
      replace h := ite_fb hc5 h
      refine AWp.skip ?_
      refine thenQ_normal ?_
      refine q4rq [29, 30, 32] [] ⟨55, (f90z0), [], [], 0⟩ trivial ?_
      have hret := Option.some.inj h
      subst hret
      refine AWp.le (Le.mk (s' := ⟨55, (f90z0), [], [], 0⟩) rfl rfl ⟨.refl _, .refl _, .refl _, trivial⟩ trivial) ?_
      refine AWp.ret ?_
      exact bodyQ_ret _ rfl ⟨rfl, rfl⟩ rfl
def f91 (x1 : List UInt8) : Option (List UInt8 × Int × Int) :=
  (f90 x1).bind fun (r2 : Int × Int × Int) =>
  if (r2.2.2 != (0 : Int)) then (
  some ([], (0 : Int), r2.2.2)
  ) else (
  chk (-9223372036854775808 ≤ (((x1.length : Nat) : Int) - r2.2.1) ∧ (((x1.length : Nat) : Int) - r2.2.1) ≤ 9223372036854775807) <|
  chk (0 ≤ (((x1.length : Nat) : Int) - r2.2.1) ∧ (((x1.length : Nat) : Int) - r2.2.1) ≤ 18446744073709551615) <|
  if (decide (r2.1 > (((x1.length : Nat) : Int) - r2.2.1))) then (
  some ([], (0 : Int), (9 : Int))
  ) else (
  chk (-9223372036854775808 ≤ r2.1 ∧ r2.1 ≤ 9223372036854775807) <|
  chk (-9223372036854775808 ≤ (r2.2.1 + r2.1) ∧ (r2.2.1 + r2.1) ≤ 9223372036854775807) <|
  chk (0 ≤ r2.2.1 ∧ r2.2.1 ≤ (r2.2.1 + r2.1) ∧ (r2.2.1 + r2.1) ≤ ((x1.length : Nat) : Int)) <|
  chk (-9223372036854775808 ≤ r2.1 ∧ r2.1 ≤ 9223372036854775807) <|
  chk (-9223372036854775808 ≤ (r2.2.1 + r2.1) ∧ (r2.2.1 + r2.1) ≤ 9223372036854775807) <|
  some (((x1.take (((r2.2.1 + r2.1)).toNat)).drop ((r2.2.1).toNat)), (r2.2.1 + r2.1), (0 : Int))
  )
  )
set_option maxRecDepth 100000 in
theorem f91_ok  (x1 : List UInt8) (r : List UInt8 × Int × Int) (h : f91 x1 = some r)  : Spec1 Tryz.prog 91 [] [] [] [.str x1] (.tup [.str r.1, .int .i64 r.2.1, .int .i64 r.2.2]) [] := by
  unfold f91 at h
  refine Spec1.body 0 _ _ Tryz.func91 rfl Tryz.ntmps91 rfl rfl ?_
  refine q4rq [] [] ⟨35, [(0, .str x1)], [], [], 0⟩ trivial ?_
  refine AWp.seq ?_
  obtain ⟨r2, hr2, h⟩ := bind_ok h
  refine q4rr [] [(1, ⟨[.str x1], [], [], [], .tup [.int .u64 r2.1, .i r2.2.1, .i r2.2.2], [], [], []⟩)] ⟨35, [(0, .str x1), (5, .int .u64 r2.1), (6, .i r2.2.1), (7, .i r2.2.2)], [], [], 0⟩ (an1 (cpT (f90_ok _ _ hr2))) ?_
  refine thenQ_normal ?_
  refine AWp.seq ?_
  refine q4rq [] [] ⟨35, [(0, .str x1), (5, .int .u64 r2.1), (6, .i r2.2.1), (7, .i r2.2.2), (15, .bool (r2.2.2 != (0 : Int)))], [], [], 0⟩ trivial ?_
  refine AWp.cond (b := (r2.2.2 != (0 : Int))) (by kernel_rfl) (fun hc1 => ?_) (fun hc1 => ?_)
  ·
    replace h := ite_tb hc1 h
    refine q4rq [] [] ⟨35, [(2, .str []), (3, .i (0 : Int)), (4, .i r2.2.2)], [], [], 0⟩ trivial ?_
    have hret := Option.some.inj h
    subst hret
    refine AWp.ret ?_
    refine thenQ_ret ?_
    exact bodyQ_ret _ rfl ⟨rfl, rfl⟩ rfl
  ·
    replace h := ite_fb hc1 h
    refine AWp.skip ?_
    refine thenQ_normal ?_
    refine AWp.seq ?_
    refine AWp.seq ?_
    obtain ⟨ob0, ob1, h⟩ := ck2 h
    refine q4rr [] [] ⟨35, [(0, .str x1), (5, .int .u64 r2.1), (6, .i r2.2.1), (23, .bool (decide (r2.1 > ((lZ x1) - r2.2.1))))], [], [], 0⟩ (an2 ob0 ob1) ?_
    refine thenQ_normal ?_
    refine AWp.cond (b := (decide (r2.1 > ((lZ x1) - r2.2.1)))) (by kernel_rfl) (fun hc2 => ?_) (fun hc2 => ?_)
    ·
      replace h := ite_tb hc2 h
      refine q4rq [] [] ⟨35, [(2, .str []), (3, .i (0 : Int)), (4, .i (9 : Int))], [], [], 0⟩ trivial ?_
      have hret := Option.some.inj h
      subst hret
      refine AWp.ret ?_
      refine thenQ_ret ?_
      exact bodyQ_ret _ rfl ⟨rfl, rfl⟩ rfl
    ·
      replace h := ite_fb hc2 h
      refine AWp.skip ?_
      refine thenQ_normal ?_
      refine AWp.seq ?_
      obtain ⟨ob2, ob3, ob4, ob5, ob6, h⟩ := ck5 h
      refine q4rr [] [] ⟨35, [(2, .str ((x1.take (((r2.2.1 + r2.1)).toNat)).drop ((r2.2.1).toNat))), (3, .i (r2.2.1 + r2.1)), (4, .i (0 : Int))], [], [], 0⟩ (an5 ob2 ob3 ob4 ob5 ob6) ?_
      refine thenQ_normal ?_
      have hret := Option.some.inj h
      subst hret
      refine AWp.ret ?_
      exact bodyQ_ret _ rfl ⟨rfl, rfl⟩ rfl
def f51_L0 (x1 : List UInt8) (r2 : Int × Int × Int) (K1 : (Int × List (List UInt8)) → Option (Int × Int × List (List UInt8))) : Nat → (Int × List (List UInt8)) → Option (Int × Int × List (List UInt8))
  | 0, _ => none
  | k + 1, (i3, l4) =>
    chk ((((l4).length : Nat) : Int) ≤ 18446744073709551615) <|
    if (decide ((((l4).length : Nat) : Int) < r2.1)) then (
    (f91 (x1.drop ((i3).toNat))).bind fun (r5 : List UInt8 × Int × Int) =>
    chk (0 ≤ i3 ∧ i3 ≤ ((x1.length : Nat) : Int)) <|
    if (r5.2.2 != (0 : Int)) then (
    some ((0 : Int), r5.2.2, [])
    ) else (
    chk (((l4).length + 1) * 16 ≤ 140737488355328) <|
    chk (-9223372036854775808 ≤ (i3 + r5.2.1) ∧ (i3 + r5.2.1) ≤ 9223372036854775807) <|
    (f51_L0 x1 r2 K1 k) ((i3 + r5.2.1), (l4 ++ [r5.1]))
    )
    ) else (
    K1 (i3, l4)
    )
def f51 (x1 : List UInt8) : Option (Int × Int × List (List UInt8)) :=
  (f90 x1).bind fun (r2 : Int × Int × Int) =>
  if (r2.2.2 != (0 : Int)) then (
  some ((0 : Int), r2.2.2, [])
  ) else (
  jn (fun ((i6, l7) : Int × List (List UInt8)) =>
  some (i6, (0 : Int), l7)
  ) fun (K1 : (Int × List (List UInt8)) → Option (Int × Int × List (List UInt8))) =>
  f51_L0 x1 r2 K1 FUEL (r2.2.1, [])
  )
set_option maxRecDepth 100000 in
theorem f51_ok  (x1 : List UInt8) (r : Int × Int × List (List UInt8)) (h : f51 x1 = some r)  : Spec1 Tryz.prog 51 [] [] [] [.str x1] (.tup [.own 3000, .int .i64 r.1, .int .i64 r.2.1]) [(3000, bL 9 1 eS [] r.2.2)] := by
  unfold f51 at h
  refine Spec1.body 0 _ _ Tryz.func51 rfl Tryz.ntmps51 rfl rfl ?_
  refine q4rq [] [] ⟨46, [(0, .str x1)], [], [], 0⟩ trivial ?_
  refine AWp.seq ?_
  obtain ⟨r2, hr2, h⟩ := bind_ok h
  refine q4rr [] [(1, ⟨[.str x1], [], [], [], .tup [.int .u64 r2.1, .i r2.2.1, .i r2.2.2], [], [], []⟩)] ⟨46, [(0, .str x1), (5, .int .u64 r2.1), (6, .i r2.2.1), (7, .i r2.2.2)], [], [], 0⟩ (an1 (cpT (f90_ok _ _ hr2))) ?_
  refine thenQ_normal ?_
  refine AWp.seq ?_
  refine q4rq [] [] ⟨46, [(0, .str x1), (5, .int .u64 r2.1), (6, .i r2.2.1), (7, .i r2.2.2), (19, .bool (r2.2.2 != (0 : Int)))], [], [], 0⟩ trivial ?_
  refine AWp.cond (b := (r2.2.2 != (0 : Int))) (by kernel_rfl) (fun hc1 => ?_) (fun hc1 => ?_)
  ·
    replace h := ite_tb hc1 h
    refine q4rq [] [] ⟨46, [(2, .nils), (3, .i (0 : Int)), (4, .i r2.2.2)], [], [], 0⟩ trivial ?_
    refine AWp.le (Le.trans (Le.nilOwn 2 3000 9 1 (encF eS [] []) rfl rfl (Nat.le_of_ble_eq_true rfl)) (Le.mk (s' := ⟨46, [(2, .own 3000), (3, .i (0 : Int)), (4, .i r2.2.2)], [(3000, q4bS_9 [])], [], 0⟩) rfl rfl ⟨.refl _, .refl _, .refl _, trivial⟩ ⟨⟨_, rfl, .refl _⟩, trivial⟩)) ?_
    have hret := Option.some.inj h
    subst hret
    refine AWp.le (Le.mk (s' := ⟨46, [(2, .own 3000), (3, .i (0 : Int)), (4, .i r2.2.2)], [(3000, q4bS_9 [])], [], 0⟩) rfl rfl ⟨.refl _, .refl _, .refl _, trivial⟩ ⟨⟨_, rfl, .refl _⟩, trivial⟩) ?_
    refine AWp.ret ?_
    refine thenQ_ret ?_
    exact bodyQ_ret _ rfl ⟨rfl, rfl⟩ rfl
  ·
    replace h := ite_fb hc1 h
    refine AWp.skip ?_
    refine thenQ_normal ?_
    refine q4rq [] [] ⟨46, [(0, .str x1), (5, .int .u64 r2.1), (6, .i r2.2.1), (8, .nils)], [], [], 0⟩ trivial ?_
    obtain ⟨K1, hK1, h⟩ := jn_some h
    refine AWp.join (α := Int × List (List UInt8)) (fun (x : Int × List (List UInt8)) => match x with | (i6, l7) => ⟨46, [(6, .i i6), (8, .own 5008)], [(5008, q4bS_9 l7)], [], 0⟩) (fun x => K1 x = some r) ?_ ?_
    ·
      refine AWp.block ?_
      refine AWp.loopL (α := Nat × (Int × List (List UInt8))) (fun x => match x with | (_, i3, l4) => ⟨46, [(0, .str x1), (5, .int .u64 r2.1), (6, .i i3), (8, .own 5008)], [(5008, q4bS_9 l4)], [], 0⟩) (fun x => f51_L0 x1 r2 K1 x.1 x.2 = some r) (fun x => x.1) (FUEL, r2.2.1, []) (Le.trans (Le.trans (Le.nilOwn 8 5008 9 1 (encF eS [] []) rfl rfl (Nat.le_of_ble_eq_true rfl)) (Le.mk (s' := ⟨46, [(0, .str x1), (5, .int .u64 r2.1), (6, .i r2.2.1), (8, .own 5008)], [(5008, q4bS_9 [])], [], 0⟩) rfl rfl ⟨.refl _, .refl _, .refl _, .refl _, trivial⟩ ⟨⟨_, rfl, .refl _⟩, trivial⟩)) (Le.mk (s' := ⟨46, [(0, .str x1), (5, .int .u64 r2.1), (6, .i r2.2.1), (8, .own 5008)], [(5008, q4bS_9 [])], [], 0⟩) rfl rfl ⟨.refl _, .refl _, .refl _, .refl _, trivial⟩ ⟨⟨_, rfl, .refl _⟩, trivial⟩)) h ?_
      rintro ⟨k0, i3, l4⟩ h
      cases k0 with
      | zero => exact nomatch (show (none : Option (Int × Int × List (List UInt8))) = some r from h)
      | succ k0 =>
      obtain ⟨C0, hC0⟩ : ∃ C, C = f51_L0 x1 r2 K1 k0 := ⟨_, rfl⟩
      replace h := (f51_L0.eq_2 ..).symm.trans h
      try rw [← hC0] at h
      refine AWp.seq ?_
      refine AWp.seq ?_
      obtain ⟨ob0p, h⟩ := chk_some h
      have ob0 : 0 ≤ (((l4).length : Nat) : Int) ∧ (((l4).length : Nat) : Int) ≤ 18446744073709551615 := ⟨by omega, ob0p⟩
      refine q4rr [] [] ⟨46, [(0, .str x1), (5, .int .u64 r2.1), (6, .i i3), (8, .own 5008), (25, .bool (decide ((lZ l4) < r2.1)))], [(5008, q4bS_9 l4)], [], 0⟩ (an1 ob0) ?_
      refine thenQ_normal ?_
      refine AWp.cond (b := (decide ((lZ l4) < r2.1))) (by kernel_rfl) (fun hc2 => ?_) (fun hc2 => ?_)
      ·
        replace h := ite_tb hc2 h
        refine AWp.skip ?_
        refine thenQ_normal ?_
        refine AWp.block ?_
        refine AWp.seq ?_
        obtain ⟨r5, hr5, h⟩ := bind_ok h
        obtain ⟨ob1, h⟩ := chk_some h
        refine q4rr [] [(3, ⟨[.str (x1.drop ((i3).toNat))], [], [], [], .tup [.str r5.1, .i r5.2.1, .i r5.2.2], [], [], []⟩)] ⟨46, [(0, .str x1), (5, .int .u64 r2.1), (6, .i i3), (8, .own 5008), (9, .str r5.1), (10, .i r5.2.1), (11, .i r5.2.2)], [(5008, q4bS_9 l4)], [], 0⟩ (an2 ob1 (cpT (f91_ok _ _ hr5))) ?_
        refine thenQ_normal ?_
        refine AWp.seq ?_
        refine q4rq [] [] ⟨46, [(0, .str x1), (5, .int .u64 r2.1), (6, .i i3), (8, .own 5008), (9, .str r5.1), (10, .i r5.2.1), (11, .i r5.2.2), (35, .bool (r5.2.2 != (0 : Int)))], [(5008, q4bS_9 l4)], [], 0⟩ trivial ?_
        refine AWp.cond (b := (r5.2.2 != (0 : Int))) (by kernel_rfl) (fun hc3 => ?_) (fun hc3 => ?_)
        ·
          replace h := ite_tb hc3 h
          refine q4rq [] [] ⟨46, [(2, .nils), (3, .i (0 : Int)), (4, .i r5.2.2)], [], [], 0⟩ trivial ?_
          refine AWp.le (Le.trans (Le.nilOwn 2 3000 9 1 (encF eS [] []) rfl rfl (Nat.le_of_ble_eq_true rfl)) (Le.mk (s' := ⟨46, [(2, .own 3000), (3, .i (0 : Int)), (4, .i r5.2.2)], [(3000, q4bS_9 [])], [], 0⟩) rfl rfl ⟨.refl _, .refl _, .refl _, trivial⟩ ⟨⟨_, rfl, .refl _⟩, trivial⟩)) ?_
          have hret := Option.some.inj h
          subst hret
          refine AWp.le (Le.mk (s' := ⟨46, [(2, .own 3000), (3, .i (0 : Int)), (4, .i r5.2.2)], [(3000, q4bS_9 [])], [], 0⟩) rfl rfl ⟨.refl _, .refl _, .refl _, trivial⟩ ⟨⟨_, rfl, .refl _⟩, trivial⟩) ?_
          refine AWp.ret ?_
          refine thenQ_ret ?_
          refine blockQ_ret ?_
          refine thenQ_ret ?_
          refine blockQ_ret ?_
          refine joinQ_ret ?_
          exact bodyQ_ret _ rfl ⟨rfl, rfl⟩ rfl
        ·
          replace h := ite_fb hc3 h
          refine AWp.skip ?_
          refine thenQ_normal ?_
          refine AWp.seq ?_
          obtain ⟨ob2, h⟩ := chk_some h
          refine q4rr [] [] ⟨46, [(0, .str x1), (5, .int .u64 r2.1), (6, .i i3), (8, .own 5008), (10, .i r5.2.1)], [(5008, .rows 9 1 ((l4).length + 1) (appF (l4).length (encF eS [] l4) (lstF 1 [.str r5.1])))], [], 0⟩ (an1 ob2) ?_
          refine thenQ_normal ?_
          refine AWp.le (Le.mk (s' := ⟨46, [(0, .str x1), (5, .int .u64 r2.1), (6, .i i3), (8, .own 5008), (10, .i r5.2.1)], [(5008, q4bS_9 (l4 ++ [r5.1]))], [], 0⟩) rfl rfl ⟨.refl _, .refl _, .refl _, .refl _, .refl _, trivial⟩ ⟨⟨_, rfl, (BLe.of (RL.app (RL.self _) (RL.lst (enc := eS) [r5.1] rfl rfl (fun _ => rfl))))⟩, trivial⟩) ?_
          obtain ⟨ob3, h⟩ := chk_some h
          refine q4rr [] [] ⟨46, [(0, .str x1), (5, .int .u64 r2.1), (6, .i (i3 + r5.2.1)), (8, .own 5008)], [(5008, q4bS_9 (l4 ++ [r5.1]))], [], 0⟩ (an1 ob3) ?_
          refine blockQ_normal ?_
          rw [hC0] at h
          exact loopQ_normal (_, (i3 + r5.2.1), (l4 ++ [r5.1])) (Le.mk rfl rfl ⟨.refl _, .refl _, .refl _, .refl _, trivial⟩ ⟨⟨_, rfl, .refl _⟩, trivial⟩) h (Nat.lt_succ_self _)
      ·
        replace h := ite_fb hc2 h
        refine AWp.exit ?_
        refine thenQ_exit ?_
        refine thenQ_exit ?_
        refine blockQ_same ?_
        exact joinQ_normal (i3, l4) (Le.mk rfl rfl ⟨.refl _, .refl _, trivial⟩ ⟨⟨_, rfl, .refl _⟩, trivial⟩) h
    ·
      rintro ⟨i6, l7⟩ h
      replace h := (congrFun hK1 _).symm.trans h
      refine q4rq [] [] ⟨46, [(2, .own 5008), (3, .i i6), (4, .i (0 : Int))], [(5008, q4bS_9 l7)], [], 0⟩ trivial ?_
      refine AWp.le (Le.trans (Le.ren (swapN 5008 3000) (swapN_inv 5008 3000) rfl) (Le.mk (s' := ⟨46, [(2, .own 3000), (3, .i i6), (4, .i (0 : Int))], [(3000, q4bS_9 l7)], [], 0⟩) rfl rfl ⟨.refl _, .refl _, .refl _, trivial⟩ ⟨⟨_, rfl, .refl _⟩, trivial⟩)) ?_
      have hret := Option.some.inj h
      subst hret
      refine AWp.le (Le.mk (s' := ⟨46, [(2, .own 3000), (3, .i i6), (4, .i (0 : Int))], [(3000, q4bS_9 l7)], [], 0⟩) rfl rfl ⟨.refl _, .refl _, .refl _, trivial⟩ ⟨⟨_, rfl, .refl _⟩, trivial⟩) ?_
      refine AWp.ret ?_
      exact bodyQ_ret _ rfl ⟨rfl, rfl⟩ rfl
def f52_L0 (x1 : List UInt8) (K1 : Int → Option Int) : Nat → (Int × Nat) → Option Int
  | 0, _ => none
  | k + 1, (i2, n3) =>
    if ((decide ((n3 : Int) < ((x1.length : Nat) : Int))) && (decide ((n3 : Int) < (9 : Int)))) then (
    chk (-9223372036854775808 ≤ ((10 : Int) * i2) ∧ ((10 : Int) * i2) ≤ 9223372036854775807) <|
    chk ((n3 : Int) < ((x1.length : Nat) : Int)) <|
    chk ((((x1.getD n3 0).toNat : Nat) : Int) ≤ 9223372036854775807) <|
    chk (-9223372036854775808 ≤ (((10 : Int) * i2) + (((x1.getD n3 0).toNat : Nat) : Int)) ∧ (((10 : Int) * i2) + (((x1.getD n3 0).toNat : Nat) : Int)) ≤ 9223372036854775807) <|
    chk (-9223372036854775808 ≤ ((((10 : Int) * i2) + (((x1.getD n3 0).toNat : Nat) : Int)) - (48 : Int)) ∧ ((((10 : Int) * i2) + (((x1.getD n3 0).toNat : Nat) : Int)) - (48 : Int)) ≤ 9223372036854775807) <|
    chk (((n3 : Int) + (1 : Int)) ≤ 9223372036854775807) <|
    (f52_L0 x1 K1 k) (((((10 : Int) * i2) + (((x1.getD n3 0).toNat : Nat) : Int)) - (48 : Int)), (n3 + 1))
    ) else (
    K1 i2
    )
def f52 (x1 : List UInt8) : Option Int :=
  jn (fun (i4 : Int) =>
  (f56 i4).bind fun (r5 : List UInt8) =>
  if (!(r5 == x1)) then (
  some (-1 : Int)
  ) else (
  some i4
  )
  ) fun (K1 : Int → Option Int) =>
  f52_L0 x1 K1 FUEL ((0 : Int), 0)
set_option maxRecDepth 100000 in
theorem f52_ok  (x1 : List UInt8) (r : Int) (h : f52 x1 = some r)  : Spec1 Tryz.prog 52 [(1, .tab .u64 Lib.pow10Tab)] [] [] [.str x1] (.int .i64 r) [] := by
  unfold f52 at h
  refine Spec1.body 0 _ _ Tryz.func52 rfl Tryz.ntmps52 rfl rfl ?_
  refine q4rq [] [] ⟨28, [(0, .str x1), (1000001, .tab .u64 Lib.pow10Tab)], [], [], 0⟩ trivial ?_
  refine q4rq [] [] ⟨28, [(0, .str x1), (3, .i (0 : Int)), (1000001, .tab .u64 Lib.pow10Tab)], [], [], 0⟩ trivial ?_
  obtain ⟨K1, hK1, h⟩ := jn_some h
  refine AWp.join (α := Int) (fun (i4 : Int) => ⟨28, [(0, .str x1), (3, .i i4), (1000001, .tab .u64 Lib.pow10Tab)], [], [], 0⟩) (fun x => K1 x = some r) ?_ ?_
  ·
    refine q4rq [] [] ⟨28, [(0, .str x1), (3, .i (0 : Int)), (4, .i (0 : Int)), (1000001, .tab .u64 Lib.pow10Tab)], [], [], 0⟩ trivial ?_
    refine AWp.block ?_
    refine AWp.loopL (α := Nat × (Int × Nat)) (fun x => match x with | (_, i2, n3) => ⟨28, [(0, .str x1), (3, .i i2), (4, .i (n3 : Int)), (1000001, .tab .u64 Lib.pow10Tab)], [], [], 0⟩) (fun x => f52_L0 x1 K1 x.1 x.2 = some r) (fun x => x.1) (FUEL, (0 : Int), 0) (Le.mk (s' := ⟨28, [(0, .str x1), (3, .i (0 : Int)), (4, .i (0 : Int)), (1000001, .tab .u64 Lib.pow10Tab)], [], [], 0⟩) rfl rfl ⟨.refl _, .refl _, .refl _, .refl _, trivial⟩ trivial) h ?_
    rintro ⟨k0, i2, n3⟩ h
    cases k0 with
    | zero => exact nomatch (show (none : Option Int) = some r from h)
    | succ k0 =>
    obtain ⟨C0, hC0⟩ : ∃ C, C = f52_L0 x1 K1 k0 := ⟨_, rfl⟩
    replace h := (f52_L0.eq_2 ..).symm.trans h
    try rw [← hC0] at h
    refine AWp.seq ?_
    refine AWp.seq ?_
    have ob0 := idA (((decide ((n3 : Int) < (lZ x1))) == true) = true)
    have ob1 := bqA (decide ((n3 : Int) < (lZ x1))) true
    refine q4rr [] [] ⟨28, [(0, .str x1), (3, .i i2), (4, .i (n3 : Int)), (12, .bool ((decide ((n3 : Int) < (lZ x1))) && (decide ((n3 : Int) < (9 : Int))))), (1000001, .tab .u64 Lib.pow10Tab)], [], [], 0⟩ (an2 (an1 ob0) ob1) ?_
    refine thenQ_normal ?_
    refine AWp.cond (b := ((decide ((n3 : Int) < (lZ x1))) && (decide ((n3 : Int) < (9 : Int))))) (by kernel_rfl) (fun hc1 => ?_) (fun hc1 => ?_)
    ·
      replace h := ite_tb hc1 h
      refine AWp.skip ?_
      refine thenQ_normal ?_
      refine AWp.seq ?_
      refine AWp.block ?_
      obtain ⟨ob2, ob3p, h⟩ := ck2 h
      have ob3 : 0 ≤ (n3 : Int) ∧ (n3 : Int) < ((x1.length : Nat) : Int) := ⟨by omega, ob3p⟩
      obtain ⟨ob4p, h⟩ := chk_some h
      have ob4 : -9223372036854775808 ≤ (((x1.getD n3 0).toNat : Nat) : Int) ∧ (((x1.getD n3 0).toNat : Nat) : Int) ≤ 9223372036854775807 := ⟨by omega, ob4p⟩
      obtain ⟨ob5, ob6, h⟩ := ck2 h
      refine q4rr [] [] ⟨28, [(0, .str x1), (3, .i ((((10 : Int) * i2) + (((x1.getD n3 0).toNat : Nat) : Int)) - (48 : Int))), (4, .i (n3 : Int)), (1000001, .tab .u64 Lib.pow10Tab)], [], [], 0⟩ (an5 ob2 ob3 ob4 ob5 ob6) ?_
      refine blockQ_normal ?_
      refine thenQ_normal ?_
      obtain ⟨ob7p, h⟩ := chk_some h
      have ob7 : -9223372036854775808 ≤ ((n3 : Int) + (1 : Int)) ∧ ((n3 : Int) + (1 : Int)) ≤ 9223372036854775807 := ⟨by omega, ob7p⟩
      refine q4rr [] [] ⟨28, [(0, .str x1), (3, .i ((((10 : Int) * i2) + (((x1.getD n3 0).toNat : Nat) : Int)) - (48 : Int))), (4, .i (((n3 + 1) : Nat) : Int)), (1000001, .tab .u64 Lib.pow10Tab)], [], [], 0⟩ (an1 ob7) ?_
      rw [hC0] at h
      exact loopQ_normal (_, ((((10 : Int) * i2) + (((x1.getD n3 0).toNat : Nat) : Int)) - (48 : Int)), (n3 + 1)) (Le.mk rfl rfl ⟨.refl _, .refl _, .refl _, .refl _, trivial⟩ trivial) h (Nat.lt_succ_self _)
    ·
      replace h := ite_fb hc1 h
      refine AWp.exit ?_
      refine thenQ_exit ?_
      refine thenQ_exit ?_
      refine blockQ_same ?_
      exact joinQ_normal (i2) (Le.mk rfl rfl ⟨.refl _, .refl _, .refl _, trivial⟩ trivial) h
  ·
    rintro i4 h
    replace h := (congrFun hK1 _).symm.trans h
    refine AWp.seq ?_
    refine AWp.seq ?_
    obtain ⟨r5, hr5, h⟩ := bind_ok h
    refine q4rr [] [(1, ⟨[.i i4], [], [], [], .str r5, [], [], [1]⟩)] ⟨28, [(3, .i i4), (26, .bool (!(r5 == x1))), (1000001, .tab .u64 Lib.pow10Tab)], [], [], 0⟩ (an1 (cpT (f56_ok _ _ hr5))) ?_
    refine thenQ_normal ?_
    refine AWp.cond (b := (!(r5 == x1))) (by kernel_rfl) (fun hc2 => ?_) (fun hc2 => ?_)
    ·
      replace h := ite_tb hc2 h
      refine q4rq [] [] ⟨28, [(2, .i (-1 : Int)), (1000001, .tab .u64 Lib.pow10Tab)], [], [], 0⟩ trivial ?_
      have hret := Option.some.inj h
      subst hret
      refine AWp.le (Le.mk (s' := ⟨28, [(2, .i (-1 : Int))], [], [], 0⟩) rfl rfl ⟨.refl _, trivial⟩ trivial) ?_
      refine AWp.ret ?_
      refine thenQ_ret ?_
      exact bodyQ_ret _ rfl ⟨rfl, rfl⟩ rfl
    ·
      replace h := ite_fb hc2 h
      refine AWp.skip ?_
      refine thenQ_normal ?_
      refine q4rq [] [] ⟨28, [(2, .i i4), (1000001, .tab .u64 Lib.pow10Tab)], [], [], 0⟩ trivial ?_
      have hret := Option.some.inj h
      subst hret
      refine AWp.le (Le.mk (s' := ⟨28, [(2, .i i4)], [], [], 0⟩) rfl rfl ⟨.refl _, trivial⟩ trivial) ?_
      refine AWp.ret ?_
      exact bodyQ_ret _ rfl ⟨rfl, rfl⟩ rfl
def f92_L0 (x1 : List UInt8) (K1 : Int → Option Int) : Nat → (Int × Nat) → Option Int
  | 0, _ => none
  | k + 1, (i2, n3) =>
    if ((decide ((n3 : Int) < ((x1.length : Nat) : Int))) && (decide ((n3 : Int) < (16 : Int)))) then (
    chk ((n3 : Int) < ((x1.length : Nat) : Int)) <|
    chk (((decide ((((x1.getD n3 0).toNat : Nat) : Int) < (48 : Int))) == false) = true → 0 ≤ (n3 : Int) ∧ (n3 : Int) < ((x1.length : Nat) : Int)) <|
    if ((decide ((((x1.getD n3 0).toNat : Nat) : Int) < (48 : Int))) || (decide ((((x1.getD n3 0).toNat : Nat) : Int) > (57 : Int)))) then (
    some (0 : Int)
    ) else (
    chk (-9223372036854775808 ≤ ((10 : Int) * i2) ∧ ((10 : Int) * i2) ≤ 9223372036854775807) <|
    chk ((n3 : Int) < ((x1.length : Nat) : Int)) <|
    chk (0 ≤ ((((x1.getD n3 0).toNat : Nat) : Int) - (48 : Int)) ∧ ((((x1.getD n3 0).toNat : Nat) : Int) - (48 : Int)) ≤ 255) <|
    chk (-9223372036854775808 ≤ ((((x1.getD n3 0).toNat : Nat) : Int) - (48 : Int)) ∧ ((((x1.getD n3 0).toNat : Nat) : Int) - (48 : Int)) ≤ 9223372036854775807) <|
    chk (-9223372036854775808 ≤ (((10 : Int) * i2) + ((((x1.getD n3 0).toNat : Nat) : Int) - (48 : Int))) ∧ (((10 : Int) * i2) + ((((x1.getD n3 0).toNat : Nat) : Int) - (48 : Int))) ≤ 9223372036854775807) <|
    chk (((n3 : Int) + (1 : Int)) ≤ 9223372036854775807) <|
    (f92_L0 x1 K1 k) ((((10 : Int) * i2) + ((((x1.getD n3 0).toNat : Nat) : Int) - (48 : Int))), (n3 + 1))
    )
    ) else (
    K1 i2
    )
def f92 (x1 : List UInt8) : Option Int :=
  jn (fun (i4 : Int) =>
  optc (((decide (((x1.length : Nat) : Int) > (15 : Int))) || (x1 == [])) == false) (f79 FUEL i4) fun (r5 : List UInt8) =>
  if (((decide (((x1.length : Nat) : Int) > (15 : Int))) || (x1 == [])) || (!(r5 == x1))) then (
  some (0 : Int)
  ) else (
  some i4
  )
  ) fun (K1 : Int → Option Int) =>
  f92_L0 x1 K1 FUEL ((0 : Int), 0)
set_option maxRecDepth 100000 in
theorem f92_ok  (x1 : List UInt8) (r : Int) (h : f92 x1 = some r)  : Spec1 Tryz.prog 92 [] [] [] [.str x1] (.int .i64 r) [] := by
  unfold f92 at h
  refine Spec1.body 0 _ _ Tryz.func92 rfl Tryz.ntmps92 rfl rfl ?_
  refine q4rq [] [] ⟨47, [(0, .str x1)], [], [], 0⟩ trivial ?_
  refine q4rq [] [] ⟨47, [(0, .str x1), (3, .i (0 : Int))], [], [], 0⟩ trivial ?_
  obtain ⟨K1, hK1, h⟩ := jn_some h
  refine AWp.join (α := Int) (fun (i4 : Int) => ⟨47, [(0, .str x1), (3, .i i4)], [], [], 0⟩) (fun x => K1 x = some r) ?_ ?_
  ·
    refine q4rq [] [] ⟨47, [(0, .str x1), (3, .i (0 : Int)), (4, .i (0 : Int))], [], [], 0⟩ trivial ?_
    refine AWp.block ?_
    refine AWp.loopL (α := Nat × (Int × Nat)) (fun x => match x with | (_, i2, n3) => ⟨47, [(0, .str x1), (3, .i i2), (4, .i (n3 : Int))], [], [], 0⟩) (fun x => f92_L0 x1 K1 x.1 x.2 = some r) (fun x => x.1) (FUEL, (0 : Int), 0) (Le.mk (s' := ⟨47, [(0, .str x1), (3, .i (0 : Int)), (4, .i (0 : Int))], [], [], 0⟩) rfl rfl ⟨.refl _, .refl _, .refl _, trivial⟩ trivial) h ?_
    rintro ⟨k0, i2, n3⟩ h
    cases k0 with
    | zero => exact nomatch (show (none : Option Int) = some r from h)
    | succ k0 =>
    obtain ⟨C0, hC0⟩ : ∃ C, C = f92_L0 x1 K1 k0 := ⟨_, rfl⟩
    replace h := (f92_L0.eq_2 ..).symm.trans h
    try rw [← hC0] at h
    refine AWp.seq ?_
    refine AWp.seq ?_
    have ob0 := idA (((decide ((n3 : Int) < (lZ x1))) == true) = true)
    have ob1 := bqA (decide ((n3 : Int) < (lZ x1))) true
    refine q4rr [] [] ⟨47, [(0, .str x1), (3, .i i2), (4, .i (n3 : Int)), (12, .bool ((decide ((n3 : Int) < (lZ x1))) && (decide ((n3 : Int) < (16 : Int)))))], [], [], 0⟩ (an2 (an1 ob0) ob1) ?_
    refine thenQ_normal ?_
    refine AWp.cond (b := ((decide ((n3 : Int) < (lZ x1))) && (decide ((n3 : Int) < (16 : Int))))) (by kernel_rfl) (fun hc1 => ?_) (fun hc1 => ?_)
    ·
      replace h := ite_tb hc1 h
      refine AWp.skip ?_
      refine thenQ_normal ?_
      refine AWp.seq ?_
      refine AWp.block ?_
      refine AWp.seq ?_
      refine AWp.seq ?_
      obtain ⟨ob2p, h⟩ := chk_some h
      have ob2 : 0 ≤ (n3 : Int) ∧ (n3 : Int) < ((x1.length : Nat) : Int) := ⟨by omega, ob2p⟩
      obtain ⟨ob3, h⟩ := chk_some h
      have ob4 := idA (((decide ((((x1.getD n3 0).toNat : Nat) : Int) < (48 : Int))) == false) = true)
      have ob7 := bqA (decide ((((x1.getD n3 0).toNat : Nat) : Int) < (48 : Int))) false
      refine q4rr [] [] ⟨47, [(0, .str x1), (3, .i i2), (4, .i (n3 : Int)), (24, .bool ((decide ((((x1.getD n3 0).toNat : Nat) : Int) < (48 : Int))) || (decide ((((x1.getD n3 0).toNat : Nat) : Int) > (57 : Int)))))], [], [], 0⟩ (an4 ob2 (And.intro ob3 (an2 ob4 ob4)) (an1 ob4) ob7) ?_
      refine thenQ_normal ?_
      refine AWp.cond (b := ((decide ((((x1.getD n3 0).toNat : Nat) : Int) < (48 : Int))) || (decide ((((x1.getD n3 0).toNat : Nat) : Int) > (57 : Int))))) (by kernel_rfl) (fun hc2 => ?_) (fun hc2 => ?_)
      ·
        replace h := ite_tb hc2 h
        refine q4rq [] [] ⟨47, [(2, .i (0 : Int))], [], [], 0⟩ trivial ?_
        have hret := Option.some.inj h
        subst hret
        refine AWp.ret ?_
        refine thenQ_ret ?_
        refine blockQ_ret ?_
        refine thenQ_ret ?_
        refine thenQ_ret ?_
        refine blockQ_ret ?_
        refine joinQ_ret ?_
        exact bodyQ_ret _ rfl ⟨rfl, rfl⟩ rfl
      ·
        replace h := ite_fb hc2 h
        refine AWp.skip ?_
        refine thenQ_normal ?_
        obtain ⟨ob8, ob9p, h⟩ := ck2 h
        have ob9 : 0 ≤ (n3 : Int) ∧ (n3 : Int) < ((x1.length : Nat) : Int) := ⟨by omega, ob9p⟩
        obtain ⟨ob10, ob11, ob12, h⟩ := ck3 h
        refine q4rr [] [] ⟨47, [(0, .str x1), (3, .i (((10 : Int) * i2) + ((((x1.getD n3 0).toNat : Nat) : Int) - (48 : Int)))), (4, .i (n3 : Int))], [], [], 0⟩ (an5 ob8 ob9 ob10 ob11 ob12) ?_
        refine blockQ_normal ?_
        refine thenQ_normal ?_
        obtain ⟨ob13p, h⟩ := chk_some h
        have ob13 : -9223372036854775808 ≤ ((n3 : Int) + (1 : Int)) ∧ ((n3 : Int) + (1 : Int)) ≤ 9223372036854775807 := ⟨by omega, ob13p⟩
        refine q4rr [] [] ⟨47, [(0, .str x1), (3, .i (((10 : Int) * i2) + ((((x1.getD n3 0).toNat : Nat) : Int) - (48 : Int)))), (4, .i (((n3 + 1) : Nat) : Int))], [], [], 0⟩ (an1 ob13) ?_
        rw [hC0] at h
        exact loopQ_normal (_, (((10 : Int) * i2) + ((((x1.getD n3 0).toNat : Nat) : Int) - (48 : Int))), (n3 + 1)) (Le.mk rfl rfl ⟨.refl _, .refl _, .refl _, trivial⟩ trivial) h (Nat.lt_succ_self _)
    ·
      replace h := ite_fb hc1 h
      refine AWp.exit ?_
      refine thenQ_exit ?_
      refine thenQ_exit ?_
      refine blockQ_same ?_
      exact joinQ_normal (i2) (Le.mk rfl rfl ⟨.refl _, .refl _, trivial⟩ trivial) h
  ·
    rintro i4 h
    replace h := (congrFun hK1 _).symm.trans h
    refine AWp.seq ?_
    refine AWp.seq ?_
    obtain ⟨r5, hr5, h⟩ := optc_some h
    have ob14 := idA (((decide ((lZ x1) > (15 : Int))) == false) = true)
    have ob15 := bqA (decide ((lZ x1) > (15 : Int))) false
    have ob16 := idA ((((decide ((lZ x1) > (15 : Int))) || (x1 == [])) == false) = true)
    have ob19 := bqA ((decide ((lZ x1) > (15 : Int))) || (x1 == [])) false
    refine q4rr [] [(9, ⟨[.i i4], [], [], [], .str r5, [], [], []⟩)] ⟨47, [(3, .i i4), (45, .bool (((decide ((lZ x1) > (15 : Int))) || (x1 == [])) || (!(r5 == x1))))], [], [], 0⟩ (an5 (an1 ob14) ob15 (And.intro (cpC fun hc => (f79_ok FUEL _ _ (hr5 hc))) (an1 ob16)) (an2 ob16 ob16) ob19) ?_
    refine thenQ_normal ?_
    refine AWp.cond (b := (((decide ((lZ x1) > (15 : Int))) || (x1 == [])) || (!(r5 == x1)))) (by kernel_rfl) (fun hc3 => ?_) (fun hc3 => ?_)
    ·
      replace h := ite_tb hc3 h
      refine q4rq [] [] ⟨47, [(2, .i (0 : Int))], [], [], 0⟩ trivial ?_
      have hret := Option.some.inj h
      subst hret
      refine AWp.ret ?_
      refine thenQ_ret ?_
      exact bodyQ_ret _ rfl ⟨rfl, rfl⟩ rfl
    ·
      replace h := ite_fb hc3 h
      refine AWp.skip ?_
      refine thenQ_normal ?_
      refine q4rq [] [] ⟨47, [(2, .i i4)], [], [], 0⟩ trivial ?_
      have hret := Option.some.inj h
      subst hret
      refine AWp.ret ?_
      exact bodyQ_ret _ rfl ⟨rfl, rfl⟩ rfl
def f93_L0 (x1 : List (List UInt8 × List UInt8 × Int)) (K1 : Unit → Option Int) : Nat → Nat → Option Int
  | 0, _ => none
  | k + 1, n2 =>
    if (decide ((n2 : Int) < (((x1).length : Nat) : Int))) then (
    (f117 ((x1.getD n2 (default : List UInt8 × List UInt8 × Int)).1)).bind fun (r3 : Bool) =>
    optc ((!r3) == false) (f126 ((x1.getD n2 (default : List UInt8 × List UInt8 × Int)).2.1) (256 : Int)) fun (r4 : Bool) =>
    chk ((n2 : Int) < (((x1).length : Nat) : Int)) <|
    chk (((!r3) == false) = true → 0 ≤ (n2 : Int) ∧ (n2 : Int) < (((x1).length : Nat) : Int)) <|
    chk ((((!r3) || (!r4)) == false) = true → 0 ≤ (n2 : Int) ∧ (n2 : Int) < (((x1).length : Nat) : Int)) <|
    chk (((((!r3) || (!r4)) || (decide ((x1.getD n2 (default : List UInt8 × List UInt8 × Int)).2.2 < (1 : Int)))) == false) = true → 0 ≤ (n2 : Int) ∧ (n2 : Int) < (((x1).length : Nat) : Int)) <|
    chk (((((((!r3) || (!r4)) || (decide ((x1.getD n2 (default : List UInt8 × List UInt8 × Int)).2.2 < (1 : Int)))) || (decide ((x1.getD n2 (default : List UInt8 × List UInt8 × Int)).2.2 > (1000000000000 : Int)))) == false) && ((decide ((n2 : Int) > (0 : Int))) == true)) = true → -9223372036854775808 ≤ ((n2 : Int) - (1 : Int)) ∧ ((n2 : Int) - (1 : Int)) ≤ 9223372036854775807) <|
    chk (((((((!r3) || (!r4)) || (decide ((x1.getD n2 (default : List UInt8 × List UInt8 × Int)).2.2 < (1 : Int)))) || (decide ((x1.getD n2 (default : List UInt8 × List UInt8 × Int)).2.2 > (1000000000000 : Int)))) == false) && ((decide ((n2 : Int) > (0 : Int))) == true)) = true → 0 ≤ ((n2 : Int) - (1 : Int)) ∧ ((n2 : Int) - (1 : Int)) < (((x1).length : Nat) : Int)) <|
    chk (((((((!r3) || (!r4)) || (decide ((x1.getD n2 (default : List UInt8 × List UInt8 × Int)).2.2 < (1 : Int)))) || (decide ((x1.getD n2 (default : List UInt8 × List UInt8 × Int)).2.2 > (1000000000000 : Int)))) == false) && ((decide ((n2 : Int) > (0 : Int))) == true)) = true → 0 ≤ (n2 : Int) ∧ (n2 : Int) < (((x1).length : Nat) : Int)) <|
    chk ((((((!r3) || (!r4)) || (decide ((x1.getD n2 (default : List UInt8 × List UInt8 × Int)).2.2 < (1 : Int)))) || (decide ((x1.getD n2 (default : List UInt8 × List UInt8 × Int)).2.2 > (1000000000000 : Int)))) == false) = true → (((((!r3) || (!r4)) || (decide ((x1.getD n2 (default : List UInt8 × List UInt8 × Int)).2.2 < (1 : Int)))) || (decide ((x1.getD n2 (default : List UInt8 × List UInt8 × Int)).2.2 > (1000000000000 : Int)))) == false) = true → (decide ((n2 : Int) > (0 : Int))) = true → ((((((!r3) || (!r4)) || (decide ((x1.getD n2 (default : List UInt8 × List UInt8 × Int)).2.2 < (1 : Int)))) || (decide ((x1.getD n2 (default : List UInt8 × List UInt8 × Int)).2.2 > (1000000000000 : Int)))) == false) && ((decide ((n2 : Int) > (0 : Int))) == true)) = true) <|
    if (((((!r3) || (!r4)) || (decide ((x1.getD n2 (default : List UInt8 × List UInt8 × Int)).2.2 < (1 : Int)))) || (decide ((x1.getD n2 (default : List UInt8 × List UInt8 × Int)).2.2 > (1000000000000 : Int)))) || ((decide ((n2 : Int) > (0 : Int))) && (!(Op.bytesLess ((x1.getD ((((n2 : Int) - (1 : Int))).toNat) (default : List UInt8 × List UInt8 × Int)).1) ((x1.getD n2 (default : List UInt8 × List UInt8 × Int)).1))))) then (
    some (1 : Int)
    ) else (
    chk (((n2 : Int) + (1 : Int)) ≤ 9223372036854775807) <|
    (f93_L0 x1 K1 k) (n2 + 1)
    )
    ) else (
    K1 ()
    )
theorem f93_L0_e2 (x1 : List (List UInt8 × List UInt8 × Int)) (K1 : Unit → Option Int) (k : Nat) (n2 : Nat) : f93_L0 x1 K1 (k + 1) n2 =
    if (decide ((n2 : Int) < (((x1).length : Nat) : Int))) then (
    (f117 ((x1.getD n2 (default : List UInt8 × List UInt8 × Int)).1)).bind fun (r3 : Bool) =>
    optc ((!r3) == false) (f126 ((x1.getD n2 (default : List UInt8 × List UInt8 × Int)).2.1) (256 : Int)) fun (r4 : Bool) =>
    chk ((n2 : Int) < (((x1).length : Nat) : Int)) <|
    chk (((!r3) == false) = true → 0 ≤ (n2 : Int) ∧ (n2 : Int) < (((x1).length : Nat) : Int)) <|
    chk ((((!r3) || (!r4)) == false) = true → 0 ≤ (n2 : Int) ∧ (n2 : Int) < (((x1).length : Nat) : Int)) <|
    chk (((((!r3) || (!r4)) || (decide ((x1.getD n2 (default : List UInt8 × List UInt8 × Int)).2.2 < (1 : Int)))) == false) = true → 0 ≤ (n2 : Int) ∧ (n2 : Int) < (((x1).length : Nat) : Int)) <|
    chk (((((((!r3) || (!r4)) || (decide ((x1.getD n2 (default : List UInt8 × List UInt8 × Int)).2.2 < (1 : Int)))) || (decide ((x1.getD n2 (default : List UInt8 × List UInt8 × Int)).2.2 > (1000000000000 : Int)))) == false) && ((decide ((n2 : Int) > (0 : Int))) == true)) = true → -9223372036854775808 ≤ ((n2 : Int) - (1 : Int)) ∧ ((n2 : Int) - (1 : Int)) ≤ 9223372036854775807) <|
    chk (((((((!r3) || (!r4)) || (decide ((x1.getD n2 (default : List UInt8 × List UInt8 × Int)).2.2 < (1 : Int)))) || (decide ((x1.getD n2 (default : List UInt8 × List UInt8 × Int)).2.2 > (1000000000000 : Int)))) == false) && ((decide ((n2 : Int) > (0 : Int))) == true)) = true → 0 ≤ ((n2 : Int) - (1 : Int)) ∧ ((n2 : Int) - (1 : Int)) < (((x1).length : Nat) : Int)) <|
    chk (((((((!r3) || (!r4)) || (decide ((x1.getD n2 (default : List UInt8 × List UInt8 × Int)).2.2 < (1 : Int)))) || (decide ((x1.getD n2 (default : List UInt8 × List UInt8 × Int)).2.2 > (1000000000000 : Int)))) == false) && ((decide ((n2 : Int) > (0 : Int))) == true)) = true → 0 ≤ (n2 : Int) ∧ (n2 : Int) < (((x1).length : Nat) : Int)) <|
    chk ((((((!r3) || (!r4)) || (decide ((x1.getD n2 (default : List UInt8 × List UInt8 × Int)).2.2 < (1 : Int)))) || (decide ((x1.getD n2 (default : List UInt8 × List UInt8 × Int)).2.2 > (1000000000000 : Int)))) == false) = true → (((((!r3) || (!r4)) || (decide ((x1.getD n2 (default : List UInt8 × List UInt8 × Int)).2.2 < (1 : Int)))) || (decide ((x1.getD n2 (default : List UInt8 × List UInt8 × Int)).2.2 > (1000000000000 : Int)))) == false) = true → (decide ((n2 : Int) > (0 : Int))) = true → ((((((!r3) || (!r4)) || (decide ((x1.getD n2 (default : List UInt8 × List UInt8 × Int)).2.2 < (1 : Int)))) || (decide ((x1.getD n2 (default : List UInt8 × List UInt8 × Int)).2.2 > (1000000000000 : Int)))) == false) && ((decide ((n2 : Int) > (0 : Int))) == true)) = true) <|
    if (((((!r3) || (!r4)) || (decide ((x1.getD n2 (default : List UInt8 × List UInt8 × Int)).2.2 < (1 : Int)))) || (decide ((x1.getD n2 (default : List UInt8 × List UInt8 × Int)).2.2 > (1000000000000 : Int)))) || ((decide ((n2 : Int) > (0 : Int))) && (!(Op.bytesLess ((x1.getD ((((n2 : Int) - (1 : Int))).toNat) (default : List UInt8 × List UInt8 × Int)).1) ((x1.getD n2 (default : List UInt8 × List UInt8 × Int)).1))))) then (
    some (1 : Int)
    ) else (
    chk (((n2 : Int) + (1 : Int)) ≤ 9223372036854775807) <|
    (f93_L0 x1 K1 k) (n2 + 1)
    )
    ) else (
    K1 ()
    ) := rfl
abbrev f93z0 (r3 : Bool) (r4 : Bool) (x1 : List (List UInt8 × List UInt8 × Int)) (n2 : Nat) := ((((!r3) || (!r4)) || (decide ((x1.getD n2 (default : List UInt8 × List UInt8 × Int)).2.2 < (1 : Int)))) || (decide ((x1.getD n2 (default : List UInt8 × List UInt8 × Int)).2.2 > (1000000000000 : Int))))
abbrev f93z1 (r3 : Bool) (r4 : Bool) (x1 : List (List UInt8 × List UInt8 × Int)) (n2 : Nat) := (((f93z0 r3 r4 x1 n2) == false) && ((decide ((n2 : Int) > (0 : Int))) == true))
abbrev f93z2 (r3 : Bool) (r4 : Bool) (x1 : List (List UInt8 × List UInt8 × Int)) (n2 : Nat) := ((((!r3) || (!r4)) || (decide ((x1.getD n2 (default : List UInt8 × List UInt8 × Int)).2.2 < (1 : Int)))) == false)
abbrev f93z3 (r3 : Bool) (r4 : Bool) := (((!r3) || (!r4)) == false)
abbrev f93z4 (x1 : List (List UInt8 × List UInt8 × Int)) (n2 : Nat) := (x1.getD n2 (default : List UInt8 × List UInt8 × Int))
def f93 (x1 : List (List UInt8 × List UInt8 × Int)) : Option Int :=
  if (decide ((((x1).length : Nat) : Int) > (64 : Int))) then (
  some (3 : Int)
  ) else (
  jn (fun (_ : Unit) =>
  some (0 : Int)
  ) fun (K1 : Unit → Option Int) =>
  f93_L0 x1 K1 FUEL 0
  )
set_option maxRecDepth 100000 in
theorem f93_ok  (x1 : List (List UInt8 × List UInt8 × Int)) (r : Int) (h : f93 x1 = some r)  : Spec1 Tryz.prog 93 [] [] [] [vL 3 eSSI (default : List UInt8 × List UInt8 × Int) x1] (.int .i64 r) [] := by
  unfold f93 at h
  refine Spec1.body 0 _ _ Tryz.func93 rfl Tryz.ntmps93 rfl rfl ?_
  refine q4rq [] [] ⟨63, [(0, q4aSSI x1)], [], [], 0⟩ trivial ?_
  refine AWp.seq ?_
  refine q4rq [] [] ⟨63, [(0, q4aSSI x1), (6, .bool (decide ((lZ x1) > (64 : Int))))], [], [], 0⟩ trivial ?_
  refine AWp.cond (b := (decide ((lZ x1) > (64 : Int)))) (by kernel_rfl) (fun hc1 => ?_) (fun hc1 => ?_)
  ·
    replace h := ite_tb hc1 h
    refine q4rq [] [] ⟨63, [(2, .i (3 : Int))], [], [], 0⟩ trivial ?_
    have hret := Option.some.inj h
    subst hret
    refine AWp.ret ?_
    refine thenQ_ret ?_
    exact bodyQ_ret _ rfl ⟨rfl, rfl⟩ rfl
  ·
    replace h := ite_fb hc1 h
    refine AWp.skip ?_
    refine thenQ_normal ?_
    obtain ⟨K1, hK1, h⟩ := jn_some h
    refine AWp.join (α := Unit) (fun (x : Unit) => match x with | () => ⟨63, [], [], [], 0⟩) (fun x => K1 x = some r) ?_ ?_
    ·
      refine q4rq [] [] ⟨63, [(0, q4aSSI x1), (3, .i (0 : Int))], [], [], 0⟩ trivial ?_
      refine AWp.block ?_
      refine AWp.loopL (α := Nat × Nat) (fun x => match x with | (_, n2) => ⟨63, [(0, q4aSSI x1), (3, .i (n2 : Int))], [], [], 0⟩) (fun x => f93_L0 x1 K1 x.1 x.2 = some r) (fun x => x.1) (FUEL, 0) (Le.mk (s' := ⟨63, [(0, q4aSSI x1), (3, .i (0 : Int))], [], [], 0⟩) rfl rfl ⟨.refl _, .refl _, trivial⟩ trivial) h ?_
      rintro ⟨k0, n2⟩ h
      cases k0 with
      | zero => exact nomatch (show (none : Option Int) = some r from h)
      | succ k0 =>
      obtain ⟨C0, hC0⟩ : ∃ C, C = f93_L0 x1 K1 k0 := ⟨_, rfl⟩
      replace h := (f93_L0_e2 ..).symm.trans h
      try rw [← hC0] at h
      refine AWp.seq ?_
      refine q4rq [] [] ⟨63, [(0, q4aSSI x1), (3, .i (n2 : Int)), (10, .bool (decide ((n2 : Int) < (lZ x1))))], [], [], 0⟩ trivial ?_
      refine AWp.cond (b := (decide ((n2 : Int) < (lZ x1)))) (by kernel_rfl) (fun hc2 => ?_) (fun hc2 => ?_)
      ·
        replace h := ite_tb hc2 h
        refine AWp.skip ?_
        refine thenQ_normal ?_
        refine AWp.seq ?_
        refine AWp.block ?_
        refine AWp.seq ?_
        obtain ⟨r3, hr3, h⟩ := bind_ok h
        obtain ⟨r4, hr4, h⟩ := optc_some h
        obtain ⟨ob0p, h⟩ := chk_some h
        have ob0 : 0 ≤ (n2 : Int) ∧ (n2 : Int) < (((x1).length : Nat) : Int) := ⟨by omega, ob0p⟩
        obtain ⟨ob1, h⟩ := chk_some h
        have ob2 := idA (((!r3) == false) = true)
        have ob8 := bqA (!r3) false
        obtain ⟨ob9, h⟩ := chk_some h
        have ob10 := idA ((f93z3 r3 r4) = true)
        have ob15 : true = true → ((!r3) || (!r4)) = false → (f93z3 r3 r4) = true := fun _ h => beq_iff_eq.2 h
        obtain ⟨ob16, h⟩ := chk_some h
        have ob17 := idA ((f93z2 r3 r4 x1 n2) = true)
        have ob22 : true = true → (((!r3) || (!r4)) || (decide ((f93z4 x1 n2).2.2 < (1 : Int)))) = false → (f93z2 r3 r4 x1 n2) = true := fun _ h => beq_iff_eq.2 h
        have ob23 := idA (((f93z0 r3 r4 x1 n2) == false) = true)
        obtain ⟨ob25, h⟩ := chk_some h
        have ob26 := idA ((f93z1 r3 r4 x1 n2) = true)
        obtain ⟨ob27, h⟩ := chk_some h
        obtain ⟨ob32, h⟩ := chk_some h
        obtain ⟨ob39, h⟩ := chk_some h
        have ob41 := bqA (f93z0 r3 r4 x1 n2) false
        refine q4rr [] [(5, ⟨[.str (f93z4 x1 n2).1], [], [], [], .bool r3, [], [], []⟩), (13, ⟨[.str (f93z4 x1 n2).2.1, .i (256 : Int)], [], [], [], .bool r4, [], [], []⟩)] ⟨63, [(0, q4aSSI x1), (3, .i (n2 : Int)), (62, .bool ((f93z0 r3 r4 x1 n2) || ((decide ((n2 : Int) > (0 : Int))) && (!(Op.bytesLess ((x1.getD ((((n2 : Int) - (1 : Int))).toNat) q4dSSI).1) ((f93z4 x1 n2).1))))))], [], [], 0⟩ (ac6 ob0 (cpT (f117_ok _ _ hr3)) (And.intro ob1 (an2 ob2 ob2)) (an1 ob2) (an1 ob2) (And.intro (cpC fun hc => (f126_ok _ _ _ (hr4 hc))) (an1 ob2)) (ac6 (an1 ob2) ob8 (And.intro ob9 (an2 ob10 ob10)) (an1 ob10) (an1 ob10) (an1 ob10) (ac6 ob15 (And.intro ob16 (an2 ob17 ob17)) (an1 ob17) (an1 ob17) (an1 ob17) ob22 (ac6 (an1 ob23) (an1 ob23) (And.intro ob25 (an1 ob26)) (And.intro ob27 (an2 ob26 ob26)) (an1 ob26) (an1 ob26) (an6 (And.intro ob32 (an2 ob26 ob26)) (an1 ob26) (an1 ob26) (an2 ob26 ob26) (And.intro ob39 (an1 ob23)) ob41))))) ?_
        refine thenQ_normal ?_
        refine AWp.cond (b := ((f93z0 r3 r4 x1 n2) || ((decide ((n2 : Int) > (0 : Int))) && (!(Op.bytesLess ((x1.getD ((((n2 : Int) - (1 : Int))).toNat) q4dSSI).1) ((f93z4 x1 n2).1)))))) (by kernel_rfl) (fun hc3 => ?_) (fun hc3 => ?_)
        ·
          replace h := ite_tb hc3 h
          refine q4rq [] [] ⟨63, [(2, .i (1 : Int))], [], [], 0⟩ trivial ?_
          have hret := Option.some.inj h
          subst hret
          refine AWp.ret ?_
          refine blockQ_ret ?_
          refine thenQ_ret ?_
          refine thenQ_ret ?_
          refine blockQ_ret ?_
          refine joinQ_ret ?_
          exact bodyQ_ret _ rfl ⟨rfl, rfl⟩ rfl
        ·
          replace h := ite_fb hc3 h
          refine AWp.skip ?_
          refine blockQ_normal ?_
          refine thenQ_normal ?_
          obtain ⟨ob42p, h⟩ := chk_some h
          have ob42 : -9223372036854775808 ≤ ((n2 : Int) + (1 : Int)) ∧ ((n2 : Int) + (1 : Int)) ≤ 9223372036854775807 := ⟨by omega, ob42p⟩
          refine q4rr [] [] ⟨63, [(0, q4aSSI x1), (3, .i (((n2 + 1) : Nat) : Int))], [], [], 0⟩ (an1 ob42) ?_
          rw [hC0] at h
          exact loopQ_normal (_, (n2 + 1)) (Le.mk rfl rfl ⟨.refl _, .refl _, trivial⟩ trivial) h (Nat.lt_succ_self _)
      ·
        replace h := ite_fb hc2 h
        refine AWp.exit ?_
        refine thenQ_exit ?_
        refine thenQ_exit ?_
        refine blockQ_same ?_
        exact joinQ_normal () (Le.mk rfl rfl trivial trivial) h
    ·
      rintro ⟨⟩ h
      replace h := (congrFun hK1 _).symm.trans h
      refine q4rq [] [] ⟨63, [(2, .i (0 : Int))], [], [], 0⟩ trivial ?_
      have hret := Option.some.inj h
      subst hret
      refine AWp.ret ?_
      exact bodyQ_ret _ rfl ⟨rfl, rfl⟩ rfl
def f53_L1 (x1 : List (List UInt8)) (n2 : Nat) (K2 : (List (List UInt8 × List UInt8 × Int)) → Option (Int × (List (List UInt8 × List UInt8 × Int)))) : Nat → (Nat × Nat × (List (List UInt8 × List UInt8 × Int))) → Option (Int × (List (List UInt8 × List UInt8 × Int)))
  | 0, _ => none
  | k + 1, (n4, n5, l6) =>
    chk ((n2 : Int) < (((x1).length : Nat) : Int)) <|
    if (decide ((n5 : Int) < (((x1.getD n2 []).length : Nat) : Int))) then (
    jn (fun ((n7, l8) : Nat × (List (List UInt8 × List UInt8 × Int))) =>
    chk (((n5 : Int) + (1 : Int)) ≤ 9223372036854775807) <|
    (f53_L1 x1 n2 K2 k) (n7, (n5 + 1), l8)
    ) fun (K3 : (Nat × (List (List UInt8 × List UInt8 × Int))) → Option (Int × (List (List UInt8 × List UInt8 × Int)))) =>
    chk ((n2 : Int) < (((x1).length : Nat) : Int)) <|
    chk ((n5 : Int) < (((x1.getD n2 []).length : Nat) : Int)) <|
    if (((((x1.getD n2 []).getD n5 0).toNat : Nat) : Int) != (10 : Int)) then (
    K3 (n4, l6)
    ) else (
    (f75 (((x1.getD n2 []).take n5).drop n4)).bind fun (r9 : List (List UInt8)) =>
    chk ((n2 : Int) < (((x1).length : Nat) : Int)) <|
    chk ((n4 : Int) ≤ (n5 : Int) ∧ (n5 : Int) ≤ (((x1.getD n2 []).length : Nat) : Int)) <|
    optc (((((r9).length : Nat) : Int) != (3 : Int)) == false) (f92 (r9.getD 1 [])) fun (r10 : Int) =>
    chk ((((((r9).length : Nat) : Int) != (3 : Int)) == false) = true → 0 ≤ (1 : Int) ∧ (1 : Int) < (((r9).length : Nat) : Int)) <|
    chk ((((((r9).length : Nat) : Int) != (3 : Int)) == false) = true → 1 < (r9).length) <|
    chk (((((((r9).length : Nat) : Int) != (3 : Int)) == false) && ((r10 == (0 : Int)) == true)) = true → 0 ≤ (1 : Int) ∧ (1 : Int) < (((r9).length : Nat) : Int)) <|
    chk (((((((r9).length : Nat) : Int) != (3 : Int)) == false) && ((r10 == (0 : Int)) == true)) = true → 1 < (r9).length) <|
    chk ((((((r9).length : Nat) : Int) != (3 : Int)) == false) = true → (((((r9).length : Nat) : Int) != (3 : Int)) == false) = true → (r10 == (0 : Int)) = true → ((((((r9).length : Nat) : Int) != (3 : Int)) == false) && ((r10 == (0 : Int)) == true)) = true) <|
    if (((((r9).length : Nat) : Int) != (3 : Int)) || ((r10 == (0 : Int)) && (!((r9.getD 1 []) == ([48] : List UInt8))))) then (
    some ((2 : Int), [])
    ) else (
    (f92 (r9.getD 1 [])).bind fun (r11 : Int) =>
    chk ((0 : Int) < (((r9).length : Nat) : Int)) <|
    chk (0 < (r9).length) <|
    chk ((2 : Int) < (((r9).length : Nat) : Int)) <|
    chk (2 < (r9).length) <|
    chk ((1 : Int) < (((r9).length : Nat) : Int)) <|
    chk (1 < (r9).length) <|
    chk (((l6).length + 1) * 40 ≤ 140737488355328) <|
    chk (((n5 : Int) + (1 : Int)) ≤ 9223372036854775807) <|
    K3 ((n5 + 1), (l6 ++ [((r9.getD 0 []), (r9.getD 2 []), r11)]))
    )
    )
    ) else (
    K2 l6
    )
def f53_L0 (x1 : List (List UInt8)) (K1 : (List (List UInt8 × List UInt8 × Int)) → Option (Int × (List (List UInt8 × List UInt8 × Int)))) : Nat → (Nat × (List (List UInt8 × List UInt8 × Int))) → Option (Int × (List (List UInt8 × List UInt8 × Int)))
  | 0, _ => none
  | k + 1, (n2, l3) =>
    if (decide ((n2 : Int) < (((x1).length : Nat) : Int))) then (
    jn (fun (l12 : List (List UInt8 × List UInt8 × Int)) =>
    chk (((n2 : Int) + (1 : Int)) ≤ 9223372036854775807) <|
    (f53_L0 x1 K1 k) ((n2 + 1), l12)
    ) fun (K2 : (List (List UInt8 × List UInt8 × Int)) → Option (Int × (List (List UInt8 × List UInt8 × Int)))) =>
    chk ((n2 : Int) < (((x1).length : Nat) : Int)) <|
    chk ((((x1.getD n2 []) == []) == false) = true → 0 ≤ (n2 : Int) ∧ (n2 : Int) < (((x1).length : Nat) : Int)) <|
    chk ((((x1.getD n2 []) == []) == false) = true → 0 ≤ (n2 : Int) ∧ (n2 : Int) < (((x1).length : Nat) : Int)) <|
    chk ((((x1.getD n2 []) == []) == false) = true → -9223372036854775808 ≤ ((((x1.getD n2 []).length : Nat) : Int) - (1 : Int)) ∧ ((((x1.getD n2 []).length : Nat) : Int) - (1 : Int)) ≤ 9223372036854775807) <|
    chk ((((x1.getD n2 []) == []) == false) = true → 0 ≤ ((((x1.getD n2 []).length : Nat) : Int) - (1 : Int)) ∧ ((((x1.getD n2 []).length : Nat) : Int) - (1 : Int)) < (((x1.getD n2 []).length : Nat) : Int)) <|
    if (((x1.getD n2 []) == []) || (((((x1.getD n2 []).getD ((((((x1.getD n2 []).length : Nat) : Int) - (1 : Int))).toNat) 0).toNat : Nat) : Int) != (10 : Int))) then (
    some ((2 : Int), [])
    ) else (
    f53_L1 x1 n2 K2 FUEL (0, 0, l3)
    )
    ) else (
    K1 l3
    )
abbrev f53z0 : Heap := [(3000, bL 76 3 eSSI (default : List UInt8 × List UInt8 × Int) [])]
abbrev f53z1 (l3 : List (List UInt8 × List UInt8 × Int)) : Heap := [(5004, bL 76 3 eSSI (default : List UInt8 × List UInt8 × Int) l3)]
abbrev f53z2 (l13 : List (List UInt8 × List UInt8 × Int)) : Heap := [(5004, bL 76 3 eSSI (default : List UInt8 × List UInt8 × Int) l13)]
abbrev f53z3 (l6 : List (List UInt8 × List UInt8 × Int)) : Heap := [(5004, bL 76 3 eSSI (default : List UInt8 × List UInt8 × Int) l6)]
abbrev f53z4 := (List UInt8 × List UInt8 × Int)
abbrev f53z5 : List (Nat × V) := [(2, .own 3000), (3, .int .i64 (2 : Int))]
abbrev f53z6 (l6 : List (List UInt8 × List UInt8 × Int)) (r9 : List (List UInt8)) (r11 : Int) : Heap := [(5004, bL 76 3 eSSI (default : List UInt8 × List UInt8 × Int) (l6 ++ [((r9.getD 0 []), (r9.getD 2 []), r11)]))]
abbrev f53z7 : List (Nat × V) := [(2, .nils), (3, .int .i64 (2 : Int))]
def f53 (x1 : List (List UInt8)) : Option (Int × (List (List UInt8 × List UInt8 × Int))) :=
  jn (fun (l13 : List (List UInt8 × List UInt8 × Int)) =>
  (f93 l13).bind fun (r14 : Int) =>
  if (r14 != (0 : Int)) then (
  some (r14, [])
  ) else (
  some ((0 : Int), l13)
  )
  ) fun (K1 : (List (List UInt8 × List UInt8 × Int)) → Option (Int × (List (List UInt8 × List UInt8 × Int)))) =>
  f53_L0 x1 K1 FUEL (0, [])
set_option maxRecDepth 100000 in
theorem f53_ok  (x1 : List (List UInt8)) (r : Int × (List (List UInt8 × List UInt8 × Int))) (h : f53 x1 = some r)  : Spec1 Tryz.prog 53 [] [] [] [vL 1 eS [] x1] (.tup [.own 3000, .int .i64 r.1]) [(3000, bL 76 3 eSSI (default : List UInt8 × List UInt8 × Int) r.2)] := by
  unfold f53 at h
  refine Spec1.body 0 _ _ Tryz.func53 rfl Tryz.ntmps53 rfl rfl ?_
  refine q4rq [] [] ⟨97, [(0, q4aS x1)], [], [], 0⟩ trivial ?_
  refine q4rq [] [] ⟨97, [(0, q4aS x1), (4, .nils)], [], [], 0⟩ trivial ?_
  obtain ⟨K1, hK1, h⟩ := jn_some h
  refine AWp.join (α := List (f53z4)) (fun (l13 : List (f53z4)) => ⟨97, [(4, .own 5004)], (f53z2 l13), [], 0⟩) (fun x => K1 x = some r) ?_ ?_
  ·
    refine q4rq [] [] ⟨97, [(0, q4aS x1), (4, .nils), (5, .i (0 : Int))], [], [], 0⟩ trivial ?_
    refine AWp.block ?_
    refine AWp.loopL (α := Nat × (Nat × (List (f53z4)))) (fun x => match x with | (_, n2, l3) => ⟨97, [(0, q4aS x1), (4, .own 5004), (5, .i (n2 : Int))], (f53z1 l3), [], 0⟩) (fun x => f53_L0 x1 K1 x.1 x.2 = some r) (fun x => x.1) (FUEL, 0, []) (Le.trans (Le.trans (Le.nilOwn 4 5004 76 3 (encF eSSI q4dSSI []) rfl rfl (Nat.le_of_ble_eq_true rfl)) (Le.mk (s' := ⟨97, [(0, q4aS x1), (4, .own 5004), (5, .i (0 : Int))], [(5004, q4bSSI_76 [])], [], 0⟩) rfl rfl ⟨.refl _, .refl _, .refl _, trivial⟩ ⟨⟨_, rfl, .refl _⟩, trivial⟩)) (Le.mk (s' := ⟨97, [(0, q4aS x1), (4, .own 5004), (5, .i (0 : Int))], [(5004, q4bSSI_76 [])], [], 0⟩) rfl rfl ⟨.refl _, .refl _, .refl _, trivial⟩ ⟨⟨_, rfl, .refl _⟩, trivial⟩)) h ?_
    rintro ⟨k0, n2, l3⟩ h
    cases k0 with
    | zero => exact nomatch (show (none : Option (Int × (List (List UInt8 × List UInt8 × Int)))) = some r from h)
    | succ k0 =>
    obtain ⟨C0, hC0⟩ : ∃ C, C = f53_L0 x1 K1 k0 := ⟨_, rfl⟩
    replace h := (f53_L0.eq_2 ..).symm.trans h
    try rw [← hC0] at h
    refine AWp.seq ?_
    refine q4rq [] [] ⟨97, [(0, q4aS x1), (4, .own 5004), (5, .i (n2 : Int)), (13, .bool (decide ((n2 : Int) < (lZ x1))))], (f53z1 l3), [], 0⟩ trivial ?_
    refine AWp.cond (b := (decide ((n2 : Int) < (lZ x1)))) (by kernel_rfl) (fun hc1 => ?_) (fun hc1 => ?_)
    ·
      replace h := ite_tb hc1 h
      refine AWp.skip ?_
      refine thenQ_normal ?_
      obtain ⟨K2, hK2, h⟩ := jn_some h
      refine AWp.join (α := List (f53z4)) (fun (l12 : List (f53z4)) => ⟨97, [(0, q4aS x1), (4, .own 5004), (5, .i (n2 : Int))], [(5004, q4bSSI_76 l12)], [], 0⟩) (fun x => K2 x = some r) ?_ ?_
      ·
        refine AWp.block ?_
        refine AWp.seq ?_
        refine AWp.seq ?_
        obtain ⟨ob0p, h⟩ := chk_some h
        have ob0 : 0 ≤ (n2 : Int) ∧ (n2 : Int) < (((x1).length : Nat) : Int) := ⟨by omega, ob0p⟩
        obtain ⟨ob1, h⟩ := chk_some h
        have ob2 := idA ((((x1.getD n2 []) == []) == false) = true)
        obtain ⟨ob5, h⟩ := chk_some h
        obtain ⟨ob10, h⟩ := chk_some h
        obtain ⟨ob12, h⟩ := chk_some h
        have ob16 := bqA ((x1.getD n2 []) == []) false
        refine q4rr [] [] ⟨97, [(0, q4aS x1), (4, .own 5004), (5, .i (n2 : Int)), (34, .bool (((x1.getD n2 []) == []) || (((((x1.getD n2 []).getD ((((((x1.getD n2 []).length : Nat) : Int) - (1 : Int))).toNat) 0).toNat : Nat) : Int) != (10 : Int))))], (f53z1 l3), [], 0⟩ (ac6 ob0 (And.intro ob1 (an2 ob2 ob2)) (an1 ob2) (And.intro ob5 (an2 ob2 ob2)) (an1 ob2) (an1 ob2) (an4 (And.intro ob10 (an1 ob2)) (And.intro ob12 (an2 ob2 ob2)) (an1 ob2) ob16)) ?_
        refine thenQ_normal ?_
        refine AWp.cond (b := (((x1.getD n2 []) == []) || (((((x1.getD n2 []).getD ((((((x1.getD n2 []).length : Nat) : Int) - (1 : Int))).toNat) 0).toNat : Nat) : Int) != (10 : Int)))) (by kernel_rfl) (fun hc2 => ?_) (fun hc2 => ?_)
        ·
          replace h := ite_tb hc2 h
          refine q4rq [] [] ⟨97, (f53z7), [], [], 0⟩ trivial ?_
          refine AWp.le (Le.trans (Le.nilOwn 2 3000 76 3 (encF eSSI q4dSSI []) rfl rfl (Nat.le_of_ble_eq_true rfl)) (Le.mk (s' := ⟨97, (f53z5), (f53z0), [], 0⟩) rfl rfl ⟨.refl _, .refl _, trivial⟩ ⟨⟨_, rfl, .refl _⟩, trivial⟩)) ?_
          have hret := Option.some.inj h
          subst hret
          refine AWp.le (Le.mk (s' := ⟨97, (f53z5), (f53z0), [], 0⟩) rfl rfl ⟨.refl _, .refl _, trivial⟩ ⟨⟨_, rfl, .refl _⟩, trivial⟩) ?_
          refine AWp.ret ?_
          refine thenQ_ret ?_
          refine blockQ_ret ?_
          refine joinQ_ret ?_
          refine thenQ_ret ?_
          refine blockQ_ret ?_
          refine joinQ_ret ?_
          exact bodyQ_ret _ rfl ⟨rfl, rfl⟩ rfl
        ·
          replace h := ite_fb hc2 h
          refine AWp.skip ?_
          refine thenQ_normal ?_
          refine q4rq [] [] ⟨97, [(0, q4aS x1), (4, .own 5004), (5, .i (n2 : Int)), (6, .i (0 : Int))], (f53z1 l3), [], 0⟩ trivial ?_
          refine q4rq [] [] ⟨97, [(0, q4aS x1), (4, .own 5004), (5, .i (n2 : Int)), (6, .i (0 : Int)), (7, .i (0 : Int))], (f53z1 l3), [], 0⟩ trivial ?_
          refine AWp.block ?_
          refine AWp.loopL (α := Nat × (Nat × Nat × (List (f53z4)))) (fun x => match x with | (_, n4, n5, l6) => ⟨97, [(0, q4aS x1), (4, .own 5004), (5, .i (n2 : Int)), (6, .i (n4 : Int)), (7, .i (n5 : Int))], (f53z3 l6), [], 0⟩) (fun x => f53_L1 x1 n2 K2 x.1 x.2 = some r) (fun x => x.1) (FUEL, 0, 0, l3) (Le.mk (s' := ⟨97, [(0, q4aS x1), (4, .own 5004), (5, .i (n2 : Int)), (6, .i (0 : Int)), (7, .i (0 : Int))], (f53z1 l3), [], 0⟩) rfl rfl ⟨.refl _, .refl _, .refl _, .refl _, .refl _, trivial⟩ ⟨⟨_, rfl, .refl _⟩, trivial⟩) h ?_
          rintro ⟨k1, n4, n5, l6⟩ h
          cases k1 with
          | zero => exact nomatch (show (none : Option (Int × (List (List UInt8 × List UInt8 × Int)))) = some r from h)
          | succ k1 =>
          obtain ⟨C1, hC1⟩ : ∃ C, C = f53_L1 x1 n2 K2 k1 := ⟨_, rfl⟩
          replace h := (f53_L1.eq_2 ..).symm.trans h
          try rw [← hC1] at h
          refine AWp.seq ?_
          refine AWp.seq ?_
          obtain ⟨ob17p, h⟩ := chk_some h
          have ob17 : 0 ≤ (n2 : Int) ∧ (n2 : Int) < (((x1).length : Nat) : Int) := ⟨by omega, ob17p⟩
          refine q4rr [] [] ⟨97, [(0, q4aS x1), (4, .own 5004), (5, .i (n2 : Int)), (6, .i (n4 : Int)), (7, .i (n5 : Int)), (41, .bool (decide ((n5 : Int) < (((x1.getD n2 []).length : Nat) : Int))))], (f53z3 l6), [], 0⟩ (an1 ob17) ?_
          refine thenQ_normal ?_
          refine AWp.cond (b := (decide ((n5 : Int) < (((x1.getD n2 []).length : Nat) : Int)))) (by kernel_rfl) (fun hc3 => ?_) (fun hc3 => ?_)
          ·
            replace h := ite_tb hc3 h
            refine AWp.skip ?_
            refine thenQ_normal ?_
            obtain ⟨K3, hK3, h⟩ := jn_some h
            refine AWp.join (α := Nat × (List (f53z4))) (fun (x : Nat × (List (f53z4))) => match x with | (n7, l8) => ⟨97, [(0, q4aS x1), (4, .own 5004), (5, .i (n2 : Int)), (6, .i (n7 : Int)), (7, .i (n5 : Int))], [(5004, q4bSSI_76 l8)], [], 0⟩) (fun x => K3 x = some r) ?_ ?_
            ·
              refine AWp.block ?_
              refine AWp.seq ?_
              refine AWp.seq ?_
              obtain ⟨ob18p, h⟩ := chk_some h
              have ob18 : 0 ≤ (n2 : Int) ∧ (n2 : Int) < (((x1).length : Nat) : Int) := ⟨by omega, ob18p⟩
              obtain ⟨ob19p, h⟩ := chk_some h
              have ob19 : 0 ≤ (n5 : Int) ∧ (n5 : Int) < (((x1.getD n2 []).length : Nat) : Int) := ⟨by omega, ob19p⟩
              refine q4rr [] [] ⟨97, [(0, q4aS x1), (4, .own 5004), (5, .i (n2 : Int)), (6, .i (n4 : Int)), (7, .i (n5 : Int)), (50, .bool (((((x1.getD n2 []).getD n5 0).toNat : Nat) : Int) != (10 : Int)))], (f53z3 l6), [], 0⟩ (an2 ob18 ob19) ?_
              refine thenQ_normal ?_
              refine AWp.cond (b := (((((x1.getD n2 []).getD n5 0).toNat : Nat) : Int) != (10 : Int))) (by kernel_rfl) (fun hc4 => ?_) (fun hc4 => ?_)
              ·
                replace h := ite_tb hc4 h
                refine AWp.exit ?_
                refine thenQ_exit ?_
                refine blockQ_same ?_
                exact joinQ_normal (n4, l6) (Le.mk rfl rfl ⟨.refl _, .refl _, .refl _, .refl _, .refl _, trivial⟩ ⟨⟨_, rfl, .refl _⟩, trivial⟩) h
              ·
                replace h := ite_fb hc4 h
                refine AWp.skip ?_
                refine thenQ_normal ?_
                refine AWp.seq ?_
                obtain ⟨r9, hr9, h⟩ := bind_ok h
                obtain ⟨ob20p, h⟩ := chk_some h
                have ob20 : 0 ≤ (n2 : Int) ∧ (n2 : Int) < (((x1).length : Nat) : Int) := ⟨by omega, ob20p⟩
                obtain ⟨ob21p, h⟩ := chk_some h
                have ob21 : 0 ≤ (n4 : Int) ∧ (n4 : Int) ≤ (n5 : Int) ∧ (n5 : Int) ≤ (((x1.getD n2 []).length : Nat) : Int) := ⟨by omega, ob21p.1, ob21p.2⟩
                refine q4rr [] [(7, ⟨[.str (((x1.getD n2 []).take n5).drop n4)], [], [], [(6001, q4bS_9 r9)], .own 6001, [6001], [], []⟩)] ⟨97, [(0, q4aS x1), (4, .own 5004), (5, .i (n2 : Int)), (7, .i (n5 : Int)), (8, .own 6001)], [(5004, q4bSSI_76 l6), (6001, q4bS_9 r9)], [], 0⟩ (an3 ob20 ob21 (cpT (Spec1.ren (swapN 3000 6001) (swapN_inv 3000 6001) rfl (f75_ok _ _ hr9)))) ?_
                refine thenQ_normal ?_
                refine AWp.seq ?_
                refine AWp.seq ?_
                obtain ⟨r10, hr10, h⟩ := optc_some h
                obtain ⟨ob22, h⟩ := chk_some h
                have ob23 := idA ((((lZ r9) != (3 : Int)) == false) = true)
                obtain ⟨ob24, h⟩ := chk_some h
                obtain ⟨ob29, h⟩ := chk_some h
                have ob30 := idA (((((lZ r9) != (3 : Int)) == false) && ((r10 == (0 : Int)) == true)) = true)
                obtain ⟨ob31, h⟩ := chk_some h
                obtain ⟨ob34, h⟩ := chk_some h
                have ob36 := bqA ((lZ r9) != (3 : Int)) false
                refine q4rr [] [(7, ⟨[.str (r9.getD 1 [])], [], [], [], .i r10, [], [], []⟩)] ⟨97, [(0, q4aS x1), (4, .own 5004), (5, .i (n2 : Int)), (7, .i (n5 : Int)), (8, .own 6001), (74, .bool (((lZ r9) != (3 : Int)) || ((r10 == (0 : Int)) && (!((r9.getD 1 []) == ([48] : List UInt8))))))], [(5004, q4bSSI_76 l6), (6001, q4bS_9 r9)], [], 0⟩ (ac6 (And.intro ob22 (an1 ob23)) (And.intro ob24 (an1 ob23)) (And.intro (cpC fun hc => (f92_ok _ _ (hr10 hc))) (an1 ob23)) (an1 ob23) (an1 ob23) (And.intro ob29 (an1 ob30)) (an4 (And.intro ob31 (an1 ob30)) (an1 ob30) (And.intro ob34 (an1 ob23)) ob36)) ?_
                refine thenQ_normal ?_
                refine AWp.cond (b := (((lZ r9) != (3 : Int)) || ((r10 == (0 : Int)) && (!((r9.getD 1 []) == ([48] : List UInt8)))))) (by kernel_rfl) (fun hc5 => ?_) (fun hc5 => ?_)
                ·
                  replace h := ite_tb hc5 h
                  refine q4rq [] [] ⟨97, (f53z7), [], [], 0⟩ trivial ?_
                  refine AWp.le (Le.trans (Le.nilOwn 2 3000 76 3 (encF eSSI q4dSSI []) rfl rfl (Nat.le_of_ble_eq_true rfl)) (Le.mk (s' := ⟨97, (f53z5), (f53z0), [], 0⟩) rfl rfl ⟨.refl _, .refl _, trivial⟩ ⟨⟨_, rfl, .refl _⟩, trivial⟩)) ?_
                  have hret := Option.some.inj h
                  subst hret
                  refine AWp.le (Le.mk (s' := ⟨97, (f53z5), (f53z0), [], 0⟩) rfl rfl ⟨.refl _, .refl _, trivial⟩ ⟨⟨_, rfl, .refl _⟩, trivial⟩) ?_
                  refine AWp.ret ?_
                  refine thenQ_ret ?_
                  refine blockQ_ret ?_
                  refine joinQ_ret ?_
                  refine thenQ_ret ?_
                  refine blockQ_ret ?_
                  refine blockQ_ret ?_
                  refine joinQ_ret ?_
                  refine thenQ_ret ?_
                  refine blockQ_ret ?_
                  refine joinQ_ret ?_
                  exact bodyQ_ret _ rfl ⟨rfl, rfl⟩ rfl
                ·
                  replace h := ite_fb hc5 h
                  refine AWp.skip ?_
                  refine thenQ_normal ?_
                  refine AWp.seq ?_
                  obtain ⟨r11, hr11, h⟩ := bind_ok h
                  obtain ⟨ob37p, h⟩ := chk_some h
                  have ob37 : 0 ≤ (0 : Int) ∧ (0 : Int) < (((r9).length : Nat) : Int) := ⟨by omega, ob37p⟩
                  obtain ⟨ob38, ob39p, h⟩ := ck2 h
                  have ob39 : 0 ≤ (2 : Int) ∧ (2 : Int) < (((r9).length : Nat) : Int) := ⟨by omega, ob39p⟩
                  obtain ⟨ob40, ob41p, h⟩ := ck2 h
                  have ob41 : 0 ≤ (1 : Int) ∧ (1 : Int) < (((r9).length : Nat) : Int) := ⟨by omega, ob41p⟩
                  obtain ⟨ob42, ob43, h⟩ := ck2 h
                  refine q4rr [] [(10, ⟨[.str (r9.getD 1 [])], [], [], [], .i r11, [], [], []⟩)] ⟨97, [(0, q4aS x1), (4, .own 5004), (5, .i (n2 : Int)), (7, .i (n5 : Int))], [(5004, .rows 76 3 ((l6).length + 1) (appF (l6).length (encF eSSI q4dSSI l6) (lstF 3 [.str (r9.getD 0 []), .str (r9.getD 2 []), .i r11])))], [], 0⟩ (ac6 ob37 ob38 ob39 ob40 ob41 ob42 (an2 (cpT (f92_ok _ _ hr11)) ob43)) ?_
                  refine thenQ_normal ?_
                  refine AWp.le (Le.mk (s' := ⟨97, [(0, q4aS x1), (4, .own 5004), (5, .i (n2 : Int)), (7, .i (n5 : Int))], (f53z6 l6 r9 r11), [], 0⟩) rfl rfl ⟨.refl _, .refl _, .refl _, .refl _, trivial⟩ ⟨⟨_, rfl, (BLe.of (RL.app (RL.self _) (RL.lst (enc := eSSI) [((r9.getD 0 []), (r9.getD 2 []), r11)] rfl rfl (fun _ => rfl))))⟩, trivial⟩) ?_
                  obtain ⟨ob44p, h⟩ := chk_some h
                  have ob44 : -9223372036854775808 ≤ ((n5 : Int) + (1 : Int)) ∧ ((n5 : Int) + (1 : Int)) ≤ 9223372036854775807 := ⟨by omega, ob44p⟩
                  refine q4rr [] [] ⟨97, [(0, q4aS x1), (4, .own 5004), (5, .i (n2 : Int)), (6, .i (((n5 + 1) : Nat) : Int)), (7, .i (n5 : Int))], (f53z6 l6 r9 r11), [], 0⟩ (an1 ob44) ?_
                  refine blockQ_normal ?_
                  exact joinQ_normal ((n5 + 1), (l6 ++ [((r9.getD 0 []), (r9.getD 2 []), r11)])) (Le.mk rfl rfl ⟨.refl _, .refl _, .refl _, .refl _, .refl _, trivial⟩ ⟨⟨_, rfl, .refl _⟩, trivial⟩) h
            ·
              rintro ⟨n7, l8⟩ h
              replace h := (congrFun hK3 _).symm.trans h
              obtain ⟨ob45p, h⟩ := chk_some h
              have ob45 : -9223372036854775808 ≤ ((n5 : Int) + (1 : Int)) ∧ ((n5 : Int) + (1 : Int)) ≤ 9223372036854775807 := ⟨by omega, ob45p⟩
              refine q4rr [] [] ⟨97, [(0, q4aS x1), (4, .own 5004), (5, .i (n2 : Int)), (6, .i (n7 : Int)), (7, .i (((n5 + 1) : Nat) : Int))], [(5004, q4bSSI_76 l8)], [], 0⟩ (an1 ob45) ?_
              rw [hC1] at h
              exact loopQ_normal (_, n7, (n5 + 1), l8) (Le.mk rfl rfl ⟨.refl _, .refl _, .refl _, .refl _, .refl _, trivial⟩ ⟨⟨_, rfl, .refl _⟩, trivial⟩) h (Nat.lt_succ_self _)
          ·
            replace h := ite_fb hc3 h
            refine AWp.exit ?_
            refine thenQ_exit ?_
            refine thenQ_exit ?_
            refine blockQ_same ?_
            refine blockQ_normal ?_
            exact joinQ_normal (l6) (Le.mk rfl rfl ⟨.refl _, .refl _, .refl _, trivial⟩ ⟨⟨_, rfl, .refl _⟩, trivial⟩) h
      ·
        rintro l12 h
        replace h := (congrFun hK2 _).symm.trans h
        obtain ⟨ob46p, h⟩ := chk_some h
        have ob46 : -9223372036854775808 ≤ ((n2 : Int) + (1 : Int)) ∧ ((n2 : Int) + (1 : Int)) ≤ 9223372036854775807 := ⟨by omega, ob46p⟩
        refine q4rr [] [] ⟨97, [(0, q4aS x1), (4, .own 5004), (5, .i (((n2 + 1) : Nat) : Int))], [(5004, q4bSSI_76 l12)], [], 0⟩ (an1 ob46) ?_
        rw [hC0] at h
        exact loopQ_normal (_, (n2 + 1), l12) (Le.mk rfl rfl ⟨.refl _, .refl _, .refl _, trivial⟩ ⟨⟨_, rfl, .refl _⟩, trivial⟩) h (Nat.lt_succ_self _)
    ·
      replace h := ite_fb hc1 h
      refine AWp.exit ?_
      refine thenQ_exit ?_
      refine thenQ_exit ?_
      refine blockQ_same ?_
      exact joinQ_normal (l3) (Le.mk rfl rfl ⟨.refl _, trivial⟩ ⟨⟨_, rfl, .refl _⟩, trivial⟩) h
  ·
    rintro l13 h
    replace h := (congrFun hK1 _).symm.trans h
    refine AWp.seq ?_
    refine AWp.seq ?_
    obtain ⟨r14, hr14, h⟩ := bind_ok h
    refine q4rr [] [(1, ⟨[q4aSSI l13], [], [], [], .i r14, [], [5004], []⟩)] ⟨97, [(4, .own 5004), (9, .i r14)], (f53z2 l13), [], 0⟩ (an1 (cpL (c := true) (f53z2 l13) [5004] [.own 5004] (fun _ => (f93_ok _ _ hr14)) (fun _ => ⟨.refl _, trivial⟩) (.inr ⟨rfl, trivial⟩))) ?_
    refine thenQ_normal ?_
    refine q4rq [] [] ⟨97, [(4, .own 5004), (9, .i r14), (94, .bool (r14 != (0 : Int)))], (f53z2 l13), [], 0⟩ trivial ?_
    refine AWp.cond (b := (r14 != (0 : Int))) (by kernel_rfl) (fun hc6 => ?_) (fun hc6 => ?_)
    ·
      replace h := ite_tb hc6 h
      refine q4rq [] [] ⟨97, [(2, .nils), (3, .i r14)], [], [], 0⟩ trivial ?_
      refine AWp.le (Le.trans (Le.nilOwn 2 3000 76 3 (encF eSSI q4dSSI []) rfl rfl (Nat.le_of_ble_eq_true rfl)) (Le.mk (s' := ⟨97, [(2, .own 3000), (3, .i r14)], (f53z0), [], 0⟩) rfl rfl ⟨.refl _, .refl _, trivial⟩ ⟨⟨_, rfl, .refl _⟩, trivial⟩)) ?_
      have hret := Option.some.inj h
      subst hret
      refine AWp.le (Le.mk (s' := ⟨97, [(2, .own 3000), (3, .i r14)], (f53z0), [], 0⟩) rfl rfl ⟨.refl _, .refl _, trivial⟩ ⟨⟨_, rfl, .refl _⟩, trivial⟩) ?_
      refine AWp.ret ?_
      refine thenQ_ret ?_
      exact bodyQ_ret _ rfl ⟨rfl, rfl⟩ rfl
    ·
      replace h := ite_fb hc6 h
      refine AWp.skip ?_
      refine thenQ_normal ?_
      refine q4rq [] [] ⟨97, [(2, .own 5004), (3, .i (0 : Int))], (f53z2 l13), [], 0⟩ trivial ?_
      refine AWp.le (Le.trans (Le.ren (swapN 5004 3000) (swapN_inv 5004 3000) rfl) (Le.mk (s' := ⟨97, [(2, .own 3000), (3, .i (0 : Int))], [(3000, q4bSSI_76 l13)], [], 0⟩) rfl rfl ⟨.refl _, .refl _, trivial⟩ ⟨⟨_, rfl, .refl _⟩, trivial⟩)) ?_
      have hret := Option.some.inj h
      subst hret
      refine AWp.le (Le.mk (s' := ⟨97, [(2, .own 3000), (3, .i (0 : Int))], [(3000, q4bSSI_76 l13)], [], 0⟩) rfl rfl ⟨.refl _, .refl _, trivial⟩ ⟨⟨_, rfl, .refl _⟩, trivial⟩) ?_
      refine AWp.ret ?_
      exact bodyQ_ret _ rfl ⟨rfl, rfl⟩ rfl
abbrev f94z0 (x1 : Int) := ((decide (x1 ≥ (0 : Int))) && (decide (x1 < (6 : Int))))
abbrev f94z1 (x1 : Int) (x2 : Int) := ((f94z0 x1) && (decide (x2 ≥ (1 : Int))))
def f94 (x1 : Int) (x2 : Int) : Option Bool :=
  some ((((decide (x1 ≥ (0 : Int))) && (decide (x1 < (6 : Int)))) && (decide (x2 ≥ (1 : Int)))) && (decide (x2 ≤ (1000000 : Int))))
set_option maxRecDepth 100000 in
theorem f94_ok  (x1 : Int) (x2 : Int) (r : Bool) (h : f94 x1 x2 = some r)  : Spec1 Tryz.prog 94 [] [] [] [.int .i64 x1, .int .i64 x2] (.bool r) [] := by
  unfold f94 at h
  refine Spec1.body 0 _ _ Tryz.func94 rfl Tryz.ntmps94 rfl rfl ?_
  refine q4rq [] [] ⟨19, [(0, .i x1), (1, .i x2)], [], [], 0⟩ trivial ?_
  refine AWp.seq ?_
  have ob0 := idA (((decide (x1 ≥ (0 : Int))) == true) = true)
  have ob1 := bqA (decide (x1 ≥ (0 : Int))) true
  have ob2 := idA (((f94z0 x1) == true) = true)
  have ob3 := bqA (f94z0 x1) true
  have ob4 := idA (((f94z1 x1 x2) == true) = true)
  have ob5 := bqA (f94z1 x1 x2) true
  refine q4rr [] [] ⟨19, [(4, .bool ((f94z1 x1 x2) && (decide (x2 ≤ (1000000 : Int)))))], [], [], 0⟩ (an6 (an1 ob0) ob1 (an1 ob2) ob3 (an1 ob4) ob5) ?_
  refine thenQ_normal ?_
  have hret := Option.some.inj h
  subst hret
  refine AWp.ret ?_
  exact bodyQ_ret _ rfl ⟨rfl, rfl⟩ rfl
def f54_L0 (x2 : List (Int × Int × List UInt8)) (K1 : Unit → Option Bool) : Nat → Nat → Option Bool
  | 0, _ => none
  | k + 1, n3 =>
    if (decide ((n3 : Int) < (((x2).length : Nat) : Int))) then (
    chk ((n3 : Int) < (((x2).length : Nat) : Int)) <|
    (f94 ((x2.getD n3 (default : Int × Int × List UInt8)).1) ((x2.getD n3 (default : Int × Int × List UInt8)).2.1)).bind fun (r4 : Bool) =>
    chk (((((!r4) || (decide (((((x2.getD n3 (default : Int × Int × List UInt8)).2.2).length : Nat) : Int) > (400 : Int)))) == false) && ((decide ((n3 : Int) > (0 : Int))) == true)) = true → -9223372036854775808 ≤ ((n3 : Int) - (1 : Int)) ∧ ((n3 : Int) - (1 : Int)) ≤ 9223372036854775807) <|
    chk (((((!r4) || (decide (((((x2.getD n3 (default : Int × Int × List UInt8)).2.2).length : Nat) : Int) > (400 : Int)))) == false) && ((decide ((n3 : Int) > (0 : Int))) == true)) = true → 0 ≤ ((n3 : Int) - (1 : Int)) ∧ ((n3 : Int) - (1 : Int)) < (((x2).length : Nat) : Int)) <|
    chk ((((!r4) || (decide (((((x2.getD n3 (default : Int × Int × List UInt8)).2.2).length : Nat) : Int) > (400 : Int)))) == false) = true → (((!r4) || (decide (((((x2.getD n3 (default : Int × Int × List UInt8)).2.2).length : Nat) : Int) > (400 : Int)))) == false) = true → (decide ((n3 : Int) > (0 : Int))) = true → ((((!r4) || (decide (((((x2.getD n3 (default : Int × Int × List UInt8)).2.2).length : Nat) : Int) > (400 : Int)))) == false) && ((decide ((n3 : Int) > (0 : Int))) == true)) = true) <|
    if (((!r4) || (decide (((((x2.getD n3 (default : Int × Int × List UInt8)).2.2).length : Nat) : Int) > (400 : Int)))) || ((decide ((n3 : Int) > (0 : Int))) && (decide ((x2.getD ((((n3 : Int) - (1 : Int))).toNat) (default : Int × Int × List UInt8)).1 ≥ (x2.getD n3 (default : Int × Int × List UInt8)).1)))) then (
    some false
    ) else (
    chk (((n3 : Int) + (1 : Int)) ≤ 9223372036854775807) <|
    (f54_L0 x2 K1 k) (n3 + 1)
    )
    ) else (
    K1 ()
    )
theorem f54_L0_e2 (x2 : List (Int × Int × List UInt8)) (K1 : Unit → Option Bool) (k : Nat) (n3 : Nat) : f54_L0 x2 K1 (k + 1) n3 =
    if (decide ((n3 : Int) < (((x2).length : Nat) : Int))) then (
    chk ((n3 : Int) < (((x2).length : Nat) : Int)) <|
    (f94 ((x2.getD n3 (default : Int × Int × List UInt8)).1) ((x2.getD n3 (default : Int × Int × List UInt8)).2.1)).bind fun (r4 : Bool) =>
    chk (((((!r4) || (decide (((((x2.getD n3 (default : Int × Int × List UInt8)).2.2).length : Nat) : Int) > (400 : Int)))) == false) && ((decide ((n3 : Int) > (0 : Int))) == true)) = true → -9223372036854775808 ≤ ((n3 : Int) - (1 : Int)) ∧ ((n3 : Int) - (1 : Int)) ≤ 9223372036854775807) <|
    chk (((((!r4) || (decide (((((x2.getD n3 (default : Int × Int × List UInt8)).2.2).length : Nat) : Int) > (400 : Int)))) == false) && ((decide ((n3 : Int) > (0 : Int))) == true)) = true → 0 ≤ ((n3 : Int) - (1 : Int)) ∧ ((n3 : Int) - (1 : Int)) < (((x2).length : Nat) : Int)) <|
    chk ((((!r4) || (decide (((((x2.getD n3 (default : Int × Int × List UInt8)).2.2).length : Nat) : Int) > (400 : Int)))) == false) = true → (((!r4) || (decide (((((x2.getD n3 (default : Int × Int × List UInt8)).2.2).length : Nat) : Int) > (400 : Int)))) == false) = true → (decide ((n3 : Int) > (0 : Int))) = true → ((((!r4) || (decide (((((x2.getD n3 (default : Int × Int × List UInt8)).2.2).length : Nat) : Int) > (400 : Int)))) == false) && ((decide ((n3 : Int) > (0 : Int))) == true)) = true) <|
    if (((!r4) || (decide (((((x2.getD n3 (default : Int × Int × List UInt8)).2.2).length : Nat) : Int) > (400 : Int)))) || ((decide ((n3 : Int) > (0 : Int))) && (decide ((x2.getD ((((n3 : Int) - (1 : Int))).toNat) (default : Int × Int × List UInt8)).1 ≥ (x2.getD n3 (default : Int × Int × List UInt8)).1)))) then (
    some false
    ) else (
    chk (((n3 : Int) + (1 : Int)) ≤ 9223372036854775807) <|
    (f54_L0 x2 K1 k) (n3 + 1)
    )
    ) else (
    K1 ()
    ) := rfl
abbrev f54z0 (x2 : List (Int × Int × List UInt8)) (n3 : Nat) := (x2.getD n3 (default : Int × Int × List UInt8))
abbrev f54z1 (x1 : List (List UInt8 × List UInt8 × Int)) (x2 : List (Int × Int × List UInt8)) : Heap := [(1, .cells 30 [vL 3 eSSI (default : List UInt8 × List UInt8 × Int) x1, vL 3 eIIS (default : Int × Int × List UInt8) x2])]
abbrev f54z2 (n3 : Nat) := ((decide ((n3 : Int) > (0 : Int))) == true)
def f54 (x1 : List (List UInt8 × List UInt8 × Int)) (x2 : List (Int × Int × List UInt8)) : Option Bool :=
  jn (fun (_ : Unit) =>
  (f93 x1).bind fun (r5 : Int) =>
  some (r5 == (0 : Int))
  ) fun (K1 : Unit → Option Bool) =>
  f54_L0 x2 K1 FUEL 0
set_option maxRecDepth 100000 in
theorem f54_ok  (x1 : List (List UInt8 × List UInt8 × Int)) (x2 : List (Int × Int × List UInt8)) (r : Bool) (h : f54 x1 x2 = some r)  : Spec1 Tryz.prog 54 [] [] [] [.agg [vL 3 eSSI (default : List UInt8 × List UInt8 × Int) x1, vL 3 eIIS (default : Int × Int × List UInt8) x2]] (.bool r) [] := by
  unfold f54 at h
  refine Spec1.body 0 _ _ Tryz.func54 rfl Tryz.ntmps54 rfl rfl ?_
  refine q4rq [] [] ⟨49, [(1, .ptr 1 0)], (f54z1 x1 x2), [], 0⟩ trivial ?_
  obtain ⟨K1, hK1, h⟩ := jn_some h
  refine AWp.join (α := Unit) (fun (x : Unit) => match x with | () => ⟨49, [(1, .ptr 1 0)], (f54z1 x1 x2), [], 0⟩) (fun x => K1 x = some r) ?_ ?_
  ·
    refine q4rq [] [] ⟨49, [(1, .ptr 1 0), (3, .i (0 : Int))], (f54z1 x1 x2), [], 0⟩ trivial ?_
    refine AWp.block ?_
    refine AWp.loopL (α := Nat × Nat) (fun x => match x with | (_, n3) => ⟨49, [(1, .ptr 1 0), (3, .i (n3 : Int))], (f54z1 x1 x2), [], 0⟩) (fun x => f54_L0 x2 K1 x.1 x.2 = some r) (fun x => x.1) (FUEL, 0) (Le.mk (s' := ⟨49, [(1, .ptr 1 0), (3, .i (0 : Int))], (f54z1 x1 x2), [], 0⟩) rfl rfl ⟨.refl _, .refl _, trivial⟩ ⟨⟨_, rfl, .refl _⟩, trivial⟩) h ?_
    rintro ⟨k0, n3⟩ h
    cases k0 with
    | zero => exact nomatch (show (none : Option Bool) = some r from h)
    | succ k0 =>
    obtain ⟨C0, hC0⟩ : ∃ C, C = f54_L0 x2 K1 k0 := ⟨_, rfl⟩
    replace h := (f54_L0_e2 ..).symm.trans h
    try rw [← hC0] at h
    refine AWp.seq ?_
    refine q4rq [] [] ⟨49, [(1, .ptr 1 0), (3, .i (n3 : Int)), (9, .bool (decide ((n3 : Int) < (lZ x2))))], (f54z1 x1 x2), [], 0⟩ trivial ?_
    refine AWp.cond (b := (decide ((n3 : Int) < (lZ x2)))) (by kernel_rfl) (fun hc1 => ?_) (fun hc1 => ?_)
    ·
      replace h := ite_tb hc1 h
      refine AWp.skip ?_
      refine thenQ_normal ?_
      refine AWp.seq ?_
      refine AWp.block ?_
      refine AWp.seq ?_
      obtain ⟨ob0p, h⟩ := chk_some h
      have ob0 : 0 ≤ (n3 : Int) ∧ (n3 : Int) < (((x2).length : Nat) : Int) := ⟨by omega, ob0p⟩
      refine q4rr [] [] ⟨49, [(1, .ptr 1 0), (3, .i (n3 : Int)), (4, .ptr 4 0)], [(1, .cells 30 [q4aSSI x1, q4aIIS x2]), (4, .cells 45 [.i (f54z0 x2 n3).1, .i (f54z0 x2 n3).2.1, .str (f54z0 x2 n3).2.2])], [], 0⟩ (an2 ob0 trivial) ?_
      refine thenQ_normal ?_
      refine AWp.seq ?_
      obtain ⟨r4, hr4, h⟩ := bind_ok h
      have ob1 := idA (((!r4) == false) = true)
      have ob4 := bqA (!r4) false
      have ob5 := idA ((((!r4) || (decide (((((f54z0 x2 n3).2.2).length : Nat) : Int) > (400 : Int)))) == false) = true)
      have ob7 := idA (((((!r4) || (decide (((((f54z0 x2 n3).2.2).length : Nat) : Int) > (400 : Int)))) == false) && (f54z2 n3)) = true)
      obtain ⟨ob8, h⟩ := chk_some h
      obtain ⟨ob10, h⟩ := chk_some h
      obtain ⟨ob18, h⟩ := chk_some h
      have ob20 := bqA ((!r4) || (decide (((((f54z0 x2 n3).2.2).length : Nat) : Int) > (400 : Int)))) false
      refine q4rr [] [(4, ⟨[.i (f54z0 x2 n3).1, .i (f54z0 x2 n3).2.1], [], [], [], .bool r4, [], [], []⟩)] ⟨49, [(1, .ptr 1 0), (3, .i (n3 : Int)), (44, .bool (((!r4) || (decide (((((f54z0 x2 n3).2.2).length : Nat) : Int) > (400 : Int)))) || ((decide ((n3 : Int) > (0 : Int))) && (decide ((x2.getD ((((n3 : Int) - (1 : Int))).toNat) q4dIIS).1 ≥ (f54z0 x2 n3).1)))))], (f54z1 x1 x2), [], 0⟩ (ac6 (cpT (f94_ok _ _ _ hr4)) (an1 ob1) (an1 ob1) (an1 ob1) ob4 (an1 ob5) (ac6 (an1 ob5) (an1 ob7) (And.intro ob8 (an1 ob7)) (And.intro ob10 (an2 ob7 ob7)) (an1 ob7) (an1 ob7) (an4 (an1 ob7) (an2 ob7 ob7) (And.intro ob18 (an1 ob5)) ob20))) ?_
      refine thenQ_normal ?_
      refine AWp.cond (b := (((!r4) || (decide (((((f54z0 x2 n3).2.2).length : Nat) : Int) > (400 : Int)))) || ((decide ((n3 : Int) > (0 : Int))) && (decide ((x2.getD ((((n3 : Int) - (1 : Int))).toNat) q4dIIS).1 ≥ (f54z0 x2 n3).1))))) (by kernel_rfl) (fun hc2 => ?_) (fun hc2 => ?_)
      ·
        replace h := ite_tb hc2 h
        refine q4rq [] [] ⟨49, [(2, .bool false)], [], [], 0⟩ trivial ?_
        have hret := Option.some.inj h
        subst hret
        refine AWp.ret ?_
        refine blockQ_ret ?_
        refine thenQ_ret ?_
        refine thenQ_ret ?_
        refine blockQ_ret ?_
        refine joinQ_ret ?_
        exact bodyQ_ret _ rfl ⟨rfl, rfl⟩ rfl
      ·
        replace h := ite_fb hc2 h
        refine AWp.skip ?_
        refine blockQ_normal ?_
        refine thenQ_normal ?_
        obtain ⟨ob21p, h⟩ := chk_some h
        have ob21 : -9223372036854775808 ≤ ((n3 : Int) + (1 : Int)) ∧ ((n3 : Int) + (1 : Int)) ≤ 9223372036854775807 := ⟨by omega, ob21p⟩
        refine q4rr [] [] ⟨49, [(1, .ptr 1 0), (3, .i (((n3 + 1) : Nat) : Int))], (f54z1 x1 x2), [], 0⟩ (an1 ob21) ?_
        rw [hC0] at h
        exact loopQ_normal (_, (n3 + 1)) (Le.mk rfl rfl ⟨.refl _, .refl _, trivial⟩ ⟨⟨_, rfl, .refl _⟩, trivial⟩) h (Nat.lt_succ_self _)
    ·
      replace h := ite_fb hc1 h
      refine AWp.exit ?_
      refine thenQ_exit ?_
      refine thenQ_exit ?_
      refine blockQ_same ?_
      exact joinQ_normal () (Le.mk rfl rfl ⟨.refl _, trivial⟩ ⟨⟨_, rfl, .refl _⟩, trivial⟩) h
  ·
    rintro ⟨⟩ h
    replace h := (congrFun hK1 _).symm.trans h
    refine AWp.seq ?_
    obtain ⟨r5, hr5, h⟩ := bind_ok h
    refine q4rr [] [(2, ⟨[q4aSSI x1], [], [], [], .i r5, [], [], []⟩)] ⟨49, [(2, .bool (r5 == (0 : Int)))], [], [], 0⟩ (an1 (cpT (f93_ok _ _ hr5))) ?_
    refine thenQ_normal ?_
    have hret := Option.some.inj h
    subst hret
    refine AWp.ret ?_
    exact bodyQ_ret _ rfl ⟨rfl, rfl⟩ rfl
def f127 (x1 : List UInt8) (x2 : List UInt8) (x3 : Int) : Option (List UInt8) :=
  (f79 FUEL x3).bind fun (r4 : List UInt8) =>
  chk (x1.length + ([32] : List UInt8).length ≤ 9223372036854775807) <|
  chk ((x1 ++ ([32] : List UInt8)).length + r4.length ≤ 9223372036854775807) <|
  chk (((x1 ++ ([32] : List UInt8)) ++ r4).length + ([32] : List UInt8).length ≤ 9223372036854775807) <|
  chk ((((x1 ++ ([32] : List UInt8)) ++ r4) ++ ([32] : List UInt8)).length + x2.length ≤ 9223372036854775807) <|
  chk (((((x1 ++ ([32] : List UInt8)) ++ r4) ++ ([32] : List UInt8)) ++ x2).length + ([10] : List UInt8).length ≤ 9223372036854775807) <|
  some (((((x1 ++ ([32] : List UInt8)) ++ r4) ++ ([32] : List UInt8)) ++ x2) ++ ([10] : List UInt8))
set_option maxRecDepth 100000 in
theorem f127_ok  (x1 : List UInt8) (x2 : List UInt8) (x3 : Int) (r : List UInt8) (h : f127 x1 x2 x3 = some r)  : Spec1 Tryz.prog 127 [] [] [] [.agg [.str x1, .str x2, .int .i64 x3]] (.str r) [] := by
  unfold f127 at h
  refine Spec1.body 0 _ _ Tryz.func127 rfl Tryz.ntmps127 rfl rfl ?_
  refine q4rq [] [] ⟨15, [(1, .ptr 1 0)], [(1, .cells 76 [.str x1, .str x2, .i x3])], [], 0⟩ trivial ?_
  refine AWp.seq ?_
  obtain ⟨r4, hr4, h⟩ := bind_ok h
  obtain ⟨ob0, ob1, ob2, ob3, ob4, h⟩ := ck5 h
  refine q4rr [] [(5, ⟨[.i x3], [], [], [], .str r4, [], [], []⟩)] ⟨15, [(2, .str (((((x1 ++ ([32] : List UInt8)) ++ r4) ++ ([32] : List UInt8)) ++ x2) ++ ([10] : List UInt8)))], [], [], 0⟩ (an6 ob0 (cpT (f79_ok FUEL _ _ hr4)) ob1 ob2 ob3 ob4) ?_
  refine thenQ_normal ?_
  have hret := Option.some.inj h
  subst hret
  refine AWp.ret ?_
  exact bodyQ_ret _ rfl ⟨rfl, rfl⟩ rfl
def f95_L0 (x1 : List (List UInt8 × List UInt8 × Int)) (x2 : Int) (K1 : (List (List UInt8)) → Option (Int × List (List UInt8))) : Nat → (Nat × List (List UInt8)) → Option (Int × List (List UInt8))
  | 0, _ => none
  | k + 1, (n4, l5) =>
    if (decide ((n4 : Int) < (((x1).length : Nat) : Int))) then (
    jn (fun (l6 : List (List UInt8)) =>
    (f127 ((x1.getD n4 (default : List UInt8 × List UInt8 × Int)).1) ((x1.getD n4 (default : List UInt8 × List UInt8 × Int)).2.1) ((x1.getD n4 (default : List UInt8 × List UInt8 × Int)).2.2)).bind fun (r7 : List UInt8) =>
    chk (-9223372036854775808 ≤ ((((l6).length : Nat) : Int) - (1 : Int)) ∧ ((((l6).length : Nat) : Int) - (1 : Int)) ≤ 9223372036854775807) <|
    chk (-9223372036854775808 ≤ ((((l6).length : Nat) : Int) - (1 : Int)) ∧ ((((l6).length : Nat) : Int) - (1 : Int)) ≤ 9223372036854775807) <|
    chk (0 ≤ ((((l6).length : Nat) : Int) - (1 : Int)) ∧ ((((l6).length : Nat) : Int) - (1 : Int)) < (((l6).length : Nat) : Int)) <|
    chk (((((((l6).length : Nat) : Int) - (1 : Int))).toNat) < (l6).length) <|
    chk ((n4 : Int) < (((x1).length : Nat) : Int)) <|
    chk ((l6.getD ((((((l6).length : Nat) : Int) - (1 : Int))).toNat) []).length + r7.length ≤ 9223372036854775807) <|
    chk (0 ≤ ((((l6).length : Nat) : Int) - (1 : Int)) ∧ ((((l6).length : Nat) : Int) - (1 : Int)) < (((l6).length : Nat) : Int)) <|
    chk (((((((l6).length : Nat) : Int) - (1 : Int))).toNat) < (l6).length) <|
    chk (((n4 : Int) + (1 : Int)) ≤ 9223372036854775807) <|
    (f95_L0 x1 x2 K1 k) ((n4 + 1), (l6.set ((((((l6).length : Nat) : Int) - (1 : Int))).toNat) ((l6.getD ((((((l6).length : Nat) : Int) - (1 : Int))).toNat) []) ++ r7)))
    ) fun (K2 : (List (List UInt8)) → Option (Int × List (List UInt8))) =>
    chk (1 ≤ x2) <|
    if (((n4 : Int) % x2) == (0 : Int)) then (
    chk (((l5).length + 1) * 16 ≤ 140737488355328) <|
    K2 (l5 ++ [[]])
    ) else (
    K2 l5
    )
    ) else (
    K1 l5
    )
abbrev f95z0 (x1 : List (List UInt8 × List UInt8 × Int)) (x2 : Int) (n4 : Nat) : List (Nat × V) := [(0, vL 3 eSSI (default : List UInt8 × List UInt8 × Int) x1), (1, .int .i64 x2), (7, .own 32), (8, .int .i64 (n4 : Int))]
abbrev f95z1 (x1 : List (List UInt8 × List UInt8 × Int)) (x2 : Int) (n4 : Nat) : List (Nat × V) := [(0, vL 3 eSSI (default : List UInt8 × List UInt8 × Int) x1), (1, .int .i64 x2), (7, .own 5007), (8, .int .i64 (n4 : Int))]
abbrev f95z2 (l6 : List (List UInt8)) (r7 : List UInt8) : Heap := [(32, bL 9 1 eS [] (l6.set ((((((l6).length : Nat) : Int) - (1 : Int))).toNat) ((l6.getD ((((((l6).length : Nat) : Int) - (1 : Int))).toNat) []) ++ r7)))]
def f95 (x1 : List (List UInt8 × List UInt8 × Int)) (x2 : Int) : Option (Int × List (List UInt8)) :=
  (f93 x1).bind fun (r3 : Int) =>
  if (r3 != (0 : Int)) then (
  some (r3, [])
  ) else (
  if ((decide (x2 < (1 : Int))) || (decide (x2 > (64 : Int)))) then (
  some ((7 : Int), [])
  ) else (
  jn (fun (l8 : List (List UInt8)) =>
  some ((0 : Int), l8)
  ) fun (K1 : (List (List UInt8)) → Option (Int × List (List UInt8))) =>
  f95_L0 x1 x2 K1 FUEL (0, [])
  )
  )
set_option maxRecDepth 100000 in
theorem f95_ok  (x1 : List (List UInt8 × List UInt8 × Int)) (x2 : Int) (r : Int × List (List UInt8)) (h : f95 x1 x2 = some r)  : Spec1 Tryz.prog 95 [] [] [] [vL 3 eSSI (default : List UInt8 × List UInt8 × Int) x1, .int .i64 x2] (.tup [.own 3000, .int .i64 r.1]) [(3000, bL 9 1 eS [] r.2)] := by
  unfold f95 at h
  refine Spec1.body 0 _ _ Tryz.func95 rfl Tryz.ntmps95 rfl rfl ?_
  refine q4rq [] [] ⟨51, [(0, q4aSSI x1), (1, .i x2)], [], [], 0⟩ trivial ?_
  refine AWp.seq ?_
  refine AWp.seq ?_
  obtain ⟨r3, hr3, h⟩ := bind_ok h
  refine q4rr [] [(1, ⟨[q4aSSI x1], [], [], [], .i r3, [], [], []⟩)] ⟨51, [(0, q4aSSI x1), (1, .i x2), (6, .i r3)], [], [], 0⟩ (an1 (cpT (f93_ok _ _ hr3))) ?_
  refine thenQ_normal ?_
  refine q4rq [] [] ⟨51, [(0, q4aSSI x1), (1, .i x2), (6, .i r3), (12, .bool (r3 != (0 : Int)))], [], [], 0⟩ trivial ?_
  refine AWp.cond (b := (r3 != (0 : Int))) (by kernel_rfl) (fun hc1 => ?_) (fun hc1 => ?_)
  ·
    replace h := ite_tb hc1 h
    refine q4rq [] [] ⟨51, [(4, .nils), (5, .i r3)], [], [], 0⟩ trivial ?_
    refine AWp.le (Le.trans (Le.nilOwn 4 3000 9 1 (encF eS [] []) rfl rfl (Nat.le_of_ble_eq_true rfl)) (Le.mk (s' := ⟨51, [(4, .own 3000), (5, .i r3)], [(3000, q4bS_9 [])], [], 0⟩) rfl rfl ⟨.refl _, .refl _, trivial⟩ ⟨⟨_, rfl, .refl _⟩, trivial⟩)) ?_
    have hret := Option.some.inj h
    subst hret
    refine AWp.le (Le.mk (s' := ⟨51, [(4, .own 3000), (5, .i r3)], [(3000, q4bS_9 [])], [], 0⟩) rfl rfl ⟨.refl _, .refl _, trivial⟩ ⟨⟨_, rfl, .refl _⟩, trivial⟩) ?_
    refine AWp.ret ?_
    refine thenQ_ret ?_
    exact bodyQ_ret _ rfl ⟨rfl, rfl⟩ rfl
  ·
    replace h := ite_fb hc1 h
    refine AWp.skip ?_
    refine thenQ_normal ?_
    refine AWp.seq ?_
    refine AWp.seq ?_
    have ob0 := idA (((decide (x2 < (1 : Int))) == false) = true)
    have ob1 := bqA (decide (x2 < (1 : Int))) false
    refine q4rr [] [] ⟨51, [(0, q4aSSI x1), (1, .i x2), (19, .bool ((decide (x2 < (1 : Int))) || (decide (x2 > (64 : Int)))))], [], [], 0⟩ (an2 (an1 ob0) ob1) ?_
    refine thenQ_normal ?_
    refine AWp.cond (b := ((decide (x2 < (1 : Int))) || (decide (x2 > (64 : Int))))) (by kernel_rfl) (fun hc2 => ?_) (fun hc2 => ?_)
    ·
      replace h := ite_tb hc2 h
      refine q4rq [] [] ⟨51, [(4, .nils), (5, .i (7 : Int))], [], [], 0⟩ trivial ?_
      refine AWp.le (Le.trans (Le.nilOwn 4 3000 9 1 (encF eS [] []) rfl rfl (Nat.le_of_ble_eq_true rfl)) (Le.mk (s' := ⟨51, [(4, .own 3000), (5, .i (7 : Int))], [(3000, q4bS_9 [])], [], 0⟩) rfl rfl ⟨.refl _, .refl _, trivial⟩ ⟨⟨_, rfl, .refl _⟩, trivial⟩)) ?_
      have hret := Option.some.inj h
      subst hret
      refine AWp.le (Le.mk (s' := ⟨51, [(4, .own 3000), (5, .i (7 : Int))], [(3000, q4bS_9 [])], [], 0⟩) rfl rfl ⟨.refl _, .refl _, trivial⟩ ⟨⟨_, rfl, .refl _⟩, trivial⟩) ?_
      refine AWp.ret ?_
      refine thenQ_ret ?_
      exact bodyQ_ret _ rfl ⟨rfl, rfl⟩ rfl
    ·
      replace h := ite_fb hc2 h
      refine AWp.skip ?_
      refine thenQ_normal ?_
      refine q4rq [] [] ⟨51, [(0, q4aSSI x1), (1, .i x2), (7, .nils)], [], [], 0⟩ trivial ?_
      obtain ⟨K1, hK1, h⟩ := jn_some h
      refine AWp.join (α := List (List UInt8)) (fun (l8 : List (List UInt8)) => ⟨51, [(7, .own 5007)], [(5007, q4bS_9 l8)], [], 0⟩) (fun x => K1 x = some r) ?_ ?_
      ·
        refine q4rq [] [] ⟨51, [(0, q4aSSI x1), (1, .i x2), (7, .nils), (8, .i (0 : Int))], [], [], 0⟩ trivial ?_
        refine AWp.block ?_
        refine AWp.loopL (α := Nat × (Nat × List (List UInt8))) (fun x => match x with | (_, n4, l5) => ⟨51, (f95z1 x1 x2 n4), [(5007, q4bS_9 l5)], [], 0⟩) (fun x => f95_L0 x1 x2 K1 x.1 x.2 = some r) (fun x => x.1) (FUEL, 0, []) (Le.trans (Le.trans (Le.nilOwn 7 5007 9 1 (encF eS [] []) rfl rfl (Nat.le_of_ble_eq_true rfl)) (Le.mk (s' := ⟨51, [(0, q4aSSI x1), (1, .i x2), (7, .own 5007), (8, .i (0 : Int))], [(5007, q4bS_9 [])], [], 0⟩) rfl rfl ⟨.refl _, .refl _, .refl _, .refl _, trivial⟩ ⟨⟨_, rfl, .refl _⟩, trivial⟩)) (Le.mk (s' := ⟨51, [(0, q4aSSI x1), (1, .i x2), (7, .own 5007), (8, .i (0 : Int))], [(5007, q4bS_9 [])], [], 0⟩) rfl rfl ⟨.refl _, .refl _, .refl _, .refl _, trivial⟩ ⟨⟨_, rfl, .refl _⟩, trivial⟩)) h ?_
        rintro ⟨k0, n4, l5⟩ h
        cases k0 with
        | zero => exact nomatch (show (none : Option (Int × List (List UInt8))) = some r from h)
        | succ k0 =>
        obtain ⟨C0, hC0⟩ : ∃ C, C = f95_L0 x1 x2 K1 k0 := ⟨_, rfl⟩
        replace h := (f95_L0.eq_2 ..).symm.trans h
        try rw [← hC0] at h
        refine AWp.seq ?_
        refine q4rq [] [] ⟨51, [(0, q4aSSI x1), (1, .i x2), (7, .own 5007), (8, .i (n4 : Int)), (23, .bool (decide ((n4 : Int) < (lZ x1))))], [(5007, q4bS_9 l5)], [], 0⟩ trivial ?_
        refine AWp.cond (b := (decide ((n4 : Int) < (lZ x1)))) (by kernel_rfl) (fun hc3 => ?_) (fun hc3 => ?_)
        ·
          replace h := ite_tb hc3 h
          refine AWp.skip ?_
          refine thenQ_normal ?_
          refine AWp.seq ?_
          refine AWp.block ?_
          obtain ⟨K2, hK2, h⟩ := jn_some h
          refine AWp.join (α := List (List UInt8)) (fun (l6 : List (List UInt8)) => ⟨51, (f95z0 x1 x2 n4), [(32, q4bS_9 l6)], [], 0⟩) (fun x => K2 x = some r) ?_ ?_
          ·
            refine AWp.seq ?_
            obtain ⟨ob2p, h⟩ := chk_some h
            have ob2 : 0 ≤ (n4 : Int) ∧ 1 ≤ x2 := ⟨by omega, ob2p⟩
            refine q4rr [] [] ⟨51, [(0, q4aSSI x1), (1, .i x2), (7, .own 5007), (8, .i (n4 : Int)), (29, .bool (((n4 : Int) % x2) == (0 : Int)))], [(5007, q4bS_9 l5)], [], 0⟩ (an1 ob2) ?_
            refine thenQ_normal ?_
            refine AWp.cond (b := (((n4 : Int) % x2) == (0 : Int))) (by kernel_rfl) (fun hc4 => ?_) (fun hc4 => ?_)
            ·
              replace h := ite_tb hc4 h
              obtain ⟨ob3, h⟩ := chk_some h
              refine q4rr [] [] ⟨51, (f95z1 x1 x2 n4), [(5007, .rows 9 1 ((l5).length + 1) (appF (l5).length (encF eS [] l5) (lstF 1 [.str []])))], [], 0⟩ (an1 ob3) ?_
              exact joinQ_normal ((l5 ++ [[]])) (Le.trans (Le.mk (s' := ⟨51, (f95z1 x1 x2 n4), [(5007, q4bS_9 (l5 ++ [[]]))], [], 0⟩) rfl rfl ⟨.refl _, .refl _, .refl _, .refl _, trivial⟩ ⟨⟨_, rfl, (BLe.of (RL.app (RL.self _) (RL.lst (enc := eS) [[]] rfl rfl (fun _ => rfl))))⟩, trivial⟩) (Le.trans (Le.trans (Le.ren (swapN 5007 32) (swapN_inv 5007 32) rfl) (Le.mk (s' := ⟨51, (f95z0 x1 x2 n4), [(32, q4bS_9 (l5 ++ [[]]))], [], 0⟩) rfl rfl ⟨.refl _, .refl _, .refl _, .refl _, trivial⟩ ⟨⟨_, rfl, .refl _⟩, trivial⟩)) (Le.mk rfl rfl ⟨.refl _, .refl _, .refl _, .refl _, trivial⟩ ⟨⟨_, rfl, .refl _⟩, trivial⟩))) h
            ·
              replace h := ite_fb hc4 h
              refine AWp.skip ?_
              exact joinQ_normal (l5) (Le.trans (Le.trans (Le.ren (swapN 5007 32) (swapN_inv 5007 32) rfl) (Le.mk (s' := ⟨51, [(0, q4aSSI x1), (1, .i x2), (7, .own 32), (8, .i (n4 : Int)), (29, .bool (((n4 : Int) % x2) == (0 : Int)))], [(32, q4bS_9 l5)], [], 0⟩) rfl rfl ⟨.refl _, .refl _, .refl _, .refl _, .refl _, trivial⟩ ⟨⟨_, rfl, .refl _⟩, trivial⟩)) (Le.mk rfl rfl ⟨.refl _, .refl _, .refl _, .refl _, trivial⟩ ⟨⟨_, rfl, .refl _⟩, trivial⟩)) h
          ·
            rintro l6 h
            replace h := (congrFun hK2 _).symm.trans h
            obtain ⟨r7, hr7, h⟩ := bind_ok h
            obtain ⟨ob4, ob5, ob6, ob7, ob8p, h⟩ := ck5 h
            have ob8 : 0 ≤ (n4 : Int) ∧ (n4 : Int) < (((x1).length : Nat) : Int) := ⟨by omega, ob8p⟩
            obtain ⟨ob9, ob10, ob11, h⟩ := ck3 h
            refine q4rr [] [(14, ⟨[.agg [.str (x1.getD n4 q4dSSI).1, .str (x1.getD n4 q4dSSI).2.1, .i (x1.getD n4 q4dSSI).2.2]], [], [], [], .str r7, [], [], []⟩)] ⟨51, (f95z0 x1 x2 n4), [(32, .rows 9 1 (l6).length (updF (encF eS [] l6) ((((lZ l6) - (1 : Int))).toNat) 0 [.str ((l6.getD ((((lZ l6) - (1 : Int))).toNat) []) ++ r7)]))], [], 0⟩ (ac6 ob4 ob5 ob6 ob7 ob8 (cpT (f127_ok _ _ _ _ hr7)) (an3 ob9 ob10 ob11)) ?_
            refine blockQ_normal ?_
            refine thenQ_normal ?_
            refine AWp.le (Le.mk (s' := ⟨51, (f95z0 x1 x2 n4), (f95z2 l6 r7), [], 0⟩) rfl rfl ⟨.refl _, .refl _, .refl _, .refl _, trivial⟩ ⟨⟨_, rfl, (BLe.of (RL.set ((l6.getD ((((lZ l6) - (1 : Int))).toNat) []) ++ r7) (RL.self _) (by intro j hj; match j, hj with | 0, _ => rfl)))⟩, trivial⟩) ?_
            obtain ⟨ob12p, h⟩ := chk_some h
            have ob12 : -9223372036854775808 ≤ ((n4 : Int) + (1 : Int)) ∧ ((n4 : Int) + (1 : Int)) ≤ 9223372036854775807 := ⟨by omega, ob12p⟩
            refine q4rr [] [] ⟨51, [(0, q4aSSI x1), (1, .i x2), (7, .own 32), (8, .i (((n4 + 1) : Nat) : Int))], (f95z2 l6 r7), [], 0⟩ (an1 ob12) ?_
            rw [hC0] at h
            exact loopQ_normal (_, (n4 + 1), (l6.set ((((lZ l6) - (1 : Int))).toNat) ((l6.getD ((((lZ l6) - (1 : Int))).toNat) []) ++ r7))) (Le.trans (Le.trans (Le.ren (swapN 32 5007) (swapN_inv 32 5007) rfl) (Le.mk (s' := ⟨51, [(0, q4aSSI x1), (1, .i x2), (7, .own 5007), (8, .i (((n4 + 1) : Nat) : Int))], [(5007, q4bS_9 (l6.set ((((lZ l6) - (1 : Int))).toNat) ((l6.getD ((((lZ l6) - (1 : Int))).toNat) []) ++ r7)))], [], 0⟩) rfl rfl ⟨.refl _, .refl _, .refl _, .refl _, trivial⟩ ⟨⟨_, rfl, .refl _⟩, trivial⟩)) (Le.mk rfl rfl ⟨.refl _, .refl _, .refl _, .refl _, trivial⟩ ⟨⟨_, rfl, .refl _⟩, trivial⟩)) h (Nat.lt_succ_self _)
        ·
          replace h := ite_fb hc3 h
          refine AWp.exit ?_
          refine thenQ_exit ?_
          refine thenQ_exit ?_
          refine blockQ_same ?_
          exact joinQ_normal (l5) (Le.mk rfl rfl ⟨.refl _, trivial⟩ ⟨⟨_, rfl, .refl _⟩, trivial⟩) h
      ·
        rintro l8 h
        replace h := (congrFun hK1 _).symm.trans h
        refine q4rq [] [] ⟨51, [(4, .own 5007), (5, .i (0 : Int))], [(5007, q4bS_9 l8)], [], 0⟩ trivial ?_
        refine AWp.le (Le.trans (Le.ren (swapN 5007 3000) (swapN_inv 5007 3000) rfl) (Le.mk (s' := ⟨51, [(4, .own 3000), (5, .i (0 : Int))], [(3000, q4bS_9 l8)], [], 0⟩) rfl rfl ⟨.refl _, .refl _, trivial⟩ ⟨⟨_, rfl, .refl _⟩, trivial⟩)) ?_
        have hret := Option.some.inj h
        subst hret
        refine AWp.le (Le.mk (s' := ⟨51, [(4, .own 3000), (5, .i (0 : Int))], [(3000, q4bS_9 l8)], [], 0⟩) rfl rfl ⟨.refl _, .refl _, trivial⟩ ⟨⟨_, rfl, .refl _⟩, trivial⟩) ?_
        refine AWp.ret ?_
        exact bodyQ_ret _ rfl ⟨rfl, rfl⟩ rfl
def f128_L0 (K1 : (Int × List Int) → Option (List UInt8)) : Nat → (Int × List Int) → Option (List UInt8)
  | 0, _ => none
  | k + 1, (i2, l3) =>
    if (decide (i2 ≥ (128 : Int))) then (
    chk (0 ≤ i2 ∧ 1 ≤ (128 : Int)) <|
    chk (0 ≤ ((128 : Int) + (i2 % (128 : Int))) ∧ ((128 : Int) + (i2 % (128 : Int))) ≤ 18446744073709551615) <|
    chk (0 ≤ ((128 : Int) + (i2 % (128 : Int))) ∧ ((128 : Int) + (i2 % (128 : Int))) ≤ 255) <|
    chk (((l3).length + 1) * 1 ≤ 140737488355328) <|
    chk (0 ≤ i2 ∧ 1 ≤ (128 : Int) ∧ 0 ≤ (i2 / (128 : Int)) ∧ (i2 / (128 : Int)) ≤ 18446744073709551615) <|
    (f128_L0 K1 k) ((i2 / (128 : Int)), (l3 ++ [((128 : Int) + (i2 % (128 : Int)))]))
    ) else (
    K1 (i2, l3)
    )
theorem f128_L0_e2 (K1 : (Int × List Int) → Option (List UInt8)) (k : Nat) (i2 : Int) (l3 : List Int) : f128_L0 K1 (k + 1) (i2, l3) =
    if (decide (i2 ≥ (128 : Int))) then (
    chk (0 ≤ i2 ∧ 1 ≤ (128 : Int)) <|
    chk (0 ≤ ((128 : Int) + (i2 % (128 : Int))) ∧ ((128 : Int) + (i2 % (128 : Int))) ≤ 18446744073709551615) <|
    chk (0 ≤ ((128 : Int) + (i2 % (128 : Int))) ∧ ((128 : Int) + (i2 % (128 : Int))) ≤ 255) <|
    chk (((l3).length + 1) * 1 ≤ 140737488355328) <|
    chk (0 ≤ i2 ∧ 1 ≤ (128 : Int) ∧ 0 ≤ (i2 / (128 : Int)) ∧ (i2 / (128 : Int)) ≤ 18446744073709551615) <|
    (f128_L0 K1 k) ((i2 / (128 : Int)), (l3 ++ [((128 : Int) + (i2 % (128 : Int)))]))
    ) else (
    K1 (i2, l3)
    ) := rfl
def f128 (x1 : Int) : Option (List UInt8) :=
  jn (fun ((i4, l5) : Int × List Int) =>
  chk (0 ≤ i4 ∧ i4 ≤ 255) <|
  chk (((l5).length + 1) * 1 ≤ 140737488355328) <|
  some ((List.range ((l5).length + 1)).map fun i => byteOf ((appF (l5).length (encF eU8 0 l5) (lstF 1 [.int .u8 i4])) i 0))
  ) fun (K1 : (Int × List Int) → Option (List UInt8)) =>
  f128_L0 K1 FUEL (x1, [])
set_option maxRecDepth 100000 in
theorem f128_ok  (x1 : Int) (r : List UInt8) (h : f128 x1 = some r)  : Spec1 Tryz.prog 128 [] [] [] [.int .u64 x1] (.str r) [] := by
  unfold f128 at h
  refine Spec1.body 0 _ _ Tryz.func128 rfl Tryz.ntmps128 rfl rfl ?_
  refine q4rq [] [] ⟨21, [(0, .int .u64 x1)], [], [], 0⟩ trivial ?_
  refine q4rq [] [] ⟨21, [(0, .int .u64 x1), (3, .nils)], [], [], 0⟩ trivial ?_
  obtain ⟨K1, hK1, h⟩ := jn_some h
  refine AWp.join (α := Int × List Int) (fun (x : Int × List Int) => match x with | (i4, l5) => ⟨21, [(0, .int .u64 i4), (3, .own 5003)], [(5003, q4bU8_5 l5)], [], 0⟩) (fun x => K1 x = some r) ?_ ?_
  ·
    refine AWp.block ?_
    refine AWp.loopL (α := Nat × (Int × List Int)) (fun x => match x with | (_, i2, l3) => ⟨21, [(0, .int .u64 i2), (3, .own 5003)], [(5003, q4bU8_5 l3)], [], 0⟩) (fun x => f128_L0 K1 x.1 x.2 = some r) (fun x => x.1) (FUEL, x1, []) (Le.trans (Le.trans (Le.nilOwn 3 5003 5 1 (encF eU8 0 []) rfl rfl (Nat.le_of_ble_eq_true rfl)) (Le.mk (s' := ⟨21, [(0, .int .u64 x1), (3, .own 5003)], [(5003, q4bU8_5 [])], [], 0⟩) rfl rfl ⟨.refl _, .refl _, trivial⟩ ⟨⟨_, rfl, .refl _⟩, trivial⟩)) (Le.mk (s' := ⟨21, [(0, .int .u64 x1), (3, .own 5003)], [(5003, q4bU8_5 [])], [], 0⟩) rfl rfl ⟨.refl _, .refl _, trivial⟩ ⟨⟨_, rfl, .refl _⟩, trivial⟩)) h ?_
    rintro ⟨k0, i2, l3⟩ h
    cases k0 with
    | zero => exact nomatch (show (none : Option (List UInt8)) = some r from h)
    | succ k0 =>
    obtain ⟨C0, hC0⟩ : ∃ C, C = f128_L0 K1 k0 := ⟨_, rfl⟩
    replace h := (f128_L0_e2 ..).symm.trans h
    try rw [← hC0] at h
    refine AWp.seq ?_
    refine q4rq [] [] ⟨21, [(0, .int .u64 i2), (3, .own 5003), (5, .bool (decide (i2 ≥ (128 : Int))))], [(5003, q4bU8_5 l3)], [], 0⟩ trivial ?_
    refine AWp.cond (b := (decide (i2 ≥ (128 : Int)))) (by kernel_rfl) (fun hc1 => ?_) (fun hc1 => ?_)
    ·
      replace h := ite_tb hc1 h
      refine AWp.skip ?_
      refine thenQ_normal ?_
      refine AWp.block ?_
      refine AWp.seq ?_
      obtain ⟨ob0, ob1, ob2, ob3, h⟩ := ck4 h
      refine q4rr [] [] ⟨21, [(0, .int .u64 i2), (3, .own 5003)], [(5003, .rows 5 1 ((l3).length + 1) (appF (l3).length (encF eU8 0 l3) (lstF 1 [.int .u8 ((128 : Int) + (i2 % (128 : Int)))])))], [], 0⟩ (an4 ob0 ob1 ob2 ob3) ?_
      refine thenQ_normal ?_
      refine AWp.le (Le.mk (s' := ⟨21, [(0, .int .u64 i2), (3, .own 5003)], [(5003, q4bU8_5 (l3 ++ [((128 : Int) + (i2 % (128 : Int)))]))], [], 0⟩) rfl rfl ⟨.refl _, .refl _, trivial⟩ ⟨⟨_, rfl, (BLe.of (RL.app (RL.self _) (RL.lst (enc := eU8) [((128 : Int) + (i2 % (128 : Int)))] rfl rfl (fun _ => rfl))))⟩, trivial⟩) ?_
      obtain ⟨ob4, h⟩ := chk_some h
      refine q4rr [] [] ⟨21, [(0, .int .u64 (i2 / (128 : Int))), (3, .own 5003)], [(5003, q4bU8_5 (l3 ++ [((128 : Int) + (i2 % (128 : Int)))]))], [], 0⟩ (an1 ob4) ?_
      refine blockQ_normal ?_
      rw [hC0] at h
      exact loopQ_normal (_, (i2 / (128 : Int)), (l3 ++ [((128 : Int) + (i2 % (128 : Int)))])) (Le.mk rfl rfl ⟨.refl _, .refl _, trivial⟩ ⟨⟨_, rfl, .refl _⟩, trivial⟩) h (Nat.lt_succ_self _)
    ·
      replace h := ite_fb hc1 h
      refine AWp.exit ?_
      refine thenQ_exit ?_
      refine thenQ_exit ?_
      refine blockQ_same ?_
      exact joinQ_normal (i2, l3) (Le.mk rfl rfl ⟨.refl _, .refl _, trivial⟩ ⟨⟨_, rfl, .refl _⟩, trivial⟩) h
  ·
    rintro ⟨i4, l5⟩ h
    replace h := (congrFun hK1 _).symm.trans h
    refine AWp.seq ?_
    obtain ⟨ob5, ob6, h⟩ := ck2 h
    have ob7 : ∀ i, i < ((l5).length + 1) → isByte ((appF (l5).length (encF eU8 0 l5) (lstF 1 [.int .u8 i4])) i 0) := isByte_app (fun _ => trivial) (fun i hi => match i, hi with | 0, _ => trivial)
    refine q4rr [] [] ⟨21, [(2, .str ((List.range ((l5).length + 1)).map fun i => byteOf ((appF (l5).length (encF eU8 0 l5) (lstF 1 [.int .u8 i4])) i 0)))], [], [], 0⟩ (an3 ob5 ob6 ob7) ?_
    refine thenQ_normal ?_
    have hret := Option.some.inj h
    subst hret
    refine AWp.ret ?_
    exact bodyQ_ret _ rfl ⟨rfl, rfl⟩ rfl
def f129 (x1 : List UInt8) : Option (List UInt8) :=
  (f128 ((x1.length : Nat) : Int)).bind fun (r2 : List UInt8) =>
  chk (((x1.length : Nat) : Int) ≤ 18446744073709551615) <|
  chk (r2.length + x1.length ≤ 9223372036854775807) <|
  some (r2 ++ x1)
set_option maxRecDepth 100000 in
theorem f129_ok  (x1 : List UInt8) (r : List UInt8) (h : f129 x1 = some r)  : Spec1 Tryz.prog 129 [] [] [] [.str x1] (.str r) [] := by
  unfold f129 at h
  refine Spec1.body 0 _ _ Tryz.func129 rfl Tryz.ntmps129 rfl rfl ?_
  refine q4rq [] [] ⟨9, [(0, .str x1)], [], [], 0⟩ trivial ?_
  refine AWp.seq ?_
  obtain ⟨r2, hr2, h⟩ := bind_ok h
  obtain ⟨ob0p, h⟩ := chk_some h
  have ob0 : 0 ≤ ((x1.length : Nat) : Int) ∧ ((x1.length : Nat) : Int) ≤ 18446744073709551615 := ⟨by omega, ob0p⟩
  obtain ⟨ob1, h⟩ := chk_some h
  refine q4rr [] [(3, ⟨[.int .u64 (lZ x1)], [], [], [], .str r2, [], [], []⟩)] ⟨9, [(2, .str (r2 ++ x1))], [], [], 0⟩ (an3 ob0 (cpT (f128_ok _ _ hr2)) ob1) ?_
  refine thenQ_normal ?_
  have hret := Option.some.inj h
  subst hret
  refine AWp.ret ?_
  exact bodyQ_ret _ rfl ⟨rfl, rfl⟩ rfl
def f96_L0 (x1 : List (List UInt8)) (K1 : (List UInt8) → Option (List UInt8)) : Nat → (List UInt8 × Nat) → Option (List UInt8)
  | 0, _ => none
  | k + 1, (s3, n4) =>
    if (decide ((n4 : Int) < (((x1).length : Nat) : Int))) then (
    (f129 (x1.getD n4 [])).bind fun (r5 : List UInt8) =>
    chk ((n4 : Int) < (((x1).length : Nat) : Int)) <|
    chk (s3.length + r5.length ≤ 9223372036854775807) <|
    chk (((n4 : Int) + (1 : Int)) ≤ 9223372036854775807) <|
    (f96_L0 x1 K1 k) ((s3 ++ r5), (n4 + 1))
    ) else (
    K1 s3
    )
def f96 (x1 : List (List UInt8)) : Option (List UInt8) :=
  (f128 (((x1).length : Nat) : Int)).bind fun (r2 : List UInt8) =>
  chk ((((x1).length : Nat) : Int) ≤ 18446744073709551615) <|
  jn (fun (s6 : List UInt8) =>
  some s6
  ) fun (K1 : (List UInt8) → Option (List UInt8)) =>
  f96_L0 x1 K1 FUEL (r2, 0)
set_option maxRecDepth 100000 in
theorem f96_ok  (x1 : List (List UInt8)) (r : List UInt8) (h : f96 x1 = some r)  : Spec1 Tryz.prog 96 [] [] [] [vL 1 eS [] x1] (.str r) [] := by
  unfold f96 at h
  refine Spec1.body 0 _ _ Tryz.func96 rfl Tryz.ntmps96 rfl rfl ?_
  refine q4rq [] [] ⟨23, [(0, q4aS x1)], [], [], 0⟩ trivial ?_
  refine AWp.seq ?_
  obtain ⟨r2, hr2, h⟩ := bind_ok h
  obtain ⟨ob0p, h⟩ := chk_some h
  have ob0 : 0 ≤ (((x1).length : Nat) : Int) ∧ (((x1).length : Nat) : Int) ≤ 18446744073709551615 := ⟨by omega, ob0p⟩
  refine q4rr [] [(3, ⟨[.int .u64 (lZ x1)], [], [], [], .str r2, [], [], []⟩)] ⟨23, [(0, q4aS x1), (3, .str r2)], [], [], 0⟩ (an2 ob0 (cpT (f128_ok _ _ hr2))) ?_
  refine thenQ_normal ?_
  obtain ⟨K1, hK1, h⟩ := jn_some h
  refine AWp.join (α := List UInt8) (fun (s6 : List UInt8) => ⟨23, [(3, .str s6)], [], [], 0⟩) (fun x => K1 x = some r) ?_ ?_
  ·
    refine q4rq [] [] ⟨23, [(0, q4aS x1), (3, .str r2), (4, .i (0 : Int))], [], [], 0⟩ trivial ?_
    refine AWp.block ?_
    refine AWp.loopL (α := Nat × (List UInt8 × Nat)) (fun x => match x with | (_, s3, n4) => ⟨23, [(0, q4aS x1), (3, .str s3), (4, .i (n4 : Int))], [], [], 0⟩) (fun x => f96_L0 x1 K1 x.1 x.2 = some r) (fun x => x.1) (FUEL, r2, 0) (Le.mk (s' := ⟨23, [(0, q4aS x1), (3, .str r2), (4, .i (0 : Int))], [], [], 0⟩) rfl rfl ⟨.refl _, .refl _, .refl _, trivial⟩ trivial) h ?_
    rintro ⟨k0, s3, n4⟩ h
    cases k0 with
    | zero => exact nomatch (show (none : Option (List UInt8)) = some r from h)
    | succ k0 =>
    obtain ⟨C0, hC0⟩ : ∃ C, C = f96_L0 x1 K1 k0 := ⟨_, rfl⟩
    replace h := (f96_L0.eq_2 ..).symm.trans h
    try rw [← hC0] at h
    refine AWp.seq ?_
    refine q4rq [] [] ⟨23, [(0, q4aS x1), (3, .str s3), (4, .i (n4 : Int)), (12, .bool (decide ((n4 : Int) < (lZ x1))))], [], [], 0⟩ trivial ?_
    refine AWp.cond (b := (decide ((n4 : Int) < (lZ x1)))) (by kernel_rfl) (fun hc1 => ?_) (fun hc1 => ?_)
    ·
      replace h := ite_tb hc1 h
      refine AWp.skip ?_
      refine thenQ_normal ?_
      refine AWp.seq ?_
      refine AWp.block ?_
      obtain ⟨r5, hr5, h⟩ := bind_ok h
      obtain ⟨ob1p, h⟩ := chk_some h
      have ob1 : 0 ≤ (n4 : Int) ∧ (n4 : Int) < (((x1).length : Nat) : Int) := ⟨by omega, ob1p⟩
      obtain ⟨ob2, h⟩ := chk_some h
      refine q4rr [] [(5, ⟨[.str (x1.getD n4 [])], [], [], [], .str r5, [], [], []⟩)] ⟨23, [(0, q4aS x1), (3, .str (s3 ++ r5)), (4, .i (n4 : Int))], [], [], 0⟩ (an3 ob1 (cpT (f129_ok _ _ hr5)) ob2) ?_
      refine blockQ_normal ?_
      refine thenQ_normal ?_
      obtain ⟨ob3p, h⟩ := chk_some h
      have ob3 : -9223372036854775808 ≤ ((n4 : Int) + (1 : Int)) ∧ ((n4 : Int) + (1 : Int)) ≤ 9223372036854775807 := ⟨by omega, ob3p⟩
      refine q4rr [] [] ⟨23, [(0, q4aS x1), (3, .str (s3 ++ r5)), (4, .i (((n4 + 1) : Nat) : Int))], [], [], 0⟩ (an1 ob3) ?_
      rw [hC0] at h
      exact loopQ_normal (_, (s3 ++ r5), (n4 + 1)) (Le.mk rfl rfl ⟨.refl _, .refl _, .refl _, trivial⟩ trivial) h (Nat.lt_succ_self _)
    ·
      replace h := ite_fb hc1 h
      refine AWp.exit ?_
      refine thenQ_exit ?_
      refine thenQ_exit ?_
      refine blockQ_same ?_
      exact joinQ_normal (s3) (Le.mk rfl rfl ⟨.refl _, trivial⟩ trivial) h
  ·
    rintro s6 h
    replace h := (congrFun hK1 _).symm.trans h
    refine q4rq [] [] ⟨23, [(2, .str s6)], [], [], 0⟩ trivial ?_
    have hret := Option.some.inj h
    subst hret
    refine AWp.ret ?_
    exact bodyQ_ret _ rfl ⟨rfl, rfl⟩ rfl
def f55_L0 (x2 : List (Int × Int × List UInt8)) (K1 : (List (List UInt8)) → Option (List (List UInt8))) : Nat → (Nat × List (List UInt8)) → Option (List (List UInt8))
  | 0, _ => none
  | k + 1, (n3, l4) =>
    if (decide ((n3 : Int) < (((x2).length : Nat) : Int))) then (
    chk ((n3 : Int) < (((x2).length : Nat) : Int)) <|
    (f56 ((x2.getD n3 (default : Int × Int × List UInt8)).1)).bind fun (r5 : List UInt8) =>
    (f56 ((x2.getD n3 (default : Int × Int × List UInt8)).2.1)).bind fun (r6 : List UInt8) =>
    chk (((l4).length + 3) * 16 ≤ 140737488355328) <|
    chk (((n3 : Int) + (1 : Int)) ≤ 9223372036854775807) <|
    (f55_L0 x2 K1 k) ((n3 + 1), (l4 ++ [r5, r6, (x2.getD n3 (default : Int × Int × List UInt8)).2.2]))
    ) else (
    K1 l4
    )
abbrev f55z0 (x1 : List (List UInt8 × List UInt8 × Int)) (x2 : List (Int × Int × List UInt8)) : List V := [vL 3 eSSI (default : List UInt8 × List UInt8 × Int) x1, vL 3 eIIS (default : Int × Int × List UInt8) x2]
abbrev f55z1 (x2 : List (Int × Int × List UInt8)) (n3 : Nat) := (x2.getD n3 (default : Int × Int × List UInt8))
abbrev f55z2 (n3 : Nat) : List (Nat × V) := [(1, .ptr 1 0), (3, .own 5003), (4, .int .i64 (n3 : Int)), (1000001, .tab .u64 Lib.pow10Tab)]
abbrev f55z3 : List (Nat × V) := [(2, .own 39), (1000001, .tab .u64 Lib.pow10Tab)]
def f55 (x1 : List (List UInt8 × List UInt8 × Int)) (x2 : List (Int × Int × List UInt8)) : Option (List (List UInt8)) :=
  jn (fun (l7 : List (List UInt8)) =>
  (f95 x1 (8 : Int)).bind fun (r8 : Int × List (List UInt8)) =>
  (f96 l7).bind fun (r9 : List UInt8) =>
  chk ((1 + (r8.2).length) * 16 ≤ 140737488355328) <|
  some ([r9] ++ r8.2)
  ) fun (K1 : (List (List UInt8)) → Option (List (List UInt8))) =>
  f55_L0 x2 K1 FUEL (0, [])
set_option maxRecDepth 100000 in
theorem f55_ok  (x1 : List (List UInt8 × List UInt8 × Int)) (x2 : List (Int × Int × List UInt8)) (r : List (List UInt8)) (h : f55 x1 x2 = some r)  : Spec1 Tryz.prog 55 [(1, .tab .u64 Lib.pow10Tab)] [] [] [.agg [vL 3 eSSI (default : List UInt8 × List UInt8 × Int) x1, vL 3 eIIS (default : Int × Int × List UInt8) x2]] (.own 3000) [(3000, bL 9 1 eS [] r)] := by
  unfold f55 at h
  refine Spec1.body 0 _ _ Tryz.func55 rfl Tryz.ntmps55 rfl rfl ?_
  refine q4rq [] [] ⟨42, [(1, .ptr 1 0), (1000001, .tab .u64 Lib.pow10Tab)], [(1, .cells 30 (f55z0 x1 x2))], [], 0⟩ trivial ?_
  refine q4rq [] [] ⟨42, [(1, .ptr 1 0), (3, .nils), (1000001, .tab .u64 Lib.pow10Tab)], [(1, .cells 30 (f55z0 x1 x2))], [], 0⟩ trivial ?_
  obtain ⟨K1, hK1, h⟩ := jn_some h
  refine AWp.join (α := List (List UInt8)) (fun (l7 : List (List UInt8)) => ⟨42, [(1, .ptr 1 0), (3, .own 5003), (1000001, .tab .u64 Lib.pow10Tab)], [(1, .cells 30 (f55z0 x1 x2)), (5003, q4bS_9 l7)], [], 0⟩) (fun x => K1 x = some r) ?_ ?_
  ·
    refine q4rq [] [] ⟨42, [(1, .ptr 1 0), (3, .nils), (4, .i (0 : Int)), (1000001, .tab .u64 Lib.pow10Tab)], [(1, .cells 30 (f55z0 x1 x2))], [], 0⟩ trivial ?_
    refine AWp.block ?_
    refine AWp.loopL (α := Nat × (Nat × List (List UInt8))) (fun x => match x with | (_, n3, l4) => ⟨42, (f55z2 n3), [(1, .cells 30 (f55z0 x1 x2)), (5003, q4bS_9 l4)], [], 0⟩) (fun x => f55_L0 x2 K1 x.1 x.2 = some r) (fun x => x.1) (FUEL, 0, []) (Le.trans (Le.trans (Le.nilOwn 3 5003 9 1 (encF eS [] []) rfl rfl (Nat.le_of_ble_eq_true rfl)) (Le.mk (s' := ⟨42, [(1, .ptr 1 0), (3, .own 5003), (4, .i (0 : Int)), (1000001, .tab .u64 Lib.pow10Tab)], [(1, .cells 30 (f55z0 x1 x2)), (5003, q4bS_9 [])], [], 0⟩) rfl rfl ⟨.refl _, .refl _, .refl _, .refl _, trivial⟩ ⟨⟨_, rfl, .refl _⟩, ⟨_, rfl, .refl _⟩, trivial⟩)) (Le.mk (s' := ⟨42, [(1, .ptr 1 0), (3, .own 5003), (4, .i (0 : Int)), (1000001, .tab .u64 Lib.pow10Tab)], [(1, .cells 30 (f55z0 x1 x2)), (5003, q4bS_9 [])], [], 0⟩) rfl rfl ⟨.refl _, .refl _, .refl _, .refl _, trivial⟩ ⟨⟨_, rfl, .refl _⟩, ⟨_, rfl, .refl _⟩, trivial⟩)) h ?_
    rintro ⟨k0, n3, l4⟩ h
    cases k0 with
    | zero => exact nomatch (show (none : Option (List (List UInt8))) = some r from h)
    | succ k0 =>
    obtain ⟨C0, hC0⟩ : ∃ C, C = f55_L0 x2 K1 k0 := ⟨_, rfl⟩
    replace h := (f55_L0.eq_2 ..).symm.trans h
    try rw [← hC0] at h
    refine AWp.seq ?_
    refine q4rq [] [] ⟨42, [(1, .ptr 1 0), (3, .own 5003), (4, .i (n3 : Int)), (12, .bool (decide ((n3 : Int) < (lZ x2)))), (1000001, .tab .u64 Lib.pow10Tab)], [(1, .cells 30 (f55z0 x1 x2)), (5003, q4bS_9 l4)], [], 0⟩ trivial ?_
    refine AWp.cond (b := (decide ((n3 : Int) < (lZ x2)))) (by kernel_rfl) (fun hc1 => ?_) (fun hc1 => ?_)
    ·
      replace h := ite_tb hc1 h
      refine AWp.skip ?_
      refine thenQ_normal ?_
      refine AWp.seq ?_
      refine AWp.block ?_
      refine AWp.seq ?_
      obtain ⟨ob0p, h⟩ := chk_some h
      have ob0 : 0 ≤ (n3 : Int) ∧ (n3 : Int) < (((x2).length : Nat) : Int) := ⟨by omega, ob0p⟩
      refine q4rr [] [] ⟨42, [(1, .ptr 1 0), (3, .own 5003), (4, .i (n3 : Int)), (5, .ptr 5 0), (1000001, .tab .u64 Lib.pow10Tab)], [(1, .cells 30 (f55z0 x1 x2)), (5, .cells 45 [.i (f55z1 x2 n3).1, .i (f55z1 x2 n3).2.1, .str (f55z1 x2 n3).2.2]), (5003, q4bS_9 l4)], [], 0⟩ (an2 ob0 trivial) ?_
      refine thenQ_normal ?_
      obtain ⟨r5, hr5, h⟩ := bind_ok h
      obtain ⟨r6, hr6, h⟩ := bind_ok h
      obtain ⟨ob1, h⟩ := chk_some h
      refine q4rr [] [(3, ⟨[.i (f55z1 x2 n3).1], [], [], [], .str r5, [], [], [1]⟩), (6, ⟨[.i (f55z1 x2 n3).2.1], [], [], [], .str r6, [], [], [1]⟩)] ⟨42, (f55z2 n3), [(1, .cells 30 (f55z0 x1 x2)), (5003, .rows 9 1 ((l4).length + 3) (appF (l4).length (encF eS [] l4) (lstF 1 [.str r5, .str r6, .str (f55z1 x2 n3).2.2])))], [], 0⟩ (an3 (cpT (f56_ok _ _ hr5)) (cpT (f56_ok _ _ hr6)) ob1) ?_
      refine blockQ_normal ?_
      refine thenQ_normal ?_
      refine AWp.le (Le.mk (s' := ⟨42, (f55z2 n3), [(1, .cells 30 (f55z0 x1 x2)), (5003, q4bS_9 (l4 ++ [r5, r6, (f55z1 x2 n3).2.2]))], [], 0⟩) rfl rfl ⟨.refl _, .refl _, .refl _, .refl _, trivial⟩ ⟨⟨_, rfl, .refl _⟩, ⟨_, rfl, (BLe.of (RL.app (RL.self _) (RL.lst (enc := eS) [r5, r6, (f55z1 x2 n3).2.2] rfl rfl (fun _ => rfl))))⟩, trivial⟩) ?_
      obtain ⟨ob2p, h⟩ := chk_some h
      have ob2 : -9223372036854775808 ≤ ((n3 : Int) + (1 : Int)) ∧ ((n3 : Int) + (1 : Int)) ≤ 9223372036854775807 := ⟨by omega, ob2p⟩
      refine q4rr [] [] ⟨42, [(1, .ptr 1 0), (3, .own 5003), (4, .i (((n3 + 1) : Nat) : Int)), (1000001, .tab .u64 Lib.pow10Tab)], [(1, .cells 30 (f55z0 x1 x2)), (5003, q4bS_9 (l4 ++ [r5, r6, (f55z1 x2 n3).2.2]))], [], 0⟩ (an1 ob2) ?_
      rw [hC0] at h
      exact loopQ_normal (_, (n3 + 1), (l4 ++ [r5, r6, (f55z1 x2 n3).2.2])) (Le.mk rfl rfl ⟨.refl _, .refl _, .refl _, .refl _, trivial⟩ ⟨⟨_, rfl, .refl _⟩, ⟨_, rfl, .refl _⟩, trivial⟩) h (Nat.lt_succ_self _)
    ·
      replace h := ite_fb hc1 h
      refine AWp.exit ?_
      refine thenQ_exit ?_
      refine thenQ_exit ?_
      refine blockQ_same ?_
      exact joinQ_normal (l4) (Le.mk rfl rfl ⟨.refl _, .refl _, .refl _, trivial⟩ ⟨⟨_, rfl, .refl _⟩, ⟨_, rfl, .refl _⟩, trivial⟩) h
  ·
    rintro l7 h
    replace h := (congrFun hK1 _).symm.trans h
    refine AWp.seq ?_
    obtain ⟨r8, hr8, h⟩ := bind_ok h
    refine q4rr [] [(2, ⟨[q4aSSI x1, .i (8 : Int)], [], [], [(6001, q4bS_9 r8.2)], .tup [.own 6001, .i r8.1], [6001], [], []⟩)] ⟨42, [(3, .own 5003), (6, .own 6001), (1000001, .tab .u64 Lib.pow10Tab)], [(5003, q4bS_9 l7), (6001, q4bS_9 r8.2)], [], 0⟩ (an1 (cpT (Spec1.ren (swapN 3000 6001) (swapN_inv 3000 6001) rfl (f95_ok _ _ _ hr8)))) ?_
    refine thenQ_normal ?_
    refine AWp.seq ?_
    obtain ⟨r9, hr9, h⟩ := bind_ok h
    obtain ⟨ob3, h⟩ := chk_some h
    refine q4rr [] [(1, ⟨[q4aS l7], [], [], [], .str r9, [], [5003], []⟩)] ⟨42, (f55z3), [(39, .rows 9 1 (1 + (r8.2).length) (appF 1 (lstF 1 [.str r9]) (encF eS [] r8.2)))], [], 0⟩ (an2 (cpL (c := true) [(5003, q4bS_9 l7)] [5003] [.own 5003] (fun _ => (f96_ok _ _ hr9)) (fun _ => ⟨.refl _, trivial⟩) (.inr ⟨rfl, trivial⟩)) ob3) ?_
    refine thenQ_normal ?_
    refine AWp.le (Le.mk (s' := ⟨42, (f55z3), [(39, q4bS_9 ([r9] ++ r8.2))], [], 0⟩) rfl rfl ⟨.refl _, .refl _, trivial⟩ ⟨⟨_, rfl, (BLe.of (RL.app (RL.lst (enc := eS) [r9] rfl rfl (fun _ => rfl)) (RL.self _)))⟩, trivial⟩) ?_
    refine AWp.le (Le.trans (Le.ren (swapN 39 3000) (swapN_inv 39 3000) rfl) (Le.mk (s' := ⟨42, [(2, .own 3000), (1000001, .tab .u64 Lib.pow10Tab)], [(3000, q4bS_9 ([r9] ++ r8.2))], [], 0⟩) rfl rfl ⟨.refl _, .refl _, trivial⟩ ⟨⟨_, rfl, .refl _⟩, trivial⟩)) ?_
    have hret := Option.some.inj h
    subst hret
    refine AWp.le (Le.mk (s' := ⟨42, [(2, .own 3000)], [(3000, q4bS_9 ([r9] ++ r8.2))], [], 0⟩) rfl rfl ⟨.refl _, trivial⟩ ⟨⟨_, rfl, .refl _⟩, trivial⟩) ?_
    refine AWp.ret ?_
    exact bodyQ_ret _ rfl ⟨rfl, rfl⟩ rfl
def f26_L0 (x1 : List (List UInt8)) (x2 : List (List UInt8)) (K1 : Unit → Option Bool) : Nat → Nat → Option Bool
  | 0, _ => none
  | k + 1, n3 =>
    if (decide ((n3 : Int) < (((x1).length : Nat) : Int))) then (
    chk ((n3 : Int) < (((x1).length : Nat) : Int)) <|
    chk ((n3 : Int) < (((x2).length : Nat) : Int)) <|
    if (!((x1.getD n3 []) == (x2.getD n3 []))) then (
    some false
    ) else (
    chk (((n3 : Int) + (1 : Int)) ≤ 9223372036854775807) <|
    (f26_L0 x1 x2 K1 k) (n3 + 1)
    )
    ) else (
    K1 ()
    )
def f26 (x1 : List (List UInt8)) (x2 : List (List UInt8)) : Option Bool :=
  if ((((x1).length : Nat) : Int) != (((x2).length : Nat) : Int)) then (
  some false
  ) else (
  jn (fun (_ : Unit) =>
  some true
  ) fun (K1 : Unit → Option Bool) =>
  f26_L0 x1 x2 K1 FUEL 0
  )
set_option maxRecDepth 100000 in
theorem f26_ok  (x1 : List (List UInt8)) (x2 : List (List UInt8)) (r : Bool) (h : f26 x1 x2 = some r)  : Spec1 Tryz.prog 26 [] [] [] [vL 1 eS [] x1, vL 1 eS [] x2] (.bool r) [] := by
  unfold f26 at h
  refine Spec1.body 0 _ _ Tryz.func26 rfl Tryz.ntmps26 rfl rfl ?_
  refine q4rq [] [] ⟨26, [(0, q4aS x1), (1, q4aS x2)], [], [], 0⟩ trivial ?_
  refine AWp.seq ?_
  refine q4rq [] [] ⟨26, [(0, q4aS x1), (1, q4aS x2), (10, .bool ((lZ x1) != (lZ x2)))], [], [], 0⟩ trivial ?_
  refine AWp.cond (b := ((lZ x1) != (lZ x2))) (by kernel_rfl) (fun hc1 => ?_) (fun hc1 => ?_)
  ·
    replace h := ite_tb hc1 h
    refine q4rq [] [] ⟨26, [(4, .bool false)], [], [], 0⟩ trivial ?_
    have hret := Option.some.inj h
    subst hret
    refine AWp.ret ?_
    refine thenQ_ret ?_
    exact bodyQ_ret _ rfl ⟨rfl, rfl⟩ rfl
  ·
    replace h := ite_fb hc1 h
    refine AWp.skip ?_
    refine thenQ_normal ?_
    obtain ⟨K1, hK1, h⟩ := jn_some h
    refine AWp.join (α := Unit) (fun (x : Unit) => match x with | () => ⟨26, [], [], [], 0⟩) (fun x => K1 x = some r) ?_ ?_
    ·
      refine q4rq [] [] ⟨26, [(0, q4aS x1), (1, q4aS x2), (5, .i (0 : Int))], [], [], 0⟩ trivial ?_
      refine AWp.block ?_
      refine AWp.loopL (α := Nat × Nat) (fun x => match x with | (_, n3) => ⟨26, [(0, q4aS x1), (1, q4aS x2), (5, .i (n3 : Int))], [], [], 0⟩) (fun x => f26_L0 x1 x2 K1 x.1 x.2 = some r) (fun x => x.1) (FUEL, 0) (Le.mk (s' := ⟨26, [(0, q4aS x1), (1, q4aS x2), (5, .i (0 : Int))], [], [], 0⟩) rfl rfl ⟨.refl _, .refl _, .refl _, trivial⟩ trivial) h ?_
      rintro ⟨k0, n3⟩ h
      cases k0 with
      | zero => exact nomatch (show (none : Option Bool) = some r from h)
      | succ k0 =>
      obtain ⟨C0, hC0⟩ : ∃ C, C = f26_L0 x1 x2 K1 k0 := ⟨_, rfl⟩
      replace h := (f26_L0.eq_2 ..).symm.trans h
      try rw [← hC0] at h
      refine AWp.seq ?_
      refine q4rq [] [] ⟨26, [(0, q4aS x1), (1, q4aS x2), (5, .i (n3 : Int)), (14, .bool (decide ((n3 : Int) < (lZ x1))))], [], [], 0⟩ trivial ?_
      refine AWp.cond (b := (decide ((n3 : Int) < (lZ x1)))) (by kernel_rfl) (fun hc2 => ?_) (fun hc2 => ?_)
      ·
        replace h := ite_tb hc2 h
        refine AWp.skip ?_
        refine thenQ_normal ?_
        refine AWp.seq ?_
        refine AWp.block ?_
        refine AWp.seq ?_
        obtain ⟨ob0p, h⟩ := chk_some h
        have ob0 : 0 ≤ (n3 : Int) ∧ (n3 : Int) < (((x1).length : Nat) : Int) := ⟨by omega, ob0p⟩
        obtain ⟨ob1p, h⟩ := chk_some h
        have ob1 : 0 ≤ (n3 : Int) ∧ (n3 : Int) < (((x2).length : Nat) : Int) := ⟨by omega, ob1p⟩
        refine q4rr [] [] ⟨26, [(0, q4aS x1), (1, q4aS x2), (5, .i (n3 : Int)), (25, .bool (!((x1.getD n3 []) == (x2.getD n3 []))))], [], [], 0⟩ (an2 ob0 ob1) ?_
        refine thenQ_normal ?_
        refine AWp.cond (b := (!((x1.getD n3 []) == (x2.getD n3 [])))) (by kernel_rfl) (fun hc3 => ?_) (fun hc3 => ?_)
        ·
          replace h := ite_tb hc3 h
          refine q4rq [] [] ⟨26, [(4, .bool false)], [], [], 0⟩ trivial ?_
          have hret := Option.some.inj h
          subst hret
          refine AWp.ret ?_
          refine blockQ_ret ?_
          refine thenQ_ret ?_
          refine thenQ_ret ?_
          refine blockQ_ret ?_
          refine joinQ_ret ?_
          exact bodyQ_ret _ rfl ⟨rfl, rfl⟩ rfl
        ·
          replace h := ite_fb hc3 h
          refine AWp.skip ?_
          refine blockQ_normal ?_
          refine thenQ_normal ?_
          obtain ⟨ob2p, h⟩ := chk_some h
          have ob2 : -9223372036854775808 ≤ ((n3 : Int) + (1 : Int)) ∧ ((n3 : Int) + (1 : Int)) ≤ 9223372036854775807 := ⟨by omega, ob2p⟩
          refine q4rr [] [] ⟨26, [(0, q4aS x1), (1, q4aS x2), (5, .i (((n3 + 1) : Nat) : Int))], [], [], 0⟩ (an1 ob2) ?_
          rw [hC0] at h
          exact loopQ_normal (_, (n3 + 1)) (Le.mk rfl rfl ⟨.refl _, .refl _, .refl _, trivial⟩ trivial) h (Nat.lt_succ_self _)
      ·
        replace h := ite_fb hc2 h
        refine AWp.exit ?_
        refine thenQ_exit ?_
        refine thenQ_exit ?_
        refine blockQ_same ?_
        exact joinQ_normal () (Le.mk rfl rfl trivial trivial) h
    ·
      rintro ⟨⟩ h
      replace h := (congrFun hK1 _).symm.trans h
      refine q4rq [] [] ⟨26, [(4, .bool true)], [], [], 0⟩ trivial ?_
      have hret := Option.some.inj h
      subst hret
      refine AWp.ret ?_
      exact bodyQ_ret _ rfl ⟨rfl, rfl⟩ rfl
def f25_L0 (r2 : Int × Int × List (List UInt8)) (K1 : (List (Int × Int × List UInt8)) → Option ((List (List UInt8 × List UInt8 × Int)) × (List (Int × Int × List UInt8)) × Int)) : Nat → (Nat × (List (Int × Int × List UInt8))) → Option ((List (List UInt8 × List UInt8 × Int)) × (List (Int × Int × List UInt8)) × Int)
  | 0, _ => none
  | k + 1, (n3, l4) =>
    if (decide ((n3 : Int) < (((r2.2.2).length : Nat) : Int))) then (
    (f52 (r2.2.2.getD n3 [])).bind fun (r5 : Int) =>
    (f52 (r2.2.2.getD (n3 + 1) [])).bind fun (r6 : Int) =>
    chk ((n3 : Int) < (((r2.2.2).length : Nat) : Int)) <|
    chk (n3 < (r2.2.2).length) <|
    chk (((n3 : Int) + (1 : Int)) ≤ 9223372036854775807) <|
    chk ((((n3 + 1) : Nat) : Int) < (((r2.2.2).length : Nat) : Int)) <|
    chk ((n3 + 1) < (r2.2.2).length) <|
    chk (((n3 : Int) + (2 : Int)) ≤ 9223372036854775807) <|
    chk ((((n3 + 2) : Nat) : Int) < (((r2.2.2).length : Nat) : Int)) <|
    chk ((n3 + 2) < (r2.2.2).length) <|
    chk (((l4).length + 1) * 32 ≤ 140737488355328) <|
    chk (((n3 : Int) + (3 : Int)) ≤ 9223372036854775807) <|
    (f25_L0 r2 K1 k) ((n3 + 3), (l4 ++ [(r5, r6, (r2.2.2.getD (n3 + 2) []))]))
    ) else (
    K1 l4
    )
abbrev f25z0 : Heap := [(2, .cells 30 [vL 3 eSSI (default : List UInt8 × List UInt8 × Int) [], vL 3 eIIS (default : Int × Int × List UInt8) []])]
abbrev f25z1 (x1 : List (List UInt8)) : List (Nat × V) := [(0, vL 1 eS [] x1), (2, .ptr 2 0), (4, .own 6001), (7, .ptr 7 0), (8, .int .i64 (0 : Int)), (1000001, .tab .u64 Lib.pow10Tab)]
abbrev f25z2 (r8 : Int × (List (List UInt8 × List UInt8 × Int))) (l7 : List (Int × Int × List UInt8)) : List V := [vL 3 eSSI (default : List UInt8 × List UInt8 × Int) r8.2, vL 3 eIIS (default : Int × Int × List UInt8) l7]
abbrev f25z3 (r8 : Int × (List (List UInt8 × List UInt8 × Int))) (l7 : List (Int × Int × List UInt8)) : Heap := [(2, .cells 30 [.nils, .nils]), (7, .cells 30 [.own 6002, .own 6201]), (6002, bL 76 3 eSSI (default : List UInt8 × List UInt8 × Int) r8.2), (6201, bL 45 3 eIIS (default : Int × Int × List UInt8) l7)]
abbrev f25z4 : List (Nat × V) := [(2, .ptr 2 0), (3, .int .i64 (2 : Int)), (1000001, .tab .u64 Lib.pow10Tab)]
abbrev f25z5 : List (Nat × V) := [(2, .ptr 2 0), (3, .int .i64 (0 : Int)), (1000001, .tab .u64 Lib.pow10Tab)]
abbrev f25z6 (r2 : Int × Int × List (List UInt8)) (l4 : List (Int × Int × List UInt8)) (r5 : Int) (r6 : Int) (n3 : Nat) : Heap := [(2, .cells 30 [.nils, .nils]), (7, .cells 30 [.nils, .own 6201]), (6001, bL 9 1 eS [] r2.2.2), (6201, bL 45 3 eIIS (default : Int × Int × List UInt8) (l4 ++ [(r5, r6, (r2.2.2.getD (n3 + 2) []))]))]
abbrev f25z7 (x1 : List (List UInt8)) (n3 : Nat) : List (Nat × V) := [(0, vL 1 eS [] x1), (2, .ptr 2 0), (4, .own 6001), (7, .ptr 7 0), (8, .int .i64 (n3 : Int)), (1000001, .tab .u64 Lib.pow10Tab)]
abbrev f25z8 (r2 : Int × Int × List (List UInt8)) := (r2.2.1 != (0 : Int))
abbrev f25z9 : Heap := [(2, .cells 30 [.nils, .nils])]
abbrev f25z10 (r8 : Int × (List (List UInt8 × List UInt8 × Int))) (l7 : List (Int × Int × List UInt8)) : Heap := [(6002, bL 76 3 eSSI (default : List UInt8 × List UInt8 × Int) r8.2), (6201, bL 45 3 eIIS (default : Int × Int × List UInt8) l7)]
abbrev f25z11 : List (Nat × V) := [(2, .ptr 2 0), (3, .int .i64 (2 : Int))]
abbrev f25z12 (r2 : Int × Int × List (List UInt8)) : Heap := [(2, .cells 30 [.nils, .nils]), (7, .cells 30 [.nils, .nils]), (6001, bL 9 1 eS [] r2.2.2)]
abbrev f25z13 (x1 : List (List UInt8)) : List (Nat × V) := [(0, vL 1 eS [] x1), (2, .ptr 2 0), (7, .ptr 7 0), (1000001, .tab .u64 Lib.pow10Tab)]
def f25 (x1 : List (List UInt8)) : Option ((List (List UInt8 × List UInt8 × Int)) × (List (Int × Int × List UInt8)) × Int) :=
  if ((((x1).length : Nat) : Int) == (0 : Int)) then (
  some ([], [], (2 : Int))
  ) else (
  (f51 (x1.getD 0 [])).bind fun (r2 : Int × Int × List (List UInt8)) =>
  chk ((0 : Int) < (((x1).length : Nat) : Int)) <|
  chk (((r2.2.1 != (0 : Int)) == false) = true → 0 ≤ (0 : Int) ∧ (0 : Int) < (((x1).length : Nat) : Int)) <|
  chk ((((r2.2.1 != (0 : Int)) || (r2.1 != (((x1.getD 0 []).length : Nat) : Int))) == false) = true → 0 ≤ (((r2.2.2).length : Nat) : Int) ∧ 1 ≤ (3 : Int)) <|
  if (((r2.2.1 != (0 : Int)) || (r2.1 != (((x1.getD 0 []).length : Nat) : Int))) || (((((r2.2.2).length % 3) : Nat) : Int) != (0 : Int))) then (
  some ([], [], (2 : Int))
  ) else (
  jn (fun (l7 : List (Int × Int × List UInt8)) =>
  (f53 (x1.drop 1)).bind fun (r8 : Int × (List (List UInt8 × List UInt8 × Int))) =>
  chk ((1 : Int) ≤ (((x1).length : Nat) : Int)) <|
  if (r8.1 != (0 : Int)) then (
  some ([], [], (2 : Int))
  ) else (
  (f54 r8.2 l7).bind fun (r9 : Bool) =>
  if (!r9) = true then (
  some ([], [], (2 : Int))
  ) else (
  (f55 r8.2 l7).bind fun (r10 : List (List UInt8)) =>
  (f26 r10 x1).bind fun (r11 : Bool) =>
  if (!r11) then (
  some ([], [], (2 : Int))
  ) else (
  some (r8.2, l7, (0 : Int))
  )
  )
  )
  ) fun (K1 : (List (Int × Int × List UInt8)) → Option ((List (List UInt8 × List UInt8 × Int)) × (List (Int × Int × List UInt8)) × Int)) =>
  f25_L0 r2 K1 FUEL (0, [])
  )
  )
set_option maxRecDepth 100000 in
theorem f25_ok  (x1 : List (List UInt8)) (r : (List (List UInt8 × List UInt8 × Int)) × (List (Int × Int × List UInt8)) × Int) (h : f25 x1 = some r)  : Spec1 Tryz.prog 25 [(1, .tab .u64 Lib.pow10Tab)] [] [] [vL 1 eS [] x1] (.tup [.agg [vL 3 eSSI (default : List UInt8 × List UInt8 × Int) r.1, vL 3 eIIS (default : Int × Int × List UInt8) r.2.1], .int .i64 r.2.2]) [] := by
  unfold f25 at h
  refine Spec1.bodyD [2] 0 _ _ Tryz.func25 rfl Tryz.ntmps25 rfl rfl ?_
  refine q4rq [] [] ⟨90, [(0, q4aS x1), (2, .ptr 2 0), (1000001, .tab .u64 Lib.pow10Tab)], (f25z9), [], 0⟩ trivial ?_
  refine AWp.seq ?_
  refine q4rq [] [] ⟨90, [(0, q4aS x1), (2, .ptr 2 0), (12, .bool ((lZ x1) == (0 : Int))), (1000001, .tab .u64 Lib.pow10Tab)], (f25z9), [], 0⟩ trivial ?_
  refine AWp.cond (b := ((lZ x1) == (0 : Int))) (by kernel_rfl) (fun hc1 => ?_) (fun hc1 => ?_)
  ·
    replace h := ite_tb hc1 h
    refine q4rq [] [] ⟨90, (f25z4), (f25z9), [], 0⟩ (an1 trivial) ?_
    have hret := Option.some.inj h
    subst hret
    refine AWp.le (Le.mk (s' := ⟨90, (f25z11), (f25z0), [], 0⟩) rfl rfl ⟨.refl _, .refl _, trivial⟩ ⟨⟨_, rfl, (.cellsL ⟨.nilL, .nilL, trivial⟩)⟩, trivial⟩) ?_
    refine AWp.ret ?_
    refine thenQ_ret ?_
    exact bodyQ_ret _ rfl ⟨rfl, rfl⟩ rfl
  ·
    replace h := ite_fb hc1 h
    refine AWp.skip ?_
    refine thenQ_normal ?_
    refine AWp.seq ?_
    obtain ⟨r2, hr2, h⟩ := bind_ok h
    obtain ⟨ob0p, h⟩ := chk_some h
    have ob0 : 0 ≤ (0 : Int) ∧ (0 : Int) < (((x1).length : Nat) : Int) := ⟨by omega, ob0p⟩
    refine q4rr [] [(3, ⟨[.str (x1.getD 0 [])], [], [], [(6001, q4bS_9 r2.2.2)], .tup [.own 6001, .i r2.1, .i r2.2.1], [6001], [], []⟩)] ⟨90, [(0, q4aS x1), (2, .ptr 2 0), (4, .own 6001), (5, .i r2.1), (6, .i r2.2.1), (1000001, .tab .u64 Lib.pow10Tab)], [(2, .cells 30 [.nils, .nils]), (6001, q4bS_9 r2.2.2)], [], 0⟩ (an2 ob0 (cpT (Spec1.ren (swapN 3000 6001) (swapN_inv 3000 6001) rfl (f51_ok _ _ hr2)))) ?_
    refine thenQ_normal ?_
    refine AWp.seq ?_
    refine AWp.seq ?_
    obtain ⟨ob1, h⟩ := chk_some h
    have ob2 := idA (((f25z8 r2) == false) = true)
    have ob7 := bqA (f25z8 r2) false
    have ob8 := idA ((((f25z8 r2) || (r2.1 != (((x1.getD 0 []).length : Nat) : Int))) == false) = true)
    obtain ⟨ob9, h⟩ := chk_some h
    have ob12 := bqA ((f25z8 r2) || (r2.1 != (((x1.getD 0 []).length : Nat) : Int))) false
    refine q4rr [] [] ⟨90, [(0, q4aS x1), (2, .ptr 2 0), (4, .own 6001), (37, .bool (((f25z8 r2) || (r2.1 != (((x1.getD 0 []).length : Nat) : Int))) || (((((r2.2.2).length % 3) : Nat) : Int) != (0 : Int)))), (1000001, .tab .u64 Lib.pow10Tab)], [(2, .cells 30 [.nils, .nils]), (6001, q4bS_9 r2.2.2)], [], 0⟩ (ac6 (And.intro ob1 (an1 ob2)) (an1 ob2) (an1 ob2) (an2 ob2 ob2) ob7 (an1 ob8) (an3 (And.intro ob9 (an1 ob8)) (an1 ob8) ob12)) ?_
    refine thenQ_normal ?_
    refine AWp.cond (b := (((f25z8 r2) || (r2.1 != (((x1.getD 0 []).length : Nat) : Int))) || (((((r2.2.2).length % 3) : Nat) : Int) != (0 : Int)))) (by kernel_rfl) (fun hc2 => ?_) (fun hc2 => ?_)
    ·
      replace h := ite_tb hc2 h
      refine q4rq [] [] ⟨90, (f25z4), (f25z9), [], 0⟩ (an1 trivial) ?_
      have hret := Option.some.inj h
      subst hret
      refine AWp.le (Le.mk (s' := ⟨90, (f25z11), (f25z0), [], 0⟩) rfl rfl ⟨.refl _, .refl _, trivial⟩ ⟨⟨_, rfl, (.cellsL ⟨.nilL, .nilL, trivial⟩)⟩, trivial⟩) ?_
      refine AWp.ret ?_
      refine thenQ_ret ?_
      exact bodyQ_ret _ rfl ⟨rfl, rfl⟩ rfl
    ·
      replace h := ite_fb hc2 h
      refine AWp.skip ?_
      refine thenQ_normal ?_
      refine q4rq [] [] ⟨90, [(0, q4aS x1), (2, .ptr 2 0), (4, .own 6001), (7, .ptr 7 0), (1000001, .tab .u64 Lib.pow10Tab)], (f25z12 r2), [], 0⟩ trivial ?_
      obtain ⟨K1, hK1, h⟩ := jn_some h
      refine AWp.join (α := List (Int × Int × List UInt8)) (fun (l7 : List (Int × Int × List UInt8)) => ⟨90, (f25z13 x1), [(2, .cells 30 [.nils, .nils]), (7, .cells 30 [.nils, .own 6201]), (6201, q4bIIS_45 l7)], [], 0⟩) (fun x => K1 x = some r) ?_ ?_
      ·
        refine q4rq [] [] ⟨90, (f25z1 x1), (f25z12 r2), [], 0⟩ trivial ?_
        refine AWp.block ?_
        refine AWp.loopL (α := Nat × (Nat × (List (Int × Int × List UInt8)))) (fun x => match x with | (_, n3, l4) => ⟨90, (f25z7 x1 n3), [(2, .cells 30 [.nils, .nils]), (7, .cells 30 [.nils, .own 6201]), (6001, q4bS_9 r2.2.2), (6201, q4bIIS_45 l4)], [], 0⟩) (fun x => f25_L0 r2 K1 x.1 x.2 = some r) (fun x => x.1) (FUEL, 0, []) (Le.trans (Le.trans (Le.nilOwnC 7 1 6201 45 3 (encF eIIS q4dIIS []) rfl rfl rfl) (Le.mk (s' := ⟨90, (f25z1 x1), [(2, .cells 30 [.nils, .nils]), (7, .cells 30 [.nils, .own 6201]), (6001, q4bS_9 r2.2.2), (6201, q4bIIS_45 [])], [], 0⟩) rfl rfl ⟨.refl _, .refl _, .refl _, .refl _, .refl _, .refl _, trivial⟩ ⟨⟨_, rfl, .refl _⟩, ⟨_, rfl, .refl _⟩, ⟨_, rfl, .refl _⟩, ⟨_, rfl, .refl _⟩, trivial⟩)) (Le.mk (s' := ⟨90, (f25z1 x1), [(2, .cells 30 [.nils, .nils]), (7, .cells 30 [.nils, .own 6201]), (6001, q4bS_9 r2.2.2), (6201, q4bIIS_45 [])], [], 0⟩) rfl rfl ⟨.refl _, .refl _, .refl _, .refl _, .refl _, .refl _, trivial⟩ ⟨⟨_, rfl, .refl _⟩, ⟨_, rfl, .refl _⟩, ⟨_, rfl, .refl _⟩, ⟨_, rfl, .refl _⟩, trivial⟩)) h ?_
        rintro ⟨k0, n3, l4⟩ h
        cases k0 with
        | zero => exact nomatch (show (none : Option ((List (List UInt8 × List UInt8 × Int)) × (List (Int × Int × List UInt8)) × Int)) = some r from h)
        | succ k0 =>
        obtain ⟨C0, hC0⟩ : ∃ C, C = f25_L0 r2 K1 k0 := ⟨_, rfl⟩
        replace h := (f25_L0.eq_2 ..).symm.trans h
        try rw [← hC0] at h
        refine AWp.seq ?_
        refine q4rq [] [] ⟨90, [(0, q4aS x1), (2, .ptr 2 0), (4, .own 6001), (7, .ptr 7 0), (8, .i (n3 : Int)), (42, .bool (decide ((n3 : Int) < (lZ r2.2.2)))), (1000001, .tab .u64 Lib.pow10Tab)], [(2, .cells 30 [.nils, .nils]), (7, .cells 30 [.nils, .own 6201]), (6001, q4bS_9 r2.2.2), (6201, q4bIIS_45 l4)], [], 0⟩ trivial ?_
        refine AWp.cond (b := (decide ((n3 : Int) < (lZ r2.2.2)))) (by kernel_rfl) (fun hc3 => ?_) (fun hc3 => ?_)
        ·
          replace h := ite_tb hc3 h
          refine AWp.skip ?_
          refine thenQ_normal ?_
          refine AWp.seq ?_
          refine AWp.block ?_
          obtain ⟨r5, hr5, h⟩ := bind_ok h
          obtain ⟨r6, hr6, h⟩ := bind_ok h
          obtain ⟨ob13p, h⟩ := chk_some h
          have ob13 : 0 ≤ (n3 : Int) ∧ (n3 : Int) < (((r2.2.2).length : Nat) : Int) := ⟨by omega, ob13p⟩
          obtain ⟨ob14, ob15p, h⟩ := ck2 h
          have ob15 : -9223372036854775808 ≤ ((n3 : Int) + (1 : Int)) ∧ ((n3 : Int) + (1 : Int)) ≤ 9223372036854775807 := ⟨by omega, ob15p⟩
          obtain ⟨ob16p, h⟩ := chk_some h
          have ob16 : 0 ≤ (((n3 + 1) : Nat) : Int) ∧ (((n3 + 1) : Nat) : Int) < (((r2.2.2).length : Nat) : Int) := ⟨by omega, ob16p⟩
          obtain ⟨ob17, ob18p, h⟩ := ck2 h
          have ob18 : -9223372036854775808 ≤ ((n3 : Int) + (2 : Int)) ∧ ((n3 : Int) + (2 : Int)) ≤ 9223372036854775807 := ⟨by omega, ob18p⟩
          obtain ⟨ob19p, h⟩ := chk_some h
          have ob19 : 0 ≤ (((n3 + 2) : Nat) : Int) ∧ (((n3 + 2) : Nat) : Int) < (((r2.2.2).length : Nat) : Int) := ⟨by omega, ob19p⟩
          obtain ⟨ob20, ob21, h⟩ := ck2 h
          refine q4rr [] [(6, ⟨[.str (r2.2.2.getD n3 [])], [], [], [], .i r5, [], [], [1]⟩), (12, ⟨[.str (r2.2.2.getD (n3 + 1) [])], [], [], [], .i r6, [], [], [1]⟩)] ⟨90, (f25z7 x1 n3), [(2, .cells 30 [.nils, .nils]), (7, .cells 30 [.nils, .own 6201]), (6001, q4bS_9 r2.2.2), (6201, .rows 45 3 ((l4).length + 1) (appF (l4).length (encF eIIS q4dIIS l4) (lstF 3 [.i r5, .i r6, .str (r2.2.2.getD (n3 + 2) [])])))], [], 0⟩ (ac6 ob13 ob14 (cpT (f52_ok _ _ hr5)) ob15 ob16 ob17 (an6 (cpT (f52_ok _ _ hr6)) ob18 ob19 ob20 ob21 trivial)) ?_
          refine blockQ_normal ?_
          refine thenQ_normal ?_
          refine AWp.le (Le.mk (s' := ⟨90, (f25z7 x1 n3), (f25z6 r2 l4 r5 r6 n3), [], 0⟩) rfl rfl ⟨.refl _, .refl _, .refl _, .refl _, .refl _, .refl _, trivial⟩ ⟨⟨_, rfl, .refl _⟩, ⟨_, rfl, .refl _⟩, ⟨_, rfl, .refl _⟩, ⟨_, rfl, (BLe.of (RL.app (RL.self _) (RL.lst (enc := eIIS) [(r5, r6, (r2.2.2.getD (n3 + 2) []))] rfl rfl (fun _ => rfl))))⟩, trivial⟩) ?_
          obtain ⟨ob22p, h⟩ := chk_some h
          have ob22 : -9223372036854775808 ≤ ((n3 : Int) + (3 : Int)) ∧ ((n3 : Int) + (3 : Int)) ≤ 9223372036854775807 := ⟨by omega, ob22p⟩
          refine q4rr [] [] ⟨90, [(0, q4aS x1), (2, .ptr 2 0), (4, .own 6001), (7, .ptr 7 0), (8, .i (((n3 + 3) : Nat) : Int)), (1000001, .tab .u64 Lib.pow10Tab)], (f25z6 r2 l4 r5 r6 n3), [], 0⟩ (an1 ob22) ?_
          rw [hC0] at h
          exact loopQ_normal (_, (n3 + 3), (l4 ++ [(r5, r6, (r2.2.2.getD (n3 + 2) []))])) (Le.mk rfl rfl ⟨.refl _, .refl _, .refl _, .refl _, .refl _, .refl _, trivial⟩ ⟨⟨_, rfl, .refl _⟩, ⟨_, rfl, .refl _⟩, ⟨_, rfl, .refl _⟩, ⟨_, rfl, .refl _⟩, trivial⟩) h (Nat.lt_succ_self _)
        ·
          replace h := ite_fb hc3 h
          refine AWp.exit ?_
          refine thenQ_exit ?_
          refine thenQ_exit ?_
          refine blockQ_same ?_
          exact joinQ_normal (l4) (Le.mk rfl rfl ⟨.refl _, .refl _, .refl _, .refl _, trivial⟩ ⟨⟨_, rfl, .refl _⟩, ⟨_, rfl, .refl _⟩, ⟨_, rfl, .refl _⟩, trivial⟩) h
      ·
        rintro l7 h
        replace h := (congrFun hK1 _).symm.trans h
        refine AWp.seq ?_
        obtain ⟨r8, hr8, h⟩ := bind_ok h
        obtain ⟨ob23p, h⟩ := chk_some h
        have ob23 : 0 ≤ (1 : Int) ∧ (1 : Int) ≤ (((x1).length : Nat) : Int) := ⟨by omega, ob23p⟩
        refine q4rr [] [(2, ⟨[q4aS (x1.drop 1)], [], [], [(6002, q4bSSI_76 r8.2)], .tup [.own 6002, .i r8.1], [6002], [], []⟩)] ⟨90, [(0, q4aS x1), (2, .ptr 2 0), (6, .i r8.1), (7, .ptr 7 0), (9, .own 6002), (1000001, .tab .u64 Lib.pow10Tab)], [(2, .cells 30 [.nils, .nils]), (7, .cells 30 [.nils, .own 6201]), (6002, q4bSSI_76 r8.2), (6201, q4bIIS_45 l7)], [], 0⟩ (an2 ob23 (cpL (c := true) [] [] [.arr 1 ((x1).length - 1) (fun i j => (encF eS [] x1) (i + 1) j)] (fun _ => (Spec1.ren (swapN 3000 6002) (swapN_inv 3000 6002) rfl (f53_ok _ _ hr8))) (fun _ => ⟨VLe.dropL, trivial⟩) (.inl rfl))) ?_
        refine thenQ_normal ?_
        refine AWp.seq ?_
        refine q4rq [] [] ⟨90, [(0, q4aS x1), (2, .ptr 2 0), (7, .ptr 7 0), (9, .own 6002), (74, .bool (r8.1 != (0 : Int))), (1000001, .tab .u64 Lib.pow10Tab)], [(2, .cells 30 [.nils, .nils]), (7, .cells 30 [.nils, .own 6201]), (6002, q4bSSI_76 r8.2), (6201, q4bIIS_45 l7)], [], 0⟩ trivial ?_
        refine AWp.cond (b := (r8.1 != (0 : Int))) (by kernel_rfl) (fun hc4 => ?_) (fun hc4 => ?_)
        ·
          replace h := ite_tb hc4 h
          refine q4rq [] [] ⟨90, (f25z4), (f25z9), [], 0⟩ (an1 trivial) ?_
          have hret := Option.some.inj h
          subst hret
          refine AWp.le (Le.mk (s' := ⟨90, (f25z11), (f25z0), [], 0⟩) rfl rfl ⟨.refl _, .refl _, trivial⟩ ⟨⟨_, rfl, (.cellsL ⟨.nilL, .nilL, trivial⟩)⟩, trivial⟩) ?_
          refine AWp.ret ?_
          refine thenQ_ret ?_
          exact bodyQ_ret _ rfl ⟨rfl, rfl⟩ rfl
        ·
          replace h := ite_fb hc4 h
          refine AWp.skip ?_
          refine thenQ_normal ?_
          refine q4rq [] [] ⟨90, (f25z13 x1), (f25z3 r8 l7), [], 0⟩ (an1 trivial) ?_
          refine AWp.seq ?_
          refine AWp.seq ?_
          obtain ⟨r9, hr9, h⟩ := bind_ok h
          by_cases hg15_3 : (!r9) = true
          ·
            replace h := ite_t hg15_3 h
            have ob24 := idA (false = true)
            have ob28 : true = true → true = false → false = true := by first | decide | omega | simp | (intro h; cases h)
            refine q4rr [] [(1, ⟨[.agg (f25z2 r8 l7)], [], [], [], .bool r9, [], [6002, 6201], []⟩), (3, ⟨[], [], [], [], (.bool true), [], [0], []⟩), (5, ⟨[], [], [], [], .any, [], [], []⟩), (7, ⟨[], [], [], [], .bool false, [], [], []⟩)] ⟨90, [(2, .ptr 2 0), (7, .ptr 7 0), (87, .bool true), (1000001, .tab .u64 Lib.pow10Tab)], (f25z3 r8 l7), [], 0⟩ (an6 (cpL (c := true) (f25z10 r8 l7) [6002, 6201] [.agg [.own 6002, .own 6201]] (fun _ => (f54_ok _ _ _ hr9)) (fun _ => ⟨.refl _, trivial⟩) (.inr ⟨rfl, trivial⟩)) (show ((.bool (!r9)) : V) = (.bool true) from (congrArg (fun x => ((.bool x) : V)) hg15_3)) (And.intro (show (callP Tryz.prog false 55 [] [] [] [] [] [.agg [.own 6002, .own 6201]] [] (.any) []) from ⟨nofun, nofun, .inl rfl⟩) (an1 ob24)) (And.intro (show (callP Tryz.prog false 26 [] [] [] [] [] [.any, q4aS x1] [] (.bool false) []) from ⟨nofun, nofun, .inl rfl⟩) (an2 ob24 ob24)) (an1 ob24) ob28) ?_
            refine thenQ_normal ?_
            refine AWp.cond (b := true) (by kernel_rfl) (fun hc => ?_) (fun hc => ?_)
            ·
              clear hc
              refine q4rq [] [] ⟨90, (f25z4), (f25z9), [], 0⟩ (an1 trivial) ?_
              have hret := Option.some.inj h
              subst hret
              refine AWp.le (Le.mk (s' := ⟨90, (f25z11), (f25z0), [], 0⟩) rfl rfl ⟨.refl _, .refl _, trivial⟩ ⟨⟨_, rfl, (.cellsL ⟨.nilL, .nilL, trivial⟩)⟩, trivial⟩) ?_
              refine AWp.ret ?_
              refine thenQ_ret ?_
              exact bodyQ_ret _ rfl ⟨rfl, rfl⟩ rfl
            ·
              cases hc
          ·
            replace h := ite_f hg15_3 h
            obtain ⟨r10, hr10, h⟩ := bind_ok h
            obtain ⟨r11, hr11, h⟩ := bind_ok h
            have ob24 := idA (true = true)
            have ob27 : true = true → false = false → true = true := by first | decide | omega | simp | (intro h; cases h)
            refine q4rr [] [(1, ⟨[.agg (f25z2 r8 l7)], [], [], [], .bool r9, [], [6002, 6201], []⟩), (3, ⟨[], [], [], [], (.bool false), [], [0], []⟩), (5, ⟨[.agg (f25z2 r8 l7)], [], [], [(6003, q4bS_9 r10)], .own 6003, [6003], [6002, 6201], [1]⟩), (7, ⟨[q4aS r10, q4aS x1], [], [], [], .bool r11, [], [6003], []⟩)] ⟨90, [(2, .ptr 2 0), (7, .ptr 7 0), (87, .bool (!r11)), (1000001, .tab .u64 Lib.pow10Tab)], (f25z3 r8 l7), [], 0⟩ (an6 (cpL (c := true) (f25z10 r8 l7) [6002, 6201] [.agg [.own 6002, .own 6201]] (fun _ => (f54_ok _ _ _ hr9)) (fun _ => ⟨.refl _, trivial⟩) (.inr ⟨rfl, trivial⟩)) (show ((.bool (!r9)) : V) = (.bool false) from (congrArg (fun x => ((.bool x) : V)) (Bool.eq_false_iff.2 hg15_3))) (And.intro (cpL (c := true) (f25z10 r8 l7) [6002, 6201] [.agg [.own 6002, .own 6201]] (fun _ => (Spec1.ren (swapN 3000 6003) (swapN_inv 3000 6003) rfl (f55_ok _ _ _ hr10))) (fun _ => ⟨.refl _, trivial⟩) (.inr ⟨rfl, ⟨(fun _ _ _ _ => eS_flat _ _), trivial⟩⟩)) (an1 ob24)) (And.intro (cpL (c := true) [(6003, q4bS_9 r10)] [6003] [.own 6003, q4aS x1] (fun _ => (f26_ok _ _ _ hr11)) (fun _ => ⟨.refl _, .refl _, trivial⟩) (.inr ⟨rfl, trivial⟩)) (an1 ob24)) (an1 ob24) ob27) ?_
            refine thenQ_normal ?_
            refine AWp.cond (b := (!r11)) (by kernel_rfl) (fun hc6 => ?_) (fun hc6 => ?_)
            ·
              replace h := ite_tb hc6 h
              refine q4rq [] [] ⟨90, (f25z4), (f25z9), [], 0⟩ (an1 trivial) ?_
              have hret := Option.some.inj h
              subst hret
              refine AWp.le (Le.mk (s' := ⟨90, (f25z11), (f25z0), [], 0⟩) rfl rfl ⟨.refl _, .refl _, trivial⟩ ⟨⟨_, rfl, (.cellsL ⟨.nilL, .nilL, trivial⟩)⟩, trivial⟩) ?_
              refine AWp.ret ?_
              refine thenQ_ret ?_
              exact bodyQ_ret _ rfl ⟨rfl, rfl⟩ rfl
            ·
              replace h := ite_fb hc6 h
              refine AWp.skip ?_
              refine thenQ_normal ?_
              refine q4rq [] [] ⟨90, (f25z5), [(2, .cells 30 [.own 6002, .own 6201]), (6002, q4bSSI_76 r8.2), (6201, q4bIIS_45 l7)], [], 0⟩ (an1 trivial) ?_
              refine AWp.le (Le.trans (Le.freeze 6002 rfl rfl) (Le.mk (s' := ⟨90, (f25z5), [(2, .cells 30 [q4aSSI r8.2, .own 6201]), (6201, q4bIIS_45 l7)], [], 0⟩) rfl rfl ⟨.refl _, .refl _, .refl _, trivial⟩ ⟨⟨_, rfl, .refl _⟩, ⟨_, rfl, .refl _⟩, trivial⟩)) ?_
              refine AWp.le (Le.trans (Le.freeze 6201 rfl rfl) (Le.mk (s' := ⟨90, (f25z5), [(2, .cells 30 (f25z2 r8 l7))], [], 0⟩) rfl rfl ⟨.refl _, .refl _, .refl _, trivial⟩ ⟨⟨_, rfl, .refl _⟩, trivial⟩)) ?_
              have hret := Option.some.inj h
              subst hret
              refine AWp.le (Le.mk (s' := ⟨90, [(2, .ptr 2 0), (3, .i (0 : Int))], [(2, .cells 30 (f25z2 r8 l7))], [], 0⟩) rfl rfl ⟨.refl _, .refl _, trivial⟩ ⟨⟨_, rfl, .refl _⟩, trivial⟩) ?_
              refine AWp.ret ?_
              exact bodyQ_ret _ rfl ⟨rfl, rfl⟩ rfl
def f6_L0 (x1 : List (List UInt8)) (K1 : Unit → Option Bool) : Nat → Nat → Option Bool
  | 0, _ => none
  | k + 1, n2 =>
    if (decide ((n2 : Int) < (((x1).length : Nat) : Int))) then (
    chk ((n2 : Int) < (((x1).length : Nat) : Int)) <|
    if (decide ((((x1.getD n2 []).length : Nat) : Int) > (1000 : Int))) then (
    (f9 ).bind fun (r3 : Bool) =>
    some r3
    ) else (
    chk (((n2 : Int) + (1 : Int)) ≤ 9223372036854775807) <|
    (f6_L0 x1 K1 k) (n2 + 1)
    )
    ) else (
    K1 ()
    )
theorem f6_L0_e2 (x1 : List (List UInt8)) (K1 : Unit → Option Bool) (k : Nat) (n2 : Nat) : f6_L0 x1 K1 (k + 1) n2 =
    if (decide ((n2 : Int) < (((x1).length : Nat) : Int))) then (
    chk ((n2 : Int) < (((x1).length : Nat) : Int)) <|
    if (decide ((((x1.getD n2 []).length : Nat) : Int) > (1000 : Int))) then (
    (f9 ).bind fun (r3 : Bool) =>
    some r3
    ) else (
    chk (((n2 : Int) + (1 : Int)) ≤ 9223372036854775807) <|
    (f6_L0 x1 K1 k) (n2 + 1)
    )
    ) else (
    K1 ()
    ) := rfl
abbrev f6z0 (r7 : (List (List UInt8 × List UInt8 × Int)) × (List (Int × Int × List UInt8)) × Int) : List V := [vL 3 eSSI (default : List UInt8 × List UInt8 × Int) r7.1, vL 3 eIIS (default : Int × Int × List UInt8) r7.2.1]
abbrev f6z1 (r8 : (List (List UInt8 × List UInt8 × Int)) × (List (Int × Int × List UInt8)) × Int) : List V := [vL 3 eSSI (default : List UInt8 × List UInt8 × Int) r8.1, vL 3 eIIS (default : Int × Int × List UInt8) r8.2.1]
abbrev f6z2 (x1 : List (List UInt8)) : List (Nat × V) := [(0, vL 1 eS [] x1), (1000001, .tab .u64 Lib.pow10Tab), (1000002, errG), (1000003, errG)]
def f6 (x1 : List (List UInt8)) : Option Bool :=
  jn (fun (_ : Unit) =>
  (f9 ).bind fun (r4 : Bool) =>
  if ((!r4) || (decide ((((x1).length : Nat) : Int) > (15 : Int)))) then (
  (f9 ).bind fun (r5 : Bool) =>
  some r5
  ) else (
  (f24 x1).bind fun (r6 : List (List UInt8)) =>
  (f23 r6).bind fun (r7 : (List (List UInt8 × List UInt8 × Int)) × (List (Int × Int × List UInt8)) × Int) =>
  (f25 x1).bind fun (r8 : (List (List UInt8 × List UInt8 × Int)) × (List (Int × Int × List UInt8)) × Int) =>
  optc ((r7.2.2 == r8.2.2) == true) (f14 r7.1 r7.2.1 r8.1 r8.2.1) fun (r9 : Bool) =>
  if ((r7.2.2 == r8.2.2) && r9) = true then (
  if (r7.2.2 != (0 : Int)) = true then (
  some true
  ) else (
  (f27 r7.1 r7.2.1).bind fun (r10 : List (List UInt8)) =>
  (f26 r10 x1).bind fun (r11 : Bool) =>
  some r11
  )
  ) else (
  chk (false = true → false = true → (r7.2.2 != (0 : Int)) = false → false = true) <|
  some false
  )
  )
  ) fun (K1 : Unit → Option Bool) =>
  f6_L0 x1 K1 FUEL 0
set_option maxRecDepth 100000 in
theorem f6_ok  (x1 : List (List UInt8)) (r : Bool) (h : f6 x1 = some r)  : Spec1 Tryz.prog 6 [(1, .tab .u64 Lib.pow10Tab), (2, errG), (3, errG)] [] [] [vL 1 eS [] x1] (.bool r) [] := by
  unfold f6 at h
  refine Spec1.body 0 _ _ Tryz.func6 rfl Tryz.ntmps6 rfl rfl ?_
  refine q4rq [] [] ⟨57, (f6z2 x1), [], [], 0⟩ trivial ?_
  obtain ⟨K1, hK1, h⟩ := jn_some h
  refine AWp.join (α := Unit) (fun (x : Unit) => match x with | () => ⟨57, (f6z2 x1), [], [], 0⟩) (fun x => K1 x = some r) ?_ ?_
  ·
    refine q4rq [] [] ⟨57, [(0, q4aS x1), (9, q4aS x1), (10, .i (lZ x1)), (11, .i (0 : Int)), (1000001, .tab .u64 Lib.pow10Tab), (1000002, errG), (1000003, errG)], [], [], 0⟩ trivial ?_
    refine AWp.block ?_
    refine AWp.loopL (α := Nat × Nat) (fun x => match x with | (_, n2) => ⟨57, [(0, q4aS x1), (9, q4aS x1), (10, .i (lZ x1)), (11, .i (n2 : Int)), (1000001, .tab .u64 Lib.pow10Tab), (1000002, errG), (1000003, errG)], [], [], 0⟩) (fun x => f6_L0 x1 K1 x.1 x.2 = some r) (fun x => x.1) (FUEL, 0) (Le.mk (s' := ⟨57, [(0, q4aS x1), (9, q4aS x1), (10, .i (lZ x1)), (11, .i (0 : Int)), (1000001, .tab .u64 Lib.pow10Tab), (1000002, errG), (1000003, errG)], [], [], 0⟩) rfl rfl ⟨.refl _, .refl _, .refl _, .refl _, .refl _, .refl _, .refl _, trivial⟩ trivial) h ?_
    rintro ⟨k0, n2⟩ h
    cases k0 with
    | zero => exact nomatch (show (none : Option Bool) = some r from h)
    | succ k0 =>
    obtain ⟨C0, hC0⟩ : ∃ C, C = f6_L0 x1 K1 k0 := ⟨_, rfl⟩
    replace h := (f6_L0_e2 ..).symm.trans h
    try rw [← hC0] at h
    refine q4rq [] [] ⟨57, [(0, q4aS x1), (9, q4aS x1), (10, .i (lZ x1)), (11, .i (n2 : Int)), (12, .bool (decide ((n2 : Int) < (lZ x1)))), (1000001, .tab .u64 Lib.pow10Tab), (1000002, errG), (1000003, errG)], [], [], 0⟩ trivial ?_
    refine AWp.seq ?_
    refine AWp.cond (b := (decide ((n2 : Int) < (lZ x1)))) (by kernel_rfl) (fun hc1 => ?_) (fun hc1 => ?_)
    ·
      replace h := ite_tb hc1 h
      refine AWp.skip ?_
      refine thenQ_normal ?_
      refine AWp.seq ?_
      refine AWp.block ?_
      refine AWp.seq ?_
      obtain ⟨ob0p, h⟩ := chk_some h
      have ob0 : 0 ≤ (n2 : Int) ∧ (n2 : Int) < (((x1).length : Nat) : Int) := ⟨by omega, ob0p⟩
      refine q4rr [] [] ⟨57, [(0, q4aS x1), (4, .str (x1.getD n2 [])), (9, q4aS x1), (10, .i (lZ x1)), (11, .i (n2 : Int)), (1000001, .tab .u64 Lib.pow10Tab), (1000002, errG), (1000003, errG)], [], [], 0⟩ (an1 ob0) ?_
      refine thenQ_normal ?_
      refine q4rq [] [] ⟨57, [(0, q4aS x1), (9, q4aS x1), (10, .i (lZ x1)), (11, .i (n2 : Int)), (17, .bool (decide ((((x1.getD n2 []).length : Nat) : Int) > (1000 : Int)))), (1000001, .tab .u64 Lib.pow10Tab), (1000002, errG), (1000003, errG)], [], [], 0⟩ trivial ?_
      refine AWp.cond (b := (decide ((((x1.getD n2 []).length : Nat) : Int) > (1000 : Int)))) (by kernel_rfl) (fun hc2 => ?_) (fun hc2 => ?_)
      ·
        replace h := ite_tb hc2 h
        refine AWp.seq ?_
        obtain ⟨r3, hr3, h⟩ := bind_ok h
        refine q4rr [] [(0, ⟨[], [], [], [], .bool r3, [], [], [1]⟩)] ⟨57, [(2, .bool r3), (1000001, .tab .u64 Lib.pow10Tab), (1000002, errG), (1000003, errG)], [], [], 0⟩ (an1 (cpT (f9_ok _ hr3))) ?_
        refine thenQ_normal ?_
        have hret := Option.some.inj h
        subst hret
        refine AWp.le (Le.mk (s' := ⟨57, [(2, .bool r3)], [], [], 0⟩) rfl rfl ⟨.refl _, trivial⟩ trivial) ?_
        refine AWp.ret ?_
        refine blockQ_ret ?_
        refine thenQ_ret ?_
        refine thenQ_ret ?_
        refine blockQ_ret ?_
        refine joinQ_ret ?_
        exact bodyQ_ret _ rfl ⟨rfl, rfl⟩ rfl
      ·
        replace h := ite_fb hc2 h
        refine AWp.skip ?_
        refine blockQ_normal ?_
        refine thenQ_normal ?_
        obtain ⟨ob1p, h⟩ := chk_some h
        have ob1 : -9223372036854775808 ≤ ((n2 : Int) + (1 : Int)) ∧ ((n2 : Int) + (1 : Int)) ≤ 9223372036854775807 := ⟨by omega, ob1p⟩
        refine q4rr [] [] ⟨57, [(0, q4aS x1), (9, q4aS x1), (10, .i (lZ x1)), (11, .i (((n2 + 1) : Nat) : Int)), (1000001, .tab .u64 Lib.pow10Tab), (1000002, errG), (1000003, errG)], [], [], 0⟩ (an1 ob1) ?_
        rw [hC0] at h
        exact loopQ_normal (_, (n2 + 1)) (Le.mk rfl rfl ⟨.refl _, .refl _, .refl _, .refl _, .refl _, .refl _, .refl _, trivial⟩ trivial) h (Nat.lt_succ_self _)
    ·
      replace h := ite_fb hc1 h
      refine AWp.exit ?_
      refine thenQ_exit ?_
      refine thenQ_exit ?_
      refine blockQ_same ?_
      exact joinQ_normal () (Le.mk rfl rfl ⟨.refl _, .refl _, .refl _, .refl _, trivial⟩ trivial) h
  ·
    rintro ⟨⟩ h
    replace h := (congrFun hK1 _).symm.trans h
    refine AWp.seq ?_
    refine AWp.seq ?_
    obtain ⟨r4, hr4, h⟩ := bind_ok h
    have ob2 := idA (((!r4) == false) = true)
    have ob4 := bqA (!r4) false
    refine q4rr [] [(0, ⟨[], [], [], [], .bool r4, [], [], [1]⟩)] ⟨57, [(0, q4aS x1), (26, .bool ((!r4) || (decide ((lZ x1) > (15 : Int))))), (1000001, .tab .u64 Lib.pow10Tab), (1000002, errG), (1000003, errG)], [], [], 0⟩ (an4 (cpT (f9_ok _ hr4)) (an1 ob2) (an1 ob2) ob4) ?_
    refine thenQ_normal ?_
    refine AWp.cond (b := ((!r4) || (decide ((lZ x1) > (15 : Int))))) (by kernel_rfl) (fun hc3 => ?_) (fun hc3 => ?_)
    ·
      replace h := ite_tb hc3 h
      refine AWp.seq ?_
      obtain ⟨r5, hr5, h⟩ := bind_ok h
      refine q4rr [] [(0, ⟨[], [], [], [], .bool r5, [], [], [1]⟩)] ⟨57, [(2, .bool r5), (1000001, .tab .u64 Lib.pow10Tab), (1000002, errG), (1000003, errG)], [], [], 0⟩ (an1 (cpT (f9_ok _ hr5))) ?_
      refine thenQ_normal ?_
      have hret := Option.some.inj h
      subst hret
      refine AWp.le (Le.mk (s' := ⟨57, [(2, .bool r5)], [], [], 0⟩) rfl rfl ⟨.refl _, trivial⟩ trivial) ?_
      refine AWp.ret ?_
      refine thenQ_ret ?_
      exact bodyQ_ret _ rfl ⟨rfl, rfl⟩ rfl
    ·
      replace h := ite_fb hc3 h
      refine AWp.skip ?_
      refine thenQ_normal ?_
      refine AWp.seq ?_
      obtain ⟨r6, hr6, h⟩ := bind_ok h
      obtain ⟨r7, hr7, h⟩ := bind_ok h
      refine q4rr [] [(1, ⟨[q4aS x1], [], [], [(6001, q4bS_9 r6)], .own 6001, [6001], [], []⟩), (2, ⟨[.own 6001], [6001], [], [], .tup [.agg (f6z0 r7), .i r7.2.2], [], [], [1, 2, 3]⟩)] ⟨57, [(0, q4aS x1), (5, .ptr 5 0), (6, .i r7.2.2), (1000001, .tab .u64 Lib.pow10Tab), (1000002, errG), (1000003, errG)], [(5, .cells 30 (f6z0 r7))], [], 0⟩ (an3 (cpT (Spec1.ren (swapN 3000 6001) (swapN_inv 3000 6001) rfl (f24_ok _ _ hr6))) (show (callP Tryz.prog true 23 [(1, .tab .u64 Lib.pow10Tab), (2, errG), (3, errG)] [] [(6001, q4bS_9 r6)] [] [] [.own 6001] [.own 6001] (.tup [.agg (f6z0 r7), .i r7.2.2]) []) from ⟨fun _ => (Spec1.pre (f23_ok _ _ hr7) rfl rfl rfl (Le.trans (Le.freeze 6001 rfl rfl) (Le.mk (s' := ⟨1, [(0, q4aS r6), (1000001, .tab .u64 Lib.pow10Tab), (1000002, errG), (1000003, errG)], [], [], 0⟩) rfl rfl ⟨.refl _, .refl _, .refl _, .refl _, trivial⟩ trivial))), fun _ => ⟨.refl _, trivial⟩, .inl rfl⟩) trivial) ?_
      refine thenQ_normal ?_
      refine AWp.seq ?_
      obtain ⟨r8, hr8, h⟩ := bind_ok h
      refine q4rr [] [(1, ⟨[q4aS x1], [], [], [], .tup [.agg (f6z1 r8), .i r8.2.2], [], [], [1]⟩)] ⟨57, [(0, q4aS x1), (5, .ptr 5 0), (6, .i r7.2.2), (7, .ptr 7 0), (8, .i r8.2.2), (1000001, .tab .u64 Lib.pow10Tab), (1000002, errG), (1000003, errG)], [(5, .cells 30 (f6z0 r7)), (7, .cells 30 (f6z1 r8))], [], 0⟩ (an2 (cpT (f25_ok _ _ hr8)) trivial) ?_
      refine thenQ_normal ?_
      refine AWp.seq ?_
      obtain ⟨r9, hr9, h⟩ := optc_some h
      by_cases hg11_8 : ((r7.2.2 == r8.2.2) && r9) = true
      ·
        replace h := ite_t hg11_8 h
        by_cases hg11_11 : (r7.2.2 != (0 : Int)) = true
        ·
          replace h := ite_t hg11_11 h
          have ob5 := idA (((r7.2.2 == r8.2.2) == true) = true)
          have ob7 := bqA (r7.2.2 == r8.2.2) true
          have ob8 := idA (true = true)
          have ob10 := idA (false = true)
          have ob13 : true = true → true = true → true = false → false = true := by first | decide | omega | simp | (intro h; cases h)
          have ob15 : true = true → true = true → true = true := fun _ h => h
          refine q4rr [] [(6, ⟨[.agg (f6z0 r7), .agg (f6z1 r8)], [], [], [], .bool r9, [], [], []⟩), (8, ⟨[], [], [], [], (.bool true), [], [0], []⟩), (11, ⟨[], [], [], [], (.opt true (.bool true)), [], [0], []⟩), (13, ⟨[], [], [], [], .any, [], [], []⟩), (15, ⟨[], [], [], [], .bool false, [], [], []⟩)] ⟨57, [(2, .bool true), (1000001, .tab .u64 Lib.pow10Tab), (1000002, errG), (1000003, errG)], [], [], 0⟩ (ac6 (And.intro (cpC fun hc => (f14_ok _ _ _ _ _ (hr9 hc))) (an2 ob5 ob5)) ob7 (show ((.bool ((r7.2.2 == r8.2.2) && r9)) : V) = (.bool true) from (congrArg (fun x => ((.bool x) : V)) hg11_8)) (an1 ob8) (And.intro (an1 ob8) (show ((.opt true (.bool (r7.2.2 != (0 : Int)))) : V) = (.opt true (.bool true)) from (congrArg (fun x => ((.opt true (.bool x)) : V)) hg11_11))) (And.intro (show (callP Tryz.prog false 27 [] [] [] [] [] [.agg (f6z0 r7)] [] (.any) []) from ⟨nofun, nofun, .inl rfl⟩) (an1 ob10)) (an3 (And.intro (show (callP Tryz.prog false 26 [] [] [] [] [] [.any, q4aS x1] [] (.bool false) []) from ⟨nofun, nofun, .inl rfl⟩) (an2 ob10 ob10)) (And.intro ob13 (an1 ob8)) ob15)) ?_
          refine thenQ_normal ?_
          have hret := Option.some.inj h
          subst hret
          refine AWp.le (Le.mk (s' := ⟨57, [(2, .bool true)], [], [], 0⟩) rfl rfl ⟨.refl _, trivial⟩ trivial) ?_
          refine AWp.ret ?_
          exact bodyQ_ret _ rfl ⟨rfl, rfl⟩ rfl
        ·
          replace h := ite_f hg11_11 h
          obtain ⟨r10, hr10, h⟩ := bind_ok h
          obtain ⟨r11, hr11, h⟩ := bind_ok h
          have ob5 := idA (((r7.2.2 == r8.2.2) == true) = true)
          have ob7 := bqA (r7.2.2 == r8.2.2) true
          have ob8 := idA (true = true)
          have ob12 : true = true → true = true → false = false → true = true := by first | decide | omega | simp | (intro h; cases h)
          have ob14 : true = true → true = true → true = true := fun _ h => h
          refine q4rr [] [(6, ⟨[.agg (f6z0 r7), .agg (f6z1 r8)], [], [], [], .bool r9, [], [], []⟩), (8, ⟨[], [], [], [], (.bool true), [], [0], []⟩), (11, ⟨[], [], [], [], (.opt true (.bool false)), [], [0], []⟩), (13, ⟨[.agg (f6z0 r7)], [], [], [(6002, q4bS_9 r10)], .own 6002, [6002], [], [1]⟩), (15, ⟨[q4aS r10, q4aS x1], [], [], [], .bool r11, [], [6002], []⟩)] ⟨57, [(2, .bool r11), (1000001, .tab .u64 Lib.pow10Tab), (1000002, errG), (1000003, errG)], [], [], 0⟩ (ac6 (And.intro (cpC fun hc => (f14_ok _ _ _ _ _ (hr9 hc))) (an2 ob5 ob5)) ob7 (show ((.bool ((r7.2.2 == r8.2.2) && r9)) : V) = (.bool true) from (congrArg (fun x => ((.bool x) : V)) hg11_8)) (an1 ob8) (And.intro (an1 ob8) (show ((.opt true (.bool (r7.2.2 != (0 : Int)))) : V) = (.opt true (.bool false)) from (congrArg (fun x => ((.opt true (.bool x)) : V)) (Bool.eq_false_iff.2 hg11_11)))) (And.intro (cpT (Spec1.ren (swapN 3000 6002) (swapN_inv 3000 6002) rfl (f27_ok _ _ _ hr10))) (an1 ob8)) (an3 (And.intro (cpL (c := true) [(6002, q4bS_9 r10)] [6002] [.own 6002, q4aS x1] (fun _ => (f26_ok _ _ _ hr11)) (fun _ => ⟨.refl _, .refl _, trivial⟩) (.inr ⟨rfl, trivial⟩)) (an1 ob8)) (And.intro ob12 (an1 ob8)) ob14)) ?_
          refine thenQ_normal ?_
          have hret := Option.some.inj h
          subst hret
          refine AWp.le (Le.mk (s' := ⟨57, [(2, .bool r11)], [], [], 0⟩) rfl rfl ⟨.refl _, trivial⟩ trivial) ?_
          refine AWp.ret ?_
          exact bodyQ_ret _ rfl ⟨rfl, rfl⟩ rfl
      ·
        replace h := ite_f hg11_8 h
        have ob5 := idA (((r7.2.2 == r8.2.2) == true) = true)
        have ob7 := bqA (r7.2.2 == r8.2.2) true
        have ob8 := idA (false = true)
        obtain ⟨ob13, h⟩ := chk_some h
        have ob15 : true = true → false = true → false = true := fun _ h => h
        refine q4rr [] [(6, ⟨[.agg (f6z0 r7), .agg (f6z1 r8)], [], [], [], .bool r9, [], [], []⟩), (8, ⟨[], [], [], [], (.bool false), [], [0], []⟩), (13, ⟨[], [], [], [], .any, [], [], []⟩), (15, ⟨[], [], [], [], .bool false, [], [], []⟩)] ⟨57, [(2, .bool false), (1000001, .tab .u64 Lib.pow10Tab), (1000002, errG), (1000003, errG)], [], [], 0⟩ (ac6 (And.intro (cpC fun hc => (f14_ok _ _ _ _ _ (hr9 hc))) (an2 ob5 ob5)) ob7 (show ((.bool ((r7.2.2 == r8.2.2) && r9)) : V) = (.bool false) from (congrArg (fun x => ((.bool x) : V)) (Bool.eq_false_iff.2 hg11_8))) (an1 ob8) (an1 ob8) (And.intro (show (callP Tryz.prog false 27 [] [] [] [] [] [.agg (f6z0 r7)] [] (.any) []) from ⟨nofun, nofun, .inl rfl⟩) (an1 ob8)) (an3 (And.intro (show (callP Tryz.prog false 26 [] [] [] [] [] [.any, q4aS x1] [] (.bool false) []) from ⟨nofun, nofun, .inl rfl⟩) (an2 ob8 ob8)) (And.intro ob13 (an1 ob8)) ob15)) ?_
        refine thenQ_normal ?_
        have hret := Option.some.inj h
        subst hret
        refine AWp.le (Le.mk (s' := ⟨57, [(2, .bool false)], [], [], 0⟩) rfl rfl ⟨.refl _, trivial⟩ trivial) ?_
        refine AWp.ret ?_
        exact bodyQ_ret _ rfl ⟨rfl, rfl⟩ rfl
end Go.Abs
