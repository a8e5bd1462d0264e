/- Part 21 of the proof: Cmp49z, X49z. -/
import Derived.Test.YteiljhpgpdmmeaaGreatDoorSesrstZ20
import Derived.Test.YteiljhpgpdmmeaaGreatDoorProg
import Derived.Lib.Strings
import Derived.Lib.Slices
import Derived.Lib.Walk
namespace Go.Abs
open Go Go.Proofs
set_option maxHeartbeats 1000000 in
set_option maxRecDepth 100000 in
theorem cmpString (a b : ByteArray) (w : World) :
    Calls Tryz.prog 141 #[.string a, .string b] w fun e w' => e = .returned (.int .i64 (Lib.compareBytes a.data.toList b.data.toList)) ∧ w' = w := by
  go_enter Tryz.func141, Tryz.ntmps141
  go_wp2
  rw [run_callFunc_extern Tryz.func165 (by kernel_rfl) (by kernel_rfl) (by kernel_rfl) (e := Extern.BytealgCompare.compare) (by kernel_rfl), Lib.run_compareString]
  simp only [Result.andThen]
  rw [Oper.upon_value]
  go_wp2
  go_ret
  exact ⟨rfl, rfl⟩
end Go.Abs
namespace Go.Abs
open Go Go.Proofs
set_option maxHeartbeats 4000000
theorem Tryz_mixed : Tryz.prog.follows .mixedOrders = true := by kernel_rfl
def T6 : List Nat := [0, 1, 28, 2, 29, 14, 24, 3, 30, 22, 20, 15, 25, 17, 4, 8, 31, 27, 13, 23, 21, 19, 16, 7, 26, 12, 18, 6, 11, 5, 10, 9]
def T7 : List Nat := [0, 1, 56, 2, 57, 49, 28, 3, 61, 58, 42, 50, 38, 29, 17, 4, 62, 47, 59, 36, 45, 43, 51, 22, 53, 39, 33, 30, 24, 18, 12, 5, 63, 55, 48, 27, 60, 41, 37, 16, 46, 35, 44, 21, 52, 32, 23, 11, 54, 26, 40, 15, 34, 20, 31, 10, 25, 14, 19, 9, 13, 8, 7, 6]
def T1 : List Nat := [1, 10, 100, 1000, 10000, 100000, 1000000, 10000000, 100000000, 1000000000, 10000000000, 100000000000, 1000000000000, 10000000000000, 100000000000000, 1000000000000000, 10000000000000000, 100000000000000000, 1000000000000000000, 10000000000000000000]
def T5 : List Nat := [128, 191, 160, 191, 128, 159, 144, 191, 128, 143, 0, 0, 0, 0, 0, 0, 0, 0, 0, 0, 0, 0, 0, 0, 0, 0, 0, 0, 0, 0, 0, 0]
def cs0 : List UInt8 := [112, 117, 116, 32, 97, 32, 120]
def eSSI (x : List UInt8 × List UInt8 × Int) : List V := [.str x.1, .str x.2.1, .int .i64 x.2.2]
def eIIS (x : Int × Int × List UInt8) : List V := [.int .i64 x.1, .int .i64 x.2.1, .str x.2.2]
def cs1 : List UInt8 := [105, 110, 118, 97, 108, 105, 100]
def cs2 : List UInt8 := [115, 116, 97, 108, 101]
def cs3 : List UInt8 := [109, 97, 108, 102, 111, 114, 109, 101, 100]
def eS (x : List UInt8) : List V := [.str x]
theorem eS_flat (x : List UInt8) (j : Nat) : ((eS x).getD j .any).flat = true := by
  match j with
  | 0 => rfl
  | _ + 1 => rfl
def m101 (x : List UInt8 × Bool × Bool × Bool) : V := .agg [.str x.1, .bool x.2.1, .bool x.2.2.1, .bool x.2.2.2]
def cs4 : List UInt8 := [100, 101, 108, 101, 116, 101]
def cs5 : List UInt8 := [97, 112, 112, 101, 110, 100]
def cs6 : List UInt8 := [99, 111, 117, 110, 116]
def mk64 : List (Int) := (((((([] ++ [(1 : Int)]) ++ [(2 : Int)]) ++ [(3 : Int)]) ++ [(4 : Int)]) ++ [(5 : Int)]) ++ [(6 : Int)])
def mv64 : List (List UInt8 × Bool × Bool × Bool) := (((((([] ++ [(([112, 117, 116] : List UInt8), true, false, true)]) ++ [(([103, 101, 116] : List UInt8), true, false, false)]) ++ [(cs4, true, false, false)]) ++ [(cs5, true, false, true)]) ++ [(([99, 97, 115] : List UInt8), true, true, true)]) ++ [(cs6, false, false, false)])
def cs7 : List UInt8 := [99, 111, 117, 110, 116, 32]
def cs8 : List UInt8 := [118, 97, 108, 117, 101, 32]
def cs9 : List UInt8 := [103, 101, 116, 32, 97]
def cs10 : List UInt8 := [118, 97, 108, 117, 101, 32, 120, 32, 49]
def cs11 : List UInt8 := [102, 105, 110, 105, 115, 104]
def cs12 : List UInt8 := [98, 97, 116, 99, 104]
abbrev q1aSSI (l : List (List UInt8 × List UInt8 × Int)) : V := vL 3 eSSI (default : List UInt8 × List UInt8 × Int) l
abbrev q1bSSI_76 (l : List (List UInt8 × List UInt8 × Int)) : Blk := bL 76 3 eSSI (default : List UInt8 × List UInt8 × Int) l
abbrev q1dSSI : List UInt8 × List UInt8 × Int := default
abbrev q1aIIS (l : List (Int × Int × List UInt8)) : V := vL 3 eIIS (default : Int × Int × List UInt8) l
abbrev q1bIIS_45 (l : List (Int × Int × List UInt8)) : Blk := bL 45 3 eIIS (default : Int × Int × List UInt8) l
abbrev q1dIIS : Int × Int × List UInt8 := default
abbrev q1aS (l : List (List UInt8)) : V := vL 1 eS [] l
abbrev q1bS_9 (l : List (List UInt8)) : Blk := bL 9 1 eS [] l
abbrev q1dSBBB : List UInt8 × Bool × Bool × Bool := default
theorem q1rq {Q : Exit → S → Prop} {id : Nat} {draw : Bool} {y : Code} (W : List Nat) (calls : List (Nat × CC)) {l : List Oper} {s : S} (s' : S) {φ : Prop} (hφ : φ) (hQ : AWp Tryz.prog y Q s') (h : Abs.regC Tryz.prog W draw calls (s'.t.map (·.1)) (s'.h.map (·.1)) l s = some (s', φ) := by kernel_rfl) : AWp Tryz.prog (.seq (.region id l.toArray draw) y) Q s := AWp.sq W calls _ _ s' φ Tryz_mixed h hφ hQ
theorem q1rr {Q : Exit → S → Prop} {id : Nat} {draw : Bool} (W : List Nat) (calls : List (Nat × CC)) {l : List Oper} {s : S} (s' : S) {φ : Prop} (hφ : φ) (hQ : Q .normal s') (h : Abs.regC Tryz.prog W draw calls (s'.t.map (·.1)) (s'.h.map (·.1)) l s = some (s', φ) := by kernel_rfl) : AWp Tryz.prog (.region id l.toArray draw) Q s := AWp.regC W calls _ _ s' φ Tryz_mixed h hφ hQ
def f17  : Option ((List (List UInt8 × List UInt8 × Int)) × (List (Int × Int × List UInt8))) :=
  some ([], [])
set_option maxRecDepth 100000 in
theorem f17_ok   (r : (List (List UInt8 × List UInt8 × Int)) × (List (Int × Int × List UInt8))) (h : f17 = some r)  : Spec1 Tryz.prog 17 [] [] [] [] (.agg [vL 3 eSSI (default : List UInt8 × List UInt8 × Int) r.1, vL 3 eIIS (default : Int × Int × List UInt8) r.2]) [] := by
  unfold f17 at h
  refine Spec1.bodyD [0] 0 _ _ Tryz.func17 rfl Tryz.ntmps17 rfl rfl ?_
  refine q1rq [] [] ⟨2, [(0, .ptr 0 0)], [(0, .cells 30 [.nils, .nils])], [], 0⟩ trivial ?_
  refine q1rq [] [] ⟨2, [(0, .ptr 0 0)], [(0, .cells 30 [.nils, .nils])], [], 0⟩ (an1 trivial) ?_
  have hret := Option.some.inj h
  subst hret
  refine AWp.le (Le.mk (s' := ⟨2, [(0, .ptr 0 0)], [(0, .cells 30 [q1aSSI [], q1aIIS []])], [], 0⟩) rfl rfl ⟨.refl _, trivial⟩ ⟨⟨_, rfl, (.cellsL ⟨.nilL, .nilL, trivial⟩)⟩, trivial⟩) ?_
  refine AWp.ret ?_
  exact bodyQ_ret _ rfl ⟨rfl, rfl⟩ rfl
abbrev f34z0 (x1 : Int) := ((decide (x1 ≥ (0 : Int))) && (decide (x1 < (6 : Int))))
abbrev f34z1 (x1 : Int) (x2 : Int) := ((f34z0 x1) && (decide (x2 ≥ (1 : Int))))
def f34 (x1 : Int) (x2 : Int) : Option Bool :=
  some ((((decide (x1 ≥ (0 : Int))) && (decide (x1 < (6 : Int)))) && (decide (x2 ≥ (1 : Int)))) && (decide (x2 ≤ (1000000 : Int))))
set_option maxRecDepth 100000 in
theorem f34_ok  (x1 : Int) (x2 : Int) (r : Bool) (h : f34 x1 x2 = some r)  : Spec1 Tryz.prog 34 [] [] [] [.int .i64 x1, .int .i64 x2] (.bool r) [] := by
  unfold f34 at h
  refine Spec1.body 0 _ _ Tryz.func34 rfl Tryz.ntmps34 rfl rfl ?_
  refine q1rq [] [] ⟨19, [(0, .i x1), (1, .i x2)], [], [], 0⟩ trivial ?_
  refine AWp.seq ?_
  have ob0 := idA (((decide (x1 ≥ (0 : Int))) == true) = true)
  have ob1 := bqA (decide (x1 ≥ (0 : Int))) true
  have ob2 := idA (((f34z0 x1) == true) = true)
  have ob3 := bqA (f34z0 x1) true
  have ob4 := idA (((f34z1 x1 x2) == true) = true)
  have ob5 := bqA (f34z1 x1 x2) true
  refine q1rr [] [] ⟨19, [(4, .bool ((f34z1 x1 x2) && (decide (x2 ≤ (1000000 : Int)))))], [], [], 0⟩ (an6 (an1 ob0) ob1 (an1 ob2) ob3 (an1 ob4) ob5) ?_
  refine thenQ_normal ?_
  have hret := Option.some.inj h
  subst hret
  refine AWp.ret ?_
  exact bodyQ_ret _ rfl ⟨rfl, rfl⟩ rfl
def f62 (x1 : Int) (x2 : Int) (x3 : List UInt8) (x4 : Int) : Option Int :=
  some (IntKind.wrap .i64 (x1 - x4))
set_option maxRecDepth 100000 in
theorem f62_ok  (x1 : Int) (x2 : Int) (x3 : List UInt8) (x4 : Int) (r : Int) (h : f62 x1 x2 x3 x4 = some r)  : Spec1 Tryz.prog 62 [] [] [] [.agg [.int .i64 x1, .int .i64 x2, .str x3], .int .i64 x4] (.int .i64 r) [] := by
  unfold f62 at h
  refine Spec1.body 0 _ _ Tryz.func62 rfl Tryz.ntmps62 rfl rfl ?_
  refine q1rq [8] [] ⟨9, [(1, .i x4), (2, .ptr 2 0)], [(2, .cells 45 [.i x1, .i x2, .str x3])], [], 0⟩ trivial ?_
  refine q1rq [8] [] ⟨9, [(4, .i (IntKind.wrap .i64 (x1 - x4)))], [], [], 0⟩ (an1 trivial) ?_
  have hret := Option.some.inj h
  subst hret
  refine AWp.ret ?_
  exact bodyQ_ret _ rfl ⟨rfl, rfl⟩ rfl
def f61_L0 (x1 : List (Int × Int × List UInt8)) (x2 : Int) (K1 : Int → Option (Int × Bool)) : Nat → (Int × Int) → Option (Int × Bool)
  | 0, _ => none
  | k + 1, (i3, i4) =>
    if (decide (i3 < i4)) then (
    chk (-9223372036854775808 ≤ (i3 + i4) ∧ (i3 + i4) ≤ 9223372036854775807) <|
    chk (0 ≤ (i3 + i4) ∧ (i3 + i4) ≤ 18446744073709551615) <|
    chk (1 ≤ IntKind.bits .u64) <|
    chk (-9223372036854775808 ≤ ((i3 + i4) / 2 ^ 1) ∧ ((i3 + i4) / 2 ^ 1) ≤ 9223372036854775807) <|
    (f62 ((x1.getD ((((i3 + i4) / 2 ^ 1)).toNat) (default : Int × Int × List UInt8)).1) ((x1.getD ((((i3 + i4) / 2 ^ 1)).toNat) (default : Int × Int × List UInt8)).2.1) ((x1.getD ((((i3 + i4) / 2 ^ 1)).toNat) (default : Int × Int × List UInt8)).2.2) x2).bind fun (r5 : Int) =>
    chk (0 ≤ ((i3 + i4) / 2 ^ 1) ∧ ((i3 + i4) / 2 ^ 1) < (((x1).length : Nat) : Int)) <|
    if (decide (r5 < (0 : Int))) then (
    chk (-9223372036854775808 ≤ (((i3 + i4) / 2 ^ 1) + (1 : Int)) ∧ (((i3 + i4) / 2 ^ 1) + (1 : Int)) ≤ 9223372036854775807) <|
    (f61_L0 x1 x2 K1 k) ((((i3 + i4) / 2 ^ 1) + (1 : Int)), i4)
    ) else (
    (f61_L0 x1 x2 K1 k) (i3, ((i3 + i4) / 2 ^ 1))
    )
    ) else (
    K1 i3
    )
def f61 (x1 : List (Int × Int × List UInt8)) (x2 : Int) : Option (Int × Bool) :=
  jn (fun (i6 : Int) =>
  optc ((decide (i6 < (((x1).length : Nat) : Int))) == true) (f62 ((x1.getD ((i6).toNat) (default : Int × Int × List UInt8)).1) ((x1.getD ((i6).toNat) (default : Int × Int × List UInt8)).2.1) ((x1.getD ((i6).toNat) (default : Int × Int × List UInt8)).2.2) x2) fun (r7 : Int) =>
  chk (((decide (i6 < (((x1).length : Nat) : Int))) == true) = true → 0 ≤ i6 ∧ i6 < (((x1).length : Nat) : Int)) <|
  some (i6, ((decide (i6 < (((x1).length : Nat) : Int))) && (r7 == (0 : Int))))
  ) fun (K1 : Int → Option (Int × Bool)) =>
  f61_L0 x1 x2 K1 FUEL ((0 : Int), (((x1).length : Nat) : Int))
set_option maxRecDepth 100000 in
theorem f61_ok  (x1 : List (Int × Int × List UInt8)) (x2 : Int) (r : Int × Bool) (h : f61 x1 x2 = some r)  : Spec1 Tryz.prog 61 [] [] [] [vL 3 eIIS (default : Int × Int × List UInt8) x1, .int .i64 x2, .fn (.func 62) []] (.tup [.int .i64 r.1, .bool r.2]) [] := by
  unfold f61 at h
  refine Spec1.body 0 _ _ Tryz.func61 rfl Tryz.ntmps61 rfl rfl ?_
  refine q1rq [] [] ⟨49, [(0, q1aIIS x1), (1, .i x2), (2, .fn (.func 62) [])], [], [], 0⟩ trivial ?_
  refine q1rq [] [] ⟨49, [(0, q1aIIS x1), (1, .i x2), (2, .fn (.func 62) []), (8, .i (lZ x1))], [], [], 0⟩ trivial ?_
  refine q1rq [] [] ⟨49, [(0, q1aIIS x1), (1, .i x2), (2, .fn (.func 62) []), (8, .i (lZ x1)), (9, .i (0 : Int)), (10, .i (lZ x1))], [], [], 0⟩ trivial ?_
  obtain ⟨K1, hK1, h⟩ := jn_some h
  refine AWp.join (α := Int) (fun (i6 : Int) => ⟨49, [(0, q1aIIS x1), (1, .i x2), (2, .fn (.func 62) []), (8, .i (lZ x1)), (9, .i i6)], [], [], 0⟩) (fun x => K1 x = some r) ?_ ?_
  ·
    refine AWp.block ?_
    refine AWp.loopL (α := Nat × (Int × Int)) (fun x => match x with | (_, i3, i4) => ⟨49, [(0, q1aIIS x1), (1, .i x2), (2, .fn (.func 62) []), (8, .i (lZ x1)), (9, .i i3), (10, .i i4)], [], [], 0⟩) (fun x => f61_L0 x1 x2 K1 x.1 x.2 = some r) (fun x => x.1) (FUEL, (0 : Int), (lZ x1)) (Le.mk (s' := ⟨49, [(0, q1aIIS x1), (1, .i x2), (2, .fn (.func 62) []), (8, .i (lZ x1)), (9, .i (0 : Int)), (10, .i (lZ x1))], [], [], 0⟩) rfl rfl ⟨.refl _, .refl _, .refl _, .refl _, .refl _, .refl _, trivial⟩ trivial) h ?_
    rintro ⟨k0, i3, i4⟩ h
    cases k0 with
    | zero => exact nomatch (show (none : Option (Int × Bool)) = some r from h)
    | succ k0 =>
    obtain ⟨C0, hC0⟩ : ∃ C, C = f61_L0 x1 x2 K1 k0 := ⟨_, rfl⟩
    replace h := (f61_L0.eq_2 ..).symm.trans h
    try rw [← hC0] at h
    refine AWp.seq ?_
    refine q1rq [] [] ⟨49, [(0, q1aIIS x1), (1, .i x2), (2, .fn (.func 62) []), (8, .i (lZ x1)), (9, .i i3), (10, .i i4), (17, .bool (decide (i3 < i4)))], [], [], 0⟩ trivial ?_
    refine AWp.cond (b := (decide (i3 < i4))) (by kernel_rfl) (fun hc1 => ?_) (fun hc1 => ?_)
    ·
      replace h := ite_tb hc1 h
      refine AWp.skip ?_
      refine thenQ_normal ?_
      refine AWp.block ?_
      refine AWp.seq ?_
      obtain ⟨ob0, ob1, ob2p, h⟩ := ck3 h
      have ob2 : 0 ≤ (1 : Int) ∧ 1 ≤ IntKind.bits .u64 := ⟨by omega, ob2p⟩
      obtain ⟨ob3, h⟩ := chk_some h
      refine q1rr [] [] ⟨49, [(0, q1aIIS x1), (1, .i x2), (2, .fn (.func 62) []), (8, .i (lZ x1)), (9, .i i3), (10, .i i4), (11, .i ((i3 + i4) / 2 ^ 1))], [], [], 0⟩ (an4 ob0 ob1 ob2 ob3) ?_
      refine thenQ_normal ?_
      refine AWp.seq ?_
      obtain ⟨r5, hr5, h⟩ := bind_ok h
      obtain ⟨ob4, h⟩ := chk_some h
      refine q1rr [] [(6, ⟨[.agg [.i (x1.getD ((((i3 + i4) / 2 ^ 1)).toNat) q1dIIS).1, .i (x1.getD ((((i3 + i4) / 2 ^ 1)).toNat) q1dIIS).2.1, .str (x1.getD ((((i3 + i4) / 2 ^ 1)).toNat) q1dIIS).2.2], .i x2], [], [], [], .i r5, [], [], []⟩)] ⟨49, [(0, q1aIIS x1), (1, .i x2), (2, .fn (.func 62) []), (8, .i (lZ x1)), (9, .i i3), (10, .i i4), (11, .i ((i3 + i4) / 2 ^ 1)), (31, .bool (decide (r5 < (0 : Int))))], [], [], 0⟩ (an2 ob4 (cpT (f62_ok _ _ _ _ _ hr5))) ?_
      refine thenQ_normal ?_
      refine AWp.cond (b := (decide (r5 < (0 : Int)))) (by kernel_rfl) (fun hc2 => ?_) (fun hc2 => ?_)
      ·
        replace h := ite_tb hc2 h
        obtain ⟨ob5, h⟩ := chk_some h
        refine q1rr [] [] ⟨49, [(0, q1aIIS x1), (1, .i x2), (2, .fn (.func 62) []), (8, .i (lZ x1)), (9, .i (((i3 + i4) / 2 ^ 1) + (1 : Int))), (10, .i i4)], [], [], 0⟩ (an1 ob5) ?_
        refine blockQ_normal ?_
        rw [hC0] at h
        exact loopQ_normal (_, (((i3 + i4) / 2 ^ 1) + (1 : Int)), i4) (Le.mk rfl rfl ⟨.refl _, .refl _, .refl _, .refl _, .refl _, .refl _, trivial⟩ trivial) h (Nat.lt_succ_self _)
      ·
        replace h := ite_fb hc2 h
        refine q1rr [] [] ⟨49, [(0, q1aIIS x1), (1, .i x2), (2, .fn (.func 62) []), (8, .i (lZ x1)), (9, .i i3), (10, .i ((i3 + i4) / 2 ^ 1))], [], [], 0⟩ trivial ?_
        refine blockQ_normal ?_
        rw [hC0] at h
        exact loopQ_normal (_, i3, ((i3 + i4) / 2 ^ 1)) (Le.mk rfl rfl ⟨.refl _, .refl _, .refl _, .refl _, .refl _, .refl _, trivial⟩ trivial) h (Nat.lt_succ_self _)
    ·
      replace h := ite_fb hc1 h
      refine AWp.exit ?_
      refine thenQ_exit ?_
      refine thenQ_exit ?_
      refine blockQ_same ?_
      exact joinQ_normal (i3) (Le.mk rfl rfl ⟨.refl _, .refl _, .refl _, .refl _, .refl _, trivial⟩ trivial) h
  ·
    rintro i6 h
    replace h := (congrFun hK1 _).symm.trans h
    refine AWp.seq ?_
    obtain ⟨r7, hr7, h⟩ := optc_some h
    obtain ⟨ob6, h⟩ := chk_some h
    have ob7 := idA (((decide (i6 < (lZ x1))) == true) = true)
    have ob14 := bqA (decide (i6 < (lZ x1))) true
    refine q1rr [] [(11, ⟨[.agg [.i (x1.getD ((i6).toNat) q1dIIS).1, .i (x1.getD ((i6).toNat) q1dIIS).2.1, .str (x1.getD ((i6).toNat) q1dIIS).2.2], .i x2], [], [], [], .i r7, [], [], []⟩)] ⟨49, [(6, .i i6), (7, .bool ((decide (i6 < (lZ x1))) && (r7 == (0 : Int))))], [], [], 0⟩ (an5 (And.intro ob6 (an2 ob7 ob7)) (an1 ob7) (And.intro (cpC fun hc => (f62_ok _ _ _ _ _ (hr7 hc))) (an3 ob7 ob7 ob7)) (an1 ob7) ob14) ?_
    refine thenQ_normal ?_
    have hret := Option.some.inj h
    subst hret
    refine AWp.ret ?_
    exact bodyQ_ret _ rfl ⟨rfl, rfl⟩ rfl
def f35 (x1 : List (Int × Int × List UInt8)) (x2 : Int) : Option (Int × Bool) :=
  (f61 x1 x2).bind fun (r3 : Int × Bool) =>
  some (r3.1, r3.2)
set_option maxRecDepth 100000 in
theorem f35_ok  (x1 : List (Int × Int × List UInt8)) (x2 : Int) (r : Int × Bool) (h : f35 x1 x2 = some r)  : Spec1 Tryz.prog 35 [] [] [] [vL 3 eIIS (default : Int × Int × List UInt8) x1, .int .i64 x2] (.tup [.int .i64 r.1, .bool r.2]) [] := by
  unfold f35 at h
  refine Spec1.body 0 _ _ Tryz.func35 rfl Tryz.ntmps35 rfl rfl ?_
  refine q1rq [] [] ⟨11, [(0, q1aIIS x1), (1, .i x2)], [], [], 0⟩ trivial ?_
  refine AWp.seq ?_
  obtain ⟨r3, hr3, h⟩ := bind_ok h
  refine q1rr [] [(2, ⟨[q1aIIS x1, .i x2, .fn (.func 62) []], [], [], [], .tup [.i r3.1, .bool r3.2], [], [], []⟩)] ⟨11, [(4, .i r3.1), (5, .bool r3.2)], [], [], 0⟩ (an1 (cpT (f61_ok _ _ _ hr3))) ?_
  refine thenQ_normal ?_
  have hret := Option.some.inj h
  subst hret
  refine AWp.ret ?_
  exact bodyQ_ret _ rfl ⟨rfl, rfl⟩ rfl
def f63 (x1 x2 : List UInt8) : Option (List (List UInt8)) := splitO x1 x2
theorem f63_ok (x1 x2 : List UInt8) (r : List (List UInt8)) (h : f63 x1 x2 = some r) : Spec1 Tryz.prog 63 [] [] [] [.str x1, .str x2] (.own 3000) [(3000, bL 9 1 eS [] r)] :=
  split_spec 9 (fun s c w hs => split_one Tryz.lays146 (by kernel_rfl) s c w hs) x1 x2 r h
abbrev f64z0 := ([112, 117, 116] : List UInt8)
abbrev f64z1 := ([103, 101, 116] : List UInt8)
abbrev f64z2 := ([99, 97, 115] : List UInt8)
def f64  : Option Unit :=
  some ()
set_option maxRecDepth 100000 in
theorem f64_ok   (r : Unit) (h : f64 = some r)  : Spec1 Tryz.prog 64 [] [] [] [] (vM (V.int .i64) 0 m101 (default : List UInt8 × Bool × Bool × Bool) mk64 mv64) [] := by
  unfold f64 at h
  refine Spec1.body 0 _ _ Tryz.func64 rfl Tryz.ntmps64 rfl rfl ?_
  refine q1rq [] [] ⟨9, [], [], [], 0⟩ trivial ?_
  refine q1rq [] [(0, ⟨[], [], [], [(1, bM (V.int .i64) 0 m101 q1dSBBB [] [])], .own 1, [1], [], []⟩), (2, ⟨[.own 1, .i (1 : Int), .agg [.str (f64z0), .bool true, .bool false, .bool true]], [1], [1], [(1, bM (V.int .i64) 0 m101 q1dSBBB ([] ++ [(1 : Int)]) ([] ++ [((f64z0), true, false, true)]))], .any, [], [], []⟩), (4, ⟨[.own 1, .i (2 : Int), .agg [.str (f64z1), .bool true, .bool false, .bool false]], [1], [1], [(1, bM (V.int .i64) 0 m101 q1dSBBB (([] ++ [(1 : Int)]) ++ [(2 : Int)]) (([] ++ [((f64z0), true, false, true)]) ++ [((f64z1), true, false, false)]))], .any, [], [], []⟩), (6, ⟨[.own 1, .i (3 : Int), .agg [.str cs4, .bool true, .bool false, .bool false]], [1], [1], [(1, bM (V.int .i64) 0 m101 q1dSBBB ((([] ++ [(1 : Int)]) ++ [(2 : Int)]) ++ [(3 : Int)]) ((([] ++ [((f64z0), true, false, true)]) ++ [((f64z1), true, false, false)]) ++ [(cs4, true, false, false)]))], .any, [], [], []⟩), (8, ⟨[.own 1, .i (4 : Int), .agg [.str cs5, .bool true, .bool false, .bool true]], [1], [1], [(1, bM (V.int .i64) 0 m101 q1dSBBB (((([] ++ [(1 : Int)]) ++ [(2 : Int)]) ++ [(3 : Int)]) ++ [(4 : Int)]) (((([] ++ [((f64z0), true, false, true)]) ++ [((f64z1), true, false, false)]) ++ [(cs4, true, false, false)]) ++ [(cs5, true, false, true)]))], .any, [], [], []⟩), (10, ⟨[.own 1, .i (5 : Int), .agg [.str (f64z2), .bool true, .bool true, .bool true]], [1], [1], [(1, bM (V.int .i64) 0 m101 q1dSBBB ((((([] ++ [(1 : Int)]) ++ [(2 : Int)]) ++ [(3 : Int)]) ++ [(4 : Int)]) ++ [(5 : Int)]) ((((([] ++ [((f64z0), true, false, true)]) ++ [((f64z1), true, false, false)]) ++ [(cs4, true, false, false)]) ++ [(cs5, true, false, true)]) ++ [((f64z2), true, true, true)]))], .any, [], [], []⟩), (12, ⟨[.own 1, .i (6 : Int), .agg [.str cs6, .bool false, .bool false, .bool false]], [1], [1], [(1, bM (V.int .i64) 0 m101 q1dSBBB (((((([] ++ [(1 : Int)]) ++ [(2 : Int)]) ++ [(3 : Int)]) ++ [(4 : Int)]) ++ [(5 : Int)]) ++ [(6 : Int)]) (((((([] ++ [((f64z0), true, false, true)]) ++ [((f64z1), true, false, false)]) ++ [(cs4, true, false, false)]) ++ [(cs5, true, false, true)]) ++ [((f64z2), true, true, true)]) ++ [(cs6, false, false, false)]))], .any, [], [], []⟩)] ⟨9, [(0, .own 1)], [(1, bM (V.int .i64) 0 m101 q1dSBBB (((((([] ++ [(1 : Int)]) ++ [(2 : Int)]) ++ [(3 : Int)]) ++ [(4 : Int)]) ++ [(5 : Int)]) ++ [(6 : Int)]) (((((([] ++ [((f64z0), true, false, true)]) ++ [((f64z1), true, false, false)]) ++ [(cs4, true, false, false)]) ++ [(cs5, true, false, true)]) ++ [((f64z2), true, true, true)]) ++ [(cs6, false, false, false)]))], [], 0⟩ (ac6 (And.intro (makeMapL_spec (P := Tryz.prog) (V.int .i64) 0 m101 q1dSBBB 101 1 101) (VLes.same [])) (And.intro (insertL_spec Tryz.underlying101 Tryz.underlying3 (.insert 101 (.tmp 1) (.const (.int .i64 1)) (.tmp 2)) (.tmp 1) (.const (.int .i64 1)) (.tmp 2) (.inl rfl) (V.int .i64) 0 m101 q1dSBBB (keyEq_int .i64) (fun _ => rfl) (fun _ => rfl) (fun _ => rfl) 0 1 [] [] (1 : Int) ((f64z0), true, false, true) rfl rfl) (VLes.same [.own 1, .i (1 : Int), .agg [.str (f64z0), .bool true, .bool false, .bool true]])) (And.intro (insertL_spec Tryz.underlying101 Tryz.underlying3 (.insert 101 (.tmp 1) (.const (.int .i64 2)) (.tmp 3)) (.tmp 1) (.const (.int .i64 2)) (.tmp 3) (.inl rfl) (V.int .i64) 0 m101 q1dSBBB (keyEq_int .i64) (fun _ => rfl) (fun _ => rfl) (fun _ => rfl) 0 1 ([] ++ [(1 : Int)]) ([] ++ [((f64z0), true, false, true)]) (2 : Int) ((f64z1), true, false, false) rfl rfl) (VLes.same [.own 1, .i (2 : Int), .agg [.str (f64z1), .bool true, .bool false, .bool false]])) (And.intro (insertL_spec Tryz.underlying101 Tryz.underlying3 (.insert 101 (.tmp 1) (.const (.int .i64 3)) (.tmp 4)) (.tmp 1) (.const (.int .i64 3)) (.tmp 4) (.inl rfl) (V.int .i64) 0 m101 q1dSBBB (keyEq_int .i64) (fun _ => rfl) (fun _ => rfl) (fun _ => rfl) 0 1 (([] ++ [(1 : Int)]) ++ [(2 : Int)]) (([] ++ [((f64z0), true, false, true)]) ++ [((f64z1), true, false, false)]) (3 : Int) (cs4, true, false, false) rfl rfl) (VLes.same [.own 1, .i (3 : Int), .agg [.str cs4, .bool true, .bool false, .bool false]])) (And.intro (insertL_spec Tryz.underlying101 Tryz.underlying3 (.insert 101 (.tmp 1) (.const (.int .i64 4)) (.tmp 5)) (.tmp 1) (.const (.int .i64 4)) (.tmp 5) (.inl rfl) (V.int .i64) 0 m101 q1dSBBB (keyEq_int .i64) (fun _ => rfl) (fun _ => rfl) (fun _ => rfl) 0 1 ((([] ++ [(1 : Int)]) ++ [(2 : Int)]) ++ [(3 : Int)]) ((([] ++ [((f64z0), true, false, true)]) ++ [((f64z1), true, false, false)]) ++ [(cs4, true, false, false)]) (4 : Int) (cs5, true, false, true) rfl rfl) (VLes.same [.own 1, .i (4 : Int), .agg [.str cs5, .bool true, .bool false, .bool true]])) (And.intro (insertL_spec Tryz.underlying101 Tryz.underlying3 (.insert 101 (.tmp 1) (.const (.int .i64 5)) (.tmp 6)) (.tmp 1) (.const (.int .i64 5)) (.tmp 6) (.inl rfl) (V.int .i64) 0 m101 q1dSBBB (keyEq_int .i64) (fun _ => rfl) (fun _ => rfl) (fun _ => rfl) 0 1 (((([] ++ [(1 : Int)]) ++ [(2 : Int)]) ++ [(3 : Int)]) ++ [(4 : Int)]) (((([] ++ [((f64z0), true, false, true)]) ++ [((f64z1), true, false, false)]) ++ [(cs4, true, false, false)]) ++ [(cs5, true, false, true)]) (5 : Int) ((f64z2), true, true, true) rfl rfl) (VLes.same [.own 1, .i (5 : Int), .agg [.str (f64z2), .bool true, .bool true, .bool true]])) (an1 (And.intro (insertL_spec Tryz.underlying101 Tryz.underlying3 (.insert 101 (.tmp 1) (.const (.int .i64 6)) (.tmp 7)) (.tmp 1) (.const (.int .i64 6)) (.tmp 7) (.inl rfl) (V.int .i64) 0 m101 q1dSBBB (keyEq_int .i64) (fun _ => rfl) (fun _ => rfl) (fun _ => rfl) 0 1 ((((([] ++ [(1 : Int)]) ++ [(2 : Int)]) ++ [(3 : Int)]) ++ [(4 : Int)]) ++ [(5 : Int)]) ((((([] ++ [((f64z0), true, false, true)]) ++ [((f64z1), true, false, false)]) ++ [(cs4, true, false, false)]) ++ [(cs5, true, false, true)]) ++ [((f64z2), true, true, true)]) (6 : Int) (cs6, false, false, false) rfl rfl) (VLes.same [.own 1, .i (6 : Int), .agg [.str cs6, .bool false, .bool false, .bool false]])))) ?_
  refine AWp.le (Le.trans (Le.freezeM 1 rfl rfl) (Le.mk (s' := ⟨9, [(0, vM (V.int .i64) 0 m101 q1dSBBB mk64 mv64)], [], [], 0⟩) rfl rfl ⟨.refl _, trivial⟩ trivial)) ?_
  have hret := Option.some.inj h
  subst hret
  refine AWp.le (Le.mk (s' := ⟨9, [(0, vM (V.int .i64) 0 m101 q1dSBBB mk64 mv64)], [], [], 0⟩) rfl rfl ⟨.refl _, trivial⟩ trivial) ?_
  refine AWp.ret ?_
  exact bodyQ_ret _ rfl ⟨rfl, rfl⟩ rfl
def f65 (x1 : Bool) (x2 : List (List UInt8)) : Option (List UInt8 × List (List UInt8)) :=
  if ((!x1) || ((((x2).length : Nat) : Int) == (0 : Int))) then (
  some ([], x2)
  ) else (
  chk ((0 : Int) < (((x2).length : Nat) : Int)) <|
  chk ((1 : Int) ≤ (((x2).length : Nat) : Int)) <|
  some ((x2.getD 0 []), (x2.drop 1))
  )
set_option maxRecDepth 100000 in
theorem f65_ok  (x1 : Bool) (x2 : List (List UInt8)) (r : List UInt8 × List (List UInt8)) (h : f65 x1 x2 = some r)  : Spec1 Tryz.prog 65 [] [2000] [(2000, .cells 48 [vL 1 eS [] x2])] [.bool x1, .ptr 2000 0] (.str r.1) [(2000, .cells 48 [vL 1 eS [] r.2])] := by
  unfold f65 at h
  refine Spec1.body 0 _ _ Tryz.func65 rfl Tryz.ntmps65 rfl rfl ?_
  refine q1rq [] [] ⟨18, [(0, .bool x1), (1, .ptr 2000 0)], [(2000, .cells 48 [q1aS x2])], [2000], 0⟩ trivial ?_
  refine AWp.seq ?_
  refine AWp.seq ?_
  have ob0 := idA (((!x1) == false) = true)
  have ob2 := bqA (!x1) false
  refine q1rr [] [] ⟨18, [(1, .ptr 2000 0), (11, .bool ((!x1) || ((lZ x2) == (0 : Int))))], [(2000, .cells 48 [q1aS x2])], [2000], 0⟩ (an3 (an1 ob0) (an1 ob0) ob2) ?_
  refine thenQ_normal ?_
  refine AWp.cond (b := ((!x1) || ((lZ x2) == (0 : Int)))) (by kernel_rfl) (fun hc1 => ?_) (fun hc1 => ?_)
  ·
    replace h := ite_tb hc1 h
    refine q1rq [] [] ⟨18, [(3, .str [])], [(2000, .cells 48 [q1aS x2])], [2000], 0⟩ trivial ?_
    have hret := Option.some.inj h
    subst hret
    refine AWp.ret ?_
    refine thenQ_ret ?_
    exact bodyQ_ret _ rfl ⟨rfl, rfl⟩ rfl
  ·
    replace h := ite_fb hc1 h
    refine AWp.skip ?_
    refine thenQ_normal ?_
    refine AWp.seq ?_
    obtain ⟨ob3p, h⟩ := chk_some h
    have ob3 : 0 ≤ (0 : Int) ∧ (0 : Int) < (((x2).length : Nat) : Int) := ⟨by omega, ob3p⟩
    refine q1rr [] [] ⟨18, [(1, .ptr 2000 0), (4, .str (x2.getD 0 []))], [(2000, .cells 48 [q1aS x2])], [2000], 0⟩ (an1 ob3) ?_
    refine thenQ_normal ?_
    refine AWp.seq ?_
    obtain ⟨ob4p, h⟩ := chk_some h
    have ob4 : 0 ≤ (1 : Int) ∧ (1 : Int) ≤ (((x2).length : Nat) : Int) := ⟨by omega, ob4p⟩
    refine q1rr [] [] ⟨18, [(4, .str (x2.getD 0 []))], [(2000, .cells 48 [.arr 1 ((x2).length - 1) (fun i j => (encF eS [] x2) (i + 1) j)])], [2000], 0⟩ (an2 ob4 trivial) ?_
    refine thenQ_normal ?_
    refine AWp.le (Le.mk (s' := ⟨18, [(4, .str (x2.getD 0 []))], [(2000, .cells 48 [q1aS (x2.drop 1)])], [2000], 0⟩) rfl rfl ⟨.refl _, trivial⟩ ⟨⟨_, rfl, (.cellsL ⟨VLe.dropL, trivial⟩)⟩, trivial⟩) ?_
    refine q1rq [] [] ⟨18, [(3, .str (x2.getD 0 []))], [(2000, .cells 48 [q1aS (x2.drop 1)])], [2000], 0⟩ trivial ?_
    have hret := Option.some.inj h
    subst hret
    refine AWp.ret ?_
    exact bodyQ_ret _ rfl ⟨rfl, rfl⟩ rfl
def f125_L0 (x1 : List UInt8) (K1 : Unit → Option Bool) : Nat → Nat → Option Bool
  | 0, _ => none
  | k + 1, n3 =>
    if (decide ((n3 : Int) < ((x1.length : Nat) : Int))) then (
    chk ((n3 : Int) < ((x1.length : Nat) : Int)) <|
    chk (((decide ((((x1.getD n3 0).toNat : Nat) : Int) < (33 : Int))) == false) = true → 0 ≤ (n3 : Int) ∧ (n3 : Int) < ((x1.length : Nat) : Int)) <|
    if ((decide ((((x1.getD n3 0).toNat : Nat) : Int) < (33 : Int))) || (decide ((((x1.getD n3 0).toNat : Nat) : Int) > (126 : Int)))) then (
    some false
    ) else (
    chk (((n3 : Int) + (1 : Int)) ≤ 9223372036854775807) <|
    (f125_L0 x1 K1 k) (n3 + 1)
    )
    ) else (
    K1 ()
    )
theorem f125_L0_e2 (x1 : List UInt8) (K1 : Unit → Option Bool) (k : Nat) (n3 : Nat) : f125_L0 x1 K1 (k + 1) n3 =
    if (decide ((n3 : Int) < ((x1.length : Nat) : Int))) then (
    chk ((n3 : Int) < ((x1.length : Nat) : Int)) <|
    chk (((decide ((((x1.getD n3 0).toNat : Nat) : Int) < (33 : Int))) == false) = true → 0 ≤ (n3 : Int) ∧ (n3 : Int) < ((x1.length : Nat) : Int)) <|
    if ((decide ((((x1.getD n3 0).toNat : Nat) : Int) < (33 : Int))) || (decide ((((x1.getD n3 0).toNat : Nat) : Int) > (126 : Int)))) then (
    some false
    ) else (
    chk (((n3 : Int) + (1 : Int)) ≤ 9223372036854775807) <|
    (f125_L0 x1 K1 k) (n3 + 1)
    )
    ) else (
    K1 ()
    ) := rfl
def f125 (x1 : List UInt8) (x2 : Int) : Option Bool :=
  jn (fun (_ : Unit) =>
  some ((!(x1 == [])) && (decide (((x1.length : Nat) : Int) ≤ x2)))
  ) fun (K1 : Unit → Option Bool) =>
  f125_L0 x1 K1 FUEL 0
set_option maxRecDepth 100000 in
theorem f125_ok  (x1 : List UInt8) (x2 : Int) (r : Bool) (h : f125 x1 x2 = some r)  : Spec1 Tryz.prog 125 [] [] [] [.str x1, .int .i64 x2] (.bool r) [] := by
  unfold f125 at h
  refine Spec1.body 0 _ _ Tryz.func125 rfl Tryz.ntmps125 rfl rfl ?_
  refine q1rq [] [] ⟨30, [(0, .str x1), (1, .i x2)], [], [], 0⟩ trivial ?_
  obtain ⟨K1, hK1, h⟩ := jn_some h
  refine AWp.join (α := Unit) (fun (x : Unit) => match x with | () => ⟨30, [(0, .str x1), (1, .i x2)], [], [], 0⟩) (fun x => K1 x = some r) ?_ ?_
  ·
    refine q1rq [] [] ⟨30, [(0, .str x1), (1, .i x2), (7, .i (lZ x1)), (8, .i (0 : Int))], [], [], 0⟩ trivial ?_
    refine AWp.block ?_
    refine AWp.loopL (α := Nat × Nat) (fun x => match x with | (_, n3) => ⟨30, [(0, .str x1), (1, .i x2), (7, .i (lZ x1)), (8, .i (n3 : Int))], [], [], 0⟩) (fun x => f125_L0 x1 K1 x.1 x.2 = some r) (fun x => x.1) (FUEL, 0) (Le.mk (s' := ⟨30, [(0, .str x1), (1, .i x2), (7, .i (lZ x1)), (8, .i (0 : Int))], [], [], 0⟩) rfl rfl ⟨.refl _, .refl _, .refl _, .refl _, trivial⟩ trivial) h ?_
    rintro ⟨k0, n3⟩ h
    cases k0 with
    | zero => exact nomatch (show (none : Option Bool) = some r from h)
    | succ k0 =>
    obtain ⟨C0, hC0⟩ : ∃ C, C = f125_L0 x1 K1 k0 := ⟨_, rfl⟩
    replace h := (f125_L0_e2 ..).symm.trans h
    try rw [← hC0] at h
    refine q1rq [] [] ⟨30, [(0, .str x1), (1, .i x2), (7, .i (lZ x1)), (8, .i (n3 : Int)), (9, .bool (decide ((n3 : Int) < (lZ x1))))], [], [], 0⟩ trivial ?_
    refine AWp.seq ?_
    refine AWp.cond (b := (decide ((n3 : Int) < (lZ x1)))) (by kernel_rfl) (fun hc1 => ?_) (fun hc1 => ?_)
    ·
      replace h := ite_tb hc1 h
      refine AWp.skip ?_
      refine thenQ_normal ?_
      refine AWp.seq ?_
      refine AWp.block ?_
      refine q1rq [] [] ⟨30, [(0, .str x1), (1, .i x2), (5, .i (n3 : Int)), (7, .i (lZ x1)), (8, .i (n3 : Int))], [], [], 0⟩ trivial ?_
      refine AWp.seq ?_
      obtain ⟨ob0p, h⟩ := chk_some h
      have ob0 : 0 ≤ (n3 : Int) ∧ (n3 : Int) < ((x1.length : Nat) : Int) := ⟨by omega, ob0p⟩
      obtain ⟨ob1, h⟩ := chk_some h
      have ob2 := idA (((decide ((((x1.getD n3 0).toNat : Nat) : Int) < (33 : Int))) == false) = true)
      have ob5 := bqA (decide ((((x1.getD n3 0).toNat : Nat) : Int) < (33 : Int))) false
      refine q1rr [] [] ⟨30, [(0, .str x1), (1, .i x2), (7, .i (lZ x1)), (8, .i (n3 : Int)), (20, .bool ((decide ((((x1.getD n3 0).toNat : Nat) : Int) < (33 : Int))) || (decide ((((x1.getD n3 0).toNat : Nat) : Int) > (126 : Int)))))], [], [], 0⟩ (an4 ob0 (And.intro ob1 (an2 ob2 ob2)) (an1 ob2) ob5) ?_
      refine thenQ_normal ?_
      refine AWp.cond (b := ((decide ((((x1.getD n3 0).toNat : Nat) : Int) < (33 : Int))) || (decide ((((x1.getD n3 0).toNat : Nat) : Int) > (126 : Int))))) (by kernel_rfl) (fun hc2 => ?_) (fun hc2 => ?_)
      ·
        replace h := ite_tb hc2 h
        refine q1rq [] [] ⟨30, [(4, .bool false)], [], [], 0⟩ trivial ?_
        have hret := Option.some.inj h
        subst hret
        refine AWp.ret ?_
        refine blockQ_ret ?_
        refine thenQ_ret ?_
        refine thenQ_ret ?_
        refine blockQ_ret ?_
        refine joinQ_ret ?_
        exact bodyQ_ret _ rfl ⟨rfl, rfl⟩ rfl
      ·
        replace h := ite_fb hc2 h
        refine AWp.skip ?_
        refine blockQ_normal ?_
        refine thenQ_normal ?_
        obtain ⟨ob6p, h⟩ := chk_some h
        have ob6 : -9223372036854775808 ≤ ((n3 : Int) + (1 : Int)) ∧ ((n3 : Int) + (1 : Int)) ≤ 9223372036854775807 := ⟨by omega, ob6p⟩
        refine q1rr [] [] ⟨30, [(0, .str x1), (1, .i x2), (7, .i (lZ x1)), (8, .i (((n3 + 1) : Nat) : Int))], [], [], 0⟩ (an1 ob6) ?_
        rw [hC0] at h
        exact loopQ_normal (_, (n3 + 1)) (Le.mk rfl rfl ⟨.refl _, .refl _, .refl _, .refl _, trivial⟩ trivial) h (Nat.lt_succ_self _)
    ·
      replace h := ite_fb hc1 h
      refine AWp.exit ?_
      refine thenQ_exit ?_
      refine thenQ_exit ?_
      refine blockQ_same ?_
      exact joinQ_normal () (Le.mk rfl rfl ⟨.refl _, .refl _, trivial⟩ trivial) h
  ·
    rintro ⟨⟩ h
    replace h := (congrFun hK1 _).symm.trans h
    refine AWp.seq ?_
    have ob7 := idA (((!(x1 == [])) == true) = true)
    have ob10 := bqA (!(x1 == [])) true
    refine q1rr [] [] ⟨30, [(4, .bool ((!(x1 == [])) && (decide ((lZ x1) ≤ x2))))], [], [], 0⟩ (an3 (an1 ob7) (an2 ob7 ob7) ob10) ?_
    refine thenQ_normal ?_
    have hret := Option.some.inj h
    subst hret
    refine AWp.ret ?_
    exact bodyQ_ret _ rfl ⟨rfl, rfl⟩ rfl
def f108 (x1 : List UInt8) (x2 : Bool) : Option Bool :=
  if (!x2) then (
  some (x1 == [])
  ) else (
  (f125 x1 (64 : Int)).bind fun (r3 : Bool) =>
  some r3
  )
set_option maxRecDepth 100000 in
theorem f108_ok  (x1 : List UInt8) (x2 : Bool) (r : Bool) (h : f108 x1 x2 = some r)  : Spec1 Tryz.prog 108 [] [] [] [.str x1, .bool x2] (.bool r) [] := by
  unfold f108 at h
  refine Spec1.body 0 _ _ Tryz.func108 rfl Tryz.ntmps108 rfl rfl ?_
  refine q1rq [] [] ⟨11, [(0, .str x1), (1, .bool x2)], [], [], 0⟩ trivial ?_
  refine AWp.seq ?_
  refine q1rq [] [] ⟨11, [(0, .str x1), (6, .bool (!x2))], [], [], 0⟩ trivial ?_
  refine AWp.cond (b := (!x2)) (by kernel_rfl) (fun hc1 => ?_) (fun hc1 => ?_)
  ·
    replace h := ite_tb hc1 h
    refine q1rq [] [] ⟨11, [(4, .bool (x1 == []))], [], [], 0⟩ trivial ?_
    have hret := Option.some.inj h
    subst hret
    refine AWp.ret ?_
    refine thenQ_ret ?_
    exact bodyQ_ret _ rfl ⟨rfl, rfl⟩ rfl
  ·
    replace h := ite_fb hc1 h
    refine AWp.skip ?_
    refine thenQ_normal ?_
    refine AWp.seq ?_
    obtain ⟨r3, hr3, h⟩ := bind_ok h
    refine q1rr [] [(1, ⟨[.str x1, .i (64 : Int)], [], [], [], .bool r3, [], [], []⟩)] ⟨11, [(4, .bool r3)], [], [], 0⟩ (an1 (cpT (f125_ok _ _ _ hr3))) ?_
    refine thenQ_normal ?_
    have hret := Option.some.inj h
    subst hret
    refine AWp.ret ?_
    exact bodyQ_ret _ rfl ⟨rfl, rfl⟩ rfl
abbrev f67z0 (x1 : Int) (r6 : Bool) := ((hasM mk64 x1) && r6)
abbrev f67z1 (x1 : Int) := ((hasM mk64 x1) == true)
def f67 (x1 : Int) (x2 : List UInt8) (x3 : List UInt8) (x4 : List UInt8) : Option (List UInt8 × Bool × Bool × Bool × Bool) :=
  (f64 ).bind fun (r5 : Unit) =>
  optc ((hasM mk64 x1) == true) (f108 x2 ((getM mk64 mv64 (default : List UInt8 × Bool × Bool × Bool) ([], false, false, false) x1).2.1)) fun (r6 : Bool) =>
  optc (((hasM mk64 x1) && r6) == true) (f108 x3 ((getM mk64 mv64 (default : List UInt8 × Bool × Bool × Bool) ([], false, false, false) x1).2.2.1)) fun (r7 : Bool) =>
  optc ((((hasM mk64 x1) && r6) && r7) == true) (f108 x4 ((getM mk64 mv64 (default : List UInt8 × Bool × Bool × Bool) ([], false, false, false) x1).2.2.2)) fun (r8 : Bool) =>
  some ((getM mk64 mv64 (default : List UInt8 × Bool × Bool × Bool) ([], false, false, false) x1).1, (getM mk64 mv64 (default : List UInt8 × Bool × Bool × Bool) ([], false, false, false) x1).2.1, (getM mk64 mv64 (default : List UInt8 × Bool × Bool × Bool) ([], false, false, false) x1).2.2.1, (getM mk64 mv64 (default : List UInt8 × Bool × Bool × Bool) ([], false, false, false) x1).2.2.2, ((((hasM mk64 x1) && r6) && r7) && r8))
set_option maxRecDepth 100000 in
theorem f67_ok  (x1 : Int) (x2 : List UInt8) (x3 : List UInt8) (x4 : List UInt8) (r : List UInt8 × Bool × Bool × Bool × Bool) (h : f67 x1 x2 x3 x4 = some r)  : Spec1 Tryz.prog 67 [] [] [] [.agg [.int .i64 x1, .str x2, .str x3, .str x4]] (.tup [.agg [.str r.1, .bool r.2.1, .bool r.2.2.1, .bool r.2.2.2.1], .bool r.2.2.2.2]) [] := by
  unfold f67 at h
  refine Spec1.bodyD [2] 0 _ _ Tryz.func67 rfl Tryz.ntmps67 rfl rfl ?_
  refine q1rq [] [] ⟨36, [(1, .ptr 1 0), (2, .ptr 2 0)], [(1, .cells 67 [.i x1, .str x2, .str x3, .str x4]), (2, .cells 104 [.str [], .bool false, .bool false, .bool false])], [], 0⟩ trivial ?_
  refine AWp.seq ?_
  obtain ⟨r5, hr5, h⟩ := bind_ok h
  refine q1rr [] [(0, ⟨[], [], [], [], vM (V.int .i64) 0 m101 q1dSBBB mk64 mv64, [], [], []⟩), (3, ⟨[vM (V.int .i64) 0 m101 q1dSBBB mk64 mv64, .i x1], [], [], [], .tup [.agg [.str (getM mk64 mv64 q1dSBBB ([], false, false, false) x1).1, .bool (getM mk64 mv64 q1dSBBB ([], false, false, false) x1).2.1, .bool (getM mk64 mv64 q1dSBBB ([], false, false, false) x1).2.2.1, .bool (getM mk64 mv64 q1dSBBB ([], false, false, false) x1).2.2.2], .bool (hasM mk64 x1)], [], [], []⟩)] ⟨36, [(1, .ptr 1 0), (2, .ptr 2 0), (4, .ptr 4 0), (5, .bool (hasM mk64 x1))], [(1, .cells 67 [.i x1, .str x2, .str x3, .str x4]), (2, .cells 104 [.str [], .bool false, .bool false, .bool false]), (4, .cells 104 [.str (getM mk64 mv64 q1dSBBB ([], false, false, false) x1).1, .bool (getM mk64 mv64 q1dSBBB ([], false, false, false) x1).2.1, .bool (getM mk64 mv64 q1dSBBB ([], false, false, false) x1).2.2.1, .bool (getM mk64 mv64 q1dSBBB ([], false, false, false) x1).2.2.2])], [], 0⟩ (an3 (cpT (f64_ok _ hr5)) (And.intro (lookupL_spec (P := Tryz.prog) Tryz.underlying101 Tryz.underlying3 (V.int .i64) 0 m101 q1dSBBB ([], false, false, false) (keyEq_int .i64) (fun _ => rfl) (by kernel_rfl) (.tmp 7) (.tmp 9) 108 mk64 mv64 x1) (VLes.same [vM (V.int .i64) 0 m101 q1dSBBB mk64 mv64, .i x1])) trivial) ?_
  refine thenQ_normal ?_
  refine AWp.seq ?_
  obtain ⟨r6, hr6, h⟩ := optc_some h
  obtain ⟨r7, hr7, h⟩ := optc_some h
  obtain ⟨r8, hr8, h⟩ := optc_some h
  have ob0 := idA ((f67z1 x1) = true)
  have ob4 : true = true → (hasM mk64 x1) = true → (f67z1 x1) = true := fun _ h => beq_iff_eq.2 h
  have ob5 := idA (((f67z0 x1 r6) == true) = true)
  have ob9 := bqA (f67z0 x1 r6) true
  have ob10 := idA ((((f67z0 x1 r6) && r7) == true) = true)
  have ob14 := bqA ((f67z0 x1 r6) && r7) true
  refine q1rr [] [(7, ⟨[.str x2, .bool (getM mk64 mv64 q1dSBBB ([], false, false, false) x1).2.1], [], [], [], .bool r6, [], [], []⟩), (14, ⟨[.str x3, .bool (getM mk64 mv64 q1dSBBB ([], false, false, false) x1).2.2.1], [], [], [], .bool r7, [], [], []⟩), (21, ⟨[.str x4, .bool (getM mk64 mv64 q1dSBBB ([], false, false, false) x1).2.2.2], [], [], [], .bool r8, [], [], []⟩)] ⟨36, [(2, .ptr 2 0), (3, .bool (((f67z0 x1 r6) && r7) && r8))], [(2, .cells 104 [.str (getM mk64 mv64 q1dSBBB ([], false, false, false) x1).1, .bool (getM mk64 mv64 q1dSBBB ([], false, false, false) x1).2.1, .bool (getM mk64 mv64 q1dSBBB ([], false, false, false) x1).2.2.1, .bool (getM mk64 mv64 q1dSBBB ([], false, false, false) x1).2.2.2])], [], 0⟩ (ac6 (an1 ob0) (an1 ob0) (And.intro (cpC fun hc => (f108_ok _ _ _ (hr6 hc))) (an2 ob0 ob0)) ob4 (an1 ob5) (an1 ob5) (ac6 (And.intro (cpC fun hc => (f108_ok _ _ _ (hr7 hc))) (an2 ob5 ob5)) ob9 (an1 ob10) (an1 ob10) (And.intro (cpC fun hc => (f108_ok _ _ _ (hr8 hc))) (an2 ob10 ob10)) ob14 (an1 trivial))) ?_
  refine thenQ_normal ?_
  have hret := Option.some.inj h
  subst hret
  refine AWp.ret ?_
  exact bodyQ_ret _ rfl ⟨rfl, rfl⟩ rfl
def f107 (x1 : List (List UInt8)) (x2 : List UInt8) : Option (List UInt8) := joinP x1 x2
theorem f107_ok (x1 : List (List UInt8)) (x2 : List UInt8) (r : List UInt8) (h : f107 x1 x2 = some r) : Spec1 Tryz.prog 107 [] [] [] [vL 1 eS [] x1, .str x2] (.str r) [] :=
  join_spec (fun a c sep w => Any.strings_Join_none Tryz.lays156 Tryz.Builder_Extra_156 a c sep w) (fun bk o c xs sep w h1 h2 h3 h4 h5 => Any.strings_Join Tryz.lays156 Tryz.Builder_Extra_156 bk o c xs sep w h1 h2 h3 h4 h5) x1 x2 r h
def f66_L0 (x2 : List UInt8) (x3 : List UInt8) (x4 : List UInt8) (K1 : (List (List UInt8)) → Option (List UInt8 × Int)) : Nat → (Nat × List (List UInt8)) → Option (List UInt8 × Int)
  | 0, _ => none
  | k + 1, (n6, l7) =>
    if (decide ((n6 : Int) < (3 : Int))) then (
    jn (fun (l8 : List (List UInt8)) =>
    chk (((n6 : Int) + (1 : Int)) ≤ 9223372036854775807) <|
    (f66_L0 x2 x3 x4 K1 k) ((n6 + 1), l8)
    ) fun (K2 : (List (List UInt8)) → Option (List UInt8 × Int)) =>
    chk ((n6 : Int) < ((([x2, x3, x4]).length : Nat) : Int)) <|
    chk (n6 < ([x2, x3, x4]).length) <|
    if (!(([x2, x3, x4].getD n6 []) == [])) then (
    chk (((l7).length + 1) * 16 ≤ 140737488355328) <|
    K2 (l7 ++ [([x2, x3, x4].getD n6 [])])
    ) else (
    K2 l7
    )
    ) else (
    K1 l7
    )
abbrev f66z0 (n6 : Nat) : List (Nat × V) := [(6, .own 18), (25, .own 25), (26, .int .i64 (3 : Int)), (27, .int .i64 (n6 : Int))]
abbrev f66z1 : List (Nat × V) := [(6, .own 18), (25, .own 25), (26, .int .i64 (3 : Int)), (27, .int .i64 (0 : Int))]
def f66 (x1 : Int) (x2 : List UInt8) (x3 : List UInt8) (x4 : List UInt8) : Option (List UInt8 × Int) :=
  (f67 x1 x2 x3 x4).bind fun (r5 : List UInt8 × Bool × Bool × Bool × Bool) =>
  if (!r5.2.2.2.2) then (
  some ([], (1 : Int))
  ) else (
  jn (fun (l9 : List (List UInt8)) =>
  (f107 l9 ([32] : List UInt8)).bind fun (r10 : List UInt8) =>
  some (r10, (0 : Int))
  ) fun (K1 : (List (List UInt8)) → Option (List UInt8 × Int)) =>
  f66_L0 x2 x3 x4 K1 FUEL (0, [r5.1])
  )
set_option maxRecDepth 100000 in
theorem f66_ok  (x1 : Int) (x2 : List UInt8) (x3 : List UInt8) (x4 : List UInt8) (r : List UInt8 × Int) (h : f66 x1 x2 x3 x4 = some r)  : Spec1 Tryz.prog 66 [] [] [] [.agg [.int .i64 x1, .str x2, .str x3, .str x4]] (.tup [.str r.1, .int .i64 r.2]) [] := by
  unfold f66 at h
  refine Spec1.body 0 _ _ Tryz.func66 rfl Tryz.ntmps66 rfl rfl ?_
  refine q1rq [] [] ⟨40, [(1, .ptr 1 0)], [(1, .cells 67 [.i x1, .str x2, .str x3, .str x4])], [], 0⟩ trivial ?_
  refine AWp.seq ?_
  obtain ⟨r5, hr5, h⟩ := bind_ok h
  refine q1rr [] [(1, ⟨[.agg [.i x1, .str x2, .str x3, .str x4]], [], [], [], .tup [.agg [.str r5.1, .bool r5.2.1, .bool r5.2.2.1, .bool r5.2.2.2.1], .bool r5.2.2.2.2], [], [], []⟩)] ⟨40, [(1, .ptr 1 0), (4, .ptr 4 0), (5, .bool r5.2.2.2.2)], [(1, .cells 67 [.i x1, .str x2, .str x3, .str x4]), (4, .cells 104 [.str r5.1, .bool r5.2.1, .bool r5.2.2.1, .bool r5.2.2.2.1])], [], 0⟩ (an2 (cpT (f67_ok _ _ _ _ _ hr5)) trivial) ?_
  refine thenQ_normal ?_
  refine AWp.seq ?_
  refine q1rq [] [] ⟨40, [(1, .ptr 1 0), (4, .ptr 4 0), (15, .bool (!r5.2.2.2.2))], [(1, .cells 67 [.i x1, .str x2, .str x3, .str x4]), (4, .cells 104 [.str r5.1, .bool r5.2.1, .bool r5.2.2.1, .bool r5.2.2.2.1])], [], 0⟩ trivial ?_
  refine AWp.cond (b := (!r5.2.2.2.2)) (by kernel_rfl) (fun hc1 => ?_) (fun hc1 => ?_)
  ·
    replace h := ite_tb hc1 h
    refine q1rq [] [] ⟨40, [(2, .str []), (3, .i (1 : Int))], [], [], 0⟩ trivial ?_
    have hret := Option.some.inj h
    subst hret
    refine AWp.ret ?_
    refine thenQ_ret ?_
    exact bodyQ_ret _ rfl ⟨rfl, rfl⟩ rfl
  ·
    replace h := ite_fb hc1 h
    refine AWp.skip ?_
    refine thenQ_normal ?_
    refine q1rq [] [] ⟨40, [(1, .ptr 1 0), (6, .own 18)], [(1, .cells 67 [.i x1, .str x2, .str x3, .str x4]), (18, .rows 9 1 1 (lstF 1 [.str r5.1]))], [], 0⟩ trivial ?_
    refine AWp.le (Le.mk (s' := ⟨40, [(1, .ptr 1 0), (6, .own 18)], [(1, .cells 67 [.i x1, .str x2, .str x3, .str x4]), (18, q1bS_9 [r5.1])], [], 0⟩) rfl rfl ⟨.refl _, .refl _, trivial⟩ ⟨⟨_, rfl, .refl _⟩, ⟨_, rfl, (BLe.of (RL.lst (enc := eS) [r5.1] rfl rfl (fun _ => rfl)))⟩, trivial⟩) ?_
    obtain ⟨K1, hK1, h⟩ := jn_some h
    refine AWp.join (α := List (List UInt8)) (fun (l9 : List (List UInt8)) => ⟨40, [(6, .own 18)], [(18, q1bS_9 l9)], [], 0⟩) (fun x => K1 x = some r) ?_ ?_
    ·
      refine q1rq [] [] ⟨40, (f66z1), [(18, q1bS_9 [r5.1]), (25, .rows 9 1 3 (lstF 1 [.str x2, .str x3, .str x4]))], [], 0⟩ trivial ?_
      refine AWp.le (Le.mk (s' := ⟨40, (f66z1), [(18, q1bS_9 [r5.1]), (25, q1bS_9 [x2, x3, x4])], [], 0⟩) rfl rfl ⟨.refl _, .refl _, .refl _, .refl _, trivial⟩ ⟨⟨_, rfl, .refl _⟩, ⟨_, rfl, (BLe.of (RL.lst (enc := eS) [x2, x3, x4] rfl rfl (fun _ => rfl)))⟩, trivial⟩) ?_
      refine AWp.block ?_
      refine AWp.loopL (α := Nat × (Nat × List (List UInt8))) (fun x => match x with | (_, n6, l7) => ⟨40, (f66z0 n6), [(18, q1bS_9 l7), (25, q1bS_9 [x2, x3, x4])], [], 0⟩) (fun x => f66_L0 x2 x3 x4 K1 x.1 x.2 = some r) (fun x => x.1) (FUEL, 0, [r5.1]) (Le.mk (s' := ⟨40, (f66z1), [(18, q1bS_9 [r5.1]), (25, q1bS_9 [x2, x3, x4])], [], 0⟩) rfl rfl ⟨.refl _, .refl _, .refl _, .refl _, trivial⟩ ⟨⟨_, rfl, .refl _⟩, ⟨_, rfl, .refl _⟩, trivial⟩) h ?_
      rintro ⟨k0, n6, l7⟩ h
      cases k0 with
      | zero => exact nomatch (show (none : Option (List UInt8 × Int)) = some r from h)
      | succ k0 =>
      obtain ⟨C0, hC0⟩ : ∃ C, C = f66_L0 x2 x3 x4 K1 k0 := ⟨_, rfl⟩
      replace h := (f66_L0.eq_2 ..).symm.trans h
      try rw [← hC0] at h
      refine q1rq [] [] ⟨40, [(6, .own 18), (25, .own 25), (26, .i (3 : Int)), (27, .i (n6 : Int)), (28, .bool (decide ((n6 : Int) < (3 : Int))))], [(18, q1bS_9 l7), (25, q1bS_9 [x2, x3, x4])], [], 0⟩ trivial ?_
      refine AWp.seq ?_
      refine AWp.cond (b := (decide ((n6 : Int) < (3 : Int)))) (by kernel_rfl) (fun hc2 => ?_) (fun hc2 => ?_)
      ·
        replace h := ite_tb hc2 h
        refine AWp.skip ?_
        refine thenQ_normal ?_
        obtain ⟨K2, hK2, h⟩ := jn_some h
        refine AWp.join (α := List (List UInt8)) (fun (l8 : List (List UInt8)) => ⟨40, (f66z0 n6), [(18, q1bS_9 l8), (25, q1bS_9 [x2, x3, x4])], [], 0⟩) (fun x => K2 x = some r) ?_ ?_
        ·
          refine AWp.block ?_
          refine AWp.seq ?_
          obtain ⟨ob0p, h⟩ := chk_some h
          have ob0 : 0 ≤ (n6 : Int) ∧ (n6 : Int) < ((([x2, x3, x4]).length : Nat) : Int) := ⟨by omega, ob0p⟩
          obtain ⟨ob1, h⟩ := chk_some h
          refine q1rr [] [] ⟨40, [(6, .own 18), (8, .str ([x2, x3, x4].getD n6 [])), (25, .own 25), (26, .i (3 : Int)), (27, .i (n6 : Int))], [(18, q1bS_9 l7), (25, q1bS_9 [x2, x3, x4])], [], 0⟩ (an2 ob0 ob1) ?_
          refine thenQ_normal ?_
          refine q1rq [] [] ⟨40, [(6, .own 18), (8, .str ([x2, x3, x4].getD n6 [])), (25, .own 25), (26, .i (3 : Int)), (27, .i (n6 : Int)), (32, .bool (!(([x2, x3, x4].getD n6 []) == [])))], [(18, q1bS_9 l7), (25, q1bS_9 [x2, x3, x4])], [], 0⟩ trivial ?_
          refine AWp.cond (b := (!(([x2, x3, x4].getD n6 []) == []))) (by kernel_rfl) (fun hc3 => ?_) (fun hc3 => ?_)
          ·
            replace h := ite_tb hc3 h
            obtain ⟨ob2, h⟩ := chk_some h
            refine q1rr [] [] ⟨40, (f66z0 n6), [(18, .rows 9 1 ((l7).length + 1) (appF (l7).length (encF eS [] l7) (lstF 1 [.str ([x2, x3, x4].getD n6 [])]))), (25, q1bS_9 [x2, x3, x4])], [], 0⟩ (an1 ob2) ?_
            refine blockQ_normal ?_
            exact joinQ_normal ((l7 ++ [([x2, x3, x4].getD n6 [])])) (Le.trans (Le.mk (s' := ⟨40, (f66z0 n6), [(18, q1bS_9 (l7 ++ [([x2, x3, x4].getD n6 [])])), (25, q1bS_9 [x2, x3, x4])], [], 0⟩) rfl rfl ⟨.refl _, .refl _, .refl _, .refl _, trivial⟩ ⟨⟨_, rfl, (BLe.of (RL.app (RL.self _) (RL.lst (enc := eS) [([x2, x3, x4].getD n6 [])] rfl rfl (fun _ => rfl))))⟩, ⟨_, rfl, .refl _⟩, trivial⟩) (Le.mk rfl rfl ⟨.refl _, .refl _, .refl _, .refl _, trivial⟩ ⟨⟨_, rfl, .refl _⟩, ⟨_, rfl, .refl _⟩, trivial⟩)) h
          ·
            replace h := ite_fb hc3 h
            refine AWp.skip ?_
            refine blockQ_normal ?_
            exact joinQ_normal (l7) (Le.mk rfl rfl ⟨.refl _, .refl _, .refl _, .refl _, trivial⟩ ⟨⟨_, rfl, .refl _⟩, ⟨_, rfl, .refl _⟩, trivial⟩) h
        ·
          rintro l8 h
          replace h := (congrFun hK2 _).symm.trans h
          obtain ⟨ob3p, h⟩ := chk_some h
          have ob3 : -9223372036854775808 ≤ ((n6 : Int) + (1 : Int)) ∧ ((n6 : Int) + (1 : Int)) ≤ 9223372036854775807 := ⟨by omega, ob3p⟩
          refine q1rr [] [] ⟨40, [(6, .own 18), (25, .own 25), (26, .i (3 : Int)), (27, .i (((n6 + 1) : Nat) : Int))], [(18, q1bS_9 l8), (25, q1bS_9 [x2, x3, x4])], [], 0⟩ (an1 ob3) ?_
          rw [hC0] at h
          exact loopQ_normal (_, (n6 + 1), l8) (Le.mk rfl rfl ⟨.refl _, .refl _, .refl _, .refl _, trivial⟩ ⟨⟨_, rfl, .refl _⟩, ⟨_, rfl, .refl _⟩, trivial⟩) h (Nat.lt_succ_self _)
      ·
        replace h := ite_fb hc2 h
        refine AWp.exit ?_
        refine thenQ_exit ?_
        refine thenQ_exit ?_
        refine blockQ_same ?_
        exact joinQ_normal (l7) (Le.mk rfl rfl ⟨.refl _, trivial⟩ ⟨⟨_, rfl, .refl _⟩, trivial⟩) h
    ·
      rintro l9 h
      replace h := (congrFun hK1 _).symm.trans h
      refine AWp.seq ?_
      obtain ⟨r10, hr10, h⟩ := bind_ok h
      refine q1rr [] [(1, ⟨[q1aS l9, .str ([32] : List UInt8)], [], [], [], .str r10, [], [18], []⟩)] ⟨40, [(2, .str r10), (3, .i (0 : Int))], [], [], 0⟩ (an1 (cpL (c := true) [(18, q1bS_9 l9)] [18] [.own 18, .str ([32] : List UInt8)] (fun _ => (f107_ok _ _ _ hr10)) (fun _ => ⟨.refl _, .refl _, trivial⟩) (.inr ⟨rfl, trivial⟩))) ?_
      refine thenQ_normal ?_
      have hret := Option.some.inj h
      subst hret
      refine AWp.ret ?_
      exact bodyQ_ret _ rfl ⟨rfl, rfl⟩ rfl
def f36_L0 (x1 : List UInt8) (K1 : Unit → Option (Int × List UInt8 × List UInt8 × List UInt8 × Int)) : Nat → (List (List UInt8) × List Nat) → Option (Int × List UInt8 × List UInt8 × List UInt8 × Int)
  | 0, _ => none
  | k + 1, (l4, l5) =>
    nextO mk64.length l5 (fun (j6 : Nat) =>
    chk ((0 : Int) < (((l4).length : Nat) : Int)) <|
    if (!(((mv64.getD j6 (default : List UInt8 × Bool × Bool × Bool)).1) == (l4.getD 0 []))) then (
    (f36_L0 x1 K1 k) (l4, (l5 ++ [j6]))
    ) else (
    chk ((1 : Int) ≤ (((l4).length : Nat) : Int)) <|
    (f65 ((mv64.getD j6 (default : List UInt8 × Bool × Bool × Bool)).2.1) (l4.drop 1)).bind fun (r7 : List UInt8 × List (List UInt8)) =>
    (f65 ((mv64.getD j6 (default : List UInt8 × Bool × Bool × Bool)).2.2.1) r7.2).bind fun (r8 : List UInt8 × List (List UInt8)) =>
    (f65 ((mv64.getD j6 (default : List UInt8 × Bool × Bool × Bool)).2.2.2) r8.2).bind fun (r9 : List UInt8 × List (List UInt8)) =>
    (f66 (mk64.getD j6 0) r7.1 r8.1 r9.1).bind fun (r10 : List UInt8 × Int) =>
    if ((r10.2 == (0 : Int)) && (r10.1 == x1)) then (
    some ((mk64.getD j6 0), r7.1, r8.1, r9.1, (0 : Int))
    ) else (
    (f36_L0 x1 K1 k) (l4, (l5 ++ [j6]))
    )
    )
    ) (
    K1 ()
    )
abbrev f36z0 : List V := [.int .i64 (0 : Int), .str [], .str [], .str []]
def f36 (x1 : List UInt8) : Option (Int × List UInt8 × List UInt8 × List UInt8 × Int) :=
  (f63 x1 ([32] : List UInt8)).bind fun (r2 : List (List UInt8)) =>
  jn (fun (_ : Unit) =>
  some ((0 : Int), [], [], [], (2 : Int))
  ) fun (K1 : Unit → Option (Int × List UInt8 × List UInt8 × List UInt8 × Int)) =>
  (f64 ).bind fun (r3 : Unit) =>
  f36_L0 x1 K1 FUEL (r2, [])
set_option maxRecDepth 100000 in
theorem f36_ok  (x1 : List UInt8) (r : Int × List UInt8 × List UInt8 × List UInt8 × Int) (h : f36 x1 = some r)  : Spec1 Tryz.prog 36 [] [] [] [.str x1] (.tup [.agg [.int .i64 r.1, .str r.2.1, .str r.2.2.1, .str r.2.2.2.1], .int .i64 r.2.2.2.2]) [] := by
  unfold f36 at h
  refine Spec1.bodyD [2] 0 _ _ Tryz.func36 rfl Tryz.ntmps36 rfl rfl ?_
  refine q1rq [] [] ⟨61, [(0, .str x1), (2, .ptr 2 0)], [(2, .cells 67 (f36z0))], [], 0⟩ trivial ?_
  refine AWp.seq ?_
  obtain ⟨r2, hr2, h⟩ := bind_ok h
  refine q1rr [] [(1, ⟨[.str x1, .str ([32] : List UInt8)], [], [], [(6001, q1bS_9 r2)], .own 6001, [6001], [], []⟩)] ⟨61, [(0, .str x1), (2, .ptr 2 0), (4, .own 6001)], [(2, .cells 67 (f36z0)), (6001, q1bS_9 r2)], [], 0⟩ (an1 (cpT (Spec1.ren (swapN 3000 6001) (swapN_inv 3000 6001) rfl (f63_ok _ _ _ hr2)))) ?_
  refine thenQ_normal ?_
  obtain ⟨K1, hK1, h⟩ := jn_some h
  refine AWp.join (α := Unit) (fun (x : Unit) => match x with | () => ⟨61, [(2, .ptr 2 0)], [(2, .cells 67 (f36z0))], [], 0⟩) (fun x => K1 x = some r) ?_ ?_
  ·
    refine AWp.seq ?_
    obtain ⟨r3, hr3, h⟩ := bind_ok h
    refine q1rr [] [(0, ⟨[], [], [], [], vM (V.int .i64) 0 m101 q1dSBBB mk64 mv64, [], [], []⟩), (1, ⟨[vM (V.int .i64) 0 m101 q1dSBBB mk64 mv64], [], [], [(15, iM (V.int .i64) 0 m101 q1dSBBB mk64 mv64 [])], .own 15, [15], [], []⟩)] ⟨61, [(0, .str x1), (2, .ptr 2 0), (4, .own 6001), (15, .own 15)], [(2, .cells 67 (f36z0)), (15, iM (V.int .i64) 0 m101 q1dSBBB mk64 mv64 []), (6001, q1bS_9 r2)], [], 0⟩ (an2 (cpT (f64_ok _ hr3)) (And.intro (rangeL_spec (P := Tryz.prog) Tryz.underlying101 (.tmp 14) 0 15 (V.int .i64) 0 m101 q1dSBBB mk64 mv64) (VLes.same [vM (V.int .i64) 0 m101 q1dSBBB mk64 mv64]))) ?_
    refine thenQ_normal ?_
    refine AWp.block ?_
    refine AWp.loopL (α := Nat × (List (List UInt8) × List Nat)) (fun x => match x with | (_, l4, l5) => ⟨61, [(0, .str x1), (2, .ptr 2 0), (4, q1aS l4), (15, .own 15)], [(2, .cells 67 (f36z0)), (15, iM (V.int .i64) 0 m101 q1dSBBB mk64 mv64 l5)], [], 0⟩) (fun x => f36_L0 x1 K1 x.1 x.2 = some r) (fun x => x.1) (FUEL, r2, []) (Le.trans (Le.trans (Le.freeze 6001 rfl rfl) (Le.mk (s' := ⟨61, [(0, .str x1), (2, .ptr 2 0), (4, q1aS r2), (15, .own 15)], [(2, .cells 67 (f36z0)), (15, iM (V.int .i64) 0 m101 q1dSBBB mk64 mv64 [])], [], 0⟩) rfl rfl ⟨.refl _, .refl _, .refl _, .refl _, trivial⟩ ⟨⟨_, rfl, .refl _⟩, ⟨_, rfl, .refl _⟩, trivial⟩)) (Le.mk (s' := ⟨61, [(0, .str x1), (2, .ptr 2 0), (4, q1aS r2), (15, .own 15)], [(2, .cells 67 (f36z0)), (15, iM (V.int .i64) 0 m101 q1dSBBB mk64 mv64 [])], [], 0⟩) rfl rfl ⟨.refl _, .refl _, .refl _, .refl _, trivial⟩ ⟨⟨_, rfl, .refl _⟩, ⟨_, rfl, .refl _⟩, trivial⟩)) h ?_
    rintro ⟨k0, l4, l5⟩ h
    cases k0 with
    | zero => exact nomatch (show (none : Option (Int × List UInt8 × List UInt8 × List UInt8 × Int)) = some r from h)
    | succ k0 =>
    obtain ⟨C0, hC0⟩ : ∃ C, C = f36_L0 x1 K1 k0 := ⟨_, rfl⟩
    replace h := (f36_L0.eq_2 ..).symm.trans h
    try rw [← hC0] at h
    refine AWp.seq ?_
    refine AWp.nextR 15 (V.int .i64) 0 m101 q1dSBBB mk64 mv64 l5 rfl rfl rfl rfl rfl (fun j6 hj6 hsj6 => ?_) (fun hall => ?_)
    ·
      replace h := (nextO_some h).1 j6 hj6 hsj6
      refine thenQ_normal ?_
      refine AWp.seq ?_
      refine AWp.cond (b := true) (by kernel_rfl) (fun hc => ?_) (fun hc => ?_)
      ·
        clear hc
        refine AWp.skip ?_
        refine thenQ_normal ?_
        refine AWp.block ?_
        refine q1rq [] [(0, ⟨[.own 15], [15], [15], [(15, iM (V.int .i64) 0 m101 q1dSBBB mk64 mv64 (l5 ++ [j6]))], .tup [.i (mk64.getD j6 0), .agg [.str (mv64.getD j6 q1dSBBB).1, .bool (mv64.getD j6 q1dSBBB).2.1, .bool (mv64.getD j6 q1dSBBB).2.2.1, .bool (mv64.getD j6 q1dSBBB).2.2.2]], [], [], []⟩)] ⟨61, [(0, .str x1), (2, .ptr 2 0), (4, q1aS l4), (5, .i (mk64.getD j6 0)), (6, .ptr 6 0), (15, .own 15)], [(2, .cells 67 (f36z0)), (6, .cells 104 [.str (mv64.getD j6 q1dSBBB).1, .bool (mv64.getD j6 q1dSBBB).2.1, .bool (mv64.getD j6 q1dSBBB).2.2.1, .bool (mv64.getD j6 q1dSBBB).2.2.2]), (15, iM (V.int .i64) 0 m101 q1dSBBB mk64 mv64 (l5 ++ [j6]))], [], 0⟩ (an2 (And.intro (entryL_spec (P := Tryz.prog) (.tmp 15) 0 15 (V.int .i64) 0 m101 q1dSBBB mk64 mv64 l5 j6 hj6) (VLes.same [.own 15])) trivial) ?_
        refine AWp.seq ?_
        refine AWp.seq ?_
        obtain ⟨ob0p, h⟩ := chk_some h
        have ob0 : 0 ≤ (0 : Int) ∧ (0 : Int) < (((l4).length : Nat) : Int) := ⟨by omega, ob0p⟩
        refine q1rr [] [] ⟨61, [(0, .str x1), (2, .ptr 2 0), (4, q1aS l4), (5, .i (mk64.getD j6 0)), (6, .ptr 6 0), (15, .own 15), (26, .bool (!(((mv64.getD j6 q1dSBBB).1) == (l4.getD 0 []))))], [(2, .cells 67 (f36z0)), (6, .cells 104 [.str (mv64.getD j6 q1dSBBB).1, .bool (mv64.getD j6 q1dSBBB).2.1, .bool (mv64.getD j6 q1dSBBB).2.2.1, .bool (mv64.getD j6 q1dSBBB).2.2.2]), (15, iM (V.int .i64) 0 m101 q1dSBBB mk64 mv64 (l5 ++ [j6]))], [], 0⟩ (an1 ob0) ?_
        refine thenQ_normal ?_
        refine AWp.cond (b := (!(((mv64.getD j6 q1dSBBB).1) == (l4.getD 0 [])))) (by kernel_rfl) (fun hc1 => ?_) (fun hc1 => ?_)
        ·
          replace h := ite_tb hc1 h
          refine AWp.exit ?_
          refine thenQ_exit ?_
          refine blockQ_same ?_
          rw [hC0] at h
          exact loopQ_normal (_, l4, (l5 ++ [j6])) (Le.mk rfl rfl ⟨.refl _, .refl _, .refl _, .refl _, trivial⟩ ⟨⟨_, rfl, .refl _⟩, ⟨_, rfl, .refl _⟩, trivial⟩) h (Nat.lt_succ_self _)
        ·
          replace h := ite_fb hc1 h
          refine AWp.skip ?_
          refine thenQ_normal ?_
          refine AWp.seq ?_
          obtain ⟨ob1p, h⟩ := chk_some h
          have ob1 : 0 ≤ (1 : Int) ∧ (1 : Int) ≤ (((l4).length : Nat) : Int) := ⟨by omega, ob1p⟩
          refine q1rr [] [] ⟨61, [(0, .str x1), (2, .ptr 2 0), (4, q1aS l4), (6, .ptr 6 0), (7, .ptr 7 0), (8, .ptr 8 0), (15, .own 15)], [(2, .cells 67 (f36z0)), (6, .cells 104 [.str (mv64.getD j6 q1dSBBB).1, .bool (mv64.getD j6 q1dSBBB).2.1, .bool (mv64.getD j6 q1dSBBB).2.2.1, .bool (mv64.getD j6 q1dSBBB).2.2.2]), (7, .cells 67 [.i (mk64.getD j6 0), .str [], .str [], .str []]), (8, .cells 48 [.arr 1 ((l4).length - 1) (fun i j => (encF eS [] l4) (i + 1) j)]), (15, iM (V.int .i64) 0 m101 q1dSBBB mk64 mv64 (l5 ++ [j6]))], [], 0⟩ (an3 ob1 trivial trivial) ?_
          refine thenQ_normal ?_
          refine AWp.le (Le.mk (s' := ⟨61, [(0, .str x1), (2, .ptr 2 0), (4, q1aS l4), (6, .ptr 6 0), (7, .ptr 7 0), (8, .ptr 8 0), (15, .own 15)], [(2, .cells 67 (f36z0)), (6, .cells 104 [.str (mv64.getD j6 q1dSBBB).1, .bool (mv64.getD j6 q1dSBBB).2.1, .bool (mv64.getD j6 q1dSBBB).2.2.1, .bool (mv64.getD j6 q1dSBBB).2.2.2]), (7, .cells 67 [.i (mk64.getD j6 0), .str [], .str [], .str []]), (8, .cells 48 [q1aS (l4.drop 1)]), (15, iM (V.int .i64) 0 m101 q1dSBBB mk64 mv64 (l5 ++ [j6]))], [], 0⟩) rfl rfl ⟨.refl _, .refl _, .refl _, .refl _, .refl _, .refl _, .refl _, trivial⟩ ⟨⟨_, rfl, .refl _⟩, ⟨_, rfl, .refl _⟩, ⟨_, rfl, .refl _⟩, ⟨_, rfl, (.cellsL ⟨VLe.dropL, trivial⟩)⟩, ⟨_, rfl, .refl _⟩, trivial⟩) ?_
          refine q1rq [] [] ⟨61, [(0, .str x1), (2, .ptr 2 0), (4, q1aS l4), (6, .ptr 6 0), (7, .ptr 7 0), (9, .fn (.func 65) [.ptr 8 0]), (15, .own 15)], [(2, .cells 67 (f36z0)), (6, .cells 104 [.str (mv64.getD j6 q1dSBBB).1, .bool (mv64.getD j6 q1dSBBB).2.1, .bool (mv64.getD j6 q1dSBBB).2.2.1, .bool (mv64.getD j6 q1dSBBB).2.2.2]), (7, .cells 67 [.i (mk64.getD j6 0), .str [], .str [], .str []]), (8, .cells 48 [q1aS (l4.drop 1)]), (15, iM (V.int .i64) 0 m101 q1dSBBB mk64 mv64 (l5 ++ [j6]))], [], 0⟩ trivial ?_
          refine AWp.seq ?_
          obtain ⟨r7, hr7, h⟩ := bind_ok h
          obtain ⟨r8, hr8, h⟩ := bind_ok h
          obtain ⟨r9, hr9, h⟩ := bind_ok h
          refine q1rr [] [(3, ⟨[.bool (mv64.getD j6 q1dSBBB).2.1, .ptr 8 0], [8], [8], [(8, .cells 48 [q1aS r7.2])], .str r7.1, [], [], []⟩), (7, ⟨[.bool (mv64.getD j6 q1dSBBB).2.2.1, .ptr 8 0], [8], [8], [(8, .cells 48 [q1aS r8.2])], .str r8.1, [], [], []⟩), (11, ⟨[.bool (mv64.getD j6 q1dSBBB).2.2.2, .ptr 8 0], [8], [8], [(8, .cells 48 [q1aS r9.2])], .str r9.1, [], [], []⟩)] ⟨61, [(0, .str x1), (2, .ptr 2 0), (4, q1aS l4), (7, .ptr 7 0), (15, .own 15)], [(2, .cells 67 (f36z0)), (7, .cells 67 [.i (mk64.getD j6 0), .str r7.1, .str r8.1, .str r9.1]), (15, iM (V.int .i64) 0 m101 q1dSBBB mk64 mv64 (l5 ++ [j6]))], [], 0⟩ (an6 (cpT (Spec1.ren (swapN 2000 8) (swapN_inv 2000 8) rfl (f65_ok _ _ _ hr7))) (cpT (Spec1.ren (swapN 2000 8) (swapN_inv 2000 8) rfl (f65_ok _ _ _ hr8))) (cpT (Spec1.ren (swapN 2000 8) (swapN_inv 2000 8) rfl (f65_ok _ _ _ hr9))) trivial trivial trivial) ?_
          refine thenQ_normal ?_
          refine AWp.seq ?_
          obtain ⟨r10, hr10, h⟩ := bind_ok h
          refine q1rr [] [(1, ⟨[.agg [.i (mk64.getD j6 0), .str r7.1, .str r8.1, .str r9.1]], [], [], [], .tup [.str r10.1, .i r10.2], [], [], []⟩)] ⟨61, [(0, .str x1), (2, .ptr 2 0), (4, q1aS l4), (7, .ptr 7 0), (10, .str r10.1), (11, .i r10.2), (15, .own 15)], [(2, .cells 67 (f36z0)), (7, .cells 67 [.i (mk64.getD j6 0), .str r7.1, .str r8.1, .str r9.1]), (15, iM (V.int .i64) 0 m101 q1dSBBB mk64 mv64 (l5 ++ [j6]))], [], 0⟩ (an1 (cpT (f66_ok _ _ _ _ _ hr10))) ?_
          refine thenQ_normal ?_
          refine AWp.seq ?_
          have ob2 := idA (((r10.2 == (0 : Int)) == true) = true)
          have ob4 := bqA (r10.2 == (0 : Int)) true
          refine q1rr [] [] ⟨61, [(0, .str x1), (2, .ptr 2 0), (4, q1aS l4), (7, .ptr 7 0), (15, .own 15), (58, .bool ((r10.2 == (0 : Int)) && (r10.1 == x1)))], [(2, .cells 67 (f36z0)), (7, .cells 67 [.i (mk64.getD j6 0), .str r7.1, .str r8.1, .str r9.1]), (15, iM (V.int .i64) 0 m101 q1dSBBB mk64 mv64 (l5 ++ [j6]))], [], 0⟩ (an2 (an2 ob2 ob2) ob4) ?_
          refine thenQ_normal ?_
          refine AWp.cond (b := ((r10.2 == (0 : Int)) && (r10.1 == x1))) (by kernel_rfl) (fun hc2 => ?_) (fun hc2 => ?_)
          ·
            replace h := ite_tb hc2 h
            refine q1rq [] [] ⟨61, [(2, .ptr 2 0), (3, .i (0 : Int))], [(2, .cells 67 [.i (mk64.getD j6 0), .str r7.1, .str r8.1, .str r9.1])], [], 0⟩ (an1 trivial) ?_
            have hret := Option.some.inj h
            subst hret
            refine AWp.ret ?_
            refine blockQ_ret ?_
            refine thenQ_ret ?_
            refine blockQ_ret ?_
            refine joinQ_ret ?_
            exact bodyQ_ret _ rfl ⟨rfl, rfl⟩ rfl
          ·
            replace h := ite_fb hc2 h
            refine AWp.skip ?_
            refine blockQ_normal ?_
            rw [hC0] at h
            exact loopQ_normal (_, l4, (l5 ++ [j6])) (Le.mk rfl rfl ⟨.refl _, .refl _, .refl _, .refl _, trivial⟩ ⟨⟨_, rfl, .refl _⟩, ⟨_, rfl, .refl _⟩, trivial⟩) h (Nat.lt_succ_self _)
      ·
        cases hc
    ·
      replace h := (nextO_some h).2 hall
      refine thenQ_normal ?_
      refine AWp.seq ?_
      refine AWp.cond (b := false) (by kernel_rfl) (fun hc => ?_) (fun hc => ?_)
      ·
        cases hc
      ·
        clear hc
        refine AWp.exit ?_
        refine thenQ_exit ?_
        refine thenQ_exit ?_
        refine blockQ_same ?_
        exact joinQ_normal () (Le.mk rfl rfl ⟨.refl _, trivial⟩ ⟨⟨_, rfl, .refl _⟩, trivial⟩) h
  ·
    rintro ⟨⟩ h
    replace h := (congrFun hK1 _).symm.trans h
    refine q1rq [] [] ⟨61, [(2, .ptr 2 0), (3, .i (2 : Int))], [(2, .cells 67 (f36z0))], [], 0⟩ (an1 trivial) ?_
    have hret := Option.some.inj h
    subst hret
    refine AWp.ret ?_
    exact bodyQ_ret _ rfl ⟨rfl, rfl⟩ rfl
def f141 (x1 x2 : List UInt8) : Option Int := some (Lib.compareBytes x1 x2)
theorem f141_ok (x1 x2 : List UInt8) (r : Int) (h : f141 x1 x2 = some r) : Spec1 Tryz.prog 141 [] [] [] [.str x1, .str x2] (.int .i64 r) [] := str2_spec Lib.compareBytes cmpString x1 x2 r h
def f111 (x1 : List UInt8) (x2 : List UInt8) : Option Int :=
  (f141 x1 x2).bind fun (r3 : Int) =>
  some r3
set_option maxRecDepth 100000 in
theorem f111_ok  (x1 : List UInt8) (x2 : List UInt8) (r : Int) (h : f111 x1 x2 = some r)  : Spec1 Tryz.prog 111 [] [] [] [.str x1, .str x2] (.int .i64 r) [] := by
  unfold f111 at h
  refine Spec1.body 0 _ _ Tryz.func111 rfl Tryz.ntmps111 rfl rfl ?_
  refine q1rq [] [] ⟨8, [(0, .str x1), (1, .str x2)], [], [], 0⟩ trivial ?_
  refine AWp.seq ?_
  obtain ⟨r3, hr3, h⟩ := bind_ok h
  refine q1rr [] [(2, ⟨[.str x1, .str x2], [], [], [], .i r3, [], [], []⟩)] ⟨8, [(4, .i r3)], [], [], 0⟩ (an1 (cpT (f141_ok _ _ _ hr3))) ?_
  refine thenQ_normal ?_
  have hret := Option.some.inj h
  subst hret
  refine AWp.ret ?_
  exact bodyQ_ret _ rfl ⟨rfl, rfl⟩ rfl
def f110 (x1 : List UInt8) (x2 : List UInt8) (x3 : Int) (x4 : List UInt8) : Option Int :=
  (f111 x1 x4).bind fun (r5 : Int) =>
  some r5
set_option maxRecDepth 100000 in
theorem f110_ok  (x1 : List UInt8) (x2 : List UInt8) (x3 : Int) (x4 : List UInt8) (r : Int) (h : f110 x1 x2 x3 x4 = some r)  : Spec1 Tryz.prog 110 [] [] [] [.agg [.str x1, .str x2, .int .i64 x3], .str x4] (.int .i64 r) [] := by
  unfold f110 at h
  refine Spec1.body 0 _ _ Tryz.func110 rfl Tryz.ntmps110 rfl rfl ?_
  refine q1rq [] [] ⟨9, [(1, .str x4), (2, .ptr 2 0)], [(2, .cells 76 [.str x1, .str x2, .i x3])], [], 0⟩ trivial ?_
  refine AWp.seq ?_
  obtain ⟨r5, hr5, h⟩ := bind_ok h
  refine q1rr [] [(3, ⟨[.str x1, .str x4], [], [], [], .i r5, [], [], []⟩)] ⟨9, [(4, .i r5)], [], [], 0⟩ (an1 (cpT (f111_ok _ _ _ hr5))) ?_
  refine thenQ_normal ?_
  have hret := Option.some.inj h
  subst hret
  refine AWp.ret ?_
  exact bodyQ_ret _ rfl ⟨rfl, rfl⟩ rfl
def f109_L0 (x1 : List (List UInt8 × List UInt8 × Int)) (x2 : List UInt8) (K1 : Int → Option (Int × Bool)) : Nat → (Int × Int) → Option (Int × Bool)
  | 0, _ => none
  | k + 1, (i3, i4) =>
    if (decide (i3 < i4)) then (
    chk (-9223372036854775808 ≤ (i3 + i4) ∧ (i3 + i4) ≤ 9223372036854775807) <|
    chk (0 ≤ (i3 + i4) ∧ (i3 + i4) ≤ 18446744073709551615) <|
    chk (1 ≤ IntKind.bits .u64) <|
    chk (-9223372036854775808 ≤ ((i3 + i4) / 2 ^ 1) ∧ ((i3 + i4) / 2 ^ 1) ≤ 9223372036854775807) <|
    (f110 ((x1.getD ((((i3 + i4) / 2 ^ 1)).toNat) (default : List UInt8 × List UInt8 × Int)).1) ((x1.getD ((((i3 + i4) / 2 ^ 1)).toNat) (default : List UInt8 × List UInt8 × Int)).2.1) ((x1.getD ((((i3 + i4) / 2 ^ 1)).toNat) (default : List UInt8 × List UInt8 × Int)).2.2) x2).bind fun (r5 : Int) =>
    chk (0 ≤ ((i3 + i4) / 2 ^ 1) ∧ ((i3 + i4) / 2 ^ 1) < (((x1).length : Nat) : Int)) <|
    if (decide (r5 < (0 : Int))) then (
    chk (-9223372036854775808 ≤ (((i3 + i4) / 2 ^ 1) + (1 : Int)) ∧ (((i3 + i4) / 2 ^ 1) + (1 : Int)) ≤ 9223372036854775807) <|
    (f109_L0 x1 x2 K1 k) ((((i3 + i4) / 2 ^ 1) + (1 : Int)), i4)
    ) else (
    (f109_L0 x1 x2 K1 k) (i3, ((i3 + i4) / 2 ^ 1))
    )
    ) else (
    K1 i3
    )
def f109 (x1 : List (List UInt8 × List UInt8 × Int)) (x2 : List UInt8) : Option (Int × Bool) :=
  jn (fun (i6 : Int) =>
  optc ((decide (i6 < (((x1).length : Nat) : Int))) == true) (f110 ((x1.getD ((i6).toNat) (default : List UInt8 × List UInt8 × Int)).1) ((x1.getD ((i6).toNat) (default : List UInt8 × List UInt8 × Int)).2.1) ((x1.getD ((i6).toNat) (default : List UInt8 × List UInt8 × Int)).2.2) x2) fun (r7 : Int) =>
  chk (((decide (i6 < (((x1).length : Nat) : Int))) == true) = true → 0 ≤ i6 ∧ i6 < (((x1).length : Nat) : Int)) <|
  some (i6, ((decide (i6 < (((x1).length : Nat) : Int))) && (r7 == (0 : Int))))
  ) fun (K1 : Int → Option (Int × Bool)) =>
  f109_L0 x1 x2 K1 FUEL ((0 : Int), (((x1).length : Nat) : Int))
set_option maxRecDepth 100000 in
theorem f109_ok  (x1 : List (List UInt8 × List UInt8 × Int)) (x2 : List UInt8) (r : Int × Bool) (h : f109 x1 x2 = some r)  : Spec1 Tryz.prog 109 [] [] [] [vL 3 eSSI (default : List UInt8 × List UInt8 × Int) x1, .str x2, .fn (.func 110) []] (.tup [.int .i64 r.1, .bool r.2]) [] := by
  unfold f109 at h
  refine Spec1.body 0 _ _ Tryz.func109 rfl Tryz.ntmps109 rfl rfl ?_
  refine q1rq [] [] ⟨49, [(0, q1aSSI x1), (1, .str x2), (2, .fn (.func 110) [])], [], [], 0⟩ trivial ?_
  refine q1rq [] [] ⟨49, [(0, q1aSSI x1), (1, .str x2), (2, .fn (.func 110) []), (8, .i (lZ x1))], [], [], 0⟩ trivial ?_
  refine q1rq [] [] ⟨49, [(0, q1aSSI x1), (1, .str x2), (2, .fn (.func 110) []), (8, .i (lZ x1)), (9, .i (0 : Int)), (10, .i (lZ x1))], [], [], 0⟩ trivial ?_
  obtain ⟨K1, hK1, h⟩ := jn_some h
  refine AWp.join (α := Int) (fun (i6 : Int) => ⟨49, [(0, q1aSSI x1), (1, .str x2), (2, .fn (.func 110) []), (8, .i (lZ x1)), (9, .i i6)], [], [], 0⟩) (fun x => K1 x = some r) ?_ ?_
  ·
    refine AWp.block ?_
    refine AWp.loopL (α := Nat × (Int × Int)) (fun x => match x with | (_, i3, i4) => ⟨49, [(0, q1aSSI x1), (1, .str x2), (2, .fn (.func 110) []), (8, .i (lZ x1)), (9, .i i3), (10, .i i4)], [], [], 0⟩) (fun x => f109_L0 x1 x2 K1 x.1 x.2 = some r) (fun x => x.1) (FUEL, (0 : Int), (lZ x1)) (Le.mk (s' := ⟨49, [(0, q1aSSI x1), (1, .str x2), (2, .fn (.func 110) []), (8, .i (lZ x1)), (9, .i (0 : Int)), (10, .i (lZ x1))], [], [], 0⟩) rfl rfl ⟨.refl _, .refl _, .refl _, .refl _, .refl _, .refl _, trivial⟩ trivial) h ?_
    rintro ⟨k0, i3, i4⟩ h
    cases k0 with
    | zero => exact nomatch (show (none : Option (Int × Bool)) = some r from h)
    | succ k0 =>
    obtain ⟨C0, hC0⟩ : ∃ C, C = f109_L0 x1 x2 K1 k0 := ⟨_, rfl⟩
    replace h := (f109_L0.eq_2 ..).symm.trans h
    try rw [← hC0] at h
    refine AWp.seq ?_
    refine q1rq [] [] ⟨49, [(0, q1aSSI x1), (1, .str x2), (2, .fn (.func 110) []), (8, .i (lZ x1)), (9, .i i3), (10, .i i4), (17, .bool (decide (i3 < i4)))], [], [], 0⟩ trivial ?_
    refine AWp.cond (b := (decide (i3 < i4))) (by kernel_rfl) (fun hc1 => ?_) (fun hc1 => ?_)
    ·
      replace h := ite_tb hc1 h
      refine AWp.skip ?_
      refine thenQ_normal ?_
      refine AWp.block ?_
      refine AWp.seq ?_
      obtain ⟨ob0, ob1, ob2p, h⟩ := ck3 h
      have ob2 : 0 ≤ (1 : Int) ∧ 1 ≤ IntKind.bits .u64 := ⟨by omega, ob2p⟩
      obtain ⟨ob3, h⟩ := chk_some h
      refine q1rr [] [] ⟨49, [(0, q1aSSI x1), (1, .str x2), (2, .fn (.func 110) []), (8, .i (lZ x1)), (9, .i i3), (10, .i i4), (11, .i ((i3 + i4) / 2 ^ 1))], [], [], 0⟩ (an4 ob0 ob1 ob2 ob3) ?_
      refine thenQ_normal ?_
      refine AWp.seq ?_
      obtain ⟨r5, hr5, h⟩ := bind_ok h
      obtain ⟨ob4, h⟩ := chk_some h
      refine q1rr [] [(6, ⟨[.agg [.str (x1.getD ((((i3 + i4) / 2 ^ 1)).toNat) q1dSSI).1, .str (x1.getD ((((i3 + i4) / 2 ^ 1)).toNat) q1dSSI).2.1, .i (x1.getD ((((i3 + i4) / 2 ^ 1)).toNat) q1dSSI).2.2], .str x2], [], [], [], .i r5, [], [], []⟩)] ⟨49, [(0, q1aSSI x1), (1, .str x2), (2, .fn (.func 110) []), (8, .i (lZ x1)), (9, .i i3), (10, .i i4), (11, .i ((i3 + i4) / 2 ^ 1)), (31, .bool (decide (r5 < (0 : Int))))], [], [], 0⟩ (an2 ob4 (cpT (f110_ok _ _ _ _ _ hr5))) ?_
      refine thenQ_normal ?_
      refine AWp.cond (b := (decide (r5 < (0 : Int)))) (by kernel_rfl) (fun hc2 => ?_) (fun hc2 => ?_)
      ·
        replace h := ite_tb hc2 h
        obtain ⟨ob5, h⟩ := chk_some h
        refine q1rr [] [] ⟨49, [(0, q1aSSI x1), (1, .str x2), (2, .fn (.func 110) []), (8, .i (lZ x1)), (9, .i (((i3 + i4) / 2 ^ 1) + (1 : Int))), (10, .i i4)], [], [], 0⟩ (an1 ob5) ?_
        refine blockQ_normal ?_
        rw [hC0] at h
        exact loopQ_normal (_, (((i3 + i4) / 2 ^ 1) + (1 : Int)), i4) (Le.mk rfl rfl ⟨.refl _, .refl _, .refl _, .refl _, .refl _, .refl _, trivial⟩ trivial) h (Nat.lt_succ_self _)
      ·
        replace h := ite_fb hc2 h
        refine q1rr [] [] ⟨49, [(0, q1aSSI x1), (1, .str x2), (2, .fn (.func 110) []), (8, .i (lZ x1)), (9, .i i3), (10, .i ((i3 + i4) / 2 ^ 1))], [], [], 0⟩ trivial ?_
        refine blockQ_normal ?_
        rw [hC0] at h
        exact loopQ_normal (_, i3, ((i3 + i4) / 2 ^ 1)) (Le.mk rfl rfl ⟨.refl _, .refl _, .refl _, .refl _, .refl _, .refl _, trivial⟩ trivial) h (Nat.lt_succ_self _)
    ·
      replace h := ite_fb hc1 h
      refine AWp.exit ?_
      refine thenQ_exit ?_
      refine thenQ_exit ?_
      refine blockQ_same ?_
      exact joinQ_normal (i3) (Le.mk rfl rfl ⟨.refl _, .refl _, .refl _, .refl _, .refl _, trivial⟩ trivial) h
  ·
    rintro i6 h
    replace h := (congrFun hK1 _).symm.trans h
    refine AWp.seq ?_
    obtain ⟨r7, hr7, h⟩ := optc_some h
    obtain ⟨ob6, h⟩ := chk_some h
    have ob7 := idA (((decide (i6 < (lZ x1))) == true) = true)
    have ob14 := bqA (decide (i6 < (lZ x1))) true
    refine q1rr [] [(11, ⟨[.agg [.str (x1.getD ((i6).toNat) q1dSSI).1, .str (x1.getD ((i6).toNat) q1dSSI).2.1, .i (x1.getD ((i6).toNat) q1dSSI).2.2], .str x2], [], [], [], .i r7, [], [], []⟩)] ⟨49, [(6, .i i6), (7, .bool ((decide (i6 < (lZ x1))) && (r7 == (0 : Int))))], [], [], 0⟩ (an5 (And.intro ob6 (an2 ob7 ob7)) (an1 ob7) (And.intro (cpC fun hc => (f110_ok _ _ _ _ _ (hr7 hc))) (an3 ob7 ob7 ob7)) (an1 ob7) ob14) ?_
    refine thenQ_normal ?_
    have hret := Option.some.inj h
    subst hret
    refine AWp.ret ?_
    exact bodyQ_ret _ rfl ⟨rfl, rfl⟩ rfl
def f68 (x1 : List (List UInt8 × List UInt8 × Int)) (x2 : List UInt8) : Option (Int × Bool) :=
  (f109 x1 x2).bind fun (r3 : Int × Bool) =>
  some (r3.1, r3.2)
set_option maxRecDepth 100000 in
theorem f68_ok  (x1 : List (List UInt8 × List UInt8 × Int)) (x2 : List UInt8) (r : Int × Bool) (h : f68 x1 x2 = some r)  : Spec1 Tryz.prog 68 [] [] [] [vL 3 eSSI (default : List UInt8 × List UInt8 × Int) x1, .str x2] (.tup [.int .i64 r.1, .bool r.2]) [] := by
  unfold f68 at h
  refine Spec1.body 0 _ _ Tryz.func68 rfl Tryz.ntmps68 rfl rfl ?_
  refine q1rq [] [] ⟨11, [(0, q1aSSI x1), (1, .str x2)], [], [], 0⟩ trivial ?_
  refine AWp.seq ?_
  obtain ⟨r3, hr3, h⟩ := bind_ok h
  refine q1rr [] [(2, ⟨[q1aSSI x1, .str x2, .fn (.func 110) []], [], [], [], .tup [.i r3.1, .bool r3.2], [], [], []⟩)] ⟨11, [(4, .i r3.1), (5, .bool r3.2)], [], [], 0⟩ (an1 (cpT (f109_ok _ _ _ hr3))) ?_
  refine thenQ_normal ?_
  have hret := Option.some.inj h
  subst hret
  refine AWp.ret ?_
  exact bodyQ_ret _ rfl ⟨rfl, rfl⟩ rfl
def f56 (x1 : Int) : Option (List UInt8) := itoaO x1
theorem f56_ok (x1 : Int) (r : List UInt8) (h : f56 x1 = some r) : Spec1 Tryz.prog 56 [(1, .tab .u64 Lib.pow10Tab)] [] [] [.int .i64 x1] (.str r) [] :=
  itoa_spec (by kernel_rfl) (fun n w h0 h1 ht => Any.strconv_Itoa Tryz.lays171 n h0 h1 w ht) x1 r h
def f40 (x1 : List (List UInt8 × List UInt8 × Int)) : Option (List (List UInt8 × List UInt8 × Int)) :=
  abc ((x1).length = 0) (
  some []
  ) (
  chk ((0 + (x1).length) * 40 ≤ 140737488355328) <|
  some ([] ++ x1)
  )
set_option maxRecDepth 100000 in
theorem f40_ok  (x1 : List (List UInt8 × List UInt8 × Int)) (r : List (List UInt8 × List UInt8 × Int)) (h : f40 x1 = some r)  : Spec1 Tryz.prog 40 [] [] [] [vL 3 eSSI (default : List UInt8 × List UInt8 × Int) x1] (.own 3000) [(3000, bL 76 3 eSSI (default : List UInt8 × List UInt8 × Int) r)] := by
  unfold f40 at h
  refine Spec1.body 0 _ _ Tryz.func40 rfl Tryz.ntmps40 rfl rfl ?_
  refine q1rq [] [] ⟨8, [(0, q1aSSI x1)], [], [], 0⟩ trivial ?_
  refine AWp.seq ?_
  refine q1rq [] [] ⟨8, [(0, q1aSSI x1), (4, .abool (fun b => b = true → (x1).length = 0))], [], [], 0⟩ trivial ?_
  obtain ⟨hA1, hB1⟩ := abc_some h
  refine AWp.condAb (fun b => b = true → (x1).length = 0) (by kernel_rfl) (fun hc1 => ?_) (fun hc1 => ?_)
  ·
    have h := hA1 (hc1 rfl)
    refine q1rq [] [] ⟨8, [(2, .nils)], [], [], 0⟩ trivial ?_
    refine AWp.le (Le.trans (Le.nilOwn 2 3000 76 3 (encF eSSI q1dSSI []) rfl rfl (Nat.le_of_ble_eq_true rfl)) (Le.mk (s' := ⟨8, [(2, .own 3000)], [(3000, q1bSSI_76 [])], [], 0⟩) rfl rfl ⟨.refl _, trivial⟩ ⟨⟨_, rfl, .refl _⟩, trivial⟩)) ?_
    have hret := Option.some.inj h
    subst hret
    refine AWp.le (Le.mk (s' := ⟨8, [(2, .own 3000)], [(3000, q1bSSI_76 [])], [], 0⟩) rfl rfl ⟨.refl _, trivial⟩ ⟨⟨_, rfl, .refl _⟩, trivial⟩) ?_
    refine AWp.ret ?_
    refine thenQ_ret ?_
    exact bodyQ_ret _ rfl ⟨rfl, rfl⟩ rfl
  ·
    have h := hB1
    refine AWp.skip ?_
    refine thenQ_normal ?_
    refine AWp.seq ?_
    obtain ⟨ob0, h⟩ := chk_some h
    refine q1rr [] [] ⟨8, [(2, .own 5)], [(5, .rows 76 3 (0 + (x1).length) (appF 0 (lstF 3 []) (encF eSSI q1dSSI x1)))], [], 0⟩ (an1 ob0) ?_
    refine thenQ_normal ?_
    refine AWp.le (Le.mk (s' := ⟨8, [(2, .own 5)], [(5, q1bSSI_76 ([] ++ x1))], [], 0⟩) rfl rfl ⟨.refl _, trivial⟩ ⟨⟨_, rfl, (BLe.of (RL.app (RL.lst (enc := eSSI) [] rfl rfl (fun _ => rfl)) (RL.self _)))⟩, trivial⟩) ?_
    refine AWp.le (Le.trans (Le.ren (swapN 5 3000) (swapN_inv 5 3000) rfl) (Le.mk (s' := ⟨8, [(2, .own 3000)], [(3000, q1bSSI_76 ([] ++ x1))], [], 0⟩) rfl rfl ⟨.refl _, trivial⟩ ⟨⟨_, rfl, .refl _⟩, trivial⟩)) ?_
    have hret := Option.some.inj h
    subst hret
    refine AWp.le (Le.mk (s' := ⟨8, [(2, .own 3000)], [(3000, q1bSSI_76 ([] ++ x1))], [], 0⟩) rfl rfl ⟨.refl _, trivial⟩ ⟨⟨_, rfl, .refl _⟩, trivial⟩) ?_
    refine AWp.ret ?_
    exact bodyQ_ret _ rfl ⟨rfl, rfl⟩ rfl
abbrev f112z0 (x2 : List (List UInt8 × List UInt8 × Int)) (x3 : List (List UInt8 × List UInt8 × Int)) : Heap := [(2000, bL 76 3 eSSI (default : List UInt8 × List UInt8 × Int) x2), (2001, bL 76 3 eSSI (default : List UInt8 × List UInt8 × Int) x3)]
def f112e (x1 : Int) (x2 : List (List UInt8 × List UInt8 × Int)) (x3 : List (List UInt8 × List UInt8 × Int)) : Option ((List (List UInt8 × List UInt8 × Int)) × (List (List UInt8 × List UInt8 × Int))) :=
  chk (0 ≤ x1 ∧ x1 ≤ (((x2).length : Nat) : Int)) <|
  if ((((x3).length : Nat) : Int) == (0 : Int)) then (
  some (x2, x3)
  ) else (
  if (x1 == (((x2).length : Nat) : Int)) then (
  chk (((x2).length + (x3).length) * 40 ≤ 140737488355328) <|
  some ((x2 ++ x3), x3)
  ) else (
  
  none
  )
  )
set_option maxRecDepth 100000 in
theorem f112e_ok  (x1 : Int) (x2 : List (List UInt8 × List UInt8 × Int)) (x3 : List (List UInt8 × List UInt8 × Int)) (r : (List (List UInt8 × List UInt8 × Int)) × (List (List UInt8 × List UInt8 × Int))) (h : f112e x1 x2 x3 = some r)  : Spec1 Tryz.prog 112 [] [2001] [(2000, bL 76 3 eSSI (default : List UInt8 × List UInt8 × Int) x2), (2001, bL 76 3 eSSI (default : List UInt8 × List UInt8 × Int) x3)] [.own 2000, .int .i64 x1, .own 2001] (.own 2000) [(2000, bL 76 3 eSSI (default : List UInt8 × List UInt8 × Int) r.1), (2001, bL 76 3 eSSI (default : List UInt8 × List UInt8 × Int) r.2)] := by
  unfold f112e at h
  refine Spec1.body 0 _ _ Tryz.func112 rfl Tryz.ntmps112 rfl rfl ?_
  refine q1rq [] [] ⟨95, [(0, .own 2000), (1, .i x1), (2, .own 2001)], (f112z0 x2 x3), [2001], 0⟩ trivial ?_
  refine AWp.seq ?_
  obtain ⟨ob0, h⟩ := chk_some h
  refine q1rr [] [] ⟨95, [(0, .own 2000), (1, .i x1), (2, .own 2001)], (f112z0 x2 x3), [2001], 0⟩ (an1 ob0) ?_
  refine thenQ_normal ?_
  refine q1rq [] [] ⟨95, [(0, .own 2000), (1, .i x1), (2, .own 2001), (7, .i (lZ x3))], (f112z0 x2 x3), [2001], 0⟩ trivial ?_
  refine AWp.seq ?_
  refine q1rq [] [] ⟨95, [(0, .own 2000), (1, .i x1), (2, .own 2001), (7, .i (lZ x3)), (16, .bool ((lZ x3) == (0 : Int)))], (f112z0 x2 x3), [2001], 0⟩ trivial ?_
  refine AWp.cond (b := ((lZ x3) == (0 : Int))) (by kernel_rfl) (fun hc1 => ?_) (fun hc1 => ?_)
  ·
    replace h := ite_tb hc1 h
    refine q1rq [] [] ⟨95, [(6, .own 2000)], (f112z0 x2 x3), [2001], 0⟩ trivial ?_
    have hret := Option.some.inj h
    subst hret
    refine AWp.ret ?_
    refine thenQ_ret ?_
    exact bodyQ_ret _ rfl ⟨rfl, rfl⟩ rfl
  ·
    replace h := ite_fb hc1 h
    refine AWp.skip ?_
    refine thenQ_normal ?_
    refine q1rq [] [] ⟨95, [(0, .own 2000), (1, .i x1), (2, .own 2001), (7, .i (lZ x3)), (8, .i (lZ x2))], (f112z0 x2 x3), [2001], 0⟩ trivial ?_
    refine AWp.seq ?_
    refine q1rq [] [] ⟨95, [(0, .own 2000), (1, .i x1), (2, .own 2001), (7, .i (lZ x3)), (8, .i (lZ x2)), (22, .bool (x1 == (lZ x2)))], (f112z0 x2 x3), [2001], 0⟩ trivial ?_
    refine AWp.cond (b := (x1 == (lZ x2))) (by kernel_rfl) (fun hc2 => ?_) (fun hc2 => ?_)
    ·
      replace h := ite_tb hc2 h
      refine AWp.seq ?_
      obtain ⟨ob1, h⟩ := chk_some h
      refine q1rr [] [] ⟨95, [(6, .own 2000)], [(2000, .rows 76 3 ((x2).length + (x3).length) (appF (x2).length (encF eSSI q1dSSI x2) (encF eSSI q1dSSI x3))), (2001, q1bSSI_76 x3)], [2001], 0⟩ (an1 ob1) ?_
      refine thenQ_normal ?_
      refine AWp.le (Le.mk (s' := ⟨95, [(6, .own 2000)], [(2000, q1bSSI_76 (x2 ++ x3)), (2001, q1bSSI_76 x3)], [2001], 0⟩) rfl rfl ⟨.refl _, trivial⟩ ⟨⟨_, rfl, (BLe.of (RL.app (RL.self _) (RL.self _)))⟩, ⟨_, rfl, .refl _⟩, trivial⟩) ?_
      have hret := Option.some.inj h
      subst hret
      refine AWp.ret ?_
      refine thenQ_ret ?_
      exact bodyQ_ret _ rfl ⟨rfl, rfl⟩ rfl
    ·
      replace h := ite_fb hc2 h
      refine AWp.skip ?_
      refine thenQ_normal ?_
      refine AWp.seq ?_
      refine AWp.seq ?_
      exact nomatch (show (none : Option ((List (List UInt8 × List UInt8 × Int)) × (List (List UInt8 × List UInt8 × Int)))) = some r from h)
def f112 (x2 : Int) (x1 : List (List UInt8 × List UInt8 × Int)) (x3 : List (List UInt8 × List UInt8 × Int)) : Option (List (List UInt8 × List UInt8 × Int) × List (List UInt8 × List UInt8 × Int)) :=
  if 0 ≤ x2 ∧ x2.toNat < x1.length ∧ 0 < x3.length ∧ (x1.length + x3.length) * 40 ≤ 140737488355328 then some (x1.take x2.toNat ++ x3 ++ x1.drop x2.toNat, x3) else f112e x2 x1 x3
theorem f112_ok (x2 : Int) (x1 : List (List UInt8 × List UInt8 × Int)) (x3 : List (List UInt8 × List UInt8 × Int)) (r : List (List UInt8 × List UInt8 × Int) × List (List UInt8 × List UInt8 × Int)) (h : f112 x2 x1 x3 = some r) : Spec1 Tryz.prog 112 [] [2001] [(2000, bL 76 3 eSSI (default : List UInt8 × List UInt8 × Int) x1), (2001, bL 76 3 eSSI (default : List UInt8 × List UInt8 × Int) x3)] [.own 2000, .int .i64 x2, .own 2001] (.own 2000) [(2000, bL 76 3 eSSI (default : List UInt8 × List UInt8 × Int) r.1), (2001, bL 76 3 eSSI (default : List UInt8 × List UInt8 × Int) r.2)] := by
  unfold f112 at h
  split at h
  · rename_i hc
    cases h
    have := insK_spec 3 (by decide) 76 40 eSSI q1dSSI insShift insGrow x1 x3 x2.toNat hc.2.1 hc.2.2.1 hc.2.2.2
    rw [Int.toNat_of_nonneg hc.1] at this
    exact this
  · exact f112e_ok x2 x1 x3 r h
abbrev f69z0 (x3 : List UInt8) (r4 : Int × Bool) : List (Nat × V) := [(0, .own 6001), (2, .str x3), (8, .int .i64 r4.1), (1000001, .tab .u64 Lib.pow10Tab)]
abbrev f69z1 (r4 : Int × Bool) : List (Nat × V) := [(0, .own 6001), (8, .int .i64 r4.1), (1000001, .tab .u64 Lib.pow10Tab)]
abbrev f69z2 (r5 : List (List UInt8 × List UInt8 × Int)) : Heap := [(6001, bL 76 3 eSSI (default : List UInt8 × List UInt8 × Int) r5)]
abbrev f69z3 := (1000000000000 : Int)
def f69 (x1 : List (List UInt8 × List UInt8 × Int)) (x2 : List UInt8) (x3 : List UInt8) : Option ((List (List UInt8 × List UInt8 × Int)) × List UInt8) :=
  (f68 x1 x2).bind fun (r4 : Int × Bool) =>
  if ((!r4.2) && (decide ((((x1).length : Nat) : Int) ≥ (64 : Int)))) then (
  some (x1, ([102, 117, 108, 108] : List UInt8))
  ) else (
  (f40 x1).bind fun (r5 : List (List UInt8 × List UInt8 × Int)) =>
  jn (fun (l7 : List (List UInt8 × List UInt8 × Int)) =>
  chk (0 ≤ r4.1 ∧ r4.1 < (((l7).length : Nat) : Int)) <|
  chk (((r4.1).toNat) < (l7).length) <|
  chk (0 ≤ r4.1 ∧ r4.1 < ((((l7.set ((r4.1).toNat) ((l7.getD ((r4.1).toNat) (default : List UInt8 × List UInt8 × Int)).1, x3, (l7.getD ((r4.1).toNat) (default : List UInt8 × List UInt8 × Int)).2.2))).length : Nat) : Int)) <|
  chk (((r4.1).toNat) < ((l7.set ((r4.1).toNat) ((l7.getD ((r4.1).toNat) (default : List UInt8 × List UInt8 × Int)).1, x3, (l7.getD ((r4.1).toNat) (default : List UInt8 × List UInt8 × Int)).2.2))).length) <|
  chk (-9223372036854775808 ≤ (((l7.set ((r4.1).toNat) ((l7.getD ((r4.1).toNat) (default : List UInt8 × List UInt8 × Int)).1, x3, (l7.getD ((r4.1).toNat) (default : List UInt8 × List UInt8 × Int)).2.2)).getD ((r4.1).toNat) (default : List UInt8 × List UInt8 × Int)).2.2 + (1 : Int)) ∧ (((l7.set ((r4.1).toNat) ((l7.getD ((r4.1).toNat) (default : List UInt8 × List UInt8 × Int)).1, x3, (l7.getD ((r4.1).toNat) (default : List UInt8 × List UInt8 × Int)).2.2)).getD ((r4.1).toNat) (default : List UInt8 × List UInt8 × Int)).2.2 + (1 : Int)) ≤ 9223372036854775807) <|
  chk (0 ≤ r4.1 ∧ r4.1 < ((((l7.set ((r4.1).toNat) ((l7.getD ((r4.1).toNat) (default : List UInt8 × List UInt8 × Int)).1, x3, (l7.getD ((r4.1).toNat) (default : List UInt8 × List UInt8 × Int)).2.2))).length : Nat) : Int)) <|
  chk (((r4.1).toNat) < ((l7.set ((r4.1).toNat) ((l7.getD ((r4.1).toNat) (default : List UInt8 × List UInt8 × Int)).1, x3, (l7.getD ((r4.1).toNat) (default : List UInt8 × List UInt8 × Int)).2.2))).length) <|
  (f56 ((((l7.set ((r4.1).toNat) ((l7.getD ((r4.1).toNat) (default : List UInt8 × List UInt8 × Int)).1, x3, (l7.getD ((r4.1).toNat) (default : List UInt8 × List UInt8 × Int)).2.2)).set ((r4.1).toNat) (((l7.set ((r4.1).toNat) ((l7.getD ((r4.1).toNat) (default : List UInt8 × List UInt8 × Int)).1, x3, (l7.getD ((r4.1).toNat) (default : List UInt8 × List UInt8 × Int)).2.2)).getD ((r4.1).toNat) (default : List UInt8 × List UInt8 × Int)).1, ((l7.set ((r4.1).toNat) ((l7.getD ((r4.1).toNat) (default : List UInt8 × List UInt8 × Int)).1, x3, (l7.getD ((r4.1).toNat) (default : List UInt8 × List UInt8 × Int)).2.2)).getD ((r4.1).toNat) (default : List UInt8 × List UInt8 × Int)).2.1, (min (((l7.set ((r4.1).toNat) ((l7.getD ((r4.1).toNat) (default : List UInt8 × List UInt8 × Int)).1, x3, (l7.getD ((r4.1).toNat) (default : List UInt8 × List UInt8 × Int)).2.2)).getD ((r4.1).toNat) (default : List UInt8 × List UInt8 × Int)).2.2 + (1 : Int)) (1000000000000 : Int)))).getD ((r4.1).toNat) (default : List UInt8 × List UInt8 × Int)).2.2)).bind fun (r8 : List UInt8) =>
  chk (0 ≤ r4.1 ∧ r4.1 < (((((l7.set ((r4.1).toNat) ((l7.getD ((r4.1).toNat) (default : List UInt8 × List UInt8 × Int)).1, x3, (l7.getD ((r4.1).toNat) (default : List UInt8 × List UInt8 × Int)).2.2)).set ((r4.1).toNat) (((l7.set ((r4.1).toNat) ((l7.getD ((r4.1).toNat) (default : List UInt8 × List UInt8 × Int)).1, x3, (l7.getD ((r4.1).toNat) (default : List UInt8 × List UInt8 × Int)).2.2)).getD ((r4.1).toNat) (default : List UInt8 × List UInt8 × Int)).1, ((l7.set ((r4.1).toNat) ((l7.getD ((r4.1).toNat) (default : List UInt8 × List UInt8 × Int)).1, x3, (l7.getD ((r4.1).toNat) (default : List UInt8 × List UInt8 × Int)).2.2)).getD ((r4.1).toNat) (default : List UInt8 × List UInt8 × Int)).2.1, (min (((l7.set ((r4.1).toNat) ((l7.getD ((r4.1).toNat) (default : List UInt8 × List UInt8 × Int)).1, x3, (l7.getD ((r4.1).toNat) (default : List UInt8 × List UInt8 × Int)).2.2)).getD ((r4.1).toNat) (default : List UInt8 × List UInt8 × Int)).2.2 + (1 : Int)) (1000000000000 : Int))))).length : Nat) : Int)) <|
  chk (((r4.1).toNat) < (((l7.set ((r4.1).toNat) ((l7.getD ((r4.1).toNat) (default : List UInt8 × List UInt8 × Int)).1, x3, (l7.getD ((r4.1).toNat) (default : List UInt8 × List UInt8 × Int)).2.2)).set ((r4.1).toNat) (((l7.set ((r4.1).toNat) ((l7.getD ((r4.1).toNat) (default : List UInt8 × List UInt8 × Int)).1, x3, (l7.getD ((r4.1).toNat) (default : List UInt8 × List UInt8 × Int)).2.2)).getD ((r4.1).toNat) (default : List UInt8 × List UInt8 × Int)).1, ((l7.set ((r4.1).toNat) ((l7.getD ((r4.1).toNat) (default : List UInt8 × List UInt8 × Int)).1, x3, (l7.getD ((r4.1).toNat) (default : List UInt8 × List UInt8 × Int)).2.2)).getD ((r4.1).toNat) (default : List UInt8 × List UInt8 × Int)).2.1, (min (((l7.set ((r4.1).toNat) ((l7.getD ((r4.1).toNat) (default : List UInt8 × List UInt8 × Int)).1, x3, (l7.getD ((r4.1).toNat) (default : List UInt8 × List UInt8 × Int)).2.2)).getD ((r4.1).toNat) (default : List UInt8 × List UInt8 × Int)).2.2 + (1 : Int)) (1000000000000 : Int))))).length) <|
  chk (([111, 107, 32] : List UInt8).length + r8.length ≤ 9223372036854775807) <|
  some (((l7.set ((r4.1).toNat) ((l7.getD ((r4.1).toNat) (default : List UInt8 × List UInt8 × Int)).1, x3, (l7.getD ((r4.1).toNat) (default : List UInt8 × List UInt8 × Int)).2.2)).set ((r4.1).toNat) (((l7.set ((r4.1).toNat) ((l7.getD ((r4.1).toNat) (default : List UInt8 × List UInt8 × Int)).1, x3, (l7.getD ((r4.1).toNat) (default : List UInt8 × List UInt8 × Int)).2.2)).getD ((r4.1).toNat) (default : List UInt8 × List UInt8 × Int)).1, ((l7.set ((r4.1).toNat) ((l7.getD ((r4.1).toNat) (default : List UInt8 × List UInt8 × Int)).1, x3, (l7.getD ((r4.1).toNat) (default : List UInt8 × List UInt8 × Int)).2.2)).getD ((r4.1).toNat) (default : List UInt8 × List UInt8 × Int)).2.1, (min (((l7.set ((r4.1).toNat) ((l7.getD ((r4.1).toNat) (default : List UInt8 × List UInt8 × Int)).1, x3, (l7.getD ((r4.1).toNat) (default : List UInt8 × List UInt8 × Int)).2.2)).getD ((r4.1).toNat) (default : List UInt8 × List UInt8 × Int)).2.2 + (1 : Int)) (1000000000000 : Int)))), (([111, 107, 32] : List UInt8) ++ r8))
  ) fun (K1 : (List (List UInt8 × List UInt8 × Int)) → Option ((List (List UInt8 × List UInt8 × Int)) × List UInt8)) =>
  if (!r4.2) then (
  (f112 r4.1 r5 ([(x2, [], (0 : Int))])).bind fun (r6 : (List (List UInt8 × List UInt8 × Int)) × (List (List UInt8 × List UInt8 × Int))) =>
  K1 r6.1
  ) else (
  K1 r5
  )
  )
set_option maxRecDepth 100000 in
theorem f69_ok  (x1 : List (List UInt8 × List UInt8 × Int)) (x2 : List UInt8) (x3 : List UInt8) (r : (List (List UInt8 × List UInt8 × Int)) × List UInt8) (h : f69 x1 x2 x3 = some r)  : Spec1 Tryz.prog 69 [(1, .tab .u64 Lib.pow10Tab)] [] [] [vL 3 eSSI (default : List UInt8 × List UInt8 × Int) x1, .str x2, .str x3] (.tup [vL 3 eSSI (default : List UInt8 × List UInt8 × Int) r.1, .str r.2]) [] := by
  unfold f69 at h
  refine Spec1.body 0 _ _ Tryz.func69 rfl Tryz.ntmps69 rfl rfl ?_
  refine q1rq [] [] ⟨58, [(0, q1aSSI x1), (1, .str x2), (2, .str x3), (1000001, .tab .u64 Lib.pow10Tab)], [], [], 0⟩ trivial ?_
  refine AWp.seq ?_
  obtain ⟨r4, hr4, h⟩ := bind_ok h
  refine q1rr [] [(2, ⟨[q1aSSI x1, .str x2], [], [], [], .tup [.i r4.1, .bool r4.2], [], [], []⟩)] ⟨58, [(0, q1aSSI x1), (1, .str x2), (2, .str x3), (8, .i r4.1), (9, .bool r4.2), (1000001, .tab .u64 Lib.pow10Tab)], [], [], 0⟩ (an1 (cpT (f68_ok _ _ _ hr4))) ?_
  refine thenQ_normal ?_
  refine AWp.seq ?_
  refine AWp.seq ?_
  have ob0 := idA (((!r4.2) == true) = true)
  have ob2 := bqA (!r4.2) true
  refine q1rr [] [] ⟨58, [(0, q1aSSI x1), (1, .str x2), (2, .str x3), (8, .i r4.1), (9, .bool r4.2), (22, .bool ((!r4.2) && (decide ((lZ x1) ≥ (64 : Int))))), (1000001, .tab .u64 Lib.pow10Tab)], [], [], 0⟩ (an3 (an1 ob0) (an1 ob0) ob2) ?_
  refine thenQ_normal ?_
  refine AWp.cond (b := ((!r4.2) && (decide ((lZ x1) ≥ (64 : Int))))) (by kernel_rfl) (fun hc1 => ?_) (fun hc1 => ?_)
  ·
    replace h := ite_tb hc1 h
    refine q1rq [] [] ⟨58, [(6, q1aSSI x1), (7, .str ([102, 117, 108, 108] : List UInt8)), (1000001, .tab .u64 Lib.pow10Tab)], [], [], 0⟩ trivial ?_
    have hret := Option.some.inj h
    subst hret
    refine AWp.le (Le.mk (s' := ⟨58, [(6, q1aSSI x1), (7, .str ([102, 117, 108, 108] : List UInt8))], [], [], 0⟩) rfl rfl ⟨.refl _, .refl _, trivial⟩ trivial) ?_
    refine AWp.ret ?_
    refine thenQ_ret ?_
    exact bodyQ_ret _ rfl ⟨rfl, rfl⟩ rfl
  ·
    replace h := ite_fb hc1 h
    refine AWp.skip ?_
    refine thenQ_normal ?_
    refine AWp.seq ?_
    obtain ⟨r5, hr5, h⟩ := bind_ok h
    refine q1rr [] [(1, ⟨[q1aSSI x1], [], [], (f69z2 r5), .own 6001, [6001], [], []⟩)] ⟨58, [(0, .own 6001), (1, .str x2), (2, .str x3), (8, .i r4.1), (9, .bool r4.2), (1000001, .tab .u64 Lib.pow10Tab)], (f69z2 r5), [], 0⟩ (an1 (cpT (Spec1.ren (swapN 3000 6001) (swapN_inv 3000 6001) rfl (f40_ok _ _ hr5)))) ?_
    refine thenQ_normal ?_
    obtain ⟨K1, hK1, h⟩ := jn_some h
    refine AWp.join (α := List (List UInt8 × List UInt8 × Int)) (fun (l7 : List (List UInt8 × List UInt8 × Int)) => ⟨58, (f69z0 x3 r4), [(6001, q1bSSI_76 l7)], [], 0⟩) (fun x => K1 x = some r) ?_ ?_
    ·
      refine q1rq [] [] ⟨58, [(0, .own 6001), (1, .str x2), (2, .str x3), (8, .i r4.1), (27, .bool (!r4.2)), (1000001, .tab .u64 Lib.pow10Tab)], (f69z2 r5), [], 0⟩ trivial ?_
      refine AWp.cond (b := (!r4.2)) (by kernel_rfl) (fun hc2 => ?_) (fun hc2 => ?_)
      ·
        replace h := ite_tb hc2 h
        obtain ⟨r6, hr6, h⟩ := bind_ok h
        refine q1rr [] [(5, ⟨[.own 6001, .i r4.1, .own 32], [6001, 32], [32], [(6001, q1bSSI_76 r6.1), (32, q1bSSI_76 r6.2)], .own 6001, [6001], [], []⟩)] ⟨58, (f69z0 x3 r4), [(6001, q1bSSI_76 r6.1)], [], 0⟩ (an1 (cpT (Spec.heap (h0 := [(6001, q1bSSI_76 r5), (32, .rows 76 3 1 (lstF 3 [.str x2, .str [], .i (0 : Int)]))]) (Spec1.ren (swapN 2001 32) (swapN_inv 2001 32) rfl (Spec1.ren (swapN 2000 6001) (swapN_inv 2000 6001) rfl (f112_ok _ _ _ _ hr6))) ⟨⟨_, rfl, .refl _⟩, ⟨_, rfl, (BLe.of (RL.lst (enc := eSSI) [(x2, [], (0 : Int))] rfl rfl (fun _ => rfl)))⟩, trivial⟩))) ?_
        exact joinQ_normal (r6.1) (Le.mk rfl rfl ⟨.refl _, .refl _, .refl _, .refl _, trivial⟩ ⟨⟨_, rfl, .refl _⟩, trivial⟩) h
      ·
        replace h := ite_fb hc2 h
        refine AWp.skip ?_
        exact joinQ_normal (r5) (Le.mk rfl rfl ⟨.refl _, .refl _, .refl _, .refl _, trivial⟩ ⟨⟨_, rfl, .refl _⟩, trivial⟩) h
    ·
      rintro l7 h
      replace h := (congrFun hK1 _).symm.trans h
      refine AWp.seq ?_
      obtain ⟨ob3, ob4, h⟩ := ck2 h
      refine q1rr [] [] ⟨58, (f69z1 r4), [(6001, .rows 76 3 (l7).length (updF (encF eSSI q1dSSI l7) ((r4.1).toNat) 1 [.str x3]))], [], 0⟩ (an2 ob3 ob4) ?_
      refine thenQ_normal ?_
      refine AWp.le (Le.mk (s' := ⟨58, (f69z1 r4), [(6001, q1bSSI_76 (l7.set ((r4.1).toNat) ((l7.getD ((r4.1).toNat) q1dSSI).1, x3, (l7.getD ((r4.1).toNat) q1dSSI).2.2)))], [], 0⟩) rfl rfl ⟨.refl _, .refl _, .refl _, trivial⟩ ⟨⟨_, rfl, (BLe.of (RL.set ((l7.getD ((r4.1).toNat) q1dSSI).1, x3, (l7.getD ((r4.1).toNat) q1dSSI).2.2) (RL.self _) (by intro j hj; match j, hj with | 0, _ => rfl | 1, _ => rfl | 2, _ => rfl)))⟩, trivial⟩) ?_
      refine AWp.seq ?_
      obtain ⟨ob5, ob6, ob7, ob8, ob9, h⟩ := ck5 h
      refine q1rr [] [] ⟨58, (f69z1 r4), [(6001, .rows 76 3 ((l7.set ((r4.1).toNat) ((l7.getD ((r4.1).toNat) q1dSSI).1, x3, (l7.getD ((r4.1).toNat) q1dSSI).2.2))).length (updF (encF eSSI q1dSSI (l7.set ((r4.1).toNat) ((l7.getD ((r4.1).toNat) q1dSSI).1, x3, (l7.getD ((r4.1).toNat) q1dSSI).2.2))) ((r4.1).toNat) 2 [.i (min (((l7.set ((r4.1).toNat) ((l7.getD ((r4.1).toNat) q1dSSI).1, x3, (l7.getD ((r4.1).toNat) q1dSSI).2.2)).getD ((r4.1).toNat) q1dSSI).2.2 + (1 : Int)) (f69z3))]))], [], 0⟩ (an5 ob5 ob6 ob7 ob8 ob9) ?_
      refine thenQ_normal ?_
      refine AWp.le (Le.mk (s' := ⟨58, (f69z1 r4), [(6001, q1bSSI_76 ((l7.set ((r4.1).toNat) ((l7.getD ((r4.1).toNat) q1dSSI).1, x3, (l7.getD ((r4.1).toNat) q1dSSI).2.2)).set ((r4.1).toNat) (((l7.set ((r4.1).toNat) ((l7.getD ((r4.1).toNat) q1dSSI).1, x3, (l7.getD ((r4.1).toNat) q1dSSI).2.2)).getD ((r4.1).toNat) q1dSSI).1, ((l7.set ((r4.1).toNat) ((l7.getD ((r4.1).toNat) q1dSSI).1, x3, (l7.getD ((r4.1).toNat) q1dSSI).2.2)).getD ((r4.1).toNat) q1dSSI).2.1, (min (((l7.set ((r4.1).toNat) ((l7.getD ((r4.1).toNat) q1dSSI).1, x3, (l7.getD ((r4.1).toNat) q1dSSI).2.2)).getD ((r4.1).toNat) q1dSSI).2.2 + (1 : Int)) (f69z3)))))], [], 0⟩) rfl rfl ⟨.refl _, .refl _, .refl _, trivial⟩ ⟨⟨_, rfl, (BLe.of (RL.set (((l7.set ((r4.1).toNat) ((l7.getD ((r4.1).toNat) q1dSSI).1, x3, (l7.getD ((r4.1).toNat) q1dSSI).2.2)).getD ((r4.1).toNat) q1dSSI).1, ((l7.set ((r4.1).toNat) ((l7.getD ((r4.1).toNat) q1dSSI).1, x3, (l7.getD ((r4.1).toNat) q1dSSI).2.2)).getD ((r4.1).toNat) q1dSSI).2.1, (min (((l7.set ((r4.1).toNat) ((l7.getD ((r4.1).toNat) q1dSSI).1, x3, (l7.getD ((r4.1).toNat) q1dSSI).2.2)).getD ((r4.1).toNat) q1dSSI).2.2 + (1 : Int)) (f69z3))) (RL.self _) (by intro j hj; match j, hj with | 0, _ => rfl | 1, _ => rfl | 2, _ => rfl)))⟩, trivial⟩) ?_
      refine AWp.seq ?_
      obtain ⟨r8, hr8, h⟩ := bind_ok h
      obtain ⟨ob10, ob11, ob12, h⟩ := ck3 h
      refine q1rr [] [(6, ⟨[.i (((l7.set ((r4.1).toNat) ((l7.getD ((r4.1).toNat) q1dSSI).1, x3, (l7.getD ((r4.1).toNat) q1dSSI).2.2)).set ((r4.1).toNat) (((l7.set ((r4.1).toNat) ((l7.getD ((r4.1).toNat) q1dSSI).1, x3, (l7.getD ((r4.1).toNat) q1dSSI).2.2)).getD ((r4.1).toNat) q1dSSI).1, ((l7.set ((r4.1).toNat) ((l7.getD ((r4.1).toNat) q1dSSI).1, x3, (l7.getD ((r4.1).toNat) q1dSSI).2.2)).getD ((r4.1).toNat) q1dSSI).2.1, (min (((l7.set ((r4.1).toNat) ((l7.getD ((r4.1).toNat) q1dSSI).1, x3, (l7.getD ((r4.1).toNat) q1dSSI).2.2)).getD ((r4.1).toNat) q1dSSI).2.2 + (1 : Int)) (f69z3)))).getD ((r4.1).toNat) q1dSSI).2.2], [], [], [], .str r8, [], [], [1]⟩)] ⟨58, [(6, .own 6001), (7, .str (([111, 107, 32] : List UInt8) ++ r8)), (1000001, .tab .u64 Lib.pow10Tab)], [(6001, q1bSSI_76 ((l7.set ((r4.1).toNat) ((l7.getD ((r4.1).toNat) q1dSSI).1, x3, (l7.getD ((r4.1).toNat) q1dSSI).2.2)).set ((r4.1).toNat) (((l7.set ((r4.1).toNat) ((l7.getD ((r4.1).toNat) q1dSSI).1, x3, (l7.getD ((r4.1).toNat) q1dSSI).2.2)).getD ((r4.1).toNat) q1dSSI).1, ((l7.set ((r4.1).toNat) ((l7.getD ((r4.1).toNat) q1dSSI).1, x3, (l7.getD ((r4.1).toNat) q1dSSI).2.2)).getD ((r4.1).toNat) q1dSSI).2.1, (min (((l7.set ((r4.1).toNat) ((l7.getD ((r4.1).toNat) q1dSSI).1, x3, (l7.getD ((r4.1).toNat) q1dSSI).2.2)).getD ((r4.1).toNat) q1dSSI).2.2 + (1 : Int)) (f69z3)))))], [], 0⟩ (an4 ob10 ob11 (cpT (f56_ok _ _ hr8)) ob12) ?_
      refine thenQ_normal ?_
      refine AWp.le (Le.trans (Le.freeze 6001 rfl rfl) (Le.mk (s' := ⟨58, [(6, q1aSSI ((l7.set ((r4.1).toNat) ((l7.getD ((r4.1).toNat) q1dSSI).1, x3, (l7.getD ((r4.1).toNat) q1dSSI).2.2)).set ((r4.1).toNat) (((l7.set ((r4.1).toNat) ((l7.getD ((r4.1).toNat) q1dSSI).1, x3, (l7.getD ((r4.1).toNat) q1dSSI).2.2)).getD ((r4.1).toNat) q1dSSI).1, ((l7.set ((r4.1).toNat) ((l7.getD ((r4.1).toNat) q1dSSI).1, x3, (l7.getD ((r4.1).toNat) q1dSSI).2.2)).getD ((r4.1).toNat) q1dSSI).2.1, (min (((l7.set ((r4.1).toNat) ((l7.getD ((r4.1).toNat) q1dSSI).1, x3, (l7.getD ((r4.1).toNat) q1dSSI).2.2)).getD ((r4.1).toNat) q1dSSI).2.2 + (1 : Int)) (f69z3))))), (7, .str (([111, 107, 32] : List UInt8) ++ r8)), (1000001, .tab .u64 Lib.pow10Tab)], [], [], 0⟩) rfl rfl ⟨.refl _, .refl _, .refl _, trivial⟩ trivial)) ?_
      have hret := Option.some.inj h
      subst hret
      refine AWp.le (Le.mk (s' := ⟨58, [(6, q1aSSI ((l7.set ((r4.1).toNat) ((l7.getD ((r4.1).toNat) q1dSSI).1, x3, (l7.getD ((r4.1).toNat) q1dSSI).2.2)).set ((r4.1).toNat) (((l7.set ((r4.1).toNat) ((l7.getD ((r4.1).toNat) q1dSSI).1, x3, (l7.getD ((r4.1).toNat) q1dSSI).2.2)).getD ((r4.1).toNat) q1dSSI).1, ((l7.set ((r4.1).toNat) ((l7.getD ((r4.1).toNat) q1dSSI).1, x3, (l7.getD ((r4.1).toNat) q1dSSI).2.2)).getD ((r4.1).toNat) q1dSSI).2.1, (min (((l7.set ((r4.1).toNat) ((l7.getD ((r4.1).toNat) q1dSSI).1, x3, (l7.getD ((r4.1).toNat) q1dSSI).2.2)).getD ((r4.1).toNat) q1dSSI).2.2 + (1 : Int)) (f69z3))))), (7, .str (([111, 107, 32] : List UInt8) ++ r8))], [], [], 0⟩) rfl rfl ⟨.refl _, .refl _, trivial⟩ trivial) ?_
      refine AWp.ret ?_
      exact bodyQ_ret _ rfl ⟨rfl, rfl⟩ rfl
def f70 (x2 : Int) (x3 : Int) (x1 : List (List UInt8 × List UInt8 × Int)) : Option (List (List UInt8 × List UInt8 × Int)) :=
  if 0 ≤ x2 ∧ x2 < x3 ∧ x3.toNat ≤ x1.length then some (x1.take x2.toNat ++ x1.drop x3.toNat) else none
theorem f70_ok (x2 : Int) (x3 : Int) (x1 : List (List UInt8 × List UInt8 × Int)) (r : List (List UInt8 × List UInt8 × Int)) (h : f70 x2 x3 x1 = some r) : Spec1 Tryz.prog 70 [] [] [(2000, bL 76 3 eSSI (default : List UInt8 × List UInt8 × Int) x1)] [.own 2000, .int .i64 x2, .int .i64 x3] (.own 2000) [(2000, bL 76 3 eSSI (default : List UInt8 × List UInt8 × Int) r)] := by
  unfold f70 at h
  split at h
  · rename_i hc
    cases h
    have := delK_spec 3 76 eSSI q1dSSI delW x1 x2.toNat x3.toNat (by omega) hc.2.2
    rw [Int.toNat_of_nonneg hc.1, Int.toNat_of_nonneg (by omega : 0 ≤ x3)] at this
    exact this
  · cases h
abbrev f37z0 (x2 : Int) (x3 : List UInt8) (x4 : List UInt8) (x5 : List UInt8) (x1 : List (List UInt8 × List UInt8 × Int)) (r7 : Int × Bool) : Heap := [(3, .cells 67 [.int .i64 x2, .str x3, .str x4, .str x5]), (10, .cells 76 [.str (x1.getD ((r7.1).toNat) (default : List UInt8 × List UInt8 × Int)).1, .str (x1.getD ((r7.1).toNat) (default : List UInt8 × List UInt8 × Int)).2.1, .int .i64 (x1.getD ((r7.1).toNat) (default : List UInt8 × List UInt8 × Int)).2.2])]
abbrev f37z1 (x2 : Int) (x3 : List UInt8) (x4 : List UInt8) (x5 : List UInt8) : Heap := [(3, .cells 67 [.int .i64 x2, .str x3, .str x4, .str x5])]
def f37 (x1 : List (List UInt8 × List UInt8 × Int)) (x2 : Int) (x3 : List UInt8) (x4 : List UInt8) (x5 : List UInt8) : Option ((List (List UInt8 × List UInt8 × Int)) × List UInt8) :=
  (f67 x2 x3 x4 x5).bind fun (r6 : List UInt8 × Bool × Bool × Bool × Bool) =>
  if (!r6.2.2.2.2) then (
  some (x1, cs1)
  ) else (
  (f68 x1 x3).bind fun (r7 : Int × Bool) =>
  if (x2 == (6 : Int)) then (
  (f56 (((x1).length : Nat) : Int)).bind fun (r8 : List UInt8) =>
  chk (cs7.length + r8.length ≤ 9223372036854775807) <|
  some (x1, (cs7 ++ r8))
  ) else (
  if (x2 == (1 : Int)) then (
  (f69 x1 x3 x5).bind fun (r9 : (List (List UInt8 × List UInt8 × Int)) × List UInt8) =>
  some (r9.1, r9.2)
  ) else (
  if ((x2 == (4 : Int)) && (!r7.2)) then (
  (f69 x1 x3 x5).bind fun (r10 : (List (List UInt8 × List UInt8 × Int)) × List UInt8) =>
  some (r10.1, r10.2)
  ) else (
  if (!r7.2) then (
  some (x1, ([110, 111, 110, 101] : List UInt8))
  ) else (
  chk (0 ≤ r7.1 ∧ r7.1 < (((x1).length : Nat) : Int)) <|
  if (x2 == (2 : Int)) then (
  (f56 ((x1.getD ((r7.1).toNat) (default : List UInt8 × List UInt8 × Int)).2.2)).bind fun (r11 : List UInt8) =>
  chk (cs8.length + ((x1.getD ((r7.1).toNat) (default : List UInt8 × List UInt8 × Int)).2.1).length ≤ 9223372036854775807) <|
  chk ((cs8 ++ ((x1.getD ((r7.1).toNat) (default : List UInt8 × List UInt8 × Int)).2.1)).length + ([32] : List UInt8).length ≤ 9223372036854775807) <|
  chk (((cs8 ++ ((x1.getD ((r7.1).toNat) (default : List UInt8 × List UInt8 × Int)).2.1)) ++ ([32] : List UInt8)).length + r11.length ≤ 9223372036854775807) <|
  some (x1, (((cs8 ++ ((x1.getD ((r7.1).toNat) (default : List UInt8 × List UInt8 × Int)).2.1)) ++ ([32] : List UInt8)) ++ r11))
  ) else (
  if (x2 == (3 : Int)) then (
  (f40 x1).bind fun (r12 : List (List UInt8 × List UInt8 × Int)) =>
  (f70 r7.1 (r7.1 + (1 : Int)) r12).bind fun (r13 : List (List UInt8 × List UInt8 × Int)) =>
  chk (-9223372036854775808 ≤ (r7.1 + (1 : Int)) ∧ (r7.1 + (1 : Int)) ≤ 9223372036854775807) <|
  some (r13, ([111, 107] : List UInt8))
  ) else (
  if (x2 == (4 : Int)) then (
  chk ((((((x1.getD ((r7.1).toNat) (default : List UInt8 × List UInt8 × Int)).2.1).length : Nat) : Int) + ((x5.length : Nat) : Int)) ≤ 9223372036854775807) <|
  if (decide ((((((x1.getD ((r7.1).toNat) (default : List UInt8 × List UInt8 × Int)).2.1).length + x5.length) : Nat) : Int) > (256 : Int))) then (
  some (x1, ([108, 111, 110, 103] : List UInt8))
  ) else (
  (f69 x1 x3 (((x1.getD ((r7.1).toNat) (default : List UInt8 × List UInt8 × Int)).2.1) ++ x5)).bind fun (r14 : (List (List UInt8 × List UInt8 × Int)) × List UInt8) =>
  chk (((x1.getD ((r7.1).toNat) (default : List UInt8 × List UInt8 × Int)).2.1).length + x5.length ≤ 9223372036854775807) <|
  some (r14.1, r14.2)
  )
  ) else (
  if (!(((x1.getD ((r7.1).toNat) (default : List UInt8 × List UInt8 × Int)).2.1) == x4)) then (
  chk (([110, 111, 32] : List UInt8).length + ((x1.getD ((r7.1).toNat) (default : List UInt8 × List UInt8 × Int)).2.1).length ≤ 9223372036854775807) <|
  some (x1, (([110, 111, 32] : List UInt8) ++ ((x1.getD ((r7.1).toNat) (default : List UInt8 × List UInt8 × Int)).2.1)))
  ) else (
  (f69 x1 x3 x5).bind fun (r15 : (List (List UInt8 × List UInt8 × Int)) × List UInt8) =>
  some (r15.1, r15.2)
  )
  )
  )
  )
  )
  )
  )
  )
  )
set_option maxRecDepth 100000 in
theorem f37_ok  (x1 : List (List UInt8 × List UInt8 × Int)) (x2 : Int) (x3 : List UInt8) (x4 : List UInt8) (x5 : List UInt8) (r : (List (List UInt8 × List UInt8 × Int)) × List UInt8) (h : f37 x1 x2 x3 x4 x5 = some r)  : Spec1 Tryz.prog 37 [(1, .tab .u64 Lib.pow10Tab)] [] [] [vL 3 eSSI (default : List UInt8 × List UInt8 × Int) x1, .agg [.int .i64 x2, .str x3, .str x4, .str x5]] (.tup [vL 3 eSSI (default : List UInt8 × List UInt8 × Int) r.1, .str r.2]) [] := by
  unfold f37 at h
  refine Spec1.body 0 _ _ Tryz.func37 rfl Tryz.ntmps37 rfl rfl ?_
  refine q1rq [] [] ⟨131, [(0, q1aSSI x1), (3, .ptr 3 0), (1000001, .tab .u64 Lib.pow10Tab)], (f37z1 x2 x3 x4 x5), [], 0⟩ trivial ?_
  refine AWp.seq ?_
  refine AWp.seq ?_
  obtain ⟨r6, hr6, h⟩ := bind_ok h
  refine q1rr [] [(1, ⟨[.agg [.i x2, .str x3, .str x4, .str x5]], [], [], [], .tup [.agg [.str r6.1, .bool r6.2.1, .bool r6.2.2.1, .bool r6.2.2.2.1], .bool r6.2.2.2.2], [], [], []⟩)] ⟨131, [(0, q1aSSI x1), (3, .ptr 3 0), (7, .bool r6.2.2.2.2), (1000001, .tab .u64 Lib.pow10Tab)], (f37z1 x2 x3 x4 x5), [], 0⟩ (an2 (cpT (f67_ok _ _ _ _ _ hr6)) trivial) ?_
  refine thenQ_normal ?_
  refine q1rq [] [] ⟨131, [(0, q1aSSI x1), (3, .ptr 3 0), (17, .bool (!r6.2.2.2.2)), (1000001, .tab .u64 Lib.pow10Tab)], (f37z1 x2 x3 x4 x5), [], 0⟩ trivial ?_
  refine AWp.cond (b := (!r6.2.2.2.2)) (by kernel_rfl) (fun hc1 => ?_) (fun hc1 => ?_)
  ·
    replace h := ite_tb hc1 h
    refine q1rq [] [] ⟨131, [(4, q1aSSI x1), (5, .str cs1), (1000001, .tab .u64 Lib.pow10Tab)], [], [], 0⟩ trivial ?_
    have hret := Option.some.inj h
    subst hret
    refine AWp.le (Le.mk (s' := ⟨131, [(4, q1aSSI x1), (5, .str cs1)], [], [], 0⟩) rfl rfl ⟨.refl _, .refl _, trivial⟩ trivial) ?_
    refine AWp.ret ?_
    refine thenQ_ret ?_
    exact bodyQ_ret _ rfl ⟨rfl, rfl⟩ rfl
  ·
    replace h := ite_fb hc1 h
    refine AWp.skip ?_
    refine thenQ_normal ?_
    refine AWp.seq ?_
    obtain ⟨r7, hr7, h⟩ := bind_ok h
    refine q1rr [] [(3, ⟨[q1aSSI x1, .str x3], [], [], [], .tup [.i r7.1, .bool r7.2], [], [], []⟩)] ⟨131, [(0, q1aSSI x1), (3, .ptr 3 0), (8, .i r7.1), (9, .bool r7.2), (1000001, .tab .u64 Lib.pow10Tab)], (f37z1 x2 x3 x4 x5), [], 0⟩ (an1 (cpT (f68_ok _ _ _ hr7))) ?_
    refine thenQ_normal ?_
    refine AWp.seq ?_
    refine AWp.block ?_
    refine q1rq [] [] ⟨131, [(0, q1aSSI x1), (3, .ptr 3 0), (8, .i r7.1), (9, .bool r7.2), (26, .bool (x2 == (6 : Int))), (1000001, .tab .u64 Lib.pow10Tab)], (f37z1 x2 x3 x4 x5), [], 0⟩ trivial ?_
    refine AWp.cond (b := (x2 == (6 : Int))) (by kernel_rfl) (fun hc2 => ?_) (fun hc2 => ?_)
    ·
      replace h := ite_tb hc2 h
      refine AWp.seq ?_
      obtain ⟨r8, hr8, h⟩ := bind_ok h
      obtain ⟨ob0, h⟩ := chk_some h
      refine q1rr [] [(3, ⟨[.i (lZ x1)], [], [], [], .str r8, [], [], [1]⟩)] ⟨131, [(4, q1aSSI x1), (5, .str (cs7 ++ r8)), (1000001, .tab .u64 Lib.pow10Tab)], [], [], 0⟩ (an2 (cpT (f56_ok _ _ hr8)) ob0) ?_
      refine thenQ_normal ?_
      have hret := Option.some.inj h
      subst hret
      refine AWp.le (Le.mk (s' := ⟨131, [(4, q1aSSI x1), (5, .str (cs7 ++ r8))], [], [], 0⟩) rfl rfl ⟨.refl _, .refl _, trivial⟩ trivial) ?_
      refine AWp.ret ?_
      refine blockQ_ret ?_
      refine thenQ_ret ?_
      exact bodyQ_ret _ rfl ⟨rfl, rfl⟩ rfl
    ·
      replace h := ite_fb hc2 h
      refine q1rq [] [] ⟨131, [(0, q1aSSI x1), (3, .ptr 3 0), (8, .i r7.1), (9, .bool r7.2), (35, .bool (x2 == (1 : Int))), (1000001, .tab .u64 Lib.pow10Tab)], (f37z1 x2 x3 x4 x5), [], 0⟩ trivial ?_
      refine AWp.cond (b := (x2 == (1 : Int))) (by kernel_rfl) (fun hc3 => ?_) (fun hc3 => ?_)
      ·
        replace h := ite_tb hc3 h
        refine AWp.seq ?_
        obtain ⟨r9, hr9, h⟩ := bind_ok h
        refine q1rr [] [(5, ⟨[q1aSSI x1, .str x3, .str x5], [], [], [], .tup [q1aSSI r9.1, .str r9.2], [], [], [1]⟩)] ⟨131, [(4, q1aSSI r9.1), (5, .str r9.2), (1000001, .tab .u64 Lib.pow10Tab)], [], [], 0⟩ (an1 (cpT (f69_ok _ _ _ _ hr9))) ?_
        refine thenQ_normal ?_
        have hret := Option.some.inj h
        subst hret
        refine AWp.le (Le.mk (s' := ⟨131, [(4, q1aSSI r9.1), (5, .str r9.2)], [], [], 0⟩) rfl rfl ⟨.refl _, .refl _, trivial⟩ trivial) ?_
        refine AWp.ret ?_
        refine blockQ_ret ?_
        refine thenQ_ret ?_
        exact bodyQ_ret _ rfl ⟨rfl, rfl⟩ rfl
      ·
        replace h := ite_fb hc3 h
        refine AWp.seq ?_
        have ob1 := idA (((x2 == (4 : Int)) == true) = true)
        have ob2 := bqA (x2 == (4 : Int)) true
        refine q1rr [] [] ⟨131, [(0, q1aSSI x1), (3, .ptr 3 0), (8, .i r7.1), (9, .bool r7.2), (47, .bool ((x2 == (4 : Int)) && (!r7.2))), (1000001, .tab .u64 Lib.pow10Tab)], (f37z1 x2 x3 x4 x5), [], 0⟩ (an2 (an1 ob1) ob2) ?_
        refine thenQ_normal ?_
        refine AWp.cond (b := ((x2 == (4 : Int)) && (!r7.2))) (by kernel_rfl) (fun hc4 => ?_) (fun hc4 => ?_)
        ·
          replace h := ite_tb hc4 h
          refine AWp.seq ?_
          obtain ⟨r10, hr10, h⟩ := bind_ok h
          refine q1rr [] [(5, ⟨[q1aSSI x1, .str x3, .str x5], [], [], [], .tup [q1aSSI r10.1, .str r10.2], [], [], [1]⟩)] ⟨131, [(4, q1aSSI r10.1), (5, .str r10.2), (1000001, .tab .u64 Lib.pow10Tab)], [], [], 0⟩ (an1 (cpT (f69_ok _ _ _ _ hr10))) ?_
          refine thenQ_normal ?_
          have hret := Option.some.inj h
          subst hret
          refine AWp.le (Le.mk (s' := ⟨131, [(4, q1aSSI r10.1), (5, .str r10.2)], [], [], 0⟩) rfl rfl ⟨.refl _, .refl _, trivial⟩ trivial) ?_
          refine AWp.ret ?_
          refine blockQ_ret ?_
          refine thenQ_ret ?_
          exact bodyQ_ret _ rfl ⟨rfl, rfl⟩ rfl
        ·
          replace h := ite_fb hc4 h
          refine q1rq [] [] ⟨131, [(0, q1aSSI x1), (3, .ptr 3 0), (8, .i r7.1), (63, .bool (!r7.2)), (1000001, .tab .u64 Lib.pow10Tab)], (f37z1 x2 x3 x4 x5), [], 0⟩ trivial ?_
          refine AWp.cond (b := (!r7.2)) (by kernel_rfl) (fun hc5 => ?_) (fun hc5 => ?_)
          ·
            replace h := ite_tb hc5 h
            refine q1rq [] [] ⟨131, [(4, q1aSSI x1), (5, .str ([110, 111, 110, 101] : List UInt8)), (1000001, .tab .u64 Lib.pow10Tab)], [], [], 0⟩ trivial ?_
            have hret := Option.some.inj h
            subst hret
            refine AWp.le (Le.mk (s' := ⟨131, [(4, q1aSSI x1), (5, .str ([110, 111, 110, 101] : List UInt8))], [], [], 0⟩) rfl rfl ⟨.refl _, .refl _, trivial⟩ trivial) ?_
            refine AWp.ret ?_
            refine blockQ_ret ?_
            refine thenQ_ret ?_
            exact bodyQ_ret _ rfl ⟨rfl, rfl⟩ rfl
          ·
            replace h := ite_fb hc5 h
            refine AWp.skip ?_
            refine blockQ_normal ?_
            refine thenQ_normal ?_
            refine AWp.seq ?_
            obtain ⟨ob3, h⟩ := chk_some h
            refine q1rr [] [] ⟨131, [(0, q1aSSI x1), (3, .ptr 3 0), (8, .i r7.1), (10, .ptr 10 0), (1000001, .tab .u64 Lib.pow10Tab)], (f37z0 x2 x3 x4 x5 x1 r7), [], 0⟩ (an2 ob3 trivial) ?_
            refine thenQ_normal ?_
            refine AWp.seq ?_
            refine q1rq [] [] ⟨131, [(0, q1aSSI x1), (3, .ptr 3 0), (8, .i r7.1), (10, .ptr 10 0), (72, .i x2), (1000001, .tab .u64 Lib.pow10Tab)], (f37z0 x2 x3 x4 x5 x1 r7), [], 0⟩ trivial ?_
            refine AWp.block ?_
            refine q1rq [] [] ⟨131, [(0, q1aSSI x1), (3, .ptr 3 0), (8, .i r7.1), (10, .ptr 10 0), (72, .i x2), (73, .bool (x2 == (2 : Int))), (1000001, .tab .u64 Lib.pow10Tab)], (f37z0 x2 x3 x4 x5 x1 r7), [], 0⟩ trivial ?_
            refine AWp.cond (b := (x2 == (2 : Int))) (by kernel_rfl) (fun hc6 => ?_) (fun hc6 => ?_)
            ·
              replace h := ite_tb hc6 h
              refine AWp.seq ?_
              obtain ⟨r11, hr11, h⟩ := bind_ok h
              obtain ⟨ob4, ob5, ob6, h⟩ := ck3 h
              refine q1rr [] [(7, ⟨[.i (x1.getD ((r7.1).toNat) q1dSSI).2.2], [], [], [], .str r11, [], [], [1]⟩)] ⟨131, [(4, q1aSSI x1), (5, .str (((cs8 ++ ((x1.getD ((r7.1).toNat) q1dSSI).2.1)) ++ ([32] : List UInt8)) ++ r11)), (1000001, .tab .u64 Lib.pow10Tab)], [], [], 0⟩ (an4 ob4 ob5 (cpT (f56_ok _ _ hr11)) ob6) ?_
              refine thenQ_normal ?_
              have hret := Option.some.inj h
              subst hret
              refine AWp.le (Le.mk (s' := ⟨131, [(4, q1aSSI x1), (5, .str (((cs8 ++ ((x1.getD ((r7.1).toNat) q1dSSI).2.1)) ++ ([32] : List UInt8)) ++ r11))], [], [], 0⟩) rfl rfl ⟨.refl _, .refl _, trivial⟩ trivial) ?_
              refine AWp.ret ?_
              refine blockQ_ret ?_
              refine thenQ_ret ?_
              exact bodyQ_ret _ rfl ⟨rfl, rfl⟩ rfl
            ·
              replace h := ite_fb hc6 h
              refine q1rq [] [] ⟨131, [(0, q1aSSI x1), (3, .ptr 3 0), (8, .i r7.1), (10, .ptr 10 0), (72, .i x2), (84, .bool (x2 == (3 : Int))), (1000001, .tab .u64 Lib.pow10Tab)], (f37z0 x2 x3 x4 x5 x1 r7), [], 0⟩ trivial ?_
              refine AWp.cond (b := (x2 == (3 : Int))) (by kernel_rfl) (fun hc7 => ?_) (fun hc7 => ?_)
              ·
                replace h := ite_tb hc7 h
                refine AWp.seq ?_
                obtain ⟨r12, hr12, h⟩ := bind_ok h
                obtain ⟨r13, hr13, h⟩ := bind_ok h
                obtain ⟨ob7, h⟩ := chk_some h
                refine q1rr [] [(1, ⟨[q1aSSI x1], [], [], [(6001, q1bSSI_76 r12)], .own 6001, [6001], [], []⟩), (5, ⟨[.own 6001, .i r7.1, .i (r7.1 + (1 : Int))], [6001], [], [(6001, q1bSSI_76 r13)], .own 6001, [6001], [], []⟩)] ⟨131, [(4, .own 6001), (5, .str ([111, 107] : List UInt8)), (1000001, .tab .u64 Lib.pow10Tab)], [(6001, q1bSSI_76 r13)], [], 0⟩ (an3 (cpT (Spec1.ren (swapN 3000 6001) (swapN_inv 3000 6001) rfl (f40_ok _ _ hr12))) ob7 (cpT (Spec1.ren (swapN 2000 6001) (swapN_inv 2000 6001) rfl (f70_ok _ _ _ _ hr13)))) ?_
                refine thenQ_normal ?_
                refine AWp.le (Le.trans (Le.freeze 6001 rfl rfl) (Le.mk (s' := ⟨131, [(4, q1aSSI r13), (5, .str ([111, 107] : List UInt8)), (1000001, .tab .u64 Lib.pow10Tab)], [], [], 0⟩) rfl rfl ⟨.refl _, .refl _, .refl _, trivial⟩ trivial)) ?_
                have hret := Option.some.inj h
                subst hret
                refine AWp.le (Le.mk (s' := ⟨131, [(4, q1aSSI r13), (5, .str ([111, 107] : List UInt8))], [], [], 0⟩) rfl rfl ⟨.refl _, .refl _, trivial⟩ trivial) ?_
                refine AWp.ret ?_
                refine blockQ_ret ?_
                refine thenQ_ret ?_
                exact bodyQ_ret _ rfl ⟨rfl, rfl⟩ rfl
              ·
                replace h := ite_fb hc7 h
                refine q1rq [] [] ⟨131, [(0, q1aSSI x1), (3, .ptr 3 0), (10, .ptr 10 0), (92, .bool (x2 == (4 : Int))), (1000001, .tab .u64 Lib.pow10Tab)], (f37z0 x2 x3 x4 x5 x1 r7), [], 0⟩ trivial ?_
                refine AWp.cond (b := (x2 == (4 : Int))) (by kernel_rfl) (fun hc8 => ?_) (fun hc8 => ?_)
                ·
                  replace h := ite_tb hc8 h
                  refine AWp.seq ?_
                  refine AWp.seq ?_
                  obtain ⟨ob8p, h⟩ := chk_some h
                  have ob8 : -9223372036854775808 ≤ (((((x1.getD ((r7.1).toNat) q1dSSI).2.1).length : Nat) : Int) + ((x5.length : Nat) : Int)) ∧ (((((x1.getD ((r7.1).toNat) q1dSSI).2.1).length : Nat) : Int) + ((x5.length : Nat) : Int)) ≤ 9223372036854775807 := ⟨by omega, ob8p⟩
                  refine q1rr [] [] ⟨131, [(0, q1aSSI x1), (3, .ptr 3 0), (10, .ptr 10 0), (101, .bool (decide ((((((x1.getD ((r7.1).toNat) q1dSSI).2.1).length + x5.length) : Nat) : Int) > (256 : Int)))), (1000001, .tab .u64 Lib.pow10Tab)], (f37z0 x2 x3 x4 x5 x1 r7), [], 0⟩ (an1 ob8) ?_
                  refine thenQ_normal ?_
                  refine AWp.cond (b := (decide ((((((x1.getD ((r7.1).toNat) q1dSSI).2.1).length + x5.length) : Nat) : Int) > (256 : Int)))) (by kernel_rfl) (fun hc9 => ?_) (fun hc9 => ?_)
                  ·
                    replace h := ite_tb hc9 h
                    refine q1rq [] [] ⟨131, [(4, q1aSSI x1), (5, .str ([108, 111, 110, 103] : List UInt8)), (1000001, .tab .u64 Lib.pow10Tab)], [], [], 0⟩ trivial ?_
                    have hret := Option.some.inj h
                    subst hret
                    refine AWp.le (Le.mk (s' := ⟨131, [(4, q1aSSI x1), (5, .str ([108, 111, 110, 103] : List UInt8))], [], [], 0⟩) rfl rfl ⟨.refl _, .refl _, trivial⟩ trivial) ?_
                    refine AWp.ret ?_
                    refine thenQ_ret ?_
                    refine blockQ_ret ?_
                    refine thenQ_ret ?_
                    exact bodyQ_ret _ rfl ⟨rfl, rfl⟩ rfl
                  ·
                    replace h := ite_fb hc9 h
                    refine AWp.skip ?_
                    refine thenQ_normal ?_
                    refine AWp.seq ?_
                    obtain ⟨r14, hr14, h⟩ := bind_ok h
                    obtain ⟨ob9, h⟩ := chk_some h
                    refine q1rr [] [(8, ⟨[q1aSSI x1, .str x3, .str (((x1.getD ((r7.1).toNat) q1dSSI).2.1) ++ x5)], [], [], [], .tup [q1aSSI r14.1, .str r14.2], [], [], [1]⟩)] ⟨131, [(4, q1aSSI r14.1), (5, .str r14.2), (1000001, .tab .u64 Lib.pow10Tab)], [], [], 0⟩ (an2 ob9 (cpT (f69_ok _ _ _ _ hr14))) ?_
                    refine thenQ_normal ?_
                    have hret := Option.some.inj h
                    subst hret
                    refine AWp.le (Le.mk (s' := ⟨131, [(4, q1aSSI r14.1), (5, .str r14.2)], [], [], 0⟩) rfl rfl ⟨.refl _, .refl _, trivial⟩ trivial) ?_
                    refine AWp.ret ?_
                    refine blockQ_ret ?_
                    refine thenQ_ret ?_
                    exact bodyQ_ret _ rfl ⟨rfl, rfl⟩ rfl
                ·
                  replace h := ite_fb hc8 h
                  refine AWp.skip ?_
                  refine blockQ_normal ?_
                  refine thenQ_normal ?_
                  refine AWp.seq ?_
                  refine q1rq [] [] ⟨131, [(0, q1aSSI x1), (3, .ptr 3 0), (10, .ptr 10 0), (118, .bool (!(((x1.getD ((r7.1).toNat) q1dSSI).2.1) == x4))), (1000001, .tab .u64 Lib.pow10Tab)], (f37z0 x2 x3 x4 x5 x1 r7), [], 0⟩ trivial ?_
                  refine AWp.cond (b := (!(((x1.getD ((r7.1).toNat) q1dSSI).2.1) == x4))) (by kernel_rfl) (fun hc10 => ?_) (fun hc10 => ?_)
                  ·
                    replace h := ite_tb hc10 h
                    refine AWp.seq ?_
                    obtain ⟨ob10, h⟩ := chk_some h
                    refine q1rr [] [] ⟨131, [(4, q1aSSI x1), (5, .str (([110, 111, 32] : List UInt8) ++ ((x1.getD ((r7.1).toNat) q1dSSI).2.1))), (1000001, .tab .u64 Lib.pow10Tab)], [], [], 0⟩ (an1 ob10) ?_
                    refine thenQ_normal ?_
                    have hret := Option.some.inj h
                    subst hret
                    refine AWp.le (Le.mk (s' := ⟨131, [(4, q1aSSI x1), (5, .str (([110, 111, 32] : List UInt8) ++ ((x1.getD ((r7.1).toNat) q1dSSI).2.1)))], [], [], 0⟩) rfl rfl ⟨.refl _, .refl _, trivial⟩ trivial) ?_
                    refine AWp.ret ?_
                    refine thenQ_ret ?_
                    exact bodyQ_ret _ rfl ⟨rfl, rfl⟩ rfl
                  ·
                    replace h := ite_fb hc10 h
                    refine AWp.skip ?_
                    refine thenQ_normal ?_
                    refine AWp.seq ?_
                    obtain ⟨r15, hr15, h⟩ := bind_ok h
                    refine q1rr [] [(5, ⟨[q1aSSI x1, .str x3, .str x5], [], [], [], .tup [q1aSSI r15.1, .str r15.2], [], [], [1]⟩)] ⟨131, [(4, q1aSSI r15.1), (5, .str r15.2), (1000001, .tab .u64 Lib.pow10Tab)], [], [], 0⟩ (an1 (cpT (f69_ok _ _ _ _ hr15))) ?_
                    refine thenQ_normal ?_
                    have hret := Option.some.inj h
                    subst hret
                    refine AWp.le (Le.mk (s' := ⟨131, [(4, q1aSSI r15.1), (5, .str r15.2)], [], [], 0⟩) rfl rfl ⟨.refl _, .refl _, trivial⟩ trivial) ?_
                    refine AWp.ret ?_
                    exact bodyQ_ret _ rfl ⟨rfl, rfl⟩ rfl
def f38 (x1 : List (Int × Int × List UInt8)) : Option (List (Int × Int × List UInt8)) :=
  abc ((x1).length = 0) (
  some []
  ) (
  chk ((0 + (x1).length) * 32 ≤ 140737488355328) <|
  some ([] ++ x1)
  )
set_option maxRecDepth 100000 in
theorem f38_ok  (x1 : List (Int × Int × List UInt8)) (r : List (Int × Int × List UInt8)) (h : f38 x1 = some r)  : Spec1 Tryz.prog 38 [] [] [] [vL 3 eIIS (default : Int × Int × List UInt8) x1] (.own 3000) [(3000, bL 45 3 eIIS (default : Int × Int × List UInt8) r)] := by
  unfold f38 at h
  refine Spec1.body 0 _ _ Tryz.func38 rfl Tryz.ntmps38 rfl rfl ?_
  refine q1rq [] [] ⟨8, [(0, q1aIIS x1)], [], [], 0⟩ trivial ?_
  refine AWp.seq ?_
  refine q1rq [] [] ⟨8, [(0, q1aIIS x1), (4, .abool (fun b => b = true → (x1).length = 0))], [], [], 0⟩ trivial ?_
  obtain ⟨hA1, hB1⟩ := abc_some h
  refine AWp.condAb (fun b => b = true → (x1).length = 0) (by kernel_rfl) (fun hc1 => ?_) (fun hc1 => ?_)
  ·
    have h := hA1 (hc1 rfl)
    refine q1rq [] [] ⟨8, [(2, .nils)], [], [], 0⟩ trivial ?_
    refine AWp.le (Le.trans (Le.nilOwn 2 3000 45 3 (encF eIIS q1dIIS []) rfl rfl (Nat.le_of_ble_eq_true rfl)) (Le.mk (s' := ⟨8, [(2, .own 3000)], [(3000, q1bIIS_45 [])], [], 0⟩) rfl rfl ⟨.refl _, trivial⟩ ⟨⟨_, rfl, .refl _⟩, trivial⟩)) ?_
    have hret := Option.some.inj h
    subst hret
    refine AWp.le (Le.mk (s' := ⟨8, [(2, .own 3000)], [(3000, q1bIIS_45 [])], [], 0⟩) rfl rfl ⟨.refl _, trivial⟩ ⟨⟨_, rfl, .refl _⟩, trivial⟩) ?_
    refine AWp.ret ?_
    refine thenQ_ret ?_
    exact bodyQ_ret _ rfl ⟨rfl, rfl⟩ rfl
  ·
    have h := hB1
    refine AWp.skip ?_
    refine thenQ_normal ?_
    refine AWp.seq ?_
    obtain ⟨ob0, h⟩ := chk_some h
    refine q1rr [] [] ⟨8, [(2, .own 5)], [(5, .rows 45 3 (0 + (x1).length) (appF 0 (lstF 3 []) (encF eIIS q1dIIS x1)))], [], 0⟩ (an1 ob0) ?_
    refine thenQ_normal ?_
    refine AWp.le (Le.mk (s' := ⟨8, [(2, .own 5)], [(5, q1bIIS_45 ([] ++ x1))], [], 0⟩) rfl rfl ⟨.refl _, trivial⟩ ⟨⟨_, rfl, (BLe.of (RL.app (RL.lst (enc := eIIS) [] rfl rfl (fun _ => rfl)) (RL.self _)))⟩, trivial⟩) ?_
    refine AWp.le (Le.trans (Le.ren (swapN 5 3000) (swapN_inv 5 3000) rfl) (Le.mk (s' := ⟨8, [(2, .own 3000)], [(3000, q1bIIS_45 ([] ++ x1))], [], 0⟩) rfl rfl ⟨.refl _, trivial⟩ ⟨⟨_, rfl, .refl _⟩, trivial⟩)) ?_
    have hret := Option.some.inj h
    subst hret
    refine AWp.le (Le.mk (s' := ⟨8, [(2, .own 3000)], [(3000, q1bIIS_45 ([] ++ x1))], [], 0⟩) rfl rfl ⟨.refl _, trivial⟩ ⟨⟨_, rfl, .refl _⟩, trivial⟩) ?_
    refine AWp.ret ?_
    exact bodyQ_ret _ rfl ⟨rfl, rfl⟩ rfl
abbrev f39z0 (x2 : List (Int × Int × List UInt8)) (x3 : List (Int × Int × List UInt8)) : Heap := [(2000, bL 45 3 eIIS (default : Int × Int × List UInt8) x2), (2001, bL 45 3 eIIS (default : Int × Int × List UInt8) x3)]
def f39e (x1 : Int) (x2 : List (Int × Int × List UInt8)) (x3 : List (Int × Int × List UInt8)) : Option ((List (Int × Int × List UInt8)) × (List (Int × Int × List UInt8))) :=
  chk (0 ≤ x1 ∧ x1 ≤ (((x2).length : Nat) : Int)) <|
  if ((((x3).length : Nat) : Int) == (0 : Int)) then (
  some (x2, x3)
  ) else (
  if (x1 == (((x2).length : Nat) : Int)) then (
  chk (((x2).length + (x3).length) * 32 ≤ 140737488355328) <|
  some ((x2 ++ x3), x3)
  ) else (
  
  none
  )
  )
set_option maxRecDepth 100000 in
theorem f39e_ok  (x1 : Int) (x2 : List (Int × Int × List UInt8)) (x3 : List (Int × Int × List UInt8)) (r : (List (Int × Int × List UInt8)) × (List (Int × Int × List UInt8))) (h : f39e x1 x2 x3 = some r)  : Spec1 Tryz.prog 39 [] [2001] [(2000, bL 45 3 eIIS (default : Int × Int × List UInt8) x2), (2001, bL 45 3 eIIS (default : Int × Int × List UInt8) x3)] [.own 2000, .int .i64 x1, .own 2001] (.own 2000) [(2000, bL 45 3 eIIS (default : Int × Int × List UInt8) r.1), (2001, bL 45 3 eIIS (default : Int × Int × List UInt8) r.2)] := by
  unfold f39e at h
  refine Spec1.body 0 _ _ Tryz.func39 rfl Tryz.ntmps39 rfl rfl ?_
  refine q1rq [] [] ⟨95, [(0, .own 2000), (1, .i x1), (2, .own 2001)], (f39z0 x2 x3), [2001], 0⟩ trivial ?_
  refine AWp.seq ?_
  obtain ⟨ob0, h⟩ := chk_some h
  refine q1rr [] [] ⟨95, [(0, .own 2000), (1, .i x1), (2, .own 2001)], (f39z0 x2 x3), [2001], 0⟩ (an1 ob0) ?_
  refine thenQ_normal ?_
  refine q1rq [] [] ⟨95, [(0, .own 2000), (1, .i x1), (2, .own 2001), (7, .i (lZ x3))], (f39z0 x2 x3), [2001], 0⟩ trivial ?_
  refine AWp.seq ?_
  refine q1rq [] [] ⟨95, [(0, .own 2000), (1, .i x1), (2, .own 2001), (7, .i (lZ x3)), (16, .bool ((lZ x3) == (0 : Int)))], (f39z0 x2 x3), [2001], 0⟩ trivial ?_
  refine AWp.cond (b := ((lZ x3) == (0 : Int))) (by kernel_rfl) (fun hc1 => ?_) (fun hc1 => ?_)
  ·
    replace h := ite_tb hc1 h
    refine q1rq [] [] ⟨95, [(6, .own 2000)], (f39z0 x2 x3), [2001], 0⟩ trivial ?_
    have hret := Option.some.inj h
    subst hret
    refine AWp.ret ?_
    refine thenQ_ret ?_
    exact bodyQ_ret _ rfl ⟨rfl, rfl⟩ rfl
  ·
    replace h := ite_fb hc1 h
    refine AWp.skip ?_
    refine thenQ_normal ?_
    refine q1rq [] [] ⟨95, [(0, .own 2000), (1, .i x1), (2, .own 2001), (7, .i (lZ x3)), (8, .i (lZ x2))], (f39z0 x2 x3), [2001], 0⟩ trivial ?_
    refine AWp.seq ?_
    refine q1rq [] [] ⟨95, [(0, .own 2000), (1, .i x1), (2, .own 2001), (7, .i (lZ x3)), (8, .i (lZ x2)), (22, .bool (x1 == (lZ x2)))], (f39z0 x2 x3), [2001], 0⟩ trivial ?_
    refine AWp.cond (b := (x1 == (lZ x2))) (by kernel_rfl) (fun hc2 => ?_) (fun hc2 => ?_)
    ·
      replace h := ite_tb hc2 h
      refine AWp.seq ?_
      obtain ⟨ob1, h⟩ := chk_some h
      refine q1rr [] [] ⟨95, [(6, .own 2000)], [(2000, .rows 45 3 ((x2).length + (x3).length) (appF (x2).length (encF eIIS q1dIIS x2) (encF eIIS q1dIIS x3))), (2001, q1bIIS_45 x3)], [2001], 0⟩ (an1 ob1) ?_
      refine thenQ_normal ?_
      refine AWp.le (Le.mk (s' := ⟨95, [(6, .own 2000)], [(2000, q1bIIS_45 (x2 ++ x3)), (2001, q1bIIS_45 x3)], [2001], 0⟩) rfl rfl ⟨.refl _, trivial⟩ ⟨⟨_, rfl, (BLe.of (RL.app (RL.self _) (RL.self _)))⟩, ⟨_, rfl, .refl _⟩, trivial⟩) ?_
      have hret := Option.some.inj h
      subst hret
      refine AWp.ret ?_
      refine thenQ_ret ?_
      exact bodyQ_ret _ rfl ⟨rfl, rfl⟩ rfl
    ·
      replace h := ite_fb hc2 h
      refine AWp.skip ?_
      refine thenQ_normal ?_
      refine AWp.seq ?_
      refine AWp.seq ?_
      exact nomatch (show (none : Option ((List (Int × Int × List UInt8)) × (List (Int × Int × List UInt8)))) = some r from h)
def f39 (x2 : Int) (x1 : List (Int × Int × List UInt8)) (x3 : List (Int × Int × List UInt8)) : Option (List (Int × Int × List UInt8) × List (Int × Int × List UInt8)) :=
  if 0 ≤ x2 ∧ x2.toNat < x1.length ∧ 0 < x3.length ∧ (x1.length + x3.length) * 32 ≤ 140737488355328 then some (x1.take x2.toNat ++ x3 ++ x1.drop x2.toNat, x3) else f39e x2 x1 x3
theorem f39_ok (x2 : Int) (x1 : List (Int × Int × List UInt8)) (x3 : List (Int × Int × List UInt8)) (r : List (Int × Int × List UInt8) × List (Int × Int × List UInt8)) (h : f39 x2 x1 x3 = some r) : Spec1 Tryz.prog 39 [] [2001] [(2000, bL 45 3 eIIS (default : Int × Int × List UInt8) x1), (2001, bL 45 3 eIIS (default : Int × Int × List UInt8) x3)] [.own 2000, .int .i64 x2, .own 2001] (.own 2000) [(2000, bL 45 3 eIIS (default : Int × Int × List UInt8) r.1), (2001, bL 45 3 eIIS (default : Int × Int × List UInt8) r.2)] := by
  unfold f39 at h
  split at h
  · rename_i hc
    cases h
    have := insK_spec 3 (by decide) 45 32 eIIS q1dIIS insShift1 insGrow1 x1 x3 x2.toNat hc.2.1 hc.2.2.1 hc.2.2.2
    rw [Int.toNat_of_nonneg hc.1] at this
    exact this
  · exact f39e_ok x2 x1 x3 r h
abbrev f11z0 (x1 : List (List UInt8 × List UInt8 × Int)) (x2 : List (Int × Int × List UInt8)) : List V := [vL 3 eSSI (default : List UInt8 × List UInt8 × Int) x1, vL 3 eIIS (default : Int × Int × List UInt8) x2]
abbrev f11z1 (l11 : List (List UInt8 × List UInt8 × Int)) : List V := [vL 3 eSSI (default : List UInt8 × List UInt8 × Int) l11, .own 6001]
abbrev f11z2 (x1 : List (List UInt8 × List UInt8 × Int)) (x2 : List (Int × Int × List UInt8)) (x3 : Int) (x4 : Int) (x5 : List UInt8) : Heap := [(2, .cells 30 (f11z0 x1 x2)), (3, .cells 24 [.int .i64 x3, .int .i64 x4, .str x5]), (4, .cells 30 [.nils, .nils])]
abbrev f11z3 (s10 : List UInt8) : List (Nat × V) := [(2, .ptr 2 0), (4, .ptr 4 0), (8, .str s10), (1000001, .tab .u64 Lib.pow10Tab)]
abbrev f11z4 (r8 : Int × List UInt8 × List UInt8 × List UInt8 × Int) : List V := [.int .i64 r8.1, .str r8.2.1, .str r8.2.2.1, .str r8.2.2.2.1]
abbrev f11z5 (s10 : List UInt8) : List (Nat × V) := [(4, .ptr 4 0), (5, .str s10), (1000001, .tab .u64 Lib.pow10Tab)]
def f11 (x1 : List (List UInt8 × List UInt8 × Int)) (x2 : List (Int × Int × List UInt8)) (x3 : Int) (x4 : Int) (x5 : List UInt8) : Option ((List (List UInt8 × List UInt8 × Int)) × (List (Int × Int × List UInt8)) × List UInt8) :=
  (f34 x3 x4).bind fun (r6 : Bool) =>
  if (((!r6) || (x5 == [])) || (decide (((x5.length : Nat) : Int) > (200 : Int)))) then (
  some (x1, x2, cs1)
  ) else (
  (f35 x2 x3).bind fun (r7 : Int × Bool) =>
  chk ((r7.2 == true) = true → 0 ≤ r7.1 ∧ r7.1 < (((x2).length : Nat) : Int)) <|
  if (r7.2 && (decide ((x2.getD ((r7.1).toNat) (default : Int × Int × List UInt8)).2.1 > x4))) then (
  some (x1, x2, cs2)
  ) else (
  chk ((r7.2 == true) = true → 0 ≤ r7.1 ∧ r7.1 < (((x2).length : Nat) : Int)) <|
  if (r7.2 && ((x2.getD ((r7.1).toNat) (default : Int × Int × List UInt8)).2.1 == x4)) then (
  chk (0 ≤ r7.1 ∧ r7.1 < (((x2).length : Nat) : Int)) <|
  some (x1, x2, (x2.getD ((r7.1).toNat) (default : Int × Int × List UInt8)).2.2)
  ) else (
  jn (fun ((s10, l11) : List UInt8 × (List (List UInt8 × List UInt8 × Int))) =>
  (f38 x2).bind fun (r12 : List (Int × Int × List UInt8)) =>
  jn (fun (l13 : List (Int × Int × List UInt8)) =>
  some (l11, l13, s10)
  ) fun (K2 : (List (Int × Int × List UInt8)) → Option ((List (List UInt8 × List UInt8 × Int)) × (List (Int × Int × List UInt8)) × List UInt8)) =>
  if r7.2 then (
  chk (0 ≤ r7.1 ∧ r7.1 < (((r12).length : Nat) : Int)) <|
  chk (((r7.1).toNat) < (r12).length) <|
  K2 (r12.set ((r7.1).toNat) (x3, x4, s10))
  ) else (
  (f39 r7.1 r12 [(x3, x4, s10)]).bind fun (r14 : (List (Int × Int × List UInt8)) × (List (Int × Int × List UInt8))) =>
  K2 r14.1
  )
  ) fun (K1 : (List UInt8 × (List (List UInt8 × List UInt8 × Int))) → Option ((List (List UInt8 × List UInt8 × Int)) × (List (Int × Int × List UInt8)) × List UInt8)) =>
  (f36 x5).bind fun (r8 : Int × List UInt8 × List UInt8 × List UInt8 × Int) =>
  if (r8.2.2.2.2 == (0 : Int)) then (
  (f37 x1 r8.1 r8.2.1 r8.2.2.1 r8.2.2.2.1).bind fun (r9 : (List (List UInt8 × List UInt8 × Int)) × List UInt8) =>
  K1 (r9.2, r9.1)
  ) else (
  K1 (cs3, x1)
  )
  )
  )
  )
set_option maxRecDepth 100000 in
theorem f11_ok  (x1 : List (List UInt8 × List UInt8 × Int)) (x2 : List (Int × Int × List UInt8)) (x3 : Int) (x4 : Int) (x5 : List UInt8) (r : (List (List UInt8 × List UInt8 × Int)) × (List (Int × Int × List UInt8)) × List UInt8) (h : f11 x1 x2 x3 x4 x5 = some r)  : Spec1 Tryz.prog 11 [(1, .tab .u64 Lib.pow10Tab)] [] [] [.agg [vL 3 eSSI (default : List UInt8 × List UInt8 × Int) x1, vL 3 eIIS (default : Int × Int × List UInt8) x2], .agg [.int .i64 x3, .int .i64 x4, .str x5]] (.tup [.agg [vL 3 eSSI (default : List UInt8 × List UInt8 × Int) r.1, vL 3 eIIS (default : Int × Int × List UInt8) r.2.1], .str r.2.2]) [] := by
  unfold f11 at h
  refine Spec1.bodyD [4] 0 _ _ Tryz.func11 rfl Tryz.ntmps11 rfl rfl ?_
  refine q1rq [] [] ⟨111, [(2, .ptr 2 0), (3, .ptr 3 0), (4, .ptr 4 0), (1000001, .tab .u64 Lib.pow10Tab)], (f11z2 x1 x2 x3 x4 x5), [], 0⟩ trivial ?_
  refine AWp.seq ?_
  refine AWp.seq ?_
  obtain ⟨r6, hr6, h⟩ := bind_ok h
  have ob0 := idA (((!r6) == false) = true)
  have ob2 := bqA (!r6) false
  have ob3 := idA ((((!r6) || (x5 == [])) == false) = true)
  have ob6 := bqA ((!r6) || (x5 == [])) false
  refine q1rr [] [(4, ⟨[.i x3, .i x4], [], [], [], .bool r6, [], [], []⟩)] ⟨111, [(2, .ptr 2 0), (3, .ptr 3 0), (4, .ptr 4 0), (28, .bool (((!r6) || (x5 == [])) || (decide ((lZ x5) > (200 : Int))))), (1000001, .tab .u64 Lib.pow10Tab)], (f11z2 x1 x2 x3 x4 x5), [], 0⟩ (ac6 (cpT (f34_ok _ _ _ hr6)) (an1 ob0) (an1 ob0) ob2 (an1 ob3) (an1 ob3) (an2 (an1 ob3) ob6)) ?_
  refine thenQ_normal ?_
  refine AWp.cond (b := (((!r6) || (x5 == [])) || (decide ((lZ x5) > (200 : Int))))) (by kernel_rfl) (fun hc1 => ?_) (fun hc1 => ?_)
  ·
    replace h := ite_tb hc1 h
    refine q1rq [] [] ⟨111, [(4, .ptr 4 0), (5, .str cs1), (1000001, .tab .u64 Lib.pow10Tab)], [(4, .cells 30 (f11z0 x1 x2))], [], 0⟩ (an1 trivial) ?_
    have hret := Option.some.inj h
    subst hret
    refine AWp.le (Le.mk (s' := ⟨111, [(4, .ptr 4 0), (5, .str cs1)], [(4, .cells 30 (f11z0 x1 x2))], [], 0⟩) rfl rfl ⟨.refl _, .refl _, trivial⟩ ⟨⟨_, rfl, .refl _⟩, trivial⟩) ?_
    refine AWp.ret ?_
    refine thenQ_ret ?_
    exact bodyQ_ret _ rfl ⟨rfl, rfl⟩ rfl
  ·
    replace h := ite_fb hc1 h
    refine AWp.skip ?_
    refine thenQ_normal ?_
    refine AWp.seq ?_
    obtain ⟨r7, hr7, h⟩ := bind_ok h
    refine q1rr [] [(4, ⟨[q1aIIS x2, .i x3], [], [], [], .tup [.i r7.1, .bool r7.2], [], [], []⟩)] ⟨111, [(2, .ptr 2 0), (3, .ptr 3 0), (4, .ptr 4 0), (6, .i r7.1), (7, .bool r7.2), (1000001, .tab .u64 Lib.pow10Tab)], (f11z2 x1 x2 x3 x4 x5), [], 0⟩ (an1 (cpT (f35_ok _ _ _ hr7))) ?_
    refine thenQ_normal ?_
    refine AWp.seq ?_
    refine AWp.seq ?_
    have ob7 := idA ((r7.2 == true) = true)
    obtain ⟨ob8, h⟩ := chk_some h
    have ob16 := bqA (r7.2) true
    refine q1rr [] [] ⟨111, [(2, .ptr 2 0), (3, .ptr 3 0), (4, .ptr 4 0), (6, .i r7.1), (7, .bool r7.2), (49, .bool (r7.2 && (decide ((x2.getD ((r7.1).toNat) q1dIIS).2.1 > x4)))), (1000001, .tab .u64 Lib.pow10Tab)], (f11z2 x1 x2 x3 x4 x5), [], 0⟩ (ac6 (an1 ob7) (And.intro ob8 (an2 ob7 ob7)) (an1 ob7) (an1 ob7) (an1 ob7) (an2 ob7 ob7) (an1 ob16)) ?_
    refine thenQ_normal ?_
    refine AWp.cond (b := (r7.2 && (decide ((x2.getD ((r7.1).toNat) q1dIIS).2.1 > x4)))) (by kernel_rfl) (fun hc2 => ?_) (fun hc2 => ?_)
    ·
      replace h := ite_tb hc2 h
      refine q1rq [] [] ⟨111, [(4, .ptr 4 0), (5, .str cs2), (1000001, .tab .u64 Lib.pow10Tab)], [(4, .cells 30 (f11z0 x1 x2))], [], 0⟩ (an1 trivial) ?_
      have hret := Option.some.inj h
      subst hret
      refine AWp.le (Le.mk (s' := ⟨111, [(4, .ptr 4 0), (5, .str cs2)], [(4, .cells 30 (f11z0 x1 x2))], [], 0⟩) rfl rfl ⟨.refl _, .refl _, trivial⟩ ⟨⟨_, rfl, .refl _⟩, trivial⟩) ?_
      refine AWp.ret ?_
      refine thenQ_ret ?_
      exact bodyQ_ret _ rfl ⟨rfl, rfl⟩ rfl
    ·
      replace h := ite_fb hc2 h
      refine AWp.skip ?_
      refine thenQ_normal ?_
      refine AWp.seq ?_
      refine AWp.seq ?_
      obtain ⟨ob18, h⟩ := chk_some h
      refine q1rr [] [] ⟨111, [(2, .ptr 2 0), (3, .ptr 3 0), (4, .ptr 4 0), (6, .i r7.1), (7, .bool r7.2), (62, .bool (r7.2 && ((x2.getD ((r7.1).toNat) q1dIIS).2.1 == x4))), (1000001, .tab .u64 Lib.pow10Tab)], (f11z2 x1 x2 x3 x4 x5), [], 0⟩ (ac6 (an1 ob7) (And.intro ob18 (an2 ob7 ob7)) (an1 ob7) (an1 ob7) (an1 ob7) (an2 ob7 ob7) (an1 ob16)) ?_
      refine thenQ_normal ?_
      refine AWp.cond (b := (r7.2 && ((x2.getD ((r7.1).toNat) q1dIIS).2.1 == x4))) (by kernel_rfl) (fun hc3 => ?_) (fun hc3 => ?_)
      ·
        replace h := ite_tb hc3 h
        refine AWp.seq ?_
        obtain ⟨ob27, h⟩ := chk_some h
        refine q1rr [] [] ⟨111, [(4, .ptr 4 0), (5, .str (x2.getD ((r7.1).toNat) q1dIIS).2.2), (1000001, .tab .u64 Lib.pow10Tab)], [(4, .cells 30 (f11z0 x1 x2))], [], 0⟩ (an2 ob27 trivial) ?_
        refine thenQ_normal ?_
        have hret := Option.some.inj h
        subst hret
        refine AWp.le (Le.mk (s' := ⟨111, [(4, .ptr 4 0), (5, .str (x2.getD ((r7.1).toNat) q1dIIS).2.2)], [(4, .cells 30 (f11z0 x1 x2))], [], 0⟩) rfl rfl ⟨.refl _, .refl _, trivial⟩ ⟨⟨_, rfl, .refl _⟩, trivial⟩) ?_
        refine AWp.ret ?_
        refine thenQ_ret ?_
        exact bodyQ_ret _ rfl ⟨rfl, rfl⟩ rfl
      ·
        replace h := ite_fb hc3 h
        refine AWp.skip ?_
        refine thenQ_normal ?_
        refine q1rq [] [] ⟨111, [(2, .ptr 2 0), (3, .ptr 3 0), (4, .ptr 4 0), (6, .i r7.1), (7, .bool r7.2), (8, .str cs3), (1000001, .tab .u64 Lib.pow10Tab)], (f11z2 x1 x2 x3 x4 x5), [], 0⟩ trivial ?_
        obtain ⟨K1, hK1, h⟩ := jn_some h
        refine AWp.join (α := List UInt8 × (List (List UInt8 × List UInt8 × Int))) (fun (x : List UInt8 × (List (List UInt8 × List UInt8 × Int))) => match x with | (s10, l11) => ⟨111, [(2, .ptr 2 0), (3, .ptr 3 0), (4, .ptr 4 0), (6, .i r7.1), (7, .bool r7.2), (8, .str s10), (1000001, .tab .u64 Lib.pow10Tab)], [(2, .cells 30 [q1aSSI l11, q1aIIS x2]), (3, .cells 24 [.i x3, .i x4, .str x5]), (4, .cells 30 [.nils, .nils])], [], 0⟩) (fun x => K1 x = some r) ?_ ?_
        ·
          refine AWp.seq ?_
          obtain ⟨r8, hr8, h⟩ := bind_ok h
          refine q1rr [] [(2, ⟨[.str x5], [], [], [], .tup [.agg (f11z4 r8), .i r8.2.2.2.2], [], [], []⟩)] ⟨111, [(2, .ptr 2 0), (3, .ptr 3 0), (4, .ptr 4 0), (6, .i r7.1), (7, .bool r7.2), (8, .str cs3), (9, .ptr 9 0), (10, .i r8.2.2.2.2), (1000001, .tab .u64 Lib.pow10Tab)], [(2, .cells 30 (f11z0 x1 x2)), (3, .cells 24 [.i x3, .i x4, .str x5]), (4, .cells 30 [.nils, .nils]), (9, .cells 67 (f11z4 r8))], [], 0⟩ (an2 (cpT (f36_ok _ _ hr8)) trivial) ?_
          refine thenQ_normal ?_
          refine q1rq [] [] ⟨111, [(2, .ptr 2 0), (3, .ptr 3 0), (4, .ptr 4 0), (6, .i r7.1), (7, .bool r7.2), (8, .str cs3), (9, .ptr 9 0), (77, .bool (r8.2.2.2.2 == (0 : Int))), (1000001, .tab .u64 Lib.pow10Tab)], [(2, .cells 30 (f11z0 x1 x2)), (3, .cells 24 [.i x3, .i x4, .str x5]), (4, .cells 30 [.nils, .nils]), (9, .cells 67 (f11z4 r8))], [], 0⟩ trivial ?_
          refine AWp.cond (b := (r8.2.2.2.2 == (0 : Int))) (by kernel_rfl) (fun hc4 => ?_) (fun hc4 => ?_)
          ·
            replace h := ite_tb hc4 h
            obtain ⟨r9, hr9, h⟩ := bind_ok h
            refine q1rr [] [(3, ⟨[q1aSSI x1, .agg (f11z4 r8)], [], [], [], .tup [q1aSSI r9.1, .str r9.2], [], [], [1]⟩)] ⟨111, [(2, .ptr 2 0), (3, .ptr 3 0), (4, .ptr 4 0), (6, .i r7.1), (7, .bool r7.2), (8, .str r9.2), (1000001, .tab .u64 Lib.pow10Tab)], [(2, .cells 30 [q1aSSI r9.1, q1aIIS x2]), (3, .cells 24 [.i x3, .i x4, .str x5]), (4, .cells 30 [.nils, .nils])], [], 0⟩ (an2 (cpT (f37_ok _ _ _ _ _ _ hr9)) trivial) ?_
            exact joinQ_normal (r9.2, r9.1) (Le.mk rfl rfl ⟨.refl _, .refl _, .refl _, .refl _, .refl _, .refl _, .refl _, trivial⟩ ⟨⟨_, rfl, .refl _⟩, ⟨_, rfl, .refl _⟩, ⟨_, rfl, .refl _⟩, trivial⟩) h
          ·
            replace h := ite_fb hc4 h
            refine AWp.skip ?_
            exact joinQ_normal (cs3, x1) (Le.mk rfl rfl ⟨.refl _, .refl _, .refl _, .refl _, .refl _, .refl _, .refl _, trivial⟩ ⟨⟨_, rfl, .refl _⟩, ⟨_, rfl, .refl _⟩, ⟨_, rfl, .refl _⟩, trivial⟩) h
        ·
          rintro ⟨s10, l11⟩ h
          replace h := (congrFun hK1 _).symm.trans h
          refine q1rq [] [] ⟨111, [(2, .ptr 2 0), (4, .ptr 4 0), (6, .i r7.1), (7, .bool r7.2), (8, .str s10), (11, .ptr 11 0), (1000001, .tab .u64 Lib.pow10Tab)], [(2, .cells 30 [q1aSSI l11, q1aIIS x2]), (4, .cells 30 [.nils, .nils]), (11, .cells 45 [.i x3, .i x4, .str s10])], [], 0⟩ (an1 trivial) ?_
          refine AWp.seq ?_
          obtain ⟨r12, hr12, h⟩ := bind_ok h
          refine q1rr [] [(2, ⟨[q1aIIS x2], [], [], [(6001, q1bIIS_45 r12)], .own 6001, [6001], [], []⟩)] ⟨111, [(2, .ptr 2 0), (4, .ptr 4 0), (6, .i r7.1), (7, .bool r7.2), (8, .str s10), (11, .ptr 11 0), (1000001, .tab .u64 Lib.pow10Tab)], [(2, .cells 30 (f11z1 l11)), (4, .cells 30 [.nils, .nils]), (11, .cells 45 [.i x3, .i x4, .str s10]), (6001, q1bIIS_45 r12)], [], 0⟩ (an2 (cpT (Spec1.ren (swapN 3000 6001) (swapN_inv 3000 6001) rfl (f38_ok _ _ hr12))) trivial) ?_
          refine thenQ_normal ?_
          obtain ⟨K2, hK2, h⟩ := jn_some h
          refine AWp.join (α := List (Int × Int × List UInt8)) (fun (l13 : List (Int × Int × List UInt8)) => ⟨111, (f11z3 s10), [(2, .cells 30 (f11z1 l11)), (4, .cells 30 [.nils, .nils]), (6001, q1bIIS_45 l13)], [], 0⟩) (fun x => K2 x = some r) ?_ ?_
          ·
            refine q1rq [] [] ⟨111, [(2, .ptr 2 0), (4, .ptr 4 0), (6, .i r7.1), (8, .str s10), (11, .ptr 11 0), (96, .bool r7.2), (1000001, .tab .u64 Lib.pow10Tab)], [(2, .cells 30 (f11z1 l11)), (4, .cells 30 [.nils, .nils]), (11, .cells 45 [.i x3, .i x4, .str s10]), (6001, q1bIIS_45 r12)], [], 0⟩ trivial ?_
            refine AWp.cond (b := r7.2) (by kernel_rfl) (fun hc5 => ?_) (fun hc5 => ?_)
            ·
              replace h := ite_tb hc5 h
              obtain ⟨ob28, ob29, h⟩ := ck2 h
              refine q1rr [] [] ⟨111, (f11z3 s10), [(2, .cells 30 (f11z1 l11)), (4, .cells 30 [.nils, .nils]), (6001, .rows 45 3 (r12).length (updF (encF eIIS q1dIIS r12) ((r7.1).toNat) 0 [.i x3, .i x4, .str s10]))], [], 0⟩ (an2 ob28 ob29) ?_
              exact joinQ_normal ((r12.set ((r7.1).toNat) (x3, x4, s10))) (Le.trans (Le.mk (s' := ⟨111, (f11z3 s10), [(2, .cells 30 (f11z1 l11)), (4, .cells 30 [.nils, .nils]), (6001, q1bIIS_45 (r12.set ((r7.1).toNat) (x3, x4, s10)))], [], 0⟩) rfl rfl ⟨.refl _, .refl _, .refl _, .refl _, trivial⟩ ⟨⟨_, rfl, .refl _⟩, ⟨_, rfl, .refl _⟩, ⟨_, rfl, (BLe.of (RL.set (x3, x4, s10) (RL.self _) (by intro j hj; match j, hj with | 0, _ => rfl | 1, _ => rfl | 2, _ => rfl)))⟩, trivial⟩) (Le.mk rfl rfl ⟨.refl _, .refl _, .refl _, .refl _, trivial⟩ ⟨⟨_, rfl, .refl _⟩, ⟨_, rfl, .refl _⟩, ⟨_, rfl, .refl _⟩, trivial⟩)) h
            ·
              replace h := ite_fb hc5 h
              obtain ⟨r14, hr14, h⟩ := bind_ok h
              refine q1rr [] [(5, ⟨[.own 6001, .i r7.1, .own 106], [6001, 106], [106], [(6001, q1bIIS_45 r14.1), (106, q1bIIS_45 r14.2)], .own 6001, [6001], [], []⟩)] ⟨111, (f11z3 s10), [(2, .cells 30 (f11z1 l11)), (4, .cells 30 [.nils, .nils]), (6001, q1bIIS_45 r14.1)], [], 0⟩ (an2 (cpT (Spec.heap (h0 := [(6001, q1bIIS_45 r12), (106, .rows 45 3 1 (lstF 3 [.i x3, .i x4, .str s10]))]) (Spec1.ren (swapN 2001 106) (swapN_inv 2001 106) rfl (Spec1.ren (swapN 2000 6001) (swapN_inv 2000 6001) rfl (f39_ok _ _ _ _ hr14))) ⟨⟨_, rfl, .refl _⟩, ⟨_, rfl, (BLe.of (RL.lst (enc := eIIS) [(x3, x4, s10)] rfl rfl (fun _ => rfl)))⟩, trivial⟩)) trivial) ?_
              exact joinQ_normal (r14.1) (Le.mk rfl rfl ⟨.refl _, .refl _, .refl _, .refl _, trivial⟩ ⟨⟨_, rfl, .refl _⟩, ⟨_, rfl, .refl _⟩, ⟨_, rfl, .refl _⟩, trivial⟩) h
          ·
            rintro l13 h
            replace h := (congrFun hK2 _).symm.trans h
            refine q1rq [] [] ⟨111, (f11z5 s10), [(4, .cells 30 (f11z1 l11)), (6001, q1bIIS_45 l13)], [], 0⟩ (an1 trivial) ?_
            refine AWp.le (Le.trans (Le.freeze 6001 rfl rfl) (Le.mk (s' := ⟨111, (f11z5 s10), [(4, .cells 30 [q1aSSI l11, q1aIIS l13])], [], 0⟩) rfl rfl ⟨.refl _, .refl _, .refl _, trivial⟩ ⟨⟨_, rfl, .refl _⟩, trivial⟩)) ?_
            have hret := Option.some.inj h
            subst hret
            refine AWp.le (Le.mk (s' := ⟨111, [(4, .ptr 4 0), (5, .str s10)], [(4, .cells 30 [q1aSSI l11, q1aIIS l13])], [], 0⟩) rfl rfl ⟨.refl _, .refl _, trivial⟩ ⟨⟨_, rfl, .refl _⟩, trivial⟩) ?_
            refine AWp.ret ?_
            exact bodyQ_ret _ rfl ⟨rfl, rfl⟩ rfl
def f89_L0 (x1 : List (List UInt8 × List UInt8 × Int)) (K1 : Unit → Option Int) : Nat → Nat → Option Int
  | 0, _ => none
  | k + 1, n2 =>
    if (decide ((n2 : Int) < (((x1).length : Nat) : Int))) then (
    chk ((n2 : Int) < (((x1).length : Nat) : Int)) <|
    (f125 ((x1.getD n2 (default : List UInt8 × List UInt8 × Int)).1) (64 : Int)).bind fun (r3 : Bool) =>
    optc ((!r3) == false) (f125 ((x1.getD n2 (default : List UInt8 × List UInt8 × Int)).2.1) (256 : Int)) fun (r4 : Bool) =>
    chk (((((((!r3) || (!r4)) || (decide ((x1.getD n2 (default : List UInt8 × List UInt8 × Int)).2.2 < (1 : Int)))) || (decide ((x1.getD n2 (default : List UInt8 × List UInt8 × Int)).2.2 > (1000000000000 : Int)))) == false) && ((decide ((n2 : Int) > (0 : Int))) == true)) = true → -9223372036854775808 ≤ ((n2 : Int) - (1 : Int)) ∧ ((n2 : Int) - (1 : Int)) ≤ 9223372036854775807) <|
    chk (((((((!r3) || (!r4)) || (decide ((x1.getD n2 (default : List UInt8 × List UInt8 × Int)).2.2 < (1 : Int)))) || (decide ((x1.getD n2 (default : List UInt8 × List UInt8 × Int)).2.2 > (1000000000000 : Int)))) == false) && ((decide ((n2 : Int) > (0 : Int))) == true)) = true → 0 ≤ ((n2 : Int) - (1 : Int)) ∧ ((n2 : Int) - (1 : Int)) < (((x1).length : Nat) : Int)) <|
    chk ((((((!r3) || (!r4)) || (decide ((x1.getD n2 (default : List UInt8 × List UInt8 × Int)).2.2 < (1 : Int)))) || (decide ((x1.getD n2 (default : List UInt8 × List UInt8 × Int)).2.2 > (1000000000000 : Int)))) == false) = true → (((((!r3) || (!r4)) || (decide ((x1.getD n2 (default : List UInt8 × List UInt8 × Int)).2.2 < (1 : Int)))) || (decide ((x1.getD n2 (default : List UInt8 × List UInt8 × Int)).2.2 > (1000000000000 : Int)))) == false) = true → (decide ((n2 : Int) > (0 : Int))) = true → ((((((!r3) || (!r4)) || (decide ((x1.getD n2 (default : List UInt8 × List UInt8 × Int)).2.2 < (1 : Int)))) || (decide ((x1.getD n2 (default : List UInt8 × List UInt8 × Int)).2.2 > (1000000000000 : Int)))) == false) && ((decide ((n2 : Int) > (0 : Int))) == true)) = true) <|
    if (((((!r3) || (!r4)) || (decide ((x1.getD n2 (default : List UInt8 × List UInt8 × Int)).2.2 < (1 : Int)))) || (decide ((x1.getD n2 (default : List UInt8 × List UInt8 × Int)).2.2 > (1000000000000 : Int)))) || ((decide ((n2 : Int) > (0 : Int))) && (!(Op.bytesLess ((x1.getD ((((n2 : Int) - (1 : Int))).toNat) (default : List UInt8 × List UInt8 × Int)).1) ((x1.getD n2 (default : List UInt8 × List UInt8 × Int)).1))))) then (
    some (1 : Int)
    ) else (
    chk (((n2 : Int) + (1 : Int)) ≤ 9223372036854775807) <|
    (f89_L0 x1 K1 k) (n2 + 1)
    )
    ) else (
    K1 ()
    )
theorem f89_L0_e2 (x1 : List (List UInt8 × List UInt8 × Int)) (K1 : Unit → Option Int) (k : Nat) (n2 : Nat) : f89_L0 x1 K1 (k + 1) n2 =
    if (decide ((n2 : Int) < (((x1).length : Nat) : Int))) then (
    chk ((n2 : Int) < (((x1).length : Nat) : Int)) <|
    (f125 ((x1.getD n2 (default : List UInt8 × List UInt8 × Int)).1) (64 : Int)).bind fun (r3 : Bool) =>
    optc ((!r3) == false) (f125 ((x1.getD n2 (default : List UInt8 × List UInt8 × Int)).2.1) (256 : Int)) fun (r4 : Bool) =>
    chk (((((((!r3) || (!r4)) || (decide ((x1.getD n2 (default : List UInt8 × List UInt8 × Int)).2.2 < (1 : Int)))) || (decide ((x1.getD n2 (default : List UInt8 × List UInt8 × Int)).2.2 > (1000000000000 : Int)))) == false) && ((decide ((n2 : Int) > (0 : Int))) == true)) = true → -9223372036854775808 ≤ ((n2 : Int) - (1 : Int)) ∧ ((n2 : Int) - (1 : Int)) ≤ 9223372036854775807) <|
    chk (((((((!r3) || (!r4)) || (decide ((x1.getD n2 (default : List UInt8 × List UInt8 × Int)).2.2 < (1 : Int)))) || (decide ((x1.getD n2 (default : List UInt8 × List UInt8 × Int)).2.2 > (1000000000000 : Int)))) == false) && ((decide ((n2 : Int) > (0 : Int))) == true)) = true → 0 ≤ ((n2 : Int) - (1 : Int)) ∧ ((n2 : Int) - (1 : Int)) < (((x1).length : Nat) : Int)) <|
    chk ((((((!r3) || (!r4)) || (decide ((x1.getD n2 (default : List UInt8 × List UInt8 × Int)).2.2 < (1 : Int)))) || (decide ((x1.getD n2 (default : List UInt8 × List UInt8 × Int)).2.2 > (1000000000000 : Int)))) == false) = true → (((((!r3) || (!r4)) || (decide ((x1.getD n2 (default : List UInt8 × List UInt8 × Int)).2.2 < (1 : Int)))) || (decide ((x1.getD n2 (default : List UInt8 × List UInt8 × Int)).2.2 > (1000000000000 : Int)))) == false) = true → (decide ((n2 : Int) > (0 : Int))) = true → ((((((!r3) || (!r4)) || (decide ((x1.getD n2 (default : List UInt8 × List UInt8 × Int)).2.2 < (1 : Int)))) || (decide ((x1.getD n2 (default : List UInt8 × List UInt8 × Int)).2.2 > (1000000000000 : Int)))) == false) && ((decide ((n2 : Int) > (0 : Int))) == true)) = true) <|
    if (((((!r3) || (!r4)) || (decide ((x1.getD n2 (default : List UInt8 × List UInt8 × Int)).2.2 < (1 : Int)))) || (decide ((x1.getD n2 (default : List UInt8 × List UInt8 × Int)).2.2 > (1000000000000 : Int)))) || ((decide ((n2 : Int) > (0 : Int))) && (!(Op.bytesLess ((x1.getD ((((n2 : Int) - (1 : Int))).toNat) (default : List UInt8 × List UInt8 × Int)).1) ((x1.getD n2 (default : List UInt8 × List UInt8 × Int)).1))))) then (
    some (1 : Int)
    ) else (
    chk (((n2 : Int) + (1 : Int)) ≤ 9223372036854775807) <|
    (f89_L0 x1 K1 k) (n2 + 1)
    )
    ) else (
    K1 ()
    ) := rfl
abbrev f89z0 (r3 : Bool) (r4 : Bool) (x1 : List (List UInt8 × List UInt8 × Int)) (n2 : Nat) := ((((!r3) || (!r4)) || (decide ((x1.getD n2 (default : List UInt8 × List UInt8 × Int)).2.2 < (1 : Int)))) || (decide ((x1.getD n2 (default : List UInt8 × List UInt8 × Int)).2.2 > (1000000000000 : Int))))
abbrev f89z1 (r3 : Bool) (r4 : Bool) (x1 : List (List UInt8 × List UInt8 × Int)) (n2 : Nat) := (((f89z0 r3 r4 x1 n2) == false) && ((decide ((n2 : Int) > (0 : Int))) == true))
abbrev f89z2 (x1 : List (List UInt8 × List UInt8 × Int)) (n2 : Nat) := (x1.getD n2 (default : List UInt8 × List UInt8 × Int))
abbrev f89z3 (r3 : Bool) (r4 : Bool) (x1 : List (List UInt8 × List UInt8 × Int)) (n2 : Nat) := ((((!r3) || (!r4)) || (decide ((f89z2 x1 n2).2.2 < (1 : Int)))) == false)
def f89 (x1 : List (List UInt8 × List UInt8 × Int)) : Option Int :=
  if (decide ((((x1).length : Nat) : Int) > (64 : Int))) then (
  some (3 : Int)
  ) else (
  jn (fun (_ : Unit) =>
  some (0 : Int)
  ) fun (K1 : Unit → Option Int) =>
  f89_L0 x1 K1 FUEL 0
  )
set_option maxRecDepth 100000 in
theorem f89_ok  (x1 : List (List UInt8 × List UInt8 × Int)) (r : Int) (h : f89 x1 = some r)  : Spec1 Tryz.prog 89 [] [] [] [vL 3 eSSI (default : List UInt8 × List UInt8 × Int) x1] (.int .i64 r) [] := by
  unfold f89 at h
  refine Spec1.body 0 _ _ Tryz.func89 rfl Tryz.ntmps89 rfl rfl ?_
  refine q1rq [] [] ⟨51, [(0, q1aSSI x1)], [], [], 0⟩ trivial ?_
  refine AWp.seq ?_
  refine q1rq [] [] ⟨51, [(0, q1aSSI x1), (7, .bool (decide ((lZ x1) > (64 : Int))))], [], [], 0⟩ trivial ?_
  refine AWp.cond (b := (decide ((lZ x1) > (64 : Int)))) (by kernel_rfl) (fun hc1 => ?_) (fun hc1 => ?_)
  ·
    replace h := ite_tb hc1 h
    refine q1rq [] [] ⟨51, [(2, .i (3 : Int))], [], [], 0⟩ trivial ?_
    have hret := Option.some.inj h
    subst hret
    refine AWp.ret ?_
    refine thenQ_ret ?_
    exact bodyQ_ret _ rfl ⟨rfl, rfl⟩ rfl
  ·
    replace h := ite_fb hc1 h
    refine AWp.skip ?_
    refine thenQ_normal ?_
    obtain ⟨K1, hK1, h⟩ := jn_some h
    refine AWp.join (α := Unit) (fun (x : Unit) => match x with | () => ⟨51, [], [], [], 0⟩) (fun x => K1 x = some r) ?_ ?_
    ·
      refine q1rq [] [] ⟨51, [(0, q1aSSI x1), (8, q1aSSI x1), (9, .i (lZ x1)), (10, .i (0 : Int))], [], [], 0⟩ trivial ?_
      refine AWp.block ?_
      refine AWp.loopL (α := Nat × Nat) (fun x => match x with | (_, n2) => ⟨51, [(0, q1aSSI x1), (8, q1aSSI x1), (9, .i (lZ x1)), (10, .i (n2 : Int))], [], [], 0⟩) (fun x => f89_L0 x1 K1 x.1 x.2 = some r) (fun x => x.1) (FUEL, 0) (Le.mk (s' := ⟨51, [(0, q1aSSI x1), (8, q1aSSI x1), (9, .i (lZ x1)), (10, .i (0 : Int))], [], [], 0⟩) rfl rfl ⟨.refl _, .refl _, .refl _, .refl _, trivial⟩ trivial) h ?_
      rintro ⟨k0, n2⟩ h
      cases k0 with
      | zero => exact nomatch (show (none : Option Int) = some r from h)
      | succ k0 =>
      obtain ⟨C0, hC0⟩ : ∃ C, C = f89_L0 x1 K1 k0 := ⟨_, rfl⟩
      replace h := (f89_L0_e2 ..).symm.trans h
      try rw [← hC0] at h
      refine q1rq [] [] ⟨51, [(0, q1aSSI x1), (8, q1aSSI x1), (9, .i (lZ x1)), (10, .i (n2 : Int)), (11, .bool (decide ((n2 : Int) < (lZ x1))))], [], [], 0⟩ trivial ?_
      refine AWp.seq ?_
      refine AWp.cond (b := (decide ((n2 : Int) < (lZ x1)))) (by kernel_rfl) (fun hc2 => ?_) (fun hc2 => ?_)
      ·
        replace h := ite_tb hc2 h
        refine AWp.skip ?_
        refine thenQ_normal ?_
        refine AWp.seq ?_
        refine AWp.block ?_
        refine AWp.seq ?_
        obtain ⟨ob0p, h⟩ := chk_some h
        have ob0 : 0 ≤ (n2 : Int) ∧ (n2 : Int) < (((x1).length : Nat) : Int) := ⟨by omega, ob0p⟩
        refine q1rr [] [] ⟨51, [(0, q1aSSI x1), (3, .i (n2 : Int)), (4, .ptr 4 0), (8, q1aSSI x1), (9, .i (lZ x1)), (10, .i (n2 : Int))], [(4, .cells 76 [.str (f89z2 x1 n2).1, .str (f89z2 x1 n2).2.1, .i (f89z2 x1 n2).2.2])], [], 0⟩ (an2 ob0 trivial) ?_
        refine thenQ_normal ?_
        refine AWp.seq ?_
        obtain ⟨r3, hr3, h⟩ := bind_ok h
        obtain ⟨r4, hr4, h⟩ := optc_some h
        have ob1 := idA (((!r3) == false) = true)
        have ob4 := bqA (!r3) false
        have ob5 := idA ((((!r3) || (!r4)) == false) = true)
        have ob7 := bqA ((!r3) || (!r4)) false
        have ob8 := idA ((f89z3 r3 r4 x1 n2) = true)
        have ob10 : true = true → (((!r3) || (!r4)) || (decide ((f89z2 x1 n2).2.2 < (1 : Int)))) = false → (f89z3 r3 r4 x1 n2) = true := fun _ h => beq_iff_eq.2 h
        have ob11 := idA (((f89z0 r3 r4 x1 n2) == false) = true)
        obtain ⟨ob13, h⟩ := chk_some h
        have ob14 := idA ((f89z1 r3 r4 x1 n2) = true)
        obtain ⟨ob15, h⟩ := chk_some h
        obtain ⟨ob23, h⟩ := chk_some h
        have ob25 := bqA (f89z0 r3 r4 x1 n2) false
        refine q1rr [] [(2, ⟨[.str (f89z2 x1 n2).1, .i (64 : Int)], [], [], [], .bool r3, [], [], []⟩), (7, ⟨[.str (f89z2 x1 n2).2.1, .i (256 : Int)], [], [], [], .bool r4, [], [], []⟩)] ⟨51, [(0, q1aSSI x1), (8, q1aSSI x1), (9, .i (lZ x1)), (10, .i (n2 : Int)), (49, .bool ((f89z0 r3 r4 x1 n2) || ((decide ((n2 : Int) > (0 : Int))) && (!(Op.bytesLess ((x1.getD ((((n2 : Int) - (1 : Int))).toNat) q1dSSI).1) ((f89z2 x1 n2).1))))))], [], [], 0⟩ (ac6 (cpT (f125_ok _ _ _ hr3)) (an1 ob1) (And.intro (cpC fun hc => (f125_ok _ _ _ (hr4 hc))) (an1 ob1)) (an1 ob1) ob4 (an1 ob5) (ac6 (an1 ob5) ob7 (an1 ob8) (an1 ob8) ob10 (an1 ob11) (ac6 (an1 ob11) (And.intro ob13 (an1 ob14)) (And.intro ob15 (an2 ob14 ob14)) (an1 ob14) (an1 ob14) (an1 ob14) (an3 (an2 ob14 ob14) (And.intro ob23 (an1 ob11)) ob25)))) ?_
        refine thenQ_normal ?_
        refine AWp.cond (b := ((f89z0 r3 r4 x1 n2) || ((decide ((n2 : Int) > (0 : Int))) && (!(Op.bytesLess ((x1.getD ((((n2 : Int) - (1 : Int))).toNat) q1dSSI).1) ((f89z2 x1 n2).1)))))) (by kernel_rfl) (fun hc3 => ?_) (fun hc3 => ?_)
        ·
          replace h := ite_tb hc3 h
          refine q1rq [] [] ⟨51, [(2, .i (1 : Int))], [], [], 0⟩ trivial ?_
          have hret := Option.some.inj h
          subst hret
          refine AWp.ret ?_
          refine blockQ_ret ?_
          refine thenQ_ret ?_
          refine thenQ_ret ?_
          refine blockQ_ret ?_
          refine joinQ_ret ?_
          exact bodyQ_ret _ rfl ⟨rfl, rfl⟩ rfl
        ·
          replace h := ite_fb hc3 h
          refine AWp.skip ?_
          refine blockQ_normal ?_
          refine thenQ_normal ?_
          obtain ⟨ob26p, h⟩ := chk_some h
          have ob26 : -9223372036854775808 ≤ ((n2 : Int) + (1 : Int)) ∧ ((n2 : Int) + (1 : Int)) ≤ 9223372036854775807 := ⟨by omega, ob26p⟩
          refine q1rr [] [] ⟨51, [(0, q1aSSI x1), (8, q1aSSI x1), (9, .i (lZ x1)), (10, .i (((n2 + 1) : Nat) : Int))], [], [], 0⟩ (an1 ob26) ?_
          rw [hC0] at h
          exact loopQ_normal (_, (n2 + 1)) (Le.mk rfl rfl ⟨.refl _, .refl _, .refl _, .refl _, trivial⟩ trivial) h (Nat.lt_succ_self _)
      ·
        replace h := ite_fb hc2 h
        refine AWp.exit ?_
        refine thenQ_exit ?_
        refine thenQ_exit ?_
        refine blockQ_same ?_
        exact joinQ_normal () (Le.mk rfl rfl trivial trivial) h
    ·
      rintro ⟨⟩ h
      replace h := (congrFun hK1 _).symm.trans h
      refine q1rq [] [] ⟨51, [(2, .i (0 : Int))], [], [], 0⟩ trivial ?_
      have hret := Option.some.inj h
      subst hret
      refine AWp.ret ?_
      exact bodyQ_ret _ rfl ⟨rfl, rfl⟩ rfl
abbrev f98z0 (x1 : List (List UInt8 × List UInt8 × Int)) : List V := [vL 3 eSSI (default : List UInt8 × List UInt8 × Int) x1]
def f98 (x1 : List (List UInt8 × List UInt8 × Int)) (x2 : Int) : Option ((List (List UInt8 × List UInt8 × Int)) × Int) :=
  if (decide (x2 < (1 : Int))) then (
  none
  ) else (
  some (x1, x2)
  )
set_option maxRecDepth 100000 in
theorem f98_ok  (x1 : List (List UInt8 × List UInt8 × Int)) (x2 : Int) (r : (List (List UInt8 × List UInt8 × Int)) × Int) (h : f98 x1 x2 = some r)  : Spec1 Tryz.prog 98 [] [] [] [vL 3 eSSI (default : List UInt8 × List UInt8 × Int) x1, .int .i64 x2] (.fn (.func 131) [.ptr 3500 0, .ptr 3501 0]) [(3500, .cells 27 [vL 3 eSSI (default : List UInt8 × List UInt8 × Int) r.1]), (3501, .cells 3 [.int .i64 r.2])] := by
  unfold f98 at h
  refine Spec1.body 0 _ _ Tryz.func98 rfl Tryz.ntmps98 rfl rfl ?_
  refine q1rq [] [] ⟨9, [(2, .ptr 2 0), (3, .ptr 3 0)], [(2, .cells 27 (f98z0 x1)), (3, .cells 3 [.i x2])], [], 0⟩ trivial ?_
  refine AWp.seq ?_
  refine q1rq [] [] ⟨9, [(2, .ptr 2 0), (3, .ptr 3 0), (6, .bool (decide (x2 < (1 : Int))))], [(2, .cells 27 (f98z0 x1)), (3, .cells 3 [.i x2])], [], 0⟩ trivial ?_
  refine AWp.cond (b := (decide (x2 < (1 : Int)))) (by kernel_rfl) (fun hc1 => ?_) (fun hc1 => ?_)
  ·
    replace h := ite_tb hc1 h
    exact nomatch (show (none : Option ((List (List UInt8 × List UInt8 × Int)) × Int)) = some r from h)
  ·
    replace h := ite_fb hc1 h
    refine AWp.skip ?_
    refine thenQ_normal ?_
    refine q1rq [] [] ⟨9, [(4, .fn (.func 131) [.ptr 2 0, .ptr 3 0])], [(2, .cells 27 (f98z0 x1)), (3, .cells 3 [.i x2])], [], 0⟩ trivial ?_
    refine AWp.le (Le.trans (Le.ren (swapN 2 3500) (swapN_inv 2 3500) rfl) (Le.mk (s' := ⟨9, [(4, .fn (.func 131) [.ptr 3500 0, .ptr 3 0])], [(3500, .cells 27 (f98z0 x1)), (3, .cells 3 [.i x2])], [], 0⟩) rfl rfl ⟨.refl _, trivial⟩ ⟨⟨_, rfl, .refl _⟩, ⟨_, rfl, .refl _⟩, trivial⟩)) ?_
    refine AWp.le (Le.trans (Le.ren (swapN 3 3501) (swapN_inv 3 3501) rfl) (Le.mk (s' := ⟨9, [(4, .fn (.func 131) [.ptr 3500 0, .ptr 3501 0])], [(3500, .cells 27 (f98z0 x1)), (3501, .cells 3 [.i x2])], [], 0⟩) rfl rfl ⟨.refl _, trivial⟩ ⟨⟨_, rfl, .refl _⟩, ⟨_, rfl, .refl _⟩, trivial⟩)) ?_
    have hret := Option.some.inj h
    subst hret
    refine AWp.le (Le.mk (s' := ⟨9, [(4, .fn (.func 131) [.ptr 3500 0, .ptr 3501 0])], [(3500, .cells 27 (f98z0 x1)), (3501, .cells 3 [.i x2])], [], 0⟩) rfl rfl ⟨.refl _, trivial⟩ ⟨⟨_, rfl, .refl _⟩, ⟨_, rfl, .refl _⟩, trivial⟩) ?_
    refine AWp.ret ?_
    exact bodyQ_ret _ rfl ⟨rfl, rfl⟩ rfl
def f99 (x1 : List UInt8) (x2 : List UInt8) (x3 : Int) : Option (List UInt8) :=
  (f56 x3).bind fun (r4 : List UInt8) =>
  chk (x1.length + ([32] : List UInt8).length ≤ 9223372036854775807) <|
  chk ((x1 ++ ([32] : List UInt8)).length + r4.length ≤ 9223372036854775807) <|
  chk (((x1 ++ ([32] : List UInt8)) ++ r4).length + ([32] : List UInt8).length ≤ 9223372036854775807) <|
  chk ((((x1 ++ ([32] : List UInt8)) ++ r4) ++ ([32] : List UInt8)).length + x2.length ≤ 9223372036854775807) <|
  chk (((((x1 ++ ([32] : List UInt8)) ++ r4) ++ ([32] : List UInt8)) ++ x2).length + ([10] : List UInt8).length ≤ 9223372036854775807) <|
  some (((((x1 ++ ([32] : List UInt8)) ++ r4) ++ ([32] : List UInt8)) ++ x2) ++ ([10] : List UInt8))
set_option maxRecDepth 100000 in
theorem f99_ok  (x1 : List UInt8) (x2 : List UInt8) (x3 : Int) (r : List UInt8) (h : f99 x1 x2 x3 = some r)  : Spec1 Tryz.prog 99 [(1, .tab .u64 Lib.pow10Tab)] [] [] [.agg [.str x1, .str x2, .int .i64 x3]] (.str r) [] := by
  unfold f99 at h
  refine Spec1.body 0 _ _ Tryz.func99 rfl Tryz.ntmps99 rfl rfl ?_
  refine q1rq [] [] ⟨15, [(1, .ptr 1 0), (1000001, .tab .u64 Lib.pow10Tab)], [(1, .cells 76 [.str x1, .str x2, .i x3])], [], 0⟩ trivial ?_
  refine AWp.seq ?_
  obtain ⟨r4, hr4, h⟩ := bind_ok h
  obtain ⟨ob0, ob1, ob2, ob3, ob4, h⟩ := ck5 h
  refine q1rr [] [(5, ⟨[.i x3], [], [], [], .str r4, [], [], [1]⟩)] ⟨15, [(2, .str (((((x1 ++ ([32] : List UInt8)) ++ r4) ++ ([32] : List UInt8)) ++ x2) ++ ([10] : List UInt8))), (1000001, .tab .u64 Lib.pow10Tab)], [], [], 0⟩ (an6 ob0 (cpT (f56_ok _ _ hr4)) ob1 ob2 ob3 ob4) ?_
  refine thenQ_normal ?_
  have hret := Option.some.inj h
  subst hret
  refine AWp.le (Le.mk (s' := ⟨15, [(2, .str (((((x1 ++ ([32] : List UInt8)) ++ r4) ++ ([32] : List UInt8)) ++ x2) ++ ([10] : List UInt8)))], [], [], 0⟩) rfl rfl ⟨.refl _, trivial⟩ trivial) ?_
  refine AWp.ret ?_
  exact bodyQ_ret _ rfl ⟨rfl, rfl⟩ rfl
def f131_L0 (Y70001 : ((List (List UInt8 × List UInt8 × Int)) × Int × List (List UInt8)) → (List (List UInt8 × List UInt8 × Int)) → Option (Nat × ((List (List UInt8 × List UInt8 × Int)) × Int × List (List UInt8)))) : Nat → (Int × Int × (List (List UInt8 × List UInt8 × Int)) × List (List UInt8) × Nat) → Option (Nat × (List (List UInt8 × List UInt8 × Int)) × Int × List (List UInt8))
  | 0, _ => none
  | k + 1, (i4, i5, l6, l7, n8) =>
    if (decide (i4 < (((l6).length : Nat) : Int))) then (
    jn (fun ((i10, l11, l12, n13) : Int × (List (List UInt8 × List UInt8 × Int)) × List (List UInt8) × Nat) =>
    chk (-9223372036854775808 ≤ (i4 + i10) ∧ (i4 + i10) ≤ 9223372036854775807) <|
    (f131_L0 Y70001 k) ((i4 + i10), i10, l11, l12, n13)
    ) fun (K1 : (Int × (List (List UInt8 × List UInt8 × Int)) × List (List UInt8) × Nat) → Option (Nat × (List (List UInt8 × List UInt8 × Int)) × Int × List (List UInt8))) =>
    chk (0 ≤ i4 ∧ i4 ≤ (((l6).length : Nat) : Int)) <|
    chk (n8 = 0) <|
    (Y70001 (l6, i5, l7) ((l6.take (((i4 + (min i5 ((((l6).length - (i4).toNat) : Nat) : Int)))).toNat)).drop ((i4).toNat))).bind fun (r9 : Nat × ((List (List UInt8 × List UInt8 × Int)) × Int × List (List UInt8))) =>
    if r9.1 = 0 then (
    chk (-9223372036854775808 ≤ (i4 + (min i5 ((((l6).length - (i4).toNat) : Nat) : Int))) ∧ (i4 + (min i5 ((((l6).length - (i4).toNat) : Nat) : Int))) ≤ 9223372036854775807) <|
    chk (-9223372036854775808 ≤ (i4 + (min i5 ((((l6).length - (i4).toNat) : Nat) : Int))) ∧ (i4 + (min i5 ((((l6).length - (i4).toNat) : Nat) : Int))) ≤ 9223372036854775807) <|
    chk (0 ≤ i4 ∧ i4 ≤ (i4 + (min i5 ((((l6).length - (i4).toNat) : Nat) : Int))) ∧ (i4 + (min i5 ((((l6).length - (i4).toNat) : Nat) : Int))) ≤ (i4 + (min i5 ((((l6).length - (i4).toNat) : Nat) : Int))) ∧ (i4 + (min i5 ((((l6).length - (i4).toNat) : Nat) : Int))) ≤ (((l6).length : Nat) : Int)) <|
    if (!true) then (
    some (0, r9.2.1, r9.2.2.1, r9.2.2.2)
    ) else (
    K1 (r9.2.2.1, r9.2.1, r9.2.2.2, 0)
    )
    ) else (
    chk (-9223372036854775808 ≤ (i4 + (min i5 ((((l6).length - (i4).toNat) : Nat) : Int))) ∧ (i4 + (min i5 ((((l6).length - (i4).toNat) : Nat) : Int))) ≤ 9223372036854775807) <|
    chk (-9223372036854775808 ≤ (i4 + (min i5 ((((l6).length - (i4).toNat) : Nat) : Int))) ∧ (i4 + (min i5 ((((l6).length - (i4).toNat) : Nat) : Int))) ≤ 9223372036854775807) <|
    chk (0 ≤ i4 ∧ i4 ≤ (i4 + (min i5 ((((l6).length - (i4).toNat) : Nat) : Int))) ∧ (i4 + (min i5 ((((l6).length - (i4).toNat) : Nat) : Int))) ≤ (i4 + (min i5 ((((l6).length - (i4).toNat) : Nat) : Int))) ∧ (i4 + (min i5 ((((l6).length - (i4).toNat) : Nat) : Int))) ≤ (((l6).length : Nat) : Int)) <|
    if (!false) then (
    some (r9.1, r9.2.1, r9.2.2.1, r9.2.2.2)
    ) else (
    K1 (r9.2.2.1, r9.2.1, r9.2.2.2, r9.1)
    )
    )
    ) else (
    some (n8, l6, i5, l7)
    )
abbrev f131z0 (l6 : List (List UInt8 × List UInt8 × Int)) (i4 : Int) (i5 : Int) : List V := [vL 3 eSSI (default : List UInt8 × List UInt8 × Int) ((l6.take (((i4 + (min i5 ((((l6).length - (i4).toNat) : Nat) : Int)))).toNat)).drop ((i4).toNat))]
abbrev f131z1 (r9 : Nat × ((List (List UInt8 × List UInt8 × Int)) × Int × List (List UInt8))) : List V := [vL 3 eSSI (default : List UInt8 × List UInt8 × Int) r9.2.1]
abbrev f131z2 (r9 : Nat × ((List (List UInt8 × List UInt8 × Int)) × Int × List (List UInt8))) : Heap := [(7, .cells 48 [.own 6200]), (6001, .cells 27 (f131z1 r9)), (6002, .cells 3 [.int .i64 r9.2.2.1]), (6200, bL 9 1 eS [] r9.2.2.2)]
abbrev f131z3 (l6 : List (List UInt8 × List UInt8 × Int)) (i5 : Int) (l7 : List (List UInt8)) (C70001 : YC) (n8 : Nat) : Heap := [(7, .cells 48 [.own 6200]), (6001, .cells 27 [vL 3 eSSI (default : List UInt8 × List UInt8 × Int) l6]), (6002, .cells 3 [.int .i64 i5]), (6200, bL 9 1 eS [] l7), (70001, .yld (some ([7], C70001)) n8)]
abbrev f131z4 (l11 : List (List UInt8 × List UInt8 × Int)) (i10 : Int) (l12 : List (List UInt8)) (C70001 : YC) (n13 : Nat) : Heap := [(7, .cells 48 [.own 6200]), (6001, .cells 27 [vL 3 eSSI (default : List UInt8 × List UInt8 × Int) l11]), (6002, .cells 3 [.int .i64 i10]), (6200, bL 9 1 eS [] l12), (70001, .yld (some ([7], C70001)) n13)]
abbrev f131z5 (C70001 : YC) (r9 : Nat × ((List (List UInt8 × List UInt8 × Int)) × Int × List (List UInt8))) : Heap := [(70001, .yld (some ([7], C70001)) r9.1), (7, .cells 48 [.own 6200]), (6001, .cells 27 (f131z1 r9)), (6002, .cells 3 [.int .i64 r9.2.2.1]), (6200, bL 9 1 eS [] r9.2.2.2)]
abbrev f131z6 (C70001 : YC) (r9 : Nat × ((List (List UInt8 × List UInt8 × Int)) × Int × List (List UInt8))) : Heap := [(70001, .yld (some ([7], C70001)) 0), (7, .cells 48 [.own 6200]), (6001, .cells 27 (f131z1 r9)), (6002, .cells 3 [.int .i64 r9.2.2.1]), (6200, bL 9 1 eS [] r9.2.2.2)]
abbrev f131z7 (i4 : Int) : List (Nat × V) := [(0, .own 70001), (1, .ptr 6001 0), (2, .ptr 6002 0), (4, .int .i64 i4)]
abbrev f131z8 (l6 : List (List UInt8 × List UInt8 × Int)) : List V := [vL 3 eSSI (default : List UInt8 × List UInt8 × Int) l6]
def f131 (Y70001 : ((List (List UInt8 × List UInt8 × Int)) × Int × List (List UInt8)) → (List (List UInt8 × List UInt8 × Int)) → Option (Nat × ((List (List UInt8 × List UInt8 × Int)) × Int × List (List UInt8)))) (x1 : List (List UInt8 × List UInt8 × Int)) (x2 : Int) (x3 : List (List UInt8)) : Option (Nat × (List (List UInt8 × List UInt8 × Int)) × Int × List (List UInt8)) :=
  f131_L0 Y70001 FUEL ((0 : Int), x2, x1, x3, 0)
set_option maxRecDepth 100000 in
theorem f131_ok (C70001 : YC) (Y70001 : ((List (List UInt8 × List UInt8 × Int)) × Int × List (List UInt8)) → (List (List UInt8 × List UInt8 × Int)) → Option (Nat × ((List (List UInt8 × List UInt8 × Int)) × Int × List (List UInt8)))) (x1 : List (List UInt8 × List UInt8 × Int)) (x2 : Int) (x3 : List (List UInt8)) (r : Nat × (List (List UInt8 × List UInt8 × Int)) × Int × List (List UInt8)) (h : f131 Y70001 x1 x2 x3 = some r) (hY70001 : ∀ s x r, Y70001 s x = some r → YSpec Tryz.prog 70001 [7] C70001 [7, 6001, 6002] [(7, .cells 48 [.own 6200]), (6001, .cells 27 [vL 3 eSSI (default : List UInt8 × List UInt8 × Int) s.1]), (6002, .cells 3 [.int .i64 s.2.1]), (6200, bL 9 1 eS [] s.2.2)] [vL 3 eSSI (default : List UInt8 × List UInt8 × Int) x] r.1 [(7, .cells 48 [.own 6200]), (6001, .cells 27 [vL 3 eSSI (default : List UInt8 × List UInt8 × Int) r.2.1]), (6002, .cells 3 [.int .i64 r.2.2.1]), (6200, bL 9 1 eS [] r.2.2.2)]) : Spec1 Tryz.prog 131 [] [70001, 7, 6001, 6002] [(70001, .yld (some ([7], C70001)) 0), (7, .cells 48 [.own 6200]), (6001, .cells 27 [vL 3 eSSI (default : List UInt8 × List UInt8 × Int) x1]), (6002, .cells 3 [.int .i64 x2]), (6200, bL 9 1 eS [] x3)] [.own 70001, .ptr 6001 0, .ptr 6002 0] (.tup []) [(70001, .yld (some ([7], C70001)) r.1), (7, .cells 48 [.own 6200]), (6001, .cells 27 [vL 3 eSSI (default : List UInt8 × List UInt8 × Int) r.2.1]), (6002, .cells 3 [.int .i64 r.2.2.1]), (6200, bL 9 1 eS [] r.2.2.2)] := by
  unfold f131 at h
  refine Spec1.body 10000 _ _ Tryz.func131 rfl Tryz.ntmps131 rfl rfl ?_
  refine q1rq [] [] ⟨31, [(0, .own 70001), (1, .ptr 6001 0), (2, .ptr 6002 0), (4, .i (0 : Int))], [(7, .cells 48 [.own 6200]), (6001, .cells 27 [q1aSSI x1]), (6002, .cells 3 [.i x2]), (6200, q1bS_9 x3), (70001, .yld (some ([7], C70001)) 0)], [70001, 7, 6001, 6002], 10000⟩ trivial ?_
  refine AWp.block ?_
  refine AWp.loopL (α := Nat × (Int × Int × (List (List UInt8 × List UInt8 × Int)) × List (List UInt8) × Nat)) (fun x => match x with | (_, i4, i5, l6, l7, n8) => ⟨31, (f131z7 i4), (f131z3 l6 i5 l7 C70001 n8), [70001, 7, 6001, 6002], 10000⟩) (fun x => f131_L0 Y70001 x.1 x.2 = some r) (fun x => x.1) (FUEL, (0 : Int), x2, x1, x3, 0) (Le.mk (s' := ⟨31, [(0, .own 70001), (1, .ptr 6001 0), (2, .ptr 6002 0), (4, .i (0 : Int))], [(7, .cells 48 [.own 6200]), (6001, .cells 27 [q1aSSI x1]), (6002, .cells 3 [.i x2]), (6200, q1bS_9 x3), (70001, .yld (some ([7], C70001)) 0)], [70001, 7, 6001, 6002], 10000⟩) rfl rfl ⟨.refl _, .refl _, .refl _, .refl _, trivial⟩ ⟨⟨_, rfl, .refl _⟩, ⟨_, rfl, .refl _⟩, ⟨_, rfl, .refl _⟩, ⟨_, rfl, .refl _⟩, ⟨_, rfl, .refl _⟩, trivial⟩) h ?_
  rintro ⟨k0, i4, i5, l6, l7, n8⟩ h
  cases k0 with
  | zero => exact nomatch (show (none : Option (Nat × (List (List UInt8 × List UInt8 × Int)) × Int × List (List UInt8))) = some r from h)
  | succ k0 =>
  obtain ⟨C0, hC0⟩ : ∃ C, C = f131_L0 Y70001 k0 := ⟨_, rfl⟩
  replace h := (f131_L0.eq_2 ..).symm.trans h
  try rw [← hC0] at h
  refine AWp.seq ?_
  refine q1rq [] [] ⟨31, [(0, .own 70001), (1, .ptr 6001 0), (2, .ptr 6002 0), (4, .i i4), (9, .bool (decide (i4 < (lZ l6))))], (f131z3 l6 i5 l7 C70001 n8), [70001, 7, 6001, 6002], 10000⟩ trivial ?_
  refine AWp.cond (b := (decide (i4 < (lZ l6)))) (by kernel_rfl) (fun hc1 => ?_) (fun hc1 => ?_)
  ·
    replace h := ite_tb hc1 h
    refine AWp.skip ?_
    refine thenQ_normal ?_
    obtain ⟨K1, hK1, h⟩ := jn_some h
    refine AWp.join (α := Int × (List (List UInt8 × List UInt8 × Int)) × List (List UInt8) × Nat) (fun (x : Int × (List (List UInt8 × List UInt8 × Int)) × List (List UInt8) × Nat) => match x with | (i10, l11, l12, n13) => ⟨31, (f131z7 i4), (f131z4 l11 i10 l12 C70001 n13), [70001, 7, 6001, 6002], 10000⟩) (fun x => K1 x = some r) ?_ ?_
    ·
      refine AWp.block ?_
      refine AWp.seq ?_
      obtain ⟨ob0, h⟩ := chk_some h
      refine q1rr [] [] ⟨31, [(0, .own 70001), (1, .ptr 6001 0), (2, .ptr 6002 0), (4, .i i4), (5, .i (min i5 ((((l6).length - (i4).toNat) : Nat) : Int)))], (f131z3 l6 i5 l7 C70001 n8), [70001, 7, 6001, 6002], 10000⟩ (an1 ob0) ?_
      refine thenQ_normal ?_
      refine AWp.seq ?_
      obtain ⟨hz2, h⟩ := chk_some h
      refine AWp.le (Le.mk (s' := ⟨31, [(0, .own 70001), (1, .ptr 6001 0), (2, .ptr 6002 0), (4, .i i4), (5, .i (min i5 ((((l6).length - (i4).toNat) : Nat) : Int)))], [(7, .cells 48 [.own 6200]), (6001, .cells 27 (f131z8 l6)), (6002, .cells 3 [.i i5]), (6200, q1bS_9 l7), (70001, .yld (some ([7], C70001)) 0)], [70001, 7, 6001, 6002], 10000⟩) rfl rfl ⟨.refl _, .refl _, .refl _, .refl _, .refl _, trivial⟩ ⟨⟨_, rfl, .refl _⟩, ⟨_, rfl, .refl _⟩, ⟨_, rfl, .refl _⟩, ⟨_, rfl, .refl _⟩, ⟨_, rfl, BLe.yldEq hz2⟩, trivial⟩) ?_
      obtain ⟨r9, hr9, h⟩ := bind_ok h
      by_cases hy_r9 : r9.1 = 0
      ·
        replace h := ite_t hy_r9 h
        obtain ⟨ob1, ob2, ob3, h⟩ := ck3 h
        refine q1rr [] [(10, ⟨(f131z0 l6 i4 i5), [70001, 7, 6001, 6002, 6200], [7, 6001, 6002], (f131z6 C70001 r9), .bool true, [6200], [], []⟩)] ⟨31, [(0, .own 70001), (1, .ptr 6001 0), (2, .ptr 6002 0), (4, .i i4), (30, .bool (!true))], [(7, .cells 48 [.own 6200]), (6001, .cells 27 (f131z1 r9)), (6002, .cells 3 [.i r9.2.2.1]), (6200, q1bS_9 r9.2.2.2), (70001, .yld (some ([7], C70001)) 0)], [70001, 7, 6001, 6002], 10000⟩ (an4 ob1 ob2 ob3 (show (((f131z6 C70001 r9) : Heap) = (70001, .yld (some ([7], C70001)) 0) :: (f131z2 r9) ∧ V.bool true = V.bool (0 == 0) ∧ YSpec Tryz.prog 70001 [7] C70001 [7, 6001, 6002] [(7, .cells 48 [.own 6200]), (6001, .cells 27 (f131z8 l6)), (6002, .cells 3 [.i i5]), (6200, q1bS_9 l7)] (f131z0 l6 i4 i5) 0 (f131z2 r9) ∧ VLes [.arr 3 (((i4 + (min i5 ((((l6).length - (i4).toNat) : Nat) : Int)))).toNat - (i4).toNat) (fun i j => (encF eSSI q1dSSI l6) (i + ((i4).toNat)) j)] (f131z0 l6 i4 i5)) from ⟨rfl, rfl, (YSpec.zero (hY70001 _ _ r9 hr9) hy_r9), ⟨(VLe.subL (by first | omega | (simp only [List.length_append, List.length_cons, List.length_nil, List.length_take, List.length_drop] at *; omega) | (simp; done) | (simp_all; done) | (simp_all; omega) | rfl)), trivial⟩⟩)) ?_
        refine thenQ_normal ?_
        refine AWp.cond (b := (!true)) (by kernel_rfl) (fun hc4 => ?_) (fun hc4 => ?_)
        ·
          replace h := ite_tb hc4 h
          have hret := Option.some.inj h
          subst hret
          refine AWp.le (Le.mk (s' := ⟨31, [], (f131z6 C70001 r9), [70001, 7, 6001, 6002], 10000⟩) rfl rfl trivial ⟨⟨_, rfl, .refl _⟩, ⟨_, rfl, .refl _⟩, ⟨_, rfl, .refl _⟩, ⟨_, rfl, .refl _⟩, ⟨_, rfl, .refl _⟩, trivial⟩) ?_
          refine AWp.ret ?_
          refine blockQ_ret ?_
          refine joinQ_ret ?_
          refine thenQ_ret ?_
          refine blockQ_ret ?_
          exact bodyQ_ret _ rfl ⟨rfl, rfl⟩ rfl
        ·
          replace h := ite_fb hc4 h
          refine AWp.skip ?_
          refine blockQ_normal ?_
          exact joinQ_normal (r9.2.2.1, r9.2.1, r9.2.2.2, 0) (Le.mk rfl rfl ⟨.refl _, .refl _, .refl _, .refl _, trivial⟩ ⟨⟨_, rfl, .refl _⟩, ⟨_, rfl, .refl _⟩, ⟨_, rfl, .refl _⟩, ⟨_, rfl, .refl _⟩, ⟨_, rfl, .refl _⟩, trivial⟩) h
      ·
        replace h := ite_f hy_r9 h
        obtain ⟨ob1, ob2, ob3, h⟩ := ck3 h
        refine q1rr [] [(10, ⟨(f131z0 l6 i4 i5), [70001, 7, 6001, 6002, 6200], [7, 6001, 6002], (f131z5 C70001 r9), .bool false, [6200], [], []⟩)] ⟨31, [(0, .own 70001), (1, .ptr 6001 0), (2, .ptr 6002 0), (4, .i i4), (30, .bool (!false))], [(7, .cells 48 [.own 6200]), (6001, .cells 27 (f131z1 r9)), (6002, .cells 3 [.i r9.2.2.1]), (6200, q1bS_9 r9.2.2.2), (70001, .yld (some ([7], C70001)) r9.1)], [70001, 7, 6001, 6002], 10000⟩ (an4 ob1 ob2 ob3 (show (((f131z5 C70001 r9) : Heap) = (70001, .yld (some ([7], C70001)) r9.1) :: (f131z2 r9) ∧ V.bool false = V.bool (r9.1 == 0) ∧ YSpec Tryz.prog 70001 [7] C70001 [7, 6001, 6002] [(7, .cells 48 [.own 6200]), (6001, .cells 27 (f131z8 l6)), (6002, .cells 3 [.i i5]), (6200, q1bS_9 l7)] (f131z0 l6 i4 i5) r9.1 (f131z2 r9) ∧ VLes [.arr 3 (((i4 + (min i5 ((((l6).length - (i4).toNat) : Nat) : Int)))).toNat - (i4).toNat) (fun i j => (encF eSSI q1dSSI l6) (i + ((i4).toNat)) j)] (f131z0 l6 i4 i5)) from ⟨rfl, bool_ne hy_r9, (hY70001 _ _ r9 hr9), ⟨(VLe.subL (by first | omega | (simp only [List.length_append, List.length_cons, List.length_nil, List.length_take, List.length_drop] at *; omega) | (simp; done) | (simp_all; done) | (simp_all; omega) | rfl)), trivial⟩⟩)) ?_
        refine thenQ_normal ?_
        refine AWp.cond (b := (!false)) (by kernel_rfl) (fun hc5 => ?_) (fun hc5 => ?_)
        ·
          replace h := ite_tb hc5 h
          have hret := Option.some.inj h
          subst hret
          refine AWp.le (Le.mk (s' := ⟨31, [], (f131z5 C70001 r9), [70001, 7, 6001, 6002], 10000⟩) rfl rfl trivial ⟨⟨_, rfl, .refl _⟩, ⟨_, rfl, .refl _⟩, ⟨_, rfl, .refl _⟩, ⟨_, rfl, .refl _⟩, ⟨_, rfl, .refl _⟩, trivial⟩) ?_
          refine AWp.ret ?_
          refine blockQ_ret ?_
          refine joinQ_ret ?_
          refine thenQ_ret ?_
          refine blockQ_ret ?_
          exact bodyQ_ret _ rfl ⟨rfl, rfl⟩ rfl
        ·
          replace h := ite_fb hc5 h
          refine AWp.skip ?_
          refine blockQ_normal ?_
          exact joinQ_normal (r9.2.2.1, r9.2.1, r9.2.2.2, r9.1) (Le.mk rfl rfl ⟨.refl _, .refl _, .refl _, .refl _, trivial⟩ ⟨⟨_, rfl, .refl _⟩, ⟨_, rfl, .refl _⟩, ⟨_, rfl, .refl _⟩, ⟨_, rfl, .refl _⟩, ⟨_, rfl, .refl _⟩, trivial⟩) h
    ·
      rintro ⟨i10, l11, l12, n13⟩ h
      replace h := (congrFun hK1 _).symm.trans h
      obtain ⟨ob4, h⟩ := chk_some h
      refine q1rr [] [] ⟨31, [(0, .own 70001), (1, .ptr 6001 0), (2, .ptr 6002 0), (4, .i (i4 + i10))], (f131z4 l11 i10 l12 C70001 n13), [70001, 7, 6001, 6002], 10000⟩ (an1 ob4) ?_
      rw [hC0] at h
      exact loopQ_normal (_, (i4 + i10), i10, l11, l12, n13) (Le.mk rfl rfl ⟨.refl _, .refl _, .refl _, .refl _, trivial⟩ ⟨⟨_, rfl, .refl _⟩, ⟨_, rfl, .refl _⟩, ⟨_, rfl, .refl _⟩, ⟨_, rfl, .refl _⟩, ⟨_, rfl, .refl _⟩, trivial⟩) h (Nat.lt_succ_self _)
  ·
    replace h := ite_fb hc1 h
    refine AWp.exit ?_
    refine thenQ_exit ?_
    refine thenQ_exit ?_
    refine blockQ_same ?_
    have hret := Option.some.inj h
    subst hret
    exact bodyQ_le (Le.mk (s' := ⟨31, [], [(70001, .yld (some ([7], C70001)) n8), (7, .cells 48 [.own 6200]), (6001, .cells 27 (f131z8 l6)), (6002, .cells 3 [.i i5]), (6200, q1bS_9 l7)], [70001, 7, 6001, 6002], 10000⟩) rfl rfl trivial ⟨⟨_, rfl, .refl _⟩, ⟨_, rfl, .refl _⟩, ⟨_, rfl, .refl _⟩, ⟨_, rfl, .refl _⟩, ⟨_, rfl, .refl _⟩, trivial⟩) (bodyQ_normal _ rfl ⟨rfl, rfl⟩ rfl)
def f57_L0 (x8 : List (List UInt8 × List UInt8 × Int)) (K1 : (List UInt8) → Option (Nat × ((List (List UInt8 × List UInt8 × Int)) × Int × List (List UInt8)))) : Nat → (List UInt8 × Nat) → Option (Nat × ((List (List UInt8 × List UInt8 × Int)) × Int × List (List UInt8)))
  | 0, _ => none
  | k + 1, (s9, n10) =>
    if (decide ((n10 : Int) < (((x8).length : Nat) : Int))) then (
    chk ((n10 : Int) < (((x8).length : Nat) : Int)) <|
    (f99 ((x8.getD n10 (default : List UInt8 × List UInt8 × Int)).1) ((x8.getD n10 (default : List UInt8 × List UInt8 × Int)).2.1) ((x8.getD n10 (default : List UInt8 × List UInt8 × Int)).2.2)).bind fun (r11 : List UInt8) =>
    chk (s9.length + r11.length ≤ 9223372036854775807) <|
    chk (((n10 : Int) + (1 : Int)) ≤ 9223372036854775807) <|
    (f57_L0 x8 K1 k) ((s9 ++ r11), (n10 + 1))
    ) else (
    K1 s9
    )
def f57_Y70001 : ((List (List UInt8 × List UInt8 × Int)) × Int × List (List UInt8)) → (List (List UInt8 × List UInt8 × Int)) → Option (Nat × ((List (List UInt8 × List UInt8 × Int)) × Int × List (List UInt8)))
  | (l6, i5, l7), x8 =>
    jn (fun (s12 : List UInt8) =>
    chk (((l7).length + 1) * 16 ≤ 140737488355328) <|
    some (0, (l6, i5, (l7 ++ [s12])))
    ) fun (K1 : (List UInt8) → Option (Nat × ((List (List UInt8 × List UInt8 × Int)) × Int × List (List UInt8)))) =>
    f57_L0 x8 K1 FUEL ([], 0)
abbrev f57z0 (l6 : List (List UInt8 × List UInt8 × Int)) (i5 : Int) (l7 : List (List UInt8)) : Heap := [(7, .cells 48 [.own 6200]), (6001, .cells 27 [vL 3 eSSI (default : List UInt8 × List UInt8 × Int) l6]), (6002, .cells 3 [.int .i64 i5]), (6200, bL 9 1 eS [] l7)]
abbrev f57z1 (r4 : (List (List UInt8 × List UInt8 × Int)) × Int) : Heap := [(7, .cells 48 [.own 6200]), (6001, .cells 27 [vL 3 eSSI (default : List UInt8 × List UInt8 × Int) r4.1]), (6002, .cells 3 [.int .i64 r4.2]), (6200, bL 9 1 eS [] [])]
abbrev f57z2 (x8 : List (List UInt8 × List UInt8 × Int)) (n10 : Nat) := (x8.getD n10 (default : List UInt8 × List UInt8 × Int))
abbrev f57z3 : List V := [.ptr 6001 0, .ptr 6002 0]
abbrev f57z4 (l6 : List (List UInt8 × List UInt8 × Int)) : List V := [vL 3 eSSI (default : List UInt8 × List UInt8 × Int) l6]
def f57 (x1 : List (List UInt8 × List UInt8 × Int)) (x2 : Int) : Option (Int × List (List UInt8)) :=
  (f89 x1).bind fun (r3 : Int) =>
  if (r3 != (0 : Int)) then (
  some (r3, [])
  ) else (
  if ((decide (x2 < (1 : Int))) || (decide (x2 > (64 : Int)))) then (
  some ((7 : Int), [])
  ) else (
  (f98 x1 x2).bind fun (r4 : (List (List UInt8 × List UInt8 × Int)) × Int) =>
  (f131 f57_Y70001 r4.1 r4.2 []).bind fun (r13 : Nat × (List (List UInt8 × List UInt8 × Int)) × Int × List (List UInt8)) =>
  chk (r13.1 ≠ 1) <|
  if r13.1 = 0 then (
  some ((0 : Int), r13.2.2.2)
  ) else (
  none
  )
  )
  )
set_option maxRecDepth 100000 in
theorem f57_ok  (x1 : List (List UInt8 × List UInt8 × Int)) (x2 : Int) (r : Int × List (List UInt8)) (h : f57 x1 x2 = some r)  : Spec1 Tryz.prog 57 [(1, .tab .u64 Lib.pow10Tab)] [] [] [vL 3 eSSI (default : List UInt8 × List UInt8 × Int) x1, .int .i64 x2] (.tup [.own 3000, .int .i64 r.1]) [(3000, bL 9 1 eS [] r.2)] := by
  unfold f57 at h
  refine Spec1.body 0 _ _ Tryz.func57 rfl Tryz.ntmps57 rfl rfl ?_
  refine q1rq [] [] ⟨43, [(0, q1aSSI x1), (1, .i x2), (1000001, .tab .u64 Lib.pow10Tab)], [], [], 0⟩ trivial ?_
  refine AWp.seq ?_
  refine AWp.seq ?_
  obtain ⟨r3, hr3, h⟩ := bind_ok h
  refine q1rr [] [(1, ⟨[q1aSSI x1], [], [], [], .i r3, [], [], []⟩)] ⟨43, [(0, q1aSSI x1), (1, .i x2), (6, .i r3), (1000001, .tab .u64 Lib.pow10Tab)], [], [], 0⟩ (an1 (cpT (f89_ok _ _ hr3))) ?_
  refine thenQ_normal ?_
  refine q1rq [] [] ⟨43, [(0, q1aSSI x1), (1, .i x2), (6, .i r3), (15, .bool (r3 != (0 : Int))), (1000001, .tab .u64 Lib.pow10Tab)], [], [], 0⟩ trivial ?_
  refine AWp.cond (b := (r3 != (0 : Int))) (by kernel_rfl) (fun hc1 => ?_) (fun hc1 => ?_)
  ·
    replace h := ite_tb hc1 h
    refine q1rq [] [] ⟨43, [(4, .nils), (5, .i r3), (1000001, .tab .u64 Lib.pow10Tab)], [], [], 0⟩ trivial ?_
    refine AWp.le (Le.trans (Le.nilOwn 4 3000 9 1 (encF eS [] []) rfl rfl (Nat.le_of_ble_eq_true rfl)) (Le.mk (s' := ⟨43, [(4, .own 3000), (5, .i r3), (1000001, .tab .u64 Lib.pow10Tab)], [(3000, q1bS_9 [])], [], 0⟩) rfl rfl ⟨.refl _, .refl _, .refl _, trivial⟩ ⟨⟨_, rfl, .refl _⟩, trivial⟩)) ?_
    have hret := Option.some.inj h
    subst hret
    refine AWp.le (Le.mk (s' := ⟨43, [(4, .own 3000), (5, .i r3)], [(3000, q1bS_9 [])], [], 0⟩) rfl rfl ⟨.refl _, .refl _, trivial⟩ ⟨⟨_, rfl, .refl _⟩, trivial⟩) ?_
    refine AWp.ret ?_
    refine thenQ_ret ?_
    exact bodyQ_ret _ rfl ⟨rfl, rfl⟩ rfl
  ·
    replace h := ite_fb hc1 h
    refine AWp.skip ?_
    refine thenQ_normal ?_
    refine AWp.seq ?_
    refine AWp.seq ?_
    have ob0 := idA (((decide (x2 < (1 : Int))) == false) = true)
    have ob1 := bqA (decide (x2 < (1 : Int))) false
    refine q1rr [] [] ⟨43, [(0, q1aSSI x1), (1, .i x2), (22, .bool ((decide (x2 < (1 : Int))) || (decide (x2 > (64 : Int))))), (1000001, .tab .u64 Lib.pow10Tab)], [], [], 0⟩ (an2 (an1 ob0) ob1) ?_
    refine thenQ_normal ?_
    refine AWp.cond (b := ((decide (x2 < (1 : Int))) || (decide (x2 > (64 : Int))))) (by kernel_rfl) (fun hc2 => ?_) (fun hc2 => ?_)
    ·
      replace h := ite_tb hc2 h
      refine q1rq [] [] ⟨43, [(4, .nils), (5, .i (7 : Int)), (1000001, .tab .u64 Lib.pow10Tab)], [], [], 0⟩ trivial ?_
      refine AWp.le (Le.trans (Le.nilOwn 4 3000 9 1 (encF eS [] []) rfl rfl (Nat.le_of_ble_eq_true rfl)) (Le.mk (s' := ⟨43, [(4, .own 3000), (5, .i (7 : Int)), (1000001, .tab .u64 Lib.pow10Tab)], [(3000, q1bS_9 [])], [], 0⟩) rfl rfl ⟨.refl _, .refl _, .refl _, trivial⟩ ⟨⟨_, rfl, .refl _⟩, trivial⟩)) ?_
      have hret := Option.some.inj h
      subst hret
      refine AWp.le (Le.mk (s' := ⟨43, [(4, .own 3000), (5, .i (7 : Int))], [(3000, q1bS_9 [])], [], 0⟩) rfl rfl ⟨.refl _, .refl _, trivial⟩ ⟨⟨_, rfl, .refl _⟩, trivial⟩) ?_
      refine AWp.ret ?_
      refine thenQ_ret ?_
      exact bodyQ_ret _ rfl ⟨rfl, rfl⟩ rfl
    ·
      replace h := ite_fb hc2 h
      refine AWp.skip ?_
      refine thenQ_normal ?_
      refine q1rq [] [] ⟨43, [(0, q1aSSI x1), (1, .i x2), (7, .ptr 7 0), (1000001, .tab .u64 Lib.pow10Tab)], [(7, .cells 48 [.nils])], [], 0⟩ trivial ?_
      refine AWp.seq ?_
      refine AWp.seq ?_
      obtain ⟨r4, hr4, h⟩ := bind_ok h
      refine q1rr [] [(2, ⟨[q1aSSI x1, .i x2], [], [], [(6001, .cells 27 [q1aSSI r4.1]), (6002, .cells 3 [.i r4.2])], .fn (.func 131) (f57z3), [6001, 6002], [], []⟩)] ⟨43, [(7, .ptr 7 0), (25, .fn (.func 131) (f57z3)), (1000001, .tab .u64 Lib.pow10Tab)], [(7, .cells 48 [.nils]), (6001, .cells 27 [q1aSSI r4.1]), (6002, .cells 3 [.i r4.2])], [], 0⟩ (an1 (cpT (Spec1.ren (swapN 3501 6002) (swapN_inv 3501 6002) rfl (Spec1.ren (swapN 3500 6001) (swapN_inv 3500 6001) rfl (f98_ok _ _ _ hr4))))) ?_
      refine thenQ_normal ?_
      refine AWp.block ?_
      refine AWp.le (Le.trans (Le.trans (Le.nilOwnC 7 0 6200 9 1 (encF eS [] []) rfl rfl rfl) (Le.mk (s' := ⟨43, [(7, .ptr 7 0), (25, .fn (.func 131) (f57z3)), (1000001, .tab .u64 Lib.pow10Tab)], (f57z1 r4), [], 0⟩) rfl rfl ⟨.refl _, .refl _, .refl _, trivial⟩ ⟨⟨_, rfl, .refl _⟩, ⟨_, rfl, .refl _⟩, ⟨_, rfl, .refl _⟩, ⟨_, rfl, .refl _⟩, trivial⟩)) (Le.mk (s' := ⟨43, [(7, .ptr 7 0), (25, .fn (.func 131) (f57z3)), (1000001, .tab .u64 Lib.pow10Tab)], (f57z1 r4), [], 0⟩) rfl rfl ⟨.refl _, .refl _, .refl _, trivial⟩ ⟨⟨_, rfl, .refl _⟩, ⟨_, rfl, .refl _⟩, ⟨_, rfl, .refl _⟩, ⟨_, rfl, .refl _⟩, trivial⟩)) ?_
      obtain ⟨r13, hr13, h⟩ := bind_ok h
      obtain ⟨hkr13, h⟩ := chk_some h
      refine AWp.rangeFunc (s := ⟨43, [(7, .ptr 7 0), (25, .fn (.func 131) (f57z3)), (1000001, .tab .u64 Lib.pow10Tab)], (f57z1 r4), [], 0⟩) 70001 [7] [7, 1000001] [] 131 (f57z3) ⟨[.own 70001, .ptr 6001 0, .ptr 6002 0], [7, 6001, 6002, 6200], [70001, 7, 6001, 6002], [], .tup [], [6200], [], []⟩ r13.1 [(7, .cells 48 [.own 6200]), (6001, .cells 27 [q1aSSI r13.2.1]), (6002, .cells 3 [.i r13.2.2.1]), (6200, q1bS_9 r13.2.2.2)] ⟨43, [(7, .ptr 7 0), (25, .fn (.func 131) (f57z3)), (1000001, .tab .u64 Lib.pow10Tab)], [(7, .cells 48 [.own 6200]), (6001, .cells 27 [q1aSSI r13.2.1]), (6002, .cells 3 [.i r13.2.2.1]), (6200, q1bS_9 r13.2.2.2)], [], 0⟩ rfl (by kernel_rfl) (by kernel_rfl) (fun g0 => ?_) (fun C => (by kernel_rfl)) (by kernel_rfl) (by kernel_rfl) (by kernel_rfl) (by kernel_rfl) hkr13 (by kernel_rfl) ?_ ?_
      ·
        refine ⟨fun _ => (f131_ok _ f57_Y70001 r4.1 r4.2 [] r13 hr13 ?_), fun _ => ⟨.refl _, .refl _, .refl _, trivial⟩, .inl rfl⟩
        clear h
        rintro ⟨l6, i5, l7⟩ x8 rY70001 h
        replace h := (f57_Y70001.eq_1 ..).symm.trans h
        refine YSpec.body 0 rfl (of_decide_eq_true (by kernel_rfl)) (of_decide_eq_true (by kernel_rfl)) (within_tget (by kernel_rfl)) (by kernel_rfl) (by kernel_rfl) (by kernel_rfl) (by kernel_rfl) ?_
        refine AWp.le (Le.mk (s' := ⟨43, [(26, q1aSSI x8), (7, .ptr 7 0), (1000001, .tab .u64 Lib.pow10Tab)], (f57z0 l6 i5 l7), [7, 6001, 6002], 0⟩) rfl rfl ⟨.refl _, .refl _, .refl _, trivial⟩ ⟨⟨_, rfl, .refl _⟩, ⟨_, rfl, .refl _⟩, ⟨_, rfl, .refl _⟩, ⟨_, rfl, .refl _⟩, trivial⟩) ?_
        refine q1rr [] [] ⟨43, [(7, .ptr 7 0), (8, q1aSSI x8), (1000001, .tab .u64 Lib.pow10Tab)], (f57z0 l6 i5 l7), [7, 6001, 6002], 0⟩ trivial ?_
        refine ⟨rfl, rfl, ?_⟩
        refine AWp.block ?_
        refine q1rq [] [] ⟨43, [(7, .ptr 7 0), (8, q1aSSI x8), (9, .str []), (1000001, .tab .u64 Lib.pow10Tab)], (f57z0 l6 i5 l7), [7, 6001, 6002], 0⟩ trivial ?_
        obtain ⟨K1, hK1, h⟩ := jn_some h
        refine AWp.join (α := List UInt8) (fun (s12 : List UInt8) => ⟨43, [(7, .ptr 7 0), (9, .str s12), (1000001, .tab .u64 Lib.pow10Tab)], (f57z0 l6 i5 l7), [7, 6001, 6002], 0⟩) (fun x => K1 x = some rY70001) ?_ ?_
        ·
          refine q1rq [] [] ⟨43, [(7, .ptr 7 0), (9, .str []), (27, q1aSSI x8), (28, .i (lZ x8)), (29, .i (0 : Int)), (1000001, .tab .u64 Lib.pow10Tab)], (f57z0 l6 i5 l7), [7, 6001, 6002], 0⟩ trivial ?_
          refine AWp.block ?_
          refine AWp.loopL (α := Nat × (List UInt8 × Nat)) (fun x => match x with | (_, s9, n10) => ⟨43, [(7, .ptr 7 0), (9, .str s9), (27, q1aSSI x8), (28, .i (lZ x8)), (29, .i (n10 : Int)), (1000001, .tab .u64 Lib.pow10Tab)], (f57z0 l6 i5 l7), [7, 6001, 6002], 0⟩) (fun x => f57_L0 x8 K1 x.1 x.2 = some rY70001) (fun x => x.1) (FUEL, [], 0) (Le.mk (s' := ⟨43, [(7, .ptr 7 0), (9, .str []), (27, q1aSSI x8), (28, .i (lZ x8)), (29, .i (0 : Int)), (1000001, .tab .u64 Lib.pow10Tab)], (f57z0 l6 i5 l7), [7, 6001, 6002], 0⟩) rfl rfl ⟨.refl _, .refl _, .refl _, .refl _, .refl _, .refl _, trivial⟩ ⟨⟨_, rfl, .refl _⟩, ⟨_, rfl, .refl _⟩, ⟨_, rfl, .refl _⟩, ⟨_, rfl, .refl _⟩, trivial⟩) h ?_
          rintro ⟨k0, s9, n10⟩ h
          cases k0 with
          | zero => exact nomatch (show (none : Option (Nat × ((List (List UInt8 × List UInt8 × Int)) × Int × List (List UInt8)))) = some rY70001 from h)
          | succ k0 =>
          obtain ⟨C0, hC0⟩ : ∃ C, C = f57_L0 x8 K1 k0 := ⟨_, rfl⟩
          replace h := (f57_L0.eq_2 ..).symm.trans h
          try rw [← hC0] at h
          refine q1rq [] [] ⟨43, [(7, .ptr 7 0), (9, .str s9), (27, q1aSSI x8), (28, .i (lZ x8)), (29, .i (n10 : Int)), (30, .bool (decide ((n10 : Int) < (lZ x8)))), (1000001, .tab .u64 Lib.pow10Tab)], (f57z0 l6 i5 l7), [7, 6001, 6002], 0⟩ trivial ?_
          refine AWp.seq ?_
          refine AWp.cond (b := (decide ((n10 : Int) < (lZ x8)))) (by kernel_rfl) (fun hc3 => ?_) (fun hc3 => ?_)
          ·
            replace h := ite_tb hc3 h
            refine AWp.skip ?_
            refine thenQ_normal ?_
            refine AWp.seq ?_
            refine AWp.block ?_
            refine AWp.seq ?_
            obtain ⟨ob2p, h⟩ := chk_some h
            have ob2 : 0 ≤ (n10 : Int) ∧ (n10 : Int) < (((x8).length : Nat) : Int) := ⟨by omega, ob2p⟩
            refine q1rr [] [] ⟨43, [(7, .ptr 7 0), (9, .str s9), (11, .ptr 11 0), (27, q1aSSI x8), (28, .i (lZ x8)), (29, .i (n10 : Int)), (1000001, .tab .u64 Lib.pow10Tab)], [(7, .cells 48 [.own 6200]), (11, .cells 76 [.str (f57z2 x8 n10).1, .str (f57z2 x8 n10).2.1, .i (f57z2 x8 n10).2.2]), (6001, .cells 27 (f57z4 l6)), (6002, .cells 3 [.i i5]), (6200, q1bS_9 l7)], [7, 6001, 6002], 0⟩ (an2 ob2 trivial) ?_
            refine thenQ_normal ?_
            obtain ⟨r11, hr11, h⟩ := bind_ok h
            obtain ⟨ob3, h⟩ := chk_some h
            refine q1rr [] [(2, ⟨[.agg [.str (f57z2 x8 n10).1, .str (f57z2 x8 n10).2.1, .i (f57z2 x8 n10).2.2]], [], [], [], .str r11, [], [], [1]⟩)] ⟨43, [(7, .ptr 7 0), (9, .str (s9 ++ r11)), (27, q1aSSI x8), (28, .i (lZ x8)), (29, .i (n10 : Int)), (1000001, .tab .u64 Lib.pow10Tab)], (f57z0 l6 i5 l7), [7, 6001, 6002], 0⟩ (an2 (cpT (f99_ok _ _ _ _ hr11)) ob3) ?_
            refine blockQ_normal ?_
            refine thenQ_normal ?_
            obtain ⟨ob4p, h⟩ := chk_some h
            have ob4 : -9223372036854775808 ≤ ((n10 : Int) + (1 : Int)) ∧ ((n10 : Int) + (1 : Int)) ≤ 9223372036854775807 := ⟨by omega, ob4p⟩
            refine q1rr [] [] ⟨43, [(7, .ptr 7 0), (9, .str (s9 ++ r11)), (27, q1aSSI x8), (28, .i (lZ x8)), (29, .i (((n10 + 1) : Nat) : Int)), (1000001, .tab .u64 Lib.pow10Tab)], (f57z0 l6 i5 l7), [7, 6001, 6002], 0⟩ (an1 ob4) ?_
            rw [hC0] at h
            exact loopQ_normal (_, (s9 ++ r11), (n10 + 1)) (Le.mk rfl rfl ⟨.refl _, .refl _, .refl _, .refl _, .refl _, .refl _, trivial⟩ ⟨⟨_, rfl, .refl _⟩, ⟨_, rfl, .refl _⟩, ⟨_, rfl, .refl _⟩, ⟨_, rfl, .refl _⟩, trivial⟩) h (Nat.lt_succ_self _)
          ·
            replace h := ite_fb hc3 h
            refine AWp.exit ?_
            refine thenQ_exit ?_
            refine thenQ_exit ?_
            refine blockQ_same ?_
            exact joinQ_normal (s9) (Le.mk rfl rfl ⟨.refl _, .refl _, .refl _, trivial⟩ ⟨⟨_, rfl, .refl _⟩, ⟨_, rfl, .refl _⟩, ⟨_, rfl, .refl _⟩, ⟨_, rfl, .refl _⟩, trivial⟩) h
        ·
          rintro s12 h
          replace h := (congrFun hK1 _).symm.trans h
          obtain ⟨ob5, h⟩ := chk_some h
          refine q1rr [] [] ⟨43, [(1000001, .tab .u64 Lib.pow10Tab)], [(7, .cells 48 [.own 6200]), (6001, .cells 27 (f57z4 l6)), (6002, .cells 3 [.i i5]), (6200, .rows 9 1 ((l7).length + 1) (appF (l7).length (encF eS [] l7) (lstF 1 [.str s12])))], [7, 6001, 6002], 0⟩ (an2 ob5 trivial) ?_
          refine blockQ_normal ?_
          have hret := Option.some.inj h
          subst hret
          exact ⟨_, (Le.trans (Le.mk (s' := ⟨43, [(1000001, .tab .u64 Lib.pow10Tab)], [(7, .cells 48 [.own 6200]), (6001, .cells 27 (f57z4 l6)), (6002, .cells 3 [.i i5]), (6200, q1bS_9 (l7 ++ [s12]))], [7, 6001, 6002], 0⟩) rfl rfl ⟨.refl _, trivial⟩ ⟨⟨_, rfl, .refl _⟩, ⟨_, rfl, .refl _⟩, ⟨_, rfl, .refl _⟩, ⟨_, rfl, (BLe.of (RL.app (RL.self _) (RL.lst (enc := eS) [s12] rfl rfl (fun _ => rfl))))⟩, trivial⟩) (Le.mk (s' := ⟨43, [], [(7, .cells 48 [.own 6200]), (6001, .cells 27 (f57z4 l6)), (6002, .cells 3 [.i i5]), (6200, q1bS_9 (l7 ++ [s12]))], [7, 6001, 6002], 0⟩) rfl rfl trivial ⟨⟨_, rfl, .refl _⟩, ⟨_, rfl, .refl _⟩, ⟨_, rfl, .refl _⟩, ⟨_, rfl, .refl _⟩, trivial⟩)), rfl, rfl, .inl ⟨rfl, rfl⟩⟩
      ·
        intro hk0
        replace h := ite_t hk0 h
        refine blockQ_normal ?_
        refine thenQ_normal ?_
        refine q1rq [] [] ⟨43, [(4, .own 6200), (5, .i (0 : Int)), (1000001, .tab .u64 Lib.pow10Tab)], [(6200, q1bS_9 r13.2.2.2)], [], 0⟩ trivial ?_
        refine AWp.le (Le.trans (Le.ren (swapN 6200 3000) (swapN_inv 6200 3000) rfl) (Le.mk (s' := ⟨43, [(4, .own 3000), (5, .i (0 : Int)), (1000001, .tab .u64 Lib.pow10Tab)], [(3000, q1bS_9 r13.2.2.2)], [], 0⟩) rfl rfl ⟨.refl _, .refl _, .refl _, trivial⟩ ⟨⟨_, rfl, .refl _⟩, trivial⟩)) ?_
        have hret := Option.some.inj h
        subst hret
        refine AWp.le (Le.mk (s' := ⟨43, [(4, .own 3000), (5, .i (0 : Int))], [(3000, q1bS_9 r13.2.2.2)], [], 0⟩) rfl rfl ⟨.refl _, .refl _, trivial⟩ ⟨⟨_, rfl, .refl _⟩, trivial⟩) ?_
        refine AWp.ret ?_
        exact bodyQ_ret _ rfl ⟨rfl, rfl⟩ rfl
      ·
        intro j hkj
        replace h := ite_f (by omega) h
        exact nomatch (show (none : Option (Int × List (List UInt8))) = some r from h)
def f58 (x1 : List (List UInt8)) : Option (List UInt8) := plistO x1
theorem f58_ok (x1 : List (List UInt8)) (r : List UInt8) (h : f58 x1 = some r) : Spec1 Tryz.prog 58 [] [] [] [vL 1 eS [] x1] (.str r) [] := plist_spec x1 r h
def f27_L0 (x2 : List (Int × Int × List UInt8)) (K1 : (List (List UInt8)) → Option (List (List UInt8))) : Nat → (Nat × List (List UInt8)) → Option (List (List UInt8))
  | 0, _ => none
  | k + 1, (n3, l4) =>
    if (decide ((n3 : Int) < (((x2).length : Nat) : Int))) then (
    chk ((n3 : Int) < (((x2).length : Nat) : Int)) <|
    (f56 ((x2.getD n3 (default : Int × Int × List UInt8)).1)).bind fun (r5 : List UInt8) =>
    (f56 ((x2.getD n3 (default : Int × Int × List UInt8)).2.1)).bind fun (r6 : List UInt8) =>
    chk (((l4).length + 3) * 16 ≤ 140737488355328) <|
    chk (((n3 : Int) + (1 : Int)) ≤ 9223372036854775807) <|
    (f27_L0 x2 K1 k) ((n3 + 1), (l4 ++ [r5, r6, (x2.getD n3 (default : Int × Int × List UInt8)).2.2]))
    ) else (
    K1 l4
    )
abbrev f27z0 (x1 : List (List UInt8 × List UInt8 × Int)) (x2 : List (Int × Int × List UInt8)) : List V := [vL 3 eSSI (default : List UInt8 × List UInt8 × Int) x1, vL 3 eIIS (default : Int × Int × List UInt8) x2]
abbrev f27z1 (x2 : List (Int × Int × List UInt8)) (n3 : Nat) : List (Nat × V) := [(1, .ptr 1 0), (3, .own 5003), (9, vL 3 eIIS (default : Int × Int × List UInt8) x2), (10, .int .i64 (((x2).length : Nat) : Int)), (11, .int .i64 (n3 : Int)), (1000001, .tab .u64 Lib.pow10Tab)]
abbrev f27z2 (x2 : List (Int × Int × List UInt8)) (n3 : Nat) := (x2.getD n3 (default : Int × Int × List UInt8))
abbrev f27z3 : List (Nat × V) := [(2, .own 35), (1000001, .tab .u64 Lib.pow10Tab)]
def f27 (x1 : List (List UInt8 × List UInt8 × Int)) (x2 : List (Int × Int × List UInt8)) : Option (List (List UInt8)) :=
  jn (fun (l7 : List (List UInt8)) =>
  (f57 x1 (8 : Int)).bind fun (r8 : Int × List (List UInt8)) =>
  (f58 l7).bind fun (r9 : List UInt8) =>
  chk ((1 + (r8.2).length) * 16 ≤ 140737488355328) <|
  some ([r9] ++ r8.2)
  ) fun (K1 : (List (List UInt8)) → Option (List (List UInt8))) =>
  f27_L0 x2 K1 FUEL (0, [])
set_option maxRecDepth 100000 in
theorem f27_ok  (x1 : List (List UInt8 × List UInt8 × Int)) (x2 : List (Int × Int × List UInt8)) (r : List (List UInt8)) (h : f27 x1 x2 = some r)  : Spec1 Tryz.prog 27 [(1, .tab .u64 Lib.pow10Tab)] [] [] [.agg [vL 3 eSSI (default : List UInt8 × List UInt8 × Int) x1, vL 3 eIIS (default : Int × Int × List UInt8) x2]] (.own 3000) [(3000, bL 9 1 eS [] r)] := by
  unfold f27 at h
  refine Spec1.body 0 _ _ Tryz.func27 rfl Tryz.ntmps27 rfl rfl ?_
  refine q1rq [] [] ⟨38, [(1, .ptr 1 0), (1000001, .tab .u64 Lib.pow10Tab)], [(1, .cells 30 (f27z0 x1 x2))], [], 0⟩ trivial ?_
  refine q1rq [] [] ⟨38, [(1, .ptr 1 0), (3, .nils), (1000001, .tab .u64 Lib.pow10Tab)], [(1, .cells 30 (f27z0 x1 x2))], [], 0⟩ trivial ?_
  obtain ⟨K1, hK1, h⟩ := jn_some h
  refine AWp.join (α := List (List UInt8)) (fun (l7 : List (List UInt8)) => ⟨38, [(1, .ptr 1 0), (3, .own 5003), (1000001, .tab .u64 Lib.pow10Tab)], [(1, .cells 30 (f27z0 x1 x2)), (5003, q1bS_9 l7)], [], 0⟩) (fun x => K1 x = some r) ?_ ?_
  ·
    refine q1rq [] [] ⟨38, [(1, .ptr 1 0), (3, .nils), (9, q1aIIS x2), (10, .i (lZ x2)), (11, .i (0 : Int)), (1000001, .tab .u64 Lib.pow10Tab)], [(1, .cells 30 (f27z0 x1 x2))], [], 0⟩ trivial ?_
    refine AWp.block ?_
    refine AWp.loopL (α := Nat × (Nat × List (List UInt8))) (fun x => match x with | (_, n3, l4) => ⟨38, (f27z1 x2 n3), [(1, .cells 30 (f27z0 x1 x2)), (5003, q1bS_9 l4)], [], 0⟩) (fun x => f27_L0 x2 K1 x.1 x.2 = some r) (fun x => x.1) (FUEL, 0, []) (Le.trans (Le.trans (Le.nilOwn 3 5003 9 1 (encF eS [] []) rfl rfl (Nat.le_of_ble_eq_true rfl)) (Le.mk (s' := ⟨38, [(1, .ptr 1 0), (3, .own 5003), (9, q1aIIS x2), (10, .i (lZ x2)), (11, .i (0 : Int)), (1000001, .tab .u64 Lib.pow10Tab)], [(1, .cells 30 (f27z0 x1 x2)), (5003, q1bS_9 [])], [], 0⟩) rfl rfl ⟨.refl _, .refl _, .refl _, .refl _, .refl _, .refl _, trivial⟩ ⟨⟨_, rfl, .refl _⟩, ⟨_, rfl, .refl _⟩, trivial⟩)) (Le.mk (s' := ⟨38, [(1, .ptr 1 0), (3, .own 5003), (9, q1aIIS x2), (10, .i (lZ x2)), (11, .i (0 : Int)), (1000001, .tab .u64 Lib.pow10Tab)], [(1, .cells 30 (f27z0 x1 x2)), (5003, q1bS_9 [])], [], 0⟩) rfl rfl ⟨.refl _, .refl _, .refl _, .refl _, .refl _, .refl _, trivial⟩ ⟨⟨_, rfl, .refl _⟩, ⟨_, rfl, .refl _⟩, trivial⟩)) h ?_
    rintro ⟨k0, n3, l4⟩ h
    cases k0 with
    | zero => exact nomatch (show (none : Option (List (List UInt8))) = some r from h)
    | succ k0 =>
    obtain ⟨C0, hC0⟩ : ∃ C, C = f27_L0 x2 K1 k0 := ⟨_, rfl⟩
    replace h := (f27_L0.eq_2 ..).symm.trans h
    try rw [← hC0] at h
    refine q1rq [] [] ⟨38, [(1, .ptr 1 0), (3, .own 5003), (9, q1aIIS x2), (10, .i (lZ x2)), (11, .i (n3 : Int)), (12, .bool (decide ((n3 : Int) < (lZ x2)))), (1000001, .tab .u64 Lib.pow10Tab)], [(1, .cells 30 (f27z0 x1 x2)), (5003, q1bS_9 l4)], [], 0⟩ trivial ?_
    refine AWp.seq ?_
    refine AWp.cond (b := (decide ((n3 : Int) < (lZ x2)))) (by kernel_rfl) (fun hc1 => ?_) (fun hc1 => ?_)
    ·
      replace h := ite_tb hc1 h
      refine AWp.skip ?_
      refine thenQ_normal ?_
      refine AWp.seq ?_
      refine AWp.block ?_
      refine AWp.seq ?_
      obtain ⟨ob0p, h⟩ := chk_some h
      have ob0 : 0 ≤ (n3 : Int) ∧ (n3 : Int) < (((x2).length : Nat) : Int) := ⟨by omega, ob0p⟩
      refine q1rr [] [] ⟨38, [(1, .ptr 1 0), (3, .own 5003), (5, .ptr 5 0), (9, q1aIIS x2), (10, .i (lZ x2)), (11, .i (n3 : Int)), (1000001, .tab .u64 Lib.pow10Tab)], [(1, .cells 30 (f27z0 x1 x2)), (5, .cells 45 [.i (f27z2 x2 n3).1, .i (f27z2 x2 n3).2.1, .str (f27z2 x2 n3).2.2]), (5003, q1bS_9 l4)], [], 0⟩ (an2 ob0 trivial) ?_
      refine thenQ_normal ?_
      obtain ⟨r5, hr5, h⟩ := bind_ok h
      obtain ⟨r6, hr6, h⟩ := bind_ok h
      obtain ⟨ob1, h⟩ := chk_some h
      refine q1rr [] [(3, ⟨[.i (f27z2 x2 n3).1], [], [], [], .str r5, [], [], [1]⟩), (6, ⟨[.i (f27z2 x2 n3).2.1], [], [], [], .str r6, [], [], [1]⟩)] ⟨38, (f27z1 x2 n3), [(1, .cells 30 (f27z0 x1 x2)), (5003, .rows 9 1 ((l4).length + 3) (appF (l4).length (encF eS [] l4) (lstF 1 [.str r5, .str r6, .str (f27z2 x2 n3).2.2])))], [], 0⟩ (an3 (cpT (f56_ok _ _ hr5)) (cpT (f56_ok _ _ hr6)) ob1) ?_
      refine blockQ_normal ?_
      refine thenQ_normal ?_
      refine AWp.le (Le.mk (s' := ⟨38, (f27z1 x2 n3), [(1, .cells 30 (f27z0 x1 x2)), (5003, q1bS_9 (l4 ++ [r5, r6, (f27z2 x2 n3).2.2]))], [], 0⟩) rfl rfl ⟨.refl _, .refl _, .refl _, .refl _, .refl _, .refl _, trivial⟩ ⟨⟨_, rfl, .refl _⟩, ⟨_, rfl, (BLe.of (RL.app (RL.self _) (RL.lst (enc := eS) [r5, r6, (f27z2 x2 n3).2.2] rfl rfl (fun _ => rfl))))⟩, trivial⟩) ?_
      obtain ⟨ob2p, h⟩ := chk_some h
      have ob2 : -9223372036854775808 ≤ ((n3 : Int) + (1 : Int)) ∧ ((n3 : Int) + (1 : Int)) ≤ 9223372036854775807 := ⟨by omega, ob2p⟩
      refine q1rr [] [] ⟨38, [(1, .ptr 1 0), (3, .own 5003), (9, q1aIIS x2), (10, .i (lZ x2)), (11, .i (((n3 + 1) : Nat) : Int)), (1000001, .tab .u64 Lib.pow10Tab)], [(1, .cells 30 (f27z0 x1 x2)), (5003, q1bS_9 (l4 ++ [r5, r6, (f27z2 x2 n3).2.2]))], [], 0⟩ (an1 ob2) ?_
      rw [hC0] at h
      exact loopQ_normal (_, (n3 + 1), (l4 ++ [r5, r6, (f27z2 x2 n3).2.2])) (Le.mk rfl rfl ⟨.refl _, .refl _, .refl _, .refl _, .refl _, .refl _, trivial⟩ ⟨⟨_, rfl, .refl _⟩, ⟨_, rfl, .refl _⟩, trivial⟩) h (Nat.lt_succ_self _)
    ·
      replace h := ite_fb hc1 h
      refine AWp.exit ?_
      refine thenQ_exit ?_
      refine thenQ_exit ?_
      refine blockQ_same ?_
      exact joinQ_normal (l4) (Le.mk rfl rfl ⟨.refl _, .refl _, .refl _, trivial⟩ ⟨⟨_, rfl, .refl _⟩, ⟨_, rfl, .refl _⟩, trivial⟩) h
  ·
    rintro l7 h
    replace h := (congrFun hK1 _).symm.trans h
    refine AWp.seq ?_
    obtain ⟨r8, hr8, h⟩ := bind_ok h
    refine q1rr [] [(2, ⟨[q1aSSI x1, .i (8 : Int)], [], [], [(6001, q1bS_9 r8.2)], .tup [.own 6001, .i r8.1], [6001], [], [1]⟩)] ⟨38, [(3, .own 5003), (6, .own 6001), (1000001, .tab .u64 Lib.pow10Tab)], [(5003, q1bS_9 l7), (6001, q1bS_9 r8.2)], [], 0⟩ (an1 (cpT (Spec1.ren (swapN 3000 6001) (swapN_inv 3000 6001) rfl (f57_ok _ _ _ hr8)))) ?_
    refine thenQ_normal ?_
    refine AWp.seq ?_
    obtain ⟨r9, hr9, h⟩ := bind_ok h
    obtain ⟨ob3, h⟩ := chk_some h
    refine q1rr [] [(1, ⟨[q1aS l7], [], [], [], .str r9, [], [5003], []⟩)] ⟨38, (f27z3), [(35, .rows 9 1 (1 + (r8.2).length) (appF 1 (lstF 1 [.str r9]) (encF eS [] r8.2)))], [], 0⟩ (an2 (cpL (c := true) [(5003, q1bS_9 l7)] [5003] [.own 5003] (fun _ => (f58_ok _ _ hr9)) (fun _ => ⟨.refl _, trivial⟩) (.inr ⟨rfl, trivial⟩)) ob3) ?_
    refine thenQ_normal ?_
    refine AWp.le (Le.mk (s' := ⟨38, (f27z3), [(35, q1bS_9 ([r9] ++ r8.2))], [], 0⟩) rfl rfl ⟨.refl _, .refl _, trivial⟩ ⟨⟨_, rfl, (BLe.of (RL.app (RL.lst (enc := eS) [r9] rfl rfl (fun _ => rfl)) (RL.self _)))⟩, trivial⟩) ?_
    refine AWp.le (Le.trans (Le.ren (swapN 35 3000) (swapN_inv 35 3000) rfl) (Le.mk (s' := ⟨38, [(2, .own 3000), (1000001, .tab .u64 Lib.pow10Tab)], [(3000, q1bS_9 ([r9] ++ r8.2))], [], 0⟩) rfl rfl ⟨.refl _, .refl _, trivial⟩ ⟨⟨_, rfl, .refl _⟩, trivial⟩)) ?_
    have hret := Option.some.inj h
    subst hret
    refine AWp.le (Le.mk (s' := ⟨38, [(2, .own 3000)], [(3000, q1bS_9 ([r9] ++ r8.2))], [], 0⟩) rfl rfl ⟨.refl _, trivial⟩ ⟨⟨_, rfl, .refl _⟩, trivial⟩) ?_
    refine AWp.ret ?_
    exact bodyQ_ret _ rfl ⟨rfl, rfl⟩ rfl
abbrev f9z0 (r2 : (List (List UInt8 × List UInt8 × Int)) × (List (Int × Int × List UInt8)) × List UInt8) (r3 : (List (List UInt8 × List UInt8 × Int)) × (List (Int × Int × List UInt8)) × List UInt8) := ((r2.2.2 == ([111, 107, 32, 49] : List UInt8)) && (r3.2.2 == ([111, 107, 32, 49] : List UInt8)))
abbrev f9z1 : List V := [.int .i64 (0 : Int), .int .i64 (1 : Int), .str cs0]
abbrev f9z2 (r5 : (List (List UInt8 × List UInt8 × Int)) × (List (Int × Int × List UInt8)) × List UInt8) : List V := [vL 3 eSSI (default : List UInt8 × List UInt8 × Int) r5.1, vL 3 eIIS (default : Int × Int × List UInt8) r5.2.1]
abbrev f9z3 := ([111, 107, 32, 49] : List UInt8)
abbrev f9z4 (r2 : (List (List UInt8 × List UInt8 × Int)) × (List (Int × Int × List UInt8)) × List UInt8) : List V := [vL 3 eSSI (default : List UInt8 × List UInt8 × Int) r2.1, vL 3 eIIS (default : Int × Int × List UInt8) r2.2.1]
abbrev f9z5 (r3 : (List (List UInt8 × List UInt8 × Int)) × (List (Int × Int × List UInt8)) × List UInt8) : List V := [vL 3 eSSI (default : List UInt8 × List UInt8 × Int) r3.1, vL 3 eIIS (default : Int × Int × List UInt8) r3.2.1]
abbrev f9z6 (r4 : (List (List UInt8 × List UInt8 × Int)) × (List (Int × Int × List UInt8)) × List UInt8) : List V := [vL 3 eSSI (default : List UInt8 × List UInt8 × Int) r4.1, vL 3 eIIS (default : Int × Int × List UInt8) r4.2.1]
def f9  : Option Bool :=
  (f17 ).bind fun (r1 : (List (List UInt8 × List UInt8 × Int)) × (List (Int × Int × List UInt8))) =>
  (f11 r1.1 r1.2 (0 : Int) (1 : Int) cs0).bind fun (r2 : (List (List UInt8 × List UInt8 × Int)) × (List (Int × Int × List UInt8)) × List UInt8) =>
  (f11 r2.1 r2.2.1 (0 : Int) (1 : Int) cs0).bind fun (r3 : (List (List UInt8 × List UInt8 × Int)) × (List (Int × Int × List UInt8)) × List UInt8) =>
  (f11 r3.1 r3.2.1 (0 : Int) (2 : Int) cs9).bind fun (r4 : (List (List UInt8 × List UInt8 × Int)) × (List (Int × Int × List UInt8)) × List UInt8) =>
  (f11 r4.1 r4.2.1 (0 : Int) (1 : Int) cs0).bind fun (r5 : (List (List UInt8 × List UInt8 × Int)) × (List (Int × Int × List UInt8)) × List UInt8) =>
  if ((((r2.2.2 == ([111, 107, 32, 49] : List UInt8)) && (r3.2.2 == ([111, 107, 32, 49] : List UInt8))) && (r4.2.2 == cs10)) && (r5.2.2 == cs2)) = true then (
  (f27 r5.1 r5.2.1).bind fun (r6 : List (List UInt8)) =>
  some ((((r6).length : Nat) : Int) == (2 : Int))
  ) else (
  some false
  )
set_option maxRecDepth 100000 in
theorem f9_ok   (r : Bool) (h : f9 = some r)  : Spec1 Tryz.prog 9 [(1, .tab .u64 Lib.pow10Tab)] [] [] [] (.bool r) [] := by
  unfold f9 at h
  refine Spec1.body 0 _ _ Tryz.func9 rfl Tryz.ntmps9 rfl rfl ?_
  refine q1rq [] [] ⟨52, [(1000001, .tab .u64 Lib.pow10Tab)], [], [], 0⟩ trivial ?_
  refine q1rq [] [] ⟨52, [(1, .ptr 1 0), (1000001, .tab .u64 Lib.pow10Tab)], [(1, .cells 24 (f9z1))], [], 0⟩ (an1 trivial) ?_
  refine AWp.seq ?_
  obtain ⟨r1, hr1, h⟩ := bind_ok h
  obtain ⟨r2, hr2, h⟩ := bind_ok h
  refine q1rr [] [(0, ⟨[], [], [], [], .agg [q1aSSI r1.1, q1aIIS r1.2], [], [], []⟩), (2, ⟨[.agg [q1aSSI r1.1, q1aIIS r1.2], .agg (f9z1)], [], [], [], .tup [.agg (f9z4 r2), .str r2.2.2], [], [], [1]⟩)] ⟨52, [(1, .ptr 1 0), (2, .ptr 2 0), (3, .str r2.2.2), (1000001, .tab .u64 Lib.pow10Tab)], [(1, .cells 24 (f9z1)), (2, .cells 30 (f9z4 r2))], [], 0⟩ (an3 (cpT (f17_ok _ hr1)) (cpT (f11_ok _ _ _ _ _ _ hr2)) trivial) ?_
  refine thenQ_normal ?_
  refine AWp.seq ?_
  obtain ⟨r3, hr3, h⟩ := bind_ok h
  refine q1rr [] [(2, ⟨[.agg (f9z4 r2), .agg (f9z1)], [], [], [], .tup [.agg (f9z5 r3), .str r3.2.2], [], [], [1]⟩)] ⟨52, [(1, .ptr 1 0), (2, .ptr 2 0), (3, .str r2.2.2), (4, .str r3.2.2), (1000001, .tab .u64 Lib.pow10Tab)], [(1, .cells 24 (f9z1)), (2, .cells 30 (f9z5 r3))], [], 0⟩ (an2 (cpT (f11_ok _ _ _ _ _ _ hr3)) trivial) ?_
  refine thenQ_normal ?_
  refine AWp.seq ?_
  obtain ⟨r4, hr4, h⟩ := bind_ok h
  refine q1rr [] [(2, ⟨[.agg (f9z5 r3), .agg [.i (0 : Int), .i (2 : Int), .str cs9]], [], [], [], .tup [.agg (f9z6 r4), .str r4.2.2], [], [], [1]⟩)] ⟨52, [(1, .ptr 1 0), (2, .ptr 2 0), (3, .str r2.2.2), (4, .str r3.2.2), (5, .str r4.2.2), (1000001, .tab .u64 Lib.pow10Tab)], [(1, .cells 24 (f9z1)), (2, .cells 30 (f9z6 r4))], [], 0⟩ (an2 (cpT (f11_ok _ _ _ _ _ _ hr4)) trivial) ?_
  refine thenQ_normal ?_
  refine AWp.seq ?_
  obtain ⟨r5, hr5, h⟩ := bind_ok h
  refine q1rr [] [(2, ⟨[.agg (f9z6 r4), .agg (f9z1)], [], [], [], .tup [.agg (f9z2 r5), .str r5.2.2], [], [], [1]⟩)] ⟨52, [(2, .ptr 2 0), (3, .str r2.2.2), (4, .str r3.2.2), (5, .str r4.2.2), (6, .str r5.2.2), (1000001, .tab .u64 Lib.pow10Tab)], [(2, .cells 30 (f9z2 r5))], [], 0⟩ (an2 (cpT (f11_ok _ _ _ _ _ _ hr5)) trivial) ?_
  refine thenQ_normal ?_
  refine AWp.seq ?_
  by_cases hg6_14 : ((((r2.2.2 == ([111, 107, 32, 49] : List UInt8)) && (r3.2.2 == ([111, 107, 32, 49] : List UInt8))) && (r4.2.2 == cs10)) && (r5.2.2 == cs2)) = true
  ·
    replace h := ite_t hg6_14 h
    obtain ⟨r6, hr6, h⟩ := bind_ok h
    have ob0 := idA (((r2.2.2 == (f9z3)) == true) = true)
    have ob1 := bqA (r2.2.2 == (f9z3)) true
    have ob2 := idA (((f9z0 r2 r3) == true) = true)
    have ob3 := bqA (f9z0 r2 r3) true
    have ob4 := idA ((((f9z0 r2 r3) && (r4.2.2 == cs10)) == true) = true)
    have ob5 := bqA ((f9z0 r2 r3) && (r4.2.2 == cs10)) true
    have ob6 := idA (true = true)
    have ob8 : true = true → true = true → true = true := fun _ h => h
    refine q1rr [] [(14, ⟨[], [], [], [], (.bool true), [], [0], []⟩), (16, ⟨[.agg (f9z2 r5)], [], [], [(6001, q1bS_9 r6)], .own 6001, [6001], [], [1]⟩)] ⟨52, [(0, .bool ((lZ r6) == (2 : Int))), (1000001, .tab .u64 Lib.pow10Tab)], [], [], 0⟩ (ac6 (an1 ob0) ob1 (an1 ob2) ob3 (an1 ob4) ob5 (an4 (show ((.bool (((f9z0 r2 r3) && (r4.2.2 == cs10)) && (r5.2.2 == cs2))) : V) = (.bool true) from (congrArg (fun x => ((.bool x) : V)) hg6_14)) (And.intro (cpT (Spec1.ren (swapN 3000 6001) (swapN_inv 3000 6001) rfl (f27_ok _ _ _ hr6))) (an1 ob6)) (an1 ob6) ob8)) ?_
    refine thenQ_normal ?_
    have hret := Option.some.inj h
    subst hret
    refine AWp.le (Le.mk (s' := ⟨52, [(0, .bool ((lZ r6) == (2 : Int)))], [], [], 0⟩) rfl rfl ⟨.refl _, trivial⟩ trivial) ?_
    refine AWp.ret ?_
    exact bodyQ_ret _ rfl ⟨rfl, rfl⟩ rfl
  ·
    replace h := ite_f hg6_14 h
    have ob0 := idA (((r2.2.2 == (f9z3)) == true) = true)
    have ob1 := bqA (r2.2.2 == (f9z3)) true
    have ob2 := idA (((f9z0 r2 r3) == true) = true)
    have ob3 := bqA (f9z0 r2 r3) true
    have ob4 := idA ((((f9z0 r2 r3) && (r4.2.2 == cs10)) == true) = true)
    have ob5 := bqA ((f9z0 r2 r3) && (r4.2.2 == cs10)) true
    have ob6 := idA (false = true)
    have ob7 : true = true → false = true → false = true := fun _ h => h
    refine q1rr [] [(14, ⟨[], [], [], [], (.bool false), [], [0], []⟩), (16, ⟨[], [], [], [], .any, [], [], []⟩)] ⟨52, [(0, .bool false), (1000001, .tab .u64 Lib.pow10Tab)], [], [], 0⟩ (ac6 (an1 ob0) ob1 (an1 ob2) ob3 (an1 ob4) ob5 (an3 (show ((.bool (((f9z0 r2 r3) && (r4.2.2 == cs10)) && (r5.2.2 == cs2))) : V) = (.bool false) from (congrArg (fun x => ((.bool x) : V)) (Bool.eq_false_iff.2 hg6_14))) (And.intro (show (callP Tryz.prog false 27 [] [] [] [] [] [.agg (f9z2 r5)] [] (.any) []) from ⟨nofun, nofun, .inl rfl⟩) (an1 ob6)) ob7)) ?_
    refine thenQ_normal ?_
    have hret := Option.some.inj h
    subst hret
    refine AWp.le (Le.mk (s' := ⟨52, [(0, .bool false)], [], [], 0⟩) rfl rfl ⟨.refl _, trivial⟩ trivial) ?_
    refine AWp.ret ?_
    exact bodyQ_ret _ rfl ⟨rfl, rfl⟩ rfl
def f10_L0 (x1 : List (Int × Int × List UInt8)) (K1 : Unit → Option Bool) : Nat → Nat → Option Bool
  | 0, _ => none
  | k + 1, n2 =>
    if (decide ((n2 : Int) < (((x1).length : Nat) : Int))) then (
    chk ((n2 : Int) < (((x1).length : Nat) : Int)) <|
    if (decide (((((x1.getD n2 (default : Int × Int × List UInt8)).2.2).length : Nat) : Int) > (300 : Int))) then (
    some false
    ) else (
    chk (((n2 : Int) + (1 : Int)) ≤ 9223372036854775807) <|
    (f10_L0 x1 K1 k) (n2 + 1)
    )
    ) else (
    K1 ()
    )
def f10 (x1 : List (Int × Int × List UInt8)) : Option Bool :=
  jn (fun (_ : Unit) =>
  some (decide ((((x1).length : Nat) : Int) ≤ (30 : Int)))
  ) fun (K1 : Unit → Option Bool) =>
  f10_L0 x1 K1 FUEL 0
def f114 (x1 : Int) (x2 : Int) (x3 : List UInt8) : Option Int :=
  if ((((decide (x1 < (0 : Int))) || (decide (x1 ≥ (6 : Int)))) || (decide (x2 < (1 : Int)))) || (decide (x2 > (1000000 : Int)))) then (
  some (7 : Int)
  ) else (
  if (x3 == []) then (
  some (9 : Int)
  ) else (
  if (decide (((x3.length : Nat) : Int) > (200 : Int))) then (
  some (3 : Int)
  ) else (
  some (0 : Int)
  )
  )
  )
def f83 (x1 : Int) (x2 : Int) (x3 : List UInt8) (x4 : Int) (x5 : Int) (x6 : List UInt8) : Option Bool :=
  some ((x1 == x4) && (x2 == x5))
def f47_L0 (x1 : List (Int × Int × List UInt8)) (x2 : Int) (x3 : Int) (x4 : List UInt8) (K1 : Unit → Option Bool) : Nat → Nat → Option Bool
  | 0, _ => none
  | k + 1, n5 =>
    if (decide ((n5 : Int) < (((x1).length : Nat) : Int))) then (
    (f83 ((x1.getD n5 (default : Int × Int × List UInt8)).1) ((x1.getD n5 (default : Int × Int × List UInt8)).2.1) ((x1.getD n5 (default : Int × Int × List UInt8)).2.2) x2 x3 x4).bind fun (r6 : Bool) =>
    chk ((n5 : Int) < (((x1).length : Nat) : Int)) <|
    if r6 then (
    some true
    ) else (
    chk (((n5 : Int) + (1 : Int)) ≤ 9223372036854775807) <|
    (f47_L0 x1 x2 x3 x4 K1 k) (n5 + 1)
    )
    ) else (
    K1 ()
    )
def f47 (x1 : List (Int × Int × List UInt8)) (x2 : Int) (x3 : Int) (x4 : List UInt8) : Option Bool :=
  jn (fun (_ : Unit) =>
  some false
  ) fun (K1 : Unit → Option Bool) =>
  f47_L0 x1 x2 x3 x4 K1 FUEL 0
def f73_L0 (x1 : List (Int × Int × List UInt8)) (K1 : Unit → Option Int) : Nat → Nat → Option Int
  | 0, _ => none
  | k + 1, n2 =>
    if (decide ((n2 : Int) < (((x1).length : Nat) : Int))) then (
    (f114 ((x1.getD n2 (default : Int × Int × List UInt8)).1) ((x1.getD n2 (default : Int × Int × List UInt8)).2.1) ((x1.getD n2 (default : Int × Int × List UInt8)).2.2)).bind fun (r3 : Int) =>
    chk ((n2 : Int) < (((x1).length : Nat) : Int)) <|
    if (r3 != (0 : Int)) then (
    some r3
    ) else (
    (f47 (x1.take n2) ((x1.getD n2 (default : Int × Int × List UInt8)).1) ((x1.getD n2 (default : Int × Int × List UInt8)).2.1) ((x1.getD n2 (default : Int × Int × List UInt8)).2.2)).bind fun (r4 : Bool) =>
    chk ((n2 : Int) ≤ (((x1).length : Nat) : Int)) <|
    chk ((n2 : Int) < (((x1).length : Nat) : Int)) <|
    if r4 then (
    some (5 : Int)
    ) else (
    chk (((n2 : Int) + (1 : Int)) ≤ 9223372036854775807) <|
    (f73_L0 x1 K1 k) (n2 + 1)
    )
    )
    ) else (
    K1 ()
    )
def f73 (x1 : List (Int × Int × List UInt8)) : Option Int :=
  jn (fun (_ : Unit) =>
  some (0 : Int)
  ) fun (K1 : Unit → Option Int) =>
  f73_L0 x1 K1 FUEL 0
def f116 : Nat → Int → Option (List UInt8)
  | 0, _ => none
  | k + 1, x1 =>
    if (decide (x1 < (10 : Int))) then (
    chk (-9223372036854775808 ≤ ((48 : Int) + x1) ∧ ((48 : Int) + x1) ≤ 9223372036854775807) <|
    chk (0 ≤ ((48 : Int) + x1) ∧ ((48 : Int) + x1) ≤ 255) <|
    some [UInt8.ofNat ((((48 : Int) + x1)).toNat)]
    ) else (
    ((f116 k) (x1 / (10 : Int))).bind fun (r2 : List UInt8) =>
    chk (0 ≤ x1 ∧ 1 ≤ (10 : Int) ∧ -9223372036854775808 ≤ (x1 / (10 : Int)) ∧ (x1 / (10 : Int)) ≤ 9223372036854775807) <|
    chk (0 ≤ x1 ∧ 1 ≤ (10 : Int)) <|
    chk (-9223372036854775808 ≤ ((48 : Int) + (x1 % (10 : Int))) ∧ ((48 : Int) + (x1 % (10 : Int))) ≤ 9223372036854775807) <|
    chk (0 ≤ ((48 : Int) + (x1 % (10 : Int))) ∧ ((48 : Int) + (x1 % (10 : Int))) ≤ 255) <|
    chk (r2.length + [UInt8.ofNat ((((48 : Int) + (x1 % (10 : Int)))).toNat)].length ≤ 9223372036854775807) <|
    some (r2 ++ [UInt8.ofNat ((((48 : Int) + (x1 % (10 : Int)))).toNat)])
    )
def f145 : Nat → Int → Option (List UInt8)
  | 0, _ => none
  | k + 1, x1 =>
    if (decide (x1 < (128 : Int))) then (
    chk (0 ≤ x1 ∧ x1 ≤ 255) <|
    some [UInt8.ofNat ((x1).toNat)]
    ) else (
    ((f145 k) (x1 / (128 : Int))).bind fun (r2 : List UInt8) =>
    chk (0 ≤ x1 ∧ 1 ≤ (128 : Int)) <|
    chk (-9223372036854775808 ≤ ((x1 % (128 : Int)) + (128 : Int)) ∧ ((x1 % (128 : Int)) + (128 : Int)) ≤ 9223372036854775807) <|
    chk (0 ≤ ((x1 % (128 : Int)) + (128 : Int)) ∧ ((x1 % (128 : Int)) + (128 : Int)) ≤ 255) <|
    chk (0 ≤ x1 ∧ 1 ≤ (128 : Int) ∧ -9223372036854775808 ≤ (x1 / (128 : Int)) ∧ (x1 / (128 : Int)) ≤ 9223372036854775807) <|
    chk ([UInt8.ofNat ((((x1 % (128 : Int)) + (128 : Int))).toNat)].length + r2.length ≤ 9223372036854775807) <|
    some ([UInt8.ofNat ((((x1 % (128 : Int)) + (128 : Int))).toNat)] ++ r2)
    )
def f115_L0 (x1 : List (List UInt8)) (K1 : (List UInt8) → Option (List UInt8)) : Nat → (List UInt8 × Nat) → Option (List UInt8)
  | 0, _ => none
  | k + 1, (s3, n4) =>
    if (decide ((n4 : Int) < (((x1).length : Nat) : Int))) then (
    (f145 FUEL (((x1.getD n4 []).length : Nat) : Int)).bind fun (r5 : List UInt8) =>
    chk ((n4 : Int) < (((x1).length : Nat) : Int)) <|
    chk (s3.length + r5.length ≤ 9223372036854775807) <|
    chk ((n4 : Int) < (((x1).length : Nat) : Int)) <|
    chk ((s3 ++ r5).length + (x1.getD n4 []).length ≤ 9223372036854775807) <|
    chk (((n4 : Int) + (1 : Int)) ≤ 9223372036854775807) <|
    (f115_L0 x1 K1 k) (((s3 ++ r5) ++ (x1.getD n4 [])), (n4 + 1))
    ) else (
    K1 s3
    )
def f115 (x1 : List (List UInt8)) : Option (List UInt8) :=
  (f145 FUEL (((x1).length : Nat) : Int)).bind fun (r2 : List UInt8) =>
  jn (fun (s6 : List UInt8) =>
  some s6
  ) fun (K1 : (List UInt8) → Option (List UInt8)) =>
  f115_L0 x1 K1 FUEL (r2, 0)
def f74_L0 (x3 : List (Int × Int × List UInt8)) (K1 : (List (List UInt8)) → Option (List UInt8)) : Nat → (Nat × List (List UInt8)) → Option (List UInt8)
  | 0, _ => none
  | k + 1, (n7, l8) =>
    if (decide ((n7 : Int) < (((x3).length : Nat) : Int))) then (
    chk ((n7 : Int) < (((x3).length : Nat) : Int)) <|
    (f116 FUEL ((x3.getD n7 (default : Int × Int × List UInt8)).1)).bind fun (r9 : List UInt8) =>
    (f116 FUEL ((x3.getD n7 (default : Int × Int × List UInt8)).2.1)).bind fun (r10 : List UInt8) =>
    chk (((l8).length + 3) * 16 ≤ 140737488355328) <|
    chk (((n7 : Int) + (1 : Int)) ≤ 9223372036854775807) <|
    (f74_L0 x3 K1 k) ((n7 + 1), (l8 ++ [r9, r10, (x3.getD n7 (default : Int × Int × List UInt8)).2.2]))
    ) else (
    K1 l8
    )
def f74 (x1 : Int) (x2 : Int) (x3 : List (Int × Int × List UInt8)) : Option (List UInt8) :=
  if (x1 == (2 : Int)) then (
  (f116 FUEL x2).bind fun (r4 : List UInt8) =>
  (f115 ([([106, 111, 105, 110] : List UInt8), r4])).bind fun (r5 : List UInt8) =>
  some r5
  ) else (
  if (x1 == (3 : Int)) then (
  (f115 [cs11]).bind fun (r6 : List UInt8) =>
  some r6
  ) else (
  jn (fun (l11 : List (List UInt8)) =>
  (f115 l11).bind fun (r12 : List UInt8) =>
  some r12
  ) fun (K1 : (List (List UInt8)) → Option (List UInt8)) =>
  f74_L0 x3 K1 FUEL (0, [cs12])
  )
  )
def f41 (x1 : Int) (x2 : Int) (x3 : List (Int × Int × List UInt8)) : Option Int :=
  chk (((((!(x1 == (1 : Int))) && (!(x1 == (2 : Int)))) && (x1 != (3 : Int))) == false) = true → ((((!(x1 == (1 : Int))) && (!(x1 == (2 : Int)))) && (x1 != (3 : Int))) == false) = true → (!(x1 == (2 : Int))) = true → (((((!(x1 == (1 : Int))) && (!(x1 == (2 : Int)))) && (x1 != (3 : Int))) == false) && ((!(x1 == (2 : Int))) == true)) = true) <|
  chk ((((((((!(x1 == (1 : Int))) && (!(x1 == (2 : Int)))) && (x1 != (3 : Int))) || ((!(x1 == (2 : Int))) && (x2 != (0 : Int)))) || (decide (x2 < (0 : Int)))) || (decide (x2 ≥ (6 : Int)))) == false) = true → (((((((!(x1 == (1 : Int))) && (!(x1 == (2 : Int)))) && (x1 != (3 : Int))) || ((!(x1 == (2 : Int))) && (x2 != (0 : Int)))) || (decide (x2 < (0 : Int)))) || (decide (x2 ≥ (6 : Int)))) == false) = true → (!(x1 == (1 : Int))) = true → ((((((((!(x1 == (1 : Int))) && (!(x1 == (2 : Int)))) && (x1 != (3 : Int))) || ((!(x1 == (2 : Int))) && (x2 != (0 : Int)))) || (decide (x2 < (0 : Int)))) || (decide (x2 ≥ (6 : Int)))) == false) && ((!(x1 == (1 : Int))) == true)) = true) <|
  if (((((((!(x1 == (1 : Int))) && (!(x1 == (2 : Int)))) && (x1 != (3 : Int))) || ((!(x1 == (2 : Int))) && (x2 != (0 : Int)))) || (decide (x2 < (0 : Int)))) || (decide (x2 ≥ (6 : Int)))) || ((!(x1 == (1 : Int))) && (decide ((((x3).length : Nat) : Int) > (0 : Int))))) then (
  some (1 : Int)
  ) else (
  if (decide ((((x3).length : Nat) : Int) > (8 : Int))) then (
  some (3 : Int)
  ) else (
  (f73 x3).bind fun (r4 : Int) =>
  if (r4 != (0 : Int)) then (
  some r4
  ) else (
  (f74 x1 x2 x3).bind fun (r5 : List UInt8) =>
  if (decide (((r5.length : Nat) : Int) > (2000 : Int))) then (
  some (3 : Int)
  ) else (
  some (0 : Int)
  )
  )
  )
  )
def f42_L0 (x2 : List (Int × Int × List UInt8)) (x3 : Int) (K1 : Unit → Option (Int × Int × List UInt8 × Bool)) : Nat → Nat → Option (Int × Int × List UInt8 × Bool)
  | 0, _ => none
  | k + 1, n4 =>
    if (decide ((n4 : Int) < (((x2).length : Nat) : Int))) then (
    chk ((n4 : Int) < (((x2).length : Nat) : Int)) <|
    if ((x2.getD n4 (default : Int × Int × List UInt8)).1 == x3) then (
    chk ((n4 : Int) < (((x2).length : Nat) : Int)) <|
    some ((x2.getD n4 (default : Int × Int × List UInt8)).1, (x2.getD n4 (default : Int × Int × List UInt8)).2.1, (x2.getD n4 (default : Int × Int × List UInt8)).2.2, true)
    ) else (
    chk (((n4 : Int) + (1 : Int)) ≤ 9223372036854775807) <|
    (f42_L0 x2 x3 K1 k) (n4 + 1)
    )
    ) else (
    K1 ()
    )
def f42 (x1 : List (List UInt8 × List UInt8 × Int)) (x2 : List (Int × Int × List UInt8)) (x3 : Int) : Option (Int × Int × List UInt8 × Bool) :=
  jn (fun (_ : Unit) =>
  some ((0 : Int), (0 : Int), [], false)
  ) fun (K1 : Unit → Option (Int × Int × List UInt8 × Bool)) =>
  f42_L0 x2 x3 K1 FUEL 0
def f75_L0 (x1 : List UInt8) (K1 : (List (List UInt8)) → Option (List (List UInt8))) : Nat → (Nat × Nat × List (List UInt8)) → Option (List (List UInt8))
  | 0, _ => none
  | k + 1, (n2, n3, l4) =>
    if (decide ((n3 : Int) ≤ ((x1.length : Nat) : Int))) then (
    jn (fun ((n5, l6) : Nat × List (List UInt8)) =>
    chk (((n3 : Int) + (1 : Int)) ≤ 9223372036854775807) <|
    (f75_L0 x1 K1 k) (n5, (n3 + 1), l6)
    ) fun (K2 : (Nat × List (List UInt8)) → Option (List (List UInt8))) =>
    chk ((((n3 : Int) == ((x1.length : Nat) : Int)) == false) = true → 0 ≤ (n3 : Int) ∧ (n3 : Int) < ((x1.length : Nat) : Int)) <|
    if (((n3 : Int) == ((x1.length : Nat) : Int)) || ((((x1.getD n3 0).toNat : Nat) : Int) == (32 : Int))) then (
    chk ((n2 : Int) ≤ (n3 : Int) ∧ (n3 : Int) ≤ ((x1.length : Nat) : Int)) <|
    chk (((l4).length + 1) * 16 ≤ 140737488355328) <|
    chk (((n3 : Int) + (1 : Int)) ≤ 9223372036854775807) <|
    K2 ((n3 + 1), (l4 ++ [((x1.take n3).drop n2)]))
    ) else (
    K2 (n2, l4)
    )
    ) else (
    K1 l4
    )
def f75 (x1 : List UInt8) : Option (List (List UInt8)) :=
  jn (fun (l7 : List (List UInt8)) =>
  some l7
  ) fun (K1 : (List (List UInt8)) → Option (List (List UInt8))) =>
  f75_L0 x1 K1 FUEL (0, 0, [])
set_option maxRecDepth 100000 in
theorem f75_ok  (x1 : List UInt8) (r : List (List UInt8)) (h : f75 x1 = some r)  : Spec1 Tryz.prog 75 [] [] [] [.str x1] (.own 3000) [(3000, bL 9 1 eS [] r)] := by
  unfold f75 at h
  refine Spec1.body 0 _ _ Tryz.func75 rfl Tryz.ntmps75 rfl rfl ?_
  refine q1rq [] [] ⟨32, [(0, .str x1)], [], [], 0⟩ trivial ?_
  refine q1rq [] [] ⟨32, [(0, .str x1), (3, .nils)], [], [], 0⟩ trivial ?_
  refine q1rq [] [] ⟨32, [(0, .str x1), (3, .nils), (4, .i (0 : Int))], [], [], 0⟩ trivial ?_
  obtain ⟨K1, hK1, h⟩ := jn_some h
  refine AWp.join (α := List (List UInt8)) (fun (l7 : List (List UInt8)) => ⟨32, [(3, .own 5003)], [(5003, q1bS_9 l7)], [], 0⟩) (fun x => K1 x = some r) ?_ ?_
  ·
    refine q1rq [] [] ⟨32, [(0, .str x1), (3, .nils), (4, .i (0 : Int)), (5, .i (0 : Int))], [], [], 0⟩ trivial ?_
    refine AWp.block ?_
    refine AWp.loopL (α := Nat × (Nat × Nat × List (List UInt8))) (fun x => match x with | (_, n2, n3, l4) => ⟨32, [(0, .str x1), (3, .own 5003), (4, .i (n2 : Int)), (5, .i (n3 : Int))], [(5003, q1bS_9 l4)], [], 0⟩) (fun x => f75_L0 x1 K1 x.1 x.2 = some r) (fun x => x.1) (FUEL, 0, 0, []) (Le.trans (Le.trans (Le.nilOwn 3 5003 9 1 (encF eS [] []) rfl rfl (Nat.le_of_ble_eq_true rfl)) (Le.mk (s' := ⟨32, [(0, .str x1), (3, .own 5003), (4, .i (0 : Int)), (5, .i (0 : Int))], [(5003, q1bS_9 [])], [], 0⟩) rfl rfl ⟨.refl _, .refl _, .refl _, .refl _, trivial⟩ ⟨⟨_, rfl, .refl _⟩, trivial⟩)) (Le.mk (s' := ⟨32, [(0, .str x1), (3, .own 5003), (4, .i (0 : Int)), (5, .i (0 : Int))], [(5003, q1bS_9 [])], [], 0⟩) rfl rfl ⟨.refl _, .refl _, .refl _, .refl _, trivial⟩ ⟨⟨_, rfl, .refl _⟩, trivial⟩)) h ?_
    rintro ⟨k0, n2, n3, l4⟩ h
    cases k0 with
    | zero => exact nomatch (show (none : Option (List (List UInt8))) = some r from h)
    | succ k0 =>
    obtain ⟨C0, hC0⟩ : ∃ C, C = f75_L0 x1 K1 k0 := ⟨_, rfl⟩
    replace h := (f75_L0.eq_2 ..).symm.trans h
    try rw [← hC0] at h
    refine AWp.seq ?_
    refine q1rq [] [] ⟨32, [(0, .str x1), (3, .own 5003), (4, .i (n2 : Int)), (5, .i (n3 : Int)), (9, .bool (decide ((n3 : Int) ≤ (lZ x1))))], [(5003, q1bS_9 l4)], [], 0⟩ trivial ?_
    refine AWp.cond (b := (decide ((n3 : Int) ≤ (lZ x1)))) (by kernel_rfl) (fun hc1 => ?_) (fun hc1 => ?_)
    ·
      replace h := ite_tb hc1 h
      refine AWp.skip ?_
      refine thenQ_normal ?_
      obtain ⟨K2, hK2, h⟩ := jn_some h
      refine AWp.join (α := Nat × List (List UInt8)) (fun (x : Nat × List (List UInt8)) => match x with | (n5, l6) => ⟨32, [(0, .str x1), (3, .own 28), (4, .i (n5 : Int)), (5, .i (n3 : Int))], [(28, q1bS_9 l6)], [], 0⟩) (fun x => K2 x = some r) ?_ ?_
      ·
        refine AWp.block ?_
        refine AWp.seq ?_
        obtain ⟨ob0, h⟩ := chk_some h
        have ob1 := idA ((((n3 : Int) == (lZ x1)) == false) = true)
        have ob4 := bqA ((n3 : Int) == (lZ x1)) false
        refine q1rr [] [] ⟨32, [(0, .str x1), (3, .own 5003), (4, .i (n2 : Int)), (5, .i (n3 : Int)), (21, .bool (((n3 : Int) == (lZ x1)) || ((((x1.getD n3 0).toNat : Nat) : Int) == (32 : Int))))], [(5003, q1bS_9 l4)], [], 0⟩ (an3 (And.intro ob0 (an2 ob1 ob1)) (an1 ob1) ob4) ?_
        refine thenQ_normal ?_
        refine AWp.cond (b := (((n3 : Int) == (lZ x1)) || ((((x1.getD n3 0).toNat : Nat) : Int) == (32 : Int)))) (by kernel_rfl) (fun hc2 => ?_) (fun hc2 => ?_)
        ·
          replace h := ite_tb hc2 h
          refine AWp.seq ?_
          obtain ⟨ob5p, h⟩ := chk_some h
          have ob5 : 0 ≤ (n2 : Int) ∧ (n2 : Int) ≤ (n3 : Int) ∧ (n3 : Int) ≤ ((x1.length : Nat) : Int) := ⟨by omega, ob5p.1, ob5p.2⟩
          obtain ⟨ob6, h⟩ := chk_some h
          refine q1rr [] [] ⟨32, [(0, .str x1), (3, .own 5003), (5, .i (n3 : Int))], [(5003, .rows 9 1 ((l4).length + 1) (appF (l4).length (encF eS [] l4) (lstF 1 [.str ((x1.take n3).drop n2)])))], [], 0⟩ (an2 ob5 ob6) ?_
          refine thenQ_normal ?_
          refine AWp.le (Le.mk (s' := ⟨32, [(0, .str x1), (3, .own 5003), (5, .i (n3 : Int))], [(5003, q1bS_9 (l4 ++ [((x1.take n3).drop n2)]))], [], 0⟩) rfl rfl ⟨.refl _, .refl _, .refl _, trivial⟩ ⟨⟨_, rfl, (BLe.of (RL.app (RL.self _) (RL.lst (enc := eS) [((x1.take n3).drop n2)] rfl rfl (fun _ => rfl))))⟩, trivial⟩) ?_
          obtain ⟨ob7p, h⟩ := chk_some h
          have ob7 : -9223372036854775808 ≤ ((n3 : Int) + (1 : Int)) ∧ ((n3 : Int) + (1 : Int)) ≤ 9223372036854775807 := ⟨by omega, ob7p⟩
          refine q1rr [] [] ⟨32, [(0, .str x1), (3, .own 5003), (4, .i (((n3 + 1) : Nat) : Int)), (5, .i (n3 : Int))], [(5003, q1bS_9 (l4 ++ [((x1.take n3).drop n2)]))], [], 0⟩ (an1 ob7) ?_
          refine blockQ_normal ?_
          exact joinQ_normal ((n3 + 1), (l4 ++ [((x1.take n3).drop n2)])) (Le.trans (Le.trans (Le.ren (swapN 5003 28) (swapN_inv 5003 28) rfl) (Le.mk (s' := ⟨32, [(0, .str x1), (3, .own 28), (4, .i (((n3 + 1) : Nat) : Int)), (5, .i (n3 : Int))], [(28, q1bS_9 (l4 ++ [((x1.take n3).drop n2)]))], [], 0⟩) rfl rfl ⟨.refl _, .refl _, .refl _, .refl _, trivial⟩ ⟨⟨_, rfl, .refl _⟩, trivial⟩)) (Le.mk rfl rfl ⟨.refl _, .refl _, .refl _, .refl _, trivial⟩ ⟨⟨_, rfl, .refl _⟩, trivial⟩)) h
        ·
          replace h := ite_fb hc2 h
          refine AWp.skip ?_
          refine blockQ_normal ?_
          exact joinQ_normal (n2, l4) (Le.trans (Le.trans (Le.ren (swapN 5003 28) (swapN_inv 5003 28) rfl) (Le.mk (s' := ⟨32, [(0, .str x1), (3, .own 28), (4, .i (n2 : Int)), (5, .i (n3 : Int)), (21, .bool (((n3 : Int) == (lZ x1)) || ((((x1.getD n3 0).toNat : Nat) : Int) == (32 : Int))))], [(28, q1bS_9 l4)], [], 0⟩) rfl rfl ⟨.refl _, .refl _, .refl _, .refl _, .refl _, trivial⟩ ⟨⟨_, rfl, .refl _⟩, trivial⟩)) (Le.mk rfl rfl ⟨.refl _, .refl _, .refl _, .refl _, trivial⟩ ⟨⟨_, rfl, .refl _⟩, trivial⟩)) h
      ·
        rintro ⟨n5, l6⟩ h
        replace h := (congrFun hK2 _).symm.trans h
        obtain ⟨ob8p, h⟩ := chk_some h
        have ob8 : -9223372036854775808 ≤ ((n3 : Int) + (1 : Int)) ∧ ((n3 : Int) + (1 : Int)) ≤ 9223372036854775807 := ⟨by omega, ob8p⟩
        refine q1rr [] [] ⟨32, [(0, .str x1), (3, .own 28), (4, .i (n5 : Int)), (5, .i (((n3 + 1) : Nat) : Int))], [(28, q1bS_9 l6)], [], 0⟩ (an1 ob8) ?_
        rw [hC0] at h
        exact loopQ_normal (_, n5, (n3 + 1), l6) (Le.trans (Le.trans (Le.ren (swapN 28 5003) (swapN_inv 28 5003) rfl) (Le.mk (s' := ⟨32, [(0, .str x1), (3, .own 5003), (4, .i (n5 : Int)), (5, .i (((n3 + 1) : Nat) : Int))], [(5003, q1bS_9 l6)], [], 0⟩) rfl rfl ⟨.refl _, .refl _, .refl _, .refl _, trivial⟩ ⟨⟨_, rfl, .refl _⟩, trivial⟩)) (Le.mk rfl rfl ⟨.refl _, .refl _, .refl _, .refl _, trivial⟩ ⟨⟨_, rfl, .refl _⟩, trivial⟩)) h (Nat.lt_succ_self _)
    ·
      replace h := ite_fb hc1 h
      refine AWp.exit ?_
      refine thenQ_exit ?_
      refine thenQ_exit ?_
      refine blockQ_same ?_
      exact joinQ_normal (l4) (Le.mk rfl rfl ⟨.refl _, trivial⟩ ⟨⟨_, rfl, .refl _⟩, trivial⟩) h
  ·
    rintro l7 h
    replace h := (congrFun hK1 _).symm.trans h
    refine q1rq [] [] ⟨32, [(2, .own 5003)], [(5003, q1bS_9 l7)], [], 0⟩ trivial ?_
    refine AWp.le (Le.trans (Le.ren (swapN 5003 3000) (swapN_inv 5003 3000) rfl) (Le.mk (s' := ⟨32, [(2, .own 3000)], [(3000, q1bS_9 l7)], [], 0⟩) rfl rfl ⟨.refl _, trivial⟩ ⟨⟨_, rfl, .refl _⟩, trivial⟩)) ?_
    have hret := Option.some.inj h
    subst hret
    refine AWp.le (Le.mk (s' := ⟨32, [(2, .own 3000)], [(3000, q1bS_9 l7)], [], 0⟩) rfl rfl ⟨.refl _, trivial⟩ ⟨⟨_, rfl, .refl _⟩, trivial⟩) ?_
    refine AWp.ret ?_
    exact bodyQ_ret _ rfl ⟨rfl, rfl⟩ rfl
def f76 (x1 : Int) : Option (List UInt8) :=
  if ((decide (x1 < (1 : Int))) || (decide (x1 > (6 : Int)))) then (
  some []
  ) else (
  chk (-9223372036854775808 ≤ (x1 - (1 : Int)) ∧ (x1 - (1 : Int)) ≤ 9223372036854775807) <|
  chk (0 ≤ (x1 - (1 : Int)) ∧ (x1 - (1 : Int)) < (6 : Int)) <|
  chk ((((x1 - (1 : Int))).toNat) < 6) <|
  some (([([112, 117, 116] : List UInt8), ([103, 101, 116] : List UInt8), cs4, cs5, ([99, 97, 115] : List UInt8), cs6] : List (List UInt8)).getD (((x1 - (1 : Int))).toNat) [])
  )
def f126_L0 (x1 : List UInt8) (K1 : Unit → Option Bool) : Nat → Nat → Option Bool
  | 0, _ => none
  | k + 1, n3 =>
    if (decide ((n3 : Int) < ((x1.length : Nat) : Int))) then (
    chk ((n3 : Int) < ((x1.length : Nat) : Int)) <|
    chk (((decide ((((x1.getD n3 0).toNat : Nat) : Int) < (33 : Int))) == false) = true → 0 ≤ (n3 : Int) ∧ (n3 : Int) < ((x1.length : Nat) : Int)) <|
    if ((decide ((((x1.getD n3 0).toNat : Nat) : Int) < (33 : Int))) || (decide ((((x1.getD n3 0).toNat : Nat) : Int) > (126 : Int)))) then (
    some false
    ) else (
    chk (((n3 : Int) + (1 : Int)) ≤ 9223372036854775807) <|
    (f126_L0 x1 K1 k) (n3 + 1)
    )
    ) else (
    K1 ()
    )
theorem f126_L0_e2 (x1 : List UInt8) (K1 : Unit → Option Bool) (k : Nat) (n3 : Nat) : f126_L0 x1 K1 (k + 1) n3 =
    if (decide ((n3 : Int) < ((x1.length : Nat) : Int))) then (
    chk ((n3 : Int) < ((x1.length : Nat) : Int)) <|
    chk (((decide ((((x1.getD n3 0).toNat : Nat) : Int) < (33 : Int))) == false) = true → 0 ≤ (n3 : Int) ∧ (n3 : Int) < ((x1.length : Nat) : Int)) <|
    if ((decide ((((x1.getD n3 0).toNat : Nat) : Int) < (33 : Int))) || (decide ((((x1.getD n3 0).toNat : Nat) : Int) > (126 : Int)))) then (
    some false
    ) else (
    chk (((n3 : Int) + (1 : Int)) ≤ 9223372036854775807) <|
    (f126_L0 x1 K1 k) (n3 + 1)
    )
    ) else (
    K1 ()
    ) := rfl
def f126 (x1 : List UInt8) (x2 : Int) : Option Bool :=
  jn (fun (_ : Unit) =>
  some ((decide (((x1.length : Nat) : Int) ≥ (1 : Int))) && (decide (((x1.length : Nat) : Int) ≤ x2)))
  ) fun (K1 : Unit → Option Bool) =>
  f126_L0 x1 K1 FUEL 0
set_option maxRecDepth 100000 in
theorem f126_ok  (x1 : List UInt8) (x2 : Int) (r : Bool) (h : f126 x1 x2 = some r)  : Spec1 Tryz.prog 126 [] [] [] [.str x1, .int .i64 x2] (.bool r) [] := by
  unfold f126 at h
  refine Spec1.body 0 _ _ Tryz.func126 rfl Tryz.ntmps126 rfl rfl ?_
  refine q1rq [] [] ⟨31, [(0, .str x1), (1, .i x2)], [], [], 0⟩ trivial ?_
  obtain ⟨K1, hK1, h⟩ := jn_some h
  refine AWp.join (α := Unit) (fun (x : Unit) => match x with | () => ⟨31, [(0, .str x1), (1, .i x2)], [], [], 0⟩) (fun x => K1 x = some r) ?_ ?_
  ·
    refine q1rq [] [] ⟨31, [(0, .str x1), (1, .i x2), (5, .i (0 : Int))], [], [], 0⟩ trivial ?_
    refine AWp.block ?_
    refine AWp.loopL (α := Nat × Nat) (fun x => match x with | (_, n3) => ⟨31, [(0, .str x1), (1, .i x2), (5, .i (n3 : Int))], [], [], 0⟩) (fun x => f126_L0 x1 K1 x.1 x.2 = some r) (fun x => x.1) (FUEL, 0) (Le.mk (s' := ⟨31, [(0, .str x1), (1, .i x2), (5, .i (0 : Int))], [], [], 0⟩) rfl rfl ⟨.refl _, .refl _, .refl _, trivial⟩ trivial) h ?_
    rintro ⟨k0, n3⟩ h
    cases k0 with
    | zero => exact nomatch (show (none : Option Bool) = some r from h)
    | succ k0 =>
    obtain ⟨C0, hC0⟩ : ∃ C, C = f126_L0 x1 K1 k0 := ⟨_, rfl⟩
    replace h := (f126_L0_e2 ..).symm.trans h
    try rw [← hC0] at h
    refine AWp.seq ?_
    refine q1rq [] [] ⟨31, [(0, .str x1), (1, .i x2), (5, .i (n3 : Int)), (9, .bool (decide ((n3 : Int) < (lZ x1))))], [], [], 0⟩ trivial ?_
    refine AWp.cond (b := (decide ((n3 : Int) < (lZ x1)))) (by kernel_rfl) (fun hc1 => ?_) (fun hc1 => ?_)
    ·
      replace h := ite_tb hc1 h
      refine AWp.skip ?_
      refine thenQ_normal ?_
      refine AWp.seq ?_
      refine AWp.block ?_
      refine AWp.seq ?_
      obtain ⟨ob0p, h⟩ := chk_some h
      have ob0 : 0 ≤ (n3 : Int) ∧ (n3 : Int) < ((x1.length : Nat) : Int) := ⟨by omega, ob0p⟩
      obtain ⟨ob1, h⟩ := chk_some h
      have ob2 := idA (((decide ((((x1.getD n3 0).toNat : Nat) : Int) < (33 : Int))) == false) = true)
      have ob5 := bqA (decide ((((x1.getD n3 0).toNat : Nat) : Int) < (33 : Int))) false
      refine q1rr [] [] ⟨31, [(0, .str x1), (1, .i x2), (5, .i (n3 : Int)), (21, .bool ((decide ((((x1.getD n3 0).toNat : Nat) : Int) < (33 : Int))) || (decide ((((x1.getD n3 0).toNat : Nat) : Int) > (126 : Int)))))], [], [], 0⟩ (an4 ob0 (And.intro ob1 (an2 ob2 ob2)) (an1 ob2) ob5) ?_
      refine thenQ_normal ?_
      refine AWp.cond (b := ((decide ((((x1.getD n3 0).toNat : Nat) : Int) < (33 : Int))) || (decide ((((x1.getD n3 0).toNat : Nat) : Int) > (126 : Int))))) (by kernel_rfl) (fun hc2 => ?_) (fun hc2 => ?_)
      ·
        replace h := ite_tb hc2 h
        refine q1rq [] [] ⟨31, [(4, .bool false)], [], [], 0⟩ trivial ?_
        have hret := Option.some.inj h
        subst hret
        refine AWp.ret ?_
        refine blockQ_ret ?_
        refine thenQ_ret ?_
        refine thenQ_ret ?_
        refine blockQ_ret ?_
        refine joinQ_ret ?_
        exact bodyQ_ret _ rfl ⟨rfl, rfl⟩ rfl
      ·
        replace h := ite_fb hc2 h
        refine AWp.skip ?_
        refine blockQ_normal ?_
        refine thenQ_normal ?_
        obtain ⟨ob6p, h⟩ := chk_some h
        have ob6 : -9223372036854775808 ≤ ((n3 : Int) + (1 : Int)) ∧ ((n3 : Int) + (1 : Int)) ≤ 9223372036854775807 := ⟨by omega, ob6p⟩
        refine q1rr [] [] ⟨31, [(0, .str x1), (1, .i x2), (5, .i (((n3 + 1) : Nat) : Int))], [], [], 0⟩ (an1 ob6) ?_
        rw [hC0] at h
        exact loopQ_normal (_, (n3 + 1)) (Le.mk rfl rfl ⟨.refl _, .refl _, .refl _, trivial⟩ trivial) h (Nat.lt_succ_self _)
    ·
      replace h := ite_fb hc1 h
      refine AWp.exit ?_
      refine thenQ_exit ?_
      refine thenQ_exit ?_
      refine blockQ_same ?_
      exact joinQ_normal () (Le.mk rfl rfl ⟨.refl _, .refl _, trivial⟩ trivial) h
  ·
    rintro ⟨⟩ h
    replace h := (congrFun hK1 _).symm.trans h
    refine AWp.seq ?_
    have ob7 := idA (((decide ((lZ x1) ≥ (1 : Int))) == true) = true)
    have ob10 := bqA (decide ((lZ x1) ≥ (1 : Int))) true
    refine q1rr [] [] ⟨31, [(4, .bool ((decide ((lZ x1) ≥ (1 : Int))) && (decide ((lZ x1) ≤ x2))))], [], [], 0⟩ (an3 (an1 ob7) (an2 ob7 ob7) ob10) ?_
    refine thenQ_normal ?_
    have hret := Option.some.inj h
    subst hret
    refine AWp.ret ?_
    exact bodyQ_ret _ rfl ⟨rfl, rfl⟩ rfl
def f117 (x1 : List UInt8) : Option Bool :=
  (f126 x1 (64 : Int)).bind fun (r2 : Bool) =>
  some r2
set_option maxRecDepth 100000 in
theorem f117_ok  (x1 : List UInt8) (r : Bool) (h : f117 x1 = some r)  : Spec1 Tryz.prog 117 [] [] [] [.str x1] (.bool r) [] := by
  unfold f117 at h
  refine Spec1.body 0 _ _ Tryz.func117 rfl Tryz.ntmps117 rfl rfl ?_
  refine q1rq [] [] ⟨5, [(0, .str x1)], [], [], 0⟩ trivial ?_
  refine AWp.seq ?_
  obtain ⟨r2, hr2, h⟩ := bind_ok h
  refine q1rr [] [(1, ⟨[.str x1, .i (64 : Int)], [], [], [], .bool r2, [], [], []⟩)] ⟨5, [(2, .bool r2)], [], [], 0⟩ (an1 (cpT (f126_ok _ _ _ hr2))) ?_
  refine thenQ_normal ?_
  have hret := Option.some.inj h
  subst hret
  refine AWp.ret ?_
  exact bodyQ_ret _ rfl ⟨rfl, rfl⟩ rfl
def f77 (x1 : Int) (x2 : List UInt8) (x3 : List UInt8) (x4 : List UInt8) : Option (List UInt8 × Int) :=
  (f76 x1).bind fun (r5 : List UInt8) =>
  optc ((r5 == []) == false) (f117 x2) fun (r6 : Bool) =>
  optc ((((r5 == []) || (!((x1 != (6 : Int)) == r6))) || ((!(x1 != (6 : Int))) && (!(x2 == [])))) == false) (f117 x3) fun (r7 : Bool) =>
  optc ((((((r5 == []) || (!((x1 != (6 : Int)) == r6))) || ((!(x1 != (6 : Int))) && (!(x2 == [])))) || (!((x1 == (5 : Int)) == r7))) || ((!(x1 == (5 : Int))) && (!(x3 == [])))) == false) (f117 x4) fun (r8 : Bool) =>
  chk ((((r5 == []) || (!((x1 != (6 : Int)) == r6))) == false) = true → (((r5 == []) || (!((x1 != (6 : Int)) == r6))) == false) = true → (!(x1 != (6 : Int))) = true → ((((r5 == []) || (!((x1 != (6 : Int)) == r6))) == false) && ((!(x1 != (6 : Int))) == true)) = true) <|
  chk ((((((r5 == []) || (!((x1 != (6 : Int)) == r6))) || ((!(x1 != (6 : Int))) && (!(x2 == [])))) || (!((x1 == (5 : Int)) == r7))) == false) = true → (((((r5 == []) || (!((x1 != (6 : Int)) == r6))) || ((!(x1 != (6 : Int))) && (!(x2 == [])))) || (!((x1 == (5 : Int)) == r7))) == false) = true → (!(x1 == (5 : Int))) = true → ((((((r5 == []) || (!((x1 != (6 : Int)) == r6))) || ((!(x1 != (6 : Int))) && (!(x2 == [])))) || (!((x1 == (5 : Int)) == r7))) == false) && ((!(x1 == (5 : Int))) == true)) = true) <|
  chk ((((((((r5 == []) || (!((x1 != (6 : Int)) == r6))) || ((!(x1 != (6 : Int))) && (!(x2 == [])))) || (!((x1 == (5 : Int)) == r7))) || ((!(x1 == (5 : Int))) && (!(x3 == [])))) || (!((((x1 == (1 : Int)) || (x1 == (4 : Int))) || (x1 == (5 : Int))) == r8))) == false) = true → (((((((r5 == []) || (!((x1 != (6 : Int)) == r6))) || ((!(x1 != (6 : Int))) && (!(x2 == [])))) || (!((x1 == (5 : Int)) == r7))) || ((!(x1 == (5 : Int))) && (!(x3 == [])))) || (!((((x1 == (1 : Int)) || (x1 == (4 : Int))) || (x1 == (5 : Int))) == r8))) == false) = true → (!(((x1 == (1 : Int)) || (x1 == (4 : Int))) || (x1 == (5 : Int)))) = true → ((((((((r5 == []) || (!((x1 != (6 : Int)) == r6))) || ((!(x1 != (6 : Int))) && (!(x2 == [])))) || (!((x1 == (5 : Int)) == r7))) || ((!(x1 == (5 : Int))) && (!(x3 == [])))) || (!((((x1 == (1 : Int)) || (x1 == (4 : Int))) || (x1 == (5 : Int))) == r8))) == false) && ((!(((x1 == (1 : Int)) || (x1 == (4 : Int))) || (x1 == (5 : Int)))) == true)) = true) <|
  if (((((((r5 == []) || (!((x1 != (6 : Int)) == r6))) || ((!(x1 != (6 : Int))) && (!(x2 == [])))) || (!((x1 == (5 : Int)) == r7))) || ((!(x1 == (5 : Int))) && (!(x3 == [])))) || (!((((x1 == (1 : Int)) || (x1 == (4 : Int))) || (x1 == (5 : Int))) == r8))) || ((!(((x1 == (1 : Int)) || (x1 == (4 : Int))) || (x1 == (5 : Int)))) && (!(x4 == [])))) then (
  some ([], (1 : Int))
  ) else (
  (f76 x1).bind fun (r9 : List UInt8) =>
  jn (fun (s10 : List UInt8) =>
  jn (fun (s11 : List UInt8) =>
  jn (fun (s12 : List UInt8) =>
  some (s12, (0 : Int))
  ) fun (K3 : (List UInt8) → Option (List UInt8 × Int)) =>
  if (((x1 == (1 : Int)) || (x1 == (4 : Int))) || (x1 == (5 : Int))) then (
  chk (s11.length + ([32] : List UInt8).length ≤ 9223372036854775807) <|
  chk ((s11 ++ ([32] : List UInt8)).length + x4.length ≤ 9223372036854775807) <|
  K3 ((s11 ++ ([32] : List UInt8)) ++ x4)
  ) else (
  K3 s11
  )
  ) fun (K2 : (List UInt8) → Option (List UInt8 × Int)) =>
  if (x1 == (5 : Int)) then (
  chk (s10.length + ([32] : List UInt8).length ≤ 9223372036854775807) <|
  chk ((s10 ++ ([32] : List UInt8)).length + x3.length ≤ 9223372036854775807) <|
  K2 ((s10 ++ ([32] : List UInt8)) ++ x3)
  ) else (
  K2 s10
  )
  ) fun (K1 : (List UInt8) → Option (List UInt8 × Int)) =>
  if (x1 != (6 : Int)) then (
  chk (r9.length + ([32] : List UInt8).length ≤ 9223372036854775807) <|
  chk ((r9 ++ ([32] : List UInt8)).length + x2.length ≤ 9223372036854775807) <|
  K1 ((r9 ++ ([32] : List UInt8)) ++ x2)
  ) else (
  K1 r9
  )
  )
def f43_L0 (x1 : List UInt8) (r2 : List (List UInt8)) (K1 : Unit → Option (Int × List UInt8 × List UInt8 × List UInt8 × Int)) : Nat → Nat → Option (Int × List UInt8 × List UInt8 × List UInt8 × Int)
  | 0, _ => none
  | k + 1, n3 =>
    if (decide ((n3 : Int) ≤ (6 : Int))) then (
    jn (fun (_ : Unit) =>
    chk (((n3 : Int) + (1 : Int)) ≤ 9223372036854775807) <|
    (f43_L0 x1 r2 K1 k) (n3 + 1)
    ) fun (K2 : Unit → Option (Int × List UInt8 × List UInt8 × List UInt8 × Int)) =>
    (f76 (n3 : Int)).bind fun (r4 : List UInt8) =>
    chk ((0 : Int) < (((r2).length : Nat) : Int)) <|
    chk (0 < (r2).length) <|
    if (!((r2.getD 0 []) == r4)) then (
    K2 ()
    ) else (
    jn (fun (s5 : List UInt8) =>
    jn (fun (s6 : List UInt8) =>
    jn (fun (s7 : List UInt8) =>
    jn (fun (s8 : List UInt8) =>
    (f77 (n3 : Int) s5 s6 s8).bind fun (r9 : List UInt8 × Int) =>
    if ((r9.2 == (0 : Int)) && (r9.1 == x1)) then (
    some ((n3 : Int), s5, s6, s8, (0 : Int))
    ) else (
    K2 ()
    )
    ) fun (K6 : (List UInt8) → Option (Int × List UInt8 × List UInt8 × List UInt8 × Int)) =>
    if (((n3 : Int) == (5 : Int)) && (decide ((((r2).length : Nat) : Int) > (3 : Int)))) then (
    chk ((3 : Int) < (((r2).length : Nat) : Int)) <|
    chk (3 < (r2).length) <|
    K6 (r2.getD 3 [])
    ) else (
    K6 s7
    )
    ) fun (K5 : (List UInt8) → Option (Int × List UInt8 × List UInt8 × List UInt8 × Int)) =>
    if (((n3 : Int) != (5 : Int)) && (decide ((((r2).length : Nat) : Int) > (2 : Int)))) then (
    chk ((2 : Int) < (((r2).length : Nat) : Int)) <|
    chk (2 < (r2).length) <|
    K5 (r2.getD 2 [])
    ) else (
    K5 []
    )
    ) fun (K4 : (List UInt8) → Option (Int × List UInt8 × List UInt8 × List UInt8 × Int)) =>
    if (((n3 : Int) == (5 : Int)) && (decide ((((r2).length : Nat) : Int) > (2 : Int)))) then (
    chk ((2 : Int) < (((r2).length : Nat) : Int)) <|
    chk (2 < (r2).length) <|
    K4 (r2.getD 2 [])
    ) else (
    K4 []
    )
    ) fun (K3 : (List UInt8) → Option (Int × List UInt8 × List UInt8 × List UInt8 × Int)) =>
    if (decide ((((r2).length : Nat) : Int) > (1 : Int))) then (
    chk ((1 : Int) < (((r2).length : Nat) : Int)) <|
    chk (1 < (r2).length) <|
    K3 (r2.getD 1 [])
    ) else (
    K3 []
    )
    )
    ) else (
    K1 ()
    )
def f43 (x1 : List UInt8) : Option (Int × List UInt8 × List UInt8 × List UInt8 × Int) :=
  (f75 x1).bind fun (r2 : List (List UInt8)) =>
  jn (fun (_ : Unit) =>
  some ((0 : Int), [], [], [], (2 : Int))
  ) fun (K1 : Unit → Option (Int × List UInt8 × List UInt8 × List UInt8 × Int)) =>
  f43_L0 x1 r2 K1 FUEL 1
def f78_L0 (x1 : List (List UInt8 × List UInt8 × Int)) (x2 : List UInt8) (K1 : Unit → Option Int) : Nat → Nat → Option Int
  | 0, _ => none
  | k + 1, n3 =>
    if (decide ((n3 : Int) < (((x1).length : Nat) : Int))) then (
    chk ((n3 : Int) < (((x1).length : Nat) : Int)) <|
    if (((x1.getD n3 (default : List UInt8 × List UInt8 × Int)).1) == x2) then (
    some (n3 : Int)
    ) else (
    chk (((n3 : Int) + (1 : Int)) ≤ 9223372036854775807) <|
    (f78_L0 x1 x2 K1 k) (n3 + 1)
    )
    ) else (
    K1 ()
    )
def f78 (x1 : List (List UInt8 × List UInt8 × Int)) (x2 : List UInt8) : Option Int :=
  jn (fun (_ : Unit) =>
  some (-1 : Int)
  ) fun (K1 : Unit → Option Int) =>
  f78_L0 x1 x2 K1 FUEL 0
def f79 : Nat → Int → Option (List UInt8)
  | 0, _ => none
  | k + 1, x1 =>
    if (decide (x1 < (10 : Int))) then (
    chk (-9223372036854775808 ≤ ((48 : Int) + x1) ∧ ((48 : Int) + x1) ≤ 9223372036854775807) <|
    chk (0 ≤ ((48 : Int) + x1) ∧ ((48 : Int) + x1) ≤ 255) <|
    some [UInt8.ofNat ((((48 : Int) + x1)).toNat)]
    ) else (
    ((f79 k) (x1 / (10 : Int))).bind fun (r2 : List UInt8) =>
    chk (0 ≤ x1 ∧ 1 ≤ (10 : Int) ∧ -9223372036854775808 ≤ (x1 / (10 : Int)) ∧ (x1 / (10 : Int)) ≤ 9223372036854775807) <|
    chk (0 ≤ x1 ∧ 1 ≤ (10 : Int)) <|
    chk (-9223372036854775808 ≤ ((48 : Int) + (x1 % (10 : Int))) ∧ ((48 : Int) + (x1 % (10 : Int))) ≤ 9223372036854775807) <|
    chk (0 ≤ ((48 : Int) + (x1 % (10 : Int))) ∧ ((48 : Int) + (x1 % (10 : Int))) ≤ 255) <|
    chk (r2.length + [UInt8.ofNat ((((48 : Int) + (x1 % (10 : Int)))).toNat)].length ≤ 9223372036854775807) <|
    some (r2 ++ [UInt8.ofNat ((((48 : Int) + (x1 % (10 : Int)))).toNat)])
    )
set_option maxRecDepth 100000 in
theorem f79_ok : ∀ (k : Nat) (x1 : Int) (r : List UInt8), f79 k x1 = some r → Spec1 Tryz.prog 79 [] [] [] [.int .i64 x1] (.str r) [] := by
  intro k
  induction k with
  | zero => intro x1 r h; exact nomatch (show (none : Option (List UInt8)) = some r from h)
  | succ k ih =>
  intro x1 r h
  obtain ⟨Frec, hFrec⟩ : ∃ C, C = f79 k := ⟨_, rfl⟩
  rw [f79.eq_2] at h
  rw [← hFrec] at h ih
  refine Spec1.body 0 _ _ Tryz.func79 rfl Tryz.ntmps79 rfl rfl ?_
  refine q1rq [] [] ⟨20, [(0, .i x1)], [], [], 0⟩ trivial ?_
  refine AWp.seq ?_
  refine q1rq [] [] ⟨20, [(0, .i x1), (4, .bool (decide (x1 < (10 : Int))))], [], [], 0⟩ trivial ?_
  refine AWp.cond (b := (decide (x1 < (10 : Int)))) (by kernel_rfl) (fun hc1 => ?_) (fun hc1 => ?_)
  ·
    replace h := ite_tb hc1 h
    refine AWp.seq ?_
    obtain ⟨ob0, ob1, h⟩ := ck2 h
    have ob2 : ∀ i, i < 1 → isByte ((lstF 1 [.int .u8 ((48 : Int) + x1)]) i 0) := fun i hi => match i, hi with | 0, _ => trivial
    refine q1rr [] [] ⟨20, [(2, .str [UInt8.ofNat ((((48 : Int) + x1)).toNat)])], [], [], 0⟩ (an3 ob0 ob1 ob2) ?_
    refine thenQ_normal ?_
    have hret := Option.some.inj h
    subst hret
    refine AWp.ret ?_
    refine thenQ_ret ?_
    exact bodyQ_ret _ rfl ⟨rfl, rfl⟩ rfl
  ·
    replace h := ite_fb hc1 h
    refine AWp.skip ?_
    refine thenQ_normal ?_
    refine AWp.seq ?_
    obtain ⟨r2, hr2, h⟩ := bind_ok h
    obtain ⟨ob3, ob4, ob5, ob6, h⟩ := ck4 h
    have ob7 : ∀ i, i < 1 → isByte ((lstF 1 [.int .u8 ((48 : Int) + (x1 % (10 : Int)))]) i 0) := fun i hi => match i, hi with | 0, _ => trivial
    obtain ⟨ob8, h⟩ := chk_some h
    refine q1rr [] [(2, ⟨[.i (x1 / (10 : Int))], [], [], [], .str r2, [], [], []⟩)] ⟨20, [(2, .str (r2 ++ [UInt8.ofNat ((((48 : Int) + (x1 % (10 : Int)))).toNat)]))], [], [], 0⟩ (ac6 ob3 (cpT (ih _ _ hr2)) ob4 ob5 ob6 ob7 (an1 ob8)) ?_
    refine thenQ_normal ?_
    have hret := Option.some.inj h
    subst hret
    refine AWp.ret ?_
    exact bodyQ_ret _ rfl ⟨rfl, rfl⟩ rfl
def f80_L0 (x1 : List (List UInt8 × List UInt8 × Int)) (x2 : List UInt8) (x3 : List UInt8) (K1 : (Bool × (List (List UInt8 × List UInt8 × Int))) → Option (List (List UInt8 × List UInt8 × Int))) : Nat → (Bool × Nat × (List (List UInt8 × List UInt8 × Int))) → Option (List (List UInt8 × List UInt8 × Int))
  | 0, _ => none
  | k + 1, (b4, n5, l6) =>
    if (decide ((n5 : Int) < (((x1).length : Nat) : Int))) then (
    jn (fun ((b7, l8) : Bool × (List (List UInt8 × List UInt8 × Int))) =>
    chk (((n5 : Int) + (1 : Int)) ≤ 9223372036854775807) <|
    (f80_L0 x1 x2 x3 K1 k) (b7, (n5 + 1), l8)
    ) fun (K2 : (Bool × (List (List UInt8 × List UInt8 × Int))) → Option (List (List UInt8 × List UInt8 × Int))) =>
    chk ((n5 : Int) < (((x1).length : Nat) : Int)) <|
    if (((x1.getD n5 (default : List UInt8 × List UInt8 × Int)).1) == x2) then (
    chk ((n5 : Int) < (((x1).length : Nat) : Int)) <|
    chk (-9223372036854775808 ≤ ((x1.getD n5 (default : List UInt8 × List UInt8 × Int)).2.2 + (1 : Int)) ∧ ((x1.getD n5 (default : List UInt8 × List UInt8 × Int)).2.2 + (1 : Int)) ≤ 9223372036854775807) <|
    chk (((l6).length + 1) * 40 ≤ 140737488355328) <|
    K2 (true, (l6 ++ [(x2, x3, (min ((x1.getD n5 (default : List UInt8 × List UInt8 × Int)).2.2 + (1 : Int)) (1000000000000 : Int)))]))
    ) else (
    jn (fun ((b9, l10) : Bool × (List (List UInt8 × List UInt8 × Int))) =>
    chk ((n5 : Int) < (((x1).length : Nat) : Int)) <|
    chk (((l10).length + 1) * 40 ≤ 140737488355328) <|
    K2 (b9, (l10 ++ [((x1.getD n5 (default : List UInt8 × List UInt8 × Int)).1, (x1.getD n5 (default : List UInt8 × List UInt8 × Int)).2.1, (x1.getD n5 (default : List UInt8 × List UInt8 × Int)).2.2)]))
    ) fun (K3 : (Bool × (List (List UInt8 × List UInt8 × Int))) → Option (List (List UInt8 × List UInt8 × Int))) =>
    chk ((n5 : Int) < (((x1).length : Nat) : Int)) <|
    if ((!((Op.bytesLess ((x1.getD n5 (default : List UInt8 × List UInt8 × Int)).1) x2) || (((x1.getD n5 (default : List UInt8 × List UInt8 × Int)).1) == x2))) && (!b4)) then (
    chk (((l6).length + 1) * 40 ≤ 140737488355328) <|
    K3 (true, (l6 ++ [(x2, x3, (1 : Int))]))
    ) else (
    K3 (b4, l6)
    )
    )
    ) else (
    K1 (b4, l6)
    )
def f80 (x1 : List (List UInt8 × List UInt8 × Int)) (x2 : List UInt8) (x3 : List UInt8) : Option (List (List UInt8 × List UInt8 × Int)) :=
  jn (fun ((b11, l12) : Bool × (List (List UInt8 × List UInt8 × Int))) =>
  jn (fun (l13 : List (List UInt8 × List UInt8 × Int)) =>
  some l13
  ) fun (K4 : (List (List UInt8 × List UInt8 × Int)) → Option (List (List UInt8 × List UInt8 × Int))) =>
  if (!b11) then (
  chk (((l12).length + 1) * 40 ≤ 140737488355328) <|
  K4 (l12 ++ [(x2, x3, (1 : Int))])
  ) else (
  K4 l12
  )
  ) fun (K1 : (Bool × (List (List UInt8 × List UInt8 × Int))) → Option (List (List UInt8 × List UInt8 × Int))) =>
  f80_L0 x1 x2 x3 K1 FUEL (false, 0, [])
def f44 (x1 : List (List UInt8 × List UInt8 × Int)) (x2 : Int) (x3 : List UInt8) (x4 : List UInt8) (x5 : List UInt8) : Option (List UInt8 × (List (List UInt8 × List UInt8 × Int))) :=
  chk ((0 + (x1).length) * 40 ≤ 140737488355328) <|
  (f77 x2 x3 x4 x5).bind fun (r6 : List UInt8 × Int) =>
  if (r6.2 != (0 : Int)) then (
  some (cs1, ([] ++ x1))
  ) else (
  (f78 x1 x3).bind fun (r7 : Int) =>
  jn (fun (s10 : List UInt8) =>
  if ((decide (r7 < (0 : Int))) && (decide ((((x1).length : Nat) : Int) ≥ (64 : Int)))) then (
  some (([102, 117, 108, 108] : List UInt8), ([] ++ x1))
  ) else (
  (f80 x1 x3 s10).bind fun (r12 : List (List UInt8 × List UInt8 × Int)) =>
  (f78 r12 x3).bind fun (r13 : Int) =>
  (f79 FUEL ((r12.getD ((r13).toNat) (default : List UInt8 × List UInt8 × Int)).2.2)).bind fun (r14 : List UInt8) =>
  chk (0 ≤ r13 ∧ r13 < (((r12).length : Nat) : Int)) <|
  chk (((r13).toNat) < (r12).length) <|
  chk (([111, 107, 32] : List UInt8).length + r14.length ≤ 9223372036854775807) <|
  some ((([111, 107, 32] : List UInt8) ++ r14), r12)
  )
  ) fun (K1 : (List UInt8) → Option (List UInt8 × (List (List UInt8 × List UInt8 × Int)))) =>
  if (x2 == (6 : Int)) then (
  (f79 FUEL (((x1).length : Nat) : Int)).bind fun (r8 : List UInt8) =>
  chk (cs7.length + r8.length ≤ 9223372036854775807) <|
  some ((cs7 ++ r8), ([] ++ x1))
  ) else (
  if (x2 == (2 : Int)) then (
  if (decide (r7 < (0 : Int))) then (
  some (([110, 111, 110, 101] : List UInt8), ([] ++ x1))
  ) else (
  (f79 FUEL ((x1.getD ((r7).toNat) (default : List UInt8 × List UInt8 × Int)).2.2)).bind fun (r9 : List UInt8) =>
  chk (0 ≤ r7 ∧ r7 < (((x1).length : Nat) : Int)) <|
  chk (cs8.length + ((x1.getD ((r7).toNat) (default : List UInt8 × List UInt8 × Int)).2.1).length ≤ 9223372036854775807) <|
  chk ((cs8 ++ ((x1.getD ((r7).toNat) (default : List UInt8 × List UInt8 × Int)).2.1)).length + ([32] : List UInt8).length ≤ 9223372036854775807) <|
  chk (0 ≤ r7 ∧ r7 < (((x1).length : Nat) : Int)) <|
  chk (((cs8 ++ ((x1.getD ((r7).toNat) (default : List UInt8 × List UInt8 × Int)).2.1)) ++ ([32] : List UInt8)).length + r9.length ≤ 9223372036854775807) <|
  some ((((cs8 ++ ((x1.getD ((r7).toNat) (default : List UInt8 × List UInt8 × Int)).2.1)) ++ ([32] : List UInt8)) ++ r9), ([] ++ x1))
  )
  ) else (
  if (x2 == (3 : Int)) then (
  if (decide (r7 < (0 : Int))) then (
  some (([110, 111, 110, 101] : List UInt8), ([] ++ x1))
  ) else (
  chk (0 ≤ r7 ∧ r7 ≤ (((x1).length : Nat) : Int)) <|
  chk ((0 + ((r7).toNat)) * 40 ≤ 140737488355328) <|
  chk (-9223372036854775808 ≤ (r7 + (1 : Int)) ∧ (r7 + (1 : Int)) ≤ 9223372036854775807) <|
  chk (0 ≤ (r7 + (1 : Int)) ∧ (r7 + (1 : Int)) ≤ (((x1).length : Nat) : Int)) <|
  chk (((0 + ((r7).toNat)) + ((x1).length - ((r7 + (1 : Int))).toNat)) * 40 ≤ 140737488355328) <|
  some (([111, 107] : List UInt8), (([] ++ (x1.take ((r7).toNat))) ++ (x1.drop (((r7 + (1 : Int))).toNat))))
  )
  ) else (
  if (x2 == (5 : Int)) then (
  if (decide (r7 < (0 : Int))) then (
  some (([110, 111, 110, 101] : List UInt8), ([] ++ x1))
  ) else (
  chk (0 ≤ r7 ∧ r7 < (((x1).length : Nat) : Int)) <|
  if (!(((x1.getD ((r7).toNat) (default : List UInt8 × List UInt8 × Int)).2.1) == x4)) then (
  chk (0 ≤ r7 ∧ r7 < (((x1).length : Nat) : Int)) <|
  chk (([110, 111, 32] : List UInt8).length + ((x1.getD ((r7).toNat) (default : List UInt8 × List UInt8 × Int)).2.1).length ≤ 9223372036854775807) <|
  some ((([110, 111, 32] : List UInt8) ++ ((x1.getD ((r7).toNat) (default : List UInt8 × List UInt8 × Int)).2.1)), ([] ++ x1))
  ) else (
  K1 x5
  )
  )
  ) else (
  if (x2 == (4 : Int)) then (
  jn (fun (s11 : List UInt8) =>
  if (decide (((s11.length : Nat) : Int) > (256 : Int))) then (
  some (([108, 111, 110, 103] : List UInt8), ([] ++ x1))
  ) else (
  K1 s11
  )
  ) fun (K2 : (List UInt8) → Option (List UInt8 × (List (List UInt8 × List UInt8 × Int)))) =>
  if (decide (r7 ≥ (0 : Int))) then (
  chk (0 ≤ r7 ∧ r7 < (((x1).length : Nat) : Int)) <|
  chk (((x1.getD ((r7).toNat) (default : List UInt8 × List UInt8 × Int)).2.1).length + x5.length ≤ 9223372036854775807) <|
  K2 (((x1.getD ((r7).toNat) (default : List UInt8 × List UInt8 × Int)).2.1) ++ x5)
  ) else (
  K2 x5
  )
  ) else (
  K1 x5
  )
  )
  )
  )
  )
  )
def f15_L0 (x2 : List (Int × Int × List UInt8)) (x3 : Int) (K2 : (List (Int × Int × List UInt8)) → Option ((List (List UInt8 × List UInt8 × Int)) × (List (Int × Int × List UInt8)) × List UInt8)) : Nat → (Nat × (List (Int × Int × List UInt8))) → Option ((List (List UInt8 × List UInt8 × Int)) × (List (Int × Int × List UInt8)) × List UInt8)
  | 0, _ => none
  | k + 1, (n12, l13) =>
    if (decide ((n12 : Int) < (((x2).length : Nat) : Int))) then (
    jn (fun (l14 : List (Int × Int × List UInt8)) =>
    chk (((n12 : Int) + (1 : Int)) ≤ 9223372036854775807) <|
    (f15_L0 x2 x3 K2 k) ((n12 + 1), l14)
    ) fun (K3 : (List (Int × Int × List UInt8)) → Option ((List (List UInt8 × List UInt8 × Int)) × (List (Int × Int × List UInt8)) × List UInt8)) =>
    chk ((n12 : Int) < (((x2).length : Nat) : Int)) <|
    if (decide ((x2.getD n12 (default : Int × Int × List UInt8)).1 < x3)) then (
    chk ((n12 : Int) < (((x2).length : Nat) : Int)) <|
    chk (((l13).length + 1) * 32 ≤ 140737488355328) <|
    K3 (l13 ++ [((x2.getD n12 (default : Int × Int × List UInt8)).1, (x2.getD n12 (default : Int × Int × List UInt8)).2.1, (x2.getD n12 (default : Int × Int × List UInt8)).2.2)])
    ) else (
    K3 l13
    )
    ) else (
    K2 l13
    )
def f15_L1 (x2 : List (Int × Int × List UInt8)) (x3 : Int) (K4 : (List (Int × Int × List UInt8)) → Option ((List (List UInt8 × List UInt8 × Int)) × (List (Int × Int × List UInt8)) × List UInt8)) : Nat → (Nat × (List (Int × Int × List UInt8))) → Option ((List (List UInt8 × List UInt8 × Int)) × (List (Int × Int × List UInt8)) × List UInt8)
  | 0, _ => none
  | k + 1, (n16, l17) =>
    if (decide ((n16 : Int) < (((x2).length : Nat) : Int))) then (
    jn (fun (l18 : List (Int × Int × List UInt8)) =>
    chk (((n16 : Int) + (1 : Int)) ≤ 9223372036854775807) <|
    (f15_L1 x2 x3 K4 k) ((n16 + 1), l18)
    ) fun (K5 : (List (Int × Int × List UInt8)) → Option ((List (List UInt8 × List UInt8 × Int)) × (List (Int × Int × List UInt8)) × List UInt8)) =>
    chk ((n16 : Int) < (((x2).length : Nat) : Int)) <|
    if (decide ((x2.getD n16 (default : Int × Int × List UInt8)).1 > x3)) then (
    chk ((n16 : Int) < (((x2).length : Nat) : Int)) <|
    chk (((l17).length + 1) * 32 ≤ 140737488355328) <|
    K5 (l17 ++ [((x2.getD n16 (default : Int × Int × List UInt8)).1, (x2.getD n16 (default : Int × Int × List UInt8)).2.1, (x2.getD n16 (default : Int × Int × List UInt8)).2.2)])
    ) else (
    K5 l17
    )
    ) else (
    K4 l17
    )
def f15 (x1 : List (List UInt8 × List UInt8 × Int)) (x2 : List (Int × Int × List UInt8)) (x3 : Int) (x4 : Int) (x5 : List UInt8) : Option ((List (List UInt8 × List UInt8 × Int)) × (List (Int × Int × List UInt8)) × List UInt8) :=
  (f41 (1 : Int) (0 : Int) [(x3, x4, x5)]).bind fun (r6 : Int) =>
  if (r6 != (0 : Int)) then (
  some (x1, x2, cs1)
  ) else (
  (f42 x1 x2 x3).bind fun (r7 : Int × Int × List UInt8 × Bool) =>
  if (r7.2.2.2 && (decide (r7.2.1 > x4))) then (
  some (x1, x2, cs2)
  ) else (
  if (r7.2.2.2 && (r7.2.1 == x4)) then (
  some (x1, x2, r7.2.2.1)
  ) else (
  (f43 x5).bind fun (r8 : Int × List UInt8 × List UInt8 × List UInt8 × Int) =>
  jn (fun ((s10, l11) : List UInt8 × (List (List UInt8 × List UInt8 × Int))) =>
  jn (fun (l15 : List (Int × Int × List UInt8)) =>
  chk (((l15).length + 1) * 32 ≤ 140737488355328) <|
  jn (fun (l19 : List (Int × Int × List UInt8)) =>
  some (l11, l19, s10)
  ) fun (K4 : (List (Int × Int × List UInt8)) → Option ((List (List UInt8 × List UInt8 × Int)) × (List (Int × Int × List UInt8)) × List UInt8)) =>
  f15_L1 x2 x3 K4 FUEL (0, (l15 ++ [(x3, x4, s10)]))
  ) fun (K2 : (List (Int × Int × List UInt8)) → Option ((List (List UInt8 × List UInt8 × Int)) × (List (Int × Int × List UInt8)) × List UInt8)) =>
  f15_L0 x2 x3 K2 FUEL (0, [])
  ) fun (K1 : (List UInt8 × (List (List UInt8 × List UInt8 × Int))) → Option ((List (List UInt8 × List UInt8 × Int)) × (List (Int × Int × List UInt8)) × List UInt8)) =>
  if (r8.2.2.2.2 == (0 : Int)) then (
  (f44 x1 r8.1 r8.2.1 r8.2.2.1 r8.2.2.2.1).bind fun (r9 : List UInt8 × (List (List UInt8 × List UInt8 × Int))) =>
  K1 (r9.1, r9.2)
  ) else (
  K1 (cs3, x1)
  )
  )
  )
  )
def f13_L0 (x1 : List (Int × Int × List UInt8)) (K1 : ((List (List UInt8 × List UInt8 × Int)) × (List (Int × Int × List UInt8))) → Option ((List (List UInt8 × List UInt8 × Int)) × (List (Int × Int × List UInt8)))) : Nat → (Nat × (List (List UInt8 × List UInt8 × Int)) × (List (Int × Int × List UInt8))) → Option ((List (List UInt8 × List UInt8 × Int)) × (List (Int × Int × List UInt8)))
  | 0, _ => none
  | k + 1, (n2, l3, l4) =>
    if (decide ((n2 : Int) < (((x1).length : Nat) : Int))) then (
    (f15 l3 l4 ((x1.getD n2 (default : Int × Int × List UInt8)).1) ((x1.getD n2 (default : Int × Int × List UInt8)).2.1) ((x1.getD n2 (default : Int × Int × List UInt8)).2.2)).bind fun (r5 : (List (List UInt8 × List UInt8 × Int)) × (List (Int × Int × List UInt8)) × List UInt8) =>
    chk ((n2 : Int) < (((x1).length : Nat) : Int)) <|
    chk (((n2 : Int) + (1 : Int)) ≤ 9223372036854775807) <|
    (f13_L0 x1 K1 k) ((n2 + 1), r5.1, r5.2.1)
    ) else (
    K1 (l3, l4)
    )
def f13 (x1 : List (Int × Int × List UInt8)) : Option ((List (List UInt8 × List UInt8 × Int)) × (List (Int × Int × List UInt8))) :=
  jn (fun ((l6, l7) : (List (List UInt8 × List UInt8 × Int)) × (List (Int × Int × List UInt8))) =>
  some (l6, l7)
  ) fun (K1 : ((List (List UInt8 × List UInt8 × Int)) × (List (Int × Int × List UInt8))) → Option ((List (List UInt8 × List UInt8 × Int)) × (List (Int × Int × List UInt8)))) =>
  f13_L0 x1 K1 FUEL (0, [], [])
def f12 (x1 : List (List UInt8 × List UInt8 × Int)) (x2 : List (Int × Int × List UInt8)) : Option ((List (List UInt8 × List UInt8 × Int)) × (List (Int × Int × List UInt8))) :=
  (f40 x1).bind fun (r3 : List (List UInt8 × List UInt8 × Int)) =>
  (f38 x2).bind fun (r4 : List (Int × Int × List UInt8)) =>
  some (r3, r4)
def f20_L0 (x1 : List (List UInt8 × List UInt8 × Int)) (x2 : List (List UInt8 × List UInt8 × Int)) (K1 : Unit → Option Bool) : Nat → Nat → Option Bool
  | 0, _ => none
  | k + 1, n3 =>
    if (decide ((n3 : Int) < (((x1).length : Nat) : Int))) then (
    chk ((n3 : Int) < (((x1).length : Nat) : Int)) <|
    chk ((n3 : Int) < (((x2).length : Nat) : Int)) <|
    if (!((((x1.getD n3 (default : List UInt8 × List UInt8 × Int)).1) == ((x2.getD n3 (default : List UInt8 × List UInt8 × Int)).1)) && ((((x1.getD n3 (default : List UInt8 × List UInt8 × Int)).2.1) == ((x2.getD n3 (default : List UInt8 × List UInt8 × Int)).2.1)) && (((x1.getD n3 (default : List UInt8 × List UInt8 × Int)).2.2 == (x2.getD n3 (default : List UInt8 × List UInt8 × Int)).2.2) && true)))) then (
    some false
    ) else (
    chk (((n3 : Int) + (1 : Int)) ≤ 9223372036854775807) <|
    (f20_L0 x1 x2 K1 k) (n3 + 1)
    )
    ) else (
    K1 ()
    )
abbrev f20z0 (x1 : List (List UInt8 × List UInt8 × Int)) (n3 : Nat) := (x1.getD n3 (default : List UInt8 × List UInt8 × Int))
abbrev f20z1 (x2 : List (List UInt8 × List UInt8 × Int)) (n3 : Nat) := (x2.getD n3 (default : List UInt8 × List UInt8 × Int))
def f20 (x1 : List (List UInt8 × List UInt8 × Int)) (x2 : List (List UInt8 × List UInt8 × Int)) : Option Bool :=
  if ((((x1).length : Nat) : Int) != (((x2).length : Nat) : Int)) then (
  some false
  ) else (
  jn (fun (_ : Unit) =>
  some true
  ) fun (K1 : Unit → Option Bool) =>
  f20_L0 x1 x2 K1 FUEL 0
  )
set_option maxRecDepth 100000 in
theorem f20_ok  (x1 : List (List UInt8 × List UInt8 × Int)) (x2 : List (List UInt8 × List UInt8 × Int)) (r : Bool) (h : f20 x1 x2 = some r)  : Spec1 Tryz.prog 20 [] [] [] [vL 3 eSSI (default : List UInt8 × List UInt8 × Int) x1, vL 3 eSSI (default : List UInt8 × List UInt8 × Int) x2] (.bool r) [] := by
  unfold f20 at h
  refine Spec1.body 0 _ _ Tryz.func20 rfl Tryz.ntmps20 rfl rfl ?_
  refine q1rq [] [] ⟨26, [(0, q1aSSI x1), (1, q1aSSI x2)], [], [], 0⟩ trivial ?_
  refine AWp.seq ?_
  refine q1rq [] [] ⟨26, [(0, q1aSSI x1), (1, q1aSSI x2), (10, .bool ((lZ x1) != (lZ x2)))], [], [], 0⟩ trivial ?_
  refine AWp.cond (b := ((lZ x1) != (lZ x2))) (by kernel_rfl) (fun hc1 => ?_) (fun hc1 => ?_)
  ·
    replace h := ite_tb hc1 h
    refine q1rq [] [] ⟨26, [(4, .bool false)], [], [], 0⟩ trivial ?_
    have hret := Option.some.inj h
    subst hret
    refine AWp.ret ?_
    refine thenQ_ret ?_
    exact bodyQ_ret _ rfl ⟨rfl, rfl⟩ rfl
  ·
    replace h := ite_fb hc1 h
    refine AWp.skip ?_
    refine thenQ_normal ?_
    obtain ⟨K1, hK1, h⟩ := jn_some h
    refine AWp.join (α := Unit) (fun (x : Unit) => match x with | () => ⟨26, [], [], [], 0⟩) (fun x => K1 x = some r) ?_ ?_
    ·
      refine q1rq [] [] ⟨26, [(0, q1aSSI x1), (1, q1aSSI x2), (5, .i (0 : Int))], [], [], 0⟩ trivial ?_
      refine AWp.block ?_
      refine AWp.loopL (α := Nat × Nat) (fun x => match x with | (_, n3) => ⟨26, [(0, q1aSSI x1), (1, q1aSSI x2), (5, .i (n3 : Int))], [], [], 0⟩) (fun x => f20_L0 x1 x2 K1 x.1 x.2 = some r) (fun x => x.1) (FUEL, 0) (Le.mk (s' := ⟨26, [(0, q1aSSI x1), (1, q1aSSI x2), (5, .i (0 : Int))], [], [], 0⟩) rfl rfl ⟨.refl _, .refl _, .refl _, trivial⟩ trivial) h ?_
      rintro ⟨k0, n3⟩ h
      cases k0 with
      | zero => exact nomatch (show (none : Option Bool) = some r from h)
      | succ k0 =>
      obtain ⟨C0, hC0⟩ : ∃ C, C = f20_L0 x1 x2 K1 k0 := ⟨_, rfl⟩
      replace h := (f20_L0.eq_2 ..).symm.trans h
      try rw [← hC0] at h
      refine AWp.seq ?_
      refine q1rq [] [] ⟨26, [(0, q1aSSI x1), (1, q1aSSI x2), (5, .i (n3 : Int)), (14, .bool (decide ((n3 : Int) < (lZ x1))))], [], [], 0⟩ trivial ?_
      refine AWp.cond (b := (decide ((n3 : Int) < (lZ x1)))) (by kernel_rfl) (fun hc2 => ?_) (fun hc2 => ?_)
      ·
        replace h := ite_tb hc2 h
        refine AWp.skip ?_
        refine thenQ_normal ?_
        refine AWp.seq ?_
        refine AWp.block ?_
        refine AWp.seq ?_
        obtain ⟨ob0p, h⟩ := chk_some h
        have ob0 : 0 ≤ (n3 : Int) ∧ (n3 : Int) < (((x1).length : Nat) : Int) := ⟨by omega, ob0p⟩
        obtain ⟨ob1p, h⟩ := chk_some h
        have ob1 : 0 ≤ (n3 : Int) ∧ (n3 : Int) < (((x2).length : Nat) : Int) := ⟨by omega, ob1p⟩
        refine q1rr [] [] ⟨26, [(0, q1aSSI x1), (1, q1aSSI x2), (5, .i (n3 : Int)), (25, .bool (!((((f20z0 x1 n3).1) == ((f20z1 x2 n3).1)) && ((((f20z0 x1 n3).2.1) == ((f20z1 x2 n3).2.1)) && (((f20z0 x1 n3).2.2 == (f20z1 x2 n3).2.2) && true)))))], [], [], 0⟩ (an2 ob0 ob1) ?_
        refine thenQ_normal ?_
        refine AWp.cond (b := (!((((f20z0 x1 n3).1) == ((f20z1 x2 n3).1)) && ((((f20z0 x1 n3).2.1) == ((f20z1 x2 n3).2.1)) && (((f20z0 x1 n3).2.2 == (f20z1 x2 n3).2.2) && true))))) (by kernel_rfl) (fun hc3 => ?_) (fun hc3 => ?_)
        ·
          replace h := ite_tb hc3 h
          refine q1rq [] [] ⟨26, [(4, .bool false)], [], [], 0⟩ trivial ?_
          have hret := Option.some.inj h
          subst hret
          refine AWp.ret ?_
          refine blockQ_ret ?_
          refine thenQ_ret ?_
          refine thenQ_ret ?_
          refine blockQ_ret ?_
          refine joinQ_ret ?_
          exact bodyQ_ret _ rfl ⟨rfl, rfl⟩ rfl
        ·
          replace h := ite_fb hc3 h
          refine AWp.skip ?_
          refine blockQ_normal ?_
          refine thenQ_normal ?_
          obtain ⟨ob2p, h⟩ := chk_some h
          have ob2 : -9223372036854775808 ≤ ((n3 : Int) + (1 : Int)) ∧ ((n3 : Int) + (1 : Int)) ≤ 9223372036854775807 := ⟨by omega, ob2p⟩
          refine q1rr [] [] ⟨26, [(0, q1aSSI x1), (1, q1aSSI x2), (5, .i (((n3 + 1) : Nat) : Int))], [], [], 0⟩ (an1 ob2) ?_
          rw [hC0] at h
          exact loopQ_normal (_, (n3 + 1)) (Le.mk rfl rfl ⟨.refl _, .refl _, .refl _, trivial⟩ trivial) h (Nat.lt_succ_self _)
      ·
        replace h := ite_fb hc2 h
        refine AWp.exit ?_
        refine thenQ_exit ?_
        refine thenQ_exit ?_
        refine blockQ_same ?_
        exact joinQ_normal () (Le.mk rfl rfl trivial trivial) h
    ·
      rintro ⟨⟩ h
      replace h := (congrFun hK1 _).symm.trans h
      refine q1rq [] [] ⟨26, [(4, .bool true)], [], [], 0⟩ trivial ?_
      have hret := Option.some.inj h
      subst hret
      refine AWp.ret ?_
      exact bodyQ_ret _ rfl ⟨rfl, rfl⟩ rfl
def f14_L0 (x2 : List (Int × Int × List UInt8)) (x4 : List (Int × Int × List UInt8)) (K1 : Unit → Option Bool) : Nat → Nat → Option Bool
  | 0, _ => none
  | k + 1, n5 =>
    if (decide ((n5 : Int) < (((x2).length : Nat) : Int))) then (
    chk ((n5 : Int) < (((x2).length : Nat) : Int)) <|
    chk ((n5 : Int) < (((x4).length : Nat) : Int)) <|
    if (!(((x2.getD n5 (default : Int × Int × List UInt8)).1 == (x4.getD n5 (default : Int × Int × List UInt8)).1) && (((x2.getD n5 (default : Int × Int × List UInt8)).2.1 == (x4.getD n5 (default : Int × Int × List UInt8)).2.1) && ((((x2.getD n5 (default : Int × Int × List UInt8)).2.2) == ((x4.getD n5 (default : Int × Int × List UInt8)).2.2)) && true)))) then (
    some false
    ) else (
    chk (((n5 : Int) + (1 : Int)) ≤ 9223372036854775807) <|
    (f14_L0 x2 x4 K1 k) (n5 + 1)
    )
    ) else (
    K1 ()
    )
abbrev f14z0 (x1 : List (List UInt8 × List UInt8 × Int)) (x2 : List (Int × Int × List UInt8)) (x3 : List (List UInt8 × List UInt8 × Int)) (x4 : List (Int × Int × List UInt8)) : Heap := [(2, .cells 30 [vL 3 eSSI (default : List UInt8 × List UInt8 × Int) x1, vL 3 eIIS (default : Int × Int × List UInt8) x2]), (3, .cells 30 [vL 3 eSSI (default : List UInt8 × List UInt8 × Int) x3, vL 3 eIIS (default : Int × Int × List UInt8) x4])]
abbrev f14z1 (x2 : List (Int × Int × List UInt8)) (n5 : Nat) := (x2.getD n5 (default : Int × Int × List UInt8))
abbrev f14z2 (x4 : List (Int × Int × List UInt8)) (n5 : Nat) := (x4.getD n5 (default : Int × Int × List UInt8))
def f14 (x1 : List (List UInt8 × List UInt8 × Int)) (x2 : List (Int × Int × List UInt8)) (x3 : List (List UInt8 × List UInt8 × Int)) (x4 : List (Int × Int × List UInt8)) : Option Bool :=
  if ((((x2).length : Nat) : Int) != (((x4).length : Nat) : Int)) then (
  some false
  ) else (
  jn (fun (_ : Unit) =>
  (f20 x1 x3).bind fun (r6 : Bool) =>
  some r6
  ) fun (K1 : Unit → Option Bool) =>
  f14_L0 x2 x4 K1 FUEL 0
  )
set_option maxRecDepth 100000 in
theorem f14_ok  (x1 : List (List UInt8 × List UInt8 × Int)) (x2 : List (Int × Int × List UInt8)) (x3 : List (List UInt8 × List UInt8 × Int)) (x4 : List (Int × Int × List UInt8)) (r : Bool) (h : f14 x1 x2 x3 x4 = some r)  : Spec1 Tryz.prog 14 [] [] [] [.agg [vL 3 eSSI (default : List UInt8 × List UInt8 × Int) x1, vL 3 eIIS (default : Int × Int × List UInt8) x2], .agg [vL 3 eSSI (default : List UInt8 × List UInt8 × Int) x3, vL 3 eIIS (default : Int × Int × List UInt8) x4]] (.bool r) [] := by
  unfold f14 at h
  refine Spec1.body 0 _ _ Tryz.func14 rfl Tryz.ntmps14 rfl rfl ?_
  refine q1rq [] [] ⟨36, [(2, .ptr 2 0), (3, .ptr 3 0)], (f14z0 x1 x2 x3 x4), [], 0⟩ trivial ?_
  refine AWp.seq ?_
  refine q1rq [] [] ⟨36, [(2, .ptr 2 0), (3, .ptr 3 0), (12, .bool ((lZ x2) != (lZ x4)))], (f14z0 x1 x2 x3 x4), [], 0⟩ trivial ?_
  refine AWp.cond (b := ((lZ x2) != (lZ x4))) (by kernel_rfl) (fun hc1 => ?_) (fun hc1 => ?_)
  ·
    replace h := ite_tb hc1 h
    refine q1rq [] [] ⟨36, [(4, .bool false)], [], [], 0⟩ trivial ?_
    have hret := Option.some.inj h
    subst hret
    refine AWp.ret ?_
    refine thenQ_ret ?_
    exact bodyQ_ret _ rfl ⟨rfl, rfl⟩ rfl
  ·
    replace h := ite_fb hc1 h
    refine AWp.skip ?_
    refine thenQ_normal ?_
    obtain ⟨K1, hK1, h⟩ := jn_some h
    refine AWp.join (α := Unit) (fun (x : Unit) => match x with | () => ⟨36, [(2, .ptr 2 0), (3, .ptr 3 0)], (f14z0 x1 x2 x3 x4), [], 0⟩) (fun x => K1 x = some r) ?_ ?_
    ·
      refine q1rq [] [] ⟨36, [(2, .ptr 2 0), (3, .ptr 3 0), (5, .i (0 : Int))], (f14z0 x1 x2 x3 x4), [], 0⟩ trivial ?_
      refine AWp.block ?_
      refine AWp.loopL (α := Nat × Nat) (fun x => match x with | (_, n5) => ⟨36, [(2, .ptr 2 0), (3, .ptr 3 0), (5, .i (n5 : Int))], (f14z0 x1 x2 x3 x4), [], 0⟩) (fun x => f14_L0 x2 x4 K1 x.1 x.2 = some r) (fun x => x.1) (FUEL, 0) (Le.mk (s' := ⟨36, [(2, .ptr 2 0), (3, .ptr 3 0), (5, .i (0 : Int))], (f14z0 x1 x2 x3 x4), [], 0⟩) rfl rfl ⟨.refl _, .refl _, .refl _, trivial⟩ ⟨⟨_, rfl, .refl _⟩, ⟨_, rfl, .refl _⟩, trivial⟩) h ?_
      rintro ⟨k0, n5⟩ h
      cases k0 with
      | zero => exact nomatch (show (none : Option Bool) = some r from h)
      | succ k0 =>
      obtain ⟨C0, hC0⟩ : ∃ C, C = f14_L0 x2 x4 K1 k0 := ⟨_, rfl⟩
      replace h := (f14_L0.eq_2 ..).symm.trans h
      try rw [← hC0] at h
      refine AWp.seq ?_
      refine q1rq [] [] ⟨36, [(2, .ptr 2 0), (3, .ptr 3 0), (5, .i (n5 : Int)), (17, .bool (decide ((n5 : Int) < (lZ x2))))], (f14z0 x1 x2 x3 x4), [], 0⟩ trivial ?_
      refine AWp.cond (b := (decide ((n5 : Int) < (lZ x2)))) (by kernel_rfl) (fun hc2 => ?_) (fun hc2 => ?_)
      ·
        replace h := ite_tb hc2 h
        refine AWp.skip ?_
        refine thenQ_normal ?_
        refine AWp.seq ?_
        refine AWp.block ?_
        refine AWp.seq ?_
        obtain ⟨ob0p, h⟩ := chk_some h
        have ob0 : 0 ≤ (n5 : Int) ∧ (n5 : Int) < (((x2).length : Nat) : Int) := ⟨by omega, ob0p⟩
        obtain ⟨ob1p, h⟩ := chk_some h
        have ob1 : 0 ≤ (n5 : Int) ∧ (n5 : Int) < (((x4).length : Nat) : Int) := ⟨by omega, ob1p⟩
        refine q1rr [] [] ⟨36, [(2, .ptr 2 0), (3, .ptr 3 0), (5, .i (n5 : Int)), (30, .bool (!(((f14z1 x2 n5).1 == (f14z2 x4 n5).1) && (((f14z1 x2 n5).2.1 == (f14z2 x4 n5).2.1) && ((((f14z1 x2 n5).2.2) == ((f14z2 x4 n5).2.2)) && true)))))], (f14z0 x1 x2 x3 x4), [], 0⟩ (an2 ob0 ob1) ?_
        refine thenQ_normal ?_
        refine AWp.cond (b := (!(((f14z1 x2 n5).1 == (f14z2 x4 n5).1) && (((f14z1 x2 n5).2.1 == (f14z2 x4 n5).2.1) && ((((f14z1 x2 n5).2.2) == ((f14z2 x4 n5).2.2)) && true))))) (by kernel_rfl) (fun hc3 => ?_) (fun hc3 => ?_)
        ·
          replace h := ite_tb hc3 h
          refine q1rq [] [] ⟨36, [(4, .bool false)], [], [], 0⟩ trivial ?_
          have hret := Option.some.inj h
          subst hret
          refine AWp.ret ?_
          refine blockQ_ret ?_
          refine thenQ_ret ?_
          refine thenQ_ret ?_
          refine blockQ_ret ?_
          refine joinQ_ret ?_
          exact bodyQ_ret _ rfl ⟨rfl, rfl⟩ rfl
        ·
          replace h := ite_fb hc3 h
          refine AWp.skip ?_
          refine blockQ_normal ?_
          refine thenQ_normal ?_
          obtain ⟨ob2p, h⟩ := chk_some h
          have ob2 : -9223372036854775808 ≤ ((n5 : Int) + (1 : Int)) ∧ ((n5 : Int) + (1 : Int)) ≤ 9223372036854775807 := ⟨by omega, ob2p⟩
          refine q1rr [] [] ⟨36, [(2, .ptr 2 0), (3, .ptr 3 0), (5, .i (((n5 + 1) : Nat) : Int))], (f14z0 x1 x2 x3 x4), [], 0⟩ (an1 ob2) ?_
          rw [hC0] at h
          exact loopQ_normal (_, (n5 + 1)) (Le.mk rfl rfl ⟨.refl _, .refl _, .refl _, trivial⟩ ⟨⟨_, rfl, .refl _⟩, ⟨_, rfl, .refl _⟩, trivial⟩) h (Nat.lt_succ_self _)
      ·
        replace h := ite_fb hc2 h
        refine AWp.exit ?_
        refine thenQ_exit ?_
        refine thenQ_exit ?_
        refine blockQ_same ?_
        exact joinQ_normal () (Le.mk rfl rfl ⟨.refl _, .refl _, trivial⟩ ⟨⟨_, rfl, .refl _⟩, ⟨_, rfl, .refl _⟩, trivial⟩) h
    ·
      rintro ⟨⟩ h
      replace h := (congrFun hK1 _).symm.trans h
      refine AWp.seq ?_
      obtain ⟨r6, hr6, h⟩ := bind_ok h
      refine q1rr [] [(4, ⟨[q1aSSI x1, q1aSSI x3], [], [], [], .bool r6, [], [], []⟩)] ⟨36, [(4, .bool r6)], [], [], 0⟩ (an1 (cpT (f20_ok _ _ _ hr6))) ?_
      refine thenQ_normal ?_
      have hret := Option.some.inj h
      subst hret
      refine AWp.ret ?_
      exact bodyQ_ret _ rfl ⟨rfl, rfl⟩ rfl
def f3_L0 (x2 : List (Int × Int × List UInt8)) (x3 : Int) (x4 : Int) (K1 : (Bool × (List (List UInt8 × List UInt8 × Int)) × (List (Int × Int × List UInt8))) → Option Bool) : Nat → (Bool × Nat × (List (List UInt8 × List UInt8 × Int)) × (List (Int × Int × List UInt8))) → Option Bool
  | 0, _ => none
  | k + 1, (b13, n14, l15, l16) =>
    if (decide ((n14 : Int) < (((x2).length : Nat) : Int))) then (
    chk ((n14 : Int) < (((x2).length : Nat) : Int)) <|
    (f11 l15 l16 ((x2.getD n14 (default : Int × Int × List UInt8)).1) ((x2.getD n14 (default : Int × Int × List UInt8)).2.1) ((x2.getD n14 (default : Int × Int × List UInt8)).2.2)).bind fun (r17 : (List (List UInt8 × List UInt8 × Int)) × (List (Int × Int × List UInt8)) × List UInt8) =>
    chk ((b13 == true) = true → (b13 == true) = true → ((x2.getD n14 (default : Int × Int × List UInt8)).1 != x3) = false → ((b13 == true) && (((x2.getD n14 (default : Int × Int × List UInt8)).1 != x3) == false)) = true) <|
    chk ((b13 == true) = true → (b13 == true) = true → (((x2.getD n14 (default : Int × Int × List UInt8)).1 != x3) || (r17.2.2 == cs2)) = false → ((b13 == true) && ((((x2.getD n14 (default : Int × Int × List UInt8)).1 != x3) || (r17.2.2 == cs2)) == false)) = true) <|
    chk ((b13 == true) = true → (b13 == true) = true → ((((x2.getD n14 (default : Int × Int × List UInt8)).1 != x3) || (r17.2.2 == cs2)) || (r17.2.2 == cs1)) = false → ((b13 == true) && (((((x2.getD n14 (default : Int × Int × List UInt8)).1 != x3) || (r17.2.2 == cs2)) || (r17.2.2 == cs1)) == false)) = true) <|
    chk (((n14 : Int) + (1 : Int)) ≤ 9223372036854775807) <|
    (f3_L0 x2 x3 x4 K1 k) ((b13 && (((((x2.getD n14 (default : Int × Int × List UInt8)).1 != x3) || (r17.2.2 == cs2)) || (r17.2.2 == cs1)) || ((x2.getD n14 (default : Int × Int × List UInt8)).2.1 == x4))), (n14 + 1), r17.1, r17.2.1)
    ) else (
    K1 (b13, l15, l16)
    )
def f3 (x1 : List (Int × Int × List UInt8)) (x2 : List (Int × Int × List UInt8)) (x3 : Int) (x4 : Int) (x5 : List UInt8) : Option Bool :=
  (f9 ).bind fun (r6 : Bool) =>
  optc ((!r6) == false) (f10 x1) fun (r7 : Bool) =>
  optc (((!r6) || (!r7)) == false) (f10 x2) fun (r8 : Bool) =>
  if ((((!r6) || (!r7)) || (!r8)) || (decide (((x5.length : Nat) : Int) > (300 : Int)))) then (
  (f9 ).bind fun (r9 : Bool) =>
  some r9
  ) else (
  (f13 x1).bind fun (r10 : (List (List UInt8 × List UInt8 × Int)) × (List (Int × Int × List UInt8))) =>
  (f12 r10.1 r10.2).bind fun (r11 : (List (List UInt8 × List UInt8 × Int)) × (List (Int × Int × List UInt8))) =>
  (f11 r11.1 r11.2 x3 x4 x5).bind fun (r12 : (List (List UInt8 × List UInt8 × Int)) × (List (Int × Int × List UInt8)) × List UInt8) =>
  if ((r12.2.2 == cs1) || (r12.2.2 == cs2)) then (
  some true
  ) else (
  jn (fun ((b18, l19, l20) : Bool × (List (List UInt8 × List UInt8 × Int)) × (List (Int × Int × List UInt8))) =>
  (f12 l19 l20).bind fun (r21 : (List (List UInt8 × List UInt8 × Int)) × (List (Int × Int × List UInt8))) =>
  (f11 r21.1 r21.2 x3 x4 x5).bind fun (r22 : (List (List UInt8 × List UInt8 × Int)) × (List (Int × Int × List UInt8)) × List UInt8) =>
  (f14 r22.1 r22.2.1 l19 l20).bind fun (r23 : Bool) =>
  chk ((r23 == true) = true → (r23 == true) = true → (!b18) = false → ((r23 == true) && ((!b18) == false)) = true) <|
  some (r23 && ((!b18) || (r12.2.2 == r22.2.2)))
  ) fun (K1 : (Bool × (List (List UInt8 × List UInt8 × Int)) × (List (Int × Int × List UInt8))) → Option Bool) =>
  f3_L0 x2 x3 x4 K1 FUEL (true, 0, r12.1, r12.2.1)
  )
  )
def f45_L0 (x1 : List (List UInt8 × List UInt8 × Int)) (x2 : List (List UInt8 × List UInt8 × Int)) (K1 : Unit → Option Bool) : Nat → Nat → Option Bool
  | 0, _ => none
  | k + 1, n3 =>
    if (decide ((n3 : Int) < (((x1).length : Nat) : Int))) then (
    chk ((n3 : Int) < (((x1).length : Nat) : Int)) <|
    chk ((n3 : Int) < (((x2).length : Nat) : Int)) <|
    if (!((((x1.getD n3 (default : List UInt8 × List UInt8 × Int)).1) == ((x2.getD n3 (default : List UInt8 × List UInt8 × Int)).1)) && ((((x1.getD n3 (default : List UInt8 × List UInt8 × Int)).2.1) == ((x2.getD n3 (default : List UInt8 × List UInt8 × Int)).2.1)) && (((x1.getD n3 (default : List UInt8 × List UInt8 × Int)).2.2 == (x2.getD n3 (default : List UInt8 × List UInt8 × Int)).2.2) && true)))) then (
    some false
    ) else (
    chk (((n3 : Int) + (1 : Int)) ≤ 9223372036854775807) <|
    (f45_L0 x1 x2 K1 k) (n3 + 1)
    )
    ) else (
    K1 ()
    )
def f45 (x1 : List (List UInt8 × List UInt8 × Int)) (x2 : List (List UInt8 × List UInt8 × Int)) : Option Bool :=
  if ((((x1).length : Nat) : Int) != (((x2).length : Nat) : Int)) then (
  some false
  ) else (
  jn (fun (_ : Unit) =>
  some true
  ) fun (K1 : Unit → Option Bool) =>
  f45_L0 x1 x2 K1 FUEL 0
  )
def f21_L0 (x1 : List (Int × Int × List UInt8)) (x2 : List (Int × Int × List UInt8)) (K1 : Unit → Option Bool) : Nat → Nat → Option Bool
  | 0, _ => none
  | k + 1, n3 =>
    if (decide ((n3 : Int) < (((x1).length : Nat) : Int))) then (
    chk ((n3 : Int) < (((x1).length : Nat) : Int)) <|
    chk ((n3 : Int) < (((x2).length : Nat) : Int)) <|
    if (!(((x1.getD n3 (default : Int × Int × List UInt8)).1 == (x2.getD n3 (default : Int × Int × List UInt8)).1) && (((x1.getD n3 (default : Int × Int × List UInt8)).2.1 == (x2.getD n3 (default : Int × Int × List UInt8)).2.1) && ((((x1.getD n3 (default : Int × Int × List UInt8)).2.2) == ((x2.getD n3 (default : Int × Int × List UInt8)).2.2)) && true)))) then (
    some false
    ) else (
    chk (((n3 : Int) + (1 : Int)) ≤ 9223372036854775807) <|
    (f21_L0 x1 x2 K1 k) (n3 + 1)
    )
    ) else (
    K1 ()
    )
def f21 (x1 : List (Int × Int × List UInt8)) (x2 : List (Int × Int × List UInt8)) : Option Bool :=
  if ((((x1).length : Nat) : Int) != (((x2).length : Nat) : Int)) then (
  some false
  ) else (
  jn (fun (_ : Unit) =>
  some true
  ) fun (K1 : Unit → Option Bool) =>
  f21_L0 x1 x2 K1 FUEL 0
  )
def f16 (x1 : List (List UInt8 × List UInt8 × Int)) (x2 : List (Int × Int × List UInt8)) (x3 : List (List UInt8 × List UInt8 × Int)) (x4 : List (Int × Int × List UInt8)) : Option Bool :=
  (f45 x1 x3).bind fun (r5 : Bool) =>
  optc (r5 == true) (f21 x2 x4) fun (r6 : Bool) =>
  some (r5 && r6)
def f4 (x1 : List (Int × Int × List UInt8)) (x2 : Int) (x3 : Int) (x4 : List UInt8) : Option Bool :=
  (f9 ).bind fun (r5 : Bool) =>
  optc ((!r5) == false) (f10 x1) fun (r6 : Bool) =>
  if (((!r5) || (!r6)) || (decide (((x4.length : Nat) : Int) > (300 : Int)))) then (
  (f9 ).bind fun (r7 : Bool) =>
  some r7
  ) else (
  (f13 x1).bind fun (r8 : (List (List UInt8 × List UInt8 × Int)) × (List (Int × Int × List UInt8))) =>
  (f12 r8.1 r8.2).bind fun (r9 : (List (List UInt8 × List UInt8 × Int)) × (List (Int × Int × List UInt8))) =>
  (f11 r9.1 r9.2 x2 x3 x4).bind fun (r10 : (List (List UInt8 × List UInt8 × Int)) × (List (Int × Int × List UInt8)) × List UInt8) =>
  (f15 r8.1 r8.2 x2 x3 x4).bind fun (r11 : (List (List UInt8 × List UInt8 × Int)) × (List (Int × Int × List UInt8)) × List UInt8) =>
  (f14 r10.1 r10.2.1 r11.1 r11.2.1).bind fun (r12 : Bool) =>
  optc ((r12 && (r10.2.2 == r11.2.2)) == true) (f17 ) fun (r13 : (List (List UInt8 × List UInt8 × Int)) × (List (Int × Int × List UInt8))) =>
  optc ((r12 && (r10.2.2 == r11.2.2)) == true) (f16 r13.1 r13.2 [] []) fun (r14 : Bool) =>
  some ((r12 && (r10.2.2 == r11.2.2)) && r14)
  )
end Go.Abs
