/- Part 22 of the proof: X57. -/
import Derived.Test.YtkeioaggjaeicaaGreatDoorHerrZ21
namespace Go.Abs
open Go Go.Proofs
set_option maxHeartbeats 4000000
set_option maxRecDepth 100000 in
theorem f41a_ok  (x1 : Int) (x2 : Int) (x3 : Int) (x4 : Int) (x5 : List UInt8) (x6 : List UInt8) (x7 : List (Int × Int × Int × List UInt8 × List UInt8)) (x8 : Int) (x9 : List Int) (x10 : List (List (List (List UInt8 × List UInt8 × Int)))) (r : Bool × (List (Int × Int × Int × List UInt8 × List UInt8)) × Int × List Int × (List (List (List (List UInt8 × List UInt8 × Int))))) (h : f41a x1 x2 x3 x4 x5 x6 x7 x8 x9 x10 = some r)  : Spec1 Tryz.prog 41 [] [2000, 2001] [(2000, .cells 64 [vL 5 eT31 (default : Int × Int × Int × List UInt8 × List UInt8) x7, .fn (.func 33) [], .int .u64 x8, .own 2001]), (2001, bI (V.int .u64) 0 x9 (some 2002) none none), (2002, bF 57 1 eLSSIJ [] x10 none)] [.ptr 2000 0, .int .u64 x1, .agg [.int .i64 x2, .int .i64 x3, .int .i64 x4, .str x5, .str x6]] (.bool r.1) [(2000, .cells 64 [vL 5 eT31 (default : Int × Int × Int × List UInt8 × List UInt8) r.2.1, .fn (.func 33) [], .int .u64 r.2.2.1, .own 2001]), (2001, bI (V.int .u64) 0 r.2.2.2.1 (some 2002) none none), (2002, bF 57 1 eLSSIJ [] r.2.2.2.2 none)] := by
  unfold f41a at h
  refine Spec1.body 0 _ _ Tryz.func41 rfl Tryz.ntmps41 rfl rfl ?_
  refine q1rq [] [] ⟨34, [(0, .ptr 2000 0), (1, .int .u64 x1), (5, .ptr 5 0)], [(5, .cells 31 (f41az1 x2 x3 x4 x5 x6)), (2000, .cells 64 [q1aT31 x7, .fn (.func 33) [], .int .u64 x8, .own 2001]), (2001, bI (V.int .u64) 0 x9 (some 2002) none none), (2002, bF 57 1 eLSSIJ [] x10 none)], [2000, 2001], 0⟩ trivial ?_
  obtain ⟨K1, hK1, h⟩ := jn_some h
  refine AWp.join (α := Unit) (fun (x : Unit) => match x with | () => ⟨34, [], [(2000, .cells 64 [q1aT31 x7, .fn (.func 33) [], .int .u64 x8, .own 2001]), (2001, bI (V.int .u64) 0 x9 (some 2002) none none), (2002, bF 57 1 eLSSIJ [] x10 none)], [2000, 2001], 0⟩) (fun x => K1 x = some r) ?_ ?_
  ·
    refine q1rq [] [] ⟨34, [(0, .ptr 2000 0), (1, .int .u64 x1), (5, .ptr 5 0), (12, q1aT31 x7), (13, .i (lZ x7)), (14, .i (0 : Int))], [(5, .cells 31 (f41az1 x2 x3 x4 x5 x6)), (2000, .cells 64 [q1aT31 x7, .fn (.func 33) [], .int .u64 x8, .own 2001]), (2001, bI (V.int .u64) 0 x9 (some 2002) none none), (2002, bF 57 1 eLSSIJ [] x10 none)], [2000, 2001], 0⟩ trivial ?_
    refine AWp.block ?_
    refine AWp.loopL (α := Nat × Nat) (fun x => match x with | (_, n11) => ⟨34, [(0, .ptr 2000 0), (1, .int .u64 x1), (5, .ptr 5 0), (12, q1aT31 x7), (13, .i (lZ x7)), (14, .i (n11 : Int))], [(5, .cells 31 (f41az1 x2 x3 x4 x5 x6)), (2000, .cells 64 [q1aT31 x7, .fn (.func 33) [], .int .u64 x8, .own 2001]), (2001, bI (V.int .u64) 0 x9 (some 2002) none none), (2002, bF 57 1 eLSSIJ [] x10 none)], [2000, 2001], 0⟩) (fun x => f41a_L0 x1 x2 x3 x4 x5 x6 x7 x8 x9 x10 K1 x.1 x.2 = some r) (fun x => x.1) (FUEL, 0) (Le.mk (s' := ⟨34, [(0, .ptr 2000 0), (1, .int .u64 x1), (5, .ptr 5 0), (12, q1aT31 x7), (13, .i (lZ x7)), (14, .i (0 : Int))], [(5, .cells 31 (f41az1 x2 x3 x4 x5 x6)), (2000, .cells 64 [q1aT31 x7, .fn (.func 33) [], .int .u64 x8, .own 2001]), (2001, bI (V.int .u64) 0 x9 (some 2002) none none), (2002, bF 57 1 eLSSIJ [] x10 none)], [2000, 2001], 0⟩) rfl rfl ⟨.refl _, .refl _, .refl _, .refl _, .refl _, .refl _, trivial⟩ ⟨⟨_, rfl, .refl _⟩, ⟨_, rfl, .refl _⟩, ⟨_, rfl, .refl _⟩, ⟨_, rfl, .refl _⟩, trivial⟩) h ?_
    rintro ⟨k0, n11⟩ h
    cases k0 with
    | zero => exact nomatch (show (none : Option (Bool × (List (Int × Int × Int × List UInt8 × List UInt8)) × Int × List Int × (List (List (List (List UInt8 × List UInt8 × Int)))))) = some r from h)
    | succ k0 =>
    obtain ⟨C0, hC0⟩ : ∃ C, C = f41a_L0 x1 x2 x3 x4 x5 x6 x7 x8 x9 x10 K1 k0 := ⟨_, rfl⟩
    replace h := (f41a_L0.eq_2 ..).symm.trans h
    try rw [← hC0] at h
    refine q1rq [] [] ⟨34, [(0, .ptr 2000 0), (1, .int .u64 x1), (5, .ptr 5 0), (12, q1aT31 x7), (13, .i (lZ x7)), (14, .i (n11 : Int)), (15, .bool (decide ((n11 : Int) < (lZ x7))))], [(5, .cells 31 (f41az1 x2 x3 x4 x5 x6)), (2000, .cells 64 [q1aT31 x7, .fn (.func 33) [], .int .u64 x8, .own 2001]), (2001, bI (V.int .u64) 0 x9 (some 2002) none none), (2002, bF 57 1 eLSSIJ [] x10 none)], [2000, 2001], 0⟩ trivial ?_
    refine AWp.seq ?_
    refine AWp.cond (b := (decide ((n11 : Int) < (lZ x7)))) (by kernel_rfl) (fun hc1 => ?_) (fun hc1 => ?_)
    ·
      replace h := ite_tb hc1 h
      refine AWp.skip ?_
      refine thenQ_normal ?_
      refine AWp.seq ?_
      refine AWp.block ?_
      refine AWp.seq ?_
      obtain ⟨ob0p, h⟩ := chk_some h
      have ob0 : 0 ≤ (n11 : Int) ∧ (n11 : Int) < (((x7).length : Nat) : Int) := ⟨by omega, ob0p⟩
      refine q1rr [] [] ⟨34, [(0, .ptr 2000 0), (1, .int .u64 x1), (5, .ptr 5 0), (7, .i (n11 : Int)), (8, .ptr 8 0), (12, q1aT31 x7), (13, .i (lZ x7)), (14, .i (n11 : Int))], [(5, .cells 31 (f41az1 x2 x3 x4 x5 x6)), (8, .cells 31 [.i (f41az0 x7 n11).1, .i (f41az0 x7 n11).2.1, .i (f41az0 x7 n11).2.2.1, .str (f41az0 x7 n11).2.2.2.1, .str (f41az0 x7 n11).2.2.2.2]), (2000, .cells 64 [q1aT31 x7, .fn (.func 33) [], .int .u64 x8, .own 2001]), (2001, bI (V.int .u64) 0 x9 (some 2002) none none), (2002, bF 57 1 eLSSIJ [] x10 none)], [2000, 2001], 0⟩ (an2 ob0 trivial) ?_
      refine thenQ_normal ?_
      refine AWp.seq ?_
      obtain ⟨r12, hr12, h⟩ := optc_some h
      obtain ⟨ob1p, h⟩ := chk_some h
      have ob1 : 0 ≤ (n11 : Int) ∧ n11 ≤ IntKind.bits .u64 := ⟨by omega, ob1p⟩
      have ob2 := idA ((((bitsI .and .u64 (x1 / 2 ^ n11) (1 : Int)) == (1 : Int)) == true) = true)
      have ob3 := idA ((((bitsI .and .u64 (x1 / 2 ^ n11) (1 : Int)) == (1 : Int)) == true) = true)
      have ob4 := idA ((((bitsI .and .u64 (x1 / 2 ^ n11) (1 : Int)) == (1 : Int)) == true) = true)
      have ob5 := idA ((((bitsI .and .u64 (x1 / 2 ^ n11) (1 : Int)) == (1 : Int)) == true) = true)
      have ob6 := idA ((((bitsI .and .u64 (x1 / 2 ^ n11) (1 : Int)) == (1 : Int)) == true) = true)
      have ob7 := idA ((((bitsI .and .u64 (x1 / 2 ^ n11) (1 : Int)) == (1 : Int)) == true) = true)
      have ob8 := bqA ((bitsI .and .u64 (x1 / 2 ^ n11) (1 : Int)) == (1 : Int)) true
      refine q1rr [] [(12, ⟨[.agg (f41az1 x2 x3 x4 x5 x6), .agg [.i (f41az0 x7 n11).1, .i (f41az0 x7 n11).2.1, .i (f41az0 x7 n11).2.2.1, .str (f41az0 x7 n11).2.2.2.1, .str (f41az0 x7 n11).2.2.2.2]], [], [], [], .bool r12, [], [], []⟩)] ⟨34, [(0, .ptr 2000 0), (1, .int .u64 x1), (5, .ptr 5 0), (12, q1aT31 x7), (13, .i (lZ x7)), (14, .i (n11 : Int)), (32, .bool (((bitsI .and .u64 (x1 / 2 ^ n11) (1 : Int)) == (1 : Int)) && r12))], [(5, .cells 31 (f41az1 x2 x3 x4 x5 x6)), (2000, .cells 64 [q1aT31 x7, .fn (.func 33) [], .int .u64 x8, .own 2001]), (2001, bI (V.int .u64) 0 x9 (some 2002) none none), (2002, bF 57 1 eLSSIJ [] x10 none)], [2000, 2001], 0⟩ (an6 ob1 (an1 ob2) (an1 ob3) (an1 ob4) (And.intro (cpC fun hc => (f33_ok _ _ _ _ _ _ _ _ _ _ _ (hr12 hc))) (an3 ob5 ob6 ob7)) ob8) ?_
      refine thenQ_normal ?_
      refine AWp.cond (b := (((bitsI .and .u64 (x1 / 2 ^ n11) (1 : Int)) == (1 : Int)) && r12)) (by kernel_rfl) (fun hc2 => ?_) (fun hc2 => ?_)
      ·
        replace h := ite_tb hc2 h
        refine q1rq [] [] ⟨34, [(6, .bool false)], [(2000, .cells 64 [q1aT31 x7, .fn (.func 33) [], .int .u64 x8, .own 2001]), (2001, bI (V.int .u64) 0 x9 (some 2002) none none), (2002, bF 57 1 eLSSIJ [] x10 none)], [2000, 2001], 0⟩ trivial ?_
        have hret := Option.some.inj h
        subst hret
        refine AWp.le (Le.mk (s' := ⟨34, [(6, .bool false)], [(2000, .cells 64 [q1aT31 x7, .fn (.func 33) [], .int .u64 x8, .own 2001]), (2001, bI (V.int .u64) 0 x9 (some 2002) none none), (2002, bF 57 1 eLSSIJ [] x10 none)], [2000, 2001], 0⟩) rfl rfl ⟨.refl _, trivial⟩ ⟨⟨_, rfl, .refl _⟩, ⟨_, rfl, .refl _⟩, ⟨_, rfl, .refl _⟩, trivial⟩) ?_
        refine AWp.ret ?_
        refine blockQ_ret ?_
        refine thenQ_ret ?_
        refine thenQ_ret ?_
        refine blockQ_ret ?_
        refine joinQ_ret ?_
        exact bodyQ_ret _ rfl ⟨rfl, rfl⟩ rfl
      ·
        replace h := ite_fb hc2 h
        refine AWp.skip ?_
        refine blockQ_normal ?_
        refine thenQ_normal ?_
        obtain ⟨ob9p, h⟩ := chk_some h
        have ob9 : -9223372036854775808 ≤ ((n11 : Int) + (1 : Int)) ∧ ((n11 : Int) + (1 : Int)) ≤ 9223372036854775807 := ⟨by omega, ob9p⟩
        refine q1rr [] [] ⟨34, [(0, .ptr 2000 0), (1, .int .u64 x1), (5, .ptr 5 0), (12, q1aT31 x7), (13, .i (lZ x7)), (14, .i (((n11 + 1) : Nat) : Int))], [(5, .cells 31 (f41az1 x2 x3 x4 x5 x6)), (2000, .cells 64 [q1aT31 x7, .fn (.func 33) [], .int .u64 x8, .own 2001]), (2001, bI (V.int .u64) 0 x9 (some 2002) none none), (2002, bF 57 1 eLSSIJ [] x10 none)], [2000, 2001], 0⟩ (an1 ob9) ?_
        rw [hC0] at h
        exact loopQ_normal (_, (n11 + 1)) (Le.mk rfl rfl ⟨.refl _, .refl _, .refl _, .refl _, .refl _, .refl _, trivial⟩ ⟨⟨_, rfl, .refl _⟩, ⟨_, rfl, .refl _⟩, ⟨_, rfl, .refl _⟩, ⟨_, rfl, .refl _⟩, trivial⟩) h (Nat.lt_succ_self _)
    ·
      replace h := ite_fb hc1 h
      refine AWp.exit ?_
      refine thenQ_exit ?_
      refine thenQ_exit ?_
      refine blockQ_same ?_
      exact joinQ_normal () (Le.mk rfl rfl trivial ⟨⟨_, rfl, .refl _⟩, ⟨_, rfl, .refl _⟩, ⟨_, rfl, .refl _⟩, trivial⟩) h
  ·
    rintro ⟨⟩ h
    replace h := (congrFun hK1 _).symm.trans h
    refine q1rq [] [] ⟨34, [(6, .bool true)], [(2000, .cells 64 [q1aT31 x7, .fn (.func 33) [], .int .u64 x8, .own 2001]), (2001, bI (V.int .u64) 0 x9 (some 2002) none none), (2002, bF 57 1 eLSSIJ [] x10 none)], [2000, 2001], 0⟩ trivial ?_
    have hret := Option.some.inj h
    subst hret
    refine AWp.le (Le.mk (s' := ⟨34, [(6, .bool true)], [(2000, .cells 64 [q1aT31 x7, .fn (.func 33) [], .int .u64 x8, .own 2001]), (2001, bI (V.int .u64) 0 x9 (some 2002) none none), (2002, bF 57 1 eLSSIJ [] x10 none)], [2000, 2001], 0⟩) rfl rfl ⟨.refl _, trivial⟩ ⟨⟨_, rfl, .refl _⟩, ⟨_, rfl, .refl _⟩, ⟨_, rfl, .refl _⟩, trivial⟩) ?_
    refine AWp.ret ?_
    exact bodyQ_ret _ rfl ⟨rfl, rfl⟩ rfl
def f48a_L0 (x1 : Int) (x2 : List Int) (x4 : List (Int × Int × Int × List UInt8 × List UInt8)) (Frec : Int → (List Int) → (List (List UInt8 × List UInt8 × Int)) → (List (Int × Int × Int × List UInt8 × List UInt8)) → Int → (List Int) → (List (List (List (List UInt8 × List UInt8 × Int)))) → Option (List Int × Bool × (List (Int × Int × Int × List UInt8 × List UInt8)) × Int × List Int × (List (List (List (List UInt8 × List UInt8 × Int)))))) (r8 : Bool × (List (List (List UInt8 × List UInt8 × Int))) × (List (List UInt8 × List UInt8 × Int))) (K1 : ((List (Int × Int × Int × List UInt8 × List UInt8)) × Int × List Int × (List (List (List (List UInt8 × List UInt8 × Int))))) → Option (List Int × Bool × (List (Int × Int × Int × List UInt8 × List UInt8)) × Int × List Int × (List (List (List (List UInt8 × List UInt8 × Int)))))) : Nat → (Nat × (List (Int × Int × Int × List UInt8 × List UInt8)) × Int × List Int × (List (List (List (List UInt8 × List UInt8 × Int))))) → Option (List Int × Bool × (List (Int × Int × Int × List UInt8 × List UInt8)) × Int × List Int × (List (List (List (List UInt8 × List UInt8 × Int)))))
  | 0, _ => none
  | k + 1, (n9, l10, i11, l12, l13) =>
    if (decide ((n9 : Int) < (((x4).length : Nat) : Int))) then (
    jn (fun ((l15, i17, l18, l19) : (List (Int × Int × Int × List UInt8 × List UInt8)) × Int × List Int × (List (List (List (List UInt8 × List UInt8 × Int))))) =>
    chk (((n9 : Int) + (1 : Int)) ≤ 9223372036854775807) <|
    (f48a_L0 x1 x2 x4 Frec r8 K1 k) ((n9 + 1), l15, i17, l18, l19)
    ) fun (K2 : ((List (Int × Int × Int × List UInt8 × List UInt8)) × Int × List Int × (List (List (List (List UInt8 × List UInt8 × Int))))) → Option (List Int × Bool × (List (Int × Int × Int × List UInt8 × List UInt8)) × Int × List Int × (List (List (List (List UInt8 × List UInt8 × Int)))))) =>
    chk ((n9 : Int) < (((x4).length : Nat) : Int)) <|
    if ((bitsI .and .u64 (x1 / 2 ^ n9) (1 : Int)) == (1 : Int)) = true then (
    chk (n9 ≤ IntKind.bits .u64) <|
    K2 (l10, i11, l12, l13)
    ) else (
    (f41a x1 ((x4.getD n9 (default : Int × Int × Int × List UInt8 × List UInt8)).1) ((x4.getD n9 (default : Int × Int × Int × List UInt8 × List UInt8)).2.1) ((x4.getD n9 (default : Int × Int × Int × List UInt8 × List UInt8)).2.2.1) ((x4.getD n9 (default : Int × Int × Int × List UInt8 × List UInt8)).2.2.2.1) ((x4.getD n9 (default : Int × Int × Int × List UInt8 × List UInt8)).2.2.2.2) l10 i11 l12 l13).bind fun (r14 : Bool × (List (Int × Int × Int × List UInt8 × List UInt8)) × Int × List Int × (List (List (List (List UInt8 × List UInt8 × Int))))) =>
    chk (n9 ≤ IntKind.bits .u64) <|
    if (!r14.1) then (
    K2 (r14.2.1, r14.2.2.1, r14.2.2.2.1, r14.2.2.2.2)
    ) else (
    (f40 r8.2.2 ((x4.getD n9 (default : Int × Int × Int × List UInt8 × List UInt8)).1) ((x4.getD n9 (default : Int × Int × Int × List UInt8 × List UInt8)).2.1) ((x4.getD n9 (default : Int × Int × Int × List UInt8 × List UInt8)).2.2.1) ((x4.getD n9 (default : Int × Int × Int × List UInt8 × List UInt8)).2.2.2.1) ((x4.getD n9 (default : Int × Int × Int × List UInt8 × List UInt8)).2.2.2.2)).bind fun (r20 : (List (List UInt8 × List UInt8 × Int)) × List UInt8) =>
    (f36 ((x4.getD n9 (default : Int × Int × Int × List UInt8 × List UInt8)).1) ((x4.getD n9 (default : Int × Int × Int × List UInt8 × List UInt8)).2.1) ((x4.getD n9 (default : Int × Int × Int × List UInt8 × List UInt8)).2.2.1) ((x4.getD n9 (default : Int × Int × Int × List UInt8 × List UInt8)).2.2.2.1) ((x4.getD n9 (default : Int × Int × Int × List UInt8 × List UInt8)).2.2.2.2)).bind fun (r21 : Bool) =>
    if ((!r21) && (!(r20.2 == ((x4.getD n9 (default : Int × Int × Int × List UInt8 × List UInt8)).2.2.2.2)))) then (
    K2 (r14.2.1, r14.2.2.1, r14.2.2.2.1, r14.2.2.2.2)
    ) else (
    (f26 x2).bind fun (r22 : List Int) =>
    (Frec (bitsI .or .u64 x1 ((1 : Int) * 2 ^ n9)) (r22 ++ [(n9 : Int)]) r20.1 r14.2.1 r14.2.2.1 r14.2.2.2.1 r14.2.2.2.2).bind fun (r23 : List Int × Bool × (List (Int × Int × Int × List UInt8 × List UInt8)) × Int × List Int × (List (List (List (List UInt8 × List UInt8 × Int))))) =>
    chk (n9 ≤ IntKind.bits .u64 ∧ 0 ≤ ((1 : Int) * 2 ^ n9) ∧ ((1 : Int) * 2 ^ n9) ≤ 18446744073709551615) <|
    chk (((r22).length + 1) * 8 ≤ 140737488355328) <|
    if r23.2.1 then (
    some (r23.1, true, r23.2.2.1, r23.2.2.2.1, r23.2.2.2.2.1, r23.2.2.2.2.2)
    ) else (
    K2 (r23.2.2.1, r23.2.2.2.1, r23.2.2.2.2.1, r23.2.2.2.2.2)
    )
    )
    )
    )
    ) else (
    K1 (l10, i11, l12, l13)
    )
def f48a : Nat → Int → (List Int) → (List (List UInt8 × List UInt8 × Int)) → (List (Int × Int × Int × List UInt8 × List UInt8)) → Int → (List Int) → (List (List (List (List UInt8 × List UInt8 × Int)))) → Option (List Int × Bool × (List (Int × Int × Int × List UInt8 × List UInt8)) × Int × List Int × (List (List (List (List UInt8 × List UInt8 × Int)))))
  | 0, _, _, _, _, _, _, _ => none
  | k + 1, x1, x2, x3, x4, x5, x6, x7 =>
    if ((bitsI .and .u64 x1 x5) == x5) then (
    some (x2, true, x4, x5, x6, x7)
    ) else (
    (f61 (getM x6 x7 [] [] x1) x3).bind fun (r8 : Bool × (List (List (List UInt8 × List UInt8 × Int))) × (List (List UInt8 × List UInt8 × Int))) =>
    chk (r8.2.1 = (getM x6 x7 [] [] x1)) <|
    if r8.1 then (
    some ([], false, x4, x5, x6, x7)
    ) else (
    jn (fun ((l24, i25, l26, l27) : (List (Int × Int × Int × List UInt8 × List UInt8)) × Int × List Int × (List (List (List (List UInt8 × List UInt8 × Int))))) =>
    chk ((((getM l26 l27 [] [] x1)).length + 1) * 24 ≤ 140737488355328) <|
    some ([], false, l24, i25, (updK l26 x1), (updV l26 l27 x1 ((getM l26 l27 [] [] x1) ++ [r8.2.2])))
    ) fun (K1 : ((List (Int × Int × Int × List UInt8 × List UInt8)) × Int × List Int × (List (List (List (List UInt8 × List UInt8 × Int))))) → Option (List Int × Bool × (List (Int × Int × Int × List UInt8 × List UInt8)) × Int × List Int × (List (List (List (List UInt8 × List UInt8 × Int)))))) =>
    f48a_L0 x1 x2 x4 (f48a k) r8 K1 FUEL (0, x4, x5, x6, x7)
    )
    )
set_option maxRecDepth 100000 in
theorem f48a_ok : ∀ (k : Nat) (x1 : Int) (x2 : List Int) (x3 : List (List UInt8 × List UInt8 × Int)) (x4 : List (Int × Int × Int × List UInt8 × List UInt8)) (x5 : Int) (x6 : List Int) (x7 : List (List (List (List UInt8 × List UInt8 × Int)))) (r : List Int × Bool × (List (Int × Int × Int × List UInt8 × List UInt8)) × Int × List Int × (List (List (List (List UInt8 × List UInt8 × Int))))), f48a k x1 x2 x3 x4 x5 x6 x7 = some r → Spec1 Tryz.prog 48 [(3, .tab .u64 Lib.pow10Tab)] [2000, 2001] [(2000, .cells 64 [vL 5 eT31 (default : Int × Int × Int × List UInt8 × List UInt8) x4, .fn (.func 33) [], .int .u64 x5, .own 2001]), (2001, bI (V.int .u64) 0 x6 (some 2002) none none), (2002, bF 57 1 eLSSIJ [] x7 none)] [.ptr 2000 0, .int .u64 x1, vL 1 eI 0 x2, vL 3 eSSI (default : List UInt8 × List UInt8 × Int) x3] (.tup [vL 1 eI 0 r.1, .bool r.2.1]) [(2000, .cells 64 [vL 5 eT31 (default : Int × Int × Int × List UInt8 × List UInt8) r.2.2.1, .fn (.func 33) [], .int .u64 r.2.2.2.1, .own 2001]), (2001, bI (V.int .u64) 0 r.2.2.2.2.1 (some 2002) none none), (2002, bF 57 1 eLSSIJ [] r.2.2.2.2.2 none)] := by
  intro k
  induction k with
  | zero => intro x1 x2 x3 x4 x5 x6 x7 r h; exact nomatch (show (none : Option (List Int × Bool × (List (Int × Int × Int × List UInt8 × List UInt8)) × Int × List Int × (List (List (List (List UInt8 × List UInt8 × Int)))))) = some r from h)
  | succ k ih =>
  intro x1 x2 x3 x4 x5 x6 x7 r h
  obtain ⟨Frec, hFrec⟩ : ∃ C, C = f48a k := ⟨_, rfl⟩
  rw [f48a.eq_2] at h
  rw [← hFrec] at h ih
  refine Spec1.body 0 _ _ Tryz.func48 rfl Tryz.ntmps48 rfl rfl ?_
  refine q1rq [] [] ⟨105, [(0, .ptr 2000 0), (1, .int .u64 x1), (2, q1aI x2), (7, .ptr 7 0), (1000003, .tab .u64 Lib.pow10Tab)], [(7, .cells 57 [q1aSSI x3]), (2000, .cells 64 [q1aT31 x4, .fn (.func 33) [], .int .u64 x5, .own 2001]), (2001, bI (V.int .u64) 0 x6 (some 2002) none none), (2002, bF 57 1 eLSSIJ [] x7 none)], [2000, 2001], 0⟩ trivial ?_
  refine AWp.seq ?_
  refine q1rq [] [] ⟨105, [(0, .ptr 2000 0), (1, .int .u64 x1), (2, q1aI x2), (7, .ptr 7 0), (26, .bool ((bitsI .and .u64 x1 x5) == x5)), (1000003, .tab .u64 Lib.pow10Tab)], [(7, .cells 57 [q1aSSI x3]), (2000, .cells 64 [q1aT31 x4, .fn (.func 33) [], .int .u64 x5, .own 2001]), (2001, bI (V.int .u64) 0 x6 (some 2002) none none), (2002, bF 57 1 eLSSIJ [] x7 none)], [2000, 2001], 0⟩ trivial ?_
  refine AWp.cond (b := ((bitsI .and .u64 x1 x5) == x5)) (by kernel_rfl) (fun hc1 => ?_) (fun hc1 => ?_)
  ·
    replace h := ite_tb hc1 h
    refine q1rq [] [] ⟨105, [(8, q1aI x2), (9, .bool true), (1000003, .tab .u64 Lib.pow10Tab)], [(2000, .cells 64 [q1aT31 x4, .fn (.func 33) [], .int .u64 x5, .own 2001]), (2001, bI (V.int .u64) 0 x6 (some 2002) none none), (2002, bF 57 1 eLSSIJ [] x7 none)], [2000, 2001], 0⟩ trivial ?_
    have hret := Option.some.inj h
    subst hret
    refine AWp.le (Le.mk (s' := ⟨105, [(8, q1aI x2), (9, .bool true)], [(2000, .cells 64 [q1aT31 x4, .fn (.func 33) [], .int .u64 x5, .own 2001]), (2001, bI (V.int .u64) 0 x6 (some 2002) none none), (2002, bF 57 1 eLSSIJ [] x7 none)], [2000, 2001], 0⟩) rfl rfl ⟨.refl _, .refl _, trivial⟩ ⟨⟨_, rfl, .refl _⟩, ⟨_, rfl, .refl _⟩, ⟨_, rfl, .refl _⟩, trivial⟩) ?_
    refine AWp.ret ?_
    refine thenQ_ret ?_
    exact bodyQ_ret _ rfl ⟨rfl, rfl⟩ rfl
  ·
    replace h := ite_fb hc1 h
    refine AWp.skip ?_
    refine thenQ_normal ?_
    refine AWp.seq ?_
    refine AWp.seq ?_
    obtain ⟨r8, hr8, h⟩ := bind_ok h
    refine q1rr [] [(5, ⟨[.own 2001, .int .u64 x1], [2001, 2002], [2001], [(2001, bI (V.int .u64) 0 x6 (some 2002) (idxL x1 x6 0) (some 33)), (2002, bF 57 1 eLSSIJ [] x7 (idxL x1 x6 0)), (33, q1bLSSIJ_57 (getM x6 x7 [] [] x1))], .own 33, [2002, 33], [], []⟩), (7, ⟨[.own 33, .fn (.func 62) [.ptr 7 0]], [33, 7], [33, 7], [(33, q1bLSSIJ_57 r8.2.1), (7, .cells 57 [q1aSSI r8.2.2])], .bool r8.1, [], [], []⟩)] ⟨105, [(0, .ptr 2000 0), (1, .int .u64 x1), (2, q1aI x2), (7, .ptr 7 0), (35, .bool r8.1), (1000003, .tab .u64 Lib.pow10Tab)], [(7, .cells 57 [q1aSSI r8.2.2]), (33, q1bLSSIJ_57 r8.2.1), (2000, .cells 64 [q1aT31 x4, .fn (.func 33) [], .int .u64 x5, .own 2001]), (2001, bI (V.int .u64) 0 x6 (some 2002) (idxL x1 x6 0) (some 33)), (2002, bF 57 1 eLSSIJ [] x7 (idxL x1 x6 0))], [2000, 2001], 0⟩ (an2 (And.intro (lookI_spec (P := Tryz.prog) Tryz.underlying62 (V.int .u64) kE62 0 57 1 eLSSIJ [] (by kernel_rfl) (.tmp 31) (.tmp 32) 98 2001 2002 33 (of_decide_eq_true (by kernel_rfl)) (of_decide_eq_true (by kernel_rfl)) (of_decide_eq_true (by kernel_rfl)) x6 x7 x1) (VLes.same [.own 2001, .int .u64 x1])) (cpT (Spec1.ren (swapN 2001 7) (swapN_inv 2001 7) rfl (Spec1.ren (swapN 2000 33) (swapN_inv 2000 33) rfl (f61_ok _ _ _ hr8))))) ?_
    refine thenQ_normal ?_
    obtain ⟨hk2, h⟩ := chk_some h
    refine AWp.le (Le.trans (Le.putI (s := ⟨105, [(0, .ptr 2000 0), (1, .int .u64 x1), (2, q1aI x2), (7, .ptr 7 0), (35, .bool r8.1), (1000003, .tab .u64 Lib.pow10Tab)], [(7, .cells 57 [q1aSSI r8.2.2]), (33, q1bLSSIJ_57 r8.2.1), (2000, .cells 64 [q1aT31 x4, .fn (.func 33) [], .int .u64 x5, .own 2001]), (2001, bI (V.int .u64) 0 x6 (some 2002) (idxL x1 x6 0) (some 33)), (2002, bF 57 1 eLSSIJ [] x7 (idxL x1 x6 0))], [2000, 2001], 0⟩) 2001 2002 33 rfl rfl rfl hk2 rfl) (Le.mk (s' := ⟨105, [(0, .ptr 2000 0), (1, .int .u64 x1), (2, q1aI x2), (7, .ptr 7 0), (35, .bool r8.1), (1000003, .tab .u64 Lib.pow10Tab)], [(7, .cells 57 [q1aSSI r8.2.2]), (2000, .cells 64 [q1aT31 x4, .fn (.func 33) [], .int .u64 x5, .own 2001]), (2001, bI (V.int .u64) 0 x6 (some 2002) none none), (2002, bF 57 1 eLSSIJ [] x7 none)], [2000, 2001], 0⟩) rfl rfl ⟨.refl _, .refl _, .refl _, .refl _, .refl _, .refl _, trivial⟩ ⟨⟨_, rfl, .refl _⟩, ⟨_, rfl, .refl _⟩, ⟨_, rfl, .refl _⟩, ⟨_, rfl, .refl _⟩, trivial⟩)) ?_
    refine AWp.cond (b := r8.1) (by kernel_rfl) (fun hc3 => ?_) (fun hc3 => ?_)
    ·
      replace h := ite_tb hc3 h
      refine q1rq [] [] ⟨105, [(8, .nils), (9, .bool false), (1000003, .tab .u64 Lib.pow10Tab)], [(2000, .cells 64 [q1aT31 x4, .fn (.func 33) [], .int .u64 x5, .own 2001]), (2001, bI (V.int .u64) 0 x6 (some 2002) none none), (2002, bF 57 1 eLSSIJ [] x7 none)], [2000, 2001], 0⟩ trivial ?_
      have hret := Option.some.inj h
      subst hret
      refine AWp.le (Le.mk (s' := ⟨105, [(8, q1aI []), (9, .bool false)], [(2000, .cells 64 [q1aT31 x4, .fn (.func 33) [], .int .u64 x5, .own 2001]), (2001, bI (V.int .u64) 0 x6 (some 2002) none none), (2002, bF 57 1 eLSSIJ [] x7 none)], [2000, 2001], 0⟩) rfl rfl ⟨.nilL, .refl _, trivial⟩ ⟨⟨_, rfl, .refl _⟩, ⟨_, rfl, .refl _⟩, ⟨_, rfl, .refl _⟩, trivial⟩) ?_
      refine AWp.ret ?_
      refine thenQ_ret ?_
      exact bodyQ_ret _ rfl ⟨rfl, rfl⟩ rfl
    ·
      replace h := ite_fb hc3 h
      refine AWp.skip ?_
      refine thenQ_normal ?_
      obtain ⟨K1, hK1, h⟩ := jn_some h
      refine AWp.join (α := (List (Int × Int × Int × List UInt8 × List UInt8)) × Int × List Int × (List (List (List (List UInt8 × List UInt8 × Int))))) (fun (x : (List (Int × Int × Int × List UInt8 × List UInt8)) × Int × List Int × (List (List (List (List UInt8 × List UInt8 × Int))))) => match x with | (l24, i25, l26, l27) => ⟨105, [(0, .ptr 2000 0), (1, .int .u64 x1), (7, .ptr 7 0), (1000003, .tab .u64 Lib.pow10Tab)], [(7, .cells 57 [q1aSSI r8.2.2]), (2000, .cells 64 [q1aT31 l24, .fn (.func 33) [], .int .u64 i25, .own 2001]), (2001, bI (V.int .u64) 0 l26 (some 2002) none none), (2002, bF 57 1 eLSSIJ [] l27 none)], [2000, 2001], 0⟩) (fun x => K1 x = some r) ?_ ?_
      ·
        refine q1rq [] [] ⟨105, [(0, .ptr 2000 0), (1, .int .u64 x1), (2, q1aI x2), (7, .ptr 7 0), (39, q1aT31 x4), (40, .i (lZ x4)), (41, .i (0 : Int)), (1000003, .tab .u64 Lib.pow10Tab)], [(7, .cells 57 [q1aSSI r8.2.2]), (2000, .cells 64 [q1aT31 x4, .fn (.func 33) [], .int .u64 x5, .own 2001]), (2001, bI (V.int .u64) 0 x6 (some 2002) none none), (2002, bF 57 1 eLSSIJ [] x7 none)], [2000, 2001], 0⟩ trivial ?_
        refine AWp.block ?_
        refine AWp.loopL (α := Nat × (Nat × (List (Int × Int × Int × List UInt8 × List UInt8)) × Int × List Int × (List (List (List (List UInt8 × List UInt8 × Int)))))) (fun x => match x with | (_, n9, l10, i11, l12, l13) => ⟨105, [(0, .ptr 2000 0), (1, .int .u64 x1), (2, q1aI x2), (7, .ptr 7 0), (39, q1aT31 x4), (40, .i (lZ x4)), (41, .i (n9 : Int)), (1000003, .tab .u64 Lib.pow10Tab)], [(7, .cells 57 [q1aSSI r8.2.2]), (2000, .cells 64 [q1aT31 l10, .fn (.func 33) [], .int .u64 i11, .own 2001]), (2001, bI (V.int .u64) 0 l12 (some 2002) none none), (2002, bF 57 1 eLSSIJ [] l13 none)], [2000, 2001], 0⟩) (fun x => f48a_L0 x1 x2 x4 Frec r8 K1 x.1 x.2 = some r) (fun x => x.1) (FUEL, 0, x4, x5, x6, x7) (Le.mk (s' := ⟨105, [(0, .ptr 2000 0), (1, .int .u64 x1), (2, q1aI x2), (7, .ptr 7 0), (39, q1aT31 x4), (40, .i (lZ x4)), (41, .i (0 : Int)), (1000003, .tab .u64 Lib.pow10Tab)], [(7, .cells 57 [q1aSSI r8.2.2]), (2000, .cells 64 [q1aT31 x4, .fn (.func 33) [], .int .u64 x5, .own 2001]), (2001, bI (V.int .u64) 0 x6 (some 2002) none none), (2002, bF 57 1 eLSSIJ [] x7 none)], [2000, 2001], 0⟩) rfl rfl ⟨.refl _, .refl _, .refl _, .refl _, .refl _, .refl _, .refl _, .refl _, trivial⟩ ⟨⟨_, rfl, .refl _⟩, ⟨_, rfl, .refl _⟩, ⟨_, rfl, .refl _⟩, ⟨_, rfl, .refl _⟩, trivial⟩) h ?_
        rintro ⟨k0, n9, l10, i11, l12, l13⟩ h
        cases k0 with
        | zero => exact nomatch (show (none : Option (List Int × Bool × (List (Int × Int × Int × List UInt8 × List UInt8)) × Int × List Int × (List (List (List (List UInt8 × List UInt8 × Int)))))) = some r from h)
        | succ k0 =>
        obtain ⟨C0, hC0⟩ : ∃ C, C = f48a_L0 x1 x2 x4 Frec r8 K1 k0 := ⟨_, rfl⟩
        replace h := (f48a_L0.eq_2 ..).symm.trans h
        try rw [← hC0] at h
        refine q1rq [] [] ⟨105, [(0, .ptr 2000 0), (1, .int .u64 x1), (2, q1aI x2), (7, .ptr 7 0), (39, q1aT31 x4), (40, .i (lZ x4)), (41, .i (n9 : Int)), (42, .bool (decide ((n9 : Int) < (lZ x4)))), (1000003, .tab .u64 Lib.pow10Tab)], [(7, .cells 57 [q1aSSI r8.2.2]), (2000, .cells 64 [q1aT31 l10, .fn (.func 33) [], .int .u64 i11, .own 2001]), (2001, bI (V.int .u64) 0 l12 (some 2002) none none), (2002, bF 57 1 eLSSIJ [] l13 none)], [2000, 2001], 0⟩ trivial ?_
        refine AWp.seq ?_
        refine AWp.cond (b := (decide ((n9 : Int) < (lZ x4)))) (by kernel_rfl) (fun hc4 => ?_) (fun hc4 => ?_)
        ·
          replace h := ite_tb hc4 h
          refine AWp.skip ?_
          refine thenQ_normal ?_
          obtain ⟨K2, hK2, h⟩ := jn_some h
          refine AWp.join (α := (List (Int × Int × Int × List UInt8 × List UInt8)) × Int × List Int × (List (List (List (List UInt8 × List UInt8 × Int))))) (fun (x : (List (Int × Int × Int × List UInt8 × List UInt8)) × Int × List Int × (List (List (List (List UInt8 × List UInt8 × Int))))) => match x with | (l15, i17, l18, l19) => ⟨105, [(0, .ptr 2000 0), (1, .int .u64 x1), (2, q1aI x2), (7, .ptr 7 0), (39, q1aT31 x4), (40, .i (lZ x4)), (41, .i (n9 : Int)), (1000003, .tab .u64 Lib.pow10Tab)], [(7, .cells 57 [q1aSSI r8.2.2]), (2000, .cells 64 [q1aT31 l15, .fn (.func 33) [], .int .u64 i17, .own 2001]), (2001, bI (V.int .u64) 0 l18 (some 2002) none none), (2002, bF 57 1 eLSSIJ [] l19 none)], [2000, 2001], 0⟩) (fun x => K2 x = some r) ?_ ?_
          ·
            refine AWp.block ?_
            refine AWp.seq ?_
            obtain ⟨ob0p, h⟩ := chk_some h
            have ob0 : 0 ≤ (n9 : Int) ∧ (n9 : Int) < (((x4).length : Nat) : Int) := ⟨by omega, ob0p⟩
            refine q1rr [] [] ⟨105, [(0, .ptr 2000 0), (1, .int .u64 x1), (2, q1aI x2), (7, .ptr 7 0), (10, .i (n9 : Int)), (11, .ptr 11 0), (39, q1aT31 x4), (40, .i (lZ x4)), (41, .i (n9 : Int)), (1000003, .tab .u64 Lib.pow10Tab)], [(7, .cells 57 [q1aSSI r8.2.2]), (11, .cells 31 [.i (x4.getD n9 q1dT31).1, .i (x4.getD n9 q1dT31).2.1, .i (x4.getD n9 q1dT31).2.2.1, .str (x4.getD n9 q1dT31).2.2.2.1, .str (x4.getD n9 q1dT31).2.2.2.2]), (2000, .cells 64 [q1aT31 l10, .fn (.func 33) [], .int .u64 i11, .own 2001]), (2001, bI (V.int .u64) 0 l12 (some 2002) none none), (2002, bF 57 1 eLSSIJ [] l13 none)], [2000, 2001], 0⟩ (an2 ob0 trivial) ?_
            refine thenQ_normal ?_
            refine AWp.seq ?_
            refine AWp.seq ?_
            by_cases hg8_5 : ((bitsI .and .u64 (x1 / 2 ^ n9) (1 : Int)) == (1 : Int)) = true
            ·
              replace h := ite_t hg8_5 h
              obtain ⟨ob1p, h⟩ := chk_some h
              have ob1 : 0 ≤ (n9 : Int) ∧ n9 ≤ IntKind.bits .u64 := ⟨by omega, ob1p⟩
              have ob2 := idA (false = true)
              have ob3 := idA (false = true)
              have ob4 := idA (false = true)
              have ob5 := idA (false = true)
              have ob6 : true = true → true = false → false = true := by first | decide | omega | simp | (intro h; cases h)
              refine q1rr [] [(5, ⟨[], [], [], [], (.bool true), [], [0], []⟩), (9, ⟨[], [], [], [], .bool false, [], [], []⟩)] ⟨105, [(0, .ptr 2000 0), (1, .int .u64 x1), (2, q1aI x2), (7, .ptr 7 0), (10, .i (n9 : Int)), (11, .ptr 11 0), (39, q1aT31 x4), (40, .i (lZ x4)), (41, .i (n9 : Int)), (57, .bool true), (1000003, .tab .u64 Lib.pow10Tab)], [(7, .cells 57 [q1aSSI r8.2.2]), (11, .cells 31 [.i (x4.getD n9 q1dT31).1, .i (x4.getD n9 q1dT31).2.1, .i (x4.getD n9 q1dT31).2.2.1, .str (x4.getD n9 q1dT31).2.2.2.1, .str (x4.getD n9 q1dT31).2.2.2.2]), (2000, .cells 64 [q1aT31 l10, .fn (.func 33) [], .int .u64 i11, .own 2001]), (2001, bI (V.int .u64) 0 l12 (some 2002) none none), (2002, bF 57 1 eLSSIJ [] l13 none)], [2000, 2001], 0⟩ (an5 ob1 (show ((.bool ((bitsI .and .u64 (x1 / 2 ^ n9) (1 : Int)) == (1 : Int))) : V) = (.bool true) from (congrArg (fun x => ((.bool x) : V)) hg8_5)) (And.intro (show (callP Tryz.prog false 41 [] [] [] [] [] [.ptr 2000 0, .int .u64 x1, .agg [.i (x4.getD n9 q1dT31).1, .i (x4.getD n9 q1dT31).2.1, .i (x4.getD n9 q1dT31).2.2.1, .str (x4.getD n9 q1dT31).2.2.2.1, .str (x4.getD n9 q1dT31).2.2.2.2]] [] (.bool false) []) from ⟨nofun, nofun, .inl rfl⟩) (an3 ob2 ob3 ob4)) (an1 ob5) ob6) ?_
              refine thenQ_normal ?_
              refine AWp.cond (b := true) (by kernel_rfl) (fun hc => ?_) (fun hc => ?_)
              ·
                clear hc
                refine AWp.exit ?_
                refine thenQ_exit ?_
                refine blockQ_same ?_
                exact joinQ_normal (l10, i11, l12, l13) (Le.mk rfl rfl ⟨.refl _, .refl _, .refl _, .refl _, .refl _, .refl _, .refl _, .refl _, trivial⟩ ⟨⟨_, rfl, .refl _⟩, ⟨_, rfl, .refl _⟩, ⟨_, rfl, .refl _⟩, ⟨_, rfl, .refl _⟩, trivial⟩) h
              ·
                cases hc
            ·
              replace h := ite_f hg8_5 h
              obtain ⟨r14, hr14, h⟩ := bind_ok h
              obtain ⟨ob1p, h⟩ := chk_some h
              have ob1 : 0 ≤ (n9 : Int) ∧ n9 ≤ IntKind.bits .u64 := ⟨by omega, ob1p⟩
              have ob2 := idA (true = true)
              have ob3 := idA (true = true)
              have ob4 := idA (true = true)
              have ob5 : true = true → false = false → true = true := by first | decide | omega | simp | (intro h; cases h)
              refine q1rr [] [(5, ⟨[], [], [], [], (.bool false), [], [0], []⟩), (9, ⟨[.ptr 2000 0, .int .u64 x1, .agg [.i (x4.getD n9 q1dT31).1, .i (x4.getD n9 q1dT31).2.1, .i (x4.getD n9 q1dT31).2.2.1, .str (x4.getD n9 q1dT31).2.2.2.1, .str (x4.getD n9 q1dT31).2.2.2.2]], [2000, 2001, 2002], [2000, 2001], [(2000, .cells 64 [q1aT31 r14.2.1, .fn (.func 33) [], .int .u64 r14.2.2.1, .own 2001]), (2001, bI (V.int .u64) 0 r14.2.2.2.1 (some 2002) none none), (2002, bF 57 1 eLSSIJ [] r14.2.2.2.2 none)], .bool r14.1, [2002], [], []⟩)] ⟨105, [(0, .ptr 2000 0), (1, .int .u64 x1), (2, q1aI x2), (7, .ptr 7 0), (10, .i (n9 : Int)), (11, .ptr 11 0), (39, q1aT31 x4), (40, .i (lZ x4)), (41, .i (n9 : Int)), (57, .bool (!r14.1)), (1000003, .tab .u64 Lib.pow10Tab)], [(7, .cells 57 [q1aSSI r8.2.2]), (11, .cells 31 [.i (x4.getD n9 q1dT31).1, .i (x4.getD n9 q1dT31).2.1, .i (x4.getD n9 q1dT31).2.2.1, .str (x4.getD n9 q1dT31).2.2.2.1, .str (x4.getD n9 q1dT31).2.2.2.2]), (2000, .cells 64 [q1aT31 r14.2.1, .fn (.func 33) [], .int .u64 r14.2.2.1, .own 2001]), (2001, bI (V.int .u64) 0 r14.2.2.2.1 (some 2002) none none), (2002, bF 57 1 eLSSIJ [] r14.2.2.2.2 none)], [2000, 2001], 0⟩ (an4 ob1 (show ((.bool ((bitsI .and .u64 (x1 / 2 ^ n9) (1 : Int)) == (1 : Int))) : V) = (.bool false) from (congrArg (fun x => ((.bool x) : V)) (Bool.eq_false_iff.2 hg8_5))) (And.intro (cpT (f41a_ok _ _ _ _ _ _ _ _ _ _ _ hr14)) (an3 ob2 ob3 ob4)) ob5) ?_
              refine thenQ_normal ?_
              refine AWp.cond (b := (!r14.1)) (by kernel_rfl) (fun hc6 => ?_) (fun hc6 => ?_)
              ·
                replace h := ite_tb hc6 h
                refine AWp.exit ?_
                refine thenQ_exit ?_
                refine blockQ_same ?_
                exact joinQ_normal (r14.2.1, r14.2.2.1, r14.2.2.2.1, r14.2.2.2.2) (Le.mk rfl rfl ⟨.refl _, .refl _, .refl _, .refl _, .refl _, .refl _, .refl _, .refl _, trivial⟩ ⟨⟨_, rfl, .refl _⟩, ⟨_, rfl, .refl _⟩, ⟨_, rfl, .refl _⟩, ⟨_, rfl, .refl _⟩, trivial⟩) h
              ·
                replace h := ite_fb hc6 h
                refine AWp.skip ?_
                refine thenQ_normal ?_
                refine AWp.seq ?_
                obtain ⟨r20, hr20, h⟩ := bind_ok h
                refine q1rr [] [(2, ⟨[q1aSSI r8.2.2, .agg [.i (x4.getD n9 q1dT31).1, .i (x4.getD n9 q1dT31).2.1, .i (x4.getD n9 q1dT31).2.2.1, .str (x4.getD n9 q1dT31).2.2.2.1, .str (x4.getD n9 q1dT31).2.2.2.2]], [], [], [], .tup [q1aSSI r20.1, .str r20.2], [], [], [3]⟩)] ⟨105, [(0, .ptr 2000 0), (1, .int .u64 x1), (2, q1aI x2), (7, .ptr 7 0), (10, .i (n9 : Int)), (11, .ptr 11 0), (12, q1aSSI r20.1), (13, .str r20.2), (39, q1aT31 x4), (40, .i (lZ x4)), (41, .i (n9 : Int)), (1000003, .tab .u64 Lib.pow10Tab)], [(7, .cells 57 [q1aSSI r8.2.2]), (11, .cells 31 [.i (x4.getD n9 q1dT31).1, .i (x4.getD n9 q1dT31).2.1, .i (x4.getD n9 q1dT31).2.2.1, .str (x4.getD n9 q1dT31).2.2.2.1, .str (x4.getD n9 q1dT31).2.2.2.2]), (2000, .cells 64 [q1aT31 r14.2.1, .fn (.func 33) [], .int .u64 r14.2.2.1, .own 2001]), (2001, bI (V.int .u64) 0 r14.2.2.2.1 (some 2002) none none), (2002, bF 57 1 eLSSIJ [] r14.2.2.2.2 none)], [2000, 2001], 0⟩ (an1 (cpT (f40_ok _ _ _ _ _ _ _ hr20))) ?_
                refine thenQ_normal ?_
                refine AWp.seq ?_
                refine AWp.seq ?_
                obtain ⟨r21, hr21, h⟩ := bind_ok h
                have ob7 := idA (((!r21) == true) = true)
                have ob8 := idA (((!r21) == true) = true)
                have ob9 := idA (((!r21) == true) = true)
                have ob10 := bqA (!r21) true
                refine q1rr [] [(1, ⟨[.agg [.i (x4.getD n9 q1dT31).1, .i (x4.getD n9 q1dT31).2.1, .i (x4.getD n9 q1dT31).2.2.1, .str (x4.getD n9 q1dT31).2.2.2.1, .str (x4.getD n9 q1dT31).2.2.2.2]], [], [], [], .bool r21, [], [], []⟩)] ⟨105, [(0, .ptr 2000 0), (1, .int .u64 x1), (2, q1aI x2), (7, .ptr 7 0), (10, .i (n9 : Int)), (12, q1aSSI r20.1), (39, q1aT31 x4), (40, .i (lZ x4)), (41, .i (n9 : Int)), (72, .bool ((!r21) && (!(r20.2 == ((x4.getD n9 q1dT31).2.2.2.2))))), (1000003, .tab .u64 Lib.pow10Tab)], [(7, .cells 57 [q1aSSI r8.2.2]), (2000, .cells 64 [q1aT31 r14.2.1, .fn (.func 33) [], .int .u64 r14.2.2.1, .own 2001]), (2001, bI (V.int .u64) 0 r14.2.2.2.1 (some 2002) none none), (2002, bF 57 1 eLSSIJ [] r14.2.2.2.2 none)], [2000, 2001], 0⟩ (an4 (cpT (f36_ok _ _ _ _ _ _ hr21)) (an1 ob7) (an2 ob8 ob9) ob10) ?_
                refine thenQ_normal ?_
                refine AWp.cond (b := ((!r21) && (!(r20.2 == ((x4.getD n9 q1dT31).2.2.2.2))))) (by kernel_rfl) (fun hc7 => ?_) (fun hc7 => ?_)
                ·
                  replace h := ite_tb hc7 h
                  refine AWp.exit ?_
                  refine thenQ_exit ?_
                  refine blockQ_same ?_
                  exact joinQ_normal (r14.2.1, r14.2.2.1, r14.2.2.2.1, r14.2.2.2.2) (Le.mk rfl rfl ⟨.refl _, .refl _, .refl _, .refl _, .refl _, .refl _, .refl _, .refl _, trivial⟩ ⟨⟨_, rfl, .refl _⟩, ⟨_, rfl, .refl _⟩, ⟨_, rfl, .refl _⟩, ⟨_, rfl, .refl _⟩, trivial⟩) h
                ·
                  replace h := ite_fb hc7 h
                  refine AWp.skip ?_
                  refine thenQ_normal ?_
                  refine AWp.seq ?_
                  obtain ⟨r22, hr22, h⟩ := bind_ok h
                  obtain ⟨r23, hr23, h⟩ := bind_ok h
                  obtain ⟨ob11p, h⟩ := chk_some h
                  have ob11 : 0 ≤ (n9 : Int) ∧ n9 ≤ IntKind.bits .u64 ∧ 0 ≤ ((1 : Int) * 2 ^ n9) ∧ ((1 : Int) * 2 ^ n9) ≤ 18446744073709551615 := ⟨by omega, ob11p.1, ob11p.2.1, ob11p.2.2⟩
                  obtain ⟨ob12, h⟩ := chk_some h
                  refine q1rr [] [(6, ⟨[q1aI x2], [], [], [(6001, q1bI_3 r22)], .own 6001, [6001], [], []⟩), (11, ⟨[.ptr 2000 0, .int .u64 (bitsI .or .u64 x1 ((1 : Int) * 2 ^ n9)), .own 6001, q1aSSI r20.1], [2000, 2001, 2002, 6001], [2000, 2001], [(2000, .cells 64 [q1aT31 r23.2.2.1, .fn (.func 33) [], .int .u64 r23.2.2.2.1, .own 2001]), (2001, bI (V.int .u64) 0 r23.2.2.2.2.1 (some 2002) none none), (2002, bF 57 1 eLSSIJ [] r23.2.2.2.2.2 none)], .tup [q1aI r23.1, .bool r23.2.1], [2002], [], [3]⟩)] ⟨105, [(0, .ptr 2000 0), (1, .int .u64 x1), (2, q1aI x2), (7, .ptr 7 0), (14, q1aI r23.1), (15, .bool r23.2.1), (39, q1aT31 x4), (40, .i (lZ x4)), (41, .i (n9 : Int)), (1000003, .tab .u64 Lib.pow10Tab)], [(7, .cells 57 [q1aSSI r8.2.2]), (2000, .cells 64 [q1aT31 r23.2.2.1, .fn (.func 33) [], .int .u64 r23.2.2.2.1, .own 2001]), (2001, bI (V.int .u64) 0 r23.2.2.2.2.1 (some 2002) none none), (2002, bF 57 1 eLSSIJ [] r23.2.2.2.2.2 none)], [2000, 2001], 0⟩ (an4 ob11 (cpT (Spec1.ren (swapN 3000 6001) (swapN_inv 3000 6001) rfl (f26_ok _ _ hr22))) ob12 (show (callP Tryz.prog true 48 [(3, .tab .u64 Lib.pow10Tab)] [2000, 2001] [(2000, .cells 64 [q1aT31 r14.2.1, .fn (.func 33) [], .int .u64 r14.2.2.1, .own 2001]), (2001, bI (V.int .u64) 0 r14.2.2.2.1 (some 2002) none none), (2002, bF 57 1 eLSSIJ [] r14.2.2.2.2 none), (6001, .rows 3 1 ((r22).length + 1) (appF (r22).length (encF eI 0 r22) (lstF 1 [.i (n9 : Int)])))] [] [] [.ptr 2000 0, .int .u64 (bitsI .or .u64 x1 ((1 : Int) * 2 ^ n9)), .own 6001, q1aSSI r20.1] [.ptr 2000 0, .int .u64 (bitsI .or .u64 x1 ((1 : Int) * 2 ^ n9)), .own 6001, q1aSSI r20.1] (.tup [q1aI r23.1, .bool r23.2.1]) [(2000, .cells 64 [q1aT31 r23.2.2.1, .fn (.func 33) [], .int .u64 r23.2.2.2.1, .own 2001]), (2001, bI (V.int .u64) 0 r23.2.2.2.2.1 (some 2002) none none), (2002, bF 57 1 eLSSIJ [] r23.2.2.2.2.2 none)]) from ⟨fun _ => (Spec1.pre (ih _ _ _ _ _ _ _ _ hr23) rfl rfl rfl (Le.trans (Le.mk (s' := ⟨4, [(0, .ptr 2000 0), (1, .int .u64 (bitsI .or .u64 x1 ((1 : Int) * 2 ^ n9))), (2, .own 6001), (3, q1aSSI r20.1), (1000003, .tab .u64 Lib.pow10Tab)], [(2000, .cells 64 [q1aT31 r14.2.1, .fn (.func 33) [], .int .u64 r14.2.2.1, .own 2001]), (2001, bI (V.int .u64) 0 r14.2.2.2.1 (some 2002) none none), (2002, bF 57 1 eLSSIJ [] r14.2.2.2.2 none), (6001, q1bI_3 (r22 ++ [(n9 : Int)]))], [2000, 2001], 0⟩) rfl rfl ⟨.refl _, .refl _, .refl _, .refl _, .refl _, trivial⟩ ⟨⟨_, rfl, .refl _⟩, ⟨_, rfl, .refl _⟩, ⟨_, rfl, .refl _⟩, ⟨_, rfl, (BLe.of (RL.app (RL.self _) (RL.lst (enc := eI) [(n9 : Int)] rfl rfl (fun _ => rfl))))⟩, trivial⟩) (Le.trans (Le.freeze 6001 rfl rfl) (Le.mk (s' := ⟨4, [(0, .ptr 2000 0), (1, .int .u64 (bitsI .or .u64 x1 ((1 : Int) * 2 ^ n9))), (2, q1aI (r22 ++ [(n9 : Int)])), (3, q1aSSI r20.1), (1000003, .tab .u64 Lib.pow10Tab)], [(2000, .cells 64 [q1aT31 r14.2.1, .fn (.func 33) [], .int .u64 r14.2.2.1, .own 2001]), (2001, bI (V.int .u64) 0 r14.2.2.2.1 (some 2002) none none), (2002, bF 57 1 eLSSIJ [] r14.2.2.2.2 none)], [2000, 2001], 0⟩) rfl rfl ⟨.refl _, .refl _, .refl _, .refl _, .refl _, trivial⟩ ⟨⟨_, rfl, .refl _⟩, ⟨_, rfl, .refl _⟩, ⟨_, rfl, .refl _⟩, trivial⟩)))), fun _ => ⟨.refl _, .refl _, .refl _, .refl _, trivial⟩, .inl rfl⟩)) ?_
                  refine thenQ_normal ?_
                  refine q1rq [] [] ⟨105, [(0, .ptr 2000 0), (1, .int .u64 x1), (2, q1aI x2), (7, .ptr 7 0), (14, q1aI r23.1), (39, q1aT31 x4), (40, .i (lZ x4)), (41, .i (n9 : Int)), (88, .bool r23.2.1), (1000003, .tab .u64 Lib.pow10Tab)], [(7, .cells 57 [q1aSSI r8.2.2]), (2000, .cells 64 [q1aT31 r23.2.2.1, .fn (.func 33) [], .int .u64 r23.2.2.2.1, .own 2001]), (2001, bI (V.int .u64) 0 r23.2.2.2.2.1 (some 2002) none none), (2002, bF 57 1 eLSSIJ [] r23.2.2.2.2.2 none)], [2000, 2001], 0⟩ trivial ?_
                  refine AWp.cond (b := r23.2.1) (by kernel_rfl) (fun hc8 => ?_) (fun hc8 => ?_)
                  ·
                    replace h := ite_tb hc8 h
                    refine q1rq [] [] ⟨105, [(8, q1aI r23.1), (9, .bool true), (1000003, .tab .u64 Lib.pow10Tab)], [(2000, .cells 64 [q1aT31 r23.2.2.1, .fn (.func 33) [], .int .u64 r23.2.2.2.1, .own 2001]), (2001, bI (V.int .u64) 0 r23.2.2.2.2.1 (some 2002) none none), (2002, bF 57 1 eLSSIJ [] r23.2.2.2.2.2 none)], [2000, 2001], 0⟩ trivial ?_
                    have hret := Option.some.inj h
                    subst hret
                    refine AWp.le (Le.mk (s' := ⟨105, [(8, q1aI r23.1), (9, .bool true)], [(2000, .cells 64 [q1aT31 r23.2.2.1, .fn (.func 33) [], .int .u64 r23.2.2.2.1, .own 2001]), (2001, bI (V.int .u64) 0 r23.2.2.2.2.1 (some 2002) none none), (2002, bF 57 1 eLSSIJ [] r23.2.2.2.2.2 none)], [2000, 2001], 0⟩) rfl rfl ⟨.refl _, .refl _, trivial⟩ ⟨⟨_, rfl, .refl _⟩, ⟨_, rfl, .refl _⟩, ⟨_, rfl, .refl _⟩, trivial⟩) ?_
                    refine AWp.ret ?_
                    refine blockQ_ret ?_
                    refine joinQ_ret ?_
                    refine thenQ_ret ?_
                    refine blockQ_ret ?_
                    refine joinQ_ret ?_
                    exact bodyQ_ret _ rfl ⟨rfl, rfl⟩ rfl
                  ·
                    replace h := ite_fb hc8 h
                    refine AWp.skip ?_
                    refine blockQ_normal ?_
                    exact joinQ_normal (r23.2.2.1, r23.2.2.2.1, r23.2.2.2.2.1, r23.2.2.2.2.2) (Le.mk rfl rfl ⟨.refl _, .refl _, .refl _, .refl _, .refl _, .refl _, .refl _, .refl _, trivial⟩ ⟨⟨_, rfl, .refl _⟩, ⟨_, rfl, .refl _⟩, ⟨_, rfl, .refl _⟩, ⟨_, rfl, .refl _⟩, trivial⟩) h
          ·
            rintro ⟨l15, i17, l18, l19⟩ h
            replace h := (congrFun hK2 _).symm.trans h
            obtain ⟨ob13p, h⟩ := chk_some h
            have ob13 : -9223372036854775808 ≤ ((n9 : Int) + (1 : Int)) ∧ ((n9 : Int) + (1 : Int)) ≤ 9223372036854775807 := ⟨by omega, ob13p⟩
            refine q1rr [] [] ⟨105, [(0, .ptr 2000 0), (1, .int .u64 x1), (2, q1aI x2), (7, .ptr 7 0), (39, q1aT31 x4), (40, .i (lZ x4)), (41, .i (((n9 + 1) : Nat) : Int)), (1000003, .tab .u64 Lib.pow10Tab)], [(7, .cells 57 [q1aSSI r8.2.2]), (2000, .cells 64 [q1aT31 l15, .fn (.func 33) [], .int .u64 i17, .own 2001]), (2001, bI (V.int .u64) 0 l18 (some 2002) none none), (2002, bF 57 1 eLSSIJ [] l19 none)], [2000, 2001], 0⟩ (an1 ob13) ?_
            rw [hC0] at h
            exact loopQ_normal (_, (n9 + 1), l15, i17, l18, l19) (Le.mk rfl rfl ⟨.refl _, .refl _, .refl _, .refl _, .refl _, .refl _, .refl _, .refl _, trivial⟩ ⟨⟨_, rfl, .refl _⟩, ⟨_, rfl, .refl _⟩, ⟨_, rfl, .refl _⟩, ⟨_, rfl, .refl _⟩, trivial⟩) h (Nat.lt_succ_self _)
        ·
          replace h := ite_fb hc4 h
          refine AWp.exit ?_
          refine thenQ_exit ?_
          refine thenQ_exit ?_
          refine blockQ_same ?_
          exact joinQ_normal (l10, i11, l12, l13) (Le.mk rfl rfl ⟨.refl _, .refl _, .refl _, .refl _, trivial⟩ ⟨⟨_, rfl, .refl _⟩, ⟨_, rfl, .refl _⟩, ⟨_, rfl, .refl _⟩, ⟨_, rfl, .refl _⟩, trivial⟩) h
      ·
        rintro ⟨l24, i25, l26, l27⟩ h
        replace h := (congrFun hK1 _).symm.trans h
        refine AWp.seq ?_
        obtain ⟨ob14, h⟩ := chk_some h
        refine q1rr [] [(10, ⟨[.own 2001, .int .u64 x1], [2001, 2002], [2001], [(2001, bI (V.int .u64) 0 l26 (some 2002) (idxL x1 l26 0) (some 101)), (2002, bF 57 1 eLSSIJ [] l27 (idxL x1 l26 0)), (101, q1bLSSIJ_57 (getM l26 l27 [] [] x1))], .own 101, [2002, 101], [], []⟩), (14, ⟨[.own 2001, .int .u64 x1, .own 101], [2001, 2002, 101], [2001], [(2001, bI (V.int .u64) 0 (updK l26 x1) (some 2002) none none), (2002, bF 57 1 eLSSIJ [] (updV l26 l27 x1 ((getM l26 l27 [] [] x1) ++ [r8.2.2])) none)], .any, [2002], [], []⟩)] ⟨105, [(1000003, .tab .u64 Lib.pow10Tab)], [(2000, .cells 64 [q1aT31 l24, .fn (.func 33) [], .int .u64 i25, .own 2001]), (2001, bI (V.int .u64) 0 (updK l26 x1) (some 2002) none none), (2002, bF 57 1 eLSSIJ [] (updV l26 l27 x1 ((getM l26 l27 [] [] x1) ++ [r8.2.2])) none)], [2000, 2001], 0⟩ (an3 (And.intro (lookI_spec (P := Tryz.prog) Tryz.underlying62 (V.int .u64) kE62 0 57 1 eLSSIJ [] (by kernel_rfl) (.tmp 99) (.tmp 100) 98 2001 2002 101 (of_decide_eq_true (by kernel_rfl)) (of_decide_eq_true (by kernel_rfl)) (of_decide_eq_true (by kernel_rfl)) l26 l27 x1) (VLes.same [.own 2001, .int .u64 x1])) ob14 (And.intro (OpSpec.heap (h0 := [(2001, bI (V.int .u64) 0 l26 (some 2002) (idxL x1 l26 0) none), (2002, bF 57 1 eLSSIJ [] l27 (idxL x1 l26 0)), (101, .rows 57 1 (((getM l26 l27 [] [] x1)).length + 1) (appF ((getM l26 l27 [] [] x1)).length (encF eLSSIJ [] (getM l26 l27 [] [] x1)) (lstF 1 [q1aSSI r8.2.2])))]) (updI_spec (P := Tryz.prog) Tryz.underlying62 (V.int .u64) kE62 (.mapUpdate 62 (.tmp 94) (.tmp 95) (.tmp 104)) (.tmp 94) (.tmp 95) (.tmp 104) (.inr rfl) 0 57 1 eLSSIJ [] 0 2001 2002 101 (of_decide_eq_true (by kernel_rfl)) (of_decide_eq_true (by kernel_rfl)) (of_decide_eq_true (by kernel_rfl)) l26 l27 none x1 ((getM l26 l27 [] [] x1) ++ [r8.2.2])) ⟨⟨_, rfl, .refl _⟩, ⟨_, rfl, .refl _⟩, ⟨_, rfl, BLe.of (RL.app (RL.self _) (RL.lstV (enc := eLSSIJ) [r8.2.2] rfl ⟨.refl _, trivial⟩ (fun _ => rfl)))⟩, trivial⟩) (VLes.same [.own 2001, .int .u64 x1, .own 101]))) ?_
        refine thenQ_normal ?_
        refine q1rq [] [] ⟨105, [(8, .nils), (9, .bool false), (1000003, .tab .u64 Lib.pow10Tab)], [(2000, .cells 64 [q1aT31 l24, .fn (.func 33) [], .int .u64 i25, .own 2001]), (2001, bI (V.int .u64) 0 (updK l26 x1) (some 2002) none none), (2002, bF 57 1 eLSSIJ [] (updV l26 l27 x1 ((getM l26 l27 [] [] x1) ++ [r8.2.2])) none)], [2000, 2001], 0⟩ trivial ?_
        have hret := Option.some.inj h
        subst hret
        refine AWp.le (Le.mk (s' := ⟨105, [(8, q1aI []), (9, .bool false)], [(2000, .cells 64 [q1aT31 l24, .fn (.func 33) [], .int .u64 i25, .own 2001]), (2001, bI (V.int .u64) 0 (updK l26 x1) (some 2002) none none), (2002, bF 57 1 eLSSIJ [] (updV l26 l27 x1 ((getM l26 l27 [] [] x1) ++ [r8.2.2])) none)], [2000, 2001], 0⟩) rfl rfl ⟨.nilL, .refl _, trivial⟩ ⟨⟨_, rfl, .refl _⟩, ⟨_, rfl, .refl _⟩, ⟨_, rfl, .refl _⟩, trivial⟩) ?_
        refine AWp.ret ?_
        exact bodyQ_ret _ rfl ⟨rfl, rfl⟩ rfl
def f30a_L0 (x1 : List (Int × Int × Int × List UInt8 × List UInt8)) (K1 : Int → Option (List Int × Int)) : Nat → (Nat × Int) → Option (List Int × Int)
  | 0, _ => none
  | k + 1, (n2, i3) =>
    if (decide ((n2 : Int) < (((x1).length : Nat) : Int))) then (
    jn (fun (i5 : Int) =>
    chk (((n2 : Int) + (1 : Int)) ≤ 9223372036854775807) <|
    (f30a_L0 x1 K1 k) ((n2 + 1), i5)
    ) fun (K2 : Int → Option (List Int × Int)) =>
    chk ((n2 : Int) < (((x1).length : Nat) : Int)) <|
    (f36 ((x1.getD n2 (default : Int × Int × Int × List UInt8 × List UInt8)).1) ((x1.getD n2 (default : Int × Int × Int × List UInt8 × List UInt8)).2.1) ((x1.getD n2 (default : Int × Int × Int × List UInt8 × List UInt8)).2.2.1) ((x1.getD n2 (default : Int × Int × Int × List UInt8 × List UInt8)).2.2.2.1) ((x1.getD n2 (default : Int × Int × Int × List UInt8 × List UInt8)).2.2.2.2)).bind fun (r4 : Bool) =>
    if (!r4) then (
    chk (n2 ≤ IntKind.bits .u64 ∧ 0 ≤ ((1 : Int) * 2 ^ n2) ∧ ((1 : Int) * 2 ^ n2) ≤ 18446744073709551615) <|
    K2 (bitsI .or .u64 i3 ((1 : Int) * 2 ^ n2))
    ) else (
    K2 i3
    )
    ) else (
    K1 i3
    )
abbrev f30az0 (x1 : List (Int × Int × Int × List UInt8 × List UInt8)) (n2 : Nat) : List (Nat × V) := [(6, .ptr 15 0), (16, vL 5 eT31 (default : Int × Int × Int × List UInt8 × List UInt8) x1), (17, .int .i64 (((x1).length : Nat) : Int)), (18, .int .i64 (n2 : Int)), (1000003, .tab .u64 Lib.pow10Tab)]
abbrev f30az1 (x1 : List (Int × Int × Int × List UInt8 × List UInt8)) (n2 : Nat) := (x1.getD n2 (default : Int × Int × Int × List UInt8 × List UInt8))
def f30a (x1 : List (Int × Int × Int × List UInt8 × List UInt8)) : Option (List Int × Int) :=
  jn (fun (i6 : Int) =>
  (f48a FUEL (0 : Int) [] [] x1 i6 [] []).bind fun (r7 : List Int × Bool × (List (Int × Int × Int × List UInt8 × List UInt8)) × Int × List Int × (List (List (List (List UInt8 × List UInt8 × Int))))) =>
  if (!r7.2.1) then (
  some ([], (14 : Int))
  ) else (
  some (r7.1, (0 : Int))
  )
  ) fun (K1 : Int → Option (List Int × Int)) =>
  f30a_L0 x1 K1 FUEL (0, (0 : Int))
set_option maxRecDepth 100000 in
theorem f30a_ok  (x1 : List (Int × Int × Int × List UInt8 × List UInt8)) (r : List Int × Int) (h : f30a x1 = some r)  : Spec1 Tryz.prog 30 [(3, .tab .u64 Lib.pow10Tab)] [] [] [vL 5 eT31 (default : Int × Int × Int × List UInt8 × List UInt8) x1, .fn (.func 33) []] (.tup [vL 1 eI 0 r.1, .int .i64 r.2]) [] := by
  unfold f30a at h
  refine Spec1.body 0 _ _ Tryz.func30 rfl Tryz.ntmps30 rfl rfl ?_
  refine q1rq [] [] ⟨44, [(0, q1aT31 x1), (1, .fn (.func 33) []), (1000003, .tab .u64 Lib.pow10Tab)], [], [], 0⟩ trivial ?_
  refine q1rq [] [(2, ⟨[], [], [], [(13, bI (V.int .u64) 0 [] (some 40013) none none), (40013, bF 57 1 eLSSIJ [] [] none)], .own 13, [13, 40013], [], []⟩)] ⟨44, [(0, q1aT31 x1), (6, .ptr 15 0), (1000003, .tab .u64 Lib.pow10Tab)], [(13, bI (V.int .u64) 0 [] (some 40013) none none), (15, .cells 64 [q1aT31 x1, .fn (.func 33) [], .int .u64 (0 : Int), .own 13]), (40013, bF 57 1 eLSSIJ [] [] none)], [], 0⟩ (an1 (And.intro (makeI_spec (P := Tryz.prog) (V.int .u64) 0 57 1 eLSSIJ [] 62 13 40013 (of_decide_eq_true (by kernel_rfl)) 62) (VLes.same []))) ?_
  obtain ⟨K1, hK1, h⟩ := jn_some h
  refine AWp.join (α := Int) (fun (i6 : Int) => ⟨44, [(6, .ptr 15 0), (1000003, .tab .u64 Lib.pow10Tab)], [(13, bI (V.int .u64) 0 [] (some 40013) none none), (15, .cells 64 [q1aT31 x1, .fn (.func 33) [], .int .u64 i6, .own 13]), (40013, bF 57 1 eLSSIJ [] [] none)], [], 0⟩) (fun x => K1 x = some r) ?_ ?_
  ·
    refine q1rq [] [] ⟨44, [(6, .ptr 15 0), (16, q1aT31 x1), (17, .i (lZ x1)), (18, .i (0 : Int)), (1000003, .tab .u64 Lib.pow10Tab)], [(13, bI (V.int .u64) 0 [] (some 40013) none none), (15, .cells 64 [q1aT31 x1, .fn (.func 33) [], .int .u64 (0 : Int), .own 13]), (40013, bF 57 1 eLSSIJ [] [] none)], [], 0⟩ trivial ?_
    refine AWp.block ?_
    refine AWp.loopL (α := Nat × (Nat × Int)) (fun x => match x with | (_, n2, i3) => ⟨44, (f30az0 x1 n2), [(13, bI (V.int .u64) 0 [] (some 40013) none none), (15, .cells 64 [q1aT31 x1, .fn (.func 33) [], .int .u64 i3, .own 13]), (40013, bF 57 1 eLSSIJ [] [] none)], [], 0⟩) (fun x => f30a_L0 x1 K1 x.1 x.2 = some r) (fun x => x.1) (FUEL, 0, (0 : Int)) (Le.mk (s' := ⟨44, [(6, .ptr 15 0), (16, q1aT31 x1), (17, .i (lZ x1)), (18, .i (0 : Int)), (1000003, .tab .u64 Lib.pow10Tab)], [(13, bI (V.int .u64) 0 [] (some 40013) none none), (15, .cells 64 [q1aT31 x1, .fn (.func 33) [], .int .u64 (0 : Int), .own 13]), (40013, bF 57 1 eLSSIJ [] [] none)], [], 0⟩) rfl rfl ⟨.refl _, .refl _, .refl _, .refl _, .refl _, trivial⟩ ⟨⟨_, rfl, .refl _⟩, ⟨_, rfl, .refl _⟩, ⟨_, rfl, .refl _⟩, trivial⟩) h ?_
    rintro ⟨k0, n2, i3⟩ h
    cases k0 with
    | zero => exact nomatch (show (none : Option (List Int × Int)) = some r from h)
    | succ k0 =>
    obtain ⟨C0, hC0⟩ : ∃ C, C = f30a_L0 x1 K1 k0 := ⟨_, rfl⟩
    replace h := (f30a_L0.eq_2 ..).symm.trans h
    try rw [← hC0] at h
    refine q1rq [] [] ⟨44, [(6, .ptr 15 0), (16, q1aT31 x1), (17, .i (lZ x1)), (18, .i (n2 : Int)), (19, .bool (decide ((n2 : Int) < (lZ x1)))), (1000003, .tab .u64 Lib.pow10Tab)], [(13, bI (V.int .u64) 0 [] (some 40013) none none), (15, .cells 64 [q1aT31 x1, .fn (.func 33) [], .int .u64 i3, .own 13]), (40013, bF 57 1 eLSSIJ [] [] none)], [], 0⟩ trivial ?_
    refine AWp.seq ?_
    refine AWp.cond (b := (decide ((n2 : Int) < (lZ x1)))) (by kernel_rfl) (fun hc1 => ?_) (fun hc1 => ?_)
    ·
      replace h := ite_tb hc1 h
      refine AWp.skip ?_
      refine thenQ_normal ?_
      obtain ⟨K2, hK2, h⟩ := jn_some h
      refine AWp.join (α := Int) (fun (i5 : Int) => ⟨44, (f30az0 x1 n2), [(13, bI (V.int .u64) 0 [] (some 40013) none none), (15, .cells 64 [q1aT31 x1, .fn (.func 33) [], .int .u64 i5, .own 13]), (40013, bF 57 1 eLSSIJ [] [] none)], [], 0⟩) (fun x => K2 x = some r) ?_ ?_
      ·
        refine AWp.block ?_
        refine AWp.seq ?_
        obtain ⟨ob0p, h⟩ := chk_some h
        have ob0 : 0 ≤ (n2 : Int) ∧ (n2 : Int) < (((x1).length : Nat) : Int) := ⟨by omega, ob0p⟩
        refine q1rr [] [] ⟨44, [(6, .ptr 15 0), (7, .i (n2 : Int)), (8, .ptr 8 0), (16, q1aT31 x1), (17, .i (lZ x1)), (18, .i (n2 : Int)), (1000003, .tab .u64 Lib.pow10Tab)], [(8, .cells 31 [.i (f30az1 x1 n2).1, .i (f30az1 x1 n2).2.1, .i (f30az1 x1 n2).2.2.1, .str (f30az1 x1 n2).2.2.2.1, .str (f30az1 x1 n2).2.2.2.2]), (13, bI (V.int .u64) 0 [] (some 40013) none none), (15, .cells 64 [q1aT31 x1, .fn (.func 33) [], .int .u64 i3, .own 13]), (40013, bF 57 1 eLSSIJ [] [] none)], [], 0⟩ (an2 ob0 trivial) ?_
        refine thenQ_normal ?_
        refine AWp.seq ?_
        obtain ⟨r4, hr4, h⟩ := bind_ok h
        refine q1rr [] [(1, ⟨[.agg [.i (f30az1 x1 n2).1, .i (f30az1 x1 n2).2.1, .i (f30az1 x1 n2).2.2.1, .str (f30az1 x1 n2).2.2.2.1, .str (f30az1 x1 n2).2.2.2.2]], [], [], [], .bool r4, [], [], []⟩)] ⟨44, [(6, .ptr 15 0), (7, .i (n2 : Int)), (16, q1aT31 x1), (17, .i (lZ x1)), (18, .i (n2 : Int)), (25, .bool (!r4)), (1000003, .tab .u64 Lib.pow10Tab)], [(13, bI (V.int .u64) 0 [] (some 40013) none none), (15, .cells 64 [q1aT31 x1, .fn (.func 33) [], .int .u64 i3, .own 13]), (40013, bF 57 1 eLSSIJ [] [] none)], [], 0⟩ (an1 (cpT (f36_ok _ _ _ _ _ _ hr4))) ?_
        refine thenQ_normal ?_
        refine AWp.cond (b := (!r4)) (by kernel_rfl) (fun hc2 => ?_) (fun hc2 => ?_)
        ·
          replace h := ite_tb hc2 h
          obtain ⟨ob1p, h⟩ := chk_some h
          have ob1 : 0 ≤ (n2 : Int) ∧ n2 ≤ IntKind.bits .u64 ∧ 0 ≤ ((1 : Int) * 2 ^ n2) ∧ ((1 : Int) * 2 ^ n2) ≤ 18446744073709551615 := ⟨by omega, ob1p.1, ob1p.2.1, ob1p.2.2⟩
          refine q1rr [] [] ⟨44, (f30az0 x1 n2), [(13, bI (V.int .u64) 0 [] (some 40013) none none), (15, .cells 64 [q1aT31 x1, .fn (.func 33) [], .int .u64 (bitsI .or .u64 i3 ((1 : Int) * 2 ^ n2)), .own 13]), (40013, bF 57 1 eLSSIJ [] [] none)], [], 0⟩ (an2 ob1 trivial) ?_
          refine blockQ_normal ?_
          exact joinQ_normal ((bitsI .or .u64 i3 ((1 : Int) * 2 ^ n2))) (Le.mk rfl rfl ⟨.refl _, .refl _, .refl _, .refl _, .refl _, trivial⟩ ⟨⟨_, rfl, .refl _⟩, ⟨_, rfl, .refl _⟩, ⟨_, rfl, .refl _⟩, trivial⟩) h
        ·
          replace h := ite_fb hc2 h
          refine AWp.skip ?_
          refine blockQ_normal ?_
          exact joinQ_normal (i3) (Le.mk rfl rfl ⟨.refl _, .refl _, .refl _, .refl _, .refl _, trivial⟩ ⟨⟨_, rfl, .refl _⟩, ⟨_, rfl, .refl _⟩, ⟨_, rfl, .refl _⟩, trivial⟩) h
      ·
        rintro i5 h
        replace h := (congrFun hK2 _).symm.trans h
        obtain ⟨ob2p, h⟩ := chk_some h
        have ob2 : -9223372036854775808 ≤ ((n2 : Int) + (1 : Int)) ∧ ((n2 : Int) + (1 : Int)) ≤ 9223372036854775807 := ⟨by omega, ob2p⟩
        refine q1rr [] [] ⟨44, [(6, .ptr 15 0), (16, q1aT31 x1), (17, .i (lZ x1)), (18, .i (((n2 + 1) : Nat) : Int)), (1000003, .tab .u64 Lib.pow10Tab)], [(13, bI (V.int .u64) 0 [] (some 40013) none none), (15, .cells 64 [q1aT31 x1, .fn (.func 33) [], .int .u64 i5, .own 13]), (40013, bF 57 1 eLSSIJ [] [] none)], [], 0⟩ (an1 ob2) ?_
        rw [hC0] at h
        exact loopQ_normal (_, (n2 + 1), i5) (Le.mk rfl rfl ⟨.refl _, .refl _, .refl _, .refl _, .refl _, trivial⟩ ⟨⟨_, rfl, .refl _⟩, ⟨_, rfl, .refl _⟩, ⟨_, rfl, .refl _⟩, trivial⟩) h (Nat.lt_succ_self _)
    ·
      replace h := ite_fb hc1 h
      refine AWp.exit ?_
      refine thenQ_exit ?_
      refine thenQ_exit ?_
      refine blockQ_same ?_
      exact joinQ_normal (i3) (Le.mk rfl rfl ⟨.refl _, .refl _, trivial⟩ ⟨⟨_, rfl, .refl _⟩, ⟨_, rfl, .refl _⟩, ⟨_, rfl, .refl _⟩, trivial⟩) h
  ·
    rintro i6 h
    replace h := (congrFun hK1 _).symm.trans h
    refine AWp.seq ?_
    obtain ⟨r7, hr7, h⟩ := bind_ok h
    refine q1rr [] [(1, ⟨[.ptr 15 0, .int .u64 (0 : Int), q1aI [], q1aSSI []], [15, 13, 40013], [15, 13], [(15, .cells 64 [q1aT31 r7.2.2.1, .fn (.func 33) [], .int .u64 r7.2.2.2.1, .own 13]), (13, bI (V.int .u64) 0 r7.2.2.2.2.1 (some 40013) none none), (40013, bF 57 1 eLSSIJ [] r7.2.2.2.2.2 none)], .tup [q1aI r7.1, .bool r7.2.1], [40013], [], [3]⟩)] ⟨44, [(9, q1aI r7.1), (10, .bool r7.2.1), (1000003, .tab .u64 Lib.pow10Tab)], [], [], 0⟩ (an1 (cpL (c := true) [] [] [.ptr 15 0, .int .u64 (0 : Int), .nils, .nils] (fun _ => (Spec1.ren (swapN 2002 40013) (swapN_inv 2002 40013) rfl (Spec1.ren (swapN 2001 13) (swapN_inv 2001 13) rfl (Spec1.ren (swapN 2000 15) (swapN_inv 2000 15) rfl (f48a_ok FUEL _ _ _ _ _ _ _ _ hr7))))) (fun _ => ⟨.refl _, .refl _, .nilL, .nilL, trivial⟩) (.inl rfl))) ?_
    refine thenQ_normal ?_
    refine AWp.seq ?_
    refine q1rq [] [] ⟨44, [(9, q1aI r7.1), (42, .bool (!r7.2.1)), (1000003, .tab .u64 Lib.pow10Tab)], [], [], 0⟩ trivial ?_
    refine AWp.cond (b := (!r7.2.1)) (by kernel_rfl) (fun hc3 => ?_) (fun hc3 => ?_)
    ·
      replace h := ite_tb hc3 h
      refine q1rq [] [] ⟨44, [(4, .nils), (5, .i (14 : Int)), (1000003, .tab .u64 Lib.pow10Tab)], [], [], 0⟩ trivial ?_
      have hret := Option.some.inj h
      subst hret
      refine AWp.le (Le.mk (s' := ⟨44, [(4, q1aI []), (5, .i (14 : Int))], [], [], 0⟩) rfl rfl ⟨.nilL, .refl _, trivial⟩ trivial) ?_
      refine AWp.ret ?_
      refine thenQ_ret ?_
      exact bodyQ_ret _ rfl ⟨rfl, rfl⟩ rfl
    ·
      replace h := ite_fb hc3 h
      refine AWp.skip ?_
      refine thenQ_normal ?_
      refine q1rq [] [] ⟨44, [(4, q1aI r7.1), (5, .i (0 : Int)), (1000003, .tab .u64 Lib.pow10Tab)], [], [], 0⟩ trivial ?_
      have hret := Option.some.inj h
      subst hret
      refine AWp.le (Le.mk (s' := ⟨44, [(4, q1aI r7.1), (5, .i (0 : Int))], [], [], 0⟩) rfl rfl ⟨.refl _, .refl _, trivial⟩ trivial) ?_
      refine AWp.ret ?_
      exact bodyQ_ret _ rfl ⟨rfl, rfl⟩ rfl
def f14 (x1 : List (Int × Int × Int × List UInt8 × List UInt8)) : Option (List Int × Int) :=
  (f17 x1).bind fun (r2 : Int) =>
  if (r2 != (0 : Int)) then (
  some ([], r2)
  ) else (
  (f30a x1).bind fun (r3 : List Int × Int) =>
  some (r3.1, r3.2)
  )
set_option maxRecDepth 100000 in
theorem f14_ok  (x1 : List (Int × Int × Int × List UInt8 × List UInt8)) (r : List Int × Int) (h : f14 x1 = some r)  : Spec1 Tryz.prog 14 [(3, .tab .u64 Lib.pow10Tab)] [] [] [vL 5 eT31 (default : Int × Int × Int × List UInt8 × List UInt8) x1] (.tup [vL 1 eI 0 r.1, .int .i64 r.2]) [] := by
  unfold f14 at h
  refine Spec1.body 0 _ _ Tryz.func14 rfl Tryz.ntmps14 rfl rfl ?_
  refine q1rq [] [] ⟨14, [(0, q1aT31 x1), (1000003, .tab .u64 Lib.pow10Tab)], [], [], 0⟩ trivial ?_
  refine AWp.seq ?_
  refine AWp.seq ?_
  obtain ⟨r2, hr2, h⟩ := bind_ok h
  refine q1rr [] [(1, ⟨[q1aT31 x1], [], [], [], .i r2, [], [], []⟩)] ⟨14, [(0, q1aT31 x1), (4, .i r2), (1000003, .tab .u64 Lib.pow10Tab)], [], [], 0⟩ (an1 (cpT (f17_ok _ _ hr2))) ?_
  refine thenQ_normal ?_
  refine q1rq [] [] ⟨14, [(0, q1aT31 x1), (4, .i r2), (8, .bool (r2 != (0 : Int))), (1000003, .tab .u64 Lib.pow10Tab)], [], [], 0⟩ trivial ?_
  refine AWp.cond (b := (r2 != (0 : Int))) (by kernel_rfl) (fun hc1 => ?_) (fun hc1 => ?_)
  ·
    replace h := ite_tb hc1 h
    refine q1rq [] [] ⟨14, [(2, .nils), (3, .i r2), (1000003, .tab .u64 Lib.pow10Tab)], [], [], 0⟩ trivial ?_
    have hret := Option.some.inj h
    subst hret
    refine AWp.le (Le.mk (s' := ⟨14, [(2, q1aI []), (3, .i r2)], [], [], 0⟩) rfl rfl ⟨.nilL, .refl _, trivial⟩ trivial) ?_
    refine AWp.ret ?_
    refine thenQ_ret ?_
    exact bodyQ_ret _ rfl ⟨rfl, rfl⟩ rfl
  ·
    replace h := ite_fb hc1 h
    refine AWp.skip ?_
    refine thenQ_normal ?_
    refine AWp.seq ?_
    obtain ⟨r3, hr3, h⟩ := bind_ok h
    refine q1rr [] [(1, ⟨[q1aT31 x1, .fn (.func 33) []], [], [], [], .tup [q1aI r3.1, .i r3.2], [], [], [3]⟩)] ⟨14, [(2, q1aI r3.1), (3, .i r3.2), (1000003, .tab .u64 Lib.pow10Tab)], [], [], 0⟩ (an1 (cpT (f30a_ok _ _ hr3))) ?_
    refine thenQ_normal ?_
    have hret := Option.some.inj h
    subst hret
    refine AWp.le (Le.mk (s' := ⟨14, [(2, q1aI r3.1), (3, .i r3.2)], [], [], 0⟩) rfl rfl ⟨.refl _, .refl _, trivial⟩ trivial) ?_
    refine AWp.ret ?_
    exact bodyQ_ret _ rfl ⟨rfl, rfl⟩ rfl
def f16_L0 (x1 : List Int) (x2 : List Int) (K1 : Unit → Option Bool) : Nat → Nat → Option Bool
  | 0, _ => none
  | k + 1, n3 =>
    if (decide ((n3 : Int) < (((x1).length : Nat) : Int))) then (
    chk ((n3 : Int) < (((x1).length : Nat) : Int)) <|
    chk ((n3 : Int) < (((x2).length : Nat) : Int)) <|
    if ((x1.getD n3 0) != (x2.getD n3 0)) then (
    some false
    ) else (
    chk (((n3 : Int) + (1 : Int)) ≤ 9223372036854775807) <|
    (f16_L0 x1 x2 K1 k) (n3 + 1)
    )
    ) else (
    K1 ()
    )
def f16 (x1 : List Int) (x2 : List Int) : Option Bool :=
  if ((((x1).length : Nat) : Int) != (((x2).length : Nat) : Int)) then (
  some false
  ) else (
  jn (fun (_ : Unit) =>
  some true
  ) fun (K1 : Unit → Option Bool) =>
  f16_L0 x1 x2 K1 FUEL 0
  )
set_option maxRecDepth 100000 in
theorem f16_ok  (x1 : List Int) (x2 : List Int) (r : Bool) (h : f16 x1 x2 = some r)  : Spec1 Tryz.prog 16 [] [] [] [vL 1 eI 0 x1, vL 1 eI 0 x2] (.bool r) [] := by
  unfold f16 at h
  refine Spec1.body 0 _ _ Tryz.func16 rfl Tryz.ntmps16 rfl rfl ?_
  refine q1rq [] [] ⟨26, [(0, q1aI x1), (1, q1aI x2)], [], [], 0⟩ trivial ?_
  refine AWp.seq ?_
  refine q1rq [] [] ⟨26, [(0, q1aI x1), (1, q1aI x2), (10, .bool ((lZ x1) != (lZ x2)))], [], [], 0⟩ trivial ?_
  refine AWp.cond (b := ((lZ x1) != (lZ x2))) (by kernel_rfl) (fun hc1 => ?_) (fun hc1 => ?_)
  ·
    replace h := ite_tb hc1 h
    refine q1rq [] [] ⟨26, [(4, .bool false)], [], [], 0⟩ trivial ?_
    have hret := Option.some.inj h
    subst hret
    refine AWp.le (Le.mk (s' := ⟨26, [(4, .bool false)], [], [], 0⟩) rfl rfl ⟨.refl _, trivial⟩ trivial) ?_
    refine AWp.ret ?_
    refine thenQ_ret ?_
    exact bodyQ_ret _ rfl ⟨rfl, rfl⟩ rfl
  ·
    replace h := ite_fb hc1 h
    refine AWp.skip ?_
    refine thenQ_normal ?_
    obtain ⟨K1, hK1, h⟩ := jn_some h
    refine AWp.join (α := Unit) (fun (x : Unit) => match x with | () => ⟨26, [], [], [], 0⟩) (fun x => K1 x = some r) ?_ ?_
    ·
      refine q1rq [] [] ⟨26, [(0, q1aI x1), (1, q1aI x2), (5, .i (0 : Int))], [], [], 0⟩ trivial ?_
      refine AWp.block ?_
      refine AWp.loopL (α := Nat × Nat) (fun x => match x with | (_, n3) => ⟨26, [(0, q1aI x1), (1, q1aI x2), (5, .i (n3 : Int))], [], [], 0⟩) (fun x => f16_L0 x1 x2 K1 x.1 x.2 = some r) (fun x => x.1) (FUEL, 0) (Le.mk (s' := ⟨26, [(0, q1aI x1), (1, q1aI x2), (5, .i (0 : Int))], [], [], 0⟩) rfl rfl ⟨.refl _, .refl _, .refl _, trivial⟩ trivial) h ?_
      rintro ⟨k0, n3⟩ h
      cases k0 with
      | zero => exact nomatch (show (none : Option Bool) = some r from h)
      | succ k0 =>
      obtain ⟨C0, hC0⟩ : ∃ C, C = f16_L0 x1 x2 K1 k0 := ⟨_, rfl⟩
      replace h := (f16_L0.eq_2 ..).symm.trans h
      try rw [← hC0] at h
      refine AWp.seq ?_
      refine q1rq [] [] ⟨26, [(0, q1aI x1), (1, q1aI x2), (5, .i (n3 : Int)), (14, .bool (decide ((n3 : Int) < (lZ x1))))], [], [], 0⟩ trivial ?_
      refine AWp.cond (b := (decide ((n3 : Int) < (lZ x1)))) (by kernel_rfl) (fun hc2 => ?_) (fun hc2 => ?_)
      ·
        replace h := ite_tb hc2 h
        refine AWp.skip ?_
        refine thenQ_normal ?_
        refine AWp.seq ?_
        refine AWp.block ?_
        refine AWp.seq ?_
        obtain ⟨ob0p, h⟩ := chk_some h
        have ob0 : 0 ≤ (n3 : Int) ∧ (n3 : Int) < (((x1).length : Nat) : Int) := ⟨by omega, ob0p⟩
        obtain ⟨ob1p, h⟩ := chk_some h
        have ob1 : 0 ≤ (n3 : Int) ∧ (n3 : Int) < (((x2).length : Nat) : Int) := ⟨by omega, ob1p⟩
        refine q1rr [] [] ⟨26, [(0, q1aI x1), (1, q1aI x2), (5, .i (n3 : Int)), (25, .bool ((x1.getD n3 0) != (x2.getD n3 0)))], [], [], 0⟩ (an2 ob0 ob1) ?_
        refine thenQ_normal ?_
        refine AWp.cond (b := ((x1.getD n3 0) != (x2.getD n3 0))) (by kernel_rfl) (fun hc3 => ?_) (fun hc3 => ?_)
        ·
          replace h := ite_tb hc3 h
          refine q1rq [] [] ⟨26, [(4, .bool false)], [], [], 0⟩ trivial ?_
          have hret := Option.some.inj h
          subst hret
          refine AWp.le (Le.mk (s' := ⟨26, [(4, .bool false)], [], [], 0⟩) rfl rfl ⟨.refl _, trivial⟩ trivial) ?_
          refine AWp.ret ?_
          refine blockQ_ret ?_
          refine thenQ_ret ?_
          refine thenQ_ret ?_
          refine blockQ_ret ?_
          refine joinQ_ret ?_
          exact bodyQ_ret _ rfl ⟨rfl, rfl⟩ rfl
        ·
          replace h := ite_fb hc3 h
          refine AWp.skip ?_
          refine blockQ_normal ?_
          refine thenQ_normal ?_
          obtain ⟨ob2p, h⟩ := chk_some h
          have ob2 : -9223372036854775808 ≤ ((n3 : Int) + (1 : Int)) ∧ ((n3 : Int) + (1 : Int)) ≤ 9223372036854775807 := ⟨by omega, ob2p⟩
          refine q1rr [] [] ⟨26, [(0, q1aI x1), (1, q1aI x2), (5, .i (((n3 + 1) : Nat) : Int))], [], [], 0⟩ (an1 ob2) ?_
          rw [hC0] at h
          exact loopQ_normal (_, (n3 + 1)) (Le.mk rfl rfl ⟨.refl _, .refl _, .refl _, trivial⟩ trivial) h (Nat.lt_succ_self _)
      ·
        replace h := ite_fb hc2 h
        refine AWp.exit ?_
        refine thenQ_exit ?_
        refine thenQ_exit ?_
        refine blockQ_same ?_
        exact joinQ_normal () (Le.mk rfl rfl trivial trivial) h
    ·
      rintro ⟨⟩ h
      replace h := (congrFun hK1 _).symm.trans h
      refine q1rq [] [] ⟨26, [(4, .bool true)], [], [], 0⟩ trivial ?_
      have hret := Option.some.inj h
      subst hret
      refine AWp.le (Le.mk (s' := ⟨26, [(4, .bool true)], [], [], 0⟩) rfl rfl ⟨.refl _, trivial⟩ trivial) ?_
      refine AWp.ret ?_
      exact bodyQ_ret _ rfl ⟨rfl, rfl⟩ rfl
abbrev f9z0 (r1 : List Int × Int) (r2 : List Int × Int) (r4 : List Int × Int) := (((r1.2 == (0 : Int)) && (r2.2 == (0 : Int))) && (r4.2 == (14 : Int)))
abbrev f9z1 : Heap := [(31, bL 31 5 eT31 (default : Int × Int × Int × List UInt8 × List UInt8) [((0 : Int), (0 : Int), (2 : Int), cs0, ([111, 107, 32, 49] : List UInt8)), ((1 : Int), (3 : Int), (4 : Int), cs1, ([110, 111, 110, 101] : List UInt8))])]
abbrev f9z2 (r1 : List Int × Int) (r2 : List Int × Int) (r4 : List Int × Int) (r6 : Int × Int) (r8 : List Int × Int) := (((f9z0 r1 r2 r4) && (r6.2 == (0 : Int))) && (r8.2 == (0 : Int)))
abbrev f9z3 := ([111, 107, 32, 49] : List UInt8)
abbrev f9z4 (r1 : List Int × Int) (r2 : List Int × Int) := ((r1.2 == (0 : Int)) && (r2.2 == (0 : Int)))
abbrev f9z5 : List V := [vL 5 eT31 (default : Int × Int × Int × List UInt8 × List UInt8) [((0 : Int), (0 : Int), (2 : Int), cs0, (f9z3)), ((1 : Int), (3 : Int), (4 : Int), cs1, ([110, 111, 110, 101] : List UInt8))]]
abbrev f9z6 (r1 : List Int × Int) (r2 : List Int × Int) (r4 : List Int × Int) (r6 : Int × Int) := (((f9z0 r1 r2 r4) && (r6.2 == (0 : Int))) == true)
abbrev f9z7 (r1 : List Int × Int) := ((r1.2 == (0 : Int)) == true)
abbrev f9z8 : Heap := [(1, .cells 31 [.int .i64 (0 : Int), .int .i64 (0 : Int), .int .i64 (2 : Int), .str cs0, .str (f9z3)])]
abbrev f9z9 := ([110, 111, 110, 101] : List UInt8)
abbrev f9z10 : List (Nat × V) := [(0, .bool false), (1000003, .tab .u64 Lib.pow10Tab)]
abbrev f9z11 (r3 : List (Int × Int × Int × List UInt8 × List UInt8)) : Heap := [(6001, bL 31 5 eT31 (default : Int × Int × Int × List UInt8 × List UInt8) r3)]
abbrev f9z12 (r7 : List (Int × Int × Int × List UInt8 × List UInt8)) : Heap := [(6003, bL 31 5 eT31 (default : Int × Int × Int × List UInt8 × List UInt8) r7)]
def f9  : Option Bool :=
  (f11 ([((0 : Int), (0 : Int), (2 : Int), cs0, ([111, 107, 32, 49] : List UInt8)), ((1 : Int), (1 : Int), (3 : Int), cs1, cs2)])).bind fun (r1 : List Int × Int) =>
  (f11 ([((0 : Int), (0 : Int), (2 : Int), cs0, ([111, 107, 32, 49] : List UInt8)), ((1 : Int), (1 : Int), (3 : Int), cs1, ([110, 111, 110, 101] : List UInt8))])).bind fun (r2 : List Int × Int) =>
  (f12 ([((0 : Int), (0 : Int), (2 : Int), cs0, ([111, 107, 32, 49] : List UInt8)), ((1 : Int), (3 : Int), (4 : Int), cs1, ([110, 111, 110, 101] : List UInt8))])).bind fun (r3 : List (Int × Int × Int × List UInt8 × List UInt8)) =>
  (f11 r3).bind fun (r4 : List Int × Int) =>
  (f12 ([((0 : Int), (0 : Int), (2 : Int), cs0, ([111, 107, 32, 49] : List UInt8)), ((1 : Int), (3 : Int), (4 : Int), cs1, ([110, 111, 110, 101] : List UInt8))])).bind fun (r5 : List (Int × Int × Int × List UInt8 × List UInt8)) =>
  (f19 r5).bind fun (r6 : Int × Int) =>
  (f12 ([((0 : Int), (0 : Int), (2 : Int), cs0, ([111, 107, 32, 49] : List UInt8)), ((1 : Int), (3 : Int), (4 : Int), cs1, ([110, 111, 110, 101] : List UInt8))])).bind fun (r7 : List (Int × Int × Int × List UInt8 × List UInt8)) =>
  (f14 r7).bind fun (r8 : List Int × Int) =>
  if ((((((r1.2 == (0 : Int)) && (r2.2 == (0 : Int))) && (r4.2 == (14 : Int))) && (r6.2 == (0 : Int))) && (r8.2 == (0 : Int))) && (r6.1 == (4 : Int))) = true then (
  (f16 r1.1 [(0 : Int), (1 : Int)]).bind fun (r9 : Bool) =>
  if r9 = true then (
  (f16 r2.1 [(1 : Int), (0 : Int)]).bind fun (r10 : Bool) =>
  if r10 = true then (
  (f16 r8.1 [(1 : Int), (0 : Int)]).bind fun (r11 : Bool) =>
  some r11
  ) else (
  some false
  )
  ) else (
  some false
  )
  ) else (
  some false
  )
set_option maxRecDepth 100000 in
theorem f9_ok   (r : Bool) (h : f9 = some r)  : Spec1 Tryz.prog 9 [(3, .tab .u64 Lib.pow10Tab)] [] [] [] (.bool r) [] := by
  unfold f9 at h
  refine Spec1.body 0 _ _ Tryz.func9 rfl Tryz.ntmps9 rfl rfl ?_
  refine q1rq [] [] ⟨90, [(1000003, .tab .u64 Lib.pow10Tab)], [], [], 0⟩ trivial ?_
  refine q1rq [] [] ⟨90, [(1, .ptr 1 0), (1000003, .tab .u64 Lib.pow10Tab)], (f9z8), [], 0⟩ (an1 trivial) ?_
  refine AWp.seq ?_
  obtain ⟨r1, hr1, h⟩ := bind_ok h
  refine q1rr [] [(3, ⟨[.own 18], [18], [], [], .tup [q1aI r1.1, .i r1.2], [], [], [3]⟩)] ⟨90, [(1, .ptr 1 0), (2, q1aI r1.1), (3, .i r1.2), (1000003, .tab .u64 Lib.pow10Tab)], (f9z8), [], 0⟩ (an1 (show (callP Tryz.prog true 11 [(3, .tab .u64 Lib.pow10Tab)] [] [(18, .rows 31 5 2 (lstF 5 [.i (0 : Int), .i (0 : Int), .i (2 : Int), .str cs0, .str (f9z3), .i (1 : Int), .i (1 : Int), .i (3 : Int), .str cs1, .str cs2]))] [] [] [.own 18] [.own 18] (.tup [q1aI r1.1, .i r1.2]) []) from ⟨fun _ => (Spec1.pre (f11_ok _ _ hr1) rfl rfl rfl (Le.trans (Le.mk (s' := ⟨1, [(0, .own 18), (1000003, .tab .u64 Lib.pow10Tab)], [(18, q1bT31_31 [((0 : Int), (0 : Int), (2 : Int), cs0, (f9z3)), ((1 : Int), (1 : Int), (3 : Int), cs1, cs2)])], [], 0⟩) rfl rfl ⟨.refl _, .refl _, trivial⟩ ⟨⟨_, rfl, (BLe.of (RL.lst (enc := eT31) [((0 : Int), (0 : Int), (2 : Int), cs0, (f9z3)), ((1 : Int), (1 : Int), (3 : Int), cs1, cs2)] rfl rfl (fun _ => rfl)))⟩, trivial⟩) (Le.trans (Le.freeze 18 rfl rfl) (Le.mk (s' := ⟨1, [(0, q1aT31 [((0 : Int), (0 : Int), (2 : Int), cs0, (f9z3)), ((1 : Int), (1 : Int), (3 : Int), cs1, cs2)]), (1000003, .tab .u64 Lib.pow10Tab)], [], [], 0⟩) rfl rfl ⟨.refl _, .refl _, trivial⟩ trivial)))), fun _ => ⟨.refl _, trivial⟩, .inl rfl⟩)) ?_
  refine thenQ_normal ?_
  refine AWp.seq ?_
  obtain ⟨r2, hr2, h⟩ := bind_ok h
  refine q1rr [] [(3, ⟨[.own 25], [25], [], [], .tup [q1aI r2.1, .i r2.2], [], [], [3]⟩)] ⟨90, [(1, .ptr 1 0), (2, q1aI r1.1), (3, .i r1.2), (4, q1aI r2.1), (5, .i r2.2), (1000003, .tab .u64 Lib.pow10Tab)], (f9z8), [], 0⟩ (an1 (show (callP Tryz.prog true 11 [(3, .tab .u64 Lib.pow10Tab)] [] [(25, .rows 31 5 2 (lstF 5 [.i (0 : Int), .i (0 : Int), .i (2 : Int), .str cs0, .str (f9z3), .i (1 : Int), .i (1 : Int), .i (3 : Int), .str cs1, .str (f9z9)]))] [] [] [.own 25] [.own 25] (.tup [q1aI r2.1, .i r2.2]) []) from ⟨fun _ => (Spec1.pre (f11_ok _ _ hr2) rfl rfl rfl (Le.trans (Le.mk (s' := ⟨1, [(0, .own 25), (1000003, .tab .u64 Lib.pow10Tab)], [(25, q1bT31_31 [((0 : Int), (0 : Int), (2 : Int), cs0, (f9z3)), ((1 : Int), (1 : Int), (3 : Int), cs1, (f9z9))])], [], 0⟩) rfl rfl ⟨.refl _, .refl _, trivial⟩ ⟨⟨_, rfl, (BLe.of (RL.lst (enc := eT31) [((0 : Int), (0 : Int), (2 : Int), cs0, (f9z3)), ((1 : Int), (1 : Int), (3 : Int), cs1, (f9z9))] rfl rfl (fun _ => rfl)))⟩, trivial⟩) (Le.trans (Le.freeze 25 rfl rfl) (Le.mk (s' := ⟨1, [(0, q1aT31 [((0 : Int), (0 : Int), (2 : Int), cs0, (f9z3)), ((1 : Int), (1 : Int), (3 : Int), cs1, (f9z9))]), (1000003, .tab .u64 Lib.pow10Tab)], [], [], 0⟩) rfl rfl ⟨.refl _, .refl _, trivial⟩ trivial)))), fun _ => ⟨.refl _, trivial⟩, .inl rfl⟩)) ?_
  refine thenQ_normal ?_
  refine q1rq [] [] ⟨90, [(2, q1aI r1.1), (3, .i r1.2), (4, q1aI r2.1), (5, .i r2.2), (6, .own 31), (1000003, .tab .u64 Lib.pow10Tab)], [(31, .rows 31 5 2 (lstF 5 [.i (0 : Int), .i (0 : Int), .i (2 : Int), .str cs0, .str (f9z3), .i (1 : Int), .i (3 : Int), .i (4 : Int), .str cs1, .str (f9z9)]))], [], 0⟩ trivial ?_
  refine AWp.le (Le.mk (s' := ⟨90, [(2, q1aI r1.1), (3, .i r1.2), (4, q1aI r2.1), (5, .i r2.2), (6, .own 31), (1000003, .tab .u64 Lib.pow10Tab)], (f9z1), [], 0⟩) rfl rfl ⟨.refl _, .refl _, .refl _, .refl _, .refl _, .refl _, trivial⟩ ⟨⟨_, rfl, (BLe.of (RL.lst (enc := eT31) [((0 : Int), (0 : Int), (2 : Int), cs0, (f9z3)), ((1 : Int), (3 : Int), (4 : Int), cs1, (f9z9))] rfl rfl (fun _ => rfl)))⟩, trivial⟩) ?_
  refine AWp.seq ?_
  obtain ⟨r3, hr3, h⟩ := bind_ok h
  obtain ⟨r4, hr4, h⟩ := bind_ok h
  refine q1rr [] [(1, ⟨(f9z5), [], [], (f9z11 r3), .own 6001, [6001], [31], []⟩), (2, ⟨[.own 6001], [6001], [], [], .tup [q1aI r4.1, .i r4.2], [], [], [3]⟩)] ⟨90, [(2, q1aI r1.1), (3, .i r1.2), (4, q1aI r2.1), (5, .i r2.2), (6, .own 31), (8, .i r4.2), (1000003, .tab .u64 Lib.pow10Tab)], (f9z1), [], 0⟩ (an2 (cpL (c := true) (f9z1) [31] [.own 31] (fun _ => (Spec1.ren (swapN 3000 6001) (swapN_inv 3000 6001) rfl (f12_ok _ _ hr3))) (fun _ => ⟨.refl _, trivial⟩) (.inr ⟨rfl, ⟨(fun _ _ _ _ => eT31_flat _ _), trivial⟩⟩)) (show (callP Tryz.prog true 11 [(3, .tab .u64 Lib.pow10Tab)] [] (f9z11 r3) [] [] [.own 6001] [.own 6001] (.tup [q1aI r4.1, .i r4.2]) []) from ⟨fun _ => (Spec1.pre (f11_ok _ _ hr4) rfl rfl rfl (Le.trans (Le.freeze 6001 rfl rfl) (Le.mk (s' := ⟨1, [(0, q1aT31 r3), (1000003, .tab .u64 Lib.pow10Tab)], [], [], 0⟩) rfl rfl ⟨.refl _, .refl _, trivial⟩ trivial))), fun _ => ⟨.refl _, trivial⟩, .inl rfl⟩)) ?_
  refine thenQ_normal ?_
  refine AWp.seq ?_
  obtain ⟨r5, hr5, h⟩ := bind_ok h
  obtain ⟨r6, hr6, h⟩ := bind_ok h
  refine q1rr [] [(1, ⟨(f9z5), [], [], [(6002, q1bT31_31 r5)], .own 6002, [6002], [31], []⟩), (2, ⟨[q1aT31 r5], [], [], [], .tup [.i r6.1, .i r6.2], [], [6002], [3]⟩)] ⟨90, [(2, q1aI r1.1), (3, .i r1.2), (4, q1aI r2.1), (5, .i r2.2), (6, .own 31), (8, .i r4.2), (9, .i r6.1), (10, .i r6.2), (1000003, .tab .u64 Lib.pow10Tab)], (f9z1), [], 0⟩ (an2 (cpL (c := true) (f9z1) [31] [.own 31] (fun _ => (Spec1.ren (swapN 3000 6002) (swapN_inv 3000 6002) rfl (f12_ok _ _ hr5))) (fun _ => ⟨.refl _, trivial⟩) (.inr ⟨rfl, ⟨(fun _ _ _ _ => eT31_flat _ _), trivial⟩⟩)) (cpL (c := true) [(6002, q1bT31_31 r5)] [6002] [.own 6002] (fun _ => (f19_ok _ _ hr6)) (fun _ => ⟨.refl _, trivial⟩) (.inr ⟨rfl, trivial⟩))) ?_
  refine thenQ_normal ?_
  refine AWp.seq ?_
  obtain ⟨r7, hr7, h⟩ := bind_ok h
  obtain ⟨r8, hr8, h⟩ := bind_ok h
  refine q1rr [] [(1, ⟨(f9z5), [], [], (f9z12 r7), .own 6003, [6003], [31], []⟩), (2, ⟨[.own 6003], [6003], [], [], .tup [q1aI r8.1, .i r8.2], [], [], [3]⟩)] ⟨90, [(2, q1aI r1.1), (3, .i r1.2), (4, q1aI r2.1), (5, .i r2.2), (8, .i r4.2), (9, .i r6.1), (10, .i r6.2), (11, q1aI r8.1), (12, .i r8.2), (1000003, .tab .u64 Lib.pow10Tab)], [], [], 0⟩ (an2 (cpL (c := true) (f9z1) [31] [.own 31] (fun _ => (Spec1.ren (swapN 3000 6003) (swapN_inv 3000 6003) rfl (f12_ok _ _ hr7))) (fun _ => ⟨.refl _, trivial⟩) (.inr ⟨rfl, ⟨(fun _ _ _ _ => eT31_flat _ _), trivial⟩⟩)) (show (callP Tryz.prog true 14 [(3, .tab .u64 Lib.pow10Tab)] [] (f9z12 r7) [] [] [.own 6003] [.own 6003] (.tup [q1aI r8.1, .i r8.2]) []) from ⟨fun _ => (Spec1.pre (f14_ok _ _ hr8) rfl rfl rfl (Le.trans (Le.freeze 6003 rfl rfl) (Le.mk (s' := ⟨1, [(0, q1aT31 r7), (1000003, .tab .u64 Lib.pow10Tab)], [], [], 0⟩) rfl rfl ⟨.refl _, .refl _, trivial⟩ trivial))), fun _ => ⟨.refl _, trivial⟩, .inl rfl⟩)) ?_
  refine thenQ_normal ?_
  refine q1rq [] [] ⟨90, [(2, q1aI r1.1), (3, .i r1.2), (4, q1aI r2.1), (5, .i r2.2), (8, .i r4.2), (9, .i r6.1), (10, .i r6.2), (11, q1aI r8.1), (12, .i r8.2), (13, .fn (.func 16) []), (1000003, .tab .u64 Lib.pow10Tab)], [], [], 0⟩ trivial ?_
  refine AWp.seq ?_
  by_cases hg9_22 : ((((((r1.2 == (0 : Int)) && (r2.2 == (0 : Int))) && (r4.2 == (14 : Int))) && (r6.2 == (0 : Int))) && (r8.2 == (0 : Int))) && (r6.1 == (4 : Int))) = true
  ·
    replace h := ite_t hg9_22 h
    obtain ⟨r9, hr9, h⟩ := bind_ok h
    by_cases hg9_28 : r9 = true
    ·
      replace h := ite_t hg9_28 h
      obtain ⟨r10, hr10, h⟩ := bind_ok h
      by_cases hg9_34 : r10 = true
      ·
        replace h := ite_t hg9_34 h
        obtain ⟨r11, hr11, h⟩ := bind_ok h
        have ob0 := idA ((f9z7 r1) = true)
        have ob1 : true = true → (r1.2 == (0 : Int)) = true → (f9z7 r1) = true := fun _ h => beq_iff_eq.2 h
        have ob2 := idA (((f9z4 r1 r2) == true) = true)
        have ob3 := bqA (f9z4 r1 r2) true
        have ob4 := idA (((f9z0 r1 r2 r4) == true) = true)
        have ob5 := bqA (f9z0 r1 r2 r4) true
        have ob6 := idA ((f9z6 r1 r2 r4 r6) = true)
        have ob7 : true = true → ((f9z0 r1 r2 r4) && (r6.2 == (0 : Int))) = true → (f9z6 r1 r2 r4 r6) = true := fun _ h => beq_iff_eq.2 h
        have ob8 := idA (((f9z2 r1 r2 r4 r6 r8) == true) = true)
        have ob9 := bqA (f9z2 r1 r2 r4 r6 r8) true
        have ob10 := idA (true = true)
        have ob11 := idA (true = true)
        have ob12 : true = true → true = true → true = true := fun _ h => h
        have ob13 := idA (true = true)
        have ob14 := idA (true = true)
        have ob15 : true = true → true = true → true = true := fun _ h => h
        have ob16 := idA (true = true)
        have ob17 := idA (true = true)
        have ob18 : true = true → true = true → true = true := fun _ h => h
        refine q1rr [] [(22, ⟨[], [], [], [], (.bool true), [], [0], []⟩), (26, ⟨[q1aI r1.1, q1aI [(0 : Int), (1 : Int)]], [], [], [], .bool r9, [], [75], []⟩), (28, ⟨[], [], [], [], (.bool true), [], [0], []⟩), (32, ⟨[q1aI r2.1, q1aI [(1 : Int), (0 : Int)]], [], [], [], .bool r10, [], [81], []⟩), (34, ⟨[], [], [], [], (.bool true), [], [0], []⟩), (38, ⟨[q1aI r8.1, q1aI [(1 : Int), (0 : Int)]], [], [], [], .bool r11, [], [87], []⟩)] ⟨90, [(0, .bool r11), (1000003, .tab .u64 Lib.pow10Tab)], [], [], 0⟩ (ac6 (an1 ob0) ob1 (an1 ob2) ob3 (an1 ob4) ob5 (ac6 (an1 ob6) ob7 (an1 ob8) ob9 (show ((.bool ((f9z2 r1 r2 r4 r6 r8) && (r6.1 == (4 : Int)))) : V) = (.bool true) from (congrArg (fun x => ((.bool x) : V)) hg9_22)) (And.intro (cpL (c := true) [(75, .rows 3 1 2 (lstF 1 [.i (0 : Int), .i (1 : Int)]))] [75] [q1aI r1.1, .own 75] (fun _ => (f16_ok _ _ _ hr9)) (fun _ => ⟨.refl _, (VLe.of (RL.lst (enc := eI) [(0 : Int), (1 : Int)] rfl rfl (fun _ => rfl))), trivial⟩) (.inr ⟨rfl, trivial⟩)) (an2 ob10 ob11)) (ac6 ob12 (show ((.bool r9) : V) = (.bool true) from (congrArg (fun x => ((.bool x) : V)) hg9_28)) (And.intro (cpL (c := true) [(81, .rows 3 1 2 (lstF 1 [.i (1 : Int), .i (0 : Int)]))] [81] [q1aI r2.1, .own 81] (fun _ => (f16_ok _ _ _ hr10)) (fun _ => ⟨.refl _, (VLe.of (RL.lst (enc := eI) [(1 : Int), (0 : Int)] rfl rfl (fun _ => rfl))), trivial⟩) (.inr ⟨rfl, trivial⟩)) (an2 ob13 ob14)) ob15 (show ((.bool r10) : V) = (.bool true) from (congrArg (fun x => ((.bool x) : V)) hg9_34)) (And.intro (cpL (c := true) [(87, .rows 3 1 2 (lstF 1 [.i (1 : Int), .i (0 : Int)]))] [87] [q1aI r8.1, .own 87] (fun _ => (f16_ok _ _ _ hr11)) (fun _ => ⟨.refl _, (VLe.of (RL.lst (enc := eI) [(1 : Int), (0 : Int)] rfl rfl (fun _ => rfl))), trivial⟩) (.inr ⟨rfl, trivial⟩)) (an2 ob16 ob17)) (an1 ob18)))) ?_
        refine thenQ_normal ?_
        have hret := Option.some.inj h
        subst hret
        refine AWp.le (Le.mk (s' := ⟨90, [(0, .bool r11)], [], [], 0⟩) rfl rfl ⟨.refl _, trivial⟩ trivial) ?_
        refine AWp.ret ?_
        exact bodyQ_ret _ rfl ⟨rfl, rfl⟩ rfl
      ·
        replace h := ite_f hg9_34 h
        have ob0 := idA ((f9z7 r1) = true)
        have ob1 : true = true → (r1.2 == (0 : Int)) = true → (f9z7 r1) = true := fun _ h => beq_iff_eq.2 h
        have ob2 := idA (((f9z4 r1 r2) == true) = true)
        have ob3 := bqA (f9z4 r1 r2) true
        have ob4 := idA (((f9z0 r1 r2 r4) == true) = true)
        have ob5 := bqA (f9z0 r1 r2 r4) true
        have ob6 := idA ((f9z6 r1 r2 r4 r6) = true)
        have ob7 : true = true → ((f9z0 r1 r2 r4) && (r6.2 == (0 : Int))) = true → (f9z6 r1 r2 r4 r6) = true := fun _ h => beq_iff_eq.2 h
        have ob8 := idA (((f9z2 r1 r2 r4 r6 r8) == true) = true)
        have ob9 := bqA (f9z2 r1 r2 r4 r6 r8) true
        have ob10 := idA (true = true)
        have ob11 := idA (true = true)
        have ob12 : true = true → true = true → true = true := fun _ h => h
        have ob13 := idA (true = true)
        have ob14 := idA (true = true)
        have ob15 : true = true → true = true → true = true := fun _ h => h
        have ob16 := idA (false = true)
        have ob17 := idA (false = true)
        have ob18 := idA (false = true)
        have ob19 : true = true → false = true → false = true := fun _ h => h
        refine q1rr [] [(22, ⟨[], [], [], [], (.bool true), [], [0], []⟩), (26, ⟨[q1aI r1.1, q1aI [(0 : Int), (1 : Int)]], [], [], [], .bool r9, [], [75], []⟩), (28, ⟨[], [], [], [], (.bool true), [], [0], []⟩), (32, ⟨[q1aI r2.1, q1aI [(1 : Int), (0 : Int)]], [], [], [], .bool r10, [], [81], []⟩), (34, ⟨[], [], [], [], (.bool false), [], [0], []⟩), (38, ⟨[], [], [], [], .bool false, [], [], []⟩)] ⟨90, (f9z10), [], [], 0⟩ (ac6 (an1 ob0) ob1 (an1 ob2) ob3 (an1 ob4) ob5 (ac6 (an1 ob6) ob7 (an1 ob8) ob9 (show ((.bool ((f9z2 r1 r2 r4 r6 r8) && (r6.1 == (4 : Int)))) : V) = (.bool true) from (congrArg (fun x => ((.bool x) : V)) hg9_22)) (And.intro (cpL (c := true) [(75, .rows 3 1 2 (lstF 1 [.i (0 : Int), .i (1 : Int)]))] [75] [q1aI r1.1, .own 75] (fun _ => (f16_ok _ _ _ hr9)) (fun _ => ⟨.refl _, (VLe.of (RL.lst (enc := eI) [(0 : Int), (1 : Int)] rfl rfl (fun _ => rfl))), trivial⟩) (.inr ⟨rfl, trivial⟩)) (an2 ob10 ob11)) (ac6 ob12 (show ((.bool r9) : V) = (.bool true) from (congrArg (fun x => ((.bool x) : V)) hg9_28)) (And.intro (cpL (c := true) [(81, .rows 3 1 2 (lstF 1 [.i (1 : Int), .i (0 : Int)]))] [81] [q1aI r2.1, .own 81] (fun _ => (f16_ok _ _ _ hr10)) (fun _ => ⟨.refl _, (VLe.of (RL.lst (enc := eI) [(1 : Int), (0 : Int)] rfl rfl (fun _ => rfl))), trivial⟩) (.inr ⟨rfl, trivial⟩)) (an2 ob13 ob14)) ob15 (show ((.bool r10) : V) = (.bool false) from (congrArg (fun x => ((.bool x) : V)) (Bool.eq_false_iff.2 hg9_34))) (And.intro (show (callP Tryz.prog false 16 [] [] [] [] [] [q1aI r8.1, .bool false] [] (.bool false) []) from ⟨nofun, nofun, .inl rfl⟩) (an3 ob16 ob17 ob18)) (an1 ob19)))) ?_
        refine thenQ_normal ?_
        have hret := Option.some.inj h
        subst hret
        refine AWp.le (Le.mk (s' := ⟨90, [(0, .bool false)], [], [], 0⟩) rfl rfl ⟨.refl _, trivial⟩ trivial) ?_
        refine AWp.ret ?_
        exact bodyQ_ret _ rfl ⟨rfl, rfl⟩ rfl
    ·
      replace h := ite_f hg9_28 h
      have ob0 := idA ((f9z7 r1) = true)
      have ob1 : true = true → (r1.2 == (0 : Int)) = true → (f9z7 r1) = true := fun _ h => beq_iff_eq.2 h
      have ob2 := idA (((f9z4 r1 r2) == true) = true)
      have ob3 := bqA (f9z4 r1 r2) true
      have ob4 := idA (((f9z0 r1 r2 r4) == true) = true)
      have ob5 := bqA (f9z0 r1 r2 r4) true
      have ob6 := idA ((f9z6 r1 r2 r4 r6) = true)
      have ob7 : true = true → ((f9z0 r1 r2 r4) && (r6.2 == (0 : Int))) = true → (f9z6 r1 r2 r4 r6) = true := fun _ h => beq_iff_eq.2 h
      have ob8 := idA (((f9z2 r1 r2 r4 r6 r8) == true) = true)
      have ob9 := bqA (f9z2 r1 r2 r4 r6 r8) true
      have ob10 := idA (true = true)
      have ob11 := idA (true = true)
      have ob12 : true = true → true = true → true = true := fun _ h => h
      have ob13 := idA (false = true)
      have ob14 := idA (false = true)
      have ob15 := idA (false = true)
      have ob16 : true = true → false = true → false = true := fun _ h => h
      have ob17 := idA (false = true)
      have ob18 := idA (false = true)
      have ob19 := idA (false = true)
      have ob20 : true = true → false = true → false = true := fun _ h => h
      refine q1rr [] [(22, ⟨[], [], [], [], (.bool true), [], [0], []⟩), (26, ⟨[q1aI r1.1, q1aI [(0 : Int), (1 : Int)]], [], [], [], .bool r9, [], [75], []⟩), (28, ⟨[], [], [], [], (.bool false), [], [0], []⟩), (32, ⟨[], [], [], [], .bool false, [], [], []⟩), (38, ⟨[], [], [], [], .bool false, [], [], []⟩)] ⟨90, (f9z10), [], [], 0⟩ (ac6 (an1 ob0) ob1 (an1 ob2) ob3 (an1 ob4) ob5 (ac6 (an1 ob6) ob7 (an1 ob8) ob9 (show ((.bool ((f9z2 r1 r2 r4 r6 r8) && (r6.1 == (4 : Int)))) : V) = (.bool true) from (congrArg (fun x => ((.bool x) : V)) hg9_22)) (And.intro (cpL (c := true) [(75, .rows 3 1 2 (lstF 1 [.i (0 : Int), .i (1 : Int)]))] [75] [q1aI r1.1, .own 75] (fun _ => (f16_ok _ _ _ hr9)) (fun _ => ⟨.refl _, (VLe.of (RL.lst (enc := eI) [(0 : Int), (1 : Int)] rfl rfl (fun _ => rfl))), trivial⟩) (.inr ⟨rfl, trivial⟩)) (an2 ob10 ob11)) (an6 ob12 (show ((.bool r9) : V) = (.bool false) from (congrArg (fun x => ((.bool x) : V)) (Bool.eq_false_iff.2 hg9_28))) (And.intro (show (callP Tryz.prog false 16 [] [] [] [] [] [q1aI r2.1, .bool false] [] (.bool false) []) from ⟨nofun, nofun, .inl rfl⟩) (an3 ob13 ob14 ob15)) ob16 (And.intro (show (callP Tryz.prog false 16 [] [] [] [] [] [q1aI r8.1, .bool false] [] (.bool false) []) from ⟨nofun, nofun, .inl rfl⟩) (an3 ob17 ob18 ob19)) ob20))) ?_
      refine thenQ_normal ?_
      have hret := Option.some.inj h
      subst hret
      refine AWp.le (Le.mk (s' := ⟨90, [(0, .bool false)], [], [], 0⟩) rfl rfl ⟨.refl _, trivial⟩ trivial) ?_
      refine AWp.ret ?_
      exact bodyQ_ret _ rfl ⟨rfl, rfl⟩ rfl
  ·
    replace h := ite_f hg9_22 h
    have ob0 := idA ((f9z7 r1) = true)
    have ob1 : true = true → (r1.2 == (0 : Int)) = true → (f9z7 r1) = true := fun _ h => beq_iff_eq.2 h
    have ob2 := idA (((f9z4 r1 r2) == true) = true)
    have ob3 := bqA (f9z4 r1 r2) true
    have ob4 := idA (((f9z0 r1 r2 r4) == true) = true)
    have ob5 := bqA (f9z0 r1 r2 r4) true
    have ob6 := idA ((f9z6 r1 r2 r4 r6) = true)
    have ob7 : true = true → ((f9z0 r1 r2 r4) && (r6.2 == (0 : Int))) = true → (f9z6 r1 r2 r4 r6) = true := fun _ h => beq_iff_eq.2 h
    have ob8 := idA (((f9z2 r1 r2 r4 r6 r8) == true) = true)
    have ob9 := bqA (f9z2 r1 r2 r4 r6 r8) true
    have ob10 := idA (false = true)
    have ob11 := idA (false = true)
    have ob12 := idA (false = true)
    have ob13 : true = true → false = true → false = true := fun _ h => h
    have ob14 := idA (false = true)
    have ob15 := idA (false = true)
    have ob16 := idA (false = true)
    have ob17 : true = true → false = true → false = true := fun _ h => h
    have ob18 := idA (false = true)
    have ob19 := idA (false = true)
    have ob20 := idA (false = true)
    have ob21 : true = true → false = true → false = true := fun _ h => h
    refine q1rr [] [(22, ⟨[], [], [], [], (.bool false), [], [0], []⟩), (26, ⟨[], [], [], [], .bool false, [], [], []⟩), (32, ⟨[], [], [], [], .bool false, [], [], []⟩), (38, ⟨[], [], [], [], .bool false, [], [], []⟩)] ⟨90, (f9z10), [], [], 0⟩ (ac6 (an1 ob0) ob1 (an1 ob2) ob3 (an1 ob4) ob5 (ac6 (an1 ob6) ob7 (an1 ob8) ob9 (show ((.bool ((f9z2 r1 r2 r4 r6 r8) && (r6.1 == (4 : Int)))) : V) = (.bool false) from (congrArg (fun x => ((.bool x) : V)) (Bool.eq_false_iff.2 hg9_22))) (And.intro (show (callP Tryz.prog false 16 [] [] [] [] [] [q1aI r1.1, .bool false] [] (.bool false) []) from ⟨nofun, nofun, .inl rfl⟩) (an3 ob10 ob11 ob12)) (an5 ob13 (And.intro (show (callP Tryz.prog false 16 [] [] [] [] [] [q1aI r2.1, .bool false] [] (.bool false) []) from ⟨nofun, nofun, .inl rfl⟩) (an3 ob14 ob15 ob16)) ob17 (And.intro (show (callP Tryz.prog false 16 [] [] [] [] [] [q1aI r8.1, .bool false] [] (.bool false) []) from ⟨nofun, nofun, .inl rfl⟩) (an3 ob18 ob19 ob20)) ob21))) ?_
    refine thenQ_normal ?_
    have hret := Option.some.inj h
    subst hret
    refine AWp.le (Le.mk (s' := ⟨90, [(0, .bool false)], [], [], 0⟩) rfl rfl ⟨.refl _, trivial⟩ trivial) ?_
    refine AWp.ret ?_
    exact bodyQ_ret _ rfl ⟨rfl, rfl⟩ rfl
def f10_L0 (x1 : List (Int × Int × Int × List UInt8 × List UInt8)) (K1 : Unit → Option Bool) : Nat → Nat → Option Bool
  | 0, _ => none
  | k + 1, n3 =>
    if (decide ((n3 : Int) < (((x1).length : Nat) : Int))) then (
    chk ((n3 : Int) < (((x1).length : Nat) : Int)) <|
    chk (((decide (((((x1.getD n3 (default : Int × Int × Int × List UInt8 × List UInt8)).2.2.2.1).length : Nat) : Int) > (100 : Int))) == false) = true → 0 ≤ (n3 : Int) ∧ (n3 : Int) < (((x1).length : Nat) : Int)) <|
    if ((decide (((((x1.getD n3 (default : Int × Int × Int × List UInt8 × List UInt8)).2.2.2.1).length : Nat) : Int) > (100 : Int))) || (decide (((((x1.getD n3 (default : Int × Int × Int × List UInt8 × List UInt8)).2.2.2.2).length : Nat) : Int) > (100 : Int)))) then (
    some false
    ) else (
    chk (((n3 : Int) + (1 : Int)) ≤ 9223372036854775807) <|
    (f10_L0 x1 K1 k) (n3 + 1)
    )
    ) else (
    K1 ()
    )
theorem f10_L0_e2 (x1 : List (Int × Int × Int × List UInt8 × List UInt8)) (K1 : Unit → Option Bool) (k : Nat) (n3 : Nat) : f10_L0 x1 K1 (k + 1) n3 =
    if (decide ((n3 : Int) < (((x1).length : Nat) : Int))) then (
    chk ((n3 : Int) < (((x1).length : Nat) : Int)) <|
    chk (((decide (((((x1.getD n3 (default : Int × Int × Int × List UInt8 × List UInt8)).2.2.2.1).length : Nat) : Int) > (100 : Int))) == false) = true → 0 ≤ (n3 : Int) ∧ (n3 : Int) < (((x1).length : Nat) : Int)) <|
    if ((decide (((((x1.getD n3 (default : Int × Int × Int × List UInt8 × List UInt8)).2.2.2.1).length : Nat) : Int) > (100 : Int))) || (decide (((((x1.getD n3 (default : Int × Int × Int × List UInt8 × List UInt8)).2.2.2.2).length : Nat) : Int) > (100 : Int)))) then (
    some false
    ) else (
    chk (((n3 : Int) + (1 : Int)) ≤ 9223372036854775807) <|
    (f10_L0 x1 K1 k) (n3 + 1)
    )
    ) else (
    K1 ()
    ) := rfl
abbrev f10z0 (x1 : List (Int × Int × Int × List UInt8 × List UInt8)) (n3 : Nat) := ((x1.getD n3 (default : Int × Int × Int × List UInt8 × List UInt8)).2.2.2.1)
abbrev f10z1 (x1 : List (Int × Int × Int × List UInt8 × List UInt8)) (x2 : Int) : List (Nat × V) := [(0, vL 5 eT31 (default : Int × Int × Int × List UInt8 × List UInt8) x1), (1, .int .i64 x2)]
def f10 (x1 : List (Int × Int × Int × List UInt8 × List UInt8)) (x2 : Int) : Option Bool :=
  jn (fun (_ : Unit) =>
  some ((decide ((((x1).length : Nat) : Int) ≤ x2)) || ((((x1).length : Nat) : Int) == (11 : Int)))
  ) fun (K1 : Unit → Option Bool) =>
  f10_L0 x1 K1 FUEL 0
set_option maxRecDepth 100000 in
theorem f10_ok  (x1 : List (Int × Int × Int × List UInt8 × List UInt8)) (x2 : Int) (r : Bool) (h : f10 x1 x2 = some r)  : Spec1 Tryz.prog 10 [] [] [] [vL 5 eT31 (default : Int × Int × Int × List UInt8 × List UInt8) x1, .int .i64 x2] (.bool r) [] := by
  unfold f10 at h
  refine Spec1.body 0 _ _ Tryz.func10 rfl Tryz.ntmps10 rfl rfl ?_
  refine q1rq [] [] ⟨37, (f10z1 x1 x2), [], [], 0⟩ trivial ?_
  obtain ⟨K1, hK1, h⟩ := jn_some h
  refine AWp.join (α := Unit) (fun (x : Unit) => match x with | () => ⟨37, (f10z1 x1 x2), [], [], 0⟩) (fun x => K1 x = some r) ?_ ?_
  ·
    refine q1rq [] [] ⟨37, [(0, q1aT31 x1), (1, .i x2), (5, .i (0 : Int))], [], [], 0⟩ trivial ?_
    refine AWp.block ?_
    refine AWp.loopL (α := Nat × Nat) (fun x => match x with | (_, n3) => ⟨37, [(0, q1aT31 x1), (1, .i x2), (5, .i (n3 : Int))], [], [], 0⟩) (fun x => f10_L0 x1 K1 x.1 x.2 = some r) (fun x => x.1) (FUEL, 0) (Le.mk (s' := ⟨37, [(0, q1aT31 x1), (1, .i x2), (5, .i (0 : Int))], [], [], 0⟩) rfl rfl ⟨.refl _, .refl _, .refl _, trivial⟩ trivial) h ?_
    rintro ⟨k0, n3⟩ h
    cases k0 with
    | zero => exact nomatch (show (none : Option Bool) = some r from h)
    | succ k0 =>
    obtain ⟨C0, hC0⟩ : ∃ C, C = f10_L0 x1 K1 k0 := ⟨_, rfl⟩
    replace h := (f10_L0_e2 ..).symm.trans h
    try rw [← hC0] at h
    refine AWp.seq ?_
    refine q1rq [] [] ⟨37, [(0, q1aT31 x1), (1, .i x2), (5, .i (n3 : Int)), (9, .bool (decide ((n3 : Int) < (lZ x1))))], [], [], 0⟩ trivial ?_
    refine AWp.cond (b := (decide ((n3 : Int) < (lZ x1)))) (by kernel_rfl) (fun hc1 => ?_) (fun hc1 => ?_)
    ·
      replace h := ite_tb hc1 h
      refine AWp.skip ?_
      refine thenQ_normal ?_
      refine AWp.seq ?_
      refine AWp.block ?_
      refine AWp.seq ?_
      obtain ⟨ob0p, h⟩ := chk_some h
      have ob0 : 0 ≤ (n3 : Int) ∧ (n3 : Int) < (((x1).length : Nat) : Int) := ⟨by omega, ob0p⟩
      obtain ⟨ob1, h⟩ := chk_some h
      have ob2 := idA (((decide ((((f10z0 x1 n3).length : Nat) : Int) > (100 : Int))) == false) = true)
      have ob3 := idA (((decide ((((f10z0 x1 n3).length : Nat) : Int) > (100 : Int))) == false) = true)
      have ob4 := idA (((decide ((((f10z0 x1 n3).length : Nat) : Int) > (100 : Int))) == false) = true)
      have ob5 := idA (((decide ((((f10z0 x1 n3).length : Nat) : Int) > (100 : Int))) == false) = true)
      have ob6 := idA (((decide ((((f10z0 x1 n3).length : Nat) : Int) > (100 : Int))) == false) = true)
      have ob7 := idA (((decide ((((f10z0 x1 n3).length : Nat) : Int) > (100 : Int))) == false) = true)
      have ob8 := bqA (decide ((((f10z0 x1 n3).length : Nat) : Int) > (100 : Int))) false
      refine q1rr [] [] ⟨37, [(0, q1aT31 x1), (1, .i x2), (5, .i (n3 : Int)), (27, .bool ((decide ((((f10z0 x1 n3).length : Nat) : Int) > (100 : Int))) || (decide (((((x1.getD n3 q1dT31).2.2.2.2).length : Nat) : Int) > (100 : Int)))))], [], [], 0⟩ (ac6 ob0 (And.intro ob1 (an2 ob2 ob3)) (an1 ob4) (an1 ob5) (an1 ob6) (an1 ob7) (an1 ob8)) ?_
      refine thenQ_normal ?_
      refine AWp.cond (b := ((decide ((((f10z0 x1 n3).length : Nat) : Int) > (100 : Int))) || (decide (((((x1.getD n3 q1dT31).2.2.2.2).length : Nat) : Int) > (100 : Int))))) (by kernel_rfl) (fun hc2 => ?_) (fun hc2 => ?_)
      ·
        replace h := ite_tb hc2 h
        refine q1rq [] [] ⟨37, [(4, .bool false)], [], [], 0⟩ trivial ?_
        have hret := Option.some.inj h
        subst hret
        refine AWp.le (Le.mk (s' := ⟨37, [(4, .bool false)], [], [], 0⟩) rfl rfl ⟨.refl _, trivial⟩ trivial) ?_
        refine AWp.ret ?_
        refine blockQ_ret ?_
        refine thenQ_ret ?_
        refine thenQ_ret ?_
        refine blockQ_ret ?_
        refine joinQ_ret ?_
        exact bodyQ_ret _ rfl ⟨rfl, rfl⟩ rfl
      ·
        replace h := ite_fb hc2 h
        refine AWp.skip ?_
        refine blockQ_normal ?_
        refine thenQ_normal ?_
        obtain ⟨ob9p, h⟩ := chk_some h
        have ob9 : -9223372036854775808 ≤ ((n3 : Int) + (1 : Int)) ∧ ((n3 : Int) + (1 : Int)) ≤ 9223372036854775807 := ⟨by omega, ob9p⟩
        refine q1rr [] [] ⟨37, [(0, q1aT31 x1), (1, .i x2), (5, .i (((n3 + 1) : Nat) : Int))], [], [], 0⟩ (an1 ob9) ?_
        rw [hC0] at h
        exact loopQ_normal (_, (n3 + 1)) (Le.mk rfl rfl ⟨.refl _, .refl _, .refl _, trivial⟩ trivial) h (Nat.lt_succ_self _)
    ·
      replace h := ite_fb hc1 h
      refine AWp.exit ?_
      refine thenQ_exit ?_
      refine thenQ_exit ?_
      refine blockQ_same ?_
      exact joinQ_normal () (Le.mk rfl rfl ⟨.refl _, .refl _, trivial⟩ trivial) h
  ·
    rintro ⟨⟩ h
    replace h := (congrFun hK1 _).symm.trans h
    refine AWp.seq ?_
    have ob10 := idA (((decide ((lZ x1) ≤ x2)) == false) = true)
    have ob11 := idA (((decide ((lZ x1) ≤ x2)) == false) = true)
    have ob12 := bqA (decide ((lZ x1) ≤ x2)) false
    refine q1rr [] [] ⟨37, [(4, .bool ((decide ((lZ x1) ≤ x2)) || ((lZ x1) == (11 : Int))))], [], [], 0⟩ (an3 (an1 ob10) (an1 ob11) ob12) ?_
    refine thenQ_normal ?_
    have hret := Option.some.inj h
    subst hret
    refine AWp.le (Le.mk (s' := ⟨37, [(4, .bool ((decide ((lZ x1) ≤ x2)) || ((lZ x1) == (11 : Int))))], [], [], 0⟩) rfl rfl ⟨.refl _, trivial⟩ trivial) ?_
    refine AWp.ret ?_
    exact bodyQ_ret _ rfl ⟨rfl, rfl⟩ rfl
def f51_L0 (x1 : List UInt8) (K1 : (List (List UInt8)) → Option (List (List UInt8))) : Nat → (Nat × Nat × List (List UInt8)) → Option (List (List UInt8))
  | 0, _ => none
  | k + 1, (n2, n3, l4) =>
    if (decide ((n3 : Int) ≤ ((x1.length : Nat) : Int))) then (
    jn (fun ((n5, l6) : Nat × List (List UInt8)) =>
    chk (((n3 : Int) + (1 : Int)) ≤ 9223372036854775807) <|
    (f51_L0 x1 K1 k) (n5, (n3 + 1), l6)
    ) fun (K2 : (Nat × List (List UInt8)) → Option (List (List UInt8))) =>
    chk ((((n3 : Int) == ((x1.length : Nat) : Int)) == false) = true → 0 ≤ (n3 : Int) ∧ (n3 : Int) < ((x1.length : Nat) : Int)) <|
    if (((n3 : Int) == ((x1.length : Nat) : Int)) || ((((x1.getD n3 0).toNat : Nat) : Int) == (32 : Int))) then (
    chk ((n2 : Int) ≤ (n3 : Int) ∧ (n3 : Int) ≤ ((x1.length : Nat) : Int)) <|
    chk (((l4).length + 1) * 16 ≤ 140737488355328) <|
    chk (((n3 : Int) + (1 : Int)) ≤ 9223372036854775807) <|
    K2 ((n3 + 1), (l4 ++ [((x1.take n3).drop n2)]))
    ) else (
    K2 (n2, l4)
    )
    ) else (
    K1 l4
    )
def f51 (x1 : List UInt8) : Option (List (List UInt8)) :=
  jn (fun (l7 : List (List UInt8)) =>
  some l7
  ) fun (K1 : (List (List UInt8)) → Option (List (List UInt8))) =>
  f51_L0 x1 K1 FUEL (0, 0, [])
set_option maxRecDepth 100000 in
theorem f51_ok  (x1 : List UInt8) (r : List (List UInt8)) (h : f51 x1 = some r)  : Spec1 Tryz.prog 51 [] [] [] [.str x1] (.own 3000) [(3000, bL 9 1 eS [] r)] := by
  unfold f51 at h
  refine Spec1.body 0 _ _ Tryz.func51 rfl Tryz.ntmps51 rfl rfl ?_
  refine q1rq [] [] ⟨32, [(0, .str x1)], [], [], 0⟩ trivial ?_
  refine q1rq [] [] ⟨32, [(0, .str x1), (3, .nils)], [], [], 0⟩ trivial ?_
  refine q1rq [] [] ⟨32, [(0, .str x1), (3, .nils), (4, .i (0 : Int))], [], [], 0⟩ trivial ?_
  obtain ⟨K1, hK1, h⟩ := jn_some h
  refine AWp.join (α := List (List UInt8)) (fun (l7 : List (List UInt8)) => ⟨32, [(3, .own 5003)], [(5003, q1bS_9 l7)], [], 0⟩) (fun x => K1 x = some r) ?_ ?_
  ·
    refine q1rq [] [] ⟨32, [(0, .str x1), (3, .nils), (4, .i (0 : Int)), (5, .i (0 : Int))], [], [], 0⟩ trivial ?_
    refine AWp.block ?_
    refine AWp.loopL (α := Nat × (Nat × Nat × List (List UInt8))) (fun x => match x with | (_, n2, n3, l4) => ⟨32, [(0, .str x1), (3, .own 5003), (4, .i (n2 : Int)), (5, .i (n3 : Int))], [(5003, q1bS_9 l4)], [], 0⟩) (fun x => f51_L0 x1 K1 x.1 x.2 = some r) (fun x => x.1) (FUEL, 0, 0, []) (Le.trans (Le.trans (Le.nilOwn 3 5003 9 1 (encF eS [] []) rfl rfl (Nat.le_of_ble_eq_true rfl)) (Le.mk (s' := ⟨32, [(0, .str x1), (3, .own 5003), (4, .i (0 : Int)), (5, .i (0 : Int))], [(5003, q1bS_9 [])], [], 0⟩) rfl rfl ⟨.refl _, .refl _, .refl _, .refl _, trivial⟩ ⟨⟨_, rfl, .refl _⟩, trivial⟩)) (Le.mk (s' := ⟨32, [(0, .str x1), (3, .own 5003), (4, .i (0 : Int)), (5, .i (0 : Int))], [(5003, q1bS_9 [])], [], 0⟩) rfl rfl ⟨.refl _, .refl _, .refl _, .refl _, trivial⟩ ⟨⟨_, rfl, .refl _⟩, trivial⟩)) h ?_
    rintro ⟨k0, n2, n3, l4⟩ h
    cases k0 with
    | zero => exact nomatch (show (none : Option (List (List UInt8))) = some r from h)
    | succ k0 =>
    obtain ⟨C0, hC0⟩ : ∃ C, C = f51_L0 x1 K1 k0 := ⟨_, rfl⟩
    replace h := (f51_L0.eq_2 ..).symm.trans h
    try rw [← hC0] at h
    refine AWp.seq ?_
    refine q1rq [] [] ⟨32, [(0, .str x1), (3, .own 5003), (4, .i (n2 : Int)), (5, .i (n3 : Int)), (9, .bool (decide ((n3 : Int) ≤ (lZ x1))))], [(5003, q1bS_9 l4)], [], 0⟩ trivial ?_
    refine AWp.cond (b := (decide ((n3 : Int) ≤ (lZ x1)))) (by kernel_rfl) (fun hc1 => ?_) (fun hc1 => ?_)
    ·
      replace h := ite_tb hc1 h
      refine AWp.skip ?_
      refine thenQ_normal ?_
      obtain ⟨K2, hK2, h⟩ := jn_some h
      refine AWp.join (α := Nat × List (List UInt8)) (fun (x : Nat × List (List UInt8)) => match x with | (n5, l6) => ⟨32, [(0, .str x1), (3, .own 28), (4, .i (n5 : Int)), (5, .i (n3 : Int))], [(28, q1bS_9 l6)], [], 0⟩) (fun x => K2 x = some r) ?_ ?_
      ·
        refine AWp.block ?_
        refine AWp.seq ?_
        obtain ⟨ob0, h⟩ := chk_some h
        have ob1 := idA ((((n3 : Int) == (lZ x1)) == false) = true)
        have ob2 := idA ((((n3 : Int) == (lZ x1)) == false) = true)
        have ob3 := idA ((((n3 : Int) == (lZ x1)) == false) = true)
        have ob4 := bqA ((n3 : Int) == (lZ x1)) false
        refine q1rr [] [] ⟨32, [(0, .str x1), (3, .own 5003), (4, .i (n2 : Int)), (5, .i (n3 : Int)), (21, .bool (((n3 : Int) == (lZ x1)) || ((((x1.getD n3 0).toNat : Nat) : Int) == (32 : Int))))], [(5003, q1bS_9 l4)], [], 0⟩ (an3 (And.intro ob0 (an2 ob1 ob2)) (an1 ob3) ob4) ?_
        refine thenQ_normal ?_
        refine AWp.cond (b := (((n3 : Int) == (lZ x1)) || ((((x1.getD n3 0).toNat : Nat) : Int) == (32 : Int)))) (by kernel_rfl) (fun hc2 => ?_) (fun hc2 => ?_)
        ·
          replace h := ite_tb hc2 h
          refine AWp.seq ?_
          obtain ⟨ob5p, h⟩ := chk_some h
          have ob5 : 0 ≤ (n2 : Int) ∧ (n2 : Int) ≤ (n3 : Int) ∧ (n3 : Int) ≤ ((x1.length : Nat) : Int) := ⟨by omega, ob5p.1, ob5p.2⟩
          obtain ⟨ob6, h⟩ := chk_some h
          refine q1rr [] [] ⟨32, [(0, .str x1), (3, .own 5003), (5, .i (n3 : Int))], [(5003, .rows 9 1 ((l4).length + 1) (appF (l4).length (encF eS [] l4) (lstF 1 [.str ((x1.take n3).drop n2)])))], [], 0⟩ (an2 ob5 ob6) ?_
          refine thenQ_normal ?_
          refine AWp.le (Le.mk (s' := ⟨32, [(0, .str x1), (3, .own 5003), (5, .i (n3 : Int))], [(5003, q1bS_9 (l4 ++ [((x1.take n3).drop n2)]))], [], 0⟩) rfl rfl ⟨.refl _, .refl _, .refl _, trivial⟩ ⟨⟨_, rfl, (BLe.of (RL.app (RL.self _) (RL.lst (enc := eS) [((x1.take n3).drop n2)] rfl rfl (fun _ => rfl))))⟩, trivial⟩) ?_
          obtain ⟨ob7p, h⟩ := chk_some h
          have ob7 : -9223372036854775808 ≤ ((n3 : Int) + (1 : Int)) ∧ ((n3 : Int) + (1 : Int)) ≤ 9223372036854775807 := ⟨by omega, ob7p⟩
          refine q1rr [] [] ⟨32, [(0, .str x1), (3, .own 5003), (4, .i (((n3 + 1) : Nat) : Int)), (5, .i (n3 : Int))], [(5003, q1bS_9 (l4 ++ [((x1.take n3).drop n2)]))], [], 0⟩ (an1 ob7) ?_
          refine blockQ_normal ?_
          exact joinQ_normal ((n3 + 1), (l4 ++ [((x1.take n3).drop n2)])) (Le.trans (Le.trans (Le.ren (swapN 5003 28) (swapN_inv 5003 28) rfl) (Le.mk (s' := ⟨32, [(0, .str x1), (3, .own 28), (4, .i (((n3 + 1) : Nat) : Int)), (5, .i (n3 : Int))], [(28, q1bS_9 (l4 ++ [((x1.take n3).drop n2)]))], [], 0⟩) rfl rfl ⟨.refl _, .refl _, .refl _, .refl _, trivial⟩ ⟨⟨_, rfl, .refl _⟩, trivial⟩)) (Le.mk rfl rfl ⟨.refl _, .refl _, .refl _, .refl _, trivial⟩ ⟨⟨_, rfl, .refl _⟩, trivial⟩)) h
        ·
          replace h := ite_fb hc2 h
          refine AWp.skip ?_
          refine blockQ_normal ?_
          exact joinQ_normal (n2, l4) (Le.trans (Le.trans (Le.ren (swapN 5003 28) (swapN_inv 5003 28) rfl) (Le.mk (s' := ⟨32, [(0, .str x1), (3, .own 28), (4, .i (n2 : Int)), (5, .i (n3 : Int)), (21, .bool (((n3 : Int) == (lZ x1)) || ((((x1.getD n3 0).toNat : Nat) : Int) == (32 : Int))))], [(28, q1bS_9 l4)], [], 0⟩) rfl rfl ⟨.refl _, .refl _, .refl _, .refl _, .refl _, trivial⟩ ⟨⟨_, rfl, .refl _⟩, trivial⟩)) (Le.mk rfl rfl ⟨.refl _, .refl _, .refl _, .refl _, trivial⟩ ⟨⟨_, rfl, .refl _⟩, trivial⟩)) h
      ·
        rintro ⟨n5, l6⟩ h
        replace h := (congrFun hK2 _).symm.trans h
        obtain ⟨ob8p, h⟩ := chk_some h
        have ob8 : -9223372036854775808 ≤ ((n3 : Int) + (1 : Int)) ∧ ((n3 : Int) + (1 : Int)) ≤ 9223372036854775807 := ⟨by omega, ob8p⟩
        refine q1rr [] [] ⟨32, [(0, .str x1), (3, .own 28), (4, .i (n5 : Int)), (5, .i (((n3 + 1) : Nat) : Int))], [(28, q1bS_9 l6)], [], 0⟩ (an1 ob8) ?_
        rw [hC0] at h
        exact loopQ_normal (_, n5, (n3 + 1), l6) (Le.trans (Le.trans (Le.ren (swapN 28 5003) (swapN_inv 28 5003) rfl) (Le.mk (s' := ⟨32, [(0, .str x1), (3, .own 5003), (4, .i (n5 : Int)), (5, .i (((n3 + 1) : Nat) : Int))], [(5003, q1bS_9 l6)], [], 0⟩) rfl rfl ⟨.refl _, .refl _, .refl _, .refl _, trivial⟩ ⟨⟨_, rfl, .refl _⟩, trivial⟩)) (Le.mk rfl rfl ⟨.refl _, .refl _, .refl _, .refl _, trivial⟩ ⟨⟨_, rfl, .refl _⟩, trivial⟩)) h (Nat.lt_succ_self _)
    ·
      replace h := ite_fb hc1 h
      refine AWp.exit ?_
      refine thenQ_exit ?_
      refine thenQ_exit ?_
      refine blockQ_same ?_
      exact joinQ_normal (l4) (Le.mk rfl rfl ⟨.refl _, trivial⟩ ⟨⟨_, rfl, .refl _⟩, trivial⟩) h
  ·
    rintro l7 h
    replace h := (congrFun hK1 _).symm.trans h
    refine q1rq [] [] ⟨32, [(2, .own 5003)], [(5003, q1bS_9 l7)], [], 0⟩ trivial ?_
    refine AWp.le (Le.trans (Le.ren (swapN 5003 3000) (swapN_inv 5003 3000) rfl) (Le.mk (s' := ⟨32, [(2, .own 3000)], [(3000, q1bS_9 l7)], [], 0⟩) rfl rfl ⟨.refl _, trivial⟩ ⟨⟨_, rfl, .refl _⟩, trivial⟩)) ?_
    have hret := Option.some.inj h
    subst hret
    refine AWp.le (Le.mk (s' := ⟨32, [(2, .own 3000)], [(3000, q1bS_9 l7)], [], 0⟩) rfl rfl ⟨.refl _, trivial⟩ ⟨⟨_, rfl, .refl _⟩, trivial⟩) ?_
    refine AWp.ret ?_
    exact bodyQ_ret _ rfl ⟨rfl, rfl⟩ rfl
abbrev f52z0 := ([112, 117, 116] : List UInt8)
abbrev f52z1 := ([103, 101, 116] : List UInt8)
abbrev f52z2 := ([99, 97, 115] : List UInt8)
def f52 (x1 : Int) : Option (List UInt8) :=
  if ((decide (x1 < (1 : Int))) || (decide (x1 > (6 : Int)))) then (
  some []
  ) else (
  chk (-9223372036854775808 ≤ (x1 - (1 : Int)) ∧ (x1 - (1 : Int)) ≤ 9223372036854775807) <|
  chk (0 ≤ (x1 - (1 : Int)) ∧ (x1 - (1 : Int)) < (6 : Int)) <|
  chk ((((x1 - (1 : Int))).toNat) < 6) <|
  some (([([112, 117, 116] : List UInt8), ([103, 101, 116] : List UInt8), cs3, cs4, ([99, 97, 115] : List UInt8), cs5] : List (List UInt8)).getD (((x1 - (1 : Int))).toNat) [])
  )
set_option maxRecDepth 100000 in
theorem f52_ok  (x1 : Int) (r : List UInt8) (h : f52 x1 = some r)  : Spec1 Tryz.prog 52 [] [] [] [.int .i64 x1] (.str r) [] := by
  unfold f52 at h
  refine Spec1.body 0 _ _ Tryz.func52 rfl Tryz.ntmps52 rfl rfl ?_
  refine q1rq [] [] ⟨14, [(0, .i x1)], [], [], 0⟩ trivial ?_
  refine AWp.seq ?_
  refine AWp.seq ?_
  have ob0 := idA (((decide (x1 < (1 : Int))) == false) = true)
  have ob1 := bqA (decide (x1 < (1 : Int))) false
  refine q1rr [] [] ⟨14, [(0, .i x1), (8, .bool ((decide (x1 < (1 : Int))) || (decide (x1 > (6 : Int)))))], [], [], 0⟩ (an2 (an1 ob0) ob1) ?_
  refine thenQ_normal ?_
  refine AWp.cond (b := ((decide (x1 < (1 : Int))) || (decide (x1 > (6 : Int))))) (by kernel_rfl) (fun hc1 => ?_) (fun hc1 => ?_)
  ·
    replace h := ite_tb hc1 h
    refine q1rq [] [] ⟨14, [(2, .str [])], [], [], 0⟩ trivial ?_
    have hret := Option.some.inj h
    subst hret
    refine AWp.le (Le.mk (s' := ⟨14, [(2, .str [])], [], [], 0⟩) rfl rfl ⟨.refl _, trivial⟩ trivial) ?_
    refine AWp.ret ?_
    refine thenQ_ret ?_
    exact bodyQ_ret _ rfl ⟨rfl, rfl⟩ rfl
  ·
    replace h := ite_fb hc1 h
    refine AWp.skip ?_
    refine thenQ_normal ?_
    refine AWp.seq ?_
    obtain ⟨ob2, ob3, ob4, h⟩ := ck3 h
    refine q1rr [] [(4, ⟨[], [], [], [], .str (([(f52z0), (f52z1), cs3, cs4, (f52z2), cs5] : List (List UInt8)).getD (((x1 - (1 : Int))).toNat) []), [], [0], []⟩)] ⟨14, [(2, .str (([(f52z0), (f52z1), cs3, cs4, (f52z2), cs5] : List (List UInt8)).getD (((x1 - (1 : Int))).toNat) []))], [], [], 0⟩ (an3 ob2 ob3 (And.intro ob4 (show ((lstF 1 [.str (f52z0), .str (f52z1), .str cs3, .str cs4, .str (f52z2), .str cs5]) (((x1 - (1 : Int))).toNat) 0 : V) = .str (([(f52z0), (f52z1), cs3, cs4, (f52z2), cs5] : List (List UInt8)).getD (((x1 - (1 : Int))).toNat) []) from (lst_at eS [] 1 ([(f52z0), (f52z1), cs3, cs4, (f52z2), cs5] : List (List UInt8)) (fun _ => rfl) (show (((x1 - (1 : Int))).toNat) < 6 from by assumption) (j := 0) (by decide))))) ?_
    refine thenQ_normal ?_
    have hret := Option.some.inj h
    subst hret
    refine AWp.le (Le.mk (s' := ⟨14, [(2, .str (([(f52z0), (f52z1), cs3, cs4, (f52z2), cs5] : List (List UInt8)).getD (((x1 - (1 : Int))).toNat) []))], [], [], 0⟩) rfl rfl ⟨.refl _, trivial⟩ trivial) ?_
    refine AWp.ret ?_
    exact bodyQ_ret _ rfl ⟨rfl, rfl⟩ rfl
def f104_L0 (x1 : List UInt8) (K1 : Unit → Option Bool) : Nat → Nat → Option Bool
  | 0, _ => none
  | k + 1, n3 =>
    if (decide ((n3 : Int) < ((x1.length : Nat) : Int))) then (
    chk ((n3 : Int) < ((x1.length : Nat) : Int)) <|
    chk (((decide ((((x1.getD n3 0).toNat : Nat) : Int) < (33 : Int))) == false) = true → 0 ≤ (n3 : Int) ∧ (n3 : Int) < ((x1.length : Nat) : Int)) <|
    if ((decide ((((x1.getD n3 0).toNat : Nat) : Int) < (33 : Int))) || (decide ((((x1.getD n3 0).toNat : Nat) : Int) > (126 : Int)))) then (
    some false
    ) else (
    chk (((n3 : Int) + (1 : Int)) ≤ 9223372036854775807) <|
    (f104_L0 x1 K1 k) (n3 + 1)
    )
    ) else (
    K1 ()
    )
theorem f104_L0_e2 (x1 : List UInt8) (K1 : Unit → Option Bool) (k : Nat) (n3 : Nat) : f104_L0 x1 K1 (k + 1) n3 =
    if (decide ((n3 : Int) < ((x1.length : Nat) : Int))) then (
    chk ((n3 : Int) < ((x1.length : Nat) : Int)) <|
    chk (((decide ((((x1.getD n3 0).toNat : Nat) : Int) < (33 : Int))) == false) = true → 0 ≤ (n3 : Int) ∧ (n3 : Int) < ((x1.length : Nat) : Int)) <|
    if ((decide ((((x1.getD n3 0).toNat : Nat) : Int) < (33 : Int))) || (decide ((((x1.getD n3 0).toNat : Nat) : Int) > (126 : Int)))) then (
    some false
    ) else (
    chk (((n3 : Int) + (1 : Int)) ≤ 9223372036854775807) <|
    (f104_L0 x1 K1 k) (n3 + 1)
    )
    ) else (
    K1 ()
    ) := rfl
def f104 (x1 : List UInt8) (x2 : Int) : Option Bool :=
  jn (fun (_ : Unit) =>
  some ((decide (((x1.length : Nat) : Int) ≥ (1 : Int))) && (decide (((x1.length : Nat) : Int) ≤ x2)))
  ) fun (K1 : Unit → Option Bool) =>
  f104_L0 x1 K1 FUEL 0
set_option maxRecDepth 100000 in
theorem f104_ok  (x1 : List UInt8) (x2 : Int) (r : Bool) (h : f104 x1 x2 = some r)  : Spec1 Tryz.prog 104 [] [] [] [.str x1, .int .i64 x2] (.bool r) [] := by
  unfold f104 at h
  refine Spec1.body 0 _ _ Tryz.func104 rfl Tryz.ntmps104 rfl rfl ?_
  refine q1rq [] [] ⟨31, [(0, .str x1), (1, .i x2)], [], [], 0⟩ trivial ?_
  obtain ⟨K1, hK1, h⟩ := jn_some h
  refine AWp.join (α := Unit) (fun (x : Unit) => match x with | () => ⟨31, [(0, .str x1), (1, .i x2)], [], [], 0⟩) (fun x => K1 x = some r) ?_ ?_
  ·
    refine q1rq [] [] ⟨31, [(0, .str x1), (1, .i x2), (5, .i (0 : Int))], [], [], 0⟩ trivial ?_
    refine AWp.block ?_
    refine AWp.loopL (α := Nat × Nat) (fun x => match x with | (_, n3) => ⟨31, [(0, .str x1), (1, .i x2), (5, .i (n3 : Int))], [], [], 0⟩) (fun x => f104_L0 x1 K1 x.1 x.2 = some r) (fun x => x.1) (FUEL, 0) (Le.mk (s' := ⟨31, [(0, .str x1), (1, .i x2), (5, .i (0 : Int))], [], [], 0⟩) rfl rfl ⟨.refl _, .refl _, .refl _, trivial⟩ trivial) h ?_
    rintro ⟨k0, n3⟩ h
    cases k0 with
    | zero => exact nomatch (show (none : Option Bool) = some r from h)
    | succ k0 =>
    obtain ⟨C0, hC0⟩ : ∃ C, C = f104_L0 x1 K1 k0 := ⟨_, rfl⟩
    replace h := (f104_L0_e2 ..).symm.trans h
    try rw [← hC0] at h
    refine AWp.seq ?_
    refine q1rq [] [] ⟨31, [(0, .str x1), (1, .i x2), (5, .i (n3 : Int)), (9, .bool (decide ((n3 : Int) < (lZ x1))))], [], [], 0⟩ trivial ?_
    refine AWp.cond (b := (decide ((n3 : Int) < (lZ x1)))) (by kernel_rfl) (fun hc1 => ?_) (fun hc1 => ?_)
    ·
      replace h := ite_tb hc1 h
      refine AWp.skip ?_
      refine thenQ_normal ?_
      refine AWp.seq ?_
      refine AWp.block ?_
      refine AWp.seq ?_
      obtain ⟨ob0p, h⟩ := chk_some h
      have ob0 : 0 ≤ (n3 : Int) ∧ (n3 : Int) < ((x1.length : Nat) : Int) := ⟨by omega, ob0p⟩
      obtain ⟨ob1, h⟩ := chk_some h
      have ob2 := idA (((decide ((((x1.getD n3 0).toNat : Nat) : Int) < (33 : Int))) == false) = true)
      have ob3 := idA (((decide ((((x1.getD n3 0).toNat : Nat) : Int) < (33 : Int))) == false) = true)
      have ob4 := idA (((decide ((((x1.getD n3 0).toNat : Nat) : Int) < (33 : Int))) == false) = true)
      have ob5 := bqA (decide ((((x1.getD n3 0).toNat : Nat) : Int) < (33 : Int))) false
      refine q1rr [] [] ⟨31, [(0, .str x1), (1, .i x2), (5, .i (n3 : Int)), (21, .bool ((decide ((((x1.getD n3 0).toNat : Nat) : Int) < (33 : Int))) || (decide ((((x1.getD n3 0).toNat : Nat) : Int) > (126 : Int)))))], [], [], 0⟩ (an4 ob0 (And.intro ob1 (an2 ob2 ob3)) (an1 ob4) ob5) ?_
      refine thenQ_normal ?_
      refine AWp.cond (b := ((decide ((((x1.getD n3 0).toNat : Nat) : Int) < (33 : Int))) || (decide ((((x1.getD n3 0).toNat : Nat) : Int) > (126 : Int))))) (by kernel_rfl) (fun hc2 => ?_) (fun hc2 => ?_)
      ·
        replace h := ite_tb hc2 h
        refine q1rq [] [] ⟨31, [(4, .bool false)], [], [], 0⟩ trivial ?_
        have hret := Option.some.inj h
        subst hret
        refine AWp.le (Le.mk (s' := ⟨31, [(4, .bool false)], [], [], 0⟩) rfl rfl ⟨.refl _, trivial⟩ trivial) ?_
        refine AWp.ret ?_
        refine blockQ_ret ?_
        refine thenQ_ret ?_
        refine thenQ_ret ?_
        refine blockQ_ret ?_
        refine joinQ_ret ?_
        exact bodyQ_ret _ rfl ⟨rfl, rfl⟩ rfl
      ·
        replace h := ite_fb hc2 h
        refine AWp.skip ?_
        refine blockQ_normal ?_
        refine thenQ_normal ?_
        obtain ⟨ob6p, h⟩ := chk_some h
        have ob6 : -9223372036854775808 ≤ ((n3 : Int) + (1 : Int)) ∧ ((n3 : Int) + (1 : Int)) ≤ 9223372036854775807 := ⟨by omega, ob6p⟩
        refine q1rr [] [] ⟨31, [(0, .str x1), (1, .i x2), (5, .i (((n3 + 1) : Nat) : Int))], [], [], 0⟩ (an1 ob6) ?_
        rw [hC0] at h
        exact loopQ_normal (_, (n3 + 1)) (Le.mk rfl rfl ⟨.refl _, .refl _, .refl _, trivial⟩ trivial) h (Nat.lt_succ_self _)
    ·
      replace h := ite_fb hc1 h
      refine AWp.exit ?_
      refine thenQ_exit ?_
      refine thenQ_exit ?_
      refine blockQ_same ?_
      exact joinQ_normal () (Le.mk rfl rfl ⟨.refl _, .refl _, trivial⟩ trivial) h
  ·
    rintro ⟨⟩ h
    replace h := (congrFun hK1 _).symm.trans h
    refine AWp.seq ?_
    have ob7 := idA (((decide ((lZ x1) ≥ (1 : Int))) == true) = true)
    have ob8 := idA (((decide ((lZ x1) ≥ (1 : Int))) == true) = true)
    have ob9 := idA (((decide ((lZ x1) ≥ (1 : Int))) == true) = true)
    have ob10 := bqA (decide ((lZ x1) ≥ (1 : Int))) true
    refine q1rr [] [] ⟨31, [(4, .bool ((decide ((lZ x1) ≥ (1 : Int))) && (decide ((lZ x1) ≤ x2))))], [], [], 0⟩ (an3 (an1 ob7) (an2 ob8 ob9) ob10) ?_
    refine thenQ_normal ?_
    have hret := Option.some.inj h
    subst hret
    refine AWp.le (Le.mk (s' := ⟨31, [(4, .bool ((decide ((lZ x1) ≥ (1 : Int))) && (decide ((lZ x1) ≤ x2))))], [], [], 0⟩) rfl rfl ⟨.refl _, trivial⟩ trivial) ?_
    refine AWp.ret ?_
    exact bodyQ_ret _ rfl ⟨rfl, rfl⟩ rfl
def f68 (x1 : List UInt8) : Option Bool :=
  (f104 x1 (64 : Int)).bind fun (r2 : Bool) =>
  some r2
set_option maxRecDepth 100000 in
theorem f68_ok  (x1 : List UInt8) (r : Bool) (h : f68 x1 = some r)  : Spec1 Tryz.prog 68 [] [] [] [.str x1] (.bool r) [] := by
  unfold f68 at h
  refine Spec1.body 0 _ _ Tryz.func68 rfl Tryz.ntmps68 rfl rfl ?_
  refine q1rq [] [] ⟨5, [(0, .str x1)], [], [], 0⟩ trivial ?_
  refine AWp.seq ?_
  obtain ⟨r2, hr2, h⟩ := bind_ok h
  refine q1rr [] [(1, ⟨[.str x1, .i (64 : Int)], [], [], [], .bool r2, [], [], []⟩)] ⟨5, [(2, .bool r2)], [], [], 0⟩ (an1 (cpT (f104_ok _ _ _ hr2))) ?_
  refine thenQ_normal ?_
  have hret := Option.some.inj h
  subst hret
  refine AWp.le (Le.mk (s' := ⟨5, [(2, .bool r2)], [], [], 0⟩) rfl rfl ⟨.refl _, trivial⟩ trivial) ?_
  refine AWp.ret ?_
  exact bodyQ_ret _ rfl ⟨rfl, rfl⟩ rfl
abbrev f53z0 (x1 : Int) := (((x1 == (1 : Int)) || (x1 == (4 : Int))) || (x1 == (5 : Int)))
abbrev f53z1 (x1 : Int) (r6 : Bool) := (!((x1 != (6 : Int)) == r6))
abbrev f53z2 (x1 : Int) (x2 : List UInt8) (x3 : List UInt8) (x4 : List UInt8) : Heap := [(1, .cells 52 [.int .i64 x1, .str x2, .str x3, .str x4])]
abbrev f53z3 (x1 : Int) (r7 : Bool) := (!((x1 == (5 : Int)) == r7))
abbrev f53z4 (x1 : Int) := (!(x1 != (6 : Int)))
abbrev f53z5 (x1 : Int) := (!(x1 == (5 : Int)))
abbrev f53z6 (x1 : Int) := (((x1 == (1 : Int)) || (x1 == (4 : Int))) == false)
def f53 (x1 : Int) (x2 : List UInt8) (x3 : List UInt8) (x4 : List UInt8) : Option (List UInt8 × Int) :=
  (f52 x1).bind fun (r5 : List UInt8) =>
  optc ((r5 == []) == false) (f68 x2) fun (r6 : Bool) =>
  optc ((((r5 == []) || (!((x1 != (6 : Int)) == r6))) || ((!(x1 != (6 : Int))) && (!(x2 == [])))) == false) (f68 x3) fun (r7 : Bool) =>
  optc ((((((r5 == []) || (!((x1 != (6 : Int)) == r6))) || ((!(x1 != (6 : Int))) && (!(x2 == [])))) || (!((x1 == (5 : Int)) == r7))) || ((!(x1 == (5 : Int))) && (!(x3 == [])))) == false) (f68 x4) fun (r8 : Bool) =>
  chk ((((r5 == []) || (!((x1 != (6 : Int)) == r6))) == false) = true → (((r5 == []) || (!((x1 != (6 : Int)) == r6))) == false) = true → (!(x1 != (6 : Int))) = true → ((((r5 == []) || (!((x1 != (6 : Int)) == r6))) == false) && ((!(x1 != (6 : Int))) == true)) = true) <|
  chk ((((((r5 == []) || (!((x1 != (6 : Int)) == r6))) || ((!(x1 != (6 : Int))) && (!(x2 == [])))) || (!((x1 == (5 : Int)) == r7))) == false) = true → (((((r5 == []) || (!((x1 != (6 : Int)) == r6))) || ((!(x1 != (6 : Int))) && (!(x2 == [])))) || (!((x1 == (5 : Int)) == r7))) == false) = true → (!(x1 == (5 : Int))) = true → ((((((r5 == []) || (!((x1 != (6 : Int)) == r6))) || ((!(x1 != (6 : Int))) && (!(x2 == [])))) || (!((x1 == (5 : Int)) == r7))) == false) && ((!(x1 == (5 : Int))) == true)) = true) <|
  chk ((((((((r5 == []) || (!((x1 != (6 : Int)) == r6))) || ((!(x1 != (6 : Int))) && (!(x2 == [])))) || (!((x1 == (5 : Int)) == r7))) || ((!(x1 == (5 : Int))) && (!(x3 == [])))) || (!((((x1 == (1 : Int)) || (x1 == (4 : Int))) || (x1 == (5 : Int))) == r8))) == false) = true → (((((((r5 == []) || (!((x1 != (6 : Int)) == r6))) || ((!(x1 != (6 : Int))) && (!(x2 == [])))) || (!((x1 == (5 : Int)) == r7))) || ((!(x1 == (5 : Int))) && (!(x3 == [])))) || (!((((x1 == (1 : Int)) || (x1 == (4 : Int))) || (x1 == (5 : Int))) == r8))) == false) = true → (!(((x1 == (1 : Int)) || (x1 == (4 : Int))) || (x1 == (5 : Int)))) = true → ((((((((r5 == []) || (!((x1 != (6 : Int)) == r6))) || ((!(x1 != (6 : Int))) && (!(x2 == [])))) || (!((x1 == (5 : Int)) == r7))) || ((!(x1 == (5 : Int))) && (!(x3 == [])))) || (!((((x1 == (1 : Int)) || (x1 == (4 : Int))) || (x1 == (5 : Int))) == r8))) == false) && ((!(((x1 == (1 : Int)) || (x1 == (4 : Int))) || (x1 == (5 : Int)))) == true)) = true) <|
  if (((((((r5 == []) || (!((x1 != (6 : Int)) == r6))) || ((!(x1 != (6 : Int))) && (!(x2 == [])))) || (!((x1 == (5 : Int)) == r7))) || ((!(x1 == (5 : Int))) && (!(x3 == [])))) || (!((((x1 == (1 : Int)) || (x1 == (4 : Int))) || (x1 == (5 : Int))) == r8))) || ((!(((x1 == (1 : Int)) || (x1 == (4 : Int))) || (x1 == (5 : Int)))) && (!(x4 == [])))) then (
  some ([], (1 : Int))
  ) else (
  (f52 x1).bind fun (r9 : List UInt8) =>
  jn (fun (s10 : List UInt8) =>
  jn (fun (s11 : List UInt8) =>
  jn (fun (s12 : List UInt8) =>
  some (s12, (0 : Int))
  ) fun (K3 : (List UInt8) → Option (List UInt8 × Int)) =>
  if (((x1 == (1 : Int)) || (x1 == (4 : Int))) || (x1 == (5 : Int))) then (
  chk (s11.length + ([32] : List UInt8).length ≤ 9223372036854775807) <|
  chk ((s11 ++ ([32] : List UInt8)).length + x4.length ≤ 9223372036854775807) <|
  K3 ((s11 ++ ([32] : List UInt8)) ++ x4)
  ) else (
  K3 s11
  )
  ) fun (K2 : (List UInt8) → Option (List UInt8 × Int)) =>
  if (x1 == (5 : Int)) then (
  chk (s10.length + ([32] : List UInt8).length ≤ 9223372036854775807) <|
  chk ((s10 ++ ([32] : List UInt8)).length + x3.length ≤ 9223372036854775807) <|
  K2 ((s10 ++ ([32] : List UInt8)) ++ x3)
  ) else (
  K2 s10
  )
  ) fun (K1 : (List UInt8) → Option (List UInt8 × Int)) =>
  if (x1 != (6 : Int)) then (
  chk (r9.length + ([32] : List UInt8).length ≤ 9223372036854775807) <|
  chk ((r9 ++ ([32] : List UInt8)).length + x2.length ≤ 9223372036854775807) <|
  K1 ((r9 ++ ([32] : List UInt8)) ++ x2)
  ) else (
  K1 r9
  )
  )
set_option maxRecDepth 100000 in
theorem f53_ok  (x1 : Int) (x2 : List UInt8) (x3 : List UInt8) (x4 : List UInt8) (r : List UInt8 × Int) (h : f53 x1 x2 x3 x4 = some r)  : Spec1 Tryz.prog 53 [] [] [] [.agg [.int .i64 x1, .str x2, .str x3, .str x4]] (.tup [.str r.1, .int .i64 r.2]) [] := by
  unfold f53 at h
  refine Spec1.body 0 _ _ Tryz.func53 rfl Tryz.ntmps53 rfl rfl ?_
  refine q1rq [] [] ⟨101, [(1, .ptr 1 0)], (f53z2 x1 x2 x3 x4), [], 0⟩ trivial ?_
  refine q1rq [] [] ⟨101, [(1, .ptr 1 0), (4, .bool (x1 != (6 : Int)))], (f53z2 x1 x2 x3 x4), [], 0⟩ trivial ?_
  refine q1rq [] [] ⟨101, [(1, .ptr 1 0), (4, .bool (x1 != (6 : Int))), (5, .bool (x1 == (5 : Int)))], (f53z2 x1 x2 x3 x4), [], 0⟩ trivial ?_
  refine AWp.seq ?_
  have ob0 := idA (((x1 == (1 : Int)) == false) = true)
  have ob1 := idA (((x1 == (1 : Int)) == false) = true)
  have ob2 := bqA (x1 == (1 : Int)) false
  have ob3 := idA ((f53z6 x1) = true)
  have ob4 := idA ((f53z6 x1) = true)
  have ob5 : true = true → ((x1 == (1 : Int)) || (x1 == (4 : Int))) = false → (f53z6 x1) = true := fun _ h => beq_iff_eq.2 h
  refine q1rr [] [] ⟨101, [(1, .ptr 1 0), (4, .bool (x1 != (6 : Int))), (5, .bool (x1 == (5 : Int))), (6, .bool (f53z0 x1))], (f53z2 x1 x2 x3 x4), [], 0⟩ (an6 (an1 ob0) (an1 ob1) ob2 (an1 ob3) (an1 ob4) ob5) ?_
  refine thenQ_normal ?_
  refine AWp.seq ?_
  refine AWp.seq ?_
  obtain ⟨r5, hr5, h⟩ := bind_ok h
  obtain ⟨r6, hr6, h⟩ := optc_some h
  obtain ⟨r7, hr7, h⟩ := optc_some h
  obtain ⟨r8, hr8, h⟩ := optc_some h
  have ob6 := idA (((r5 == []) == false) = true)
  have ob7 := idA (((r5 == []) == false) = true)
  have ob8 := idA (((r5 == []) == false) = true)
  have ob9 := idA (((r5 == []) == false) = true)
  have ob10 := bqA (r5 == []) false
  have ob11 := idA ((((r5 == []) || (f53z1 x1 r6)) == false) = true)
  have ob12 := idA ((((r5 == []) || (f53z1 x1 r6)) == false) = true)
  have ob13 := idA (((((r5 == []) || (f53z1 x1 r6)) == false) && ((f53z4 x1) == true)) = true)
  have ob14 := idA (((((r5 == []) || (f53z1 x1 r6)) == false) && ((f53z4 x1) == true)) = true)
  obtain ⟨ob15, h⟩ := chk_some h
  have ob16 := idA ((((r5 == []) || (f53z1 x1 r6)) == false) = true)
  have ob17 := bqA ((r5 == []) || (f53z1 x1 r6)) false
  have ob18 := idA (((((r5 == []) || (f53z1 x1 r6)) || ((f53z4 x1) && (!(x2 == [])))) == false) = true)
  have ob19 := idA (((((r5 == []) || (f53z1 x1 r6)) || ((f53z4 x1) && (!(x2 == [])))) == false) = true)
  have ob20 := idA (((((r5 == []) || (f53z1 x1 r6)) || ((f53z4 x1) && (!(x2 == [])))) == false) = true)
  have ob21 := idA (((((r5 == []) || (f53z1 x1 r6)) || ((f53z4 x1) && (!(x2 == [])))) == false) = true)
  have ob22 := bqA (((r5 == []) || (f53z1 x1 r6)) || ((f53z4 x1) && (!(x2 == [])))) false
  have ob23 := idA ((((((r5 == []) || (f53z1 x1 r6)) || ((f53z4 x1) && (!(x2 == [])))) || (f53z3 x1 r7)) == false) = true)
  have ob24 := idA ((((((r5 == []) || (f53z1 x1 r6)) || ((f53z4 x1) && (!(x2 == [])))) || (f53z3 x1 r7)) == false) = true)
  have ob25 := idA (((((((r5 == []) || (f53z1 x1 r6)) || ((f53z4 x1) && (!(x2 == [])))) || (f53z3 x1 r7)) == false) && ((f53z5 x1) == true)) = true)
  have ob26 := idA (((((((r5 == []) || (f53z1 x1 r6)) || ((f53z4 x1) && (!(x2 == [])))) || (f53z3 x1 r7)) == false) && ((f53z5 x1) == true)) = true)
  obtain ⟨ob27, h⟩ := chk_some h
  have ob28 := idA ((((((r5 == []) || (f53z1 x1 r6)) || ((f53z4 x1) && (!(x2 == [])))) || (f53z3 x1 r7)) == false) = true)
  have ob29 := bqA ((((r5 == []) || (f53z1 x1 r6)) || ((f53z4 x1) && (!(x2 == [])))) || (f53z3 x1 r7)) false
  have ob30 := idA (((((((r5 == []) || (f53z1 x1 r6)) || ((f53z4 x1) && (!(x2 == [])))) || (f53z3 x1 r7)) || ((f53z5 x1) && (!(x3 == [])))) == false) = true)
  have ob31 := idA (((((((r5 == []) || (f53z1 x1 r6)) || ((f53z4 x1) && (!(x2 == [])))) || (f53z3 x1 r7)) || ((f53z5 x1) && (!(x3 == [])))) == false) = true)
  have ob32 := idA (((((((r5 == []) || (f53z1 x1 r6)) || ((f53z4 x1) && (!(x2 == [])))) || (f53z3 x1 r7)) || ((f53z5 x1) && (!(x3 == [])))) == false) = true)
  have ob33 := idA (((((((r5 == []) || (f53z1 x1 r6)) || ((f53z4 x1) && (!(x2 == [])))) || (f53z3 x1 r7)) || ((f53z5 x1) && (!(x3 == [])))) == false) = true)
  have ob34 := bqA (((((r5 == []) || (f53z1 x1 r6)) || ((f53z4 x1) && (!(x2 == [])))) || (f53z3 x1 r7)) || ((f53z5 x1) && (!(x3 == [])))) false
  have ob35 := idA ((((((((r5 == []) || (f53z1 x1 r6)) || ((f53z4 x1) && (!(x2 == [])))) || (f53z3 x1 r7)) || ((f53z5 x1) && (!(x3 == [])))) || (!((f53z0 x1) == r8))) == false) = true)
  have ob36 := idA ((((((((r5 == []) || (f53z1 x1 r6)) || ((f53z4 x1) && (!(x2 == [])))) || (f53z3 x1 r7)) || ((f53z5 x1) && (!(x3 == [])))) || (!((f53z0 x1) == r8))) == false) = true)
  have ob37 := idA (((((((((r5 == []) || (f53z1 x1 r6)) || ((f53z4 x1) && (!(x2 == [])))) || (f53z3 x1 r7)) || ((f53z5 x1) && (!(x3 == [])))) || (!((f53z0 x1) == r8))) == false) && ((!(f53z0 x1)) == true)) = true)
  have ob38 := idA (((((((((r5 == []) || (f53z1 x1 r6)) || ((f53z4 x1) && (!(x2 == [])))) || (f53z3 x1 r7)) || ((f53z5 x1) && (!(x3 == [])))) || (!((f53z0 x1) == r8))) == false) && ((!(f53z0 x1)) == true)) = true)
  obtain ⟨ob39, h⟩ := chk_some h
  have ob40 := idA ((((((((r5 == []) || (f53z1 x1 r6)) || ((f53z4 x1) && (!(x2 == [])))) || (f53z3 x1 r7)) || ((f53z5 x1) && (!(x3 == [])))) || (!((f53z0 x1) == r8))) == false) = true)
  have ob41 := bqA ((((((r5 == []) || (f53z1 x1 r6)) || ((f53z4 x1) && (!(x2 == [])))) || (f53z3 x1 r7)) || ((f53z5 x1) && (!(x3 == [])))) || (!((f53z0 x1) == r8))) false
  refine q1rr [] [(2, ⟨[.i x1], [], [], [], .str r5, [], [], []⟩), (8, ⟨[.str x2], [], [], [], .bool r6, [], [], []⟩), (24, ⟨[.str x3], [], [], [], .bool r7, [], [], []⟩), (40, ⟨[.str x4], [], [], [], .bool r8, [], [], []⟩)] ⟨101, [(1, .ptr 1 0), (4, .bool (x1 != (6 : Int))), (5, .bool (x1 == (5 : Int))), (6, .bool (f53z0 x1)), (78, .bool (((((((r5 == []) || (f53z1 x1 r6)) || ((f53z4 x1) && (!(x2 == [])))) || (f53z3 x1 r7)) || ((f53z5 x1) && (!(x3 == [])))) || (!((f53z0 x1) == r8))) || ((!(f53z0 x1)) && (!(x4 == [])))))], (f53z2 x1 x2 x3 x4), [], 0⟩ (ac6 (cpT (f52_ok _ _ hr5)) (an1 ob6) (And.intro (cpC fun hc => (f68_ok _ _ (hr6 hc))) (an1 ob7)) (an2 ob8 ob9) ob10 (an1 ob11) (ac6 (an1 ob12) (an1 ob13) (an1 ob14) (And.intro ob15 (an1 ob16)) ob17 (an1 ob18) (ac6 (And.intro (cpC fun hc => (f68_ok _ _ (hr7 hc))) (an1 ob19)) (an2 ob20 ob21) ob22 (an1 ob23) (an1 ob24) (an1 ob25) (ac6 (an1 ob26) (And.intro ob27 (an1 ob28)) ob29 (an1 ob30) (And.intro (cpC fun hc => (f68_ok _ _ (hr8 hc))) (an1 ob31)) (an2 ob32 ob33) (ac6 ob34 (an1 ob35) (an1 ob36) (an1 ob37) (an1 ob38) (And.intro ob39 (an1 ob40)) (an1 ob41)))))) ?_
  refine thenQ_normal ?_
  refine AWp.cond (b := (((((((r5 == []) || (f53z1 x1 r6)) || ((f53z4 x1) && (!(x2 == [])))) || (f53z3 x1 r7)) || ((f53z5 x1) && (!(x3 == [])))) || (!((f53z0 x1) == r8))) || ((!(f53z0 x1)) && (!(x4 == []))))) (by kernel_rfl) (fun hc1 => ?_) (fun hc1 => ?_)
  ·
    replace h := ite_tb hc1 h
    refine q1rq [] [] ⟨101, [(2, .str []), (3, .i (1 : Int))], [], [], 0⟩ trivial ?_
    have hret := Option.some.inj h
    subst hret
    refine AWp.le (Le.mk (s' := ⟨101, [(2, .str []), (3, .i (1 : Int))], [], [], 0⟩) rfl rfl ⟨.refl _, .refl _, trivial⟩ trivial) ?_
    refine AWp.ret ?_
    refine thenQ_ret ?_
    exact bodyQ_ret _ rfl ⟨rfl, rfl⟩ rfl
  ·
    replace h := ite_fb hc1 h
    refine AWp.skip ?_
    refine thenQ_normal ?_
    refine AWp.seq ?_
    obtain ⟨r9, hr9, h⟩ := bind_ok h
    refine q1rr [] [(2, ⟨[.i x1], [], [], [], .str r9, [], [], []⟩)] ⟨101, [(1, .ptr 1 0), (4, .bool (x1 != (6 : Int))), (5, .bool (x1 == (5 : Int))), (6, .bool (f53z0 x1)), (7, .str r9)], (f53z2 x1 x2 x3 x4), [], 0⟩ (an1 (cpT (f52_ok _ _ hr9))) ?_
    refine thenQ_normal ?_
    obtain ⟨K1, hK1, h⟩ := jn_some h
    refine AWp.join (α := List UInt8) (fun (s10 : List UInt8) => ⟨101, [(1, .ptr 1 0), (5, .bool (x1 == (5 : Int))), (6, .bool (f53z0 x1)), (7, .str s10)], (f53z2 x1 x2 x3 x4), [], 0⟩) (fun x => K1 x = some r) ?_ ?_
    ·
      refine q1rq [] [] ⟨101, [(1, .ptr 1 0), (5, .bool (x1 == (5 : Int))), (6, .bool (f53z0 x1)), (7, .str r9), (82, .bool (x1 != (6 : Int)))], (f53z2 x1 x2 x3 x4), [], 0⟩ trivial ?_
      refine AWp.cond (b := (x1 != (6 : Int))) (by kernel_rfl) (fun hc2 => ?_) (fun hc2 => ?_)
      ·
        replace h := ite_tb hc2 h
        obtain ⟨ob42, ob43, h⟩ := ck2 h
        refine q1rr [] [] ⟨101, [(1, .ptr 1 0), (5, .bool (x1 == (5 : Int))), (6, .bool (f53z0 x1)), (7, .str ((r9 ++ ([32] : List UInt8)) ++ x2))], (f53z2 x1 x2 x3 x4), [], 0⟩ (an2 ob42 ob43) ?_
        exact joinQ_normal (((r9 ++ ([32] : List UInt8)) ++ x2)) (Le.mk rfl rfl ⟨.refl _, .refl _, .refl _, .refl _, trivial⟩ ⟨⟨_, rfl, .refl _⟩, trivial⟩) h
      ·
        replace h := ite_fb hc2 h
        refine AWp.skip ?_
        exact joinQ_normal (r9) (Le.mk rfl rfl ⟨.refl _, .refl _, .refl _, .refl _, trivial⟩ ⟨⟨_, rfl, .refl _⟩, trivial⟩) h
    ·
      rintro s10 h
      replace h := (congrFun hK1 _).symm.trans h
      obtain ⟨K2, hK2, h⟩ := jn_some h
      refine AWp.join (α := List UInt8) (fun (s11 : List UInt8) => ⟨101, [(1, .ptr 1 0), (6, .bool (f53z0 x1)), (7, .str s11)], (f53z2 x1 x2 x3 x4), [], 0⟩) (fun x => K2 x = some r) ?_ ?_
      ·
        refine q1rq [] [] ⟨101, [(1, .ptr 1 0), (6, .bool (f53z0 x1)), (7, .str s10), (88, .bool (x1 == (5 : Int)))], (f53z2 x1 x2 x3 x4), [], 0⟩ trivial ?_
        refine AWp.cond (b := (x1 == (5 : Int))) (by kernel_rfl) (fun hc3 => ?_) (fun hc3 => ?_)
        ·
          replace h := ite_tb hc3 h
          obtain ⟨ob44, ob45, h⟩ := ck2 h
          refine q1rr [] [] ⟨101, [(1, .ptr 1 0), (6, .bool (f53z0 x1)), (7, .str ((s10 ++ ([32] : List UInt8)) ++ x3))], (f53z2 x1 x2 x3 x4), [], 0⟩ (an2 ob44 ob45) ?_
          exact joinQ_normal (((s10 ++ ([32] : List UInt8)) ++ x3)) (Le.mk rfl rfl ⟨.refl _, .refl _, .refl _, trivial⟩ ⟨⟨_, rfl, .refl _⟩, trivial⟩) h
        ·
          replace h := ite_fb hc3 h
          refine AWp.skip ?_
          exact joinQ_normal (s10) (Le.mk rfl rfl ⟨.refl _, .refl _, .refl _, trivial⟩ ⟨⟨_, rfl, .refl _⟩, trivial⟩) h
      ·
        rintro s11 h
        replace h := (congrFun hK2 _).symm.trans h
        obtain ⟨K3, hK3, h⟩ := jn_some h
        refine AWp.join (α := List UInt8) (fun (s12 : List UInt8) => ⟨101, [(7, .str s12)], [], [], 0⟩) (fun x => K3 x = some r) ?_ ?_
        ·
          refine q1rq [] [] ⟨101, [(1, .ptr 1 0), (7, .str s11), (94, .bool (f53z0 x1))], (f53z2 x1 x2 x3 x4), [], 0⟩ trivial ?_
          refine AWp.cond (b := (f53z0 x1)) (by kernel_rfl) (fun hc4 => ?_) (fun hc4 => ?_)
          ·
            replace h := ite_tb hc4 h
            obtain ⟨ob46, ob47, h⟩ := ck2 h
            refine q1rr [] [] ⟨101, [(7, .str ((s11 ++ ([32] : List UInt8)) ++ x4))], [], [], 0⟩ (an2 ob46 ob47) ?_
            exact joinQ_normal (((s11 ++ ([32] : List UInt8)) ++ x4)) (Le.mk rfl rfl ⟨.refl _, trivial⟩ trivial) h
          ·
            replace h := ite_fb hc4 h
            refine AWp.skip ?_
            exact joinQ_normal (s11) (Le.mk rfl rfl ⟨.refl _, trivial⟩ trivial) h
        ·
          rintro s12 h
          replace h := (congrFun hK3 _).symm.trans h
          refine q1rq [] [] ⟨101, [(2, .str s12), (3, .i (0 : Int))], [], [], 0⟩ trivial ?_
          have hret := Option.some.inj h
          subst hret
          refine AWp.le (Le.mk (s' := ⟨101, [(2, .str s12), (3, .i (0 : Int))], [], [], 0⟩) rfl rfl ⟨.refl _, .refl _, trivial⟩ trivial) ?_
          refine AWp.ret ?_
          exact bodyQ_ret _ rfl ⟨rfl, rfl⟩ rfl
def f35_L0 (x1 : List UInt8) (r2 : List (List UInt8)) (K1 : Unit → Option (Int × List UInt8 × List UInt8 × List UInt8 × Int)) : Nat → Nat → Option (Int × List UInt8 × List UInt8 × List UInt8 × Int)
  | 0, _ => none
  | k + 1, n3 =>
    if (decide ((n3 : Int) ≤ (6 : Int))) then (
    jn (fun (_ : Unit) =>
    chk (((n3 : Int) + (1 : Int)) ≤ 9223372036854775807) <|
    (f35_L0 x1 r2 K1 k) (n3 + 1)
    ) fun (K2 : Unit → Option (Int × List UInt8 × List UInt8 × List UInt8 × Int)) =>
    (f52 (n3 : Int)).bind fun (r4 : List UInt8) =>
    chk ((0 : Int) < (((r2).length : Nat) : Int)) <|
    chk (0 < (r2).length) <|
    if (!((r2.getD 0 []) == r4)) then (
    K2 ()
    ) else (
    jn (fun (s5 : List UInt8) =>
    jn (fun (s6 : List UInt8) =>
    jn (fun (s7 : List UInt8) =>
    jn (fun (s8 : List UInt8) =>
    (f53 (n3 : Int) s5 s6 s8).bind fun (r9 : List UInt8 × Int) =>
    if ((r9.2 == (0 : Int)) && (r9.1 == x1)) then (
    some ((n3 : Int), s5, s6, s8, (0 : Int))
    ) else (
    K2 ()
    )
    ) fun (K6 : (List UInt8) → Option (Int × List UInt8 × List UInt8 × List UInt8 × Int)) =>
    if (((n3 : Int) == (5 : Int)) && (decide ((((r2).length : Nat) : Int) > (3 : Int)))) then (
    chk ((3 : Int) < (((r2).length : Nat) : Int)) <|
    chk (3 < (r2).length) <|
    K6 (r2.getD 3 [])
    ) else (
    K6 s7
    )
    ) fun (K5 : (List UInt8) → Option (Int × List UInt8 × List UInt8 × List UInt8 × Int)) =>
    if (((n3 : Int) != (5 : Int)) && (decide ((((r2).length : Nat) : Int) > (2 : Int)))) then (
    chk ((2 : Int) < (((r2).length : Nat) : Int)) <|
    chk (2 < (r2).length) <|
    K5 (r2.getD 2 [])
    ) else (
    K5 []
    )
    ) fun (K4 : (List UInt8) → Option (Int × List UInt8 × List UInt8 × List UInt8 × Int)) =>
    if (((n3 : Int) == (5 : Int)) && (decide ((((r2).length : Nat) : Int) > (2 : Int)))) then (
    chk ((2 : Int) < (((r2).length : Nat) : Int)) <|
    chk (2 < (r2).length) <|
    K4 (r2.getD 2 [])
    ) else (
    K4 []
    )
    ) fun (K3 : (List UInt8) → Option (Int × List UInt8 × List UInt8 × List UInt8 × Int)) =>
    if (decide ((((r2).length : Nat) : Int) > (1 : Int))) then (
    chk ((1 : Int) < (((r2).length : Nat) : Int)) <|
    chk (1 < (r2).length) <|
    K3 (r2.getD 1 [])
    ) else (
    K3 []
    )
    )
    ) else (
    K1 ()
    )
abbrev f35z0 : List V := [.int .i64 (0 : Int), .str [], .str [], .str []]
abbrev f35z1 (x1 : List UInt8) (n3 : Nat) : List (Nat × V) := [(0, .str x1), (2, .ptr 2 0), (4, .own 6001), (5, .int .i64 (n3 : Int)), (6, .ptr 6 0)]
abbrev f35z2 (r2 : List (List UInt8)) : Heap := [(2, .cells 52 (f35z0)), (6001, bL 9 1 eS [] r2)]
abbrev f35z3 (n3 : Nat) := ((n3 : Int) == (5 : Int))
abbrev f35z4 (n3 : Nat) (r2 : List (List UInt8)) : Heap := [(2, .cells 52 (f35z0)), (6, .cells 52 [.int .i64 (n3 : Int), .str [], .str [], .str []]), (6001, bL 9 1 eS [] r2)]
abbrev f35z5 (x1 : List UInt8) (n3 : Nat) : List (Nat × V) := [(0, .str x1), (2, .ptr 2 0), (4, .own 6001), (5, .int .i64 (n3 : Int))]
abbrev f35z6 (n3 : Nat) (s5 : List UInt8) (r2 : List (List UInt8)) : Heap := [(2, .cells 52 (f35z0)), (6, .cells 52 [.int .i64 (n3 : Int), .str s5, .str [], .str []]), (6001, bL 9 1 eS [] r2)]
abbrev f35z7 (n3 : Nat) := ((n3 : Int) != (5 : Int))
abbrev f35z8 (n3 : Nat) (s5 : List UInt8) (s6 : List UInt8) (r2 : List (List UInt8)) : Heap := [(2, .cells 52 (f35z0)), (6, .cells 52 [.int .i64 (n3 : Int), .str s5, .str s6, .str []]), (6001, bL 9 1 eS [] r2)]
abbrev f35z9 (n3 : Nat) (s5 : List UInt8) (s6 : List UInt8) (s8 : List UInt8) : List V := [.int .i64 (n3 : Int), .str s5, .str s6, .str s8]
abbrev f35z10 (n3 : Nat) (s5 : List UInt8) (s6 : List UInt8) (s7 : List UInt8) (r2 : List (List UInt8)) : Heap := [(2, .cells 52 (f35z0)), (6, .cells 52 [.int .i64 (n3 : Int), .str s5, .str s6, .str s7]), (6001, bL 9 1 eS [] r2)]
def f35 (x1 : List UInt8) : Option (Int × List UInt8 × List UInt8 × List UInt8 × Int) :=
  (f51 x1).bind fun (r2 : List (List UInt8)) =>
  jn (fun (_ : Unit) =>
  some ((0 : Int), [], [], [], (2 : Int))
  ) fun (K1 : Unit → Option (Int × List UInt8 × List UInt8 × List UInt8 × Int)) =>
  f35_L0 x1 r2 K1 FUEL 1
set_option maxRecDepth 100000 in
theorem f35_ok  (x1 : List UInt8) (r : Int × List UInt8 × List UInt8 × List UInt8 × Int) (h : f35 x1 = some r)  : Spec1 Tryz.prog 35 [] [] [] [.str x1] (.tup [.agg [.int .i64 r.1, .str r.2.1, .str r.2.2.1, .str r.2.2.2.1], .int .i64 r.2.2.2.2]) [] := by
  unfold f35 at h
  refine Spec1.bodyD [2] 0 _ _ Tryz.func35 rfl Tryz.ntmps35 rfl rfl ?_
  refine q1rq [] [] ⟨77, [(0, .str x1), (2, .ptr 2 0)], [(2, .cells 52 (f35z0))], [], 0⟩ trivial ?_
  refine AWp.seq ?_
  obtain ⟨r2, hr2, h⟩ := bind_ok h
  refine q1rr [] [(1, ⟨[.str x1], [], [], [(6001, q1bS_9 r2)], .own 6001, [6001], [], []⟩)] ⟨77, [(0, .str x1), (2, .ptr 2 0), (4, .own 6001)], (f35z2 r2), [], 0⟩ (an1 (cpT (Spec1.ren (swapN 3000 6001) (swapN_inv 3000 6001) rfl (f51_ok _ _ hr2)))) ?_
  refine thenQ_normal ?_
  obtain ⟨K1, hK1, h⟩ := jn_some h
  refine AWp.join (α := Unit) (fun (x : Unit) => match x with | () => ⟨77, [(2, .ptr 2 0)], [(2, .cells 52 (f35z0))], [], 0⟩) (fun x => K1 x = some r) ?_ ?_
  ·
    refine q1rq [] [] ⟨77, [(0, .str x1), (2, .ptr 2 0), (4, .own 6001), (5, .i (1 : Int))], (f35z2 r2), [], 0⟩ trivial ?_
    refine AWp.block ?_
    refine AWp.loopL (α := Nat × Nat) (fun x => match x with | (_, n3) => ⟨77, (f35z5 x1 n3), (f35z2 r2), [], 0⟩) (fun x => f35_L0 x1 r2 K1 x.1 x.2 = some r) (fun x => x.1) (FUEL, 1) (Le.mk (s' := ⟨77, [(0, .str x1), (2, .ptr 2 0), (4, .own 6001), (5, .i (1 : Int))], (f35z2 r2), [], 0⟩) rfl rfl ⟨.refl _, .refl _, .refl _, .refl _, trivial⟩ ⟨⟨_, rfl, .refl _⟩, ⟨_, rfl, .refl _⟩, trivial⟩) h ?_
    rintro ⟨k0, n3⟩ h
    cases k0 with
    | zero => exact nomatch (show (none : Option (Int × List UInt8 × List UInt8 × List UInt8 × Int)) = some r from h)
    | succ k0 =>
    obtain ⟨C0, hC0⟩ : ∃ C, C = f35_L0 x1 r2 K1 k0 := ⟨_, rfl⟩
    replace h := (f35_L0.eq_2 ..).symm.trans h
    try rw [← hC0] at h
    refine AWp.seq ?_
    refine q1rq [] [] ⟨77, [(0, .str x1), (2, .ptr 2 0), (4, .own 6001), (5, .i (n3 : Int)), (12, .bool (decide ((n3 : Int) ≤ (6 : Int))))], (f35z2 r2), [], 0⟩ trivial ?_
    refine AWp.cond (b := (decide ((n3 : Int) ≤ (6 : Int)))) (by kernel_rfl) (fun hc1 => ?_) (fun hc1 => ?_)
    ·
      replace h := ite_tb hc1 h
      refine AWp.skip ?_
      refine thenQ_normal ?_
      obtain ⟨K2, hK2, h⟩ := jn_some h
      refine AWp.join (α := Unit) (fun (x : Unit) => match x with | () => ⟨77, (f35z5 x1 n3), (f35z2 r2), [], 0⟩) (fun x => K2 x = some r) ?_ ?_
      ·
        refine AWp.block ?_
        refine AWp.seq ?_
        refine AWp.seq ?_
        obtain ⟨r4, hr4, h⟩ := bind_ok h
        obtain ⟨ob0p, h⟩ := chk_some h
        have ob0 : 0 ≤ (0 : Int) ∧ (0 : Int) < (((r2).length : Nat) : Int) := ⟨by omega, ob0p⟩
        obtain ⟨ob1, h⟩ := chk_some h
        refine q1rr [] [(4, ⟨[.i (n3 : Int)], [], [], [], .str r4, [], [], []⟩)] ⟨77, [(0, .str x1), (2, .ptr 2 0), (4, .own 6001), (5, .i (n3 : Int)), (20, .bool (!((r2.getD 0 []) == r4)))], (f35z2 r2), [], 0⟩ (an3 ob0 ob1 (cpT (f52_ok _ _ hr4))) ?_
        refine thenQ_normal ?_
        refine AWp.cond (b := (!((r2.getD 0 []) == r4))) (by kernel_rfl) (fun hc2 => ?_) (fun hc2 => ?_)
        ·
          replace h := ite_tb hc2 h
          refine AWp.exit ?_
          refine thenQ_exit ?_
          refine blockQ_same ?_
          exact joinQ_normal () (Le.mk rfl rfl ⟨.refl _, .refl _, .refl _, .refl _, trivial⟩ ⟨⟨_, rfl, .refl _⟩, ⟨_, rfl, .refl _⟩, trivial⟩) h
        ·
          replace h := ite_fb hc2 h
          refine AWp.skip ?_
          refine thenQ_normal ?_
          refine q1rq [] [] ⟨77, (f35z1 x1 n3), (f35z4 n3 r2), [], 0⟩ (an1 trivial) ?_
          obtain ⟨K3, hK3, h⟩ := jn_some h
          refine AWp.join (α := List UInt8) (fun (s5 : List UInt8) => ⟨77, (f35z1 x1 n3), (f35z6 n3 s5 r2), [], 0⟩) (fun x => K3 x = some r) ?_ ?_
          ·
            refine q1rq [] [] ⟨77, [(0, .str x1), (2, .ptr 2 0), (4, .own 6001), (5, .i (n3 : Int)), (6, .ptr 6 0), (25, .bool (decide ((lZ r2) > (1 : Int))))], (f35z4 n3 r2), [], 0⟩ trivial ?_
            refine AWp.cond (b := (decide ((lZ r2) > (1 : Int)))) (by kernel_rfl) (fun hc3 => ?_) (fun hc3 => ?_)
            ·
              replace h := ite_tb hc3 h
              obtain ⟨ob2p, h⟩ := chk_some h
              have ob2 : 0 ≤ (1 : Int) ∧ (1 : Int) < (((r2).length : Nat) : Int) := ⟨by omega, ob2p⟩
              obtain ⟨ob3, h⟩ := chk_some h
              refine q1rr [] [] ⟨77, (f35z1 x1 n3), [(2, .cells 52 (f35z0)), (6, .cells 52 [.i (n3 : Int), .str (r2.getD 1 []), .str [], .str []]), (6001, q1bS_9 r2)], [], 0⟩ (an3 ob2 ob3 trivial) ?_
              exact joinQ_normal ((r2.getD 1 [])) (Le.mk rfl rfl ⟨.refl _, .refl _, .refl _, .refl _, .refl _, trivial⟩ ⟨⟨_, rfl, .refl _⟩, ⟨_, rfl, .refl _⟩, ⟨_, rfl, .refl _⟩, trivial⟩) h
            ·
              replace h := ite_fb hc3 h
              refine AWp.skip ?_
              exact joinQ_normal ([]) (Le.mk rfl rfl ⟨.refl _, .refl _, .refl _, .refl _, .refl _, trivial⟩ ⟨⟨_, rfl, .refl _⟩, ⟨_, rfl, .refl _⟩, ⟨_, rfl, .refl _⟩, trivial⟩) h
          ·
            rintro s5 h
            replace h := (congrFun hK3 _).symm.trans h
            obtain ⟨K4, hK4, h⟩ := jn_some h
            refine AWp.join (α := List UInt8) (fun (s6 : List UInt8) => ⟨77, (f35z1 x1 n3), (f35z8 n3 s5 s6 r2), [], 0⟩) (fun x => K4 x = some r) ?_ ?_
            ·
              refine AWp.seq ?_
              have ob4 := idA (((f35z3 n3) == true) = true)
              have ob5 := idA (((f35z3 n3) == true) = true)
              have ob6 := bqA (f35z3 n3) true
              refine q1rr [] [] ⟨77, [(0, .str x1), (2, .ptr 2 0), (4, .own 6001), (5, .i (n3 : Int)), (6, .ptr 6 0), (36, .bool ((f35z3 n3) && (decide ((lZ r2) > (2 : Int)))))], (f35z6 n3 s5 r2), [], 0⟩ (an3 (an1 ob4) (an1 ob5) ob6) ?_
              refine thenQ_normal ?_
              refine AWp.cond (b := ((f35z3 n3) && (decide ((lZ r2) > (2 : Int))))) (by kernel_rfl) (fun hc4 => ?_) (fun hc4 => ?_)
              ·
                replace h := ite_tb hc4 h
                obtain ⟨ob7p, h⟩ := chk_some h
                have ob7 : 0 ≤ (2 : Int) ∧ (2 : Int) < (((r2).length : Nat) : Int) := ⟨by omega, ob7p⟩
                obtain ⟨ob8, h⟩ := chk_some h
                refine q1rr [] [] ⟨77, (f35z1 x1 n3), [(2, .cells 52 (f35z0)), (6, .cells 52 [.i (n3 : Int), .str s5, .str (r2.getD 2 []), .str []]), (6001, q1bS_9 r2)], [], 0⟩ (an3 ob7 ob8 trivial) ?_
                exact joinQ_normal ((r2.getD 2 [])) (Le.mk rfl rfl ⟨.refl _, .refl _, .refl _, .refl _, .refl _, trivial⟩ ⟨⟨_, rfl, .refl _⟩, ⟨_, rfl, .refl _⟩, ⟨_, rfl, .refl _⟩, trivial⟩) h
              ·
                replace h := ite_fb hc4 h
                refine AWp.skip ?_
                exact joinQ_normal ([]) (Le.mk rfl rfl ⟨.refl _, .refl _, .refl _, .refl _, .refl _, trivial⟩ ⟨⟨_, rfl, .refl _⟩, ⟨_, rfl, .refl _⟩, ⟨_, rfl, .refl _⟩, trivial⟩) h
            ·
              rintro s6 h
              replace h := (congrFun hK4 _).symm.trans h
              obtain ⟨K5, hK5, h⟩ := jn_some h
              refine AWp.join (α := List UInt8) (fun (s7 : List UInt8) => ⟨77, (f35z1 x1 n3), (f35z10 n3 s5 s6 s7 r2), [], 0⟩) (fun x => K5 x = some r) ?_ ?_
              ·
                refine AWp.seq ?_
                have ob9 := idA (((f35z7 n3) == true) = true)
                have ob10 := idA (((f35z7 n3) == true) = true)
                have ob11 := bqA (f35z7 n3) true
                refine q1rr [] [] ⟨77, [(0, .str x1), (2, .ptr 2 0), (4, .own 6001), (5, .i (n3 : Int)), (6, .ptr 6 0), (47, .bool ((f35z7 n3) && (decide ((lZ r2) > (2 : Int)))))], (f35z8 n3 s5 s6 r2), [], 0⟩ (an3 (an1 ob9) (an1 ob10) ob11) ?_
                refine thenQ_normal ?_
                refine AWp.cond (b := ((f35z7 n3) && (decide ((lZ r2) > (2 : Int))))) (by kernel_rfl) (fun hc5 => ?_) (fun hc5 => ?_)
                ·
                  replace h := ite_tb hc5 h
                  obtain ⟨ob12p, h⟩ := chk_some h
                  have ob12 : 0 ≤ (2 : Int) ∧ (2 : Int) < (((r2).length : Nat) : Int) := ⟨by omega, ob12p⟩
                  obtain ⟨ob13, h⟩ := chk_some h
                  refine q1rr [] [] ⟨77, (f35z1 x1 n3), [(2, .cells 52 (f35z0)), (6, .cells 52 [.i (n3 : Int), .str s5, .str s6, .str (r2.getD 2 [])]), (6001, q1bS_9 r2)], [], 0⟩ (an3 ob12 ob13 trivial) ?_
                  exact joinQ_normal ((r2.getD 2 [])) (Le.mk rfl rfl ⟨.refl _, .refl _, .refl _, .refl _, .refl _, trivial⟩ ⟨⟨_, rfl, .refl _⟩, ⟨_, rfl, .refl _⟩, ⟨_, rfl, .refl _⟩, trivial⟩) h
                ·
                  replace h := ite_fb hc5 h
                  refine AWp.skip ?_
                  exact joinQ_normal ([]) (Le.mk rfl rfl ⟨.refl _, .refl _, .refl _, .refl _, .refl _, trivial⟩ ⟨⟨_, rfl, .refl _⟩, ⟨_, rfl, .refl _⟩, ⟨_, rfl, .refl _⟩, trivial⟩) h
              ·
                rintro s7 h
                replace h := (congrFun hK5 _).symm.trans h
                obtain ⟨K6, hK6, h⟩ := jn_some h
                refine AWp.join (α := List UInt8) (fun (s8 : List UInt8) => ⟨77, (f35z1 x1 n3), [(2, .cells 52 (f35z0)), (6, .cells 52 (f35z9 n3 s5 s6 s8)), (6001, q1bS_9 r2)], [], 0⟩) (fun x => K6 x = some r) ?_ ?_
                ·
                  refine AWp.seq ?_
                  have ob14 := idA (((f35z3 n3) == true) = true)
                  have ob15 := idA (((f35z3 n3) == true) = true)
                  have ob16 := bqA (f35z3 n3) true
                  refine q1rr [] [] ⟨77, [(0, .str x1), (2, .ptr 2 0), (4, .own 6001), (5, .i (n3 : Int)), (6, .ptr 6 0), (58, .bool ((f35z3 n3) && (decide ((lZ r2) > (3 : Int)))))], (f35z10 n3 s5 s6 s7 r2), [], 0⟩ (an3 (an1 ob14) (an1 ob15) ob16) ?_
                  refine thenQ_normal ?_
                  refine AWp.cond (b := ((f35z3 n3) && (decide ((lZ r2) > (3 : Int))))) (by kernel_rfl) (fun hc6 => ?_) (fun hc6 => ?_)
                  ·
                    replace h := ite_tb hc6 h
                    obtain ⟨ob17p, h⟩ := chk_some h
                    have ob17 : 0 ≤ (3 : Int) ∧ (3 : Int) < (((r2).length : Nat) : Int) := ⟨by omega, ob17p⟩
                    obtain ⟨ob18, h⟩ := chk_some h
                    refine q1rr [] [] ⟨77, (f35z1 x1 n3), [(2, .cells 52 (f35z0)), (6, .cells 52 [.i (n3 : Int), .str s5, .str s6, .str (r2.getD 3 [])]), (6001, q1bS_9 r2)], [], 0⟩ (an3 ob17 ob18 trivial) ?_
                    exact joinQ_normal ((r2.getD 3 [])) (Le.mk rfl rfl ⟨.refl _, .refl _, .refl _, .refl _, .refl _, trivial⟩ ⟨⟨_, rfl, .refl _⟩, ⟨_, rfl, .refl _⟩, ⟨_, rfl, .refl _⟩, trivial⟩) h
                  ·
                    replace h := ite_fb hc6 h
                    refine AWp.skip ?_
                    exact joinQ_normal (s7) (Le.mk rfl rfl ⟨.refl _, .refl _, .refl _, .refl _, .refl _, trivial⟩ ⟨⟨_, rfl, .refl _⟩, ⟨_, rfl, .refl _⟩, ⟨_, rfl, .refl _⟩, trivial⟩) h
                ·
                  rintro s8 h
                  replace h := (congrFun hK6 _).symm.trans h
                  refine AWp.seq ?_
                  obtain ⟨r9, hr9, h⟩ := bind_ok h
                  refine q1rr [] [(1, ⟨[.agg (f35z9 n3 s5 s6 s8)], [], [], [], .tup [.str r9.1, .i r9.2], [], [], []⟩)] ⟨77, [(0, .str x1), (2, .ptr 2 0), (4, .own 6001), (5, .i (n3 : Int)), (6, .ptr 6 0), (7, .str r9.1), (8, .i r9.2)], [(2, .cells 52 (f35z0)), (6, .cells 52 (f35z9 n3 s5 s6 s8)), (6001, q1bS_9 r2)], [], 0⟩ (an1 (cpT (f53_ok _ _ _ _ _ hr9))) ?_
                  refine thenQ_normal ?_
                  refine AWp.seq ?_
                  have ob19 := idA (((r9.2 == (0 : Int)) == true) = true)
                  have ob20 := idA (((r9.2 == (0 : Int)) == true) = true)
                  have ob21 := bqA (r9.2 == (0 : Int)) true
                  refine q1rr [] [] ⟨77, [(0, .str x1), (2, .ptr 2 0), (4, .own 6001), (5, .i (n3 : Int)), (6, .ptr 6 0), (74, .bool ((r9.2 == (0 : Int)) && (r9.1 == x1)))], [(2, .cells 52 (f35z0)), (6, .cells 52 (f35z9 n3 s5 s6 s8)), (6001, q1bS_9 r2)], [], 0⟩ (an2 (an2 ob19 ob20) ob21) ?_
                  refine thenQ_normal ?_
                  refine AWp.cond (b := ((r9.2 == (0 : Int)) && (r9.1 == x1))) (by kernel_rfl) (fun hc7 => ?_) (fun hc7 => ?_)
                  ·
                    replace h := ite_tb hc7 h
                    refine q1rq [] [] ⟨77, [(2, .ptr 2 0), (3, .i (0 : Int))], [(2, .cells 52 (f35z9 n3 s5 s6 s8))], [], 0⟩ (an1 trivial) ?_
                    have hret := Option.some.inj h
                    subst hret
                    refine AWp.le (Le.mk (s' := ⟨77, [(2, .ptr 2 0), (3, .i (0 : Int))], [(2, .cells 52 (f35z9 n3 s5 s6 s8))], [], 0⟩) rfl rfl ⟨.refl _, .refl _, trivial⟩ ⟨⟨_, rfl, .refl _⟩, trivial⟩) ?_
                    refine AWp.ret ?_
                    refine blockQ_ret ?_
                    refine joinQ_ret ?_
                    refine thenQ_ret ?_
                    refine blockQ_ret ?_
                    refine joinQ_ret ?_
                    exact bodyQ_ret _ rfl ⟨rfl, rfl⟩ rfl
                  ·
                    replace h := ite_fb hc7 h
                    refine AWp.skip ?_
                    refine blockQ_normal ?_
                    exact joinQ_normal () (Le.mk rfl rfl ⟨.refl _, .refl _, .refl _, .refl _, trivial⟩ ⟨⟨_, rfl, .refl _⟩, ⟨_, rfl, .refl _⟩, trivial⟩) h
      ·
        rintro ⟨⟩ h
        replace h := (congrFun hK2 _).symm.trans h
        obtain ⟨ob22p, h⟩ := chk_some h
        have ob22 : -9223372036854775808 ≤ ((n3 : Int) + (1 : Int)) ∧ ((n3 : Int) + (1 : Int)) ≤ 9223372036854775807 := ⟨by omega, ob22p⟩
        refine q1rr [] [] ⟨77, [(0, .str x1), (2, .ptr 2 0), (4, .own 6001), (5, .i (((n3 + 1) : Nat) : Int))], (f35z2 r2), [], 0⟩ (an1 ob22) ?_
        rw [hC0] at h
        exact loopQ_normal (_, (n3 + 1)) (Le.mk rfl rfl ⟨.refl _, .refl _, .refl _, .refl _, trivial⟩ ⟨⟨_, rfl, .refl _⟩, ⟨_, rfl, .refl _⟩, trivial⟩) h (Nat.lt_succ_self _)
    ·
      replace h := ite_fb hc1 h
      refine AWp.exit ?_
      refine thenQ_exit ?_
      refine thenQ_exit ?_
      refine blockQ_same ?_
      exact joinQ_normal () (Le.mk rfl rfl ⟨.refl _, trivial⟩ ⟨⟨_, rfl, .refl _⟩, trivial⟩) h
  ·
    rintro ⟨⟩ h
    replace h := (congrFun hK1 _).symm.trans h
    refine q1rq [] [] ⟨77, [(2, .ptr 2 0), (3, .i (2 : Int))], [(2, .cells 52 (f35z0))], [], 0⟩ (an1 trivial) ?_
    have hret := Option.some.inj h
    subst hret
    refine AWp.le (Le.mk (s' := ⟨77, [(2, .ptr 2 0), (3, .i (2 : Int))], [(2, .cells 52 (f35z0))], [], 0⟩) rfl rfl ⟨.refl _, .refl _, trivial⟩ ⟨⟨_, rfl, .refl _⟩, trivial⟩) ?_
    refine AWp.ret ?_
    exact bodyQ_ret _ rfl ⟨rfl, rfl⟩ rfl
def f18_L0 (x1 : List (Int × Int × Int × List UInt8 × List UInt8)) (K1 : Unit → Option Int) : Nat → Nat → Option Int
  | 0, _ => none
  | k + 1, n2 =>
    if (decide ((n2 : Int) < (((x1).length : Nat) : Int))) then (
    chk ((n2 : Int) < (((x1).length : Nat) : Int)) <|
    chk (((((decide ((x1.getD n2 (default : Int × Int × Int × List UInt8 × List UInt8)).1 < (0 : Int))) || (decide ((x1.getD n2 (default : Int × Int × Int × List UInt8 × List UInt8)).1 ≥ (6 : Int)))) || (decide ((x1.getD n2 (default : Int × Int × Int × List UInt8 × List UInt8)).2.1 < (0 : Int)))) == false) = true → ((((decide ((x1.getD n2 (default : Int × Int × Int × List UInt8 × List UInt8)).1 < (0 : Int))) || (decide ((x1.getD n2 (default : Int × Int × Int × List UInt8 × List UInt8)).1 ≥ (6 : Int)))) || (decide ((x1.getD n2 (default : Int × Int × Int × List UInt8 × List UInt8)).2.1 < (0 : Int)))) == false) = true → ((x1.getD n2 (default : Int × Int × Int × List UInt8 × List UInt8)).2.2.1 != (-1 : Int)) = true → (((((decide ((x1.getD n2 (default : Int × Int × Int × List UInt8 × List UInt8)).1 < (0 : Int))) || (decide ((x1.getD n2 (default : Int × Int × Int × List UInt8 × List UInt8)).1 ≥ (6 : Int)))) || (decide ((x1.getD n2 (default : Int × Int × Int × List UInt8 × List UInt8)).2.1 < (0 : Int)))) == false) && (((x1.getD n2 (default : Int × Int × Int × List UInt8 × List UInt8)).2.2.1 != (-1 : Int)) == true)) = true) <|
    if ((((decide ((x1.getD n2 (default : Int × Int × Int × List UInt8 × List UInt8)).1 < (0 : Int))) || (decide ((x1.getD n2 (default : Int × Int × Int × List UInt8 × List UInt8)).1 ≥ (6 : Int)))) || (decide ((x1.getD n2 (default : Int × Int × Int × List UInt8 × List UInt8)).2.1 < (0 : Int)))) || (((x1.getD n2 (default : Int × Int × Int × List UInt8 × List UInt8)).2.2.1 != (-1 : Int)) && (decide ((x1.getD n2 (default : Int × Int × Int × List UInt8 × List UInt8)).2.2.1 < (x1.getD n2 (default : Int × Int × Int × List UInt8 × List UInt8)).2.1)))) then (
    some (7 : Int)
    ) else (
    (f35 ((x1.getD n2 (default : Int × Int × Int × List UInt8 × List UInt8)).2.2.2.1)).bind fun (r3 : Int × List UInt8 × List UInt8 × List UInt8 × Int) =>
    if (r3.2.2.2.2 != (0 : Int)) then (
    some (2 : Int)
    ) else (
    if (((x1.getD n2 (default : Int × Int × Int × List UInt8 × List UInt8)).2.2.1 == (-1 : Int)) && (!(((x1.getD n2 (default : Int × Int × Int × List UInt8 × List UInt8)).2.2.2.2) == []))) then (
    some (1 : Int)
    ) else (
    chk (((n2 : Int) + (1 : Int)) ≤ 9223372036854775807) <|
    (f18_L0 x1 K1 k) (n2 + 1)
    )
    )
    )
    ) else (
    K1 ()
    )
abbrev f18z0 (x1 : List (Int × Int × Int × List UInt8 × List UInt8)) (n2 : Nat) := (x1.getD n2 (default : Int × Int × Int × List UInt8 × List UInt8))
abbrev f18z1 (x1 : List (Int × Int × Int × List UInt8 × List UInt8)) (n2 : Nat) := (((decide ((f18z0 x1 n2).1 < (0 : Int))) || (decide ((f18z0 x1 n2).1 ≥ (6 : Int)))) || (decide ((f18z0 x1 n2).2.1 < (0 : Int))))
abbrev f18z2 (x1 : List (Int × Int × Int × List UInt8 × List UInt8)) (n2 : Nat) : Heap := [(4, .cells 31 [.int .i64 (f18z0 x1 n2).1, .int .i64 (f18z0 x1 n2).2.1, .int .i64 (f18z0 x1 n2).2.2.1, .str (f18z0 x1 n2).2.2.2.1, .str (f18z0 x1 n2).2.2.2.2])]
abbrev f18z3 (x1 : List (Int × Int × Int × List UInt8 × List UInt8)) (n2 : Nat) := (((f18z1 x1 n2) == false) && (((f18z0 x1 n2).2.2.1 != (-1 : Int)) == true))
abbrev f18z4 (x1 : List (Int × Int × Int × List UInt8 × List UInt8)) (n2 : Nat) := ((decide ((f18z0 x1 n2).1 < (0 : Int))) || (decide ((f18z0 x1 n2).1 ≥ (6 : Int))))
abbrev f18z5 (x1 : List (Int × Int × Int × List UInt8 × List UInt8)) (n2 : Nat) := ((f18z0 x1 n2).2.2.1 == (-1 : Int))
def f18 (x1 : List (Int × Int × Int × List UInt8 × List UInt8)) : Option Int :=
  if (decide ((((x1).length : Nat) : Int) > (10 : Int))) then (
  some (3 : Int)
  ) else (
  jn (fun (_ : Unit) =>
  some (0 : Int)
  ) fun (K1 : Unit → Option Int) =>
  f18_L0 x1 K1 FUEL 0
  )
set_option maxRecDepth 100000 in
theorem f18_ok  (x1 : List (Int × Int × Int × List UInt8 × List UInt8)) (r : Int) (h : f18 x1 = some r)  : Spec1 Tryz.prog 18 [] [] [] [vL 5 eT31 (default : Int × Int × Int × List UInt8 × List UInt8) x1] (.int .i64 r) [] := by
  unfold f18 at h
  refine Spec1.body 0 _ _ Tryz.func18 rfl Tryz.ntmps18 rfl rfl ?_
  refine q1rq [] [] ⟨61, [(0, q1aT31 x1)], [], [], 0⟩ trivial ?_
  refine AWp.seq ?_
  refine q1rq [] [] ⟨61, [(0, q1aT31 x1), (9, .bool (decide ((lZ x1) > (10 : Int))))], [], [], 0⟩ trivial ?_
  refine AWp.cond (b := (decide ((lZ x1) > (10 : Int)))) (by kernel_rfl) (fun hc1 => ?_) (fun hc1 => ?_)
  ·
    replace h := ite_tb hc1 h
    refine q1rq [] [] ⟨61, [(2, .i (3 : Int))], [], [], 0⟩ trivial ?_
    have hret := Option.some.inj h
    subst hret
    refine AWp.le (Le.mk (s' := ⟨61, [(2, .i (3 : Int))], [], [], 0⟩) rfl rfl ⟨.refl _, trivial⟩ trivial) ?_
    refine AWp.ret ?_
    refine thenQ_ret ?_
    exact bodyQ_ret _ rfl ⟨rfl, rfl⟩ rfl
  ·
    replace h := ite_fb hc1 h
    refine AWp.skip ?_
    refine thenQ_normal ?_
    obtain ⟨K1, hK1, h⟩ := jn_some h
    refine AWp.join (α := Unit) (fun (x : Unit) => match x with | () => ⟨61, [], [], [], 0⟩) (fun x => K1 x = some r) ?_ ?_
    ·
      refine q1rq [] [] ⟨61, [(0, q1aT31 x1), (3, .i (0 : Int))], [], [], 0⟩ trivial ?_
      refine AWp.block ?_
      refine AWp.loopL (α := Nat × Nat) (fun x => match x with | (_, n2) => ⟨61, [(0, q1aT31 x1), (3, .i (n2 : Int))], [], [], 0⟩) (fun x => f18_L0 x1 K1 x.1 x.2 = some r) (fun x => x.1) (FUEL, 0) (Le.mk (s' := ⟨61, [(0, q1aT31 x1), (3, .i (0 : Int))], [], [], 0⟩) rfl rfl ⟨.refl _, .refl _, trivial⟩ trivial) h ?_
      rintro ⟨k0, n2⟩ h
      cases k0 with
      | zero => exact nomatch (show (none : Option Int) = some r from h)
      | succ k0 =>
      obtain ⟨C0, hC0⟩ : ∃ C, C = f18_L0 x1 K1 k0 := ⟨_, rfl⟩
      replace h := (f18_L0.eq_2 ..).symm.trans h
      try rw [← hC0] at h
      refine AWp.seq ?_
      refine q1rq [] [] ⟨61, [(0, q1aT31 x1), (3, .i (n2 : Int)), (13, .bool (decide ((n2 : Int) < (lZ x1))))], [], [], 0⟩ trivial ?_
      refine AWp.cond (b := (decide ((n2 : Int) < (lZ x1)))) (by kernel_rfl) (fun hc2 => ?_) (fun hc2 => ?_)
      ·
        replace h := ite_tb hc2 h
        refine AWp.skip ?_
        refine thenQ_normal ?_
        refine AWp.seq ?_
        refine AWp.block ?_
        refine AWp.seq ?_
        obtain ⟨ob0p, h⟩ := chk_some h
        have ob0 : 0 ≤ (n2 : Int) ∧ (n2 : Int) < (((x1).length : Nat) : Int) := ⟨by omega, ob0p⟩
        refine q1rr [] [] ⟨61, [(0, q1aT31 x1), (3, .i (n2 : Int)), (4, .ptr 4 0)], (f18z2 x1 n2), [], 0⟩ (an2 ob0 trivial) ?_
        refine thenQ_normal ?_
        refine AWp.seq ?_
        refine AWp.seq ?_
        have ob1 := idA (((decide ((f18z0 x1 n2).1 < (0 : Int))) == false) = true)
        have ob2 := idA (((decide ((f18z0 x1 n2).1 < (0 : Int))) == false) = true)
        have ob3 := bqA (decide ((f18z0 x1 n2).1 < (0 : Int))) false
        have ob4 := idA (((f18z4 x1 n2) == false) = true)
        have ob5 := idA (((f18z4 x1 n2) == false) = true)
        have ob6 := bqA (f18z4 x1 n2) false
        have ob7 := idA (((f18z1 x1 n2) == false) = true)
        have ob8 := idA (((f18z1 x1 n2) == false) = true)
        have ob9 := idA (((f18z1 x1 n2) == false) = true)
        have ob10 := idA ((f18z3 x1 n2) = true)
        have ob11 := idA ((f18z3 x1 n2) = true)
        have ob12 := idA ((f18z3 x1 n2) = true)
        have ob13 := idA ((f18z3 x1 n2) = true)
        obtain ⟨ob14, h⟩ := chk_some h
        have ob15 := idA (((f18z1 x1 n2) == false) = true)
        have ob16 := bqA (f18z1 x1 n2) false
        refine q1rr [] [] ⟨61, [(0, q1aT31 x1), (3, .i (n2 : Int)), (4, .ptr 4 0), (44, .bool ((f18z1 x1 n2) || (((f18z0 x1 n2).2.2.1 != (-1 : Int)) && (decide ((f18z0 x1 n2).2.2.1 < (f18z0 x1 n2).2.1)))))], (f18z2 x1 n2), [], 0⟩ (ac6 (an1 ob1) (an1 ob2) ob3 (an1 ob4) (an1 ob5) ob6 (ac6 (an1 ob7) (an1 ob8) (an1 ob9) (an1 ob10) (an1 ob11) (an2 ob12 ob13) (an2 (And.intro ob14 (an1 ob15)) ob16))) ?_
        refine thenQ_normal ?_
        refine AWp.cond (b := ((f18z1 x1 n2) || (((f18z0 x1 n2).2.2.1 != (-1 : Int)) && (decide ((f18z0 x1 n2).2.2.1 < (f18z0 x1 n2).2.1))))) (by kernel_rfl) (fun hc3 => ?_) (fun hc3 => ?_)
        ·
          replace h := ite_tb hc3 h
          refine q1rq [] [] ⟨61, [(2, .i (7 : Int))], [], [], 0⟩ trivial ?_
          have hret := Option.some.inj h
          subst hret
          refine AWp.le (Le.mk (s' := ⟨61, [(2, .i (7 : Int))], [], [], 0⟩) rfl rfl ⟨.refl _, trivial⟩ trivial) ?_
          refine AWp.ret ?_
          refine thenQ_ret ?_
          refine blockQ_ret ?_
          refine thenQ_ret ?_
          refine thenQ_ret ?_
          refine blockQ_ret ?_
          refine joinQ_ret ?_
          exact bodyQ_ret _ rfl ⟨rfl, rfl⟩ rfl
        ·
          replace h := ite_fb hc3 h
          refine AWp.skip ?_
          refine thenQ_normal ?_
          refine AWp.seq ?_
          refine AWp.seq ?_
          obtain ⟨r3, hr3, h⟩ := bind_ok h
          refine q1rr [] [(2, ⟨[.str (f18z0 x1 n2).2.2.2.1], [], [], [], .tup [.agg [.i r3.1, .str r3.2.1, .str r3.2.2.1, .str r3.2.2.2.1], .i r3.2.2.2.2], [], [], []⟩)] ⟨61, [(0, q1aT31 x1), (3, .i (n2 : Int)), (4, .ptr 4 0), (6, .i r3.2.2.2.2)], (f18z2 x1 n2), [], 0⟩ (an2 (cpT (f35_ok _ _ hr3)) trivial) ?_
          refine thenQ_normal ?_
          refine q1rq [] [] ⟨61, [(0, q1aT31 x1), (3, .i (n2 : Int)), (4, .ptr 4 0), (52, .bool (r3.2.2.2.2 != (0 : Int)))], (f18z2 x1 n2), [], 0⟩ trivial ?_
          refine AWp.cond (b := (r3.2.2.2.2 != (0 : Int))) (by kernel_rfl) (fun hc4 => ?_) (fun hc4 => ?_)
          ·
            replace h := ite_tb hc4 h
            refine q1rq [] [] ⟨61, [(2, .i (2 : Int))], [], [], 0⟩ trivial ?_
            have hret := Option.some.inj h
            subst hret
            refine AWp.le (Le.mk (s' := ⟨61, [(2, .i (2 : Int))], [], [], 0⟩) rfl rfl ⟨.refl _, trivial⟩ trivial) ?_
            refine AWp.ret ?_
            refine thenQ_ret ?_
            refine blockQ_ret ?_
            refine thenQ_ret ?_
            refine thenQ_ret ?_
            refine blockQ_ret ?_
            refine joinQ_ret ?_
            exact bodyQ_ret _ rfl ⟨rfl, rfl⟩ rfl
          ·
            replace h := ite_fb hc4 h
            refine AWp.skip ?_
            refine thenQ_normal ?_
            refine AWp.seq ?_
            have ob17 := idA (((f18z5 x1 n2) == true) = true)
            have ob18 := idA (((f18z5 x1 n2) == true) = true)
            have ob19 := bqA (f18z5 x1 n2) true
            refine q1rr [] [] ⟨61, [(0, q1aT31 x1), (3, .i (n2 : Int)), (60, .bool ((f18z5 x1 n2) && (!(((f18z0 x1 n2).2.2.2.2) == []))))], [], [], 0⟩ (an3 (an1 ob17) (an1 ob18) ob19) ?_
            refine thenQ_normal ?_
            refine AWp.cond (b := ((f18z5 x1 n2) && (!(((f18z0 x1 n2).2.2.2.2) == [])))) (by kernel_rfl) (fun hc5 => ?_) (fun hc5 => ?_)
            ·
              replace h := ite_tb hc5 h
              refine q1rq [] [] ⟨61, [(2, .i (1 : Int))], [], [], 0⟩ trivial ?_
              have hret := Option.some.inj h
              subst hret
              refine AWp.le (Le.mk (s' := ⟨61, [(2, .i (1 : Int))], [], [], 0⟩) rfl rfl ⟨.refl _, trivial⟩ trivial) ?_
              refine AWp.ret ?_
              refine blockQ_ret ?_
              refine thenQ_ret ?_
              refine thenQ_ret ?_
              refine blockQ_ret ?_
              refine joinQ_ret ?_
              exact bodyQ_ret _ rfl ⟨rfl, rfl⟩ rfl
            ·
              replace h := ite_fb hc5 h
              refine AWp.skip ?_
              refine blockQ_normal ?_
              refine thenQ_normal ?_
              obtain ⟨ob20p, h⟩ := chk_some h
              have ob20 : -9223372036854775808 ≤ ((n2 : Int) + (1 : Int)) ∧ ((n2 : Int) + (1 : Int)) ≤ 9223372036854775807 := ⟨by omega, ob20p⟩
              refine q1rr [] [] ⟨61, [(0, q1aT31 x1), (3, .i (((n2 + 1) : Nat) : Int))], [], [], 0⟩ (an1 ob20) ?_
              rw [hC0] at h
              exact loopQ_normal (_, (n2 + 1)) (Le.mk rfl rfl ⟨.refl _, .refl _, trivial⟩ trivial) h (Nat.lt_succ_self _)
      ·
        replace h := ite_fb hc2 h
        refine AWp.exit ?_
        refine thenQ_exit ?_
        refine thenQ_exit ?_
        refine blockQ_same ?_
        exact joinQ_normal () (Le.mk rfl rfl trivial trivial) h
    ·
      rintro ⟨⟩ h
      replace h := (congrFun hK1 _).symm.trans h
      refine q1rq [] [] ⟨61, [(2, .i (0 : Int))], [], [], 0⟩ trivial ?_
      have hret := Option.some.inj h
      subst hret
      refine AWp.le (Le.mk (s' := ⟨61, [(2, .i (0 : Int))], [], [], 0⟩) rfl rfl ⟨.refl _, trivial⟩ trivial) ?_
      refine AWp.ret ?_
      exact bodyQ_ret _ rfl ⟨rfl, rfl⟩ rfl
def f42_L0 (x1 : List Int) (x2 : Int) (K1 : Unit → Option Bool) : Nat → Nat → Option Bool
  | 0, _ => none
  | k + 1, n3 =>
    if (decide ((n3 : Int) < (((x1).length : Nat) : Int))) then (
    chk ((n3 : Int) < (((x1).length : Nat) : Int)) <|
    if ((x1.getD n3 0) == x2) then (
    some true
    ) else (
    chk (((n3 : Int) + (1 : Int)) ≤ 9223372036854775807) <|
    (f42_L0 x1 x2 K1 k) (n3 + 1)
    )
    ) else (
    K1 ()
    )
def f42 (x1 : List Int) (x2 : Int) : Option Bool :=
  jn (fun (_ : Unit) =>
  some false
  ) fun (K1 : Unit → Option Bool) =>
  f42_L0 x1 x2 K1 FUEL 0
def f43 (x1 : Int) (x2 : Int) (x3 : Int) (x4 : List UInt8) (x5 : List UInt8) (x6 : Int) (x7 : Int) (x8 : Int) (x9 : List UInt8) (x10 : List UInt8) (x11 : Bool) : Option Bool :=
  chk ((((x3 != (-1 : Int)) && (decide (x3 < x7))) == true) = true → (((x3 != (-1 : Int)) && (decide (x3 < x7))) == true) = true → (!x11) = false → ((((x3 != (-1 : Int)) && (decide (x3 < x7))) == true) && ((!x11) == false)) = true) <|
  some (((x3 != (-1 : Int)) && (decide (x3 < x7))) && ((!x11) || (x1 == x6)))
def f80_L0 (x1 : List (List UInt8 × List UInt8 × Int)) (x2 : List UInt8) (K1 : Unit → Option Int) : Nat → Nat → Option Int
  | 0, _ => none
  | k + 1, n3 =>
    if (decide ((n3 : Int) < (((x1).length : Nat) : Int))) then (
    chk ((n3 : Int) < (((x1).length : Nat) : Int)) <|
    if (((x1.getD n3 (default : List UInt8 × List UInt8 × Int)).1) == x2) then (
    some (n3 : Int)
    ) else (
    chk (((n3 : Int) + (1 : Int)) ≤ 9223372036854775807) <|
    (f80_L0 x1 x2 K1 k) (n3 + 1)
    )
    ) else (
    K1 ()
    )
def f80 (x1 : List (List UInt8 × List UInt8 × Int)) (x2 : List UInt8) : Option Int :=
  jn (fun (_ : Unit) =>
  some (-1 : Int)
  ) fun (K1 : Unit → Option Int) =>
  f80_L0 x1 x2 K1 FUEL 0
def f81 : Nat → Int → Option (List UInt8)
  | 0, _ => none
  | k + 1, x1 =>
    if (decide (x1 < (10 : Int))) then (
    chk (-9223372036854775808 ≤ ((48 : Int) + x1) ∧ ((48 : Int) + x1) ≤ 9223372036854775807) <|
    chk (0 ≤ ((48 : Int) + x1) ∧ ((48 : Int) + x1) ≤ 255) <|
    some [UInt8.ofNat ((((48 : Int) + x1)).toNat)]
    ) else (
    ((f81 k) (x1 / (10 : Int))).bind fun (r2 : List UInt8) =>
    chk (0 ≤ x1 ∧ 1 ≤ (10 : Int) ∧ -9223372036854775808 ≤ (x1 / (10 : Int)) ∧ (x1 / (10 : Int)) ≤ 9223372036854775807) <|
    chk (0 ≤ x1 ∧ 1 ≤ (10 : Int)) <|
    chk (-9223372036854775808 ≤ ((48 : Int) + (x1 % (10 : Int))) ∧ ((48 : Int) + (x1 % (10 : Int))) ≤ 9223372036854775807) <|
    chk (0 ≤ ((48 : Int) + (x1 % (10 : Int))) ∧ ((48 : Int) + (x1 % (10 : Int))) ≤ 255) <|
    chk (r2.length + [UInt8.ofNat ((((48 : Int) + (x1 % (10 : Int)))).toNat)].length ≤ 9223372036854775807) <|
    some (r2 ++ [UInt8.ofNat ((((48 : Int) + (x1 % (10 : Int)))).toNat)])
    )
def f82_L0 (x1 : List (List UInt8 × List UInt8 × Int)) (x2 : List UInt8) (x3 : List UInt8) (K1 : (Bool × (List (List UInt8 × List UInt8 × Int))) → Option (List (List UInt8 × List UInt8 × Int))) : Nat → (Bool × Nat × (List (List UInt8 × List UInt8 × Int))) → Option (List (List UInt8 × List UInt8 × Int))
  | 0, _ => none
  | k + 1, (b4, n5, l6) =>
    if (decide ((n5 : Int) < (((x1).length : Nat) : Int))) then (
    jn (fun ((b7, l8) : Bool × (List (List UInt8 × List UInt8 × Int))) =>
    chk (((n5 : Int) + (1 : Int)) ≤ 9223372036854775807) <|
    (f82_L0 x1 x2 x3 K1 k) (b7, (n5 + 1), l8)
    ) fun (K2 : (Bool × (List (List UInt8 × List UInt8 × Int))) → Option (List (List UInt8 × List UInt8 × Int))) =>
    chk ((n5 : Int) < (((x1).length : Nat) : Int)) <|
    if (((x1.getD n5 (default : List UInt8 × List UInt8 × Int)).1) == x2) then (
    chk ((n5 : Int) < (((x1).length : Nat) : Int)) <|
    chk (-9223372036854775808 ≤ ((x1.getD n5 (default : List UInt8 × List UInt8 × Int)).2.2 + (1 : Int)) ∧ ((x1.getD n5 (default : List UInt8 × List UInt8 × Int)).2.2 + (1 : Int)) ≤ 9223372036854775807) <|
    chk (((l6).length + 1) * 40 ≤ 140737488355328) <|
    K2 (true, (l6 ++ [(x2, x3, (min ((x1.getD n5 (default : List UInt8 × List UInt8 × Int)).2.2 + (1 : Int)) (1000000000000 : Int)))]))
    ) else (
    jn (fun ((b9, l10) : Bool × (List (List UInt8 × List UInt8 × Int))) =>
    chk ((n5 : Int) < (((x1).length : Nat) : Int)) <|
    chk (((l10).length + 1) * 40 ≤ 140737488355328) <|
    K2 (b9, (l10 ++ [((x1.getD n5 (default : List UInt8 × List UInt8 × Int)).1, (x1.getD n5 (default : List UInt8 × List UInt8 × Int)).2.1, (x1.getD n5 (default : List UInt8 × List UInt8 × Int)).2.2)]))
    ) fun (K3 : (Bool × (List (List UInt8 × List UInt8 × Int))) → Option (List (List UInt8 × List UInt8 × Int))) =>
    chk ((n5 : Int) < (((x1).length : Nat) : Int)) <|
    if ((!((Op.bytesLess ((x1.getD n5 (default : List UInt8 × List UInt8 × Int)).1) x2) || (((x1.getD n5 (default : List UInt8 × List UInt8 × Int)).1) == x2))) && (!b4)) then (
    chk (((l6).length + 1) * 40 ≤ 140737488355328) <|
    K3 (true, (l6 ++ [(x2, x3, (1 : Int))]))
    ) else (
    K3 (b4, l6)
    )
    )
    ) else (
    K1 (b4, l6)
    )
def f82 (x1 : List (List UInt8 × List UInt8 × Int)) (x2 : List UInt8) (x3 : List UInt8) : Option (List (List UInt8 × List UInt8 × Int)) :=
  jn (fun ((b11, l12) : Bool × (List (List UInt8 × List UInt8 × Int))) =>
  jn (fun (l13 : List (List UInt8 × List UInt8 × Int)) =>
  some l13
  ) fun (K4 : (List (List UInt8 × List UInt8 × Int)) → Option (List (List UInt8 × List UInt8 × Int))) =>
  if (!b11) then (
  chk (((l12).length + 1) * 40 ≤ 140737488355328) <|
  K4 (l12 ++ [(x2, x3, (1 : Int))])
  ) else (
  K4 l12
  )
  ) fun (K1 : (Bool × (List (List UInt8 × List UInt8 × Int))) → Option (List (List UInt8 × List UInt8 × Int))) =>
  f82_L0 x1 x2 x3 K1 FUEL (false, 0, [])
def f56 (x1 : List (List UInt8 × List UInt8 × Int)) (x2 : Int) (x3 : List UInt8) (x4 : List UInt8) (x5 : List UInt8) : Option (List UInt8 × (List (List UInt8 × List UInt8 × Int))) :=
  chk ((0 + (x1).length) * 40 ≤ 140737488355328) <|
  (f53 x2 x3 x4 x5).bind fun (r6 : List UInt8 × Int) =>
  if (r6.2 != (0 : Int)) then (
  some (cs6, ([] ++ x1))
  ) else (
  (f80 x1 x3).bind fun (r7 : Int) =>
  jn (fun (s10 : List UInt8) =>
  if ((decide (r7 < (0 : Int))) && (decide ((((x1).length : Nat) : Int) ≥ (64 : Int)))) then (
  some (([102, 117, 108, 108] : List UInt8), ([] ++ x1))
  ) else (
  (f82 x1 x3 s10).bind fun (r12 : List (List UInt8 × List UInt8 × Int)) =>
  (f80 r12 x3).bind fun (r13 : Int) =>
  (f81 FUEL ((r12.getD ((r13).toNat) (default : List UInt8 × List UInt8 × Int)).2.2)).bind fun (r14 : List UInt8) =>
  chk (0 ≤ r13 ∧ r13 < (((r12).length : Nat) : Int)) <|
  chk (((r13).toNat) < (r12).length) <|
  chk (([111, 107, 32] : List UInt8).length + r14.length ≤ 9223372036854775807) <|
  some ((([111, 107, 32] : List UInt8) ++ r14), r12)
  )
  ) fun (K1 : (List UInt8) → Option (List UInt8 × (List (List UInt8 × List UInt8 × Int)))) =>
  if (x2 == (6 : Int)) then (
  (f81 FUEL (((x1).length : Nat) : Int)).bind fun (r8 : List UInt8) =>
  chk (cs7.length + r8.length ≤ 9223372036854775807) <|
  some ((cs7 ++ r8), ([] ++ x1))
  ) else (
  if (x2 == (2 : Int)) then (
  if (decide (r7 < (0 : Int))) then (
  some (([110, 111, 110, 101] : List UInt8), ([] ++ x1))
  ) else (
  (f81 FUEL ((x1.getD ((r7).toNat) (default : List UInt8 × List UInt8 × Int)).2.2)).bind fun (r9 : List UInt8) =>
  chk (0 ≤ r7 ∧ r7 < (((x1).length : Nat) : Int)) <|
  chk (cs8.length + ((x1.getD ((r7).toNat) (default : List UInt8 × List UInt8 × Int)).2.1).length ≤ 9223372036854775807) <|
  chk ((cs8 ++ ((x1.getD ((r7).toNat) (default : List UInt8 × List UInt8 × Int)).2.1)).length + ([32] : List UInt8).length ≤ 9223372036854775807) <|
  chk (0 ≤ r7 ∧ r7 < (((x1).length : Nat) : Int)) <|
  chk (((cs8 ++ ((x1.getD ((r7).toNat) (default : List UInt8 × List UInt8 × Int)).2.1)) ++ ([32] : List UInt8)).length + r9.length ≤ 9223372036854775807) <|
  some ((((cs8 ++ ((x1.getD ((r7).toNat) (default : List UInt8 × List UInt8 × Int)).2.1)) ++ ([32] : List UInt8)) ++ r9), ([] ++ x1))
  )
  ) else (
  if (x2 == (3 : Int)) then (
  if (decide (r7 < (0 : Int))) then (
  some (([110, 111, 110, 101] : List UInt8), ([] ++ x1))
  ) else (
  chk (0 ≤ r7 ∧ r7 ≤ (((x1).length : Nat) : Int)) <|
  chk ((0 + ((r7).toNat)) * 40 ≤ 140737488355328) <|
  chk (-9223372036854775808 ≤ (r7 + (1 : Int)) ∧ (r7 + (1 : Int)) ≤ 9223372036854775807) <|
  chk (0 ≤ (r7 + (1 : Int)) ∧ (r7 + (1 : Int)) ≤ (((x1).length : Nat) : Int)) <|
  chk (((0 + ((r7).toNat)) + ((x1).length - ((r7 + (1 : Int))).toNat)) * 40 ≤ 140737488355328) <|
  some (([111, 107] : List UInt8), (([] ++ (x1.take ((r7).toNat))) ++ (x1.drop (((r7 + (1 : Int))).toNat))))
  )
  ) else (
  if (x2 == (5 : Int)) then (
  if (decide (r7 < (0 : Int))) then (
  some (([110, 111, 110, 101] : List UInt8), ([] ++ x1))
  ) else (
  chk (0 ≤ r7 ∧ r7 < (((x1).length : Nat) : Int)) <|
  if (!(((x1.getD ((r7).toNat) (default : List UInt8 × List UInt8 × Int)).2.1) == x4)) then (
  chk (0 ≤ r7 ∧ r7 < (((x1).length : Nat) : Int)) <|
  chk (([110, 111, 32] : List UInt8).length + ((x1.getD ((r7).toNat) (default : List UInt8 × List UInt8 × Int)).2.1).length ≤ 9223372036854775807) <|
  some ((([110, 111, 32] : List UInt8) ++ ((x1.getD ((r7).toNat) (default : List UInt8 × List UInt8 × Int)).2.1)), ([] ++ x1))
  ) else (
  K1 x5
  )
  )
  ) else (
  if (x2 == (4 : Int)) then (
  jn (fun (s11 : List UInt8) =>
  if (decide (((s11.length : Nat) : Int) > (256 : Int))) then (
  some (([108, 111, 110, 103] : List UInt8), ([] ++ x1))
  ) else (
  K1 s11
  )
  ) fun (K2 : (List UInt8) → Option (List UInt8 × (List (List UInt8 × List UInt8 × Int)))) =>
  if (decide (r7 ≥ (0 : Int))) then (
  chk (0 ≤ r7 ∧ r7 < (((x1).length : Nat) : Int)) <|
  chk (((x1.getD ((r7).toNat) (default : List UInt8 × List UInt8 × Int)).2.1).length + x5.length ≤ 9223372036854775807) <|
  K2 (((x1.getD ((r7).toNat) (default : List UInt8 × List UInt8 × Int)).2.1) ++ x5)
  ) else (
  K2 x5
  )
  ) else (
  K1 x5
  )
  )
  )
  )
  )
  )
def f39 (x1 : List (List UInt8 × List UInt8 × Int)) (x2 : Int) (x3 : Int) (x4 : Int) (x5 : List UInt8) (x6 : List UInt8) : Option (List UInt8 × (List (List UInt8 × List UInt8 × Int))) :=
  (f35 x5).bind fun (r7 : Int × List UInt8 × List UInt8 × List UInt8 × Int) =>
  (f56 x1 r7.1 r7.2.1 r7.2.2.1 r7.2.2.2.1).bind fun (r8 : List UInt8 × (List (List UInt8 × List UInt8 × Int))) =>
  some (r8.1, r8.2)
def f49_L0 (x1 : List (Int × Int × Int × List UInt8 × List UInt8)) (x2 : List Int) (K1 : Bool → Option (List Int × Bool)) : Nat → (Bool × Nat) → Option (List Int × Bool)
  | 0, _ => none
  | k + 1, (b5, n6) =>
    if (decide ((n6 : Int) < (((x1).length : Nat) : Int))) then (
    optc ((b5 == true) && (((x1.getD n6 (default : Int × Int × Int × List UInt8 × List UInt8)).2.2.1 == (-1 : Int)) == false)) (f42 x2 (n6 : Int)) fun (r7 : Bool) =>
    chk ((b5 == true) = true → 0 ≤ (n6 : Int) ∧ (n6 : Int) < (((x1).length : Nat) : Int)) <|
    chk ((b5 == true) = true → (b5 == true) = true → ((x1.getD n6 (default : Int × Int × Int × List UInt8 × List UInt8)).2.2.1 == (-1 : Int)) = false → ((b5 == true) && (((x1.getD n6 (default : Int × Int × Int × List UInt8 × List UInt8)).2.2.1 == (-1 : Int)) == false)) = true) <|
    chk (((n6 : Int) + (1 : Int)) ≤ 9223372036854775807) <|
    (f49_L0 x1 x2 K1 k) ((b5 && (((x1.getD n6 (default : Int × Int × Int × List UInt8 × List UInt8)).2.2.1 == (-1 : Int)) || r7)), (n6 + 1))
    ) else (
    K1 b5
    )
def f49_L2 (x1 : List (Int × Int × Int × List UInt8 × List UInt8)) (x2 : List Int) (x4 : Bool) (n9 : Nat) (K4 : Bool → Option (List Int × Bool)) : Nat → (Bool × Nat) → Option (List Int × Bool)
  | 0, _ => none
  | k + 1, (b11, n12) =>
    if (decide ((n12 : Int) < (((x1).length : Nat) : Int))) then (
    optc (b11 == false) (f42 x2 (n12 : Int)) fun (r13 : Bool) =>
    optc ((b11 == false) && ((!r13) == true)) (f43 ((x1.getD n12 (default : Int × Int × Int × List UInt8 × List UInt8)).1) ((x1.getD n12 (default : Int × Int × Int × List UInt8 × List UInt8)).2.1) ((x1.getD n12 (default : Int × Int × Int × List UInt8 × List UInt8)).2.2.1) ((x1.getD n12 (default : Int × Int × Int × List UInt8 × List UInt8)).2.2.2.1) ((x1.getD n12 (default : Int × Int × Int × List UInt8 × List UInt8)).2.2.2.2) ((x1.getD n9 (default : Int × Int × Int × List UInt8 × List UInt8)).1) ((x1.getD n9 (default : Int × Int × Int × List UInt8 × List UInt8)).2.1) ((x1.getD n9 (default : Int × Int × Int × List UInt8 × List UInt8)).2.2.1) ((x1.getD n9 (default : Int × Int × Int × List UInt8 × List UInt8)).2.2.2.1) ((x1.getD n9 (default : Int × Int × Int × List UInt8 × List UInt8)).2.2.2.2) x4) fun (r14 : Bool) =>
    chk (((b11 == false) && ((!r13) == true)) = true → 0 ≤ (n12 : Int) ∧ (n12 : Int) < (((x1).length : Nat) : Int)) <|
    chk (((b11 == false) && ((!r13) == true)) = true → 0 ≤ (n9 : Int) ∧ (n9 : Int) < (((x1).length : Nat) : Int)) <|
    chk ((b11 == false) = true → (b11 == false) = true → (!r13) = true → ((b11 == false) && ((!r13) == true)) = true) <|
    chk (((n12 : Int) + (1 : Int)) ≤ 9223372036854775807) <|
    (f49_L2 x1 x2 x4 n9 K4 k) ((b11 || ((!r13) && r14)), (n12 + 1))
    ) else (
    K4 b11
    )
def f49_L1 (x1 : List (Int × Int × Int × List UInt8 × List UInt8)) (x2 : List Int) (x3 : List (List UInt8 × List UInt8 × Int)) (x4 : Bool) (Frec : (List (Int × Int × Int × List UInt8 × List UInt8)) → (List Int) → (List (List UInt8 × List UInt8 × Int)) → Bool → Option (List Int × Bool)) (K2 : Unit → Option (List Int × Bool)) : Nat → Nat → Option (List Int × Bool)
  | 0, _ => none
  | k + 1, n9 =>
    if (decide ((n9 : Int) < (((x1).length : Nat) : Int))) then (
    jn (fun (_ : Unit) =>
    chk (((n9 : Int) + (1 : Int)) ≤ 9223372036854775807) <|
    (f49_L1 x1 x2 x3 x4 Frec K2 k) (n9 + 1)
    ) fun (K3 : Unit → Option (List Int × Bool)) =>
    (f42 x2 (n9 : Int)).bind fun (r10 : Bool) =>
    if r10 then (
    K3 ()
    ) else (
    jn (fun (b15 : Bool) =>
    if b15 then (
    K3 ()
    ) else (
    (f39 x3 ((x1.getD n9 (default : Int × Int × Int × List UInt8 × List UInt8)).1) ((x1.getD n9 (default : Int × Int × Int × List UInt8 × List UInt8)).2.1) ((x1.getD n9 (default : Int × Int × Int × List UInt8 × List UInt8)).2.2.1) ((x1.getD n9 (default : Int × Int × Int × List UInt8 × List UInt8)).2.2.2.1) ((x1.getD n9 (default : Int × Int × Int × List UInt8 × List UInt8)).2.2.2.2)).bind fun (r16 : List UInt8 × (List (List UInt8 × List UInt8 × Int))) =>
    chk ((n9 : Int) < (((x1).length : Nat) : Int)) <|
    chk ((n9 : Int) < (((x1).length : Nat) : Int)) <|
    chk ((((x1.getD n9 (default : Int × Int × Int × List UInt8 × List UInt8)).2.2.1 != (-1 : Int)) == true) = true → 0 ≤ (n9 : Int) ∧ (n9 : Int) < (((x1).length : Nat) : Int)) <|
    if (((x1.getD n9 (default : Int × Int × Int × List UInt8 × List UInt8)).2.2.1 != (-1 : Int)) && (!(r16.1 == ((x1.getD n9 (default : Int × Int × Int × List UInt8 × List UInt8)).2.2.2.2)))) then (
    K3 ()
    ) else (
    (Frec x1 (([] ++ x2) ++ [(n9 : Int)]) r16.2 x4).bind fun (r17 : List Int × Bool) =>
    chk ((0 + (x2).length) * 8 ≤ 140737488355328) <|
    chk (((0 + (x2).length) + 1) * 8 ≤ 140737488355328) <|
    if r17.2 then (
    some (r17.1, true)
    ) else (
    K3 ()
    )
    )
    )
    ) fun (K4 : Bool → Option (List Int × Bool)) =>
    f49_L2 x1 x2 x4 n9 K4 FUEL (false, 0)
    )
    ) else (
    K2 ()
    )
def f49 : Nat → (List (Int × Int × Int × List UInt8 × List UInt8)) → (List Int) → (List (List UInt8 × List UInt8 × Int)) → Bool → Option (List Int × Bool)
  | 0, _, _, _, _ => none
  | k + 1, x1, x2, x3, x4 =>
    jn (fun (b8 : Bool) =>
    if b8 then (
    some (x2, true)
    ) else (
    jn (fun (_ : Unit) =>
    some ([], false)
    ) fun (K2 : Unit → Option (List Int × Bool)) =>
    f49_L1 x1 x2 x3 x4 (f49 k) K2 FUEL 0
    )
    ) fun (K1 : Bool → Option (List Int × Bool)) =>
    f49_L0 x1 x2 K1 FUEL (true, 0)
def f32 (x1 : List (Int × Int × Int × List UInt8 × List UInt8)) (x2 : Bool) : Option (List Int × Int) :=
  (f18 x1).bind fun (r3 : Int) =>
  if (r3 != (0 : Int)) then (
  some ([], r3)
  ) else (
  (f49 FUEL x1 [] [] x2).bind fun (r4 : List Int × Bool) =>
  if (!r4.2) then (
  some ([], (14 : Int))
  ) else (
  some (r4.1, (0 : Int))
  )
  )
def f13 (x1 : List (Int × Int × Int × List UInt8 × List UInt8)) : Option (List Int × Int) :=
  (f32 x1 false).bind fun (r2 : List Int × Int) =>
  some (r2.1, r2.2)
def f15 (x1 : List (Int × Int × Int × List UInt8 × List UInt8)) : Option (List Int × Int) :=
  (f32 x1 true).bind fun (r2 : List Int × Int) =>
  some (r2.1, r2.2)
def f3 (x1 : List (Int × Int × Int × List UInt8 × List UInt8)) : Option Bool :=
  (f9 ).bind fun (r2 : Bool) =>
  optc ((!r2) == false) (f10 x1 (6 : Int)) fun (r3 : Bool) =>
  if ((!r2) || (!r3)) then (
  (f9 ).bind fun (r4 : Bool) =>
  some r4
  ) else (
  (f12 x1).bind fun (r5 : List (Int × Int × Int × List UInt8 × List UInt8)) =>
  (f11 r5).bind fun (r6 : List Int × Int) =>
  (f13 x1).bind fun (r7 : List Int × Int) =>
  (f12 x1).bind fun (r8 : List (Int × Int × Int × List UInt8 × List UInt8)) =>
  (f14 r8).bind fun (r9 : List Int × Int) =>
  (f15 x1).bind fun (r10 : List Int × Int) =>
  optc (((r6.2 == r7.2) && (r9.2 == r10.2)) == true) (f16 r6.1 r7.1) fun (r11 : Bool) =>
  optc ((((r6.2 == r7.2) && (r9.2 == r10.2)) && r11) == true) (f16 r9.1 r10.1) fun (r12 : Bool) =>
  if ((((r6.2 == r7.2) && (r9.2 == r10.2)) && r11) && r12) = true then (
  (f12 x1).bind fun (r13 : List (Int × Int × Int × List UInt8 × List UInt8)) =>
  (f17 r13).bind fun (r14 : Int) =>
  (f18 x1).bind fun (r15 : Int) =>
  some (r14 == r15)
  ) else (
  some false
  )
  )
def f23_L0 (x1 : List (Int × Int × Int × List UInt8 × List UInt8)) (x2 : List Int) (K1 : (List (List UInt8)) → Option (List (List UInt8))) : Nat → ((List (List UInt8 × List UInt8 × Int)) × Nat × List (List UInt8)) → Option (List (List UInt8))
  | 0, _ => none
  | k + 1, (l4, n5, l6) =>
    if (decide ((n5 : Int) < (((x2).length : Nat) : Int))) then (
    chk ((n5 : Int) < (((x2).length : Nat) : Int)) <|
    if ((decide ((x2.getD n5 0) < (0 : Int))) || (decide ((x2.getD n5 0) ≥ (((x1).length : Nat) : Int)))) then (
    some []
    ) else (
    (f40 l4 ((x1.getD (((x2.getD n5 0)).toNat) (default : Int × Int × Int × List UInt8 × List UInt8)).1) ((x1.getD (((x2.getD n5 0)).toNat) (default : Int × Int × Int × List UInt8 × List UInt8)).2.1) ((x1.getD (((x2.getD n5 0)).toNat) (default : Int × Int × Int × List UInt8 × List UInt8)).2.2.1) ((x1.getD (((x2.getD n5 0)).toNat) (default : Int × Int × Int × List UInt8 × List UInt8)).2.2.2.1) ((x1.getD (((x2.getD n5 0)).toNat) (default : Int × Int × Int × List UInt8 × List UInt8)).2.2.2.2)).bind fun (r7 : (List (List UInt8 × List UInt8 × Int)) × List UInt8) =>
    chk (0 ≤ (x2.getD n5 0) ∧ (x2.getD n5 0) < (((x1).length : Nat) : Int)) <|
    chk (((l6).length + 1) * 16 ≤ 140737488355328) <|
    chk (((n5 : Int) + (1 : Int)) ≤ 9223372036854775807) <|
    (f23_L0 x1 x2 K1 k) (r7.1, (n5 + 1), (l6 ++ [r7.2]))
    )
    ) else (
    K1 l6
    )
abbrev f23z0 (x2 : List Int) (n5 : Nat) := (decide ((x2.getD n5 0) < (0 : Int)))
abbrev f23z1 : List (Nat × V) := [(4, .nils), (1000003, .tab .u64 Lib.pow10Tab)]
abbrev f23z2 : List (Nat × V) := [(4, .own 3000), (1000003, .tab .u64 Lib.pow10Tab)]
def f23 (x1 : List (Int × Int × Int × List UInt8 × List UInt8)) (x2 : List Int) : Option (List (List UInt8)) :=
  (f17 x1).bind fun (r3 : Int) =>
  if (r3 != (0 : Int)) then (
  some []
  ) else (
  jn (fun (l8 : List (List UInt8)) =>
  some l8
  ) fun (K1 : (List (List UInt8)) → Option (List (List UInt8))) =>
  f23_L0 x1 x2 K1 FUEL ([], 0, [])
  )
set_option maxRecDepth 100000 in
theorem f23_ok  (x1 : List (Int × Int × Int × List UInt8 × List UInt8)) (x2 : List Int) (r : List (List UInt8)) (h : f23 x1 x2 = some r)  : Spec1 Tryz.prog 23 [(3, .tab .u64 Lib.pow10Tab)] [] [] [vL 5 eT31 (default : Int × Int × Int × List UInt8 × List UInt8) x1, vL 1 eI 0 x2] (.own 3000) [(3000, bL 9 1 eS [] r)] := by
  unfold f23 at h
  refine Spec1.body 0 _ _ Tryz.func23 rfl Tryz.ntmps23 rfl rfl ?_
  refine q1rq [] [] ⟨42, [(0, q1aT31 x1), (1, q1aI x2), (1000003, .tab .u64 Lib.pow10Tab)], [], [], 0⟩ trivial ?_
  refine AWp.seq ?_
  refine AWp.seq ?_
  obtain ⟨r3, hr3, h⟩ := bind_ok h
  refine q1rr [] [(1, ⟨[q1aT31 x1], [], [], [], .i r3, [], [], []⟩)] ⟨42, [(0, q1aT31 x1), (1, q1aI x2), (12, .bool (r3 != (0 : Int))), (1000003, .tab .u64 Lib.pow10Tab)], [], [], 0⟩ (an1 (cpT (f17_ok _ _ hr3))) ?_
  refine thenQ_normal ?_
  refine AWp.cond (b := (r3 != (0 : Int))) (by kernel_rfl) (fun hc1 => ?_) (fun hc1 => ?_)
  ·
    replace h := ite_tb hc1 h
    refine q1rq [] [] ⟨42, (f23z1), [], [], 0⟩ trivial ?_
    refine AWp.le (Le.trans (Le.nilOwn 4 3000 9 1 (encF eS [] []) rfl rfl (Nat.le_of_ble_eq_true rfl)) (Le.mk (s' := ⟨42, (f23z2), [(3000, q1bS_9 [])], [], 0⟩) rfl rfl ⟨.refl _, .refl _, trivial⟩ ⟨⟨_, rfl, .refl _⟩, trivial⟩)) ?_
    have hret := Option.some.inj h
    subst hret
    refine AWp.le (Le.mk (s' := ⟨42, [(4, .own 3000)], [(3000, q1bS_9 [])], [], 0⟩) rfl rfl ⟨.refl _, trivial⟩ ⟨⟨_, rfl, .refl _⟩, trivial⟩) ?_
    refine AWp.ret ?_
    refine thenQ_ret ?_
    exact bodyQ_ret _ rfl ⟨rfl, rfl⟩ rfl
  ·
    replace h := ite_fb hc1 h
    refine AWp.skip ?_
    refine thenQ_normal ?_
    refine q1rq [] [] ⟨42, [(0, q1aT31 x1), (1, q1aI x2), (5, .nils), (1000003, .tab .u64 Lib.pow10Tab)], [], [], 0⟩ trivial ?_
    refine q1rq [] [] ⟨42, [(0, q1aT31 x1), (1, q1aI x2), (5, .nils), (6, .nils), (1000003, .tab .u64 Lib.pow10Tab)], [], [], 0⟩ trivial ?_
    obtain ⟨K1, hK1, h⟩ := jn_some h
    refine AWp.join (α := List (List UInt8)) (fun (l8 : List (List UInt8)) => ⟨42, [(5, .own 5005), (1000003, .tab .u64 Lib.pow10Tab)], [(5005, q1bS_9 l8)], [], 0⟩) (fun x => K1 x = some r) ?_ ?_
    ·
      refine q1rq [] [] ⟨42, [(0, q1aT31 x1), (5, .nils), (6, .nils), (13, q1aI x2), (14, .i (lZ x2)), (15, .i (0 : Int)), (1000003, .tab .u64 Lib.pow10Tab)], [], [], 0⟩ trivial ?_
      refine AWp.block ?_
      refine AWp.loopL (α := Nat × ((List (List UInt8 × List UInt8 × Int)) × Nat × List (List UInt8))) (fun x => match x with | (_, l4, n5, l6) => ⟨42, [(0, q1aT31 x1), (5, .own 5005), (6, q1aSSI l4), (13, q1aI x2), (14, .i (lZ x2)), (15, .i (n5 : Int)), (1000003, .tab .u64 Lib.pow10Tab)], [(5005, q1bS_9 l6)], [], 0⟩) (fun x => f23_L0 x1 x2 K1 x.1 x.2 = some r) (fun x => x.1) (FUEL, [], 0, []) (Le.trans (Le.trans (Le.nilOwn 5 5005 9 1 (encF eS [] []) rfl rfl (Nat.le_of_ble_eq_true rfl)) (Le.mk (s' := ⟨42, [(0, q1aT31 x1), (5, .own 5005), (6, .nils), (13, q1aI x2), (14, .i (lZ x2)), (15, .i (0 : Int)), (1000003, .tab .u64 Lib.pow10Tab)], [(5005, q1bS_9 [])], [], 0⟩) rfl rfl ⟨.refl _, .refl _, .refl _, .refl _, .refl _, .refl _, .refl _, trivial⟩ ⟨⟨_, rfl, .refl _⟩, trivial⟩)) (Le.mk (s' := ⟨42, [(0, q1aT31 x1), (5, .own 5005), (6, q1aSSI []), (13, q1aI x2), (14, .i (lZ x2)), (15, .i (0 : Int)), (1000003, .tab .u64 Lib.pow10Tab)], [(5005, q1bS_9 [])], [], 0⟩) rfl rfl ⟨.refl _, .refl _, .nilL, .refl _, .refl _, .refl _, .refl _, trivial⟩ ⟨⟨_, rfl, .refl _⟩, trivial⟩)) h ?_
      rintro ⟨k0, l4, n5, l6⟩ h
      cases k0 with
      | zero => exact nomatch (show (none : Option (List (List UInt8))) = some r from h)
      | succ k0 =>
      obtain ⟨C0, hC0⟩ : ∃ C, C = f23_L0 x1 x2 K1 k0 := ⟨_, rfl⟩
      replace h := (f23_L0.eq_2 ..).symm.trans h
      try rw [← hC0] at h
      refine q1rq [] [] ⟨42, [(0, q1aT31 x1), (5, .own 5005), (6, q1aSSI l4), (13, q1aI x2), (14, .i (lZ x2)), (15, .i (n5 : Int)), (16, .bool (decide ((n5 : Int) < (lZ x2)))), (1000003, .tab .u64 Lib.pow10Tab)], [(5005, q1bS_9 l6)], [], 0⟩ trivial ?_
      refine AWp.seq ?_
      refine AWp.cond (b := (decide ((n5 : Int) < (lZ x2)))) (by kernel_rfl) (fun hc2 => ?_) (fun hc2 => ?_)
      ·
        replace h := ite_tb hc2 h
        refine AWp.skip ?_
        refine thenQ_normal ?_
        refine AWp.seq ?_
        refine AWp.block ?_
        refine AWp.seq ?_
        obtain ⟨ob0p, h⟩ := chk_some h
        have ob0 : 0 ≤ (n5 : Int) ∧ (n5 : Int) < (((x2).length : Nat) : Int) := ⟨by omega, ob0p⟩
        refine q1rr [] [] ⟨42, [(0, q1aT31 x1), (5, .own 5005), (6, q1aSSI l4), (8, .i (x2.getD n5 0)), (13, q1aI x2), (14, .i (lZ x2)), (15, .i (n5 : Int)), (1000003, .tab .u64 Lib.pow10Tab)], [(5005, q1bS_9 l6)], [], 0⟩ (an1 ob0) ?_
        refine thenQ_normal ?_
        refine AWp.seq ?_
        refine AWp.seq ?_
        have ob1 := idA (((f23z0 x2 n5) == false) = true)
        have ob2 := idA (((f23z0 x2 n5) == false) = true)
        have ob3 := idA (((f23z0 x2 n5) == false) = true)
        have ob4 := bqA (f23z0 x2 n5) false
        refine q1rr [] [] ⟨42, [(0, q1aT31 x1), (5, .own 5005), (6, q1aSSI l4), (8, .i (x2.getD n5 0)), (13, q1aI x2), (14, .i (lZ x2)), (15, .i (n5 : Int)), (26, .bool ((f23z0 x2 n5) || (decide ((x2.getD n5 0) ≥ (lZ x1))))), (1000003, .tab .u64 Lib.pow10Tab)], [(5005, q1bS_9 l6)], [], 0⟩ (an3 (an1 ob1) (an2 ob2 ob3) ob4) ?_
        refine thenQ_normal ?_
        refine AWp.cond (b := ((f23z0 x2 n5) || (decide ((x2.getD n5 0) ≥ (lZ x1))))) (by kernel_rfl) (fun hc3 => ?_) (fun hc3 => ?_)
        ·
          replace h := ite_tb hc3 h
          refine q1rq [] [] ⟨42, (f23z1), [], [], 0⟩ trivial ?_
          refine AWp.le (Le.trans (Le.nilOwn 4 3000 9 1 (encF eS [] []) rfl rfl (Nat.le_of_ble_eq_true rfl)) (Le.mk (s' := ⟨42, (f23z2), [(3000, q1bS_9 [])], [], 0⟩) rfl rfl ⟨.refl _, .refl _, trivial⟩ ⟨⟨_, rfl, .refl _⟩, trivial⟩)) ?_
          have hret := Option.some.inj h
          subst hret
          refine AWp.le (Le.mk (s' := ⟨42, [(4, .own 3000)], [(3000, q1bS_9 [])], [], 0⟩) rfl rfl ⟨.refl _, trivial⟩ ⟨⟨_, rfl, .refl _⟩, trivial⟩) ?_
          refine AWp.ret ?_
          refine thenQ_ret ?_
          refine blockQ_ret ?_
          refine thenQ_ret ?_
          refine thenQ_ret ?_
          refine blockQ_ret ?_
          refine joinQ_ret ?_
          exact bodyQ_ret _ rfl ⟨rfl, rfl⟩ rfl
        ·
          replace h := ite_fb hc3 h
          refine AWp.skip ?_
          refine thenQ_normal ?_
          refine q1rq [] [] ⟨42, [(0, q1aT31 x1), (5, .own 5005), (6, q1aSSI l4), (8, .i (x2.getD n5 0)), (13, q1aI x2), (14, .i (lZ x2)), (15, .i (n5 : Int)), (1000003, .tab .u64 Lib.pow10Tab)], [(5005, q1bS_9 l6)], [], 0⟩ trivial ?_
          refine AWp.seq ?_
          obtain ⟨r7, hr7, h⟩ := bind_ok h
          obtain ⟨ob5, h⟩ := chk_some h
          refine q1rr [] [(5, ⟨[q1aSSI l4, .agg [.i (x1.getD (((x2.getD n5 0)).toNat) q1dT31).1, .i (x1.getD (((x2.getD n5 0)).toNat) q1dT31).2.1, .i (x1.getD (((x2.getD n5 0)).toNat) q1dT31).2.2.1, .str (x1.getD (((x2.getD n5 0)).toNat) q1dT31).2.2.2.1, .str (x1.getD (((x2.getD n5 0)).toNat) q1dT31).2.2.2.2]], [], [], [], .tup [q1aSSI r7.1, .str r7.2], [], [], [3]⟩)] ⟨42, [(0, q1aT31 x1), (5, .own 5005), (6, q1aSSI r7.1), (9, .str r7.2), (13, q1aI x2), (14, .i (lZ x2)), (15, .i (n5 : Int)), (1000003, .tab .u64 Lib.pow10Tab)], [(5005, q1bS_9 l6)], [], 0⟩ (an2 ob5 (cpT (f40_ok _ _ _ _ _ _ _ hr7))) ?_
          refine thenQ_normal ?_
          obtain ⟨ob6, h⟩ := chk_some h
          refine q1rr [] [] ⟨42, [(0, q1aT31 x1), (5, .own 5005), (6, q1aSSI r7.1), (13, q1aI x2), (14, .i (lZ x2)), (15, .i (n5 : Int)), (1000003, .tab .u64 Lib.pow10Tab)], [(5005, .rows 9 1 ((l6).length + 1) (appF (l6).length (encF eS [] l6) (lstF 1 [.str r7.2])))], [], 0⟩ (an1 ob6) ?_
          refine blockQ_normal ?_
          refine thenQ_normal ?_
          refine AWp.le (Le.mk (s' := ⟨42, [(0, q1aT31 x1), (5, .own 5005), (6, q1aSSI r7.1), (13, q1aI x2), (14, .i (lZ x2)), (15, .i (n5 : Int)), (1000003, .tab .u64 Lib.pow10Tab)], [(5005, q1bS_9 (l6 ++ [r7.2]))], [], 0⟩) rfl rfl ⟨.refl _, .refl _, .refl _, .refl _, .refl _, .refl _, .refl _, trivial⟩ ⟨⟨_, rfl, (BLe.of (RL.app (RL.self _) (RL.lst (enc := eS) [r7.2] rfl rfl (fun _ => rfl))))⟩, trivial⟩) ?_
          obtain ⟨ob7p, h⟩ := chk_some h
          have ob7 : -9223372036854775808 ≤ ((n5 : Int) + (1 : Int)) ∧ ((n5 : Int) + (1 : Int)) ≤ 9223372036854775807 := ⟨by omega, ob7p⟩
          refine q1rr [] [] ⟨42, [(0, q1aT31 x1), (5, .own 5005), (6, q1aSSI r7.1), (13, q1aI x2), (14, .i (lZ x2)), (15, .i (((n5 + 1) : Nat) : Int)), (1000003, .tab .u64 Lib.pow10Tab)], [(5005, q1bS_9 (l6 ++ [r7.2]))], [], 0⟩ (an1 ob7) ?_
          rw [hC0] at h
          exact loopQ_normal (_, r7.1, (n5 + 1), (l6 ++ [r7.2])) (Le.mk rfl rfl ⟨.refl _, .refl _, .refl _, .refl _, .refl _, .refl _, .refl _, trivial⟩ ⟨⟨_, rfl, .refl _⟩, trivial⟩) h (Nat.lt_succ_self _)
      ·
        replace h := ite_fb hc2 h
        refine AWp.exit ?_
        refine thenQ_exit ?_
        refine thenQ_exit ?_
        refine blockQ_same ?_
        exact joinQ_normal (l6) (Le.mk rfl rfl ⟨.refl _, .refl _, trivial⟩ ⟨⟨_, rfl, .refl _⟩, trivial⟩) h
    ·
      rintro l8 h
      replace h := (congrFun hK1 _).symm.trans h
      refine q1rq [] [] ⟨42, [(4, .own 5005), (1000003, .tab .u64 Lib.pow10Tab)], [(5005, q1bS_9 l8)], [], 0⟩ trivial ?_
      refine AWp.le (Le.trans (Le.ren (swapN 5005 3000) (swapN_inv 5005 3000) rfl) (Le.mk (s' := ⟨42, (f23z2), [(3000, q1bS_9 l8)], [], 0⟩) rfl rfl ⟨.refl _, .refl _, trivial⟩ ⟨⟨_, rfl, .refl _⟩, trivial⟩)) ?_
      have hret := Option.some.inj h
      subst hret
      refine AWp.le (Le.mk (s' := ⟨42, [(4, .own 3000)], [(3000, q1bS_9 l8)], [], 0⟩) rfl rfl ⟨.refl _, trivial⟩ ⟨⟨_, rfl, .refl _⟩, trivial⟩) ?_
      refine AWp.ret ?_
      exact bodyQ_ret _ rfl ⟨rfl, rfl⟩ rfl
def f41b_L0 (x1 : Int) (x2 : Int) (x3 : Int) (x4 : Int) (x5 : List UInt8) (x6 : List UInt8) (x7 : List (Int × Int × Int × List UInt8 × List UInt8)) (x8 : Int) (K1 : Unit → Option (Bool × (List (Int × Int × Int × List UInt8 × List UInt8)) × Int)) : Nat → Nat → Option (Bool × (List (Int × Int × Int × List UInt8 × List UInt8)) × Int)
  | 0, _ => none
  | k + 1, n9 =>
    if (decide ((n9 : Int) < (((x7).length : Nat) : Int))) then (
    chk ((n9 : Int) < (((x7).length : Nat) : Int)) <|
    optc (((bitsI .and .u64 (x1 / 2 ^ n9) (1 : Int)) == (1 : Int)) == true) (f31 x2 x3 x4 x5 x6 ((x7.getD n9 (default : Int × Int × Int × List UInt8 × List UInt8)).1) ((x7.getD n9 (default : Int × Int × Int × List UInt8 × List UInt8)).2.1) ((x7.getD n9 (default : Int × Int × Int × List UInt8 × List UInt8)).2.2.1) ((x7.getD n9 (default : Int × Int × Int × List UInt8 × List UInt8)).2.2.2.1) ((x7.getD n9 (default : Int × Int × Int × List UInt8 × List UInt8)).2.2.2.2)) fun (r10 : Bool) =>
    chk (n9 ≤ IntKind.bits .u64) <|
    if (((bitsI .and .u64 (x1 / 2 ^ n9) (1 : Int)) == (1 : Int)) && r10) then (
    some (false, x7, x8)
    ) else (
    chk (((n9 : Int) + (1 : Int)) ≤ 9223372036854775807) <|
    (f41b_L0 x1 x2 x3 x4 x5 x6 x7 x8 K1 k) (n9 + 1)
    )
    ) else (
    K1 ()
    )
abbrev f41bz0 (x7 : List (Int × Int × Int × List UInt8 × List UInt8)) (n9 : Nat) := (x7.getD n9 (default : Int × Int × Int × List UInt8 × List UInt8))
abbrev f41bz1 (x2 : Int) (x3 : Int) (x4 : Int) (x5 : List UInt8) (x6 : List UInt8) : List V := [.int .i64 x2, .int .i64 x3, .int .i64 x4, .str x5, .str x6]
def f41b (x1 : Int) (x2 : Int) (x3 : Int) (x4 : Int) (x5 : List UInt8) (x6 : List UInt8) (x7 : List (Int × Int × Int × List UInt8 × List UInt8)) (x8 : Int) : Option (Bool × (List (Int × Int × Int × List UInt8 × List UInt8)) × Int) :=
  jn (fun (_ : Unit) =>
  some (true, x7, x8)
  ) fun (K1 : Unit → Option (Bool × (List (Int × Int × Int × List UInt8 × List UInt8)) × Int)) =>
  f41b_L0 x1 x2 x3 x4 x5 x6 x7 x8 K1 FUEL 0
set_option maxRecDepth 100000 in
theorem f41b_ok  (x1 : Int) (x2 : Int) (x3 : Int) (x4 : Int) (x5 : List UInt8) (x6 : List UInt8) (x7 : List (Int × Int × Int × List UInt8 × List UInt8)) (x8 : Int) (r : Bool × (List (Int × Int × Int × List UInt8 × List UInt8)) × Int) (h : f41b x1 x2 x3 x4 x5 x6 x7 x8 = some r)  : Spec1 Tryz.prog 41 [] [2000] [(2000, .cells 64 [vL 5 eT31 (default : Int × Int × Int × List UInt8 × List UInt8) x7, .fn (.func 31) [], .int .u64 x8, .lit (.map none)])] [.ptr 2000 0, .int .u64 x1, .agg [.int .i64 x2, .int .i64 x3, .int .i64 x4, .str x5, .str x6]] (.bool r.1) [(2000, .cells 64 [vL 5 eT31 (default : Int × Int × Int × List UInt8 × List UInt8) r.2.1, .fn (.func 31) [], .int .u64 r.2.2, .lit (.map none)])] := by
  unfold f41b at h
  refine Spec1.body 0 _ _ Tryz.func41 rfl Tryz.ntmps41 rfl rfl ?_
  refine q1rq [] [] ⟨34, [(0, .ptr 2000 0), (1, .int .u64 x1), (5, .ptr 5 0)], [(5, .cells 31 (f41bz1 x2 x3 x4 x5 x6)), (2000, .cells 64 [q1aT31 x7, .fn (.func 31) [], .int .u64 x8, .lit (.map none)])], [2000], 0⟩ trivial ?_
  obtain ⟨K1, hK1, h⟩ := jn_some h
  refine AWp.join (α := Unit) (fun (x : Unit) => match x with | () => ⟨34, [], [(2000, .cells 64 [q1aT31 x7, .fn (.func 31) [], .int .u64 x8, .lit (.map none)])], [2000], 0⟩) (fun x => K1 x = some r) ?_ ?_
  ·
    refine q1rq [] [] ⟨34, [(0, .ptr 2000 0), (1, .int .u64 x1), (5, .ptr 5 0), (12, q1aT31 x7), (13, .i (lZ x7)), (14, .i (0 : Int))], [(5, .cells 31 (f41bz1 x2 x3 x4 x5 x6)), (2000, .cells 64 [q1aT31 x7, .fn (.func 31) [], .int .u64 x8, .lit (.map none)])], [2000], 0⟩ trivial ?_
    refine AWp.block ?_
    refine AWp.loopL (α := Nat × Nat) (fun x => match x with | (_, n9) => ⟨34, [(0, .ptr 2000 0), (1, .int .u64 x1), (5, .ptr 5 0), (12, q1aT31 x7), (13, .i (lZ x7)), (14, .i (n9 : Int))], [(5, .cells 31 (f41bz1 x2 x3 x4 x5 x6)), (2000, .cells 64 [q1aT31 x7, .fn (.func 31) [], .int .u64 x8, .lit (.map none)])], [2000], 0⟩) (fun x => f41b_L0 x1 x2 x3 x4 x5 x6 x7 x8 K1 x.1 x.2 = some r) (fun x => x.1) (FUEL, 0) (Le.mk (s' := ⟨34, [(0, .ptr 2000 0), (1, .int .u64 x1), (5, .ptr 5 0), (12, q1aT31 x7), (13, .i (lZ x7)), (14, .i (0 : Int))], [(5, .cells 31 (f41bz1 x2 x3 x4 x5 x6)), (2000, .cells 64 [q1aT31 x7, .fn (.func 31) [], .int .u64 x8, .lit (.map none)])], [2000], 0⟩) rfl rfl ⟨.refl _, .refl _, .refl _, .refl _, .refl _, .refl _, trivial⟩ ⟨⟨_, rfl, .refl _⟩, ⟨_, rfl, .refl _⟩, trivial⟩) h ?_
    rintro ⟨k0, n9⟩ h
    cases k0 with
    | zero => exact nomatch (show (none : Option (Bool × (List (Int × Int × Int × List UInt8 × List UInt8)) × Int)) = some r from h)
    | succ k0 =>
    obtain ⟨C0, hC0⟩ : ∃ C, C = f41b_L0 x1 x2 x3 x4 x5 x6 x7 x8 K1 k0 := ⟨_, rfl⟩
    replace h := (f41b_L0.eq_2 ..).symm.trans h
    try rw [← hC0] at h
    refine q1rq [] [] ⟨34, [(0, .ptr 2000 0), (1, .int .u64 x1), (5, .ptr 5 0), (12, q1aT31 x7), (13, .i (lZ x7)), (14, .i (n9 : Int)), (15, .bool (decide ((n9 : Int) < (lZ x7))))], [(5, .cells 31 (f41bz1 x2 x3 x4 x5 x6)), (2000, .cells 64 [q1aT31 x7, .fn (.func 31) [], .int .u64 x8, .lit (.map none)])], [2000], 0⟩ trivial ?_
    refine AWp.seq ?_
    refine AWp.cond (b := (decide ((n9 : Int) < (lZ x7)))) (by kernel_rfl) (fun hc1 => ?_) (fun hc1 => ?_)
    ·
      replace h := ite_tb hc1 h
      refine AWp.skip ?_
      refine thenQ_normal ?_
      refine AWp.seq ?_
      refine AWp.block ?_
      refine AWp.seq ?_
      obtain ⟨ob0p, h⟩ := chk_some h
      have ob0 : 0 ≤ (n9 : Int) ∧ (n9 : Int) < (((x7).length : Nat) : Int) := ⟨by omega, ob0p⟩
      refine q1rr [] [] ⟨34, [(0, .ptr 2000 0), (1, .int .u64 x1), (5, .ptr 5 0), (7, .i (n9 : Int)), (8, .ptr 8 0), (12, q1aT31 x7), (13, .i (lZ x7)), (14, .i (n9 : Int))], [(5, .cells 31 (f41bz1 x2 x3 x4 x5 x6)), (8, .cells 31 [.i (f41bz0 x7 n9).1, .i (f41bz0 x7 n9).2.1, .i (f41bz0 x7 n9).2.2.1, .str (f41bz0 x7 n9).2.2.2.1, .str (f41bz0 x7 n9).2.2.2.2]), (2000, .cells 64 [q1aT31 x7, .fn (.func 31) [], .int .u64 x8, .lit (.map none)])], [2000], 0⟩ (an2 ob0 trivial) ?_
      refine thenQ_normal ?_
      refine AWp.seq ?_
      obtain ⟨r10, hr10, h⟩ := optc_some h
      obtain ⟨ob1p, h⟩ := chk_some h
      have ob1 : 0 ≤ (n9 : Int) ∧ n9 ≤ IntKind.bits .u64 := ⟨by omega, ob1p⟩
      have ob2 := idA ((((bitsI .and .u64 (x1 / 2 ^ n9) (1 : Int)) == (1 : Int)) == true) = true)
      have ob3 := idA ((((bitsI .and .u64 (x1 / 2 ^ n9) (1 : Int)) == (1 : Int)) == true) = true)
      have ob4 := idA ((((bitsI .and .u64 (x1 / 2 ^ n9) (1 : Int)) == (1 : Int)) == true) = true)
      have ob5 := idA ((((bitsI .and .u64 (x1 / 2 ^ n9) (1 : Int)) == (1 : Int)) == true) = true)
      have ob6 := idA ((((bitsI .and .u64 (x1 / 2 ^ n9) (1 : Int)) == (1 : Int)) == true) = true)
      have ob7 := idA ((((bitsI .and .u64 (x1 / 2 ^ n9) (1 : Int)) == (1 : Int)) == true) = true)
      have ob8 := bqA ((bitsI .and .u64 (x1 / 2 ^ n9) (1 : Int)) == (1 : Int)) true
      refine q1rr [] [(12, ⟨[.agg (f41bz1 x2 x3 x4 x5 x6), .agg [.i (f41bz0 x7 n9).1, .i (f41bz0 x7 n9).2.1, .i (f41bz0 x7 n9).2.2.1, .str (f41bz0 x7 n9).2.2.2.1, .str (f41bz0 x7 n9).2.2.2.2]], [], [], [], .bool r10, [], [], []⟩)] ⟨34, [(0, .ptr 2000 0), (1, .int .u64 x1), (5, .ptr 5 0), (12, q1aT31 x7), (13, .i (lZ x7)), (14, .i (n9 : Int)), (32, .bool (((bitsI .and .u64 (x1 / 2 ^ n9) (1 : Int)) == (1 : Int)) && r10))], [(5, .cells 31 (f41bz1 x2 x3 x4 x5 x6)), (2000, .cells 64 [q1aT31 x7, .fn (.func 31) [], .int .u64 x8, .lit (.map none)])], [2000], 0⟩ (an6 ob1 (an1 ob2) (an1 ob3) (an1 ob4) (And.intro (cpC fun hc => (f31_ok _ _ _ _ _ _ _ _ _ _ _ (hr10 hc))) (an3 ob5 ob6 ob7)) ob8) ?_
      refine thenQ_normal ?_
      refine AWp.cond (b := (((bitsI .and .u64 (x1 / 2 ^ n9) (1 : Int)) == (1 : Int)) && r10)) (by kernel_rfl) (fun hc2 => ?_) (fun hc2 => ?_)
      ·
        replace h := ite_tb hc2 h
        refine q1rq [] [] ⟨34, [(6, .bool false)], [(2000, .cells 64 [q1aT31 x7, .fn (.func 31) [], .int .u64 x8, .lit (.map none)])], [2000], 0⟩ trivial ?_
        have hret := Option.some.inj h
        subst hret
        refine AWp.le (Le.mk (s' := ⟨34, [(6, .bool false)], [(2000, .cells 64 [q1aT31 x7, .fn (.func 31) [], .int .u64 x8, .lit (.map none)])], [2000], 0⟩) rfl rfl ⟨.refl _, trivial⟩ ⟨⟨_, rfl, .refl _⟩, trivial⟩) ?_
        refine AWp.ret ?_
        refine blockQ_ret ?_
        refine thenQ_ret ?_
        refine thenQ_ret ?_
        refine blockQ_ret ?_
        refine joinQ_ret ?_
        exact bodyQ_ret _ rfl ⟨rfl, rfl⟩ rfl
      ·
        replace h := ite_fb hc2 h
        refine AWp.skip ?_
        refine blockQ_normal ?_
        refine thenQ_normal ?_
        obtain ⟨ob9p, h⟩ := chk_some h
        have ob9 : -9223372036854775808 ≤ ((n9 : Int) + (1 : Int)) ∧ ((n9 : Int) + (1 : Int)) ≤ 9223372036854775807 := ⟨by omega, ob9p⟩
        refine q1rr [] [] ⟨34, [(0, .ptr 2000 0), (1, .int .u64 x1), (5, .ptr 5 0), (12, q1aT31 x7), (13, .i (lZ x7)), (14, .i (((n9 + 1) : Nat) : Int))], [(5, .cells 31 (f41bz1 x2 x3 x4 x5 x6)), (2000, .cells 64 [q1aT31 x7, .fn (.func 31) [], .int .u64 x8, .lit (.map none)])], [2000], 0⟩ (an1 ob9) ?_
        rw [hC0] at h
        exact loopQ_normal (_, (n9 + 1)) (Le.mk rfl rfl ⟨.refl _, .refl _, .refl _, .refl _, .refl _, .refl _, trivial⟩ ⟨⟨_, rfl, .refl _⟩, ⟨_, rfl, .refl _⟩, trivial⟩) h (Nat.lt_succ_self _)
    ·
      replace h := ite_fb hc1 h
      refine AWp.exit ?_
      refine thenQ_exit ?_
      refine thenQ_exit ?_
      refine blockQ_same ?_
      exact joinQ_normal () (Le.mk rfl rfl trivial ⟨⟨_, rfl, .refl _⟩, trivial⟩) h
  ·
    rintro ⟨⟩ h
    replace h := (congrFun hK1 _).symm.trans h
    refine q1rq [] [] ⟨34, [(6, .bool true)], [(2000, .cells 64 [q1aT31 x7, .fn (.func 31) [], .int .u64 x8, .lit (.map none)])], [2000], 0⟩ trivial ?_
    have hret := Option.some.inj h
    subst hret
    refine AWp.le (Le.mk (s' := ⟨34, [(6, .bool true)], [(2000, .cells 64 [q1aT31 x7, .fn (.func 31) [], .int .u64 x8, .lit (.map none)])], [2000], 0⟩) rfl rfl ⟨.refl _, trivial⟩ ⟨⟨_, rfl, .refl _⟩, trivial⟩) ?_
    refine AWp.ret ?_
    exact bodyQ_ret _ rfl ⟨rfl, rfl⟩ rfl
def f24_L0 (x1 : List (Int × Int × Int × List UInt8 × List UInt8)) (x2 : List Int) (K1 : Int → Option Bool) : Nat → (Int × (List (List UInt8 × List UInt8 × Int)) × Nat × (List (Int × Int × Int × List UInt8 × List UInt8)) × Int) → Option Bool
  | 0, _ => none
  | k + 1, (i4, l5, n6, l7, i9) =>
    if (decide ((n6 : Int) < (((x2).length : Nat) : Int))) then (
    chk ((n6 : Int) < (((x2).length : Nat) : Int)) <|
    if (((decide ((x2.getD n6 0) < (0 : Int))) || (decide ((x2.getD n6 0) ≥ (((x1).length : Nat) : Int)))) || ((bitsI .and .u64 (i4 / 2 ^ (((x2.getD n6 0)).toNat)) (1 : Int)) == (1 : Int))) = true then (
    chk ((((decide ((x2.getD n6 0) < (0 : Int))) || (decide ((x2.getD n6 0) ≥ (((x1).length : Nat) : Int)))) == false) = true → 0 ≤ (x2.getD n6 0) ∧ ((x2.getD n6 0)).toNat ≤ IntKind.bits .u64) <|
    chk (false = true → 0 ≤ (x2.getD n6 0) ∧ (x2.getD n6 0) < (((x1).length : Nat) : Int)) <|
    some false
    ) else (
    (f41b i4 ((x1.getD (((x2.getD n6 0)).toNat) (default : Int × Int × Int × List UInt8 × List UInt8)).1) ((x1.getD (((x2.getD n6 0)).toNat) (default : Int × Int × Int × List UInt8 × List UInt8)).2.1) ((x1.getD (((x2.getD n6 0)).toNat) (default : Int × Int × Int × List UInt8 × List UInt8)).2.2.1) ((x1.getD (((x2.getD n6 0)).toNat) (default : Int × Int × Int × List UInt8 × List UInt8)).2.2.2.1) ((x1.getD (((x2.getD n6 0)).toNat) (default : Int × Int × Int × List UInt8 × List UInt8)).2.2.2.2) l7 i9).bind fun (r10 : Bool × (List (Int × Int × Int × List UInt8 × List UInt8)) × Int) =>
    chk ((((decide ((x2.getD n6 0) < (0 : Int))) || (decide ((x2.getD n6 0) ≥ (((x1).length : Nat) : Int)))) == false) = true → 0 ≤ (x2.getD n6 0) ∧ ((x2.getD n6 0)).toNat ≤ IntKind.bits .u64) <|
    chk (true = true → 0 ≤ (x2.getD n6 0) ∧ (x2.getD n6 0) < (((x1).length : Nat) : Int)) <|
    if (!r10.1) then (
    some false
    ) else (
    chk (0 ≤ (x2.getD n6 0) ∧ ((x2.getD n6 0)).toNat ≤ IntKind.bits .u64 ∧ 0 ≤ ((1 : Int) * 2 ^ (((x2.getD n6 0)).toNat)) ∧ ((1 : Int) * 2 ^ (((x2.getD n6 0)).toNat)) ≤ 18446744073709551615) <|
    (f40 l5 ((x1.getD (((x2.getD n6 0)).toNat) (default : Int × Int × Int × List UInt8 × List UInt8)).1) ((x1.getD (((x2.getD n6 0)).toNat) (default : Int × Int × Int × List UInt8 × List UInt8)).2.1) ((x1.getD (((x2.getD n6 0)).toNat) (default : Int × Int × Int × List UInt8 × List UInt8)).2.2.1) ((x1.getD (((x2.getD n6 0)).toNat) (default : Int × Int × Int × List UInt8 × List UInt8)).2.2.2.1) ((x1.getD (((x2.getD n6 0)).toNat) (default : Int × Int × Int × List UInt8 × List UInt8)).2.2.2.2)).bind fun (r11 : (List (List UInt8 × List UInt8 × Int)) × List UInt8) =>
    chk (0 ≤ (x2.getD n6 0) ∧ (x2.getD n6 0) < (((x1).length : Nat) : Int)) <|
    (f36 ((x1.getD (((x2.getD n6 0)).toNat) (default : Int × Int × Int × List UInt8 × List UInt8)).1) ((x1.getD (((x2.getD n6 0)).toNat) (default : Int × Int × Int × List UInt8 × List UInt8)).2.1) ((x1.getD (((x2.getD n6 0)).toNat) (default : Int × Int × Int × List UInt8 × List UInt8)).2.2.1) ((x1.getD (((x2.getD n6 0)).toNat) (default : Int × Int × Int × List UInt8 × List UInt8)).2.2.2.1) ((x1.getD (((x2.getD n6 0)).toNat) (default : Int × Int × Int × List UInt8 × List UInt8)).2.2.2.2)).bind fun (r12 : Bool) =>
    chk (0 ≤ (x2.getD n6 0) ∧ (x2.getD n6 0) < (((x1).length : Nat) : Int)) <|
    chk (((!r12) == true) = true → 0 ≤ (x2.getD n6 0) ∧ (x2.getD n6 0) < (((x1).length : Nat) : Int)) <|
    if ((!r12) && (!(r11.2 == ((x1.getD (((x2.getD n6 0)).toNat) (default : Int × Int × Int × List UInt8 × List UInt8)).2.2.2.2)))) then (
    some false
    ) else (
    chk (((n6 : Int) + (1 : Int)) ≤ 9223372036854775807) <|
    (f24_L0 x1 x2 K1 k) ((bitsI .or .u64 i4 ((1 : Int) * 2 ^ (((x2.getD n6 0)).toNat))), r11.1, (n6 + 1), r10.2.1, r10.2.2)
    )
    )
    )
    ) else (
    K1 i4
    )
def f24_L1 (x1 : List (Int × Int × Int × List UInt8 × List UInt8)) (i13 : Int) (K2 : Unit → Option Bool) : Nat → Nat → Option Bool
  | 0, _ => none
  | k + 1, n14 =>
    if (decide ((n14 : Int) < (((x1).length : Nat) : Int))) then (
    chk ((n14 : Int) < (((x1).length : Nat) : Int)) <|
    (f36 ((x1.getD n14 (default : Int × Int × Int × List UInt8 × List UInt8)).1) ((x1.getD n14 (default : Int × Int × Int × List UInt8 × List UInt8)).2.1) ((x1.getD n14 (default : Int × Int × Int × List UInt8 × List UInt8)).2.2.1) ((x1.getD n14 (default : Int × Int × Int × List UInt8 × List UInt8)).2.2.2.1) ((x1.getD n14 (default : Int × Int × Int × List UInt8 × List UInt8)).2.2.2.2)).bind fun (r15 : Bool) =>
    chk (((!r15) == true) = true → 0 ≤ (n14 : Int) ∧ n14 ≤ IntKind.bits .u64) <|
    if ((!r15) && ((bitsI .and .u64 (i13 / 2 ^ n14) (1 : Int)) == (0 : Int))) then (
    some false
    ) else (
    chk (((n14 : Int) + (1 : Int)) ≤ 9223372036854775807) <|
    (f24_L1 x1 i13 K2 k) (n14 + 1)
    )
    ) else (
    K2 ()
    )
abbrev f24z0 (x1 : List (Int × Int × Int × List UInt8 × List UInt8)) (x2 : List Int) (n6 : Nat) : List V := [.int .i64 (x1.getD (((x2.getD n6 0)).toNat) (default : Int × Int × Int × List UInt8 × List UInt8)).1, .int .i64 (x1.getD (((x2.getD n6 0)).toNat) (default : Int × Int × Int × List UInt8 × List UInt8)).2.1, .int .i64 (x1.getD (((x2.getD n6 0)).toNat) (default : Int × Int × Int × List UInt8 × List UInt8)).2.2.1, .str (x1.getD (((x2.getD n6 0)).toNat) (default : Int × Int × Int × List UInt8 × List UInt8)).2.2.2.1, .str (x1.getD (((x2.getD n6 0)).toNat) (default : Int × Int × Int × List UInt8 × List UInt8)).2.2.2.2]
abbrev f24z1 (x2 : List Int) (n6 : Nat) := (decide ((x2.getD n6 0) < (0 : Int)))
abbrev f24z2 (x1 : List (Int × Int × Int × List UInt8 × List UInt8)) (n14 : Nat) := (x1.getD n14 (default : Int × Int × Int × List UInt8 × List UInt8))
abbrev f24z3 : List (Nat × V) := [(4, .bool false), (1000003, .tab .u64 Lib.pow10Tab)]
abbrev f24z4 (r3 : Int) := ((r3 != (0 : Int)) == false)
abbrev f24z5 (x2 : List Int) (n6 : Nat) := ((f24z1 x2 n6) == false)
def f24 (x1 : List (Int × Int × Int × List UInt8 × List UInt8)) (x2 : List Int) : Option Bool :=
  (f17 x1).bind fun (r3 : Int) =>
  if ((r3 != (0 : Int)) || (decide ((((x2).length : Nat) : Int) > (((x1).length : Nat) : Int)))) then (
  some false
  ) else (
  jn (fun (i13 : Int) =>
  jn (fun (_ : Unit) =>
  some true
  ) fun (K2 : Unit → Option Bool) =>
  f24_L1 x1 i13 K2 FUEL 0
  ) fun (K1 : Int → Option Bool) =>
  f24_L0 x1 x2 K1 FUEL ((0 : Int), [], 0, x1, (0 : Int))
  )
set_option maxRecDepth 100000 in
theorem f24_ok  (x1 : List (Int × Int × Int × List UInt8 × List UInt8)) (x2 : List Int) (r : Bool) (h : f24 x1 x2 = some r)  : Spec1 Tryz.prog 24 [(3, .tab .u64 Lib.pow10Tab)] [] [] [vL 5 eT31 (default : Int × Int × Int × List UInt8 × List UInt8) x1, vL 1 eI 0 x2] (.bool r) [] := by
  unfold f24 at h
  refine Spec1.body 0 _ _ Tryz.func24 rfl Tryz.ntmps24 rfl rfl ?_
  refine q1rq [] [] ⟨104, [(0, q1aT31 x1), (1, q1aI x2), (1000003, .tab .u64 Lib.pow10Tab)], [], [], 0⟩ trivial ?_
  refine AWp.seq ?_
  refine AWp.seq ?_
  obtain ⟨r3, hr3, h⟩ := bind_ok h
  have ob0 := idA ((f24z4 r3) = true)
  have ob1 := idA ((f24z4 r3) = true)
  have ob2 := idA ((f24z4 r3) = true)
  have ob3 := idA ((f24z4 r3) = true)
  have ob4 : true = true → (r3 != (0 : Int)) = false → (f24z4 r3) = true := fun _ h => beq_iff_eq.2 h
  refine q1rr [] [(1, ⟨[q1aT31 x1], [], [], [], .i r3, [], [], []⟩)] ⟨104, [(0, q1aT31 x1), (1, q1aI x2), (22, .bool ((r3 != (0 : Int)) || (decide ((lZ x2) > (lZ x1))))), (1000003, .tab .u64 Lib.pow10Tab)], [], [], 0⟩ (an5 (cpT (f17_ok _ _ hr3)) (an1 ob0) (an1 ob1) (an2 ob2 ob3) ob4) ?_
  refine thenQ_normal ?_
  refine AWp.cond (b := ((r3 != (0 : Int)) || (decide ((lZ x2) > (lZ x1))))) (by kernel_rfl) (fun hc1 => ?_) (fun hc1 => ?_)
  ·
    replace h := ite_tb hc1 h
    refine q1rq [] [] ⟨104, (f24z3), [], [], 0⟩ trivial ?_
    have hret := Option.some.inj h
    subst hret
    refine AWp.le (Le.mk (s' := ⟨104, [(4, .bool false)], [], [], 0⟩) rfl rfl ⟨.refl _, trivial⟩ trivial) ?_
    refine AWp.ret ?_
    refine thenQ_ret ?_
    exact bodyQ_ret _ rfl ⟨rfl, rfl⟩ rfl
  ·
    replace h := ite_fb hc1 h
    refine AWp.skip ?_
    refine thenQ_normal ?_
    refine q1rq [] [] ⟨104, [(0, q1aT31 x1), (1, q1aI x2), (5, .ptr 25 0), (1000003, .tab .u64 Lib.pow10Tab)], [(25, .cells 64 [q1aT31 x1, .fn (.func 31) [], .int .u64 (0 : Int), .lit (.map none)])], [], 0⟩ trivial ?_
    refine q1rq [] [] ⟨104, [(0, q1aT31 x1), (1, q1aI x2), (5, .ptr 25 0), (6, .int .u64 (0 : Int)), (1000003, .tab .u64 Lib.pow10Tab)], [(25, .cells 64 [q1aT31 x1, .fn (.func 31) [], .int .u64 (0 : Int), .lit (.map none)])], [], 0⟩ trivial ?_
    refine q1rq [] [] ⟨104, [(0, q1aT31 x1), (1, q1aI x2), (5, .ptr 25 0), (6, .int .u64 (0 : Int)), (7, .nils), (1000003, .tab .u64 Lib.pow10Tab)], [(25, .cells 64 [q1aT31 x1, .fn (.func 31) [], .int .u64 (0 : Int), .lit (.map none)])], [], 0⟩ trivial ?_
    obtain ⟨K1, hK1, h⟩ := jn_some h
    refine AWp.join (α := Int) (fun (i13 : Int) => ⟨104, [(0, q1aT31 x1), (6, .int .u64 i13), (1000003, .tab .u64 Lib.pow10Tab)], [], [], 0⟩) (fun x => K1 x = some r) ?_ ?_
    ·
      refine q1rq [] [] ⟨104, [(0, q1aT31 x1), (5, .ptr 25 0), (6, .int .u64 (0 : Int)), (7, .nils), (26, q1aI x2), (27, .i (lZ x2)), (28, .i (0 : Int)), (1000003, .tab .u64 Lib.pow10Tab)], [(25, .cells 64 [q1aT31 x1, .fn (.func 31) [], .int .u64 (0 : Int), .lit (.map none)])], [], 0⟩ trivial ?_
      refine AWp.block ?_
      refine AWp.loopL (α := Nat × (Int × (List (List UInt8 × List UInt8 × Int)) × Nat × (List (Int × Int × Int × List UInt8 × List UInt8)) × Int)) (fun x => match x with | (_, i4, l5, n6, l7, i9) => ⟨104, [(0, q1aT31 x1), (5, .ptr 25 0), (6, .int .u64 i4), (7, q1aSSI l5), (26, q1aI x2), (27, .i (lZ x2)), (28, .i (n6 : Int)), (1000003, .tab .u64 Lib.pow10Tab)], [(25, .cells 64 [q1aT31 l7, .fn (.func 31) [], .int .u64 i9, .lit (.map none)])], [], 0⟩) (fun x => f24_L0 x1 x2 K1 x.1 x.2 = some r) (fun x => x.1) (FUEL, (0 : Int), [], 0, x1, (0 : Int)) (Le.mk (s' := ⟨104, [(0, q1aT31 x1), (5, .ptr 25 0), (6, .int .u64 (0 : Int)), (7, q1aSSI []), (26, q1aI x2), (27, .i (lZ x2)), (28, .i (0 : Int)), (1000003, .tab .u64 Lib.pow10Tab)], [(25, .cells 64 [q1aT31 x1, .fn (.func 31) [], .int .u64 (0 : Int), .lit (.map none)])], [], 0⟩) rfl rfl ⟨.refl _, .refl _, .refl _, .nilL, .refl _, .refl _, .refl _, .refl _, trivial⟩ ⟨⟨_, rfl, .refl _⟩, trivial⟩) h ?_
      rintro ⟨k0, i4, l5, n6, l7, i9⟩ h
      cases k0 with
      | zero => exact nomatch (show (none : Option Bool) = some r from h)
      | succ k0 =>
      obtain ⟨C0, hC0⟩ : ∃ C, C = f24_L0 x1 x2 K1 k0 := ⟨_, rfl⟩
      replace h := (f24_L0.eq_2 ..).symm.trans h
      try rw [← hC0] at h
      refine q1rq [] [] ⟨104, [(0, q1aT31 x1), (5, .ptr 25 0), (6, .int .u64 i4), (7, q1aSSI l5), (26, q1aI x2), (27, .i (lZ x2)), (28, .i (n6 : Int)), (29, .bool (decide ((n6 : Int) < (lZ x2)))), (1000003, .tab .u64 Lib.pow10Tab)], [(25, .cells 64 [q1aT31 l7, .fn (.func 31) [], .int .u64 i9, .lit (.map none)])], [], 0⟩ trivial ?_
      refine AWp.seq ?_
      refine AWp.cond (b := (decide ((n6 : Int) < (lZ x2)))) (by kernel_rfl) (fun hc2 => ?_) (fun hc2 => ?_)
      ·
        replace h := ite_tb hc2 h
        refine AWp.skip ?_
        refine thenQ_normal ?_
        refine AWp.seq ?_
        refine AWp.block ?_
        refine AWp.seq ?_
        obtain ⟨ob5p, h⟩ := chk_some h
        have ob5 : 0 ≤ (n6 : Int) ∧ (n6 : Int) < (((x2).length : Nat) : Int) := ⟨by omega, ob5p⟩
        refine q1rr [] [] ⟨104, [(0, q1aT31 x1), (5, .ptr 25 0), (6, .int .u64 i4), (7, q1aSSI l5), (9, .i (x2.getD n6 0)), (26, q1aI x2), (27, .i (lZ x2)), (28, .i (n6 : Int)), (1000003, .tab .u64 Lib.pow10Tab)], [(25, .cells 64 [q1aT31 l7, .fn (.func 31) [], .int .u64 i9, .lit (.map none)])], [], 0⟩ (an1 ob5) ?_
        refine thenQ_normal ?_
        refine AWp.seq ?_
        refine AWp.seq ?_
        by_cases hg9_15 : (((decide ((x2.getD n6 0) < (0 : Int))) || (decide ((x2.getD n6 0) ≥ (((x1).length : Nat) : Int)))) || ((bitsI .and .u64 (i4 / 2 ^ (((x2.getD n6 0)).toNat)) (1 : Int)) == (1 : Int))) = true
        ·
          replace h := ite_t hg9_15 h
          have ob6 := idA ((f24z5 x2 n6) = true)
          have ob7 := idA ((f24z5 x2 n6) = true)
          have ob8 := idA ((f24z5 x2 n6) = true)
          have ob9 : true = true → (f24z1 x2 n6) = false → (f24z5 x2 n6) = true := fun _ h => beq_iff_eq.2 h
          obtain ⟨ob10, h⟩ := chk_some h
          have ob11 := idA ((((f24z1 x2 n6) || (decide ((x2.getD n6 0) ≥ (lZ x1)))) == false) = true)
          have ob12 := idA ((((f24z1 x2 n6) || (decide ((x2.getD n6 0) ≥ (lZ x1)))) == false) = true)
          have ob13 := idA ((((f24z1 x2 n6) || (decide ((x2.getD n6 0) ≥ (lZ x1)))) == false) = true)
          have ob14 := idA ((((f24z1 x2 n6) || (decide ((x2.getD n6 0) ≥ (lZ x1)))) == false) = true)
          have ob15 := bqA ((f24z1 x2 n6) || (decide ((x2.getD n6 0) ≥ (lZ x1)))) false
          obtain ⟨ob16, h⟩ := chk_some h
          have ob17 := idA (false = true)
          have ob18 := idA (false = true)
          have ob19 := idA (false = true)
          have ob20 := idA (false = true)
          have ob21 := idA (false = true)
          have ob22 := idA (false = true)
          have ob23 := idA (false = true)
          have ob24 : true = true → true = false → false = true := by first | decide | omega | simp | (intro h; cases h)
          refine q1rr [] [(15, ⟨[], [], [], [], (.bool true), [], [0], []⟩), (22, ⟨[], [], [], [], .bool false, [], [], []⟩)] ⟨104, [(0, q1aT31 x1), (5, .ptr 25 0), (6, .int .u64 i4), (7, q1aSSI l5), (9, .i (x2.getD n6 0)), (26, q1aI x2), (27, .i (lZ x2)), (28, .i (n6 : Int)), (56, .bool true), (1000003, .tab .u64 Lib.pow10Tab)], [(25, .cells 64 [q1aT31 l7, .fn (.func 31) [], .int .u64 i9, .lit (.map none)])], [], 0⟩ (ac6 (an1 ob6) (an2 ob7 ob8) ob9 (And.intro ob10 (an2 ob11 ob12)) (an1 ob13) (an1 ob14) (ac6 ob15 (show ((.bool (((f24z1 x2 n6) || (decide ((x2.getD n6 0) ≥ (lZ x1)))) || ((bitsI .and .u64 (i4 / 2 ^ (((x2.getD n6 0)).toNat)) (1 : Int)) == (1 : Int)))) : V) = (.bool true) from (congrArg (fun x => ((.bool x) : V)) hg9_15)) (And.intro ob16 (an2 ob17 ob18)) (an1 ob19) (And.intro (show (callP Tryz.prog false 41 [] [] [] [] [] [.ptr 25 0, .int .u64 i4, .agg (f24z0 x1 x2 n6)] [] (.bool false) []) from ⟨nofun, nofun, .inl rfl⟩) (an3 ob20 ob21 ob22)) (an1 ob23) (an1 ob24))) ?_
          refine thenQ_normal ?_
          refine AWp.cond (b := true) (by kernel_rfl) (fun hc => ?_) (fun hc => ?_)
          ·
            clear hc
            refine q1rq [] [] ⟨104, (f24z3), [], [], 0⟩ trivial ?_
            have hret := Option.some.inj h
            subst hret
            refine AWp.le (Le.mk (s' := ⟨104, [(4, .bool false)], [], [], 0⟩) rfl rfl ⟨.refl _, trivial⟩ trivial) ?_
            refine AWp.ret ?_
            refine thenQ_ret ?_
            refine blockQ_ret ?_
            refine thenQ_ret ?_
            refine thenQ_ret ?_
            refine blockQ_ret ?_
            refine joinQ_ret ?_
            exact bodyQ_ret _ rfl ⟨rfl, rfl⟩ rfl
          ·
            cases hc
        ·
          replace h := ite_f hg9_15 h
          obtain ⟨r10, hr10, h⟩ := bind_ok h
          have ob6 := idA ((f24z5 x2 n6) = true)
          have ob7 := idA ((f24z5 x2 n6) = true)
          have ob8 := idA ((f24z5 x2 n6) = true)
          have ob9 : true = true → (f24z1 x2 n6) = false → (f24z5 x2 n6) = true := fun _ h => beq_iff_eq.2 h
          obtain ⟨ob10, h⟩ := chk_some h
          have ob11 := idA ((((f24z1 x2 n6) || (decide ((x2.getD n6 0) ≥ (lZ x1)))) == false) = true)
          have ob12 := idA ((((f24z1 x2 n6) || (decide ((x2.getD n6 0) ≥ (lZ x1)))) == false) = true)
          have ob13 := idA ((((f24z1 x2 n6) || (decide ((x2.getD n6 0) ≥ (lZ x1)))) == false) = true)
          have ob14 := idA ((((f24z1 x2 n6) || (decide ((x2.getD n6 0) ≥ (lZ x1)))) == false) = true)
          have ob15 := bqA ((f24z1 x2 n6) || (decide ((x2.getD n6 0) ≥ (lZ x1)))) false
          obtain ⟨ob16, h⟩ := chk_some h
          have ob17 := idA (true = true)
          have ob18 := idA (true = true)
          have ob19 := idA (true = true)
          have ob20 := idA (true = true)
          have ob21 := idA (true = true)
          have ob22 := idA (true = true)
          have ob23 : true = true → false = false → true = true := by first | decide | omega | simp | (intro h; cases h)
          refine q1rr [] [(15, ⟨[], [], [], [], (.bool false), [], [0], []⟩), (22, ⟨[.ptr 25 0, .int .u64 i4, .agg (f24z0 x1 x2 n6)], [25], [25], [(25, .cells 64 [q1aT31 r10.2.1, .fn (.func 31) [], .int .u64 r10.2.2, .lit (.map none)])], .bool r10.1, [], [], []⟩)] ⟨104, [(0, q1aT31 x1), (5, .ptr 25 0), (6, .int .u64 i4), (7, q1aSSI l5), (9, .i (x2.getD n6 0)), (26, q1aI x2), (27, .i (lZ x2)), (28, .i (n6 : Int)), (56, .bool (!r10.1)), (1000003, .tab .u64 Lib.pow10Tab)], [(25, .cells 64 [q1aT31 r10.2.1, .fn (.func 31) [], .int .u64 r10.2.2, .lit (.map none)])], [], 0⟩ (ac6 (an1 ob6) (an2 ob7 ob8) ob9 (And.intro ob10 (an2 ob11 ob12)) (an1 ob13) (an1 ob14) (an6 ob15 (show ((.bool (((f24z1 x2 n6) || (decide ((x2.getD n6 0) ≥ (lZ x1)))) || ((bitsI .and .u64 (i4 / 2 ^ (((x2.getD n6 0)).toNat)) (1 : Int)) == (1 : Int)))) : V) = (.bool false) from (congrArg (fun x => ((.bool x) : V)) (Bool.eq_false_iff.2 hg9_15))) (And.intro ob16 (an2 ob17 ob18)) (an1 ob19) (And.intro (cpT (Spec1.ren (swapN 2000 25) (swapN_inv 2000 25) rfl (f41b_ok _ _ _ _ _ _ _ _ _ hr10))) (an3 ob20 ob21 ob22)) ob23)) ?_
          refine thenQ_normal ?_
          refine AWp.cond (b := (!r10.1)) (by kernel_rfl) (fun hc4 => ?_) (fun hc4 => ?_)
          ·
            replace h := ite_tb hc4 h
            refine q1rq [] [] ⟨104, (f24z3), [], [], 0⟩ trivial ?_
            have hret := Option.some.inj h
            subst hret
            refine AWp.le (Le.mk (s' := ⟨104, [(4, .bool false)], [], [], 0⟩) rfl rfl ⟨.refl _, trivial⟩ trivial) ?_
            refine AWp.ret ?_
            refine thenQ_ret ?_
            refine blockQ_ret ?_
            refine thenQ_ret ?_
            refine thenQ_ret ?_
            refine blockQ_ret ?_
            refine joinQ_ret ?_
            exact bodyQ_ret _ rfl ⟨rfl, rfl⟩ rfl
          ·
            replace h := ite_fb hc4 h
            refine AWp.skip ?_
            refine thenQ_normal ?_
            refine AWp.seq ?_
            obtain ⟨ob25, h⟩ := chk_some h
            refine q1rr [] [] ⟨104, [(0, q1aT31 x1), (5, .ptr 25 0), (6, .int .u64 (bitsI .or .u64 i4 ((1 : Int) * 2 ^ (((x2.getD n6 0)).toNat)))), (7, q1aSSI l5), (9, .i (x2.getD n6 0)), (26, q1aI x2), (27, .i (lZ x2)), (28, .i (n6 : Int)), (1000003, .tab .u64 Lib.pow10Tab)], [(25, .cells 64 [q1aT31 r10.2.1, .fn (.func 31) [], .int .u64 r10.2.2, .lit (.map none)])], [], 0⟩ (an1 ob25) ?_
            refine thenQ_normal ?_
            refine q1rq [] [] ⟨104, [(0, q1aT31 x1), (5, .ptr 25 0), (6, .int .u64 (bitsI .or .u64 i4 ((1 : Int) * 2 ^ (((x2.getD n6 0)).toNat)))), (7, q1aSSI l5), (9, .i (x2.getD n6 0)), (26, q1aI x2), (27, .i (lZ x2)), (28, .i (n6 : Int)), (1000003, .tab .u64 Lib.pow10Tab)], [(25, .cells 64 [q1aT31 r10.2.1, .fn (.func 31) [], .int .u64 r10.2.2, .lit (.map none)])], [], 0⟩ trivial ?_
            refine AWp.seq ?_
            obtain ⟨r11, hr11, h⟩ := bind_ok h
            obtain ⟨ob26, h⟩ := chk_some h
            refine q1rr [] [(5, ⟨[q1aSSI l5, .agg (f24z0 x1 x2 n6)], [], [], [], .tup [q1aSSI r11.1, .str r11.2], [], [], [3]⟩)] ⟨104, [(0, q1aT31 x1), (5, .ptr 25 0), (6, .int .u64 (bitsI .or .u64 i4 ((1 : Int) * 2 ^ (((x2.getD n6 0)).toNat)))), (7, q1aSSI r11.1), (9, .i (x2.getD n6 0)), (10, .str r11.2), (26, q1aI x2), (27, .i (lZ x2)), (28, .i (n6 : Int)), (1000003, .tab .u64 Lib.pow10Tab)], [(25, .cells 64 [q1aT31 r10.2.1, .fn (.func 31) [], .int .u64 r10.2.2, .lit (.map none)])], [], 0⟩ (an2 ob26 (cpT (f40_ok _ _ _ _ _ _ _ hr11))) ?_
            refine thenQ_normal ?_
            refine AWp.seq ?_
            obtain ⟨r12, hr12, h⟩ := bind_ok h
            obtain ⟨ob27, ob28, h⟩ := ck2 h
            have ob29 := idA (((!r12) == true) = true)
            have ob30 := idA (((!r12) == true) = true)
            have ob31 := idA (((!r12) == true) = true)
            have ob32 := idA (((!r12) == true) = true)
            have ob33 := idA (((!r12) == true) = true)
            have ob34 := idA (((!r12) == true) = true)
            have ob35 := bqA (!r12) true
            refine q1rr [] [(4, ⟨[.agg (f24z0 x1 x2 n6)], [], [], [], .bool r12, [], [], []⟩)] ⟨104, [(0, q1aT31 x1), (5, .ptr 25 0), (6, .int .u64 (bitsI .or .u64 i4 ((1 : Int) * 2 ^ (((x2.getD n6 0)).toNat)))), (7, q1aSSI r11.1), (26, q1aI x2), (27, .i (lZ x2)), (28, .i (n6 : Int)), (84, .bool ((!r12) && (!(r11.2 == ((x1.getD (((x2.getD n6 0)).toNat) q1dT31).2.2.2.2))))), (1000003, .tab .u64 Lib.pow10Tab)], [(25, .cells 64 [q1aT31 r10.2.1, .fn (.func 31) [], .int .u64 r10.2.2, .lit (.map none)])], [], 0⟩ (ac6 ob27 (cpT (f36_ok _ _ _ _ _ _ hr12)) (And.intro ob28 (an2 ob29 ob30)) (an1 ob31) (an1 ob32) (an2 ob33 ob34) (an1 ob35)) ?_
            refine thenQ_normal ?_
            refine AWp.cond (b := ((!r12) && (!(r11.2 == ((x1.getD (((x2.getD n6 0)).toNat) q1dT31).2.2.2.2))))) (by kernel_rfl) (fun hc5 => ?_) (fun hc5 => ?_)
            ·
              replace h := ite_tb hc5 h
              refine q1rq [] [] ⟨104, (f24z3), [], [], 0⟩ trivial ?_
              have hret := Option.some.inj h
              subst hret
              refine AWp.le (Le.mk (s' := ⟨104, [(4, .bool false)], [], [], 0⟩) rfl rfl ⟨.refl _, trivial⟩ trivial) ?_
              refine AWp.ret ?_
              refine blockQ_ret ?_
              refine thenQ_ret ?_
              refine thenQ_ret ?_
              refine blockQ_ret ?_
              refine joinQ_ret ?_
              exact bodyQ_ret _ rfl ⟨rfl, rfl⟩ rfl
            ·
              replace h := ite_fb hc5 h
              refine AWp.skip ?_
              refine blockQ_normal ?_
              refine thenQ_normal ?_
              obtain ⟨ob36p, h⟩ := chk_some h
              have ob36 : -9223372036854775808 ≤ ((n6 : Int) + (1 : Int)) ∧ ((n6 : Int) + (1 : Int)) ≤ 9223372036854775807 := ⟨by omega, ob36p⟩
              refine q1rr [] [] ⟨104, [(0, q1aT31 x1), (5, .ptr 25 0), (6, .int .u64 (bitsI .or .u64 i4 ((1 : Int) * 2 ^ (((x2.getD n6 0)).toNat)))), (7, q1aSSI r11.1), (26, q1aI x2), (27, .i (lZ x2)), (28, .i (((n6 + 1) : Nat) : Int)), (1000003, .tab .u64 Lib.pow10Tab)], [(25, .cells 64 [q1aT31 r10.2.1, .fn (.func 31) [], .int .u64 r10.2.2, .lit (.map none)])], [], 0⟩ (an1 ob36) ?_
              rw [hC0] at h
              exact loopQ_normal (_, (bitsI .or .u64 i4 ((1 : Int) * 2 ^ (((x2.getD n6 0)).toNat))), r11.1, (n6 + 1), r10.2.1, r10.2.2) (Le.mk rfl rfl ⟨.refl _, .refl _, .refl _, .refl _, .refl _, .refl _, .refl _, .refl _, trivial⟩ ⟨⟨_, rfl, .refl _⟩, trivial⟩) h (Nat.lt_succ_self _)
      ·
        replace h := ite_fb hc2 h
        refine AWp.exit ?_
        refine thenQ_exit ?_
        refine thenQ_exit ?_
        refine blockQ_same ?_
        exact joinQ_normal (i4) (Le.mk rfl rfl ⟨.refl _, .refl _, .refl _, trivial⟩ trivial) h
    ·
      rintro i13 h
      replace h := (congrFun hK1 _).symm.trans h
      obtain ⟨K2, hK2, h⟩ := jn_some h
      refine AWp.join (α := Unit) (fun (x : Unit) => match x with | () => ⟨104, [(1000003, .tab .u64 Lib.pow10Tab)], [], [], 0⟩) (fun x => K2 x = some r) ?_ ?_
      ·
        refine q1rq [] [] ⟨104, [(6, .int .u64 i13), (86, q1aT31 x1), (87, .i (lZ x1)), (88, .i (0 : Int)), (1000003, .tab .u64 Lib.pow10Tab)], [], [], 0⟩ trivial ?_
        refine AWp.block ?_
        refine AWp.loopL (α := Nat × Nat) (fun x => match x with | (_, n14) => ⟨104, [(6, .int .u64 i13), (86, q1aT31 x1), (87, .i (lZ x1)), (88, .i (n14 : Int)), (1000003, .tab .u64 Lib.pow10Tab)], [], [], 0⟩) (fun x => f24_L1 x1 i13 K2 x.1 x.2 = some r) (fun x => x.1) (FUEL, 0) (Le.mk (s' := ⟨104, [(6, .int .u64 i13), (86, q1aT31 x1), (87, .i (lZ x1)), (88, .i (0 : Int)), (1000003, .tab .u64 Lib.pow10Tab)], [], [], 0⟩) rfl rfl ⟨.refl _, .refl _, .refl _, .refl _, .refl _, trivial⟩ trivial) h ?_
        rintro ⟨k1, n14⟩ h
        cases k1 with
        | zero => exact nomatch (show (none : Option Bool) = some r from h)
        | succ k1 =>
        obtain ⟨C1, hC1⟩ : ∃ C, C = f24_L1 x1 i13 K2 k1 := ⟨_, rfl⟩
        replace h := (f24_L1.eq_2 ..).symm.trans h
        try rw [← hC1] at h
        refine q1rq [] [] ⟨104, [(6, .int .u64 i13), (86, q1aT31 x1), (87, .i (lZ x1)), (88, .i (n14 : Int)), (89, .bool (decide ((n14 : Int) < (lZ x1)))), (1000003, .tab .u64 Lib.pow10Tab)], [], [], 0⟩ trivial ?_
        refine AWp.seq ?_
        refine AWp.cond (b := (decide ((n14 : Int) < (lZ x1)))) (by kernel_rfl) (fun hc6 => ?_) (fun hc6 => ?_)
        ·
          replace h := ite_tb hc6 h
          refine AWp.skip ?_
          refine thenQ_normal ?_
          refine AWp.seq ?_
          refine AWp.block ?_
          refine AWp.seq ?_
          obtain ⟨ob37p, h⟩ := chk_some h
          have ob37 : 0 ≤ (n14 : Int) ∧ (n14 : Int) < (((x1).length : Nat) : Int) := ⟨by omega, ob37p⟩
          refine q1rr [] [] ⟨104, [(6, .int .u64 i13), (11, .i (n14 : Int)), (12, .ptr 12 0), (86, q1aT31 x1), (87, .i (lZ x1)), (88, .i (n14 : Int)), (1000003, .tab .u64 Lib.pow10Tab)], [(12, .cells 31 [.i (f24z2 x1 n14).1, .i (f24z2 x1 n14).2.1, .i (f24z2 x1 n14).2.2.1, .str (f24z2 x1 n14).2.2.2.1, .str (f24z2 x1 n14).2.2.2.2])], [], 0⟩ (an2 ob37 trivial) ?_
          refine thenQ_normal ?_
          refine AWp.seq ?_
          obtain ⟨r15, hr15, h⟩ := bind_ok h
          obtain ⟨ob38, h⟩ := chk_some h
          have ob39 := idA (((!r15) == true) = true)
          have ob40 := idA (((!r15) == true) = true)
          have ob41 := idA (((!r15) == true) = true)
          have ob42 := idA (((!r15) == true) = true)
          have ob43 := bqA (!r15) true
          refine q1rr [] [(1, ⟨[.agg [.i (f24z2 x1 n14).1, .i (f24z2 x1 n14).2.1, .i (f24z2 x1 n14).2.2.1, .str (f24z2 x1 n14).2.2.2.1, .str (f24z2 x1 n14).2.2.2.2]], [], [], [], .bool r15, [], [], []⟩)] ⟨104, [(6, .int .u64 i13), (86, q1aT31 x1), (87, .i (lZ x1)), (88, .i (n14 : Int)), (102, .bool ((!r15) && ((bitsI .and .u64 (i13 / 2 ^ n14) (1 : Int)) == (0 : Int)))), (1000003, .tab .u64 Lib.pow10Tab)], [], [], 0⟩ (an5 (cpT (f36_ok _ _ _ _ _ _ hr15)) (And.intro ob38 (an2 ob39 ob40)) (an1 ob41) (an1 ob42) ob43) ?_
          refine thenQ_normal ?_
          refine AWp.cond (b := ((!r15) && ((bitsI .and .u64 (i13 / 2 ^ n14) (1 : Int)) == (0 : Int)))) (by kernel_rfl) (fun hc7 => ?_) (fun hc7 => ?_)
          ·
            replace h := ite_tb hc7 h
            refine q1rq [] [] ⟨104, (f24z3), [], [], 0⟩ trivial ?_
            have hret := Option.some.inj h
            subst hret
            refine AWp.le (Le.mk (s' := ⟨104, [(4, .bool false)], [], [], 0⟩) rfl rfl ⟨.refl _, trivial⟩ trivial) ?_
            refine AWp.ret ?_
            refine blockQ_ret ?_
            refine thenQ_ret ?_
            refine thenQ_ret ?_
            refine blockQ_ret ?_
            refine joinQ_ret ?_
            exact bodyQ_ret _ rfl ⟨rfl, rfl⟩ rfl
          ·
            replace h := ite_fb hc7 h
            refine AWp.skip ?_
            refine blockQ_normal ?_
            refine thenQ_normal ?_
            obtain ⟨ob44p, h⟩ := chk_some h
            have ob44 : -9223372036854775808 ≤ ((n14 : Int) + (1 : Int)) ∧ ((n14 : Int) + (1 : Int)) ≤ 9223372036854775807 := ⟨by omega, ob44p⟩
            refine q1rr [] [] ⟨104, [(6, .int .u64 i13), (86, q1aT31 x1), (87, .i (lZ x1)), (88, .i (((n14 + 1) : Nat) : Int)), (1000003, .tab .u64 Lib.pow10Tab)], [], [], 0⟩ (an1 ob44) ?_
            rw [hC1] at h
            exact loopQ_normal (_, (n14 + 1)) (Le.mk rfl rfl ⟨.refl _, .refl _, .refl _, .refl _, .refl _, trivial⟩ trivial) h (Nat.lt_succ_self _)
        ·
          replace h := ite_fb hc6 h
          refine AWp.exit ?_
          refine thenQ_exit ?_
          refine thenQ_exit ?_
          refine blockQ_same ?_
          exact joinQ_normal () (Le.mk rfl rfl ⟨.refl _, trivial⟩ trivial) h
      ·
        rintro ⟨⟩ h
        replace h := (congrFun hK2 _).symm.trans h
        refine q1rq [] [] ⟨104, [(4, .bool true), (1000003, .tab .u64 Lib.pow10Tab)], [], [], 0⟩ trivial ?_
        have hret := Option.some.inj h
        subst hret
        refine AWp.le (Le.mk (s' := ⟨104, [(4, .bool true)], [], [], 0⟩) rfl rfl ⟨.refl _, trivial⟩ trivial) ?_
        refine AWp.ret ?_
        exact bodyQ_ret _ rfl ⟨rfl, rfl⟩ rfl
def f29 (x1 : List (Int × Int × Int × List UInt8 × List UInt8)) (x2 : List (List UInt8)) : Option (List Int × Int) :=
  (f17 x1).bind fun (r3 : Int) =>
  if (r3 != (0 : Int)) then (
  some ([], r3)
  ) else (
  none
  )
set_option maxRecDepth 100000 in
theorem f29_ok  (x1 : List (Int × Int × Int × List UInt8 × List UInt8)) (x2 : List (List UInt8)) (r : List Int × Int) (h : f29 x1 x2 = some r)  : Spec1 Tryz.prog 29 [] [] [] [vL 5 eT31 (default : Int × Int × Int × List UInt8 × List UInt8) x1, vL 1 eS [] x2] (.tup [vL 1 eI 0 r.1, .int .i64 r.2]) [] := by
  unfold f29 at h
  refine Spec1.body 0 _ _ Tryz.func29 rfl Tryz.ntmps29 rfl rfl ?_
  refine q1rq [] [] ⟨76, [(0, q1aT31 x1), (1, q1aS x2)], [], [], 0⟩ trivial ?_
  refine AWp.seq ?_
  refine AWp.seq ?_
  obtain ⟨r3, hr3, h⟩ := bind_ok h
  refine q1rr [] [(1, ⟨[q1aT31 x1], [], [], [], .i r3, [], [], []⟩)] ⟨76, [(0, q1aT31 x1), (1, q1aS x2), (6, .i r3)], [], [], 0⟩ (an1 (cpT (f17_ok _ _ hr3))) ?_
  refine thenQ_normal ?_
  refine q1rq [] [] ⟨76, [(0, q1aT31 x1), (1, q1aS x2), (6, .i r3), (18, .bool (r3 != (0 : Int)))], [], [], 0⟩ trivial ?_
  refine AWp.cond (b := (r3 != (0 : Int))) (by kernel_rfl) (fun hc1 => ?_) (fun hc1 => ?_)
  ·
    replace h := ite_tb hc1 h
    refine q1rq [] [] ⟨76, [(4, .nils), (5, .i r3)], [], [], 0⟩ trivial ?_
    have hret := Option.some.inj h
    subst hret
    refine AWp.le (Le.mk (s' := ⟨76, [(4, q1aI []), (5, .i r3)], [], [], 0⟩) rfl rfl ⟨.nilL, .refl _, trivial⟩ trivial) ?_
    refine AWp.ret ?_
    refine thenQ_ret ?_
    exact bodyQ_ret _ rfl ⟨rfl, rfl⟩ rfl
  ·
    replace h := ite_fb hc1 h
    refine AWp.skip ?_
    refine thenQ_normal ?_
    refine AWp.seq ?_
    exact nomatch (show (none : Option (List Int × Int)) = some r from h)
abbrev f8z0 (r7 : List Int × Int) (r2 : Int) (r9 : List Int × Int) (r11 : Int × Int) (r13 : List Int × Int) := ((((r7.2 == r2) && (r9.2 == r2)) && (r11.2 == r2)) && (r13.2 == r2))
abbrev f8z1 (x1 : List (Int × Int × Int × List UInt8 × List UInt8)) : List V := [vL 5 eT31 (default : Int × Int × Int × List UInt8 × List UInt8) x1]
abbrev f8z2 (r7 : List Int × Int) (r2 : Int) (r9 : List Int × Int) (r11 : Int × Int) := ((((r7.2 == r2) && (r9.2 == r2)) && (r11.2 == r2)) == true)
abbrev f8z3 (r7 : List Int × Int) (r2 : Int) (r9 : List Int × Int) (r11 : Int × Int) (r13 : List Int × Int) := ((f8z0 r7 r2 r9 r11 r13) == true)
abbrev f8z4 (r7 : List Int × Int) (r2 : Int) (r9 : List Int × Int) := (((r7.2 == r2) && (r9.2 == r2)) == true)
abbrev f8z5 (r14 : List (Int × Int × Int × List UInt8 × List UInt8)) : Heap := [(6005, bL 31 5 eT31 (default : Int × Int × Int × List UInt8 × List UInt8) r14)]
abbrev f8z6 (r7 : List Int × Int) (r2 : Int) := ((r7.2 == r2) == true)
abbrev f8z7 (r6 : List (Int × Int × Int × List UInt8 × List UInt8)) : Heap := [(6001, bL 31 5 eT31 (default : Int × Int × Int × List UInt8 × List UInt8) r6)]
abbrev f8z8 (r8 : List (Int × Int × Int × List UInt8 × List UInt8)) : Heap := [(6002, bL 31 5 eT31 (default : Int × Int × Int × List UInt8 × List UInt8) r8)]
abbrev f8z9 (r12 : List (Int × Int × Int × List UInt8 × List UInt8)) : Heap := [(6004, bL 31 5 eT31 (default : Int × Int × Int × List UInt8 × List UInt8) r12)]
def f8 (x1 : List (Int × Int × Int × List UInt8 × List UInt8)) : Option Bool :=
  (f18 x1).bind fun (r2 : Int) =>
  (f9 ).bind fun (r3 : Bool) =>
  optc ((!r3) == false) (f10 x1 (6 : Int)) fun (r4 : Bool) =>
  if (((!r3) || (!r4)) || (r2 == (0 : Int))) then (
  (f9 ).bind fun (r5 : Bool) =>
  some r5
  ) else (
  (f12 x1).bind fun (r6 : List (Int × Int × Int × List UInt8 × List UInt8)) =>
  (f11 r6).bind fun (r7 : List Int × Int) =>
  (f12 x1).bind fun (r8 : List (Int × Int × Int × List UInt8 × List UInt8)) =>
  (f14 r8).bind fun (r9 : List Int × Int) =>
  (f12 x1).bind fun (r10 : List (Int × Int × Int × List UInt8 × List UInt8)) =>
  (f19 r10).bind fun (r11 : Int × Int) =>
  (f12 x1).bind fun (r12 : List (Int × Int × Int × List UInt8 × List UInt8)) =>
  (f29 r12 []).bind fun (r13 : List Int × Int) =>
  if ((((((r7.2 == r2) && (r9.2 == r2)) && (r11.2 == r2)) && (r13.2 == r2)) && ((((((r7.1).length + (r9.1).length) + (r13.1).length) : Nat) : Int) == (0 : Int))) && (r11.1 == (0 : Int))) = true then (
  (f12 x1).bind fun (r14 : List (Int × Int × Int × List UInt8 × List UInt8)) =>
  (f24 r14 []).bind fun (r15 : Bool) =>
  if (!r15) = true then (
  (f12 x1).bind fun (r16 : List (Int × Int × Int × List UInt8 × List UInt8)) =>
  (f23 r16 [(0 : Int)]).bind fun (r17 : List (List UInt8)) =>
  chk ((((((r7.2 == r2) && (r9.2 == r2)) && (r11.2 == r2)) && (r13.2 == r2)) == true) = true → -9223372036854775808 ≤ ((((r7.1).length : Nat) : Int) + (((r9.1).length : Nat) : Int)) ∧ ((((r7.1).length : Nat) : Int) + (((r9.1).length : Nat) : Int)) ≤ 9223372036854775807) <|
  chk ((((((r7.2 == r2) && (r9.2 == r2)) && (r11.2 == r2)) && (r13.2 == r2)) == true) = true → -9223372036854775808 ≤ (((((r7.1).length + (r9.1).length) : Nat) : Int) + (((r13.1).length : Nat) : Int)) ∧ (((((r7.1).length + (r9.1).length) : Nat) : Int) + (((r13.1).length : Nat) : Int)) ≤ 9223372036854775807) <|
  some ((((r17).length : Nat) : Int) == (0 : Int))
  ) else (
  chk ((((((r7.2 == r2) && (r9.2 == r2)) && (r11.2 == r2)) && (r13.2 == r2)) == true) = true → -9223372036854775808 ≤ ((((r7.1).length : Nat) : Int) + (((r9.1).length : Nat) : Int)) ∧ ((((r7.1).length : Nat) : Int) + (((r9.1).length : Nat) : Int)) ≤ 9223372036854775807) <|
  chk ((((((r7.2 == r2) && (r9.2 == r2)) && (r11.2 == r2)) && (r13.2 == r2)) == true) = true → -9223372036854775808 ≤ (((((r7.1).length + (r9.1).length) : Nat) : Int) + (((r13.1).length : Nat) : Int)) ∧ (((((r7.1).length + (r9.1).length) : Nat) : Int) + (((r13.1).length : Nat) : Int)) ≤ 9223372036854775807) <|
  some false
  )
  ) else (
  chk ((((((r7.2 == r2) && (r9.2 == r2)) && (r11.2 == r2)) && (r13.2 == r2)) == true) = true → -9223372036854775808 ≤ ((((r7.1).length : Nat) : Int) + (((r9.1).length : Nat) : Int)) ∧ ((((r7.1).length : Nat) : Int) + (((r9.1).length : Nat) : Int)) ≤ 9223372036854775807) <|
  chk ((((((r7.2 == r2) && (r9.2 == r2)) && (r11.2 == r2)) && (r13.2 == r2)) == true) = true → -9223372036854775808 ≤ (((((r7.1).length + (r9.1).length) : Nat) : Int) + (((r13.1).length : Nat) : Int)) ∧ (((((r7.1).length + (r9.1).length) : Nat) : Int) + (((r13.1).length : Nat) : Int)) ≤ 9223372036854775807) <|
  some false
  )
  )
set_option maxRecDepth 100000 in
theorem f8_ok  (x1 : List (Int × Int × Int × List UInt8 × List UInt8)) (r : Bool) (h : f8 x1 = some r)  : Spec1 Tryz.prog 8 [(3, .tab .u64 Lib.pow10Tab)] [] [] [vL 5 eT31 (default : Int × Int × Int × List UInt8 × List UInt8) x1] (.bool r) [] := by
  unfold f8 at h
  refine Spec1.body 0 _ _ Tryz.func8 rfl Tryz.ntmps8 rfl rfl ?_
  refine q1rq [] [] ⟨97, [(0, q1aT31 x1), (1000003, .tab .u64 Lib.pow10Tab)], [], [], 0⟩ trivial ?_
  refine AWp.seq ?_
  obtain ⟨r2, hr2, h⟩ := bind_ok h
  refine q1rr [] [(1, ⟨(f8z1 x1), [], [], [], .i r2, [], [], []⟩)] ⟨97, [(0, q1aT31 x1), (3, .i r2), (1000003, .tab .u64 Lib.pow10Tab)], [], [], 0⟩ (an1 (cpT (f18_ok _ _ hr2))) ?_
  refine thenQ_normal ?_
  refine AWp.seq ?_
  refine AWp.seq ?_
  obtain ⟨r3, hr3, h⟩ := bind_ok h
  obtain ⟨r4, hr4, h⟩ := optc_some h
  have ob0 := idA (((!r3) == false) = true)
  have ob1 := idA (((!r3) == false) = true)
  have ob2 := bqA (!r3) false
  have ob3 := idA ((((!r3) || (!r4)) == false) = true)
  have ob4 := bqA ((!r3) || (!r4)) false
  refine q1rr [] [(0, ⟨[], [], [], [], .bool r3, [], [], [3]⟩), (4, ⟨[q1aT31 x1, .i (6 : Int)], [], [], [], .bool r4, [], [], []⟩)] ⟨97, [(0, q1aT31 x1), (3, .i r2), (24, .bool (((!r3) || (!r4)) || (r2 == (0 : Int)))), (1000003, .tab .u64 Lib.pow10Tab)], [], [], 0⟩ (an6 (cpT (f9_ok _ hr3)) (And.intro (cpC fun hc => (f10_ok _ _ _ (hr4 hc))) (an1 ob0)) (an1 ob1) ob2 (an1 ob3) ob4) ?_
  refine thenQ_normal ?_
  refine AWp.cond (b := (((!r3) || (!r4)) || (r2 == (0 : Int)))) (by kernel_rfl) (fun hc1 => ?_) (fun hc1 => ?_)
  ·
    replace h := ite_tb hc1 h
    refine AWp.seq ?_
    obtain ⟨r5, hr5, h⟩ := bind_ok h
    refine q1rr [] [(0, ⟨[], [], [], [], .bool r5, [], [], [3]⟩)] ⟨97, [(2, .bool r5), (1000003, .tab .u64 Lib.pow10Tab)], [], [], 0⟩ (an1 (cpT (f9_ok _ hr5))) ?_
    refine thenQ_normal ?_
    have hret := Option.some.inj h
    subst hret
    refine AWp.le (Le.mk (s' := ⟨97, [(2, .bool r5)], [], [], 0⟩) rfl rfl ⟨.refl _, trivial⟩ trivial) ?_
    refine AWp.ret ?_
    refine thenQ_ret ?_
    exact bodyQ_ret _ rfl ⟨rfl, rfl⟩ rfl
  ·
    replace h := ite_fb hc1 h
    refine AWp.skip ?_
    refine thenQ_normal ?_
    refine AWp.seq ?_
    obtain ⟨r6, hr6, h⟩ := bind_ok h
    obtain ⟨r7, hr7, h⟩ := bind_ok h
    refine q1rr [] [(1, ⟨(f8z1 x1), [], [], (f8z7 r6), .own 6001, [6001], [], []⟩), (2, ⟨[.own 6001], [6001], [], [], .tup [q1aI r7.1, .i r7.2], [], [], [3]⟩)] ⟨97, [(0, q1aT31 x1), (3, .i r2), (4, q1aI r7.1), (5, .i r7.2), (1000003, .tab .u64 Lib.pow10Tab)], [], [], 0⟩ (an2 (cpT (Spec1.ren (swapN 3000 6001) (swapN_inv 3000 6001) rfl (f12_ok _ _ hr6))) (show (callP Tryz.prog true 11 [(3, .tab .u64 Lib.pow10Tab)] [] (f8z7 r6) [] [] [.own 6001] [.own 6001] (.tup [q1aI r7.1, .i r7.2]) []) from ⟨fun _ => (Spec1.pre (f11_ok _ _ hr7) rfl rfl rfl (Le.trans (Le.freeze 6001 rfl rfl) (Le.mk (s' := ⟨1, [(0, q1aT31 r6), (1000003, .tab .u64 Lib.pow10Tab)], [], [], 0⟩) rfl rfl ⟨.refl _, .refl _, trivial⟩ trivial))), fun _ => ⟨.refl _, trivial⟩, .inl rfl⟩)) ?_
    refine thenQ_normal ?_
    refine AWp.seq ?_
    obtain ⟨r8, hr8, h⟩ := bind_ok h
    obtain ⟨r9, hr9, h⟩ := bind_ok h
    refine q1rr [] [(1, ⟨(f8z1 x1), [], [], (f8z8 r8), .own 6002, [6002], [], []⟩), (2, ⟨[.own 6002], [6002], [], [], .tup [q1aI r9.1, .i r9.2], [], [], [3]⟩)] ⟨97, [(0, q1aT31 x1), (3, .i r2), (4, q1aI r7.1), (5, .i r7.2), (6, q1aI r9.1), (7, .i r9.2), (1000003, .tab .u64 Lib.pow10Tab)], [], [], 0⟩ (an2 (cpT (Spec1.ren (swapN 3000 6002) (swapN_inv 3000 6002) rfl (f12_ok _ _ hr8))) (show (callP Tryz.prog true 14 [(3, .tab .u64 Lib.pow10Tab)] [] (f8z8 r8) [] [] [.own 6002] [.own 6002] (.tup [q1aI r9.1, .i r9.2]) []) from ⟨fun _ => (Spec1.pre (f14_ok _ _ hr9) rfl rfl rfl (Le.trans (Le.freeze 6002 rfl rfl) (Le.mk (s' := ⟨1, [(0, q1aT31 r8), (1000003, .tab .u64 Lib.pow10Tab)], [], [], 0⟩) rfl rfl ⟨.refl _, .refl _, trivial⟩ trivial))), fun _ => ⟨.refl _, trivial⟩, .inl rfl⟩)) ?_
    refine thenQ_normal ?_
    refine AWp.seq ?_
    obtain ⟨r10, hr10, h⟩ := bind_ok h
    obtain ⟨r11, hr11, h⟩ := bind_ok h
    refine q1rr [] [(1, ⟨(f8z1 x1), [], [], [(6003, q1bT31_31 r10)], .own 6003, [6003], [], []⟩), (2, ⟨[q1aT31 r10], [], [], [], .tup [.i r11.1, .i r11.2], [], [6003], [3]⟩)] ⟨97, [(0, q1aT31 x1), (3, .i r2), (4, q1aI r7.1), (5, .i r7.2), (6, q1aI r9.1), (7, .i r9.2), (8, .i r11.1), (9, .i r11.2), (1000003, .tab .u64 Lib.pow10Tab)], [], [], 0⟩ (an2 (cpT (Spec1.ren (swapN 3000 6003) (swapN_inv 3000 6003) rfl (f12_ok _ _ hr10))) (cpL (c := true) [(6003, q1bT31_31 r10)] [6003] [.own 6003] (fun _ => (f19_ok _ _ hr11)) (fun _ => ⟨.refl _, trivial⟩) (.inr ⟨rfl, trivial⟩))) ?_
    refine thenQ_normal ?_
    refine AWp.seq ?_
    obtain ⟨r12, hr12, h⟩ := bind_ok h
    obtain ⟨r13, hr13, h⟩ := bind_ok h
    refine q1rr [] [(1, ⟨(f8z1 x1), [], [], (f8z9 r12), .own 6004, [6004], [], []⟩), (2, ⟨[.own 6004, q1aS []], [6004], [], [], .tup [q1aI r13.1, .i r13.2], [], [], []⟩)] ⟨97, [(0, q1aT31 x1), (3, .i r2), (4, q1aI r7.1), (5, .i r7.2), (6, q1aI r9.1), (7, .i r9.2), (8, .i r11.1), (9, .i r11.2), (10, q1aI r13.1), (11, .i r13.2), (1000003, .tab .u64 Lib.pow10Tab)], [], [], 0⟩ (an2 (cpT (Spec1.ren (swapN 3000 6004) (swapN_inv 3000 6004) rfl (f12_ok _ _ hr12))) (show (callP Tryz.prog true 29 [] [] (f8z9 r12) [] [] [.own 6004, .nils] [.own 6004, q1aS []] (.tup [q1aI r13.1, .i r13.2]) []) from ⟨fun _ => (Spec1.pre (f29_ok _ _ _ hr13) rfl rfl rfl (Le.trans (Le.freeze 6004 rfl rfl) (Le.mk (s' := ⟨2, [(0, q1aT31 r12), (1, q1aS [])], [], [], 0⟩) rfl rfl ⟨.refl _, .refl _, trivial⟩ trivial))), fun _ => ⟨.refl _, .nilL, trivial⟩, .inl rfl⟩)) ?_
    refine thenQ_normal ?_
    refine AWp.seq ?_
    by_cases hg8_33 : ((((((r7.2 == r2) && (r9.2 == r2)) && (r11.2 == r2)) && (r13.2 == r2)) && ((((((r7.1).length + (r9.1).length) + (r13.1).length) : Nat) : Int) == (0 : Int))) && (r11.1 == (0 : Int))) = true
    ·
      replace h := ite_t hg8_33 h
      obtain ⟨r14, hr14, h⟩ := bind_ok h
      obtain ⟨r15, hr15, h⟩ := bind_ok h
      by_cases hg8_39 : (!r15) = true
      ·
        replace h := ite_t hg8_39 h
        obtain ⟨r16, hr16, h⟩ := bind_ok h
        obtain ⟨r17, hr17, h⟩ := bind_ok h
        have ob5 := idA ((f8z6 r7 r2) = true)
        have ob6 := idA ((f8z6 r7 r2) = true)
        have ob7 : true = true → (r7.2 == r2) = true → (f8z6 r7 r2) = true := fun _ h => beq_iff_eq.2 h
        have ob8 := idA ((f8z4 r7 r2 r9) = true)
        have ob9 := idA ((f8z4 r7 r2 r9) = true)
        have ob10 : true = true → ((r7.2 == r2) && (r9.2 == r2)) = true → (f8z4 r7 r2 r9) = true := fun _ h => beq_iff_eq.2 h
        have ob11 := idA ((f8z2 r7 r2 r9 r11) = true)
        have ob12 := idA ((f8z2 r7 r2 r9 r11) = true)
        have ob13 : true = true → (((r7.2 == r2) && (r9.2 == r2)) && (r11.2 == r2)) = true → (f8z2 r7 r2 r9 r11) = true := fun _ h => beq_iff_eq.2 h
        have ob14 := idA ((f8z3 r7 r2 r9 r11 r13) = true)
        have ob15 := idA ((f8z3 r7 r2 r9 r11 r13) = true)
        obtain ⟨ob16, h⟩ := chk_some h
        have ob17 := idA ((f8z3 r7 r2 r9 r11 r13) = true)
        have ob18 := idA ((f8z3 r7 r2 r9 r11 r13) = true)
        have ob19 := idA ((f8z3 r7 r2 r9 r11 r13) = true)
        obtain ⟨ob20, h⟩ := chk_some h
        have ob21 := idA ((f8z3 r7 r2 r9 r11 r13) = true)
        have ob22 := idA ((f8z3 r7 r2 r9 r11 r13) = true)
        have ob23 := idA ((f8z3 r7 r2 r9 r11 r13) = true)
        have ob24 : true = true → (f8z0 r7 r2 r9 r11 r13) = true → (f8z3 r7 r2 r9 r11 r13) = true := fun _ h => beq_iff_eq.2 h
        have ob25 := idA ((((f8z0 r7 r2 r9 r11 r13) && ((((((r7.1).length + (r9.1).length) + (r13.1).length) : Nat) : Int) == (0 : Int))) == true) = true)
        have ob26 := bqA ((f8z0 r7 r2 r9 r11 r13) && ((((((r7.1).length + (r9.1).length) + (r13.1).length) : Nat) : Int) == (0 : Int))) true
        have ob27 := idA (true = true)
        have ob28 := idA (true = true)
        have ob29 : true = true → true = true → true = true := fun _ h => h
        have ob30 := idA (true = true)
        have ob31 := idA (true = true)
        have ob32 : true = true → true = true → true = true := fun _ h => h
        refine q1rr [] [(33, ⟨[], [], [], [], (.bool true), [], [0], []⟩), (35, ⟨(f8z1 x1), [], [], (f8z5 r14), .own 6005, [6005], [], []⟩), (36, ⟨[q1aT31 r14, q1aI []], [], [], [], .bool r15, [], [6005], [3]⟩), (39, ⟨[], [], [], [], (.bool true), [], [0], []⟩), (41, ⟨(f8z1 x1), [], [], [(6006, q1bT31_31 r16)], .own 6006, [6006], [], []⟩), (43, ⟨[q1aT31 r16, q1aI [(0 : Int)]], [], [], [(6007, q1bS_9 r17)], .own 6007, [6007], [6006, 92], [3]⟩)] ⟨97, [(2, .bool ((lZ r17) == (0 : Int))), (1000003, .tab .u64 Lib.pow10Tab)], [], [], 0⟩ (ac6 (an2 ob5 ob6) ob7 (an2 ob8 ob9) ob10 (an2 ob11 ob12) ob13 (ac6 (an1 ob14) (an1 ob15) (And.intro ob16 (an2 ob17 ob18)) (an1 ob19) (And.intro ob20 (an2 ob21 ob22)) (an1 ob23) (ac6 ob24 (an1 ob25) ob26 (show ((.bool (((f8z0 r7 r2 r9 r11 r13) && ((((((r7.1).length + (r9.1).length) + (r13.1).length) : Nat) : Int) == (0 : Int))) && (r11.1 == (0 : Int)))) : V) = (.bool true) from (congrArg (fun x => ((.bool x) : V)) hg8_33)) (And.intro (cpT (Spec1.ren (swapN 3000 6005) (swapN_inv 3000 6005) rfl (f12_ok _ _ hr14))) (an1 ob27)) (cpL (c := true) (f8z5 r14) [6005] [.own 6005, .nils] (fun _ => (f24_ok _ _ _ hr15)) (fun _ => ⟨.refl _, .nilL, trivial⟩) (.inr ⟨rfl, trivial⟩)) (ac6 (an1 ob28) ob29 (show ((.bool (!r15)) : V) = (.bool true) from (congrArg (fun x => ((.bool x) : V)) hg8_39)) (And.intro (cpT (Spec1.ren (swapN 3000 6006) (swapN_inv 3000 6006) rfl (f12_ok _ _ hr16))) (an1 ob30)) (cpL (c := true) [(6006, q1bT31_31 r16), (92, .rows 3 1 1 (lstF 1 [.i (0 : Int)]))] [6006, 92] [.own 6006, .own 92] (fun _ => (Spec1.ren (swapN 3000 6007) (swapN_inv 3000 6007) rfl (f23_ok _ _ _ hr17))) (fun _ => ⟨.refl _, (VLe.of (RL.lst (enc := eI) [(0 : Int)] rfl rfl (fun _ => rfl))), trivial⟩) (.inr ⟨rfl, ⟨(fun _ _ _ _ => eS_flat _ _), trivial⟩⟩)) (an1 ob31) (an1 ob32))))) ?_
        refine thenQ_normal ?_
        have hret := Option.some.inj h
        subst hret
        refine AWp.le (Le.mk (s' := ⟨97, [(2, .bool ((lZ r17) == (0 : Int)))], [], [], 0⟩) rfl rfl ⟨.refl _, trivial⟩ trivial) ?_
        refine AWp.ret ?_
        exact bodyQ_ret _ rfl ⟨rfl, rfl⟩ rfl
      ·
        replace h := ite_f hg8_39 h
        have ob5 := idA ((f8z6 r7 r2) = true)
        have ob6 := idA ((f8z6 r7 r2) = true)
        have ob7 : true = true → (r7.2 == r2) = true → (f8z6 r7 r2) = true := fun _ h => beq_iff_eq.2 h
        have ob8 := idA ((f8z4 r7 r2 r9) = true)
        have ob9 := idA ((f8z4 r7 r2 r9) = true)
        have ob10 : true = true → ((r7.2 == r2) && (r9.2 == r2)) = true → (f8z4 r7 r2 r9) = true := fun _ h => beq_iff_eq.2 h
        have ob11 := idA ((f8z2 r7 r2 r9 r11) = true)
        have ob12 := idA ((f8z2 r7 r2 r9 r11) = true)
        have ob13 : true = true → (((r7.2 == r2) && (r9.2 == r2)) && (r11.2 == r2)) = true → (f8z2 r7 r2 r9 r11) = true := fun _ h => beq_iff_eq.2 h
        have ob14 := idA ((f8z3 r7 r2 r9 r11 r13) = true)
        have ob15 := idA ((f8z3 r7 r2 r9 r11 r13) = true)
        obtain ⟨ob16, h⟩ := chk_some h
        have ob17 := idA ((f8z3 r7 r2 r9 r11 r13) = true)
        have ob18 := idA ((f8z3 r7 r2 r9 r11 r13) = true)
        have ob19 := idA ((f8z3 r7 r2 r9 r11 r13) = true)
        obtain ⟨ob20, h⟩ := chk_some h
        have ob21 := idA ((f8z3 r7 r2 r9 r11 r13) = true)
        have ob22 := idA ((f8z3 r7 r2 r9 r11 r13) = true)
        have ob23 := idA ((f8z3 r7 r2 r9 r11 r13) = true)
        have ob24 : true = true → (f8z0 r7 r2 r9 r11 r13) = true → (f8z3 r7 r2 r9 r11 r13) = true := fun _ h => beq_iff_eq.2 h
        have ob25 := idA ((((f8z0 r7 r2 r9 r11 r13) && ((((((r7.1).length + (r9.1).length) + (r13.1).length) : Nat) : Int) == (0 : Int))) == true) = true)
        have ob26 := bqA ((f8z0 r7 r2 r9 r11 r13) && ((((((r7.1).length + (r9.1).length) + (r13.1).length) : Nat) : Int) == (0 : Int))) true
        have ob27 := idA (true = true)
        have ob28 := idA (true = true)
        have ob29 : true = true → true = true → true = true := fun _ h => h
        have ob30 := idA (false = true)
        have ob31 := idA (false = true)
        have ob32 := idA (false = true)
        have ob33 : true = true → false = true → false = true := fun _ h => h
        refine q1rr [] [(33, ⟨[], [], [], [], (.bool true), [], [0], []⟩), (35, ⟨(f8z1 x1), [], [], (f8z5 r14), .own 6005, [6005], [], []⟩), (36, ⟨[q1aT31 r14, q1aI []], [], [], [], .bool r15, [], [6005], [3]⟩), (39, ⟨[], [], [], [], (.bool false), [], [0], []⟩), (41, ⟨[], [], [], [], .any, [], [], []⟩), (43, ⟨[], [], [], [], .any, [], [], []⟩)] ⟨97, [(2, .bool false), (1000003, .tab .u64 Lib.pow10Tab)], [], [], 0⟩ (ac6 (an2 ob5 ob6) ob7 (an2 ob8 ob9) ob10 (an2 ob11 ob12) ob13 (ac6 (an1 ob14) (an1 ob15) (And.intro ob16 (an2 ob17 ob18)) (an1 ob19) (And.intro ob20 (an2 ob21 ob22)) (an1 ob23) (ac6 ob24 (an1 ob25) ob26 (show ((.bool (((f8z0 r7 r2 r9 r11 r13) && ((((((r7.1).length + (r9.1).length) + (r13.1).length) : Nat) : Int) == (0 : Int))) && (r11.1 == (0 : Int)))) : V) = (.bool true) from (congrArg (fun x => ((.bool x) : V)) hg8_33)) (And.intro (cpT (Spec1.ren (swapN 3000 6005) (swapN_inv 3000 6005) rfl (f12_ok _ _ hr14))) (an1 ob27)) (cpL (c := true) (f8z5 r14) [6005] [.own 6005, .nils] (fun _ => (f24_ok _ _ _ hr15)) (fun _ => ⟨.refl _, .nilL, trivial⟩) (.inr ⟨rfl, trivial⟩)) (an6 (an1 ob28) ob29 (show ((.bool (!r15)) : V) = (.bool false) from (congrArg (fun x => ((.bool x) : V)) (Bool.eq_false_iff.2 hg8_39))) (And.intro (show (callP Tryz.prog false 12 [] [] [] [] [] (f8z1 x1) [] (.any) []) from ⟨nofun, nofun, .inl rfl⟩) (an1 ob30)) (And.intro (show (callP Tryz.prog false 23 [] [] [] [] [] [.any, .bool false] [] (.any) []) from ⟨nofun, nofun, .inl rfl⟩) (an2 ob31 ob32)) ob33)))) ?_
        refine thenQ_normal ?_
        have hret := Option.some.inj h
        subst hret
        refine AWp.le (Le.mk (s' := ⟨97, [(2, .bool false)], [], [], 0⟩) rfl rfl ⟨.refl _, trivial⟩ trivial) ?_
        refine AWp.ret ?_
        exact bodyQ_ret _ rfl ⟨rfl, rfl⟩ rfl
    ·
      replace h := ite_f hg8_33 h
      have ob5 := idA ((f8z6 r7 r2) = true)
      have ob6 := idA ((f8z6 r7 r2) = true)
      have ob7 : true = true → (r7.2 == r2) = true → (f8z6 r7 r2) = true := fun _ h => beq_iff_eq.2 h
      have ob8 := idA ((f8z4 r7 r2 r9) = true)
      have ob9 := idA ((f8z4 r7 r2 r9) = true)
      have ob10 : true = true → ((r7.2 == r2) && (r9.2 == r2)) = true → (f8z4 r7 r2 r9) = true := fun _ h => beq_iff_eq.2 h
      have ob11 := idA ((f8z2 r7 r2 r9 r11) = true)
      have ob12 := idA ((f8z2 r7 r2 r9 r11) = true)
      have ob13 : true = true → (((r7.2 == r2) && (r9.2 == r2)) && (r11.2 == r2)) = true → (f8z2 r7 r2 r9 r11) = true := fun _ h => beq_iff_eq.2 h
      have ob14 := idA ((f8z3 r7 r2 r9 r11 r13) = true)
      have ob15 := idA ((f8z3 r7 r2 r9 r11 r13) = true)
      obtain ⟨ob16, h⟩ := chk_some h
      have ob17 := idA ((f8z3 r7 r2 r9 r11 r13) = true)
      have ob18 := idA ((f8z3 r7 r2 r9 r11 r13) = true)
      have ob19 := idA ((f8z3 r7 r2 r9 r11 r13) = true)
      obtain ⟨ob20, h⟩ := chk_some h
      have ob21 := idA ((f8z3 r7 r2 r9 r11 r13) = true)
      have ob22 := idA ((f8z3 r7 r2 r9 r11 r13) = true)
      have ob23 := idA ((f8z3 r7 r2 r9 r11 r13) = true)
      have ob24 : true = true → (f8z0 r7 r2 r9 r11 r13) = true → (f8z3 r7 r2 r9 r11 r13) = true := fun _ h => beq_iff_eq.2 h
      have ob25 := idA ((((f8z0 r7 r2 r9 r11 r13) && ((((((r7.1).length + (r9.1).length) + (r13.1).length) : Nat) : Int) == (0 : Int))) == true) = true)
      have ob26 := bqA ((f8z0 r7 r2 r9 r11 r13) && ((((((r7.1).length + (r9.1).length) + (r13.1).length) : Nat) : Int) == (0 : Int))) true
      have ob27 := idA (false = true)
      have ob28 := idA (false = true)
      have ob29 := idA (false = true)
      have ob30 : true = true → false = true → false = true := fun _ h => h
      have ob31 := idA (false = true)
      have ob32 := idA (false = true)
      have ob33 := idA (false = true)
      have ob34 : true = true → false = true → false = true := fun _ h => h
      refine q1rr [] [(33, ⟨[], [], [], [], (.bool false), [], [0], []⟩), (35, ⟨[], [], [], [], .any, [], [], []⟩), (36, ⟨[], [], [], [], .bool false, [], [], []⟩), (41, ⟨[], [], [], [], .any, [], [], []⟩), (43, ⟨[], [], [], [], .any, [], [], []⟩)] ⟨97, [(2, .bool false), (1000003, .tab .u64 Lib.pow10Tab)], [], [], 0⟩ (ac6 (an2 ob5 ob6) ob7 (an2 ob8 ob9) ob10 (an2 ob11 ob12) ob13 (ac6 (an1 ob14) (an1 ob15) (And.intro ob16 (an2 ob17 ob18)) (an1 ob19) (And.intro ob20 (an2 ob21 ob22)) (an1 ob23) (ac6 ob24 (an1 ob25) ob26 (show ((.bool (((f8z0 r7 r2 r9 r11 r13) && ((((((r7.1).length + (r9.1).length) + (r13.1).length) : Nat) : Int) == (0 : Int))) && (r11.1 == (0 : Int)))) : V) = (.bool false) from (congrArg (fun x => ((.bool x) : V)) (Bool.eq_false_iff.2 hg8_33))) (And.intro (show (callP Tryz.prog false 12 [] [] [] [] [] (f8z1 x1) [] (.any) []) from ⟨nofun, nofun, .inl rfl⟩) (an1 ob27)) (And.intro (show (callP Tryz.prog false 24 [] [] [] [] [] [.any, .nils] [] (.bool false) []) from ⟨nofun, nofun, .inl rfl⟩) (an1 ob28)) (an5 (an1 ob29) ob30 (And.intro (show (callP Tryz.prog false 12 [] [] [] [] [] (f8z1 x1) [] (.any) []) from ⟨nofun, nofun, .inl rfl⟩) (an1 ob31)) (And.intro (show (callP Tryz.prog false 23 [] [] [] [] [] [.any, .bool false] [] (.any) []) from ⟨nofun, nofun, .inl rfl⟩) (an2 ob32 ob33)) ob34)))) ?_
      refine thenQ_normal ?_
      have hret := Option.some.inj h
      subst hret
      refine AWp.le (Le.mk (s' := ⟨97, [(2, .bool false)], [], [], 0⟩) rfl rfl ⟨.refl _, trivial⟩ trivial) ?_
      refine AWp.ret ?_
      exact bodyQ_ret _ rfl ⟨rfl, rfl⟩ rfl
end Go.Abs
