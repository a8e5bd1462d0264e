/- Part 23 of the proof: X57, Pl. -/
import Derived.Test.YtkeioaggjaeicaaGreatDoorHwitZ22
namespace Go.Abs
open Go Go.Proofs
set_option maxRecDepth 100000
set_option maxHeartbeats 4000000
def f6_L0 (x1 : List Tq0) (r6 : List Int × Int) (r8 : List (List UInt8)) (K1 : Unit → Option Bool) : Nat → Nat → Option Bool
 | 0, _ => none
 | k + 1, n12 =>
  if (decide ((n12 : Int) < (((r6.1).length : Nat) : Int))) then (
  chk ((n12 : Int) < (((r6.1).length : Nat) : Int)) <|
  chk (0 ≤ (r6.1.getD n12 0) ∧ (r6.1.getD n12 0) < (((x1).length : Nat) : Int)) <|
  chk ((((x1.getD (((r6.1.getD n12 0)).toNat) (default : Tq0)).2.2.1 != (-1 : Int)) == true) = true → 0 ≤ (r6.1.getD n12 0) ∧ (r6.1.getD n12 0) < (((x1).length : Nat) : Int)) <|
  chk ((((x1.getD (((r6.1.getD n12 0)).toNat) (default : Tq0)).2.2.1 != (-1 : Int)) == true) = true → 0 ≤ (n12 : Int) ∧ (n12 : Int) < (((r8).length : Nat) : Int)) <|
  chk ((((x1.getD (((r6.1.getD n12 0)).toNat) (default : Tq0)).2.2.1 != (-1 : Int)) == true) = true → n12 < (r8).length) <|
  if (((x1.getD (((r6.1.getD n12 0)).toNat) (default : Tq0)).2.2.1 != (-1 : Int)) && (!(((x1.getD (((r6.1.getD n12 0)).toNat) (default : Tq0)).2.2.2.2) == (r8.getD n12 [])))) then (
  some false
  ) else (
  chk (((n12 : Int) + (1 : Int)) ≤ 9223372036854775807) <|
  (f6_L0 x1 r6 r8 K1 k) (n12 + 1)
  )
  ) else (
  K1 ()
  )
abbrev f6z0 (x1 : List Tq0) : List V := [vL 5 eT31 (default : Tq0) x1]
abbrev f6z1 (r8 : List (List UInt8)) : Heap := [(6003, bL 9 1 eS [] r8)]
abbrev f6z2 (x1 : List Tq0) : List (Nat × V) := [(0, vL 5 eT31 (default : Tq0) x1), (1000003, .tab .u64 Lib.pow10Tab)]
abbrev f6z3 : List (Nat × V) := [(2, .bool false), (1000003, .tab .u64 Lib.pow10Tab)]
abbrev f6z4 (r5 : List Tq0) : Heap := [(6001, bL 31 5 eT31 (default : Tq0) r5)]
abbrev f6z5 (r13 : List Tq0) : Heap := [(6005, bL 31 5 eT31 (default : Tq0) r13)]
def f6 (x1 : List Tq0) : Option Bool :=
 (f9 ).bind fun (r2 : Bool) =>
 optc ((!r2) == false) (f10 x1 (6 : Int)) fun (r3 : Bool) =>
 if ((!r2) || (!r3)) then (
 (f9 ).bind fun (r4 : Bool) =>
 some r4
 ) else (
 (f12 x1).bind fun (r5 : List Tq0) =>
 (f11 r5).bind fun (r6 : List Int × Int) =>
 if (r6.2 != (0 : Int)) then (
 some true
 ) else (
 (f12 x1).bind fun (r7 : List Tq0) =>
 (f23 r7 r6.1).bind fun (r8 : List (List UInt8)) =>
 if ((((r8).length : Nat) : Int) != (((r6.1).length : Nat) : Int)) = true then (
 some false
 ) else (
 (f12 x1).bind fun (r9 : List Tq0) =>
 (f24 r9 r6.1).bind fun (r10 : Bool) =>
 optc ((!r10) == false) (f25 x1 r6.1 true) fun (r11 : Bool) =>
 if ((!r10) || (!r11)) then (
 some false
 ) else (
 jn (fun (_ : Unit) =>
 (f12 x1).bind fun (r13 : List Tq0) =>
 (f14 r13).bind fun (r14 : List Int × Int) =>
 some (r14.2 == (0 : Int))
 ) fun (K1 : Unit → Option Bool) =>
 f6_L0 x1 r6 r8 K1 FUEL 0
 )
 )
 )
 )
theorem f6_ok  (x1 : List Tq0) (r : Bool) (h : f6 x1 = some r)  : Spec1 Tryz.prog 6 [(3, .tab .u64 Lib.pow10Tab)] [] [] [vL 5 eT31 (default : Tq0) x1] (.bool r) [] := by
 unfold f6 at h
 refine Spec1.body 0 _ _ Tryz.func6 rfl Tryz.ntmps6 rfl rfl ?_
 refine q1rq [] [] ⟨82, (f6z2 x1), [], [], 0⟩ trivial ?_
 refine AWp.seq ?_
 refine AWp.seq ?_
 obtain ⟨r2, hr2, h⟩ := bind_ok h
 obtain ⟨r3, hr3, h⟩ := optc_some h
 have ob0 := idA (((!r2) == false) = true)
 have ob1 := idA (((!r2) == false) = true)
 have ob2 := bqA (!r2) false
 refine q1rr [] [(0, ⟨[], [], [], [], .bool r2, [], [], [3]⟩), (4, ⟨[q1aT31 x1, .i (6 : Int)], [], [], [], .bool r3, [], [], []⟩)] ⟨82, [(0, q1aT31 x1), (16, .bool ((!r2) || (!r3))), (1000003, .tab .u64 Lib.pow10Tab)], [], [], 0⟩ (an4 (cpT (f9_ok _ hr2)) (And.intro (cpC fun hc => (f10_ok _ _ _ (hr3 hc))) (an1 ob0)) (an1 ob1) ob2) ?_
 refine tN ?_
 refine AWp.cond (b := ((!r2) || (!r3))) (by kernel_rfl) (fun hc1 => ?_) (fun hc1 => ?_)
 ·
  replace h := ite_tb hc1 h
  refine AWp.seq ?_
  obtain ⟨r4, hr4, h⟩ := bind_ok h
  refine q1rr [] [(0, ⟨[], [], [], [], .bool r4, [], [], [3]⟩)] ⟨82, [(2, .bool r4), (1000003, .tab .u64 Lib.pow10Tab)], [], [], 0⟩ (an1 (cpT (f9_ok _ hr4))) ?_
  refine tN ?_
  have hret := Option.some.inj h
  subst hret
  refine AWp.le (Le.mk (s' := ⟨82, [(2, .bool r4)], [], [], 0⟩) rfl rfl ⟨.refl _, trivial⟩ trivial) ?_
  refine AWp.ret ?_
  refine tR ?_
  exact bR _ rfl ⟨rfl, rfl⟩ rfl
 ·
  replace h := ite_fb hc1 h
  refine AWp.skip ?_
  refine tN ?_
  refine AWp.seq ?_
  obtain ⟨r5, hr5, h⟩ := bind_ok h
  obtain ⟨r6, hr6, h⟩ := bind_ok h
  refine q1rr [] [(1, ⟨(f6z0 x1), [], [], (f6z4 r5), .own 6001, [6001], [], []⟩), (2, ⟨[.own 6001], [6001], [], [], .tup [q1aI r6.1, .i r6.2], [], [], [3]⟩)] ⟨82, [(0, q1aT31 x1), (3, q1aI r6.1), (4, .i r6.2), (1000003, .tab .u64 Lib.pow10Tab)], [], [], 0⟩ (an2 (cpT (Spec1.ren (swapN 3000 6001) (swapN_inv 3000 6001) rfl (f12_ok _ _ hr5))) (show (callP Tryz.prog true 11 [(3, .tab .u64 Lib.pow10Tab)] [] (f6z4 r5) [] [] [.own 6001] [.own 6001] (.tup [q1aI r6.1, .i r6.2]) []) from ⟨fun _ => (Spec1.pre (f11_ok _ _ hr6) rfl rfl rfl (Le.trans (Le.freeze 6001 rfl rfl) (Le.mk (s' := ⟨1, [(0, q1aT31 r5), (1000003, .tab .u64 Lib.pow10Tab)], [], [], 0⟩) rfl rfl ⟨.refl _, .refl _, trivial⟩ trivial))), fun _ => ⟨.refl _, trivial⟩, .inl rfl⟩)) ?_
  refine tN ?_
  refine AWp.seq ?_
  refine q1rq [] [] ⟨82, [(0, q1aT31 x1), (3, q1aI r6.1), (25, .bool (r6.2 != (0 : Int))), (1000003, .tab .u64 Lib.pow10Tab)], [], [], 0⟩ trivial ?_
  refine AWp.cond (b := (r6.2 != (0 : Int))) (by kernel_rfl) (fun hc2 => ?_) (fun hc2 => ?_)
  ·
   replace h := ite_tb hc2 h
   refine q1rq [] [] ⟨82, [(2, .bool true), (1000003, .tab .u64 Lib.pow10Tab)], [], [], 0⟩ trivial ?_
   have hret := Option.some.inj h
   subst hret
   refine AWp.le (Le.mk (s' := ⟨82, [(2, .bool true)], [], [], 0⟩) rfl rfl ⟨.refl _, trivial⟩ trivial) ?_
   refine AWp.ret ?_
   refine tR ?_
   exact bR _ rfl ⟨rfl, rfl⟩ rfl
  ·
   replace h := ite_fb hc2 h
   refine AWp.skip ?_
   refine tN ?_
   refine AWp.seq ?_
   obtain ⟨r7, hr7, h⟩ := bind_ok h
   obtain ⟨r8, hr8, h⟩ := bind_ok h
   refine q1rr [] [(1, ⟨(f6z0 x1), [], [], [(6002, q1bT31_31 r7)], .own 6002, [6002], [], []⟩), (3, ⟨[q1aT31 r7, q1aI r6.1], [], [], (f6z1 r8), .own 6003, [6003], [6002], [3]⟩)] ⟨82, [(0, q1aT31 x1), (3, q1aI r6.1), (5, .own 6003), (1000003, .tab .u64 Lib.pow10Tab)], (f6z1 r8), [], 0⟩ (an2 (cpT (Spec1.ren (swapN 3000 6002) (swapN_inv 3000 6002) rfl (f12_ok _ _ hr7))) (cpL (c := true) [(6002, q1bT31_31 r7)] [6002] [.own 6002, q1aI r6.1] (fun _ => (Spec1.ren (swapN 3000 6003) (swapN_inv 3000 6003) rfl (f23_ok _ _ _ hr8))) (fun _ => ⟨.refl _, .refl _, trivial⟩) (.inr ⟨rfl, ⟨(fun _ _ _ _ => eS_flat _ _), trivial⟩⟩))) ?_
   refine tN ?_
   refine AWp.seq ?_
   refine AWp.seq ?_
   by_cases hg7_5 : ((((r8).length : Nat) : Int) != (((r6.1).length : Nat) : Int)) = true
   ·
    replace h := ite_t hg7_5 h
    have ob3 := idA (false = true)
    have ob4 := idA (false = true)
    have ob5 := idA (false = true)
    have ob6 := idA (false = true)
    have ob7 : true = true → true = false → false = true := by first | decide | omega | simp | (intro h; cases h)
    have ob8 := idA (false = true)
    have ob9 := idA (false = true)
    have ob10 := idA (false = true)
    have ob11 : true = true → true = false → false = true := by first | decide | omega | simp | (intro h; cases h)
    refine q1rr [] [(5, ⟨[], [], [], [], (.bool true), [], [0], []⟩), (7, ⟨[], [], [], [], .any, [], [], []⟩), (9, ⟨[], [], [], [], .bool false, [], [], []⟩), (15, ⟨[], [], [], [], .bool false, [], [], []⟩)] ⟨82, [(0, q1aT31 x1), (3, q1aI r6.1), (5, .own 6003), (47, .bool true), (1000003, .tab .u64 Lib.pow10Tab)], (f6z1 r8), [], 0⟩ (ac6 (show ((.bool ((lZ r8) != (lZ r6.1))) : V) = (.bool true) from (congrArg (fun x => ((.bool x) : V)) hg7_5)) (And.intro (show (callP Tryz.prog false 12 [] [] [] [] [] (f6z0 x1) [] (.any) []) from ⟨nofun, nofun, .inl rfl⟩) (an1 ob3)) (And.intro (show (callP Tryz.prog false 24 [] [] [] [] [] [.any, q1aI r6.1] [] (.bool false) []) from ⟨nofun, nofun, .inl rfl⟩) (an2 ob4 ob5)) (an1 ob6) ob7 (And.intro (show (callP Tryz.prog false 25 [] [] [] [] [] [q1aT31 x1, q1aI r6.1, .bool true] [] (.bool false) []) from ⟨nofun, nofun, .inl rfl⟩) (an2 ob8 ob9)) (an2 (an1 ob10) ob11)) ?_
    refine tN ?_
    refine AWp.cond (b := true) (by kernel_rfl) (fun hc => ?_) (fun hc => ?_)
    ·
     clear hc
     refine q1rq [] [] ⟨82, (f6z3), [], [], 0⟩ trivial ?_
     have hret := Option.some.inj h
     subst hret
     refine AWp.le (Le.mk (s' := ⟨82, [(2, .bool false)], [], [], 0⟩) rfl rfl ⟨.refl _, trivial⟩ trivial) ?_
     refine AWp.ret ?_
     refine tR ?_
     exact bR _ rfl ⟨rfl, rfl⟩ rfl
    ·
     cases hc
   ·
    replace h := ite_f hg7_5 h
    obtain ⟨r9, hr9, h⟩ := bind_ok h
    obtain ⟨r10, hr10, h⟩ := bind_ok h
    obtain ⟨r11, hr11, h⟩ := optc_some h
    have ob3 := idA (true = true)
    have ob4 := idA (true = true)
    have ob5 := idA (true = true)
    have ob6 : true = true → false = false → true = true := by first | decide | omega | simp | (intro h; cases h)
    have ob7 := idA (((!r10) == false) = true)
    have ob8 := idA (((!r10) == false) = true)
    have ob9 := idA (((!r10) == false) = true)
    have ob10 := bqA (!r10) false
    refine q1rr [] [(5, ⟨[], [], [], [], (.bool false), [], [0], []⟩), (7, ⟨(f6z0 x1), [], [], [(6004, q1bT31_31 r9)], .own 6004, [6004], [], []⟩), (9, ⟨[q1aT31 r9, q1aI r6.1], [], [], [], .bool r10, [], [6004], [3]⟩), (15, ⟨[q1aT31 x1, q1aI r6.1, .bool true], [], [], [], .bool r11, [], [], []⟩)] ⟨82, [(0, q1aT31 x1), (3, q1aI r6.1), (5, .own 6003), (47, .bool ((!r10) || (!r11))), (1000003, .tab .u64 Lib.pow10Tab)], (f6z1 r8), [], 0⟩ (ac6 (show ((.bool ((lZ r8) != (lZ r6.1))) : V) = (.bool false) from (congrArg (fun x => ((.bool x) : V)) (Bool.eq_false_iff.2 hg7_5))) (And.intro (cpT (Spec1.ren (swapN 3000 6004) (swapN_inv 3000 6004) rfl (f12_ok _ _ hr9))) (an1 ob3)) (And.intro (cpL (c := true) [(6004, q1bT31_31 r9)] [6004] [.own 6004, q1aI r6.1] (fun _ => (f24_ok _ _ _ hr10)) (fun _ => ⟨.refl _, .refl _, trivial⟩) (.inr ⟨rfl, trivial⟩)) (an1 ob4)) (an1 ob5) ob6 (And.intro (cpC fun hc => (f25_ok _ _ _ _ (hr11 hc))) (an2 ob7 ob8)) (an2 (an1 ob9) ob10)) ?_
    refine tN ?_
    refine AWp.cond (b := ((!r10) || (!r11))) (by kernel_rfl) (fun hc4 => ?_) (fun hc4 => ?_)
    ·
     replace h := ite_tb hc4 h
     refine q1rq [] [] ⟨82, (f6z3), [], [], 0⟩ trivial ?_
     have hret := Option.some.inj h
     subst hret
     refine AWp.le (Le.mk (s' := ⟨82, [(2, .bool false)], [], [], 0⟩) rfl rfl ⟨.refl _, trivial⟩ trivial) ?_
     refine AWp.ret ?_
     refine tR ?_
     exact bR _ rfl ⟨rfl, rfl⟩ rfl
    ·
     replace h := ite_fb hc4 h
     refine AWp.skip ?_
     refine tN ?_
     obtain ⟨K1, hK1, h⟩ := jn_some h
     refine AWp.join (α := Unit) (fun (x : Unit) => match x with | () => ⟨82, (f6z2 x1), [], [], 0⟩) (fun x => K1 x = some r) ?_ ?_
     ·
      refine q1rq [] [] ⟨82, [(0, q1aT31 x1), (5, .own 6003), (48, q1aI r6.1), (49, .i (lZ r6.1)), (50, .i (0 : Int)), (1000003, .tab .u64 Lib.pow10Tab)], (f6z1 r8), [], 0⟩ trivial ?_
      refine AWp.block ?_
      refine AWp.loopL (α := Nat × Nat) (fun x => match x with | (_, n12) => ⟨82, [(0, q1aT31 x1), (5, .own 6003), (48, q1aI r6.1), (49, .i (lZ r6.1)), (50, .i (n12 : Int)), (1000003, .tab .u64 Lib.pow10Tab)], (f6z1 r8), [], 0⟩) (fun x => f6_L0 x1 r6 r8 K1 x.1 x.2 = some r) (fun x => x.1) (FUEL, 0) (Le.mk (s' := ⟨82, [(0, q1aT31 x1), (5, .own 6003), (48, q1aI r6.1), (49, .i (lZ r6.1)), (50, .i (0 : Int)), (1000003, .tab .u64 Lib.pow10Tab)], (f6z1 r8), [], 0⟩) rfl rfl ⟨.refl _, .refl _, .refl _, .refl _, .refl _, .refl _, trivial⟩ ⟨⟨_, rfl, .refl _⟩, trivial⟩) h ?_
      rintro ⟨k0, n12⟩ h
      cases k0 with
      | zero => exact nomatch (show (none : Option Bool) = some r from h)
      | succ k0 =>
      obtain ⟨C0, hC0⟩ : ∃ C, C = f6_L0 x1 r6 r8 K1 k0 := ⟨_, rfl⟩
      replace h := (f6_L0.eq_2 ..).symm.trans h
      try rw [← hC0] at h
      refine q1rq [] [] ⟨82, [(0, q1aT31 x1), (5, .own 6003), (48, q1aI r6.1), (49, .i (lZ r6.1)), (50, .i (n12 : Int)), (51, .bool (decide ((n12 : Int) < (lZ r6.1)))), (1000003, .tab .u64 Lib.pow10Tab)], (f6z1 r8), [], 0⟩ trivial ?_
      refine AWp.seq ?_
      refine AWp.cond (b := (decide ((n12 : Int) < (lZ r6.1)))) (by kernel_rfl) (fun hc5 => ?_) (fun hc5 => ?_)
      ·
       replace h := ite_tb hc5 h
       refine AWp.skip ?_
       refine tN ?_
       refine AWp.seq ?_
       refine AWp.block ?_
       refine AWp.seq ?_
       obtain ⟨ob12p, h⟩ := chk_some h
       have ob12 : 0 ≤ (n12 : Int) ∧ (n12 : Int) < (((r6.1).length : Nat) : Int) := ⟨by omega, ob12p⟩
       refine q1rr [] [] ⟨82, [(0, q1aT31 x1), (5, .own 6003), (6, .i (n12 : Int)), (7, .i (r6.1.getD n12 0)), (48, q1aI r6.1), (49, .i (lZ r6.1)), (50, .i (n12 : Int)), (1000003, .tab .u64 Lib.pow10Tab)], (f6z1 r8), [], 0⟩ (an1 ob12) ?_
       refine tN ?_
       refine AWp.seq ?_
       obtain ⟨ob13, ob14, h⟩ := ck2 h
       have ob15 := idA ((((x1.getD (((r6.1.getD n12 0)).toNat) q1dT31).2.2.1 != (-1 : Int)) == true) = true)
       have ob16 := idA ((((x1.getD (((r6.1.getD n12 0)).toNat) q1dT31).2.2.1 != (-1 : Int)) == true) = true)
       have ob17 := idA ((((x1.getD (((r6.1.getD n12 0)).toNat) q1dT31).2.2.1 != (-1 : Int)) == true) = true)
       have ob18 := idA ((((x1.getD (((r6.1.getD n12 0)).toNat) q1dT31).2.2.1 != (-1 : Int)) == true) = true)
       obtain ⟨ob19, h⟩ := chk_some h
       have ob20 := idA ((((x1.getD (((r6.1.getD n12 0)).toNat) q1dT31).2.2.1 != (-1 : Int)) == true) = true)
       have ob21 := idA ((((x1.getD (((r6.1.getD n12 0)).toNat) q1dT31).2.2.1 != (-1 : Int)) == true) = true)
       obtain ⟨ob22, h⟩ := chk_some h
       have ob23 := idA ((((x1.getD (((r6.1.getD n12 0)).toNat) q1dT31).2.2.1 != (-1 : Int)) == true) = true)
       have ob24 := idA ((((x1.getD (((r6.1.getD n12 0)).toNat) q1dT31).2.2.1 != (-1 : Int)) == true) = true)
       have ob25 := idA ((((x1.getD (((r6.1.getD n12 0)).toNat) q1dT31).2.2.1 != (-1 : Int)) == true) = true)
       have ob26 := bqA ((x1.getD (((r6.1.getD n12 0)).toNat) q1dT31).2.2.1 != (-1 : Int)) true
       refine q1rr [] [] ⟨82, [(0, q1aT31 x1), (5, .own 6003), (48, q1aI r6.1), (49, .i (lZ r6.1)), (50, .i (n12 : Int)), (72, .bool (((x1.getD (((r6.1.getD n12 0)).toNat) q1dT31).2.2.1 != (-1 : Int)) && (!(((x1.getD (((r6.1.getD n12 0)).toNat) q1dT31).2.2.2.2) == (r8.getD n12 []))))), (1000003, .tab .u64 Lib.pow10Tab)], (f6z1 r8), [], 0⟩ (ac6 ob13 (And.intro ob14 (an2 ob15 ob16)) (an1 ob17) (an1 ob18) (And.intro ob19 (an2 ob20 ob21)) (And.intro ob22 (an1 ob23)) (an2 (an2 ob24 ob25) ob26)) ?_
       refine tN ?_
       refine AWp.cond (b := (((x1.getD (((r6.1.getD n12 0)).toNat) q1dT31).2.2.1 != (-1 : Int)) && (!(((x1.getD (((r6.1.getD n12 0)).toNat) q1dT31).2.2.2.2) == (r8.getD n12 []))))) (by kernel_rfl) (fun hc6 => ?_) (fun hc6 => ?_)
       ·
        replace h := ite_tb hc6 h
        refine q1rq [] [] ⟨82, (f6z3), [], [], 0⟩ trivial ?_
        have hret := Option.some.inj h
        subst hret
        refine AWp.le (Le.mk (s' := ⟨82, [(2, .bool false)], [], [], 0⟩) rfl rfl ⟨.refl _, trivial⟩ trivial) ?_
        refine AWp.ret ?_
        refine kR ?_
        refine tR ?_
        refine tR ?_
        refine kR ?_
        refine joinQ_ret ?_
        exact bR _ rfl ⟨rfl, rfl⟩ rfl
       ·
        replace h := ite_fb hc6 h
        refine AWp.skip ?_
        refine kN ?_
        refine tN ?_
        obtain ⟨ob27p, h⟩ := chk_some h
        have ob27 : -9223372036854775808 ≤ ((n12 : Int) + (1 : Int)) ∧ ((n12 : Int) + (1 : Int)) ≤ 9223372036854775807 := ⟨by omega, ob27p⟩
        refine q1rr [] [] ⟨82, [(0, q1aT31 x1), (5, .own 6003), (48, q1aI r6.1), (49, .i (lZ r6.1)), (50, .i (((n12 + 1) : Nat) : Int)), (1000003, .tab .u64 Lib.pow10Tab)], (f6z1 r8), [], 0⟩ (an1 ob27) ?_
        rw [hC0] at h
        exact lN (_, (n12 + 1)) (Le.mk rfl rfl ⟨.refl _, .refl _, .refl _, .refl _, .refl _, .refl _, trivial⟩ ⟨⟨_, rfl, .refl _⟩, trivial⟩) h (Nat.lt_succ_self _)
      ·
       replace h := ite_fb hc5 h
       refine AWp.exit ?_
       refine tE ?_
       refine tE ?_
       refine kS ?_
       exact jN () (Le.mk rfl rfl ⟨.refl _, .refl _, trivial⟩ trivial) h
     ·
      rintro ⟨⟩ h
      replace h := (congrFun hK1 _).symm.trans h
      refine AWp.seq ?_
      obtain ⟨r13, hr13, h⟩ := bind_ok h
      obtain ⟨r14, hr14, h⟩ := bind_ok h
      refine q1rr [] [(1, ⟨(f6z0 x1), [], [], (f6z5 r13), .own 6005, [6005], [], []⟩), (2, ⟨[.own 6005], [6005], [], [], .tup [q1aI r14.1, .i r14.2], [], [], [3]⟩)] ⟨82, [(9, .i r14.2), (1000003, .tab .u64 Lib.pow10Tab)], [], [], 0⟩ (an2 (cpT (Spec1.ren (swapN 3000 6005) (swapN_inv 3000 6005) rfl (f12_ok _ _ hr13))) (show (callP Tryz.prog true 14 [(3, .tab .u64 Lib.pow10Tab)] [] (f6z5 r13) [] [] [.own 6005] [.own 6005] (.tup [q1aI r14.1, .i r14.2]) []) from ⟨fun _ => (Spec1.pre (f14_ok _ _ hr14) rfl rfl rfl (Le.trans (Le.freeze 6005 rfl rfl) (Le.mk (s' := ⟨1, [(0, q1aT31 r13), (1000003, .tab .u64 Lib.pow10Tab)], [], [], 0⟩) rfl rfl ⟨.refl _, .refl _, trivial⟩ trivial))), fun _ => ⟨.refl _, trivial⟩, .inl rfl⟩)) ?_
      refine tN ?_
      refine q1rq [] [] ⟨82, [(2, .bool (r14.2 == (0 : Int))), (1000003, .tab .u64 Lib.pow10Tab)], [], [], 0⟩ trivial ?_
      have hret := Option.some.inj h
      subst hret
      refine AWp.le (Le.mk (s' := ⟨82, [(2, .bool (r14.2 == (0 : Int)))], [], [], 0⟩) rfl rfl ⟨.refl _, trivial⟩ trivial) ?_
      refine AWp.ret ?_
      exact bR _ rfl ⟨rfl, rfl⟩ rfl
end Go.Abs
namespace Go.Abs
theorem chk_pos {p : Prop} [Decidable p] {α : Type} {x : Option α} (h : p) : chk p x = x := if_pos h
theorem ifd_pos {p : Prop} [Decidable p] {α : Type} {x y : α} (h : p) : (if decide p = true then x else y) = x := if_pos (decide_eq_true h)
theorem ifd_neg {p : Prop} [Decidable p] {α : Type} {x y : α} (h : ¬ p) : (if decide p = true then x else y) = y := if_neg (by simpa using h)
theorem jn_eq {α β : Type} (K : α → Option β) (x : (α → Option β) → Option β) : jn K x = x K := rfl
theorem optc_t {α β : Type} [Inhabited α] {x : Option α} {k : α → Option β} : optc true x k = x.bind k := rfl
theorem optc_f {α β : Type} [Inhabited α] {x : Option α} {k : α → Option β} : optc false x k = k default := rfl
theorem some_bind {α β : Type} (a : α) (f : α → Option β) : (some a).bind f = f a := rfl
theorem abc_eq {α : Type} [DecidableEq α] {q : Prop} [Decidable q] {x y : Option α} (h : q → x = y) : abc q x y = y := by
 unfold abc both
 split
 ·rename_i hq; rw [h hq]; simp
 ·rfl
theorem fuel_lt {n : Nat} (h : n ≤ 18446744073709551615) : n < FUEL := by unfold FUEL; omega
theorem getD_drop {α : Type} (x : List α) (n : Nat) (d : α) (h : n < x.length) : x.drop n = x.getD n d :: x.drop (n + 1) := by
 rw [List.drop_eq_getElem_cons h]
 simp [List.getD_eq_getElem?_getD, h]
theorem fold_up {α S R : Type} (L : Nat → Nat × S → Option R) (x : List α) (d : α) (Inv : Nat → S → Prop) (g : S → α → S) (K : S → Option R)
  (h : ∀ k n s, n < x.length → Inv n s → L (k + 1) (n, s) = L k (n + 1, g s (x.getD n d)))
  (hI : ∀ n s, n < x.length → Inv n s → Inv (n + 1) (g s (x.getD n d)))
  (he : ∀ k s, Inv x.length s → L (k + 1) (x.length, s) = K s) : ∀ c k n s, n + c = x.length → c < k → Inv n s → L k (n, s) = K ((x.drop n).foldl g s)
 | 0, k, n, s, hn, hk, hi => by
  obtain ⟨k, rfl⟩ : ∃ q, k = q + 1 := ⟨k - 1, by omega⟩
  obtain rfl : n = x.length := by omega
  rw [he k s hi, List.drop_eq_nil_of_le (Nat.le_refl _)]; rfl
 | c + 1, k, n, s, hn, hk, hi => by
  obtain ⟨k, rfl⟩ : ∃ q, k = q + 1 := ⟨k - 1, by omega⟩
  have hlt : n < x.length := by omega
  rw [h k n s hlt hi, getD_drop x n d hlt]
  exact fold_up L x d Inv g K h hI he c k (n + 1) _ (by omega) (by omega) (hI n s hlt hi)
theorem foldl_inv {α S : Type} (Inv : Nat → S → Prop) (g : S → α → S) (d : α) (x : List α) (hI : ∀ n s, n < x.length → Inv n s → Inv (n + 1) (g s (x.getD n d))) (s : S) (h0 : Inv 0 s) : Inv x.length (x.foldl g s) := by
 suffices H : ∀ c n s, n + c = x.length → Inv n s → Inv x.length ((x.drop n).foldl g s) by simpa using H x.length 0 s (by omega) h0
 intro c
 induction c with
 | zero =>
  intro n s hn hi
  obtain rfl : n = x.length := by omega
  rw [List.drop_eq_nil_of_le (Nat.le_refl _)]; exact hi
 | succ c ih =>
  intro n s hn hi
  have hlt : n < x.length := by omega
  rw [getD_drop x n d hlt]
  exact ih (n + 1) _ (by omega) (hI n s hlt hi)
theorem find_up {α R : Type} (L : Nat → Nat → Option R) (x : List α) (d : α) (p : α → Bool) (r : Nat → Option R) (K : Option R)
  (h : ∀ k n, n < x.length → L (k + 1) n = if p (x.getD n d) = true then r n else L k (n + 1))
  (he : ∀ k, L (k + 1) x.length = K) : ∀ c k n, n + c = x.length → c < k →
   (∃ m, n ≤ m ∧ m < x.length ∧ p (x.getD m d) = true ∧ L k n = r m ∧ (x.drop n).any p = true) ∨ (L k n = K ∧ (x.drop n).any p = false)
 | 0, k, n, hn, hk => by
  obtain ⟨k, rfl⟩ : ∃ q, k = q + 1 := ⟨k - 1, by omega⟩
  obtain rfl : n = x.length := by omega
  exact .inr ⟨he k, by rw [List.drop_eq_nil_of_le (Nat.le_refl _)]; rfl⟩
 | c + 1, k, n, hn, hk => by
  obtain ⟨k, rfl⟩ : ∃ q, k = q + 1 := ⟨k - 1, by omega⟩
  have hlt : n < x.length := by omega
  rw [h k n hlt, getD_drop x n d hlt]
  by_cases hp : p (x.getD n d) = true
  ·rw [if_pos hp]; exact .inl ⟨n, Nat.le_refl _, hlt, hp, rfl, by rw [List.any_cons, hp]; rfl⟩
  ·rw [if_neg hp]
   have hp' : p (x.getD n d) = false := by simpa using hp
   rw [List.any_cons, hp', Bool.false_or]
   rcases find_up L x d p r K h he c k (n + 1) (by omega) (by omega) with ⟨m, h1, h2⟩ | h2
   ·exact .inl ⟨m, by omega, h2⟩
   ·exact .inr h2
theorem any_up {α R : Type} (L : Nat → Nat → Option R) (x : List α) (d : α) (p : α → Bool) (r : Option R) (K : Option R)
  (h : ∀ k n, n < x.length → L (k + 1) n = if p (x.getD n d) = true then r else L k (n + 1))
  (he : ∀ k, L (k + 1) x.length = K) (k : Nat) (hk : x.length < k) : L k 0 = if x.any p = true then r else K := by
 rcases find_up L x d p (fun _ => r) K h he x.length k 0 (by omega) hk with ⟨m, _, _, _, h1, h2⟩ | ⟨h1, h2⟩
 ·rw [h1, if_pos (by simpa using h2)]
 ·rw [h1, if_neg (by simpa using h2)]
end Go.Abs
