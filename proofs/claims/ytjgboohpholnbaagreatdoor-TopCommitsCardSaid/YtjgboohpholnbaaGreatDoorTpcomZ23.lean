/- Part 23 of the proof: Xtz. -/
import Derived.Test.YtjgboohpholnbaaGreatDoorTpcomZ22
namespace Go.Abs
open Go Go.Proofs
set_option maxRecDepth 100000
set_option maxHeartbeats 4000000
theorem f18_ok  (x1 : List (TB)) (r : List (TB)) (h : f18 x1 = some r)  : Spec1 Tryz.prog 18 [] [] [] [vL 1 eW 0#16 x1] (.own 3000) [(3000, bL 27 1 eW 0#16 r)] := by
 unfold f18 at h
 refine Spec1.body 0 _ _ Tryz.func18 rfl Tryz.ntmps18 rfl rfl ?_
 refine q2rq [] [] ⟨45, [(0, q2aW x1)], [], [], 0⟩ trivial ?_
 refine q2rq [] [] ⟨45, [(0, q2aW x1), (3, .nils)], [], [], 0⟩ trivial ?_
 refine AWp.seq ?_
 obtain ⟨r2, hr2, h⟩ := bind_ok h
 refine q2rr [] [(1, ⟨[q2aW x1], [], [], [(6001, q2bW_27 r2)], .own 6001, [6001], [], []⟩)] ⟨45, [(3, .nils), (4, .own 6001)], [(6001, q2bW_27 r2)], [], 0⟩ (an1 (cpT (Spec1.ren (swapN 3000 6001) (swapN_inv 3000 6001) rfl (f38_ok _ _ hr2)))) ?_
 refine tN ?_
 obtain ⟨K1, hK1, h⟩ := jn_some h
 refine AWp.join (α := List (TB)) (fun (l11 : List (TB)) => ⟨45, [(3, .own 5003)], [(5003, q2bW_27 l11)], [], 0⟩) (fun x => K1 x = some r) ?_ ?_
 ·
  refine q2rq [] [] ⟨45, [(3, .nils), (4, .own 6001), (5, .i (0 : Int))], [(6001, q2bW_27 r2)], [], 0⟩ trivial ?_
  refine AWp.block ?_
  refine AWp.loopL (α := Nat × Tq1) (fun x => match x with | (_, n3, l4) => ⟨45, (f18z2 n3), (f18z0 l4 r2), [], 0⟩) (fun x => f18_L0 r2 K1 x.1 x.2 = some r) (fun x => x.1) (FUEL, 0, []) (Le.trans (Le.trans (Le.nilOwn 3 5003 27 1 (encF eW 0#16 []) rfl rfl (Nat.le_of_ble_eq_true rfl)) (Le.mk (s' := ⟨45, [(3, .own 5003), (4, .own 6001), (5, .i (0 : Int))], [(6001, q2bW_27 r2), (5003, q2bW_27 [])], [], 0⟩) rfl rfl ⟨.refl _, .refl _, .refl _, trivial⟩ ⟨⟨_, rfl, .refl _⟩, ⟨_, rfl, .refl _⟩, trivial⟩)) (Le.mk (s' := ⟨45, [(3, .own 5003), (4, .own 6001), (5, .i (0 : Int))], [(5003, q2bW_27 []), (6001, q2bW_27 r2)], [], 0⟩) rfl rfl ⟨.refl _, .refl _, .refl _, trivial⟩ ⟨⟨_, rfl, .refl _⟩, ⟨_, rfl, .refl _⟩, trivial⟩)) h ?_
  rintro ⟨k0, n3, l4⟩ h
  cases k0 with
  | zero => exact nomatch (show (none : Option (List (TB))) = some r from h)
  | succ k0 =>
  obtain ⟨C0, hC0⟩ : ∃ C, C = f18_L0 r2 K1 k0 := ⟨_, rfl⟩
  replace h := (f18_L0.eq_2 ..).symm.trans h
  try rw [← hC0] at h
  refine AWp.seq ?_
  refine q2rq [] [] ⟨45, [(3, .own 5003), (4, .own 6001), (5, .i (n3 : Int)), (13, .bool (decide ((n3 : Int) < (lZ r2))))], (f18z0 l4 r2), [], 0⟩ trivial ?_
  refine AWp.cond (b := (decide ((n3 : Int) < (lZ r2)))) (by kernel_rfl) (fun hc1 => ?_) (fun hc1 => ?_)
  ·
   replace h := ite_tb hc1 h
   refine AWp.skip ?_
   refine tN ?_
   obtain ⟨K2, hK2, h⟩ := jn_some h
   refine AWp.join (α := List (TB)) (fun (l10 : List (TB)) => ⟨45, (f18z3 n3), [(43, q2bW_27 l10), (6001, q2bW_27 r2)], [], 0⟩) (fun x => K2 x = some r) ?_ ?_
   ·
    refine AWp.block ?_
    refine q2rq [] [] ⟨45, [(3, .own 5003), (4, .own 6001), (5, .i (n3 : Int)), (6, .bool true)], (f18z0 l4 r2), [], 0⟩ trivial ?_
    obtain ⟨K3, hK3, h⟩ := jn_some h
    refine AWp.join (α := Bool) (fun (b9 : Bool) => ⟨45, [(3, .own 5003), (4, .own 6001), (5, .i (n3 : Int)), (6, .bool b9)], (f18z0 l4 r2), [], 0⟩) (fun x => K3 x = some r) ?_ ?_
    ·
     refine q2rq [] [] ⟨45, [(3, .own 5003), (4, .own 6001), (5, .i (n3 : Int)), (6, .bool true), (7, .i (0 : Int))], (f18z0 l4 r2), [], 0⟩ trivial ?_
     refine AWp.block ?_
     refine AWp.loopL (α := Nat × (Bool × Nat)) (fun x => match x with | (_, b5, n6) => ⟨45, [(3, .own 5003), (4, .own 6001), (5, .i (n3 : Int)), (6, .bool b5), (7, .i (n6 : Int))], (f18z0 l4 r2), [], 0⟩) (fun x => f18_L1 r2 n3 K3 x.1 x.2 = some r) (fun x => x.1) (FUEL, true, 0) (Le.mk (s' := ⟨45, [(3, .own 5003), (4, .own 6001), (5, .i (n3 : Int)), (6, .bool true), (7, .i (0 : Int))], (f18z0 l4 r2), [], 0⟩) rfl rfl ⟨.refl _, .refl _, .refl _, .refl _, .refl _, trivial⟩ ⟨⟨_, rfl, .refl _⟩, ⟨_, rfl, .refl _⟩, trivial⟩) h ?_
     rintro ⟨k1, b5, n6⟩ h
     cases k1 with
     | zero => exact nomatch (show (none : Option (List (TB))) = some r from h)
     | succ k1 =>
     obtain ⟨C1, hC1⟩ : ∃ C, C = f18_L1 r2 n3 K3 k1 := ⟨_, rfl⟩
     replace h := (f18_L1.eq_2 ..).symm.trans h
     try rw [← hC1] at h
     refine AWp.seq ?_
     refine q2rq [] [] ⟨45, [(3, .own 5003), (4, .own 6001), (5, .i (n3 : Int)), (6, .bool b5), (7, .i (n6 : Int)), (19, .bool (decide ((n6 : Int) < (lZ r2))))], (f18z0 l4 r2), [], 0⟩ trivial ?_
     refine AWp.cond (b := (decide ((n6 : Int) < (lZ r2)))) (by kernel_rfl) (fun hc2 => ?_) (fun hc2 => ?_)
     ·
      replace h := ite_tb hc2 h
      refine AWp.skip ?_
      refine tN ?_
      obtain ⟨K4, hK4, h⟩ := jn_some h
      refine AWp.join (α := Bool) (fun (b8 : Bool) => ⟨45, [(3, .own 5003), (4, .own 6001), (5, .i (n3 : Int)), (6, .bool b8), (7, .i (n6 : Int))], (f18z0 l4 r2), [], 0⟩) (fun x => K4 x = some r) ?_ ?_
      ·
       refine AWp.block ?_
       refine AWp.seq ?_
       obtain ⟨r7, hr7, h⟩ := optc_some h
       obtain ⟨ob0, h⟩ := chk_some h
       have ob1 := idA ((f18z1 n3 n6) = true)
       have ob2 := idA ((f18z1 n3 n6) = true)
       obtain ⟨ob3, h⟩ := chk_some h
       have ob4 := idA ((f18z1 n3 n6) = true)
       obtain ⟨ob5, h⟩ := chk_some h
       have ob6 := idA ((f18z1 n3 n6) = true)
       have ob7 := idA ((f18z1 n3 n6) = true)
       obtain ⟨ob8, h⟩ := chk_some h
       have ob9 := idA ((f18z1 n3 n6) = true)
       have ob10 := idA ((f18z1 n3 n6) = true)
       have ob11 := idA ((f18z1 n3 n6) = true)
       have ob12 : true = true → ((n3 : Int) != (n6 : Int)) = true → (f18z1 n3 n6) = true := fun _ h => beq_iff_eq.2 h
       refine q2rr [] [(12, ⟨[.b16 (r2.getD n6 0#16), .b16 (r2.getD n3 0#16)], [], [], [], .bool r7, [], [], []⟩)] ⟨45, [(3, .own 5003), (4, .own 6001), (5, .i (n3 : Int)), (6, .bool b5), (7, .i (n6 : Int)), (35, .bool (((n3 : Int) != (n6 : Int)) && r7))], (f18z0 l4 r2), [], 0⟩ (an6 (And.intro ob0 (an2 ob1 ob2)) (And.intro ob3 (an1 ob4)) (And.intro ob5 (an2 ob6 ob7)) (And.intro ob8 (an1 ob9)) (And.intro (cpC fun hc => (f39_ok _ _ _ (hr7 hc))) (an2 ob10 ob11)) ob12) ?_
       refine tN ?_
       refine AWp.cond (b := (((n3 : Int) != (n6 : Int)) && r7)) (by kernel_rfl) (fun hc3 => ?_) (fun hc3 => ?_)
       ·
        replace h := ite_tb hc3 h
        refine q2rr [] [] ⟨45, [(3, .own 5003), (4, .own 6001), (5, .i (n3 : Int)), (6, .bool false), (7, .i (n6 : Int))], (f18z0 l4 r2), [], 0⟩ trivial ?_
        refine kN ?_
        exact jN (false) (Le.mk rfl rfl ⟨.refl _, .refl _, .refl _, .refl _, .refl _, trivial⟩ ⟨⟨_, rfl, .refl _⟩, ⟨_, rfl, .refl _⟩, trivial⟩) h
       ·
        replace h := ite_fb hc3 h
        refine AWp.skip ?_
        refine kN ?_
        exact jN (b5) (Le.mk rfl rfl ⟨.refl _, .refl _, .refl _, .refl _, .refl _, trivial⟩ ⟨⟨_, rfl, .refl _⟩, ⟨_, rfl, .refl _⟩, trivial⟩) h
      ·
       rintro b8 h
       replace h := (congrFun hK4 _).symm.trans h
       obtain ⟨ob13p, h⟩ := chk_some h
       have ob13 : -9223372036854775808 ≤ ((n6 : Int) + (1 : Int)) ∧ ((n6 : Int) + (1 : Int)) ≤ 9223372036854775807 := ⟨by omega, ob13p⟩
       refine q2rr [] [] ⟨45, [(3, .own 5003), (4, .own 6001), (5, .i (n3 : Int)), (6, .bool b8), (7, .i (((n6 + 1) : Nat) : Int))], (f18z0 l4 r2), [], 0⟩ (an1 ob13) ?_
       rw [hC1] at h
       exact lN (_, b8, (n6 + 1)) (Le.mk rfl rfl ⟨.refl _, .refl _, .refl _, .refl _, .refl _, trivial⟩ ⟨⟨_, rfl, .refl _⟩, ⟨_, rfl, .refl _⟩, trivial⟩) h (Nat.lt_succ_self _)
     ·
      replace h := ite_fb hc2 h
      refine AWp.exit ?_
      refine tE ?_
      refine tE ?_
      refine kS ?_
      exact jN (b5) (Le.mk rfl rfl ⟨.refl _, .refl _, .refl _, .refl _, trivial⟩ ⟨⟨_, rfl, .refl _⟩, ⟨_, rfl, .refl _⟩, trivial⟩) h
    ·
     rintro b9 h
     replace h := (congrFun hK3 _).symm.trans h
     refine q2rq [] [] ⟨45, [(3, .own 5003), (4, .own 6001), (5, .i (n3 : Int)), (36, .bool b9)], (f18z0 l4 r2), [], 0⟩ trivial ?_
     refine AWp.cond (b := b9) (by kernel_rfl) (fun hc4 => ?_) (fun hc4 => ?_)
     ·
      replace h := ite_tb hc4 h
      obtain ⟨ob14p, h⟩ := chk_some h
      have ob14 : 0 ≤ (n3 : Int) ∧ (n3 : Int) < (((r2).length : Nat) : Int) := ⟨by omega, ob14p⟩
      obtain ⟨ob15, ob16, h⟩ := ck2 h
      refine q2rr [] [] ⟨45, (f18z2 n3), [(5003, .rows 27 1 ((l4).length + 1) (appF (l4).length (encF eW 0#16 l4) (lstF 1 [.b16 (r2.getD n3 0#16)]))), (6001, q2bW_27 r2)], [], 0⟩ (an3 ob14 ob15 ob16) ?_
      refine kN ?_
      exact jN ((l4 ++ [(r2.getD n3 0#16)])) (Le.trans (Le.mk (s' := ⟨45, (f18z2 n3), [(5003, q2bW_27 (l4 ++ [(r2.getD n3 0#16)])), (6001, q2bW_27 r2)], [], 0⟩) rfl rfl ⟨.refl _, .refl _, .refl _, trivial⟩ ⟨⟨_, rfl, (BLe.of (RL.app (RL.self _) (RL.lst (enc := eW) [(r2.getD n3 0#16)] rfl rfl (fun _ => rfl))))⟩, ⟨_, rfl, .refl _⟩, trivial⟩) (Le.trans (Le.trans (Le.ren (swapN 5003 43) (swapN_inv 5003 43) rfl) (Le.mk (s' := ⟨45, (f18z3 n3), [(43, q2bW_27 (l4 ++ [(r2.getD n3 0#16)])), (6001, q2bW_27 r2)], [], 0⟩) rfl rfl ⟨.refl _, .refl _, .refl _, trivial⟩ ⟨⟨_, rfl, .refl _⟩, ⟨_, rfl, .refl _⟩, trivial⟩)) (Le.mk rfl rfl ⟨.refl _, .refl _, .refl _, trivial⟩ ⟨⟨_, rfl, .refl _⟩, ⟨_, rfl, .refl _⟩, trivial⟩))) h
     ·
      replace h := ite_fb hc4 h
      refine AWp.skip ?_
      refine kN ?_
      exact jN (l4) (Le.trans (Le.trans (Le.ren (swapN 5003 43) (swapN_inv 5003 43) rfl) (Le.mk (s' := ⟨45, [(3, .own 43), (4, .own 6001), (5, .i (n3 : Int)), (36, .bool b9)], [(43, q2bW_27 l4), (6001, q2bW_27 r2)], [], 0⟩) rfl rfl ⟨.refl _, .refl _, .refl _, .refl _, trivial⟩ ⟨⟨_, rfl, .refl _⟩, ⟨_, rfl, .refl _⟩, trivial⟩)) (Le.mk rfl rfl ⟨.refl _, .refl _, .refl _, trivial⟩ ⟨⟨_, rfl, .refl _⟩, ⟨_, rfl, .refl _⟩, trivial⟩)) h
   ·
    rintro l10 h
    replace h := (congrFun hK2 _).symm.trans h
    obtain ⟨ob17p, h⟩ := chk_some h
    have ob17 : -9223372036854775808 ≤ ((n3 : Int) + (1 : Int)) ∧ ((n3 : Int) + (1 : Int)) ≤ 9223372036854775807 := ⟨by omega, ob17p⟩
    refine q2rr [] [] ⟨45, [(3, .own 43), (4, .own 6001), (5, .i (((n3 + 1) : Nat) : Int))], [(43, q2bW_27 l10), (6001, q2bW_27 r2)], [], 0⟩ (an1 ob17) ?_
    rw [hC0] at h
    exact lN (_, (n3 + 1), l10) (Le.trans (Le.trans (Le.ren (swapN 43 5003) (swapN_inv 43 5003) rfl) (Le.mk (s' := ⟨45, [(3, .own 5003), (4, .own 6001), (5, .i (((n3 + 1) : Nat) : Int))], [(5003, q2bW_27 l10), (6001, q2bW_27 r2)], [], 0⟩) rfl rfl ⟨.refl _, .refl _, .refl _, trivial⟩ ⟨⟨_, rfl, .refl _⟩, ⟨_, rfl, .refl _⟩, trivial⟩)) (Le.mk rfl rfl ⟨.refl _, .refl _, .refl _, trivial⟩ ⟨⟨_, rfl, .refl _⟩, ⟨_, rfl, .refl _⟩, trivial⟩)) h (Nat.lt_succ_self _)
  ·
   replace h := ite_fb hc1 h
   refine AWp.exit ?_
   refine tE ?_
   refine tE ?_
   refine kS ?_
   exact jN (l4) (Le.mk rfl rfl ⟨.refl _, trivial⟩ ⟨⟨_, rfl, .refl _⟩, trivial⟩) h
 ·
  rintro l11 h
  replace h := (congrFun hK1 _).symm.trans h
  refine q2rq [] [] ⟨45, [(2, .own 5003)], [(5003, q2bW_27 l11)], [], 0⟩ trivial ?_
  refine AWp.le (Le.trans (Le.ren (swapN 5003 3000) (swapN_inv 5003 3000) rfl) (Le.mk (s' := ⟨45, [(2, .own 3000)], [(3000, q2bW_27 l11)], [], 0⟩) rfl rfl ⟨.refl _, trivial⟩ ⟨⟨_, rfl, .refl _⟩, trivial⟩)) ?_
  have hret := oJ h
  subst hret
  refine AWp.le (Le.mk (s' := ⟨45, [(2, .own 3000)], [(3000, q2bW_27 l11)], [], 0⟩) rfl rfl ⟨.refl _, trivial⟩ ⟨⟨_, rfl, .refl _⟩, trivial⟩) ?_
  refine AWp.ret ?_
  exact bR _ rfl ⟨rfl, rfl⟩ rfl
def f7_L0 (x3 : BitVec 16) (x7 : List Tq0) (K1 : (List (BitVec 16)) → Option (List (BitVec 16))) : Nat → Tq1 → Option (List (BitVec 16))
 | 0, _ => none
 | k + 1, (n8, l9) =>
  if (decide ((n8 : Int) < (((x7).length : Nat) : Int))) then (
  chk ((n8 : Int) < (((x7).length : Nat) : Int)) <|
  chk (((l9).length + 1) * 2 ≤ 140737488355328) <|
  chk (((n8 : Int) + (1 : Int)) ≤ 9223372036854775807) <|
  (f7_L0 x3 x7 K1 k) ((n8 + 1), (l9 ++ [((x7.getD n8 (default : Tq0)).1 &&& x3)]))
  ) else (
  K1 l9
  )
abbrev f7z0 (x1 : List UInt8) (x2 : Int) (x3 : TB) (x4 : List (TB)) (x5 : List (TB)) (x6 : List Tq0) : List V := [.str x1, .int .i64 x2, .b16 x3, vL 1 eW 0#16 x4, vL 1 eW 0#16 x5, vL 2 eWW (default : Tq0) x6]
abbrev f7z1 (x7 : List Tq0) (n8 : Nat) : List (Nat × V) := [(1, vL 2 eWW (default : Tq0) x7), (2, .ptr 2 0), (5, .own 5005), (6, .int .i64 (n8 : Int))]
abbrev f7z2 (x7 : List Tq0) (n8 : Nat) (x3 : TB) := ((x7.getD n8 (default : Tq0)).1 &&& x3)
def f7 (x1 : List UInt8) (x2 : Int) (x3 : BitVec 16) (x4 : List (BitVec 16)) (x5 : List (BitVec 16)) (x6 : List Tq0) (x7 : List Tq0) : Option (List (BitVec 16)) :=
 jn (fun (l10 : List (BitVec 16)) =>
 (f18 l10).bind fun (r11 : List (TB)) =>
 some r11
 ) fun (K1 : (List (TB)) → Option (List (TB))) =>
 f7_L0 x3 x7 K1 FUEL (0, [])
theorem f7_ok  (x1 : List UInt8) (x2 : Int) (x3 : TB) (x4 : List (TB)) (x5 : List (TB)) (x6 : List Tq0) (x7 : List Tq0) (r : List (TB)) (h : f7 x1 x2 x3 x4 x5 x6 x7 = some r)  : Spec1 Tryz.prog 7 [] [] [] [.agg [.str x1, .int .i64 x2, .b16 x3, vL 1 eW 0#16 x4, vL 1 eW 0#16 x5, vL 2 eWW (default : Tq0) x6], vL 2 eWW (default : Tq0) x7] (.own 3000) [(3000, bL 27 1 eW 0#16 r)] := by
 unfold f7 at h
 refine Spec1.body 0 _ _ Tryz.func7 rfl Tryz.ntmps7 rfl rfl ?_
 refine q2rq [] [] ⟨26, [(1, q2aWW x7), (2, .ptr 2 0)], [(2, .cells 33 (f7z0 x1 x2 x3 x4 x5 x6))], [], 0⟩ trivial ?_
 refine q2rq [] [] ⟨26, [(1, q2aWW x7), (2, .ptr 2 0), (5, .nils)], [(2, .cells 33 (f7z0 x1 x2 x3 x4 x5 x6))], [], 0⟩ trivial ?_
 obtain ⟨K1, hK1, h⟩ := jn_some h
 refine AWp.join (α := List (TB)) (fun (l10 : List (TB)) => ⟨26, [(5, .own 5005)], [(5005, q2bW_27 l10)], [], 0⟩) (fun x => K1 x = some r) ?_ ?_
 ·
  refine q2rq [] [] ⟨26, [(1, q2aWW x7), (2, .ptr 2 0), (5, .nils), (6, .i (0 : Int))], [(2, .cells 33 (f7z0 x1 x2 x3 x4 x5 x6))], [], 0⟩ trivial ?_
  refine AWp.block ?_
  refine AWp.loopL (α := Nat × Tq1) (fun x => match x with | (_, n8, l9) => ⟨26, (f7z1 x7 n8), [(2, .cells 33 (f7z0 x1 x2 x3 x4 x5 x6)), (5005, q2bW_27 l9)], [], 0⟩) (fun x => f7_L0 x3 x7 K1 x.1 x.2 = some r) (fun x => x.1) (FUEL, 0, []) (Le.trans (Le.trans (Le.nilOwn 5 5005 27 1 (encF eW 0#16 []) rfl rfl (Nat.le_of_ble_eq_true rfl)) (Le.mk (s' := ⟨26, [(1, q2aWW x7), (2, .ptr 2 0), (5, .own 5005), (6, .i (0 : Int))], [(2, .cells 33 (f7z0 x1 x2 x3 x4 x5 x6)), (5005, q2bW_27 [])], [], 0⟩) rfl rfl ⟨.refl _, .refl _, .refl _, .refl _, trivial⟩ ⟨⟨_, rfl, .refl _⟩, ⟨_, rfl, .refl _⟩, trivial⟩)) (Le.mk (s' := ⟨26, [(1, q2aWW x7), (2, .ptr 2 0), (5, .own 5005), (6, .i (0 : Int))], [(2, .cells 33 (f7z0 x1 x2 x3 x4 x5 x6)), (5005, q2bW_27 [])], [], 0⟩) rfl rfl ⟨.refl _, .refl _, .refl _, .refl _, trivial⟩ ⟨⟨_, rfl, .refl _⟩, ⟨_, rfl, .refl _⟩, trivial⟩)) h ?_
  rintro ⟨k0, n8, l9⟩ h
  cases k0 with
  | zero => exact nomatch (show (none : Option (List (TB))) = some r from h)
  | succ k0 =>
  obtain ⟨C0, hC0⟩ : ∃ C, C = f7_L0 x3 x7 K1 k0 := ⟨_, rfl⟩
  replace h := (f7_L0.eq_2 ..).symm.trans h
  try rw [← hC0] at h
  refine AWp.seq ?_
  refine q2rq [] [] ⟨26, [(1, q2aWW x7), (2, .ptr 2 0), (5, .own 5005), (6, .i (n8 : Int)), (10, .bool (decide ((n8 : Int) < (lZ x7))))], [(2, .cells 33 (f7z0 x1 x2 x3 x4 x5 x6)), (5005, q2bW_27 l9)], [], 0⟩ trivial ?_
  refine AWp.cond (b := (decide ((n8 : Int) < (lZ x7)))) (by kernel_rfl) (fun hc1 => ?_) (fun hc1 => ?_)
  ·
   replace h := ite_tb hc1 h
   refine AWp.skip ?_
   refine tN ?_
   refine AWp.seq ?_
   refine AWp.block ?_
   obtain ⟨ob0p, h⟩ := chk_some h
   have ob0 : 0 ≤ (n8 : Int) ∧ (n8 : Int) < (((x7).length : Nat) : Int) := ⟨by omega, ob0p⟩
   obtain ⟨ob1, h⟩ := chk_some h
   refine q2rr [] [] ⟨26, (f7z1 x7 n8), [(2, .cells 33 (f7z0 x1 x2 x3 x4 x5 x6)), (5005, .rows 27 1 ((l9).length + 1) (appF (l9).length (encF eW 0#16 l9) (lstF 1 [.b16 (f7z2 x7 n8 x3)])))], [], 0⟩ (an2 ob0 ob1) ?_
   refine kN ?_
   refine tN ?_
   refine AWp.le (Le.mk (s' := ⟨26, (f7z1 x7 n8), [(2, .cells 33 (f7z0 x1 x2 x3 x4 x5 x6)), (5005, q2bW_27 (l9 ++ [(f7z2 x7 n8 x3)]))], [], 0⟩) rfl rfl ⟨.refl _, .refl _, .refl _, .refl _, trivial⟩ ⟨⟨_, rfl, .refl _⟩, ⟨_, rfl, (BLe.of (RL.app (RL.self _) (RL.lst (enc := eW) [(f7z2 x7 n8 x3)] rfl rfl (fun _ => rfl))))⟩, trivial⟩) ?_
   obtain ⟨ob2p, h⟩ := chk_some h
   have ob2 : -9223372036854775808 ≤ ((n8 : Int) + (1 : Int)) ∧ ((n8 : Int) + (1 : Int)) ≤ 9223372036854775807 := ⟨by omega, ob2p⟩
   refine q2rr [] [] ⟨26, [(1, q2aWW x7), (2, .ptr 2 0), (5, .own 5005), (6, .i (((n8 + 1) : Nat) : Int))], [(2, .cells 33 (f7z0 x1 x2 x3 x4 x5 x6)), (5005, q2bW_27 (l9 ++ [(f7z2 x7 n8 x3)]))], [], 0⟩ (an1 ob2) ?_
   rw [hC0] at h
   exact lN (_, (n8 + 1), (l9 ++ [(f7z2 x7 n8 x3)])) (Le.mk rfl rfl ⟨.refl _, .refl _, .refl _, .refl _, trivial⟩ ⟨⟨_, rfl, .refl _⟩, ⟨_, rfl, .refl _⟩, trivial⟩) h (Nat.lt_succ_self _)
  ·
   replace h := ite_fb hc1 h
   refine AWp.exit ?_
   refine tE ?_
   refine tE ?_
   refine kS ?_
   exact jN (l9) (Le.mk rfl rfl ⟨.refl _, trivial⟩ ⟨⟨_, rfl, .refl _⟩, trivial⟩) h
 ·
  rintro l10 h
  replace h := (congrFun hK1 _).symm.trans h
  refine AWp.seq ?_
  obtain ⟨r11, hr11, h⟩ := bind_ok h
  refine q2rr [] [(1, ⟨[q2aW l10], [], [], [(6001, q2bW_27 r11)], .own 6001, [6001], [5005], []⟩)] ⟨26, [(4, .own 6001)], [(6001, q2bW_27 r11)], [], 0⟩ (an1 (cpL (c := true) [(5005, q2bW_27 l10)] [5005] [.own 5005] (fun _ => (Spec1.ren (swapN 3000 6001) (swapN_inv 3000 6001) rfl (f18_ok _ _ hr11))) (fun _ => ⟨.refl _, trivial⟩) (.inr ⟨rfl, ⟨(fun _ _ _ _ => eW_flat _ _), trivial⟩⟩))) ?_
  refine tN ?_
  refine AWp.le (Le.trans (Le.ren (swapN 6001 3000) (swapN_inv 6001 3000) rfl) (Le.mk (s' := ⟨26, [(4, .own 3000)], [(3000, q2bW_27 r11)], [], 0⟩) rfl rfl ⟨.refl _, trivial⟩ ⟨⟨_, rfl, .refl _⟩, trivial⟩)) ?_
  have hret := oJ h
  subst hret
  refine AWp.le (Le.mk (s' := ⟨26, [(4, .own 3000)], [(3000, q2bW_27 r11)], [], 0⟩) rfl rfl ⟨.refl _, trivial⟩ ⟨⟨_, rfl, .refl _⟩, trivial⟩) ?_
  refine AWp.ret ?_
  exact bR _ rfl ⟨rfl, rfl⟩ rfl
def f20_L0 (K1 : (List (BitVec 16)) → Option (List (BitVec 16))) (r2 : List (BitVec 16)) : Nat → Tq1 → Option (List (BitVec 16))
 | 0, _ => none
 | k + 1, (n3, l4) =>
  if (decide ((n3 : Int) < (((r2).length : Nat) : Int))) then (
  jn (fun (l6 : List (BitVec 16)) =>
  chk (((n3 : Int) + (1 : Int)) ≤ 9223372036854775807) <|
  (f20_L0 K1 r2 k) ((n3 + 1), l6)
  ) fun (K2 : (List (TB)) → Option (List (TB))) =>
  chk ((n3 : Int) < (((r2).length : Nat) : Int)) <|
  chk (n3 < (r2).length) <|
  (f24 l4 (r2.getD n3 0#16)).bind fun (r5 : Bool) =>
  if (!r5) then (
  chk (((l4).length + 1) * 2 ≤ 140737488355328) <|
  K2 (l4 ++ [(r2.getD n3 0#16)])
  ) else (
  K2 l4
  )
  ) else (
  K1 l4
  )
abbrev f20z0 (r2 : List (TB)) (n3 : Nat) : List (Nat × V) := [(3, .own 5003), (7, .own 6001), (8, .int .i64 (((r2).length : Nat) : Int)), (9, .int .i64 (n3 : Int))]
abbrev f20z1 (r2 : List (TB)) (n3 : Nat) : List (Nat × V) := [(3, .own 20), (7, .own 6001), (8, .int .i64 (((r2).length : Nat) : Int)), (9, .int .i64 (n3 : Int))]
abbrev f20z2 (l4 : List (TB)) (r2 : List (TB)) : Heap := [(5003, bL 27 1 eW 0#16 l4), (6001, bL 27 1 eW 0#16 r2)]
def f20 (x1 : List (BitVec 16)) : Option (List (BitVec 16)) :=
 jn (fun (l7 : List (BitVec 16)) =>
 some l7
 ) fun (K1 : (List (TB)) → Option (List (TB))) =>
 (f42 x1).bind fun (r2 : List (TB)) =>
 f20_L0 K1 r2 FUEL (0, [])
theorem f20_ok  (x1 : List (TB)) (r : List (TB)) (h : f20 x1 = some r)  : Spec1 Tryz.prog 20 [] [] [] [vL 1 eW 0#16 x1] (.own 3000) [(3000, bL 27 1 eW 0#16 r)] := by
 unfold f20 at h
 refine Spec1.body 0 _ _ Tryz.func20 rfl Tryz.ntmps20 rfl rfl ?_
 refine q2rq [] [] ⟨23, [(0, q2aW x1)], [], [], 0⟩ trivial ?_
 refine q2rq [] [] ⟨23, [(0, q2aW x1), (3, .nils)], [], [], 0⟩ trivial ?_
 obtain ⟨K1, hK1, h⟩ := jn_some h
 refine AWp.join (α := List (TB)) (fun (l7 : List (TB)) => ⟨23, [(3, .own 5003)], [(5003, q2bW_27 l7)], [], 0⟩) (fun x => K1 x = some r) ?_ ?_
 ·
  refine AWp.seq ?_
  obtain ⟨r2, hr2, h⟩ := bind_ok h
  refine q2rr [] [(1, ⟨[q2aW x1], [], [], [(6001, q2bW_27 r2)], .own 6001, [6001], [], []⟩)] ⟨23, [(3, .nils), (7, .own 6001), (8, .i (lZ r2)), (9, .i (0 : Int))], [(6001, q2bW_27 r2)], [], 0⟩ (an1 (cpT (Spec1.ren (swapN 3000 6001) (swapN_inv 3000 6001) rfl (f42_ok _ _ hr2)))) ?_
  refine tN ?_
  refine AWp.block ?_
  refine AWp.loopL (α := Nat × Tq1) (fun x => match x with | (_, n3, l4) => ⟨23, (f20z0 r2 n3), (f20z2 l4 r2), [], 0⟩) (fun x => f20_L0 K1 r2 x.1 x.2 = some r) (fun x => x.1) (FUEL, 0, []) (Le.trans (Le.trans (Le.nilOwn 3 5003 27 1 (encF eW 0#16 []) rfl rfl (Nat.le_of_ble_eq_true rfl)) (Le.mk (s' := ⟨23, [(3, .own 5003), (7, .own 6001), (8, .i (lZ r2)), (9, .i (0 : Int))], [(6001, q2bW_27 r2), (5003, q2bW_27 [])], [], 0⟩) rfl rfl ⟨.refl _, .refl _, .refl _, .refl _, trivial⟩ ⟨⟨_, rfl, .refl _⟩, ⟨_, rfl, .refl _⟩, trivial⟩)) (Le.mk (s' := ⟨23, [(3, .own 5003), (7, .own 6001), (8, .i (lZ r2)), (9, .i (0 : Int))], [(5003, q2bW_27 []), (6001, q2bW_27 r2)], [], 0⟩) rfl rfl ⟨.refl _, .refl _, .refl _, .refl _, trivial⟩ ⟨⟨_, rfl, .refl _⟩, ⟨_, rfl, .refl _⟩, trivial⟩)) h ?_
  rintro ⟨k0, n3, l4⟩ h
  cases k0 with
  | zero => exact nomatch (show (none : Option (List (TB))) = some r from h)
  | succ k0 =>
  obtain ⟨C0, hC0⟩ : ∃ C, C = f20_L0 K1 r2 k0 := ⟨_, rfl⟩
  replace h := (f20_L0.eq_2 ..).symm.trans h
  try rw [← hC0] at h
  refine q2rq [] [] ⟨23, [(3, .own 5003), (7, .own 6001), (8, .i (lZ r2)), (9, .i (n3 : Int)), (10, .bool (decide ((n3 : Int) < (lZ r2))))], (f20z2 l4 r2), [], 0⟩ trivial ?_
  refine AWp.seq ?_
  refine AWp.cond (b := (decide ((n3 : Int) < (lZ r2)))) (by kernel_rfl) (fun hc1 => ?_) (fun hc1 => ?_)
  ·
   replace h := ite_tb hc1 h
   refine AWp.skip ?_
   refine tN ?_
   obtain ⟨K2, hK2, h⟩ := jn_some h
   refine AWp.join (α := List (TB)) (fun (l6 : List (TB)) => ⟨23, (f20z1 r2 n3), [(20, q2bW_27 l6), (6001, q2bW_27 r2)], [], 0⟩) (fun x => K2 x = some r) ?_ ?_
   ·
    refine AWp.block ?_
    refine AWp.seq ?_
    obtain ⟨ob0p, h⟩ := chk_some h
    have ob0 : 0 ≤ (n3 : Int) ∧ (n3 : Int) < (((r2).length : Nat) : Int) := ⟨by omega, ob0p⟩
    obtain ⟨ob1, h⟩ := chk_some h
    refine q2rr [] [] ⟨23, [(3, .own 5003), (5, .b16 (r2.getD n3 0#16)), (7, .own 6001), (8, .i (lZ r2)), (9, .i (n3 : Int))], (f20z2 l4 r2), [], 0⟩ (an2 ob0 ob1) ?_
    refine tN ?_
    refine AWp.seq ?_
    obtain ⟨r5, hr5, h⟩ := bind_ok h
    refine q2rr [] [(2, ⟨[q2aW l4, .b16 (r2.getD n3 0#16)], [], [], [], .bool r5, [], [5003], []⟩)] ⟨23, [(3, .own 5003), (5, .b16 (r2.getD n3 0#16)), (7, .own 6001), (8, .i (lZ r2)), (9, .i (n3 : Int)), (16, .bool (!r5))], (f20z2 l4 r2), [], 0⟩ (an1 (cpL (c := true) [(5003, q2bW_27 l4)] [5003] [.own 5003, .b16 (r2.getD n3 0#16)] (fun _ => (f24_ok _ _ _ hr5)) (fun _ => ⟨.refl _, .refl _, trivial⟩) (.inr ⟨rfl, trivial⟩))) ?_
    refine tN ?_
    refine AWp.cond (b := (!r5)) (by kernel_rfl) (fun hc2 => ?_) (fun hc2 => ?_)
    ·
     replace h := ite_tb hc2 h
     obtain ⟨ob2, h⟩ := chk_some h
     refine q2rr [] [] ⟨23, (f20z0 r2 n3), [(5003, .rows 27 1 ((l4).length + 1) (appF (l4).length (encF eW 0#16 l4) (lstF 1 [.b16 (r2.getD n3 0#16)]))), (6001, q2bW_27 r2)], [], 0⟩ (an1 ob2) ?_
     refine kN ?_
     exact jN ((l4 ++ [(r2.getD n3 0#16)])) (Le.trans (Le.mk (s' := ⟨23, (f20z0 r2 n3), [(5003, q2bW_27 (l4 ++ [(r2.getD n3 0#16)])), (6001, q2bW_27 r2)], [], 0⟩) rfl rfl ⟨.refl _, .refl _, .refl _, .refl _, trivial⟩ ⟨⟨_, rfl, (BLe.of (RL.app (RL.self _) (RL.lst (enc := eW) [(r2.getD n3 0#16)] rfl rfl (fun _ => rfl))))⟩, ⟨_, rfl, .refl _⟩, trivial⟩) (Le.trans (Le.trans (Le.ren (swapN 5003 20) (swapN_inv 5003 20) rfl) (Le.mk (s' := ⟨23, (f20z1 r2 n3), [(20, q2bW_27 (l4 ++ [(r2.getD n3 0#16)])), (6001, q2bW_27 r2)], [], 0⟩) rfl rfl ⟨.refl _, .refl _, .refl _, .refl _, trivial⟩ ⟨⟨_, rfl, .refl _⟩, ⟨_, rfl, .refl _⟩, trivial⟩)) (Le.mk rfl rfl ⟨.refl _, .refl _, .refl _, .refl _, trivial⟩ ⟨⟨_, rfl, .refl _⟩, ⟨_, rfl, .refl _⟩, trivial⟩))) h
    ·
     replace h := ite_fb hc2 h
     refine AWp.skip ?_
     refine kN ?_
     exact jN (l4) (Le.trans (Le.trans (Le.ren (swapN 5003 20) (swapN_inv 5003 20) rfl) (Le.mk (s' := ⟨23, [(3, .own 20), (5, .b16 (r2.getD n3 0#16)), (7, .own 6001), (8, .i (lZ r2)), (9, .i (n3 : Int)), (16, .bool (!r5))], [(20, q2bW_27 l4), (6001, q2bW_27 r2)], [], 0⟩) rfl rfl ⟨.refl _, .refl _, .refl _, .refl _, .refl _, .refl _, trivial⟩ ⟨⟨_, rfl, .refl _⟩, ⟨_, rfl, .refl _⟩, trivial⟩)) (Le.mk rfl rfl ⟨.refl _, .refl _, .refl _, .refl _, trivial⟩ ⟨⟨_, rfl, .refl _⟩, ⟨_, rfl, .refl _⟩, trivial⟩)) h
   ·
    rintro l6 h
    replace h := (congrFun hK2 _).symm.trans h
    obtain ⟨ob3p, h⟩ := chk_some h
    have ob3 : -9223372036854775808 ≤ ((n3 : Int) + (1 : Int)) ∧ ((n3 : Int) + (1 : Int)) ≤ 9223372036854775807 := ⟨by omega, ob3p⟩
    refine q2rr [] [] ⟨23, [(3, .own 20), (7, .own 6001), (8, .i (lZ r2)), (9, .i (((n3 + 1) : Nat) : Int))], [(20, q2bW_27 l6), (6001, q2bW_27 r2)], [], 0⟩ (an1 ob3) ?_
    rw [hC0] at h
    exact lN (_, (n3 + 1), l6) (Le.trans (Le.trans (Le.ren (swapN 20 5003) (swapN_inv 20 5003) rfl) (Le.mk (s' := ⟨23, [(3, .own 5003), (7, .own 6001), (8, .i (lZ r2)), (9, .i (((n3 + 1) : Nat) : Int))], [(5003, q2bW_27 l6), (6001, q2bW_27 r2)], [], 0⟩) rfl rfl ⟨.refl _, .refl _, .refl _, .refl _, trivial⟩ ⟨⟨_, rfl, .refl _⟩, ⟨_, rfl, .refl _⟩, trivial⟩)) (Le.mk rfl rfl ⟨.refl _, .refl _, .refl _, .refl _, trivial⟩ ⟨⟨_, rfl, .refl _⟩, ⟨_, rfl, .refl _⟩, trivial⟩)) h (Nat.lt_succ_self _)
  ·
   replace h := ite_fb hc1 h
   refine AWp.exit ?_
   refine tE ?_
   refine tE ?_
   refine kS ?_
   exact jN (l4) (Le.mk rfl rfl ⟨.refl _, trivial⟩ ⟨⟨_, rfl, .refl _⟩, trivial⟩) h
 ·
  rintro l7 h
  replace h := (congrFun hK1 _).symm.trans h
  refine q2rq [] [] ⟨23, [(2, .own 5003)], [(5003, q2bW_27 l7)], [], 0⟩ trivial ?_
  refine AWp.le (Le.trans (Le.ren (swapN 5003 3000) (swapN_inv 5003 3000) rfl) (Le.mk (s' := ⟨23, [(2, .own 3000)], [(3000, q2bW_27 l7)], [], 0⟩) rfl rfl ⟨.refl _, trivial⟩ ⟨⟨_, rfl, .refl _⟩, trivial⟩)) ?_
  have hret := oJ h
  subst hret
  refine AWp.le (Le.mk (s' := ⟨23, [(2, .own 3000)], [(3000, q2bW_27 l7)], [], 0⟩) rfl rfl ⟨.refl _, trivial⟩ ⟨⟨_, rfl, .refl _⟩, trivial⟩) ?_
  refine AWp.ret ?_
  exact bR _ rfl ⟨rfl, rfl⟩ rfl
def f19a (x1 : List (BitVec 16)) : Option (List (BitVec 16) × Int) :=
 (f30a x1).bind fun (r2 : Bool) =>
 if r2 then (
 some ([], (7 : Int))
 ) else (
 (f20 x1).bind fun (r3 : List (TB)) =>
 (f41 r3).bind fun (r4 : List (TB) × Int) =>
 some (r4.1, r4.2)
 )
theorem f19a_ok  (x1 : List (TB)) (r : List (TB) × Int) (h : f19a x1 = some r)  : Spec1 Tryz.prog 19 [] [] [] [vL 1 eW 0#16 x1, .fn (.func 20) []] (.tup [vL 1 eW 0#16 r.1, .int .i64 r.2]) [] := by
 unfold f19a at h
 refine Spec1.body 0 _ _ Tryz.func19 rfl Tryz.ntmps19 rfl rfl ?_
 refine q2rq [] [] ⟨14, [(0, q2aW x1), (1, .fn (.func 20) [])], [], [], 0⟩ trivial ?_
 refine AWp.seq ?_
 refine AWp.seq ?_
 obtain ⟨r2, hr2, h⟩ := bind_ok h
 refine q2rr [] [(1, ⟨[q2aW x1, .fn (.func 40) []], [], [], [], .bool r2, [], [], []⟩)] ⟨14, [(0, q2aW x1), (1, .fn (.func 20) []), (7, .bool r2)], [], [], 0⟩ (an1 (cpT (f30a_ok _ _ hr2))) ?_
 refine tN ?_
 refine AWp.cond (b := r2) (by kernel_rfl) (fun hc1 => ?_) (fun hc1 => ?_)
 ·
  replace h := ite_tb hc1 h
  refine q2rq [] [] ⟨14, [(4, .nils), (5, .i (7 : Int))], [], [], 0⟩ trivial ?_
  have hret := oJ h
  subst hret
  refine AWp.le (Le.mk (s' := ⟨14, [(4, q2aW []), (5, .i (7 : Int))], [], [], 0⟩) rfl rfl ⟨.nilL, .refl _, trivial⟩ trivial) ?_
  refine AWp.ret ?_
  refine tR ?_
  exact bR _ rfl ⟨rfl, rfl⟩ rfl
 ·
  replace h := ite_fb hc1 h
  refine AWp.skip ?_
  refine tN ?_
  refine AWp.seq ?_
  obtain ⟨r3, hr3, h⟩ := bind_ok h
  obtain ⟨r4, hr4, h⟩ := bind_ok h
  refine q2rr [] [(2, ⟨[q2aW x1], [], [], [(6001, q2bW_27 r3)], .own 6001, [6001], [], []⟩), (3, ⟨[.own 6001], [6001], [], [], .tup [q2aW r4.1, .i r4.2], [], [], []⟩)] ⟨14, [(4, q2aW r4.1), (5, .i r4.2)], [], [], 0⟩ (an2 (cpT (Spec1.ren (swapN 3000 6001) (swapN_inv 3000 6001) rfl (f20_ok _ _ hr3))) (show (callP Tryz.prog true 41 [] [] [(6001, q2bW_27 r3)] [] [] [.own 6001] [.own 6001] (.tup [q2aW r4.1, .i r4.2]) []) from ⟨fun _ => (Spec1.pre (f41_ok _ _ hr4) rfl rfl rfl (Le.trans (Le.freeze 6001 rfl rfl) (Le.mk (s' := ⟨1, [(0, q2aW r3)], [], [], 0⟩) rfl rfl ⟨.refl _, trivial⟩ trivial))), fun _ => ⟨.refl _, trivial⟩, .inl rfl⟩)) ?_
  refine tN ?_
  have hret := oJ h
  subst hret
  refine AWp.le (Le.mk (s' := ⟨14, [(4, q2aW r4.1), (5, .i r4.2)], [], [], 0⟩) rfl rfl ⟨.refl _, .refl _, trivial⟩ trivial) ?_
  refine AWp.ret ?_
  exact bR _ rfl ⟨rfl, rfl⟩ rfl
def f8 (x1 : List (BitVec 16)) : Option (List (BitVec 16) × Int) :=
 (f19a x1).bind fun (r2 : List (TB) × Int) =>
 some (r2.1, r2.2)
theorem f8_ok  (x1 : List (TB)) (r : List (TB) × Int) (h : f8 x1 = some r)  : Spec1 Tryz.prog 8 [] [] [] [vL 1 eW 0#16 x1] (.tup [vL 1 eW 0#16 r.1, .int .i64 r.2]) [] := by
 unfold f8 at h
 refine Spec1.body 0 _ _ Tryz.func8 rfl Tryz.ntmps8 rfl rfl ?_
 refine q2rq [] [] ⟨8, [(0, q2aW x1)], [], [], 0⟩ trivial ?_
 refine AWp.seq ?_
 obtain ⟨r2, hr2, h⟩ := bind_ok h
 refine q2rr [] [(1, ⟨[q2aW x1, .fn (.func 20) []], [], [], [], .tup [q2aW r2.1, .i r2.2], [], [], []⟩)] ⟨8, [(2, q2aW r2.1), (3, .i r2.2)], [], [], 0⟩ (an1 (cpT (f19a_ok _ _ hr2))) ?_
 refine tN ?_
 have hret := oJ h
 subst hret
 refine AWp.le (Le.mk (s' := ⟨8, [(2, q2aW r2.1), (3, .i r2.2)], [], [], 0⟩) rfl rfl ⟨.refl _, .refl _, trivial⟩ trivial) ?_
 refine AWp.ret ?_
 exact bR _ rfl ⟨rfl, rfl⟩ rfl
def f49 (x1 : BitVec 16) (x2 : BitVec 16) : Option (Bool × BitVec 16) :=
 some (((x1 &&& x2) == (BitVec.ofInt 16 0)), x2)
theorem f49_ok  (x1 : TB) (x2 : TB) (r : Bool × TB) (h : f49 x1 x2 = some r)  : Spec1 Tryz.prog 49 [] [2000] [(2000, .cells 27 [.b16 x2])] [.b16 x1, .ptr 2000 0] (.bool r.1) [(2000, .cells 27 [.b16 r.2])] := by
 unfold f49 at h
 refine Spec1.body 0 _ _ Tryz.func49 rfl Tryz.ntmps49 rfl rfl ?_
 refine q2rq [] [] ⟨8, [(0, .b16 x1), (1, .ptr 2000 0)], [(2000, .cells 27 [.b16 x2])], [2000], 0⟩ trivial ?_
 refine q2rq [] [] ⟨8, [(3, .bool ((x1 &&& x2) == (q2w16 0)))], [(2000, .cells 27 [.b16 x2])], [2000], 0⟩ trivial ?_
 have hret := oJ h
 subst hret
 refine AWp.le (Le.mk (s' := ⟨8, [(3, .bool ((x1 &&& x2) == (q2w16 0)))], [(2000, .cells 27 [.b16 x2])], [2000], 0⟩) rfl rfl ⟨.refl _, trivial⟩ ⟨⟨_, rfl, .refl _⟩, trivial⟩) ?_
 refine AWp.ret ?_
 exact bR _ rfl ⟨rfl, rfl⟩ rfl
def f54d_L0 (x1 : List (BitVec 16)) (K1 : (BitVec 16) → Option (Int × BitVec 16)) : Nat → (Nat × BitVec 16) → Option (Int × BitVec 16)
 | 0, _ => none
 | k + 1, (n3, w4) =>
  if (decide ((n3 : Int) < (((x1).length : Nat) : Int))) then (
  (f49 (x1.getD n3 0#16) w4).bind fun (r5 : Bool × TB) =>
  chk ((n3 : Int) < (((x1).length : Nat) : Int)) <|
  if r5.1 then (
  some ((n3 : Int), r5.2)
  ) else (
  chk (((n3 : Int) + (1 : Int)) ≤ 9223372036854775807) <|
  (f54d_L0 x1 K1 k) ((n3 + 1), r5.2)
  )
  ) else (
  K1 w4
  )
def f54d (x1 : List (BitVec 16)) (x2 : BitVec 16) : Option (Int × BitVec 16) :=
 jn (fun (w6 : BitVec 16) =>
 some ((-1 : Int), w6)
 ) fun (K1 : (TB) → Option (Int × TB)) =>
 f54d_L0 x1 K1 FUEL (0, x2)
theorem f54d_ok  (x1 : List (TB)) (x2 : TB) (r : Int × TB) (h : f54d x1 x2 = some r)  : Spec1 Tryz.prog 54 [] [2000] [(2000, .cells 27 [.b16 x2])] [vL 1 eW 0#16 x1, .fn (.func 49) [.ptr 2000 0]] (.int .i64 r.1) [(2000, .cells 27 [.b16 r.2])] := by
 unfold f54d at h
 refine Spec1.body 0 _ _ Tryz.func54 rfl Tryz.ntmps54 rfl rfl ?_
 refine q2rq [] [] ⟨19, [(0, q2aW x1), (1, .fn (.func 49) [.ptr 2000 0])], [(2000, .cells 27 [.b16 x2])], [2000], 0⟩ trivial ?_
 obtain ⟨K1, hK1, h⟩ := jn_some h
 refine AWp.join (α := TB) (fun (w6 : TB) => ⟨19, [], [(2000, .cells 27 [.b16 w6])], [2000], 0⟩) (fun x => K1 x = some r) ?_ ?_
 ·
  refine q2rq [] [] ⟨19, [(0, q2aW x1), (1, .fn (.func 49) [.ptr 2000 0]), (7, .i (lZ x1)), (8, .i (0 : Int))], [(2000, .cells 27 [.b16 x2])], [2000], 0⟩ trivial ?_
  refine AWp.block ?_
  refine AWp.loopL (α := Nat × (Nat × TB)) (fun x => match x with | (_, n3, w4) => ⟨19, [(0, q2aW x1), (1, .fn (.func 49) [.ptr 2000 0]), (7, .i (lZ x1)), (8, .i (n3 : Int))], [(2000, .cells 27 [.b16 w4])], [2000], 0⟩) (fun x => f54d_L0 x1 K1 x.1 x.2 = some r) (fun x => x.1) (FUEL, 0, x2) (Le.mk (s' := ⟨19, [(0, q2aW x1), (1, .fn (.func 49) [.ptr 2000 0]), (7, .i (lZ x1)), (8, .i (0 : Int))], [(2000, .cells 27 [.b16 x2])], [2000], 0⟩) rfl rfl ⟨.refl _, .refl _, .refl _, .refl _, trivial⟩ ⟨⟨_, rfl, .refl _⟩, trivial⟩) h ?_
  rintro ⟨k0, n3, w4⟩ h
  cases k0 with
  | zero => exact nomatch (show (none : Option (Int × TB)) = some r from h)
  | succ k0 =>
  obtain ⟨C0, hC0⟩ : ∃ C, C = f54d_L0 x1 K1 k0 := ⟨_, rfl⟩
  replace h := (f54d_L0.eq_2 ..).symm.trans h
  try rw [← hC0] at h
  refine q2rq [] [] ⟨19, [(0, q2aW x1), (1, .fn (.func 49) [.ptr 2000 0]), (7, .i (lZ x1)), (8, .i (n3 : Int)), (9, .bool (decide ((n3 : Int) < (lZ x1))))], [(2000, .cells 27 [.b16 w4])], [2000], 0⟩ trivial ?_
  refine AWp.seq ?_
  refine AWp.cond (b := (decide ((n3 : Int) < (lZ x1)))) (by kernel_rfl) (fun hc1 => ?_) (fun hc1 => ?_)
  ·
   replace h := ite_tb hc1 h
   refine AWp.skip ?_
   refine tN ?_
   refine AWp.seq ?_
   refine AWp.block ?_
   refine q2rq [] [] ⟨19, [(0, q2aW x1), (1, .fn (.func 49) [.ptr 2000 0]), (5, .i (n3 : Int)), (7, .i (lZ x1)), (8, .i (n3 : Int))], [(2000, .cells 27 [.b16 w4])], [2000], 0⟩ trivial ?_
   refine AWp.seq ?_
   obtain ⟨r5, hr5, h⟩ := bind_ok h
   obtain ⟨ob0p, h⟩ := chk_some h
   have ob0 : 0 ≤ (n3 : Int) ∧ (n3 : Int) < (((x1).length : Nat) : Int) := ⟨by omega, ob0p⟩
   refine q2rr [] [(5, ⟨[.b16 (x1.getD n3 0#16), .ptr 2000 0], [2000], [2000], [(2000, .cells 27 [.b16 r5.2])], .bool r5.1, [], [], []⟩)] ⟨19, [(0, q2aW x1), (1, .fn (.func 49) [.ptr 2000 0]), (5, .i (n3 : Int)), (7, .i (lZ x1)), (8, .i (n3 : Int)), (16, .bool r5.1)], [(2000, .cells 27 [.b16 r5.2])], [2000], 0⟩ (an2 ob0 (cpT (f49_ok _ _ _ hr5))) ?_
   refine tN ?_
   refine AWp.cond (b := r5.1) (by kernel_rfl) (fun hc2 => ?_) (fun hc2 => ?_)
   ·
    replace h := ite_tb hc2 h
    refine q2rq [] [] ⟨19, [(4, .i (n3 : Int))], [(2000, .cells 27 [.b16 r5.2])], [2000], 0⟩ trivial ?_
    have hret := oJ h
    subst hret
    refine AWp.le (Le.mk (s' := ⟨19, [(4, .i (n3 : Int))], [(2000, .cells 27 [.b16 r5.2])], [2000], 0⟩) rfl rfl ⟨.refl _, trivial⟩ ⟨⟨_, rfl, .refl _⟩, trivial⟩) ?_
    refine AWp.ret ?_
    refine kR ?_
    refine tR ?_
    refine tR ?_
    refine kR ?_
    refine joinQ_ret ?_
    exact bR _ rfl ⟨rfl, rfl⟩ rfl
   ·
    replace h := ite_fb hc2 h
    refine AWp.skip ?_
    refine kN ?_
    refine tN ?_
    obtain ⟨ob1p, h⟩ := chk_some h
    have ob1 : -9223372036854775808 ≤ ((n3 : Int) + (1 : Int)) ∧ ((n3 : Int) + (1 : Int)) ≤ 9223372036854775807 := ⟨by omega, ob1p⟩
    refine q2rr [] [] ⟨19, [(0, q2aW x1), (1, .fn (.func 49) [.ptr 2000 0]), (7, .i (lZ x1)), (8, .i (((n3 + 1) : Nat) : Int))], [(2000, .cells 27 [.b16 r5.2])], [2000], 0⟩ (an1 ob1) ?_
    rw [hC0] at h
    exact lN (_, (n3 + 1), r5.2) (Le.mk rfl rfl ⟨.refl _, .refl _, .refl _, .refl _, trivial⟩ ⟨⟨_, rfl, .refl _⟩, trivial⟩) h (Nat.lt_succ_self _)
  ·
   replace h := ite_fb hc1 h
   refine AWp.exit ?_
   refine tE ?_
   refine tE ?_
   refine kS ?_
   exact jN (w4) (Le.mk rfl rfl trivial ⟨⟨_, rfl, .refl _⟩, trivial⟩) h
 ·
  rintro w6 h
  replace h := (congrFun hK1 _).symm.trans h
  refine q2rq [] [] ⟨19, [(4, .i (-1 : Int))], [(2000, .cells 27 [.b16 w6])], [2000], 0⟩ trivial ?_
  have hret := oJ h
  subst hret
  refine AWp.le (Le.mk (s' := ⟨19, [(4, .i (-1 : Int))], [(2000, .cells 27 [.b16 w6])], [2000], 0⟩) rfl rfl ⟨.refl _, trivial⟩ ⟨⟨_, rfl, .refl _⟩, trivial⟩) ?_
  refine AWp.ret ?_
  exact bR _ rfl ⟨rfl, rfl⟩ rfl
def f30d (x1 : List (BitVec 16)) (x2 : BitVec 16) : Option (Bool × BitVec 16) :=
 (f54d x1 x2).bind fun (r3 : Int × TB) =>
 some ((decide (r3.1 ≥ (0 : Int))), r3.2)
theorem f30d_ok  (x1 : List (TB)) (x2 : TB) (r : Bool × TB) (h : f30d x1 x2 = some r)  : Spec1 Tryz.prog 30 [] [2000] [(2000, .cells 27 [.b16 x2])] [vL 1 eW 0#16 x1, .fn (.func 49) [.ptr 2000 0]] (.bool r.1) [(2000, .cells 27 [.b16 r.2])] := by
 unfold f30d at h
 refine Spec1.body 0 _ _ Tryz.func30 rfl Tryz.ntmps30 rfl rfl ?_
 refine q2rq [] [] ⟨9, [(0, q2aW x1), (1, .fn (.func 49) [.ptr 2000 0])], [(2000, .cells 27 [.b16 x2])], [2000], 0⟩ trivial ?_
 refine AWp.seq ?_
 obtain ⟨r3, hr3, h⟩ := bind_ok h
 refine q2rr [] [(2, ⟨[q2aW x1, .fn (.func 49) [.ptr 2000 0]], [2000], [2000], [(2000, .cells 27 [.b16 r3.2])], .i r3.1, [], [], []⟩)] ⟨9, [(4, .bool (decide (r3.1 ≥ (0 : Int))))], [(2000, .cells 27 [.b16 r3.2])], [2000], 0⟩ (an1 (cpT (f54d_ok _ _ _ hr3))) ?_
 refine tN ?_
 have hret := oJ h
 subst hret
 refine AWp.le (Le.mk (s' := ⟨9, [(4, .bool (decide (r3.1 ≥ (0 : Int))))], [(2000, .cells 27 [.b16 r3.2])], [2000], 0⟩) rfl rfl ⟨.refl _, trivial⟩ ⟨⟨_, rfl, .refl _⟩, trivial⟩) ?_
 refine AWp.ret ?_
 exact bR _ rfl ⟨rfl, rfl⟩ rfl
def f25 (x1 : List (BitVec 16)) (x2 : BitVec 16) : Option Bool :=
 (f30d x1 x2).bind fun (r3 : Bool × TB) =>
 some (!r3.1)
theorem f25_ok  (x1 : List (TB)) (x2 : TB) (r : Bool) (h : f25 x1 x2 = some r)  : Spec1 Tryz.prog 25 [] [] [] [vL 1 eW 0#16 x1, .b16 x2] (.bool r) [] := by
 unfold f25 at h
 refine Spec1.body 0 _ _ Tryz.func25 rfl Tryz.ntmps25 rfl rfl ?_
 refine q2rq [] [] ⟨9, [(0, q2aW x1), (3, .ptr 3 0)], [(3, .cells 27 [.b16 x2])], [], 0⟩ trivial ?_
 refine AWp.seq ?_
 obtain ⟨r3, hr3, h⟩ := bind_ok h
 refine q2rr [] [(2, ⟨[q2aW x1, .fn (.func 49) [.ptr 3 0]], [3], [3], [(3, .cells 27 [.b16 r3.2])], .bool r3.1, [], [], []⟩)] ⟨9, [(4, .bool (!r3.1))], [], [], 0⟩ (an1 (cpT (Spec1.ren (swapN 2000 3) (swapN_inv 2000 3) rfl (f30d_ok _ _ _ hr3)))) ?_
 refine tN ?_
 have hret := oJ h
 subst hret
 refine AWp.le (Le.mk (s' := ⟨9, [(4, .bool (!r3.1))], [], [], 0⟩) rfl rfl ⟨.refl _, trivial⟩ trivial) ?_
 refine AWp.ret ?_
 exact bR _ rfl ⟨rfl, rfl⟩ rfl
def f46c_L1 (r7 : List Int) (i9 : Int) (K2 : (BitVec 16) → Option Tq6) : Nat → (BitVec 16 × Nat) → Option Tq6
 | 0, _ => none
 | k + 1, (w15, n16) =>
  if (decide ((n16 : Int) < (((r7).length : Nat) : Int))) then (
  jn (fun (w17 : BitVec 16) =>
  chk (((n16 : Int) + (1 : Int)) ≤ 9223372036854775807) <|
  (f46c_L1 r7 i9 K2 k) (w17, (n16 + 1))
  ) fun (K3 : (TB) → Option Tq6) =>
  chk ((n16 : Int) < (((r7).length : Nat) : Int)) <|
  chk (n16 < (r7).length) <|
  chk (n16 ≤ IntKind.bits .u32) <|
  if ((bitsI .and .u32 (i9 / 2 ^ n16) (1 : Int)) == (1 : Int)) then (
  chk (0 ≤ (r7.getD n16 0)) <|
  K3 (w15 ||| ((BitVec.ofInt 16 1) <<< (((r7.getD n16 0)).toNat)))
  ) else (
  K3 w15
  )
  ) else (
  K2 w15
  )
def f46c_L0 (Y70005 : Tq3 → (BitVec 16) → Option (Nat × Tq3)) (r7 : List Int) (K1 : Tq7 → Option Tq6) : Nat → (Int × BitVec 16 × Int × List (BitVec 16) × List (BitVec 16) × Nat) → Option Tq6
 | 0, _ => none
 | k + 1, (i9, w10, i11, l12, l13, n14) =>
  chk ((r7).length ≤ IntKind.bits .u32 ∧ 0 ≤ ((1 : Int) * 2 ^ ((r7).length)) ∧ ((1 : Int) * 2 ^ ((r7).length)) ≤ 4294967295) <|
  if (decide (i9 < ((1 : Int) * 2 ^ ((r7).length)))) then (
  jn (fun (w18 : BitVec 16) =>
  jn (fun ((w20, i21, l22, l23, n24) : Tq7) =>
  if (i9 == (0 : Int)) then (
  K1 (w20, i21, l22, l23, n24)
  ) else (
  chk (0 ≤ (i9 + (bitsI .and .u32 i9 (IntKind.wrap .u32 (0 - i9)))) ∧ (i9 + (bitsI .and .u32 i9 (IntKind.wrap .u32 (0 - i9)))) ≤ 4294967295) <|
  chk (0 ≤ (bitsI .xor .u32 i9 (i9 + (bitsI .and .u32 i9 (IntKind.wrap .u32 (0 - i9))))) ∧ 1 ≤ (bitsI .and .u32 i9 (IntKind.wrap .u32 (0 - i9))) ∧ 0 ≤ ((bitsI .xor .u32 i9 (i9 + (bitsI .and .u32 i9 (IntKind.wrap .u32 (0 - i9))))) / (bitsI .and .u32 i9 (IntKind.wrap .u32 (0 - i9)))) ∧ ((bitsI .xor .u32 i9 (i9 + (bitsI .and .u32 i9 (IntKind.wrap .u32 (0 - i9))))) / (bitsI .and .u32 i9 (IntKind.wrap .u32 (0 - i9)))) ≤ 4294967295) <|
  chk (2 ≤ IntKind.bits .u32) <|
  (f46c_L0 Y70005 r7 K1 k) ((bitsI .or .u32 (i9 + (bitsI .and .u32 i9 (IntKind.wrap .u32 (0 - i9)))) (((bitsI .xor .u32 i9 (i9 + (bitsI .and .u32 i9 (IntKind.wrap .u32 (0 - i9))))) / (bitsI .and .u32 i9 (IntKind.wrap .u32 (0 - i9)))) / 2 ^ 2)), w20, i21, l22, l23, n24)
  )
  ) fun (K4 : Tq7 → Option Tq6) =>
  chk (n14 = 0) <|
  (Y70005 (l12, i11, l13, w10) w18).bind fun (r19 : Nat × Tq3) =>
  if r19.1 = 0 then (
  if (!true) then (
  some (false, 0, r19.2.1, r19.2.2.1, r19.2.2.2.1, r19.2.2.2.2)
  ) else (
  K4 (r19.2.2.2.2, r19.2.2.1, r19.2.1, r19.2.2.2.1, 0)
  )
  ) else (
  if (!false) then (
  some (false, r19.1, r19.2.1, r19.2.2.1, r19.2.2.2.1, r19.2.2.2.2)
  ) else (
  K4 (r19.2.2.2.2, r19.2.2.1, r19.2.1, r19.2.2.2.1, r19.1)
  )
  )
  ) fun (K2 : (TB) → Option Tq6) =>
  f46c_L1 r7 i9 K2 FUEL ((BitVec.ofInt 16 0), 0)
  ) else (
  K1 (w10, i11, l12, l13, n14)
  )
abbrev f46cz0 (l12 : List (TB)) (i11 : Int) (l13 : List (TB)) (w10 : TB) (r7 : List Int) (C70005 : YC) (n14 : Nat) : Heap := [(1, .cells 31 [vL 1 eW 0#16 l12]), (2, .cells 31 [.nils]), (3, .cells 37 [.int .i64 i11]), (5, .cells 31 [.own 6000]), (6000, bL 27 1 eW 0#16 l13), (6001, .cells 27 [.b16 w10]), (26001, bL 3 1 eI 0 r7), (70005, .yld (some ([1, 2, 3, 5], C70005)) n14)]
abbrev f46cz1 (l22 : List (TB)) (i21 : Int) (l23 : List (TB)) (w20 : TB) (r7 : List Int) (C70005 : YC) (n24 : Nat) : Heap := [(1, .cells 31 [vL 1 eW 0#16 l22]), (2, .cells 31 [.nils]), (3, .cells 37 [.int .i64 i21]), (5, .cells 31 [.own 6000]), (6000, bL 27 1 eW 0#16 l23), (6001, .cells 27 [.b16 w20]), (26001, bL 3 1 eI 0 r7), (70005, .yld (some ([1, 2, 3, 5], C70005)) n24)]
abbrev f46cz2 (x3 : List (TB)) (x4 : Int) (x5 : List (TB)) (x6 : TB) (r7 : List Int) (C70005 : YC) : Heap := [(1, .cells 31 [vL 1 eW 0#16 x3]), (2, .cells 31 [.nils]), (3, .cells 37 [.int .i64 x4]), (5, .cells 31 [.own 6000]), (6000, bL 27 1 eW 0#16 x5), (6001, .cells 27 [.b16 x6]), (26001, bL 3 1 eI 0 r7), (70005, .yld (some ([1, 2, 3, 5], C70005)) 0)]
abbrev f46cz3 (r19 : Nat × Tq3) : Heap := [(1, .cells 31 [vL 1 eW 0#16 r19.2.1]), (2, .cells 31 [.nils]), (3, .cells 37 [.int .i64 r19.2.2.1]), (5, .cells 31 [.own 6000]), (6000, bL 27 1 eW 0#16 r19.2.2.2.1), (6001, .cells 27 [.b16 r19.2.2.2.2])]
abbrev f46cz4 (C70005 : YC) (r19 : Nat × Tq3) : Heap := [(70005, .yld (some ([1, 2, 3, 5], C70005)) r19.1), (1, .cells 31 [vL 1 eW 0#16 r19.2.1]), (2, .cells 31 [.nils]), (3, .cells 37 [.int .i64 r19.2.2.1]), (5, .cells 31 [.own 6000]), (6000, bL 27 1 eW 0#16 r19.2.2.2.1), (6001, .cells 27 [.b16 r19.2.2.2.2])]
abbrev f46cz5 (C70005 : YC) (r19 : Nat × Tq3) : Heap := [(70005, .yld (some ([1, 2, 3, 5], C70005)) 0), (1, .cells 31 [vL 1 eW 0#16 r19.2.1]), (2, .cells 31 [.nils]), (3, .cells 37 [.int .i64 r19.2.2.1]), (5, .cells 31 [.own 6000]), (6000, bL 27 1 eW 0#16 r19.2.2.2.1), (6001, .cells 27 [.b16 r19.2.2.2.2])]
abbrev f46cz6 (x2 : Int) := ((decide (x2 < (0 : Int))) == false)
def f46c (Y70005 : Tq3 → (BitVec 16) → Option (Nat × Tq3)) (x1 : BitVec 16) (x2 : Int) (x3 : List (BitVec 16)) (x4 : Int) (x5 : List (BitVec 16)) (x6 : BitVec 16) : Option Tq6 :=
 (f70 x1).bind fun (r7 : List Int) =>
 if ((decide (x2 < (0 : Int))) || (decide (x2 > (((r7).length : Nat) : Int)))) then (
 some (true, 0, x3, x4, x5, x6)
 ) else (
 jn (fun ((w18, i19, l20, l21, n22) : Tq7) =>
 some (true, n22, l20, i19, l21, w18)
 ) fun (K1 : Tq7 → Option Tq6) =>
 chk (0 ≤ x2 ∧ (x2).toNat ≤ IntKind.bits .u32 ∧ 0 ≤ ((1 : Int) * 2 ^ ((x2).toNat)) ∧ ((1 : Int) * 2 ^ ((x2).toNat)) ≤ 4294967295) <|
 chk (0 ≤ (((1 : Int) * 2 ^ ((x2).toNat)) - (1 : Int)) ∧ (((1 : Int) * 2 ^ ((x2).toNat)) - (1 : Int)) ≤ 4294967295) <|
 f46c_L0 Y70005 r7 K1 FUEL ((((1 : Int) * 2 ^ ((x2).toNat)) - (1 : Int)), x6, x4, x3, x5, 0)
 )
theorem f46c_ok (C70005 : YC) (Y70005 : Tq3 → (TB) → Option (Nat × Tq3)) (x1 : TB) (x2 : Int) (x3 : List (TB)) (x4 : Int) (x5 : List (TB)) (x6 : TB) (r : Tq6) (h : f46c Y70005 x1 x2 x3 x4 x5 x6 = some r) (hY70005 : ∀ s x r, Y70005 s x = some r → YSpec Tryz.prog 70005 [1, 2, 3, 5] C70005 [1, 2, 3, 5, 6001] [(1, .cells 31 [vL 1 eW 0#16 s.1]), (2, .cells 31 [.nils]), (3, .cells 37 [.int .i64 s.2.1]), (5, .cells 31 [.own 6000]), (6000, bL 27 1 eW 0#16 s.2.2.1), (6001, .cells 27 [.b16 s.2.2.2])] [.b16 x] r.1 [(1, .cells 31 [vL 1 eW 0#16 r.2.1]), (2, .cells 31 [.nils]), (3, .cells 37 [.int .i64 r.2.2.1]), (5, .cells 31 [.own 6000]), (6000, bL 27 1 eW 0#16 r.2.2.2.1), (6001, .cells 27 [.b16 r.2.2.2.2])]) : Spec1 Tryz.prog 46 [(0, .elem 32 1 T0F 0 0)] [70005, 1, 2, 3, 5, 6001] [(70005, .yld (some ([1, 2, 3, 5], C70005)) 0), (1, .cells 31 [vL 1 eW 0#16 x3]), (2, .cells 31 [.nils]), (3, .cells 37 [.int .i64 x4]), (5, .cells 31 [.own 6000]), (6000, bL 27 1 eW 0#16 x5), (6001, .cells 27 [.b16 x6])] [.b16 x1, .int .i64 x2, .own 70005] (.bool r.1) [(70005, .yld (some ([1, 2, 3, 5], C70005)) r.2.1), (1, .cells 31 [vL 1 eW 0#16 r.2.2.1]), (2, .cells 31 [.nils]), (3, .cells 37 [.int .i64 r.2.2.2.1]), (5, .cells 31 [.own 6000]), (6000, bL 27 1 eW 0#16 r.2.2.2.2.1), (6001, .cells 27 [.b16 r.2.2.2.2.2])] := by
 unfold f46c at h
 refine Spec1.body 20000 _ _ Tryz.func46 rfl Tryz.ntmps46 rfl rfl ?_
 refine q2rq [57] [] ⟨70, [(0, .b16 x1), (1, .i x2), (2, .own 70005), (1000000, .elem 32 1 T0F 0 0)], [(1, .cells 31 [q2aW x3]), (2, .cells 31 [.nils]), (3, .cells 37 [.i x4]), (5, .cells 31 [.own 6000]), (6000, q2bW_27 x5), (6001, .cells 27 [.b16 x6]), (70005, .yld (some ([1, 2, 3, 5], C70005)) 0)], [70005, 1, 2, 3, 5, 6001], 20000⟩ trivial ?_
 refine AWp.seq ?_
 obtain ⟨r7, hr7, h⟩ := bind_ok h
 refine q2rr [57] [(1, ⟨[.b16 x1], [], [], [(26001, q2bI_3 r7)], .own 26001, [26001], [], [0]⟩)] ⟨70, [(1, .i x2), (2, .own 70005), (7, .own 26001), (1000000, .elem 32 1 T0F 0 0)], (f46cz2 x3 x4 x5 x6 r7 C70005), [70005, 1, 2, 3, 5, 6001], 20000⟩ (an1 (cpT (Spec1.ren (swapN 3000 26001) (swapN_inv 3000 26001) rfl (f70_ok _ _ hr7)))) ?_
 refine tN ?_
 refine AWp.seq ?_
 refine AWp.seq ?_
 have ob0 := idA ((f46cz6 x2) = true)
 have ob1 := idA ((f46cz6 x2) = true)
 have ob2 := idA ((f46cz6 x2) = true)
 have ob3 : true = true → (decide (x2 < (0 : Int))) = false → (f46cz6 x2) = true := fun _ h => beq_iff_eq.2 h
 refine q2rr [57] [] ⟨70, [(1, .i x2), (2, .own 70005), (7, .own 26001), (23, .bool ((decide (x2 < (0 : Int))) || (decide (x2 > (lZ r7))))), (1000000, .elem 32 1 T0F 0 0)], (f46cz2 x3 x4 x5 x6 r7 C70005), [70005, 1, 2, 3, 5, 6001], 20000⟩ (an3 (an1 ob0) (an2 ob1 ob2) ob3) ?_
 refine tN ?_
 refine AWp.cond (b := ((decide (x2 < (0 : Int))) || (decide (x2 > (lZ r7))))) (by kernel_rfl) (fun hc1 => ?_) (fun hc1 => ?_)
 ·
  replace h := ite_tb hc1 h
  refine q2rq [57] [] ⟨70, [(6, .bool true), (1000000, .elem 32 1 T0F 0 0)], [(1, .cells 31 [q2aW x3]), (2, .cells 31 [.nils]), (3, .cells 37 [.i x4]), (5, .cells 31 [.own 6000]), (6000, q2bW_27 x5), (6001, .cells 27 [.b16 x6]), (70005, .yld (some ([1, 2, 3, 5], C70005)) 0)], [70005, 1, 2, 3, 5, 6001], 20000⟩ trivial ?_
  have hret := oJ h
  subst hret
  refine AWp.le (Le.mk (s' := ⟨70, [(6, .bool true)], [(70005, .yld (some ([1, 2, 3, 5], C70005)) 0), (1, .cells 31 [q2aW x3]), (2, .cells 31 [.nils]), (3, .cells 37 [.i x4]), (5, .cells 31 [.own 6000]), (6000, q2bW_27 x5), (6001, .cells 27 [.b16 x6])], [70005, 1, 2, 3, 5, 6001], 20000⟩) rfl rfl ⟨.refl _, trivial⟩ ⟨⟨_, rfl, .refl _⟩, ⟨_, rfl, .refl _⟩, ⟨_, rfl, .refl _⟩, ⟨_, rfl, .refl _⟩, ⟨_, rfl, .refl _⟩, ⟨_, rfl, .refl _⟩, ⟨_, rfl, .refl _⟩, trivial⟩) ?_
  refine AWp.ret ?_
  refine tR ?_
  exact bR _ rfl ⟨rfl, rfl⟩ rfl
 ·
  replace h := ite_fb hc1 h
  refine AWp.skip ?_
  refine tN ?_
  obtain ⟨K1, hK1, h⟩ := jn_some h
  refine AWp.join (α := TB × Int × List (TB) × List (TB) × Nat) (fun (x : Tq7) => match x with | (w18, i19, l20, l21, n22) => ⟨70, [(1000000, .elem 32 1 T0F 0 0)], [(1, .cells 31 [q2aW l20]), (2, .cells 31 [.nils]), (3, .cells 37 [.i i19]), (5, .cells 31 [.own 6000]), (6000, q2bW_27 l21), (6001, .cells 27 [.b16 w18]), (70005, .yld (some ([1, 2, 3, 5], C70005)) n22)], [70005, 1, 2, 3, 5, 6001], 20000⟩) (fun x => K1 x = some r) ?_ ?_
  ·
   refine AWp.seq ?_
   obtain ⟨ob4, ob5, h⟩ := ck2 h
   refine q2rr [57] [] ⟨70, [(2, .own 70005), (7, .own 26001), (8, .int .u32 (((1 : Int) * 2 ^ ((x2).toNat)) - (1 : Int))), (1000000, .elem 32 1 T0F 0 0)], (f46cz2 x3 x4 x5 x6 r7 C70005), [70005, 1, 2, 3, 5, 6001], 20000⟩ (an2 ob4 ob5) ?_
   refine tN ?_
   refine AWp.block ?_
   refine AWp.loopL (α := Nat × (Int × TB × Int × List (TB) × List (TB) × Nat)) (fun x => match x with | (_, i9, w10, i11, l12, l13, n14) => ⟨70, [(2, .own 70005), (7, .own 26001), (8, .int .u32 i9), (1000000, .elem 32 1 T0F 0 0)], (f46cz0 l12 i11 l13 w10 r7 C70005 n14), [70005, 1, 2, 3, 5, 6001], 20000⟩) (fun x => f46c_L0 Y70005 r7 K1 x.1 x.2 = some r) (fun x => x.1) (FUEL, (((1 : Int) * 2 ^ ((x2).toNat)) - (1 : Int)), x6, x4, x3, x5, 0) (Le.mk (s' := ⟨70, [(2, .own 70005), (7, .own 26001), (8, .int .u32 (((1 : Int) * 2 ^ ((x2).toNat)) - (1 : Int))), (1000000, .elem 32 1 T0F 0 0)], (f46cz2 x3 x4 x5 x6 r7 C70005), [70005, 1, 2, 3, 5, 6001], 20000⟩) rfl rfl ⟨.refl _, .refl _, .refl _, .refl _, trivial⟩ ⟨⟨_, rfl, .refl _⟩, ⟨_, rfl, .refl _⟩, ⟨_, rfl, .refl _⟩, ⟨_, rfl, .refl _⟩, ⟨_, rfl, .refl _⟩, ⟨_, rfl, .refl _⟩, ⟨_, rfl, .refl _⟩, ⟨_, rfl, .refl _⟩, trivial⟩) h ?_
   rintro ⟨k0, i9, w10, i11, l12, l13, n14⟩ h
   cases k0 with
   | zero => exact nomatch (show (none : Option Tq6) = some r from h)
   | succ k0 =>
   obtain ⟨C0, hC0⟩ : ∃ C, C = f46c_L0 Y70005 r7 K1 k0 := ⟨_, rfl⟩
   replace h := (f46c_L0.eq_2 ..).symm.trans h
   try rw [← hC0] at h
   refine AWp.seq ?_
   refine AWp.seq ?_
   obtain ⟨ob6p, h⟩ := chk_some h
   have ob6 : 0 ≤ (((r7).length : Nat) : Int) ∧ (r7).length ≤ IntKind.bits .u32 ∧ 0 ≤ ((1 : Int) * 2 ^ ((r7).length)) ∧ ((1 : Int) * 2 ^ ((r7).length)) ≤ 4294967295 := ⟨by omega, ob6p.1, ob6p.2.1, ob6p.2.2⟩
   refine q2rr [57] [] ⟨70, [(2, .own 70005), (7, .own 26001), (8, .int .u32 i9), (31, .bool (decide (i9 < ((1 : Int) * 2 ^ ((r7).length))))), (1000000, .elem 32 1 T0F 0 0)], (f46cz0 l12 i11 l13 w10 r7 C70005 n14), [70005, 1, 2, 3, 5, 6001], 20000⟩ (an1 ob6) ?_
   refine tN ?_
   refine AWp.cond (b := (decide (i9 < ((1 : Int) * 2 ^ ((r7).length))))) (by kernel_rfl) (fun hc2 => ?_) (fun hc2 => ?_)
   ·
    replace h := ite_tb hc2 h
    refine AWp.skip ?_
    refine tN ?_
    refine AWp.block ?_
    refine q2rq [57] [] ⟨70, [(2, .own 70005), (7, .own 26001), (8, .int .u32 i9), (9, .b16 (q2w16 0)), (1000000, .elem 32 1 T0F 0 0)], (f46cz0 l12 i11 l13 w10 r7 C70005 n14), [70005, 1, 2, 3, 5, 6001], 20000⟩ trivial ?_
    obtain ⟨K2, hK2, h⟩ := jn_some h
    refine AWp.join (α := TB) (fun (w18 : TB) => ⟨70, [(2, .own 70005), (7, .own 26001), (8, .int .u32 i9), (9, .b16 w18), (1000000, .elem 32 1 T0F 0 0)], (f46cz0 l12 i11 l13 w10 r7 C70005 n14), [70005, 1, 2, 3, 5, 6001], 20000⟩) (fun x => K2 x = some r) ?_ ?_
    ·
     refine q2rq [57] [] ⟨70, [(2, .own 70005), (7, .own 26001), (8, .int .u32 i9), (9, .b16 (q2w16 0)), (32, .own 26001), (33, .i (lZ r7)), (34, .i (0 : Int)), (1000000, .elem 32 1 T0F 0 0)], (f46cz0 l12 i11 l13 w10 r7 C70005 n14), [70005, 1, 2, 3, 5, 6001], 20000⟩ trivial ?_
     refine AWp.block ?_
     refine AWp.loopL (α := Nat × (TB × Nat)) (fun x => match x with | (_, w15, n16) => ⟨70, [(2, .own 70005), (7, .own 26001), (8, .int .u32 i9), (9, .b16 w15), (32, .own 26001), (33, .i (lZ r7)), (34, .i (n16 : Int)), (1000000, .elem 32 1 T0F 0 0)], (f46cz0 l12 i11 l13 w10 r7 C70005 n14), [70005, 1, 2, 3, 5, 6001], 20000⟩) (fun x => f46c_L1 r7 i9 K2 x.1 x.2 = some r) (fun x => x.1) (FUEL, (q2w16 0), 0) (Le.mk (s' := ⟨70, [(2, .own 70005), (7, .own 26001), (8, .int .u32 i9), (9, .b16 (q2w16 0)), (32, .own 26001), (33, .i (lZ r7)), (34, .i (0 : Int)), (1000000, .elem 32 1 T0F 0 0)], (f46cz0 l12 i11 l13 w10 r7 C70005 n14), [70005, 1, 2, 3, 5, 6001], 20000⟩) rfl rfl ⟨.refl _, .refl _, .refl _, .refl _, .refl _, .refl _, .refl _, .refl _, trivial⟩ ⟨⟨_, rfl, .refl _⟩, ⟨_, rfl, .refl _⟩, ⟨_, rfl, .refl _⟩, ⟨_, rfl, .refl _⟩, ⟨_, rfl, .refl _⟩, ⟨_, rfl, .refl _⟩, ⟨_, rfl, .refl _⟩, ⟨_, rfl, .refl _⟩, trivial⟩) h ?_
     rintro ⟨k1, w15, n16⟩ h
     cases k1 with
     | zero => exact nomatch (show (none : Option Tq6) = some r from h)
     | succ k1 =>
     obtain ⟨C1, hC1⟩ : ∃ C, C = f46c_L1 r7 i9 K2 k1 := ⟨_, rfl⟩
     replace h := (f46c_L1.eq_2 ..).symm.trans h
     try rw [← hC1] at h
     refine q2rq [57] [] ⟨70, [(2, .own 70005), (7, .own 26001), (8, .int .u32 i9), (9, .b16 w15), (32, .own 26001), (33, .i (lZ r7)), (34, .i (n16 : Int)), (35, .bool (decide ((n16 : Int) < (lZ r7)))), (1000000, .elem 32 1 T0F 0 0)], (f46cz0 l12 i11 l13 w10 r7 C70005 n14), [70005, 1, 2, 3, 5, 6001], 20000⟩ trivial ?_
     refine AWp.seq ?_
     refine AWp.cond (b := (decide ((n16 : Int) < (lZ r7)))) (by kernel_rfl) (fun hc3 => ?_) (fun hc3 => ?_)
     ·
      replace h := ite_tb hc3 h
      refine AWp.skip ?_
      refine tN ?_
      obtain ⟨K3, hK3, h⟩ := jn_some h
      refine AWp.join (α := TB) (fun (w17 : TB) => ⟨70, [(2, .own 70005), (7, .own 26001), (8, .int .u32 i9), (9, .b16 w17), (32, .own 26001), (33, .i (lZ r7)), (34, .i (n16 : Int)), (1000000, .elem 32 1 T0F 0 0)], (f46cz0 l12 i11 l13 w10 r7 C70005 n14), [70005, 1, 2, 3, 5, 6001], 20000⟩) (fun x => K3 x = some r) ?_ ?_
      ·
       refine AWp.block ?_
       refine AWp.seq ?_
       obtain ⟨ob7p, h⟩ := chk_some h
       have ob7 : 0 ≤ (n16 : Int) ∧ (n16 : Int) < (((r7).length : Nat) : Int) := ⟨by omega, ob7p⟩
       obtain ⟨ob8, h⟩ := chk_some h
       refine q2rr [57] [] ⟨70, [(2, .own 70005), (7, .own 26001), (8, .int .u32 i9), (9, .b16 w15), (10, .i (n16 : Int)), (11, .i (r7.getD n16 0)), (32, .own 26001), (33, .i (lZ r7)), (34, .i (n16 : Int)), (1000000, .elem 32 1 T0F 0 0)], (f46cz0 l12 i11 l13 w10 r7 C70005 n14), [70005, 1, 2, 3, 5, 6001], 20000⟩ (an2 ob7 ob8) ?_
       refine tN ?_
       refine AWp.seq ?_
       obtain ⟨ob9p, h⟩ := chk_some h
       have ob9 : 0 ≤ (n16 : Int) ∧ n16 ≤ IntKind.bits .u32 := ⟨by omega, ob9p⟩
       refine q2rr [57] [] ⟨70, [(2, .own 70005), (7, .own 26001), (8, .int .u32 i9), (9, .b16 w15), (11, .i (r7.getD n16 0)), (32, .own 26001), (33, .i (lZ r7)), (34, .i (n16 : Int)), (43, .bool ((bitsI .and .u32 (i9 / 2 ^ n16) (1 : Int)) == (1 : Int))), (1000000, .elem 32 1 T0F 0 0)], (f46cz0 l12 i11 l13 w10 r7 C70005 n14), [70005, 1, 2, 3, 5, 6001], 20000⟩ (an1 ob9) ?_
       refine tN ?_
       refine AWp.cond (b := ((bitsI .and .u32 (i9 / 2 ^ n16) (1 : Int)) == (1 : Int))) (by kernel_rfl) (fun hc4 => ?_) (fun hc4 => ?_)
       ·
        replace h := ite_tb hc4 h
        obtain ⟨ob10, h⟩ := chk_some h
        refine q2rr [57] [] ⟨70, [(2, .own 70005), (7, .own 26001), (8, .int .u32 i9), (9, .b16 (w15 ||| ((q2w16 1) <<< (((r7.getD n16 0)).toNat)))), (32, .own 26001), (33, .i (lZ r7)), (34, .i (n16 : Int)), (1000000, .elem 32 1 T0F 0 0)], (f46cz0 l12 i11 l13 w10 r7 C70005 n14), [70005, 1, 2, 3, 5, 6001], 20000⟩ (an1 ob10) ?_
        refine kN ?_
        exact jN ((w15 ||| ((q2w16 1) <<< (((r7.getD n16 0)).toNat)))) (Le.mk rfl rfl ⟨.refl _, .refl _, .refl _, .refl _, .refl _, .refl _, .refl _, .refl _, trivial⟩ ⟨⟨_, rfl, .refl _⟩, ⟨_, rfl, .refl _⟩, ⟨_, rfl, .refl _⟩, ⟨_, rfl, .refl _⟩, ⟨_, rfl, .refl _⟩, ⟨_, rfl, .refl _⟩, ⟨_, rfl, .refl _⟩, ⟨_, rfl, .refl _⟩, trivial⟩) h
       ·
        replace h := ite_fb hc4 h
        refine AWp.skip ?_
        refine kN ?_
        exact jN (w15) (Le.mk rfl rfl ⟨.refl _, .refl _, .refl _, .refl _, .refl _, .refl _, .refl _, .refl _, trivial⟩ ⟨⟨_, rfl, .refl _⟩, ⟨_, rfl, .refl _⟩, ⟨_, rfl, .refl _⟩, ⟨_, rfl, .refl _⟩, ⟨_, rfl, .refl _⟩, ⟨_, rfl, .refl _⟩, ⟨_, rfl, .refl _⟩, ⟨_, rfl, .refl _⟩, trivial⟩) h
      ·
       rintro w17 h
       replace h := (congrFun hK3 _).symm.trans h
       obtain ⟨ob11p, h⟩ := chk_some h
       have ob11 : -9223372036854775808 ≤ ((n16 : Int) + (1 : Int)) ∧ ((n16 : Int) + (1 : Int)) ≤ 9223372036854775807 := ⟨by omega, ob11p⟩
       refine q2rr [57] [] ⟨70, [(2, .own 70005), (7, .own 26001), (8, .int .u32 i9), (9, .b16 w17), (32, .own 26001), (33, .i (lZ r7)), (34, .i (((n16 + 1) : Nat) : Int)), (1000000, .elem 32 1 T0F 0 0)], (f46cz0 l12 i11 l13 w10 r7 C70005 n14), [70005, 1, 2, 3, 5, 6001], 20000⟩ (an1 ob11) ?_
       rw [hC1] at h
       exact lN (_, w17, (n16 + 1)) (Le.mk rfl rfl ⟨.refl _, .refl _, .refl _, .refl _, .refl _, .refl _, .refl _, .refl _, trivial⟩ ⟨⟨_, rfl, .refl _⟩, ⟨_, rfl, .refl _⟩, ⟨_, rfl, .refl _⟩, ⟨_, rfl, .refl _⟩, ⟨_, rfl, .refl _⟩, ⟨_, rfl, .refl _⟩, ⟨_, rfl, .refl _⟩, ⟨_, rfl, .refl _⟩, trivial⟩) h (Nat.lt_succ_self _)
     ·
      replace h := ite_fb hc3 h
      refine AWp.exit ?_
      refine tE ?_
      refine tE ?_
      refine kS ?_
      exact jN (w15) (Le.mk rfl rfl ⟨.refl _, .refl _, .refl _, .refl _, .refl _, trivial⟩ ⟨⟨_, rfl, .refl _⟩, ⟨_, rfl, .refl _⟩, ⟨_, rfl, .refl _⟩, ⟨_, rfl, .refl _⟩, ⟨_, rfl, .refl _⟩, ⟨_, rfl, .refl _⟩, ⟨_, rfl, .refl _⟩, ⟨_, rfl, .refl _⟩, trivial⟩) h
    ·
     rintro w18 h
     replace h := (congrFun hK2 _).symm.trans h
     obtain ⟨K4, hK4, h⟩ := jn_some h
     refine AWp.join (α := TB × Int × List (TB) × List (TB) × Nat) (fun (x : Tq7) => match x with | (w20, i21, l22, l23, n24) => ⟨70, [(2, .own 70005), (7, .own 26001), (8, .int .u32 i9), (1000000, .elem 32 1 T0F 0 0)], (f46cz1 l22 i21 l23 w20 r7 C70005 n24), [70005, 1, 2, 3, 5, 6001], 20000⟩) (fun x => K4 x = some r) ?_ ?_
     ·
      refine AWp.seq ?_
      obtain ⟨hz5, h⟩ := chk_some h
      refine AWp.le (Le.mk (s' := ⟨70, [(2, .own 70005), (7, .own 26001), (8, .int .u32 i9), (9, .b16 w18), (1000000, .elem 32 1 T0F 0 0)], [(1, .cells 31 [q2aW l12]), (2, .cells 31 [.nils]), (3, .cells 37 [.i i11]), (5, .cells 31 [.own 6000]), (6000, q2bW_27 l13), (6001, .cells 27 [.b16 w10]), (26001, q2bI_3 r7), (70005, .yld (some ([1, 2, 3, 5], C70005)) 0)], [70005, 1, 2, 3, 5, 6001], 20000⟩) rfl rfl ⟨.refl _, .refl _, .refl _, .refl _, .refl _, trivial⟩ ⟨⟨_, rfl, .refl _⟩, ⟨_, rfl, .refl _⟩, ⟨_, rfl, .refl _⟩, ⟨_, rfl, .refl _⟩, ⟨_, rfl, .refl _⟩, ⟨_, rfl, .refl _⟩, ⟨_, rfl, .refl _⟩, ⟨_, rfl, BLe.yldEq hz5⟩, trivial⟩) ?_
      obtain ⟨r19, hr19, h⟩ := bind_ok h
      by_cases hy_r19 : r19.1 = 0
      ·
       replace h := ite_t hy_r19 h
       refine q2rr [57] [(2, ⟨[.b16 w18], [70005, 1, 2, 3, 5, 6000, 6001], [1, 2, 3, 5, 6001], (f46cz5 C70005 r19), .bool true, [6000], [], []⟩)] ⟨70, [(2, .own 70005), (7, .own 26001), (8, .int .u32 i9), (52, .bool (!true)), (1000000, .elem 32 1 T0F 0 0)], [(1, .cells 31 [q2aW r19.2.1]), (2, .cells 31 [.nils]), (3, .cells 37 [.i r19.2.2.1]), (5, .cells 31 [.own 6000]), (6000, q2bW_27 r19.2.2.2.1), (6001, .cells 27 [.b16 r19.2.2.2.2]), (26001, q2bI_3 r7), (70005, .yld (some ([1, 2, 3, 5], C70005)) 0)], [70005, 1, 2, 3, 5, 6001], 20000⟩ (an1 (show (((f46cz5 C70005 r19) : Heap) = (70005, .yld (some ([1, 2, 3, 5], C70005)) 0) :: (f46cz3 r19) ∧ V.bool true = V.bool (0 == 0) ∧ YSpec Tryz.prog 70005 [1, 2, 3, 5] C70005 [1, 2, 3, 5, 6001] [(1, .cells 31 [q2aW l12]), (2, .cells 31 [.nils]), (3, .cells 37 [.i i11]), (5, .cells 31 [.own 6000]), (6000, q2bW_27 l13), (6001, .cells 27 [.b16 w10])] [.b16 w18] 0 (f46cz3 r19) ∧ VLes [.b16 w18] [.b16 w18]) from ⟨rfl, rfl, (YSpec.zero (hY70005 _ _ r19 hr19) hy_r19), ⟨.refl _, trivial⟩⟩)) ?_
       refine tN ?_
       refine AWp.cond (b := (!true)) (by kernel_rfl) (fun hc7 => ?_) (fun hc7 => ?_)
       ·
        replace h := ite_tb hc7 h
        refine q2rq [57] [] ⟨70, [(6, .bool false), (1000000, .elem 32 1 T0F 0 0)], [(1, .cells 31 [q2aW r19.2.1]), (2, .cells 31 [.nils]), (3, .cells 37 [.i r19.2.2.1]), (5, .cells 31 [.own 6000]), (6000, q2bW_27 r19.2.2.2.1), (6001, .cells 27 [.b16 r19.2.2.2.2]), (70005, .yld (some ([1, 2, 3, 5], C70005)) 0)], [70005, 1, 2, 3, 5, 6001], 20000⟩ trivial ?_
        have hret := oJ h
        subst hret
        refine AWp.le (Le.mk (s' := ⟨70, [(6, .bool false)], (f46cz5 C70005 r19), [70005, 1, 2, 3, 5, 6001], 20000⟩) rfl rfl ⟨.refl _, trivial⟩ ⟨⟨_, rfl, .refl _⟩, ⟨_, rfl, .refl _⟩, ⟨_, rfl, .refl _⟩, ⟨_, rfl, .refl _⟩, ⟨_, rfl, .refl _⟩, ⟨_, rfl, .refl _⟩, ⟨_, rfl, .refl _⟩, trivial⟩) ?_
        refine AWp.ret ?_
        refine joinQ_ret ?_
        refine kR ?_
        refine tR ?_
        refine kR ?_
        refine joinQ_ret ?_
        exact bR _ rfl ⟨rfl, rfl⟩ rfl
       ·
        replace h := ite_fb hc7 h
        refine AWp.skip ?_
        exact jN (r19.2.2.2.2, r19.2.2.1, r19.2.1, r19.2.2.2.1, 0) (Le.mk rfl rfl ⟨.refl _, .refl _, .refl _, .refl _, trivial⟩ ⟨⟨_, rfl, .refl _⟩, ⟨_, rfl, .refl _⟩, ⟨_, rfl, .refl _⟩, ⟨_, rfl, .refl _⟩, ⟨_, rfl, .refl _⟩, ⟨_, rfl, .refl _⟩, ⟨_, rfl, .refl _⟩, ⟨_, rfl, .refl _⟩, trivial⟩) h
      ·
       replace h := ite_f hy_r19 h
       refine q2rr [57] [(2, ⟨[.b16 w18], [70005, 1, 2, 3, 5, 6000, 6001], [1, 2, 3, 5, 6001], (f46cz4 C70005 r19), .bool false, [6000], [], []⟩)] ⟨70, [(2, .own 70005), (7, .own 26001), (8, .int .u32 i9), (52, .bool (!false)), (1000000, .elem 32 1 T0F 0 0)], [(1, .cells 31 [q2aW r19.2.1]), (2, .cells 31 [.nils]), (3, .cells 37 [.i r19.2.2.1]), (5, .cells 31 [.own 6000]), (6000, q2bW_27 r19.2.2.2.1), (6001, .cells 27 [.b16 r19.2.2.2.2]), (26001, q2bI_3 r7), (70005, .yld (some ([1, 2, 3, 5], C70005)) r19.1)], [70005, 1, 2, 3, 5, 6001], 20000⟩ (an1 (show (((f46cz4 C70005 r19) : Heap) = (70005, .yld (some ([1, 2, 3, 5], C70005)) r19.1) :: (f46cz3 r19) ∧ V.bool false = V.bool (r19.1 == 0) ∧ YSpec Tryz.prog 70005 [1, 2, 3, 5] C70005 [1, 2, 3, 5, 6001] [(1, .cells 31 [q2aW l12]), (2, .cells 31 [.nils]), (3, .cells 37 [.i i11]), (5, .cells 31 [.own 6000]), (6000, q2bW_27 l13), (6001, .cells 27 [.b16 w10])] [.b16 w18] r19.1 (f46cz3 r19) ∧ VLes [.b16 w18] [.b16 w18]) from ⟨rfl, bool_ne hy_r19, (hY70005 _ _ r19 hr19), ⟨.refl _, trivial⟩⟩)) ?_
       refine tN ?_
       refine AWp.cond (b := (!false)) (by kernel_rfl) (fun hc8 => ?_) (fun hc8 => ?_)
       ·
        replace h := ite_tb hc8 h
        refine q2rq [57] [] ⟨70, [(6, .bool false), (1000000, .elem 32 1 T0F 0 0)], [(1, .cells 31 [q2aW r19.2.1]), (2, .cells 31 [.nils]), (3, .cells 37 [.i r19.2.2.1]), (5, .cells 31 [.own 6000]), (6000, q2bW_27 r19.2.2.2.1), (6001, .cells 27 [.b16 r19.2.2.2.2]), (70005, .yld (some ([1, 2, 3, 5], C70005)) r19.1)], [70005, 1, 2, 3, 5, 6001], 20000⟩ trivial ?_
        have hret := oJ h
        subst hret
        refine AWp.le (Le.mk (s' := ⟨70, [(6, .bool false)], (f46cz4 C70005 r19), [70005, 1, 2, 3, 5, 6001], 20000⟩) rfl rfl ⟨.refl _, trivial⟩ ⟨⟨_, rfl, .refl _⟩, ⟨_, rfl, .refl _⟩, ⟨_, rfl, .refl _⟩, ⟨_, rfl, .refl _⟩, ⟨_, rfl, .refl _⟩, ⟨_, rfl, .refl _⟩, ⟨_, rfl, .refl _⟩, trivial⟩) ?_
        refine AWp.ret ?_
        refine joinQ_ret ?_
        refine kR ?_
        refine tR ?_
        refine kR ?_
        refine joinQ_ret ?_
        exact bR _ rfl ⟨rfl, rfl⟩ rfl
       ·
        replace h := ite_fb hc8 h
        refine AWp.skip ?_
        exact jN (r19.2.2.2.2, r19.2.2.1, r19.2.1, r19.2.2.2.1, r19.1) (Le.mk rfl rfl ⟨.refl _, .refl _, .refl _, .refl _, trivial⟩ ⟨⟨_, rfl, .refl _⟩, ⟨_, rfl, .refl _⟩, ⟨_, rfl, .refl _⟩, ⟨_, rfl, .refl _⟩, ⟨_, rfl, .refl _⟩, ⟨_, rfl, .refl _⟩, ⟨_, rfl, .refl _⟩, ⟨_, rfl, .refl _⟩, trivial⟩) h
     ·
      rintro ⟨w20, i21, l22, l23, n24⟩ h
      replace h := (congrFun hK4 _).symm.trans h
      refine AWp.seq ?_
      refine q2rq [57] [] ⟨70, [(2, .own 70005), (7, .own 26001), (8, .int .u32 i9), (54, .bool (i9 == (0 : Int))), (1000000, .elem 32 1 T0F 0 0)], (f46cz1 l22 i21 l23 w20 r7 C70005 n24), [70005, 1, 2, 3, 5, 6001], 20000⟩ trivial ?_
      refine AWp.cond (b := (i9 == (0 : Int))) (by kernel_rfl) (fun hc9 => ?_) (fun hc9 => ?_)
      ·
       replace h := ite_tb hc9 h
       refine AWp.exit ?_
       refine tE ?_
       refine blockQ_other (by decide) ?_
       refine tE ?_
       refine kS ?_
       exact jN (w20, i21, l22, l23, n24) (Le.mk rfl rfl ⟨.refl _, trivial⟩ ⟨⟨_, rfl, .refl _⟩, ⟨_, rfl, .refl _⟩, ⟨_, rfl, .refl _⟩, ⟨_, rfl, .refl _⟩, ⟨_, rfl, .refl _⟩, ⟨_, rfl, .refl _⟩, ⟨_, rfl, .refl _⟩, trivial⟩) h
      ·
       replace h := ite_fb hc9 h
       refine AWp.skip ?_
       refine tN ?_
       refine q2rq [57] [] ⟨70, [(2, .own 70005), (7, .own 26001), (8, .int .u32 i9), (12, .int .u32 (bitsI .and .u32 i9 (IntKind.wrap .u32 (0 - i9)))), (1000000, .elem 32 1 T0F 0 0)], (f46cz1 l22 i21 l23 w20 r7 C70005 n24), [70005, 1, 2, 3, 5, 6001], 20000⟩ (an1 trivial) ?_
       refine AWp.seq ?_
       obtain ⟨ob12, h⟩ := chk_some h
       refine q2rr [57] [] ⟨70, [(2, .own 70005), (7, .own 26001), (8, .int .u32 i9), (12, .int .u32 (bitsI .and .u32 i9 (IntKind.wrap .u32 (0 - i9)))), (13, .int .u32 (i9 + (bitsI .and .u32 i9 (IntKind.wrap .u32 (0 - i9))))), (1000000, .elem 32 1 T0F 0 0)], (f46cz1 l22 i21 l23 w20 r7 C70005 n24), [70005, 1, 2, 3, 5, 6001], 20000⟩ (an1 ob12) ?_
       refine tN ?_
       obtain ⟨ob13, ob14p, h⟩ := ck2 h
       have ob14 : 0 ≤ (2 : Int) ∧ 2 ≤ IntKind.bits .u32 := ⟨by omega, ob14p⟩
       refine q2rr [57] [] ⟨70, [(2, .own 70005), (7, .own 26001), (8, .int .u32 (bitsI .or .u32 (i9 + (bitsI .and .u32 i9 (IntKind.wrap .u32 (0 - i9)))) (((bitsI .xor .u32 i9 (i9 + (bitsI .and .u32 i9 (IntKind.wrap .u32 (0 - i9))))) / (bitsI .and .u32 i9 (IntKind.wrap .u32 (0 - i9)))) / 2 ^ 2))), (1000000, .elem 32 1 T0F 0 0)], (f46cz1 l22 i21 l23 w20 r7 C70005 n24), [70005, 1, 2, 3, 5, 6001], 20000⟩ (an2 ob13 ob14) ?_
       refine kN ?_
       rw [hC0] at h
       exact lN (_, (bitsI .or .u32 (i9 + (bitsI .and .u32 i9 (IntKind.wrap .u32 (0 - i9)))) (((bitsI .xor .u32 i9 (i9 + (bitsI .and .u32 i9 (IntKind.wrap .u32 (0 - i9))))) / (bitsI .and .u32 i9 (IntKind.wrap .u32 (0 - i9)))) / 2 ^ 2)), w20, i21, l22, l23, n24) (Le.mk rfl rfl ⟨.refl _, .refl _, .refl _, .refl _, trivial⟩ ⟨⟨_, rfl, .refl _⟩, ⟨_, rfl, .refl _⟩, ⟨_, rfl, .refl _⟩, ⟨_, rfl, .refl _⟩, ⟨_, rfl, .refl _⟩, ⟨_, rfl, .refl _⟩, ⟨_, rfl, .refl _⟩, ⟨_, rfl, .refl _⟩, trivial⟩) h (Nat.lt_succ_self _)
   ·
    replace h := ite_fb hc2 h
    refine AWp.exit ?_
    refine tE ?_
    refine tE ?_
    refine kS ?_
    exact jN (w10, i11, l12, l13, n14) (Le.mk rfl rfl ⟨.refl _, trivial⟩ ⟨⟨_, rfl, .refl _⟩, ⟨_, rfl, .refl _⟩, ⟨_, rfl, .refl _⟩, ⟨_, rfl, .refl _⟩, ⟨_, rfl, .refl _⟩, ⟨_, rfl, .refl _⟩, ⟨_, rfl, .refl _⟩, trivial⟩) h
  ·
   rintro ⟨w18, i19, l20, l21, n22⟩ h
   replace h := (congrFun hK1 _).symm.trans h
   refine q2rq [57] [] ⟨70, [(6, .bool true), (1000000, .elem 32 1 T0F 0 0)], [(1, .cells 31 [q2aW l20]), (2, .cells 31 [.nils]), (3, .cells 37 [.i i19]), (5, .cells 31 [.own 6000]), (6000, q2bW_27 l21), (6001, .cells 27 [.b16 w18]), (70005, .yld (some ([1, 2, 3, 5], C70005)) n22)], [70005, 1, 2, 3, 5, 6001], 20000⟩ trivial ?_
   have hret := oJ h
   subst hret
   refine AWp.le (Le.mk (s' := ⟨70, [(6, .bool true)], [(70005, .yld (some ([1, 2, 3, 5], C70005)) n22), (1, .cells 31 [q2aW l20]), (2, .cells 31 [.nils]), (3, .cells 37 [.i i19]), (5, .cells 31 [.own 6000]), (6000, q2bW_27 l21), (6001, .cells 27 [.b16 w18])], [70005, 1, 2, 3, 5, 6001], 20000⟩) rfl rfl ⟨.refl _, trivial⟩ ⟨⟨_, rfl, .refl _⟩, ⟨_, rfl, .refl _⟩, ⟨_, rfl, .refl _⟩, ⟨_, rfl, .refl _⟩, ⟨_, rfl, .refl _⟩, ⟨_, rfl, .refl _⟩, ⟨_, rfl, .refl _⟩, trivial⟩) ?_
   refine AWp.ret ?_
   exact bR _ rfl ⟨rfl, rfl⟩ rfl
def f44a_L0 (Y70005 : Tq3 → (BitVec 16) → Option (Nat × Tq3)) : Nat → (Nat × BitVec 16 × Int × List (BitVec 16) × List (BitVec 16) × Nat) → Option (Nat × List (BitVec 16) × Int × List (BitVec 16) × BitVec 16)
 | 0, _ => none
 | k + 1, (n5, w6, i7, l8, l9, n10) =>
  chk (n10 = 0) <|
  (f45 w6).bind fun (r11 : Int) =>
  if (decide ((n5 : Int) ≤ r11)) = true then (
  (f46c Y70005 w6 (n5 : Int) l8 i7 l9 w6).bind fun (r12 : Tq6) =>
  if r12.1 then (
  chk (((n5 : Int) + (1 : Int)) ≤ 9223372036854775807) <|
  (f44a_L0 Y70005 k) ((n5 + 1), r12.2.2.2.2.2, r12.2.2.2.1, r12.2.2.1, r12.2.2.2.2.1, r12.2.1)
  ) else (
  some (r12.2.1, r12.2.2.1, r12.2.2.2.1, r12.2.2.2.2.1, r12.2.2.2.2.2)
  )
  ) else (
  some (0, l8, i7, l9, w6)
  )
abbrev f44az0 (r12 : Tq6) (C70005 : YC) : Heap := [(1, .cells 31 [vL 1 eW 0#16 r12.2.2.1]), (2, .cells 31 [.nils]), (3, .cells 37 [.int .i64 r12.2.2.2.1]), (5, .cells 31 [.own 6000]), (6000, bL 27 1 eW 0#16 r12.2.2.2.2.1), (6001, .cells 27 [.b16 r12.2.2.2.2.2]), (70005, .yld (some ([1, 2, 3, 5], C70005)) r12.2.1)]
def f44a (Y70005 : Tq3 → (BitVec 16) → Option (Nat × Tq3)) (x1 : List (BitVec 16)) (x2 : Int) (x3 : List (BitVec 16)) (x4 : BitVec 16) : Option (Nat × List (BitVec 16) × Int × List (BitVec 16) × BitVec 16) :=
 f44a_L0 Y70005 FUEL (0, x4, x2, x1, x3, 0)
theorem f44a_ok (C70005 : YC) (Y70005 : Tq3 → (TB) → Option (Nat × Tq3)) (x1 : List (TB)) (x2 : Int) (x3 : List (TB)) (x4 : TB) (r : Nat × List (TB) × Int × List (TB) × TB) (h : f44a Y70005 x1 x2 x3 x4 = some r) (hY70005 : ∀ s x r, Y70005 s x = some r → YSpec Tryz.prog 70005 [1, 2, 3, 5] C70005 [1, 2, 3, 5, 6001] [(1, .cells 31 [vL 1 eW 0#16 s.1]), (2, .cells 31 [.nils]), (3, .cells 37 [.int .i64 s.2.1]), (5, .cells 31 [.own 6000]), (6000, bL 27 1 eW 0#16 s.2.2.1), (6001, .cells 27 [.b16 s.2.2.2])] [.b16 x] r.1 [(1, .cells 31 [vL 1 eW 0#16 r.2.1]), (2, .cells 31 [.nils]), (3, .cells 37 [.int .i64 r.2.2.1]), (5, .cells 31 [.own 6000]), (6000, bL 27 1 eW 0#16 r.2.2.2.1), (6001, .cells 27 [.b16 r.2.2.2.2])]) : Spec1 Tryz.prog 44 [(0, .elem 32 1 T0F 0 0)] [70005, 1, 2, 3, 5, 6001] [(70005, .yld (some ([1, 2, 3, 5], C70005)) 0), (1, .cells 31 [vL 1 eW 0#16 x1]), (2, .cells 31 [.nils]), (3, .cells 37 [.int .i64 x2]), (5, .cells 31 [.own 6000]), (6000, bL 27 1 eW 0#16 x3), (6001, .cells 27 [.b16 x4])] [.own 70005, .ptr 6001 0] (.tup []) [(70005, .yld (some ([1, 2, 3, 5], C70005)) r.1), (1, .cells 31 [vL 1 eW 0#16 r.2.1]), (2, .cells 31 [.nils]), (3, .cells 37 [.int .i64 r.2.2.1]), (5, .cells 31 [.own 6000]), (6000, bL 27 1 eW 0#16 r.2.2.2.1), (6001, .cells 27 [.b16 r.2.2.2.2])] := by
 unfold f44a at h
 refine Spec1.body 10000 _ _ Tryz.func44 rfl Tryz.ntmps44 rfl rfl ?_
 refine q2rq [] [] ⟨16, [(0, .own 70005), (1, .ptr 6001 0), (3, .i (0 : Int)), (1000000, .elem 32 1 T0F 0 0)], [(1, .cells 31 [q2aW x1]), (2, .cells 31 [.nils]), (3, .cells 37 [.i x2]), (5, .cells 31 [.own 6000]), (6000, q2bW_27 x3), (6001, .cells 27 [.b16 x4]), (70005, .yld (some ([1, 2, 3, 5], C70005)) 0)], [70005, 1, 2, 3, 5, 6001], 10000⟩ trivial ?_
 refine AWp.block ?_
 refine AWp.loopL (α := Nat × (Nat × TB × Int × List (TB) × List (TB) × Nat)) (fun x => match x with | (_, n5, w6, i7, l8, l9, n10) => ⟨16, [(0, .own 70005), (1, .ptr 6001 0), (3, .i (n5 : Int)), (1000000, .elem 32 1 T0F 0 0)], [(1, .cells 31 [q2aW l8]), (2, .cells 31 [.nils]), (3, .cells 37 [.i i7]), (5, .cells 31 [.own 6000]), (6000, q2bW_27 l9), (6001, .cells 27 [.b16 w6]), (70005, .yld (some ([1, 2, 3, 5], C70005)) n10)], [70005, 1, 2, 3, 5, 6001], 10000⟩) (fun x => f44a_L0 Y70005 x.1 x.2 = some r) (fun x => x.1) (FUEL, 0, x4, x2, x1, x3, 0) (Le.mk (s' := ⟨16, [(0, .own 70005), (1, .ptr 6001 0), (3, .i (0 : Int)), (1000000, .elem 32 1 T0F 0 0)], [(1, .cells 31 [q2aW x1]), (2, .cells 31 [.nils]), (3, .cells 37 [.i x2]), (5, .cells 31 [.own 6000]), (6000, q2bW_27 x3), (6001, .cells 27 [.b16 x4]), (70005, .yld (some ([1, 2, 3, 5], C70005)) 0)], [70005, 1, 2, 3, 5, 6001], 10000⟩) rfl rfl ⟨.refl _, .refl _, .refl _, .refl _, trivial⟩ ⟨⟨_, rfl, .refl _⟩, ⟨_, rfl, .refl _⟩, ⟨_, rfl, .refl _⟩, ⟨_, rfl, .refl _⟩, ⟨_, rfl, .refl _⟩, ⟨_, rfl, .refl _⟩, ⟨_, rfl, .refl _⟩, trivial⟩) h ?_
 rintro ⟨k0, n5, w6, i7, l8, l9, n10⟩ h
 cases k0 with
 | zero => exact nomatch (show (none : Option (Nat × List (TB) × Int × List (TB) × TB)) = some r from h)
 | succ k0 =>
 obtain ⟨C0, hC0⟩ : ∃ C, C = f44a_L0 Y70005 k0 := ⟨_, rfl⟩
 replace h := (f44a_L0.eq_2 ..).symm.trans h
 try rw [← hC0] at h
 refine AWp.seq ?_
 refine AWp.seq ?_
 obtain ⟨hz1, h⟩ := chk_some h
 refine AWp.le (Le.mk (s' := ⟨16, [(0, .own 70005), (1, .ptr 6001 0), (3, .i (n5 : Int)), (1000000, .elem 32 1 T0F 0 0)], [(1, .cells 31 [q2aW l8]), (2, .cells 31 [.nils]), (3, .cells 37 [.i i7]), (5, .cells 31 [.own 6000]), (6000, q2bW_27 l9), (6001, .cells 27 [.b16 w6]), (70005, .yld (some ([1, 2, 3, 5], C70005)) 0)], [70005, 1, 2, 3, 5, 6001], 10000⟩) rfl rfl ⟨.refl _, .refl _, .refl _, .refl _, trivial⟩ ⟨⟨_, rfl, .refl _⟩, ⟨_, rfl, .refl _⟩, ⟨_, rfl, .refl _⟩, ⟨_, rfl, .refl _⟩, ⟨_, rfl, .refl _⟩, ⟨_, rfl, .refl _⟩, ⟨_, rfl, BLe.yldEq hz1⟩, trivial⟩) ?_
 obtain ⟨r11, hr11, h⟩ := bind_ok h
 by_cases hg1_4 : (decide ((n5 : Int) ≤ r11)) = true
 ·
  replace h := ite_t hg1_4 h
  obtain ⟨r12, hr12, h⟩ := bind_ok h
  have ob0 := idA (true = true)
  have ob1 := idA (true = true)
  have ob2 := idA (true = true)
  refine q2rr [] [(2, ⟨[.b16 w6], [], [], [], .i r11, [], [], []⟩), (4, ⟨[], [], [], [], (.bool true), [], [0], []⟩), (8, ⟨[.b16 w6, .i (n5 : Int), .own 70005], [70005, 1, 2, 3, 5, 6000, 6001], [70005, 1, 2, 3, 5, 6001], [(70005, .yld (some ([1, 2, 3, 5], C70005)) r12.2.1), (1, .cells 31 [q2aW r12.2.2.1]), (2, .cells 31 [.nils]), (3, .cells 37 [.i r12.2.2.2.1]), (5, .cells 31 [.own 6000]), (6000, q2bW_27 r12.2.2.2.2.1), (6001, .cells 27 [.b16 r12.2.2.2.2.2])], .bool r12.1, [6000], [], [0]⟩)] ⟨16, [(0, .own 70005), (1, .ptr 6001 0), (3, .i (n5 : Int)), (13, .bool r12.1), (1000000, .elem 32 1 T0F 0 0)], (f44az0 r12 C70005), [70005, 1, 2, 3, 5, 6001], 10000⟩ (an4 (cpT (f45_ok _ _ hr11)) (show ((.bool (decide ((n5 : Int) ≤ r11))) : V) = (.bool true) from (congrArg (fun x => ((.bool x) : V)) hg1_4)) (And.intro (cpT (f46c_ok C70005 _ _ _ _ _ _ _ _ hr12 hY70005)) (an3 ob0 ob1 ob2)) trivial) ?_
  refine tN ?_
  refine AWp.cond (b := r12.1) (by kernel_rfl) (fun hc3 => ?_) (fun hc3 => ?_)
  ·
   replace h := ite_tb hc3 h
   refine AWp.skip ?_
   refine tN ?_
   refine AWp.seq ?_
   refine AWp.block ?_
   refine AWp.skip ?_
   refine kN ?_
   refine tN ?_
   obtain ⟨ob4p, h⟩ := chk_some h
   have ob4 : -9223372036854775808 ≤ ((n5 : Int) + (1 : Int)) ∧ ((n5 : Int) + (1 : Int)) ≤ 9223372036854775807 := ⟨by omega, ob4p⟩
   refine q2rr [] [] ⟨16, [(0, .own 70005), (1, .ptr 6001 0), (3, .i (((n5 + 1) : Nat) : Int)), (1000000, .elem 32 1 T0F 0 0)], (f44az0 r12 C70005), [70005, 1, 2, 3, 5, 6001], 10000⟩ (an1 ob4) ?_
   rw [hC0] at h
   exact lN (_, (n5 + 1), r12.2.2.2.2.2, r12.2.2.2.1, r12.2.2.1, r12.2.2.2.2.1, r12.2.1) (Le.mk rfl rfl ⟨.refl _, .refl _, .refl _, .refl _, trivial⟩ ⟨⟨_, rfl, .refl _⟩, ⟨_, rfl, .refl _⟩, ⟨_, rfl, .refl _⟩, ⟨_, rfl, .refl _⟩, ⟨_, rfl, .refl _⟩, ⟨_, rfl, .refl _⟩, ⟨_, rfl, .refl _⟩, trivial⟩) h (Nat.lt_succ_self _)
  ·
   replace h := ite_fb hc3 h
   refine AWp.exit ?_
   refine tE ?_
   refine tE ?_
   refine kS ?_
   have hret := oJ h
   subst hret
   exact bodyQ_le (Le.mk (s' := ⟨16, [], [(70005, .yld (some ([1, 2, 3, 5], C70005)) r12.2.1), (1, .cells 31 [q2aW r12.2.2.1]), (2, .cells 31 [.nils]), (3, .cells 37 [.i r12.2.2.2.1]), (5, .cells 31 [.own 6000]), (6000, q2bW_27 r12.2.2.2.2.1), (6001, .cells 27 [.b16 r12.2.2.2.2.2])], [70005, 1, 2, 3, 5, 6001], 10000⟩) rfl rfl trivial ⟨⟨_, rfl, .refl _⟩, ⟨_, rfl, .refl _⟩, ⟨_, rfl, .refl _⟩, ⟨_, rfl, .refl _⟩, ⟨_, rfl, .refl _⟩, ⟨_, rfl, .refl _⟩, ⟨_, rfl, .refl _⟩, trivial⟩) (bodyQ_normal _ rfl ⟨rfl, rfl⟩ rfl)
 ·
  replace h := ite_f hg1_4 h
  have ob0 := idA (false = true)
  have ob1 := idA (false = true)
  have ob2 := idA (false = true)
  have ob3 : true = true → false = true → false = true := fun _ h => h
  refine q2rr [] [(2, ⟨[.b16 w6], [], [], [], .i r11, [], [], []⟩), (4, ⟨[], [], [], [], (.bool false), [], [0], []⟩), (8, ⟨[], [], [], [], .bool false, [], [], []⟩)] ⟨16, [(0, .own 70005), (1, .ptr 6001 0), (3, .i (n5 : Int)), (13, .bool false), (1000000, .elem 32 1 T0F 0 0)], [(1, .cells 31 [q2aW l8]), (2, .cells 31 [.nils]), (3, .cells 37 [.i i7]), (5, .cells 31 [.own 6000]), (6000, q2bW_27 l9), (6001, .cells 27 [.b16 w6]), (70005, .yld (some ([1, 2, 3, 5], C70005)) 0)], [70005, 1, 2, 3, 5, 6001], 10000⟩ (an4 (cpT (f45_ok _ _ hr11)) (show ((.bool (decide ((n5 : Int) ≤ r11))) : V) = (.bool false) from (congrArg (fun x => ((.bool x) : V)) (Bool.eq_false_iff.2 hg1_4))) (And.intro (show (callP Tryz.prog false 46 [] [] [] [] [] [.b16 w6, .i (n5 : Int), .own 70005] [] (.bool false) []) from ⟨nofun, nofun, .inl rfl⟩) (an3 ob0 ob1 ob2)) ob3) ?_
  refine tN ?_
  refine AWp.cond (b := false) (by kernel_rfl) (fun hc => ?_) (fun hc => ?_)
  ·
   cases hc
  ·
   clear hc
   refine AWp.exit ?_
   refine tE ?_
   refine tE ?_
   refine kS ?_
   have hret := oJ h
   subst hret
   exact bodyQ_le (Le.mk (s' := ⟨16, [], [(70005, .yld (some ([1, 2, 3, 5], C70005)) 0), (1, .cells 31 [q2aW l8]), (2, .cells 31 [.nils]), (3, .cells 37 [.i i7]), (5, .cells 31 [.own 6000]), (6000, q2bW_27 l9), (6001, .cells 27 [.b16 w6])], [70005, 1, 2, 3, 5, 6001], 10000⟩) rfl rfl trivial ⟨⟨_, rfl, .refl _⟩, ⟨_, rfl, .refl _⟩, ⟨_, rfl, .refl _⟩, ⟨_, rfl, .refl _⟩, ⟨_, rfl, .refl _⟩, ⟨_, rfl, .refl _⟩, ⟨_, rfl, .refl _⟩, trivial⟩) (bodyQ_normal _ rfl ⟨rfl, rfl⟩ rfl)
def f9_Y70005 : Tq3 → (BitVec 16) → Option (Nat × Tq3)
 | (l7, i6, l8, w5), x9 =>
  (f24 l8 x9).bind fun (r10 : Bool) =>
  optc ((!r10) == true) (f25 l7 x9) fun (r11 : Bool) =>
  if ((!r10) && r11) then (
  chk (((l8).length + 1) * 2 ≤ 140737488355328) <|
  if (decide (((((l8 ++ [x9])).length : Nat) : Int) > (400 : Int))) then (
  some (2, (l7, (3 : Int), (l8 ++ [x9]), w5))
  ) else (
  some (0, (l7, i6, (l8 ++ [x9]), w5))
  )
  ) else (
  some (0, (l7, i6, l8, w5))
  )
abbrev f9z0 (l7 : List (TB)) (i6 : Int) (l8 : List (TB)) (w5 : TB) : Heap := [(1, .cells 31 [vL 1 eW 0#16 l7]), (2, .cells 31 [.nils]), (3, .cells 37 [.int .i64 i6]), (5, .cells 31 [.own 6000]), (6000, bL 27 1 eW 0#16 l8), (6001, .cells 27 [.b16 w5])]
abbrev f9z1 (l7 : List (TB)) (i6 : Int) (l8 : List (TB)) (x9 : TB) (w5 : TB) : Heap := [(1, .cells 31 [vL 1 eW 0#16 l7]), (2, .cells 31 [.nils]), (3, .cells 37 [.int .i64 i6]), (5, .cells 31 [.own 6000]), (6000, bL 27 1 eW 0#16 (l8 ++ [x9])), (6001, .cells 27 [.b16 w5])]
abbrev f9z2 : List V := [.int .i64 (0 : Int)]
abbrev f9z3 (x1 : List (TB)) : Heap := [(1, .cells 31 [vL 1 eW 0#16 x1]), (2, .cells 31 [.nils]), (3, .cells 37 (f9z2))]
def f9 (x1 : List (BitVec 16)) : Option (List (BitVec 16) × Int) :=
 (f21 x1).bind fun (r2 : Int) =>
 if (r2 != (0 : Int)) then (
 some ([], r2)
 ) else (
 (f23 x1).bind fun (r3 : TB) =>
 (f22 r3).bind fun (r4 : TB) =>
 (f44a f9_Y70005 x1 (0 : Int) [] r4).bind fun (r12 : Nat × List (TB) × Int × List (TB) × TB) =>
 chk (r12.1 ≠ 1) <|
 if r12.1 = 0 then (
 some (r12.2.2.2.1, (0 : Int))
 ) else (
 if r12.1 = 2 then (
 some ([], r12.2.2.1)
 ) else (
 none
 )
 )
 )
theorem f9_ok  (x1 : List (TB)) (r : List (TB) × Int) (h : f9 x1 = some r)  : Spec1 Tryz.prog 9 [(0, .elem 32 1 T0F 0 0)] [] [] [vL 1 eW 0#16 x1] (.tup [vL 1 eW 0#16 r.1, .int .i64 r.2]) [] := by
 unfold f9 at h
 refine Spec1.bodyD [2, 3] 0 _ _ Tryz.func9 rfl Tryz.ntmps9 rfl rfl ?_
 refine q2rq [] [] ⟨33, [(1, .ptr 1 0), (2, .ptr 2 0), (3, .ptr 3 0), (1000000, .elem 32 1 T0F 0 0)], (f9z3 x1), [], 0⟩ trivial ?_
 refine AWp.seq ?_
 refine AWp.seq ?_
 obtain ⟨r2, hr2, h⟩ := bind_ok h
 refine q2rr [] [(1, ⟨[q2aW x1], [], [], [], .i r2, [], [], []⟩)] ⟨33, [(1, .ptr 1 0), (2, .ptr 2 0), (3, .ptr 3 0), (4, .i r2), (1000000, .elem 32 1 T0F 0 0)], (f9z3 x1), [], 0⟩ (an1 (cpT (f21_ok _ _ hr2))) ?_
 refine tN ?_
 refine q2rq [] [] ⟨33, [(1, .ptr 1 0), (2, .ptr 2 0), (3, .ptr 3 0), (4, .i r2), (10, .bool (r2 != (0 : Int))), (1000000, .elem 32 1 T0F 0 0)], (f9z3 x1), [], 0⟩ trivial ?_
 refine AWp.cond (b := (r2 != (0 : Int))) (by kernel_rfl) (fun hc1 => ?_) (fun hc1 => ?_)
 ·
  replace h := ite_tb hc1 h
  refine q2rq [] [] ⟨33, [(2, .ptr 2 0), (3, .ptr 3 0), (1000000, .elem 32 1 T0F 0 0)], [(2, .cells 31 [.nils]), (3, .cells 37 [.i r2])], [], 0⟩ (an2 trivial trivial) ?_
  have hret := oJ h
  subst hret
  refine AWp.le (Le.mk (s' := ⟨33, [(2, .ptr 2 0), (3, .ptr 3 0)], [(2, .cells 31 [q2aW []]), (3, .cells 37 [.i r2])], [], 0⟩) rfl rfl ⟨.refl _, .refl _, trivial⟩ ⟨⟨_, rfl, (.cellsL ⟨.nilL, trivial⟩)⟩, ⟨_, rfl, .refl _⟩, trivial⟩) ?_
  refine AWp.ret ?_
  refine tR ?_
  exact bR _ rfl ⟨rfl, rfl⟩ rfl
 ·
  replace h := ite_fb hc1 h
  refine AWp.skip ?_
  refine tN ?_
  refine q2rq [] [] ⟨33, [(1, .ptr 1 0), (2, .ptr 2 0), (3, .ptr 3 0), (5, .ptr 5 0), (1000000, .elem 32 1 T0F 0 0)], [(1, .cells 31 [q2aW x1]), (2, .cells 31 [.nils]), (3, .cells 37 (f9z2)), (5, .cells 31 [.nils])], [], 0⟩ trivial ?_
  refine AWp.seq ?_
  refine AWp.seq ?_
  obtain ⟨r3, hr3, h⟩ := bind_ok h
  obtain ⟨r4, hr4, h⟩ := bind_ok h
  refine q2rr [] [(1, ⟨[q2aW x1], [], [], [], .b16 r3, [], [], []⟩), (2, ⟨[.b16 r3], [], [], [(6001, .cells 27 [.b16 r4])], .fn (.func 44) [.ptr 6001 0], [6001], [], []⟩)] ⟨33, [(1, .ptr 1 0), (2, .ptr 2 0), (3, .ptr 3 0), (5, .ptr 5 0), (14, .fn (.func 44) [.ptr 6001 0]), (1000000, .elem 32 1 T0F 0 0)], [(1, .cells 31 [q2aW x1]), (2, .cells 31 [.nils]), (3, .cells 37 (f9z2)), (5, .cells 31 [.nils]), (6001, .cells 27 [.b16 r4])], [], 0⟩ (an2 (cpT (f23_ok _ _ hr3)) (cpT (Spec1.ren (swapN 3500 6001) (swapN_inv 3500 6001) rfl (f22_ok _ _ hr4)))) ?_
  refine tN ?_
  refine AWp.block ?_
  refine AWp.le (Le.trans (Le.trans (Le.nilOwnC 5 0 6000 27 1 (encF eW 0#16 []) rfl rfl rfl) (Le.mk (s' := ⟨33, [(1, .ptr 1 0), (2, .ptr 2 0), (3, .ptr 3 0), (5, .ptr 5 0), (14, .fn (.func 44) [.ptr 6001 0]), (1000000, .elem 32 1 T0F 0 0)], [(1, .cells 31 [q2aW x1]), (2, .cells 31 [.nils]), (3, .cells 37 (f9z2)), (5, .cells 31 [.own 6000]), (6001, .cells 27 [.b16 r4]), (6000, q2bW_27 [])], [], 0⟩) rfl rfl ⟨.refl _, .refl _, .refl _, .refl _, .refl _, .refl _, trivial⟩ ⟨⟨_, rfl, .refl _⟩, ⟨_, rfl, .refl _⟩, ⟨_, rfl, .refl _⟩, ⟨_, rfl, .refl _⟩, ⟨_, rfl, .refl _⟩, ⟨_, rfl, .refl _⟩, trivial⟩)) (Le.mk (s' := ⟨33, [(1, .ptr 1 0), (2, .ptr 2 0), (3, .ptr 3 0), (5, .ptr 5 0), (14, .fn (.func 44) [.ptr 6001 0]), (1000000, .elem 32 1 T0F 0 0)], [(1, .cells 31 [q2aW x1]), (2, .cells 31 [.nils]), (3, .cells 37 (f9z2)), (5, .cells 31 [.own 6000]), (6000, q2bW_27 []), (6001, .cells 27 [.b16 r4])], [], 0⟩) rfl rfl ⟨.refl _, .refl _, .refl _, .refl _, .refl _, .refl _, trivial⟩ ⟨⟨_, rfl, .refl _⟩, ⟨_, rfl, .refl _⟩, ⟨_, rfl, .refl _⟩, ⟨_, rfl, .refl _⟩, ⟨_, rfl, .refl _⟩, ⟨_, rfl, .refl _⟩, trivial⟩)) ?_
  obtain ⟨r12, hr12, h⟩ := bind_ok h
  obtain ⟨hkr12, h⟩ := chk_some h
  refine AWp.rangeFunc (s := ⟨33, [(1, .ptr 1 0), (2, .ptr 2 0), (3, .ptr 3 0), (5, .ptr 5 0), (14, .fn (.func 44) [.ptr 6001 0]), (1000000, .elem 32 1 T0F 0 0)], [(1, .cells 31 [q2aW x1]), (2, .cells 31 [.nils]), (3, .cells 37 (f9z2)), (5, .cells 31 [.own 6000]), (6000, q2bW_27 []), (6001, .cells 27 [.b16 r4])], [], 0⟩) 70005 [1, 2, 3, 5] [1, 2, 3, 5, 1000000] [.ret] 44 [.ptr 6001 0] ⟨[.own 70005, .ptr 6001 0], [1, 2, 3, 5, 6000, 6001], [70005, 1, 2, 3, 5, 6001], [], .tup [], [6000], [], [0]⟩ r12.1 [(1, .cells 31 [q2aW r12.2.1]), (2, .cells 31 [.nils]), (3, .cells 37 [.i r12.2.2.1]), (5, .cells 31 [.own 6000]), (6000, q2bW_27 r12.2.2.2.1), (6001, .cells 27 [.b16 r12.2.2.2.2])] ⟨33, [(1, .ptr 1 0), (2, .ptr 2 0), (3, .ptr 3 0), (5, .ptr 5 0), (14, .fn (.func 44) [.ptr 6001 0]), (1000000, .elem 32 1 T0F 0 0)], [(1, .cells 31 [q2aW r12.2.1]), (2, .cells 31 [.nils]), (3, .cells 37 [.i r12.2.2.1]), (5, .cells 31 [.own 6000]), (6000, q2bW_27 r12.2.2.2.1), (6001, .cells 27 [.b16 r12.2.2.2.2])], [], 0⟩ rfl (by kernel_rfl) (by kernel_rfl) (fun g0 => ?_) (fun C => (by kernel_rfl)) (by kernel_rfl) (by kernel_rfl) (by kernel_rfl) (by kernel_rfl) hkr12 (by kernel_rfl) ?_ ?_
  ·
   refine ⟨fun _ => (f44a_ok _ f9_Y70005 x1 (0 : Int) [] r4 r12 hr12 ?_), fun _ => ⟨.refl _, .refl _, trivial⟩, .inl rfl⟩
   clear h
   rintro ⟨l7, i6, l8, w5⟩ x9 rY70005 h
   replace h := (f9_Y70005.eq_1 ..).symm.trans h
   refine YSpec.body 0 rfl (of_decide_eq_true (by kernel_rfl)) (of_decide_eq_true (by kernel_rfl)) (within_tget (by kernel_rfl)) (by kernel_rfl) (by kernel_rfl) (by kernel_rfl) (by kernel_rfl) ?_
   refine AWp.le (Le.mk (s' := ⟨33, [(15, .b16 x9), (1, .ptr 1 0), (2, .ptr 2 0), (3, .ptr 3 0), (5, .ptr 5 0), (1000000, .elem 32 1 T0F 0 0)], (f9z0 l7 i6 l8 w5), [1, 2, 3, 5, 6001], 0⟩) rfl rfl ⟨.refl _, .refl _, .refl _, .refl _, .refl _, .refl _, trivial⟩ ⟨⟨_, rfl, .refl _⟩, ⟨_, rfl, .refl _⟩, ⟨_, rfl, .refl _⟩, ⟨_, rfl, .refl _⟩, ⟨_, rfl, .refl _⟩, ⟨_, rfl, .refl _⟩, trivial⟩) ?_
   refine q2rr [] [] ⟨33, [(1, .ptr 1 0), (2, .ptr 2 0), (3, .ptr 3 0), (5, .ptr 5 0), (6, .b16 x9), (1000000, .elem 32 1 T0F 0 0)], (f9z0 l7 i6 l8 w5), [1, 2, 3, 5, 6001], 0⟩ trivial ?_
   refine ⟨rfl, rfl, ?_⟩
   refine AWp.block ?_
   refine AWp.seq ?_
   obtain ⟨r10, hr10, h⟩ := bind_ok h
   obtain ⟨r11, hr11, h⟩ := optc_some h
   have ob0 := idA (((!r10) == true) = true)
   have ob1 := idA (((!r10) == true) = true)
   have ob2 := bqA (!r10) true
   refine q2rr [] [(2, ⟨[q2aW l8, .b16 x9], [], [], [], .bool r10, [], [6000], []⟩), (7, ⟨[q2aW l7, .b16 x9], [], [], [], .bool r11, [], [], []⟩)] ⟨33, [(2, .ptr 2 0), (3, .ptr 3 0), (5, .ptr 5 0), (6, .b16 x9), (24, .bool ((!r10) && r11)), (1000000, .elem 32 1 T0F 0 0)], (f9z0 l7 i6 l8 w5), [1, 2, 3, 5, 6001], 0⟩ (an3 (cpL (c := true) [(6000, q2bW_27 l8)] [6000] [.own 6000, .b16 x9] (fun _ => (f24_ok _ _ _ hr10)) (fun _ => ⟨.refl _, .refl _, trivial⟩) (.inr ⟨rfl, trivial⟩)) (And.intro (cpC fun hc => (f25_ok _ _ _ (hr11 hc))) (an2 ob0 ob1)) ob2) ?_
   refine tN ?_
   refine AWp.cond (b := ((!r10) && r11)) (by kernel_rfl) (fun hc2 => ?_) (fun hc2 => ?_)
   ·
    replace h := ite_tb hc2 h
    refine AWp.seq ?_
    obtain ⟨ob3, h⟩ := chk_some h
    refine q2rr [] [] ⟨33, [(2, .ptr 2 0), (3, .ptr 3 0), (5, .ptr 5 0), (1000000, .elem 32 1 T0F 0 0)], [(1, .cells 31 [q2aW l7]), (2, .cells 31 [.nils]), (3, .cells 37 [.i i6]), (5, .cells 31 [.own 6000]), (6000, .rows 27 1 ((l8).length + 1) (appF (l8).length (encF eW 0#16 l8) (lstF 1 [.b16 x9]))), (6001, .cells 27 [.b16 w5])], [1, 2, 3, 5, 6001], 0⟩ (an2 ob3 trivial) ?_
    refine tN ?_
    refine AWp.le (Le.mk (s' := ⟨33, [(2, .ptr 2 0), (3, .ptr 3 0), (5, .ptr 5 0), (1000000, .elem 32 1 T0F 0 0)], (f9z1 l7 i6 l8 x9 w5), [1, 2, 3, 5, 6001], 0⟩) rfl rfl ⟨.refl _, .refl _, .refl _, .refl _, trivial⟩ ⟨⟨_, rfl, .refl _⟩, ⟨_, rfl, .refl _⟩, ⟨_, rfl, .refl _⟩, ⟨_, rfl, .refl _⟩, ⟨_, rfl, (BLe.of (RL.app (RL.self _) (RL.lst (enc := eW) [x9] rfl rfl (fun _ => rfl))))⟩, ⟨_, rfl, .refl _⟩, trivial⟩) ?_
    refine q2rq [] [] ⟨33, [(2, .ptr 2 0), (3, .ptr 3 0), (31, .bool (decide (((((l8 ++ [x9])).length : Nat) : Int) > (400 : Int)))), (1000000, .elem 32 1 T0F 0 0)], (f9z1 l7 i6 l8 x9 w5), [1, 2, 3, 5, 6001], 0⟩ trivial ?_
    refine AWp.cond (b := (decide (((((l8 ++ [x9])).length : Nat) : Int) > (400 : Int)))) (by kernel_rfl) (fun hc3 => ?_) (fun hc3 => ?_)
    ·
     replace h := ite_tb hc3 h
     refine q2rq [] [] ⟨33, [(1000000, .elem 32 1 T0F 0 0)], [(1, .cells 31 [q2aW l7]), (2, .cells 31 [.nils]), (3, .cells 37 [.i (3 : Int)]), (5, .cells 31 [.own 6000]), (6000, q2bW_27 (l8 ++ [x9])), (6001, .cells 27 [.b16 w5])], [1, 2, 3, 5, 6001], 0⟩ (an2 trivial trivial) ?_
     refine AWp.ret ?_
     refine kR ?_
     have hret := oJ h
     subst hret
     exact ⟨_, (Le.mk (s' := ⟨33, [], [(1, .cells 31 [q2aW l7]), (2, .cells 31 [.nils]), (3, .cells 37 [.i (3 : Int)]), (5, .cells 31 [.own 6000]), (6000, q2bW_27 (l8 ++ [x9])), (6001, .cells 27 [.b16 w5])], [1, 2, 3, 5, 6001], 0⟩) rfl rfl trivial ⟨⟨_, rfl, .refl _⟩, ⟨_, rfl, .refl _⟩, ⟨_, rfl, .refl _⟩, ⟨_, rfl, .refl _⟩, ⟨_, rfl, .refl _⟩, ⟨_, rfl, .refl _⟩, trivial⟩), rfl, rfl, .inr ⟨0, _, rfl, rfl, .inl ⟨rfl, rfl⟩⟩⟩
    ·
     replace h := ite_fb hc3 h
     refine AWp.skip ?_
     refine kN ?_
     have hret := oJ h
     subst hret
     exact ⟨_, (Le.mk (s' := ⟨33, [], (f9z1 l7 i6 l8 x9 w5), [1, 2, 3, 5, 6001], 0⟩) rfl rfl trivial ⟨⟨_, rfl, .refl _⟩, ⟨_, rfl, .refl _⟩, ⟨_, rfl, .refl _⟩, ⟨_, rfl, .refl _⟩, ⟨_, rfl, .refl _⟩, ⟨_, rfl, .refl _⟩, trivial⟩), rfl, rfl, .inl ⟨rfl, rfl⟩⟩
   ·
    replace h := ite_fb hc2 h
    refine AWp.skip ?_
    refine kN ?_
    have hret := oJ h
    subst hret
    exact ⟨_, (Le.mk (s' := ⟨33, [], (f9z0 l7 i6 l8 w5), [1, 2, 3, 5, 6001], 0⟩) rfl rfl trivial ⟨⟨_, rfl, .refl _⟩, ⟨_, rfl, .refl _⟩, ⟨_, rfl, .refl _⟩, ⟨_, rfl, .refl _⟩, ⟨_, rfl, .refl _⟩, ⟨_, rfl, .refl _⟩, trivial⟩), rfl, rfl, .inl ⟨rfl, rfl⟩⟩
  ·
   intro hk0
   replace h := ite_t hk0 h
   refine kN ?_
   refine tN ?_
   refine q2rq [] [] ⟨33, [(2, .ptr 2 0), (3, .ptr 3 0), (1000000, .elem 32 1 T0F 0 0)], [(2, .cells 31 [.own 6000]), (3, .cells 37 (f9z2)), (6000, q2bW_27 r12.2.2.2.1)], [], 0⟩ (an2 trivial trivial) ?_
   refine AWp.le (Le.trans (Le.freeze 6000 rfl rfl) (Le.mk (s' := ⟨33, [(2, .ptr 2 0), (3, .ptr 3 0), (1000000, .elem 32 1 T0F 0 0)], [(2, .cells 31 [q2aW r12.2.2.2.1]), (3, .cells 37 (f9z2))], [], 0⟩) rfl rfl ⟨.refl _, .refl _, .refl _, trivial⟩ ⟨⟨_, rfl, .refl _⟩, ⟨_, rfl, .refl _⟩, trivial⟩)) ?_
   have hret := oJ h
   subst hret
   refine AWp.le (Le.mk (s' := ⟨33, [(2, .ptr 2 0), (3, .ptr 3 0)], [(2, .cells 31 [q2aW r12.2.2.2.1]), (3, .cells 37 (f9z2))], [], 0⟩) rfl rfl ⟨.refl _, .refl _, trivial⟩ ⟨⟨_, rfl, .refl _⟩, ⟨_, rfl, .refl _⟩, trivial⟩) ?_
   refine AWp.ret ?_
   exact bR _ rfl ⟨rfl, rfl⟩ rfl
  ·
   intro j hkj
   replace h := ite_f (by omega) h
   cases j with
   | zero =>
    replace h := ite_t (by omega) h
    refine ⟨_, rfl, ?_⟩
    have hret := oJ h
    subst hret
    refine AWp.le (Le.mk (s' := ⟨33, [(2, .ptr 2 0), (3, .ptr 3 0)], [(2, .cells 31 [q2aW []]), (3, .cells 37 [.i r12.2.2.1])], [], 0⟩) rfl rfl ⟨.refl _, .refl _, trivial⟩ ⟨⟨_, rfl, (.cellsL ⟨.nilL, trivial⟩)⟩, ⟨_, rfl, .refl _⟩, trivial⟩) ?_
    refine AWp.ret ?_
    refine kR ?_
    refine tR ?_
    exact bR _ rfl ⟨rfl, rfl⟩ rfl
   | succ j =>
   replace h := ite_f (by omega) h
   exact nomatch (show (none : Option (List (TB) × Int)) = some r from h)
def f53_L2 (x4 : List (BitVec 16)) (x5 : List (BitVec 16)) (x7 : BitVec 16) (x8 : List (BitVec 16)) (n9 : Nat) (n10 : Nat) (K3 : Unit → Option Tq4) : Nat → Nat → Option Tq4
 | 0, _ => none
 | k + 1, n11 =>
  if (decide ((n11 : Int) < (((x8).length : Nat) : Int))) then (
  chk ((n11 : Int) < (((x8).length : Nat) : Int)) <|
  if ((((x4.getD n9 0#16) &&& (x5.getD n10 0#16)) &&& ~~~((x8.getD n11 0#16) ||| x7)) == (BitVec.ofInt 16 0)) then (
  some ((1 : Int), (x4.getD n9 0#16), (x5.getD n10 0#16), (x8.getD n11 0#16), true)
  ) else (
  chk (((n11 : Int) + (1 : Int)) ≤ 9223372036854775807) <|
  (f53_L2 x4 x5 x7 x8 n9 n10 K3 k) (n11 + 1)
  )
  ) else (
  K3 ()
  )
def f53_L1 (x4 : List (BitVec 16)) (x5 : List (BitVec 16)) (x7 : BitVec 16) (x8 : List (BitVec 16)) (n9 : Nat) (K2 : Unit → Option Tq4) : Nat → Nat → Option Tq4
 | 0, _ => none
 | k + 1, n10 =>
  if (decide ((n10 : Int) < (((x5).length : Nat) : Int))) then (
  jn (fun (_ : Unit) =>
  chk (((n10 : Int) + (1 : Int)) ≤ 9223372036854775807) <|
  (f53_L1 x4 x5 x7 x8 n9 K2 k) (n10 + 1)
  ) fun (K3 : Unit → Option Tq4) =>
  chk ((n10 : Int) < (((x5).length : Nat) : Int)) <|
  f53_L2 x4 x5 x7 x8 n9 n10 K3 FUEL 0
  ) else (
  K2 ()
  )
def f53_L0 (x4 : List (BitVec 16)) (x5 : List (BitVec 16)) (x7 : BitVec 16) (x8 : List (BitVec 16)) (K1 : Unit → Option Tq4) : Nat → Nat → Option Tq4
 | 0, _ => none
 | k + 1, n9 =>
  if (decide ((n9 : Int) < (((x4).length : Nat) : Int))) then (
  jn (fun (_ : Unit) =>
  chk (((n9 : Int) + (1 : Int)) ≤ 9223372036854775807) <|
  (f53_L0 x4 x5 x7 x8 K1 k) (n9 + 1)
  ) fun (K2 : Unit → Option Tq4) =>
  chk ((n9 : Int) < (((x4).length : Nat) : Int)) <|
  f53_L1 x4 x5 x7 x8 n9 K2 FUEL 0
  ) else (
  K1 ()
  )
def f53_L5 (x5 : List (BitVec 16)) (x8 : List (BitVec 16)) (n12 : Nat) (n13 : Nat) (K6 : Unit → Option Tq4) : Nat → Nat → Option Tq4
 | 0, _ => none
 | k + 1, n14 =>
  if (decide ((n14 : Int) < (((x8).length : Nat) : Int))) then (
  chk ((n14 : Int) < (((x8).length : Nat) : Int)) <|
  if ((!((x8.getD n14 0#16) == (BitVec.ofInt 16 0))) && ((((x5.getD n12 0#16) &&& (x5.getD n13 0#16)) &&& ~~~(x8.getD n14 0#16)) == (BitVec.ofInt 16 0))) then (
  some ((2 : Int), (x5.getD n12 0#16), (x5.getD n13 0#16), (x8.getD n14 0#16), true)
  ) else (
  chk (((n14 : Int) + (1 : Int)) ≤ 9223372036854775807) <|
  (f53_L5 x5 x8 n12 n13 K6 k) (n14 + 1)
  )
  ) else (
  K6 ()
  )
def f53_L4 (x5 : List (BitVec 16)) (x8 : List (BitVec 16)) (n12 : Nat) (K5 : Unit → Option Tq4) : Nat → Nat → Option Tq4
 | 0, _ => none
 | k + 1, n13 =>
  if (decide ((n13 : Int) < (((x5).length : Nat) : Int))) then (
  jn (fun (_ : Unit) =>
  chk (((n13 : Int) + (1 : Int)) ≤ 9223372036854775807) <|
  (f53_L4 x5 x8 n12 K5 k) (n13 + 1)
  ) fun (K6 : Unit → Option Tq4) =>
  chk ((n13 : Int) < (((x5).length : Nat) : Int)) <|
  f53_L5 x5 x8 n12 n13 K6 FUEL 0
  ) else (
  K5 ()
  )
def f53_L3 (x5 : List (BitVec 16)) (x8 : List (BitVec 16)) (K4 : Unit → Option Tq4) : Nat → Nat → Option Tq4
 | 0, _ => none
 | k + 1, n12 =>
  if (decide ((n12 : Int) < (((x5).length : Nat) : Int))) then (
  jn (fun (_ : Unit) =>
  chk (((n12 : Int) + (1 : Int)) ≤ 9223372036854775807) <|
  (f53_L3 x5 x8 K4 k) (n12 + 1)
  ) fun (K5 : Unit → Option Tq4) =>
  chk ((n12 : Int) < (((x5).length : Nat) : Int)) <|
  f53_L4 x5 x8 n12 K5 FUEL 0
  ) else (
  K4 ()
  )
abbrev f53z0 (x1 : List UInt8) (x2 : Int) (x3 : TB) (x4 : List (TB)) (x5 : List (TB)) (x6 : List Tq0) : Heap := [(3, .cells 33 [.str x1, .int .i64 x2, .b16 x3, vL 1 eW 0#16 x4, vL 1 eW 0#16 x5, vL 2 eWW (default : Tq0) x6]), (6, .cells 62 [.int .i64 (0 : Int), .b16 (BitVec.ofInt 16 0), .b16 (BitVec.ofInt 16 0), .b16 (BitVec.ofInt 16 0)])]
abbrev f53z1 : Heap := [(6, .cells 62 [.int .i64 (0 : Int), .b16 (BitVec.ofInt 16 0), .b16 (BitVec.ofInt 16 0), .b16 (BitVec.ofInt 16 0)])]
abbrev f53z2 (x8 : List (TB)) (x5 : List (TB)) (n12 : Nat) (n13 : Nat) : List (Nat × V) := [(2, vL 1 eW 0#16 x8), (3, .ptr 3 0), (6, .ptr 6 0), (15, .b16 (x5.getD n12 0#16)), (60, vL 1 eW 0#16 x5), (61, .int .i64 (((x5).length : Nat) : Int)), (62, .int .i64 (n12 : Int)), (67, vL 1 eW 0#16 x5), (68, .int .i64 (((x5).length : Nat) : Int)), (69, .int .i64 (n13 : Int))]
abbrev f53z3 (x7 : TB) (x8 : List (TB)) (x4 : List (TB)) (n9 : Nat) (x5 : List (TB)) (n10 : Nat) : List (Nat × V) := [(1, .b16 x7), (2, vL 1 eW 0#16 x8), (3, .ptr 3 0), (6, .ptr 6 0), (9, .b16 (x4.getD n9 0#16)), (21, vL 1 eW 0#16 x4), (22, .int .i64 (((x4).length : Nat) : Int)), (23, .int .i64 (n9 : Int)), (28, vL 1 eW 0#16 x5), (29, .int .i64 (((x5).length : Nat) : Int)), (30, .int .i64 (n10 : Int))]
abbrev f53z4 (x8 : List (TB)) (n14 : Nat) := ((!((x8.getD n14 0#16) == (BitVec.ofInt 16 0))) == true)
abbrev f53z5 (x7 : TB) (x8 : List (TB)) (x4 : List (TB)) (n9 : Nat) : List (Nat × V) := [(1, .b16 x7), (2, vL 1 eW 0#16 x8), (3, .ptr 3 0), (6, .ptr 6 0), (21, vL 1 eW 0#16 x4), (22, .int .i64 (((x4).length : Nat) : Int)), (23, .int .i64 (n9 : Int))]
abbrev f53z6 (x8 : List (TB)) (x5 : List (TB)) (n12 : Nat) : List (Nat × V) := [(2, vL 1 eW 0#16 x8), (3, .ptr 3 0), (6, .ptr 6 0), (60, vL 1 eW 0#16 x5), (61, .int .i64 (((x5).length : Nat) : Int)), (62, .int .i64 (n12 : Int))]
abbrev f53z7 : List (Nat × V) := [(6, .ptr 6 0), (7, .bool false)]
def f53 (x1 : List UInt8) (x2 : Int) (x3 : BitVec 16) (x4 : List (BitVec 16)) (x5 : List (BitVec 16)) (x6 : List Tq0) (x7 : BitVec 16) (x8 : List (BitVec 16)) : Option Tq4 :=
 jn (fun (_ : Unit) =>
 if (x2 != (2 : Int)) then (
 some ((0 : Int), (BitVec.ofInt 16 0), (BitVec.ofInt 16 0), (BitVec.ofInt 16 0), false)
 ) else (
 jn (fun (_ : Unit) =>
 some ((0 : Int), (BitVec.ofInt 16 0), (BitVec.ofInt 16 0), (BitVec.ofInt 16 0), false)
 ) fun (K4 : Unit → Option Tq4) =>
 f53_L3 x5 x8 K4 FUEL 0
 )
 ) fun (K1 : Unit → Option Tq4) =>
 f53_L0 x4 x5 x7 x8 K1 FUEL 0
theorem f53_ok  (x1 : List UInt8) (x2 : Int) (x3 : TB) (x4 : List (TB)) (x5 : List (TB)) (x6 : List Tq0) (x7 : TB) (x8 : List (TB)) (r : Tq4) (h : f53 x1 x2 x3 x4 x5 x6 x7 x8 = some r)  : Spec1 Tryz.prog 53 [] [] [] [.agg [.str x1, .int .i64 x2, .b16 x3, vL 1 eW 0#16 x4, vL 1 eW 0#16 x5, vL 2 eWW (default : Tq0) x6], .b16 x7, vL 1 eW 0#16 x8] (.tup [.agg [.int .i64 r.1, .b16 r.2.1, .b16 r.2.2.1, .b16 r.2.2.2.1], .bool r.2.2.2.2]) [] := by
 unfold f53 at h
 refine Spec1.bodyD [6] 0 _ _ Tryz.func53 rfl Tryz.ntmps53 rfl rfl ?_
 refine q2rq [] [] ⟨97, [(1, .b16 x7), (2, q2aW x8), (3, .ptr 3 0), (6, .ptr 6 0)], (f53z0 x1 x2 x3 x4 x5 x6), [], 0⟩ trivial ?_
 obtain ⟨K1, hK1, h⟩ := jn_some h
 refine AWp.join (α := Unit) (fun (x : Unit) => match x with | () => ⟨97, [(2, q2aW x8), (3, .ptr 3 0), (6, .ptr 6 0)], (f53z0 x1 x2 x3 x4 x5 x6), [], 0⟩) (fun x => K1 x = some r) ?_ ?_
 ·
  refine q2rq [] [] ⟨97, [(1, .b16 x7), (2, q2aW x8), (3, .ptr 3 0), (6, .ptr 6 0), (21, q2aW x4), (22, .i (lZ x4)), (23, .i (0 : Int))], (f53z0 x1 x2 x3 x4 x5 x6), [], 0⟩ trivial ?_
  refine AWp.block ?_
  refine AWp.loopL (α := Nat × Nat) (fun x => match x with | (_, n9) => ⟨97, (f53z5 x7 x8 x4 n9), (f53z0 x1 x2 x3 x4 x5 x6), [], 0⟩) (fun x => f53_L0 x4 x5 x7 x8 K1 x.1 x.2 = some r) (fun x => x.1) (FUEL, 0) (Le.mk (s' := ⟨97, [(1, .b16 x7), (2, q2aW x8), (3, .ptr 3 0), (6, .ptr 6 0), (21, q2aW x4), (22, .i (lZ x4)), (23, .i (0 : Int))], (f53z0 x1 x2 x3 x4 x5 x6), [], 0⟩) rfl rfl ⟨.refl _, .refl _, .refl _, .refl _, .refl _, .refl _, .refl _, trivial⟩ ⟨⟨_, rfl, .refl _⟩, ⟨_, rfl, .refl _⟩, trivial⟩) h ?_
  rintro ⟨k0, n9⟩ h
  cases k0 with
  | zero => exact nomatch (show (none : Option Tq4) = some r from h)
  | succ k0 =>
  obtain ⟨C0, hC0⟩ : ∃ C, C = f53_L0 x4 x5 x7 x8 K1 k0 := ⟨_, rfl⟩
  replace h := (f53_L0.eq_2 ..).symm.trans h
  try rw [← hC0] at h
  refine q2rq [] [] ⟨97, [(1, .b16 x7), (2, q2aW x8), (3, .ptr 3 0), (6, .ptr 6 0), (21, q2aW x4), (22, .i (lZ x4)), (23, .i (n9 : Int)), (24, .bool (decide ((n9 : Int) < (lZ x4))))], (f53z0 x1 x2 x3 x4 x5 x6), [], 0⟩ trivial ?_
  refine AWp.seq ?_
  refine AWp.cond (b := (decide ((n9 : Int) < (lZ x4)))) (by kernel_rfl) (fun hc1 => ?_) (fun hc1 => ?_)
  ·
   replace h := ite_tb hc1 h
   refine AWp.skip ?_
   refine tN ?_
   obtain ⟨K2, hK2, h⟩ := jn_some h
   refine AWp.join (α := Unit) (fun (x : Unit) => match x with | () => ⟨97, (f53z5 x7 x8 x4 n9), (f53z0 x1 x2 x3 x4 x5 x6), [], 0⟩) (fun x => K2 x = some r) ?_ ?_
   ·
    refine AWp.block ?_
    refine AWp.seq ?_
    obtain ⟨ob0p, h⟩ := chk_some h
    have ob0 : 0 ≤ (n9 : Int) ∧ (n9 : Int) < (((x4).length : Nat) : Int) := ⟨by omega, ob0p⟩
    refine q2rr [] [] ⟨97, [(1, .b16 x7), (2, q2aW x8), (3, .ptr 3 0), (6, .ptr 6 0), (9, .b16 (x4.getD n9 0#16)), (21, q2aW x4), (22, .i (lZ x4)), (23, .i (n9 : Int))], (f53z0 x1 x2 x3 x4 x5 x6), [], 0⟩ (an1 ob0) ?_
    refine tN ?_
    refine q2rq [] [] ⟨97, [(1, .b16 x7), (2, q2aW x8), (3, .ptr 3 0), (6, .ptr 6 0), (9, .b16 (x4.getD n9 0#16)), (21, q2aW x4), (22, .i (lZ x4)), (23, .i (n9 : Int)), (28, q2aW x5), (29, .i (lZ x5)), (30, .i (0 : Int))], (f53z0 x1 x2 x3 x4 x5 x6), [], 0⟩ trivial ?_
    refine AWp.block ?_
    refine AWp.loopL (α := Nat × Nat) (fun x => match x with | (_, n10) => ⟨97, (f53z3 x7 x8 x4 n9 x5 n10), (f53z0 x1 x2 x3 x4 x5 x6), [], 0⟩) (fun x => f53_L1 x4 x5 x7 x8 n9 K2 x.1 x.2 = some r) (fun x => x.1) (FUEL, 0) (Le.mk (s' := ⟨97, [(1, .b16 x7), (2, q2aW x8), (3, .ptr 3 0), (6, .ptr 6 0), (9, .b16 (x4.getD n9 0#16)), (21, q2aW x4), (22, .i (lZ x4)), (23, .i (n9 : Int)), (28, q2aW x5), (29, .i (lZ x5)), (30, .i (0 : Int))], (f53z0 x1 x2 x3 x4 x5 x6), [], 0⟩) rfl rfl ⟨.refl _, .refl _, .refl _, .refl _, .refl _, .refl _, .refl _, .refl _, .refl _, .refl _, .refl _, trivial⟩ ⟨⟨_, rfl, .refl _⟩, ⟨_, rfl, .refl _⟩, trivial⟩) h ?_
    rintro ⟨k1, n10⟩ h
    cases k1 with
    | zero => exact nomatch (show (none : Option Tq4) = some r from h)
    | succ k1 =>
    obtain ⟨C1, hC1⟩ : ∃ C, C = f53_L1 x4 x5 x7 x8 n9 K2 k1 := ⟨_, rfl⟩
    replace h := (f53_L1.eq_2 ..).symm.trans h
    try rw [← hC1] at h
    refine q2rq [] [] ⟨97, [(1, .b16 x7), (2, q2aW x8), (3, .ptr 3 0), (6, .ptr 6 0), (9, .b16 (x4.getD n9 0#16)), (21, q2aW x4), (22, .i (lZ x4)), (23, .i (n9 : Int)), (28, q2aW x5), (29, .i (lZ x5)), (30, .i (n10 : Int)), (31, .bool (decide ((n10 : Int) < (lZ x5))))], (f53z0 x1 x2 x3 x4 x5 x6), [], 0⟩ trivial ?_
    refine AWp.seq ?_
    refine AWp.cond (b := (decide ((n10 : Int) < (lZ x5)))) (by kernel_rfl) (fun hc2 => ?_) (fun hc2 => ?_)
    ·
     replace h := ite_tb hc2 h
     refine AWp.skip ?_
     refine tN ?_
     obtain ⟨K3, hK3, h⟩ := jn_some h
     refine AWp.join (α := Unit) (fun (x : Unit) => match x with | () => ⟨97, (f53z3 x7 x8 x4 n9 x5 n10), (f53z0 x1 x2 x3 x4 x5 x6), [], 0⟩) (fun x => K3 x = some r) ?_ ?_
     ·
      refine AWp.block ?_
      refine AWp.seq ?_
      obtain ⟨ob1p, h⟩ := chk_some h
      have ob1 : 0 ≤ (n10 : Int) ∧ (n10 : Int) < (((x5).length : Nat) : Int) := ⟨by omega, ob1p⟩
      refine q2rr [] [] ⟨97, [(1, .b16 x7), (2, q2aW x8), (3, .ptr 3 0), (6, .ptr 6 0), (9, .b16 (x4.getD n9 0#16)), (11, .b16 (x5.getD n10 0#16)), (21, q2aW x4), (22, .i (lZ x4)), (23, .i (n9 : Int)), (28, q2aW x5), (29, .i (lZ x5)), (30, .i (n10 : Int))], (f53z0 x1 x2 x3 x4 x5 x6), [], 0⟩ (an1 ob1) ?_
      refine tN ?_
      refine q2rq [] [] ⟨97, [(1, .b16 x7), (2, q2aW x8), (3, .ptr 3 0), (6, .ptr 6 0), (9, .b16 (x4.getD n9 0#16)), (11, .b16 (x5.getD n10 0#16)), (21, q2aW x4), (22, .i (lZ x4)), (23, .i (n9 : Int)), (28, q2aW x5), (29, .i (lZ x5)), (30, .i (n10 : Int)), (34, q2aW x8), (35, .i (lZ x8)), (36, .i (0 : Int))], (f53z0 x1 x2 x3 x4 x5 x6), [], 0⟩ trivial ?_
      refine AWp.block ?_
      refine AWp.loopL (α := Nat × Nat) (fun x => match x with | (_, n11) => ⟨97, [(1, .b16 x7), (2, q2aW x8), (3, .ptr 3 0), (6, .ptr 6 0), (9, .b16 (x4.getD n9 0#16)), (11, .b16 (x5.getD n10 0#16)), (21, q2aW x4), (22, .i (lZ x4)), (23, .i (n9 : Int)), (28, q2aW x5), (29, .i (lZ x5)), (30, .i (n10 : Int)), (34, q2aW x8), (35, .i (lZ x8)), (36, .i (n11 : Int))], (f53z0 x1 x2 x3 x4 x5 x6), [], 0⟩) (fun x => f53_L2 x4 x5 x7 x8 n9 n10 K3 x.1 x.2 = some r) (fun x => x.1) (FUEL, 0) (Le.mk (s' := ⟨97, [(1, .b16 x7), (2, q2aW x8), (3, .ptr 3 0), (6, .ptr 6 0), (9, .b16 (x4.getD n9 0#16)), (11, .b16 (x5.getD n10 0#16)), (21, q2aW x4), (22, .i (lZ x4)), (23, .i (n9 : Int)), (28, q2aW x5), (29, .i (lZ x5)), (30, .i (n10 : Int)), (34, q2aW x8), (35, .i (lZ x8)), (36, .i (0 : Int))], (f53z0 x1 x2 x3 x4 x5 x6), [], 0⟩) rfl rfl ⟨.refl _, .refl _, .refl _, .refl _, .refl _, .refl _, .refl _, .refl _, .refl _, .refl _, .refl _, .refl _, .refl _, .refl _, .refl _, trivial⟩ ⟨⟨_, rfl, .refl _⟩, ⟨_, rfl, .refl _⟩, trivial⟩) h ?_
      rintro ⟨k2, n11⟩ h
      cases k2 with
      | zero => exact nomatch (show (none : Option Tq4) = some r from h)
      | succ k2 =>
      obtain ⟨C2, hC2⟩ : ∃ C, C = f53_L2 x4 x5 x7 x8 n9 n10 K3 k2 := ⟨_, rfl⟩
      replace h := (f53_L2.eq_2 ..).symm.trans h
      try rw [← hC2] at h
      refine q2rq [] [] ⟨97, [(1, .b16 x7), (2, q2aW x8), (3, .ptr 3 0), (6, .ptr 6 0), (9, .b16 (x4.getD n9 0#16)), (11, .b16 (x5.getD n10 0#16)), (21, q2aW x4), (22, .i (lZ x4)), (23, .i (n9 : Int)), (28, q2aW x5), (29, .i (lZ x5)), (30, .i (n10 : Int)), (34, q2aW x8), (35, .i (lZ x8)), (36, .i (n11 : Int)), (37, .bool (decide ((n11 : Int) < (lZ x8))))], (f53z0 x1 x2 x3 x4 x5 x6), [], 0⟩ trivial ?_
      refine AWp.seq ?_
      refine AWp.cond (b := (decide ((n11 : Int) < (lZ x8)))) (by kernel_rfl) (fun hc3 => ?_) (fun hc3 => ?_)
      ·
       replace h := ite_tb hc3 h
       refine AWp.skip ?_
       refine tN ?_
       refine AWp.seq ?_
       refine AWp.block ?_
       refine AWp.seq ?_
       obtain ⟨ob2p, h⟩ := chk_some h
       have ob2 : 0 ≤ (n11 : Int) ∧ (n11 : Int) < (((x8).length : Nat) : Int) := ⟨by omega, ob2p⟩
       refine q2rr [] [] ⟨97, [(1, .b16 x7), (2, q2aW x8), (3, .ptr 3 0), (6, .ptr 6 0), (9, .b16 (x4.getD n9 0#16)), (11, .b16 (x5.getD n10 0#16)), (13, .b16 (x8.getD n11 0#16)), (21, q2aW x4), (22, .i (lZ x4)), (23, .i (n9 : Int)), (28, q2aW x5), (29, .i (lZ x5)), (30, .i (n10 : Int)), (34, q2aW x8), (35, .i (lZ x8)), (36, .i (n11 : Int))], (f53z0 x1 x2 x3 x4 x5 x6), [], 0⟩ (an1 ob2) ?_
       refine tN ?_
       refine q2rq [] [] ⟨97, [(1, .b16 x7), (2, q2aW x8), (3, .ptr 3 0), (6, .ptr 6 0), (9, .b16 (x4.getD n9 0#16)), (11, .b16 (x5.getD n10 0#16)), (13, .b16 (x8.getD n11 0#16)), (21, q2aW x4), (22, .i (lZ x4)), (23, .i (n9 : Int)), (28, q2aW x5), (29, .i (lZ x5)), (30, .i (n10 : Int)), (34, q2aW x8), (35, .i (lZ x8)), (36, .i (n11 : Int)), (47, .bool ((((x4.getD n9 0#16) &&& (x5.getD n10 0#16)) &&& ~~~((x8.getD n11 0#16) ||| x7)) == (q2w16 0)))], (f53z0 x1 x2 x3 x4 x5 x6), [], 0⟩ trivial ?_
       refine AWp.cond (b := ((((x4.getD n9 0#16) &&& (x5.getD n10 0#16)) &&& ~~~((x8.getD n11 0#16) ||| x7)) == (q2w16 0))) (by kernel_rfl) (fun hc4 => ?_) (fun hc4 => ?_)
       ·
        replace h := ite_tb hc4 h
        refine q2rq [] [] ⟨97, [(6, .ptr 6 0), (7, .bool true)], [(6, .cells 62 [.i (1 : Int), .b16 (x4.getD n9 0#16), .b16 (x5.getD n10 0#16), .b16 (x8.getD n11 0#16)])], [], 0⟩ (an1 trivial) ?_
        have hret := oJ h
        subst hret
        refine AWp.le (Le.mk (s' := ⟨97, [(6, .ptr 6 0), (7, .bool true)], [(6, .cells 62 [.i (1 : Int), .b16 (x4.getD n9 0#16), .b16 (x5.getD n10 0#16), .b16 (x8.getD n11 0#16)])], [], 0⟩) rfl rfl ⟨.refl _, .refl _, trivial⟩ ⟨⟨_, rfl, .refl _⟩, trivial⟩) ?_
        refine AWp.ret ?_
        refine kR ?_
        refine tR ?_
        refine tR ?_
        refine kR ?_
        refine kR ?_
        refine joinQ_ret ?_
        refine tR ?_
        refine kR ?_
        refine kR ?_
        refine joinQ_ret ?_
        refine tR ?_
        refine kR ?_
        refine joinQ_ret ?_
        exact bR _ rfl ⟨rfl, rfl⟩ rfl
       ·
        replace h := ite_fb hc4 h
        refine AWp.skip ?_
        refine kN ?_
        refine tN ?_
        obtain ⟨ob3p, h⟩ := chk_some h
        have ob3 : -9223372036854775808 ≤ ((n11 : Int) + (1 : Int)) ∧ ((n11 : Int) + (1 : Int)) ≤ 9223372036854775807 := ⟨by omega, ob3p⟩
        refine q2rr [] [] ⟨97, [(1, .b16 x7), (2, q2aW x8), (3, .ptr 3 0), (6, .ptr 6 0), (9, .b16 (x4.getD n9 0#16)), (11, .b16 (x5.getD n10 0#16)), (21, q2aW x4), (22, .i (lZ x4)), (23, .i (n9 : Int)), (28, q2aW x5), (29, .i (lZ x5)), (30, .i (n10 : Int)), (34, q2aW x8), (35, .i (lZ x8)), (36, .i (((n11 + 1) : Nat) : Int))], (f53z0 x1 x2 x3 x4 x5 x6), [], 0⟩ (an1 ob3) ?_
        rw [hC2] at h
        exact lN (_, (n11 + 1)) (Le.mk rfl rfl ⟨.refl _, .refl _, .refl _, .refl _, .refl _, .refl _, .refl _, .refl _, .refl _, .refl _, .refl _, .refl _, .refl _, .refl _, .refl _, trivial⟩ ⟨⟨_, rfl, .refl _⟩, ⟨_, rfl, .refl _⟩, trivial⟩) h (Nat.lt_succ_self _)
      ·
       replace h := ite_fb hc3 h
       refine AWp.exit ?_
       refine tE ?_
       refine tE ?_
       refine kS ?_
       refine kN ?_
       exact jN () (Le.mk rfl rfl ⟨.refl _, .refl _, .refl _, .refl _, .refl _, .refl _, .refl _, .refl _, .refl _, .refl _, .refl _, trivial⟩ ⟨⟨_, rfl, .refl _⟩, ⟨_, rfl, .refl _⟩, trivial⟩) h
     ·
      rintro ⟨⟩ h
      replace h := (congrFun hK3 _).symm.trans h
      obtain ⟨ob4p, h⟩ := chk_some h
      have ob4 : -9223372036854775808 ≤ ((n10 : Int) + (1 : Int)) ∧ ((n10 : Int) + (1 : Int)) ≤ 9223372036854775807 := ⟨by omega, ob4p⟩
      refine q2rr [] [] ⟨97, [(1, .b16 x7), (2, q2aW x8), (3, .ptr 3 0), (6, .ptr 6 0), (9, .b16 (x4.getD n9 0#16)), (21, q2aW x4), (22, .i (lZ x4)), (23, .i (n9 : Int)), (28, q2aW x5), (29, .i (lZ x5)), (30, .i (((n10 + 1) : Nat) : Int))], (f53z0 x1 x2 x3 x4 x5 x6), [], 0⟩ (an1 ob4) ?_
      rw [hC1] at h
      exact lN (_, (n10 + 1)) (Le.mk rfl rfl ⟨.refl _, .refl _, .refl _, .refl _, .refl _, .refl _, .refl _, .refl _, .refl _, .refl _, .refl _, trivial⟩ ⟨⟨_, rfl, .refl _⟩, ⟨_, rfl, .refl _⟩, trivial⟩) h (Nat.lt_succ_self _)
    ·
     replace h := ite_fb hc2 h
     refine AWp.exit ?_
     refine tE ?_
     refine tE ?_
     refine kS ?_
     refine kN ?_
     exact jN () (Le.mk rfl rfl ⟨.refl _, .refl _, .refl _, .refl _, .refl _, .refl _, .refl _, trivial⟩ ⟨⟨_, rfl, .refl _⟩, ⟨_, rfl, .refl _⟩, trivial⟩) h
   ·
    rintro ⟨⟩ h
    replace h := (congrFun hK2 _).symm.trans h
    obtain ⟨ob5p, h⟩ := chk_some h
    have ob5 : -9223372036854775808 ≤ ((n9 : Int) + (1 : Int)) ∧ ((n9 : Int) + (1 : Int)) ≤ 9223372036854775807 := ⟨by omega, ob5p⟩
    refine q2rr [] [] ⟨97, [(1, .b16 x7), (2, q2aW x8), (3, .ptr 3 0), (6, .ptr 6 0), (21, q2aW x4), (22, .i (lZ x4)), (23, .i (((n9 + 1) : Nat) : Int))], (f53z0 x1 x2 x3 x4 x5 x6), [], 0⟩ (an1 ob5) ?_
    rw [hC0] at h
    exact lN (_, (n9 + 1)) (Le.mk rfl rfl ⟨.refl _, .refl _, .refl _, .refl _, .refl _, .refl _, .refl _, trivial⟩ ⟨⟨_, rfl, .refl _⟩, ⟨_, rfl, .refl _⟩, trivial⟩) h (Nat.lt_succ_self _)
  ·
   replace h := ite_fb hc1 h
   refine AWp.exit ?_
   refine tE ?_
   refine tE ?_
   refine kS ?_
   exact jN () (Le.mk rfl rfl ⟨.refl _, .refl _, .refl _, trivial⟩ ⟨⟨_, rfl, .refl _⟩, ⟨_, rfl, .refl _⟩, trivial⟩) h
 ·
  rintro ⟨⟩ h
  replace h := (congrFun hK1 _).symm.trans h
  refine AWp.seq ?_
  refine q2rq [] [] ⟨97, [(2, q2aW x8), (3, .ptr 3 0), (6, .ptr 6 0), (57, .bool (x2 != (2 : Int)))], (f53z0 x1 x2 x3 x4 x5 x6), [], 0⟩ trivial ?_
  refine AWp.cond (b := (x2 != (2 : Int))) (by kernel_rfl) (fun hc5 => ?_) (fun hc5 => ?_)
  ·
   replace h := ite_tb hc5 h
   refine q2rq [] [] ⟨97, (f53z7), (f53z1), [], 0⟩ (an1 trivial) ?_
   have hret := oJ h
   subst hret
   refine AWp.le (Le.mk (s' := ⟨97, (f53z7), (f53z1), [], 0⟩) rfl rfl ⟨.refl _, .refl _, trivial⟩ ⟨⟨_, rfl, .refl _⟩, trivial⟩) ?_
   refine AWp.ret ?_
   refine tR ?_
   exact bR _ rfl ⟨rfl, rfl⟩ rfl
  ·
   replace h := ite_fb hc5 h
   refine AWp.skip ?_
   refine tN ?_
   obtain ⟨K4, hK4, h⟩ := jn_some h
   refine AWp.join (α := Unit) (fun (x : Unit) => match x with | () => ⟨97, [(6, .ptr 6 0)], (f53z1), [], 0⟩) (fun x => K4 x = some r) ?_ ?_
   ·
    refine q2rq [] [] ⟨97, [(2, q2aW x8), (3, .ptr 3 0), (6, .ptr 6 0), (60, q2aW x5), (61, .i (lZ x5)), (62, .i (0 : Int))], (f53z0 x1 x2 x3 x4 x5 x6), [], 0⟩ trivial ?_
    refine AWp.block ?_
    refine AWp.loopL (α := Nat × Nat) (fun x => match x with | (_, n12) => ⟨97, (f53z6 x8 x5 n12), (f53z0 x1 x2 x3 x4 x5 x6), [], 0⟩) (fun x => f53_L3 x5 x8 K4 x.1 x.2 = some r) (fun x => x.1) (FUEL, 0) (Le.mk (s' := ⟨97, [(2, q2aW x8), (3, .ptr 3 0), (6, .ptr 6 0), (60, q2aW x5), (61, .i (lZ x5)), (62, .i (0 : Int))], (f53z0 x1 x2 x3 x4 x5 x6), [], 0⟩) rfl rfl ⟨.refl _, .refl _, .refl _, .refl _, .refl _, .refl _, trivial⟩ ⟨⟨_, rfl, .refl _⟩, ⟨_, rfl, .refl _⟩, trivial⟩) h ?_
    rintro ⟨k3, n12⟩ h
    cases k3 with
    | zero => exact nomatch (show (none : Option Tq4) = some r from h)
    | succ k3 =>
    obtain ⟨C3, hC3⟩ : ∃ C, C = f53_L3 x5 x8 K4 k3 := ⟨_, rfl⟩
    replace h := (f53_L3.eq_2 ..).symm.trans h
    try rw [← hC3] at h
    refine q2rq [] [] ⟨97, [(2, q2aW x8), (3, .ptr 3 0), (6, .ptr 6 0), (60, q2aW x5), (61, .i (lZ x5)), (62, .i (n12 : Int)), (63, .bool (decide ((n12 : Int) < (lZ x5))))], (f53z0 x1 x2 x3 x4 x5 x6), [], 0⟩ trivial ?_
    refine AWp.seq ?_
    refine AWp.cond (b := (decide ((n12 : Int) < (lZ x5)))) (by kernel_rfl) (fun hc6 => ?_) (fun hc6 => ?_)
    ·
     replace h := ite_tb hc6 h
     refine AWp.skip ?_
     refine tN ?_
     obtain ⟨K5, hK5, h⟩ := jn_some h
     refine AWp.join (α := Unit) (fun (x : Unit) => match x with | () => ⟨97, (f53z6 x8 x5 n12), (f53z0 x1 x2 x3 x4 x5 x6), [], 0⟩) (fun x => K5 x = some r) ?_ ?_
     ·
      refine AWp.block ?_
      refine AWp.seq ?_
      obtain ⟨ob6p, h⟩ := chk_some h
      have ob6 : 0 ≤ (n12 : Int) ∧ (n12 : Int) < (((x5).length : Nat) : Int) := ⟨by omega, ob6p⟩
      refine q2rr [] [] ⟨97, [(2, q2aW x8), (3, .ptr 3 0), (6, .ptr 6 0), (15, .b16 (x5.getD n12 0#16)), (60, q2aW x5), (61, .i (lZ x5)), (62, .i (n12 : Int))], (f53z0 x1 x2 x3 x4 x5 x6), [], 0⟩ (an1 ob6) ?_
      refine tN ?_
      refine q2rq [] [] ⟨97, [(2, q2aW x8), (3, .ptr 3 0), (6, .ptr 6 0), (15, .b16 (x5.getD n12 0#16)), (60, q2aW x5), (61, .i (lZ x5)), (62, .i (n12 : Int)), (67, q2aW x5), (68, .i (lZ x5)), (69, .i (0 : Int))], (f53z0 x1 x2 x3 x4 x5 x6), [], 0⟩ trivial ?_
      refine AWp.block ?_
      refine AWp.loopL (α := Nat × Nat) (fun x => match x with | (_, n13) => ⟨97, (f53z2 x8 x5 n12 n13), (f53z0 x1 x2 x3 x4 x5 x6), [], 0⟩) (fun x => f53_L4 x5 x8 n12 K5 x.1 x.2 = some r) (fun x => x.1) (FUEL, 0) (Le.mk (s' := ⟨97, [(2, q2aW x8), (3, .ptr 3 0), (6, .ptr 6 0), (15, .b16 (x5.getD n12 0#16)), (60, q2aW x5), (61, .i (lZ x5)), (62, .i (n12 : Int)), (67, q2aW x5), (68, .i (lZ x5)), (69, .i (0 : Int))], (f53z0 x1 x2 x3 x4 x5 x6), [], 0⟩) rfl rfl ⟨.refl _, .refl _, .refl _, .refl _, .refl _, .refl _, .refl _, .refl _, .refl _, .refl _, trivial⟩ ⟨⟨_, rfl, .refl _⟩, ⟨_, rfl, .refl _⟩, trivial⟩) h ?_
      rintro ⟨k4, n13⟩ h
      cases k4 with
      | zero => exact nomatch (show (none : Option Tq4) = some r from h)
      | succ k4 =>
      obtain ⟨C4, hC4⟩ : ∃ C, C = f53_L4 x5 x8 n12 K5 k4 := ⟨_, rfl⟩
      replace h := (f53_L4.eq_2 ..).symm.trans h
      try rw [← hC4] at h
      refine q2rq [] [] ⟨97, [(2, q2aW x8), (3, .ptr 3 0), (6, .ptr 6 0), (15, .b16 (x5.getD n12 0#16)), (60, q2aW x5), (61, .i (lZ x5)), (62, .i (n12 : Int)), (67, q2aW x5), (68, .i (lZ x5)), (69, .i (n13 : Int)), (70, .bool (decide ((n13 : Int) < (lZ x5))))], (f53z0 x1 x2 x3 x4 x5 x6), [], 0⟩ trivial ?_
      refine AWp.seq ?_
      refine AWp.cond (b := (decide ((n13 : Int) < (lZ x5)))) (by kernel_rfl) (fun hc7 => ?_) (fun hc7 => ?_)
      ·
       replace h := ite_tb hc7 h
       refine AWp.skip ?_
       refine tN ?_
       obtain ⟨K6, hK6, h⟩ := jn_some h
       refine AWp.join (α := Unit) (fun (x : Unit) => match x with | () => ⟨97, (f53z2 x8 x5 n12 n13), (f53z0 x1 x2 x3 x4 x5 x6), [], 0⟩) (fun x => K6 x = some r) ?_ ?_
       ·
        refine AWp.block ?_
        refine AWp.seq ?_
        obtain ⟨ob7p, h⟩ := chk_some h
        have ob7 : 0 ≤ (n13 : Int) ∧ (n13 : Int) < (((x5).length : Nat) : Int) := ⟨by omega, ob7p⟩
        refine q2rr [] [] ⟨97, [(2, q2aW x8), (3, .ptr 3 0), (6, .ptr 6 0), (15, .b16 (x5.getD n12 0#16)), (17, .b16 (x5.getD n13 0#16)), (60, q2aW x5), (61, .i (lZ x5)), (62, .i (n12 : Int)), (67, q2aW x5), (68, .i (lZ x5)), (69, .i (n13 : Int))], (f53z0 x1 x2 x3 x4 x5 x6), [], 0⟩ (an1 ob7) ?_
        refine tN ?_
        refine q2rq [] [] ⟨97, [(2, q2aW x8), (3, .ptr 3 0), (6, .ptr 6 0), (15, .b16 (x5.getD n12 0#16)), (17, .b16 (x5.getD n13 0#16)), (60, q2aW x5), (61, .i (lZ x5)), (62, .i (n12 : Int)), (67, q2aW x5), (68, .i (lZ x5)), (69, .i (n13 : Int)), (73, q2aW x8), (74, .i (lZ x8)), (75, .i (0 : Int))], (f53z0 x1 x2 x3 x4 x5 x6), [], 0⟩ trivial ?_
        refine AWp.block ?_
        refine AWp.loopL (α := Nat × Nat) (fun x => match x with | (_, n14) => ⟨97, [(2, q2aW x8), (3, .ptr 3 0), (6, .ptr 6 0), (15, .b16 (x5.getD n12 0#16)), (17, .b16 (x5.getD n13 0#16)), (60, q2aW x5), (61, .i (lZ x5)), (62, .i (n12 : Int)), (67, q2aW x5), (68, .i (lZ x5)), (69, .i (n13 : Int)), (73, q2aW x8), (74, .i (lZ x8)), (75, .i (n14 : Int))], (f53z0 x1 x2 x3 x4 x5 x6), [], 0⟩) (fun x => f53_L5 x5 x8 n12 n13 K6 x.1 x.2 = some r) (fun x => x.1) (FUEL, 0) (Le.mk (s' := ⟨97, [(2, q2aW x8), (3, .ptr 3 0), (6, .ptr 6 0), (15, .b16 (x5.getD n12 0#16)), (17, .b16 (x5.getD n13 0#16)), (60, q2aW x5), (61, .i (lZ x5)), (62, .i (n12 : Int)), (67, q2aW x5), (68, .i (lZ x5)), (69, .i (n13 : Int)), (73, q2aW x8), (74, .i (lZ x8)), (75, .i (0 : Int))], (f53z0 x1 x2 x3 x4 x5 x6), [], 0⟩) rfl rfl ⟨.refl _, .refl _, .refl _, .refl _, .refl _, .refl _, .refl _, .refl _, .refl _, .refl _, .refl _, .refl _, .refl _, .refl _, trivial⟩ ⟨⟨_, rfl, .refl _⟩, ⟨_, rfl, .refl _⟩, trivial⟩) h ?_
        rintro ⟨k5, n14⟩ h
        cases k5 with
        | zero => exact nomatch (show (none : Option Tq4) = some r from h)
        | succ k5 =>
        obtain ⟨C5, hC5⟩ : ∃ C, C = f53_L5 x5 x8 n12 n13 K6 k5 := ⟨_, rfl⟩
        replace h := (f53_L5.eq_2 ..).symm.trans h
        try rw [← hC5] at h
        refine q2rq [] [] ⟨97, [(2, q2aW x8), (3, .ptr 3 0), (6, .ptr 6 0), (15, .b16 (x5.getD n12 0#16)), (17, .b16 (x5.getD n13 0#16)), (60, q2aW x5), (61, .i (lZ x5)), (62, .i (n12 : Int)), (67, q2aW x5), (68, .i (lZ x5)), (69, .i (n13 : Int)), (73, q2aW x8), (74, .i (lZ x8)), (75, .i (n14 : Int)), (76, .bool (decide ((n14 : Int) < (lZ x8))))], (f53z0 x1 x2 x3 x4 x5 x6), [], 0⟩ trivial ?_
        refine AWp.seq ?_
        refine AWp.cond (b := (decide ((n14 : Int) < (lZ x8)))) (by kernel_rfl) (fun hc8 => ?_) (fun hc8 => ?_)
        ·
         replace h := ite_tb hc8 h
         refine AWp.skip ?_
         refine tN ?_
         refine AWp.seq ?_
         refine AWp.block ?_
         refine AWp.seq ?_
         obtain ⟨ob8p, h⟩ := chk_some h
         have ob8 : 0 ≤ (n14 : Int) ∧ (n14 : Int) < (((x8).length : Nat) : Int) := ⟨by omega, ob8p⟩
         refine q2rr [] [] ⟨97, [(2, q2aW x8), (3, .ptr 3 0), (6, .ptr 6 0), (15, .b16 (x5.getD n12 0#16)), (17, .b16 (x5.getD n13 0#16)), (19, .b16 (x8.getD n14 0#16)), (60, q2aW x5), (61, .i (lZ x5)), (62, .i (n12 : Int)), (67, q2aW x5), (68, .i (lZ x5)), (69, .i (n13 : Int)), (73, q2aW x8), (74, .i (lZ x8)), (75, .i (n14 : Int))], (f53z0 x1 x2 x3 x4 x5 x6), [], 0⟩ (an1 ob8) ?_
         refine tN ?_
         refine AWp.seq ?_
         have ob9 := idA ((f53z4 x8 n14) = true)
         have ob10 := idA ((f53z4 x8 n14) = true)
         have ob11 := idA ((f53z4 x8 n14) = true)
         have ob12 := idA ((f53z4 x8 n14) = true)
         have ob13 := idA ((f53z4 x8 n14) = true)
         have ob14 : true = true → (!((x8.getD n14 0#16) == (q2w16 0))) = true → (f53z4 x8 n14) = true := fun _ h => beq_iff_eq.2 h
         refine q2rr [] [] ⟨97, [(2, q2aW x8), (3, .ptr 3 0), (6, .ptr 6 0), (15, .b16 (x5.getD n12 0#16)), (17, .b16 (x5.getD n13 0#16)), (19, .b16 (x8.getD n14 0#16)), (60, q2aW x5), (61, .i (lZ x5)), (62, .i (n12 : Int)), (67, q2aW x5), (68, .i (lZ x5)), (69, .i (n13 : Int)), (73, q2aW x8), (74, .i (lZ x8)), (75, .i (n14 : Int)), (88, .bool ((!((x8.getD n14 0#16) == (q2w16 0))) && ((((x5.getD n12 0#16) &&& (x5.getD n13 0#16)) &&& ~~~(x8.getD n14 0#16)) == (q2w16 0))))], (f53z0 x1 x2 x3 x4 x5 x6), [], 0⟩ (an4 (an2 ob9 ob10) (an2 ob11 ob12) (an1 ob13) ob14) ?_
         refine tN ?_
         refine AWp.cond (b := ((!((x8.getD n14 0#16) == (q2w16 0))) && ((((x5.getD n12 0#16) &&& (x5.getD n13 0#16)) &&& ~~~(x8.getD n14 0#16)) == (q2w16 0)))) (by kernel_rfl) (fun hc9 => ?_) (fun hc9 => ?_)
         ·
          replace h := ite_tb hc9 h
          refine q2rq [] [] ⟨97, [(6, .ptr 6 0), (7, .bool true)], [(6, .cells 62 [.i (2 : Int), .b16 (x5.getD n12 0#16), .b16 (x5.getD n13 0#16), .b16 (x8.getD n14 0#16)])], [], 0⟩ (an1 trivial) ?_
          have hret := oJ h
          subst hret
          refine AWp.le (Le.mk (s' := ⟨97, [(6, .ptr 6 0), (7, .bool true)], [(6, .cells 62 [.i (2 : Int), .b16 (x5.getD n12 0#16), .b16 (x5.getD n13 0#16), .b16 (x8.getD n14 0#16)])], [], 0⟩) rfl rfl ⟨.refl _, .refl _, trivial⟩ ⟨⟨_, rfl, .refl _⟩, trivial⟩) ?_
          refine AWp.ret ?_
          refine kR ?_
          refine tR ?_
          refine tR ?_
          refine kR ?_
          refine kR ?_
          refine joinQ_ret ?_
          refine tR ?_
          refine kR ?_
          refine kR ?_
          refine joinQ_ret ?_
          refine tR ?_
          refine kR ?_
          refine joinQ_ret ?_
          exact bR _ rfl ⟨rfl, rfl⟩ rfl
         ·
          replace h := ite_fb hc9 h
          refine AWp.skip ?_
          refine kN ?_
          refine tN ?_
          obtain ⟨ob15p, h⟩ := chk_some h
          have ob15 : -9223372036854775808 ≤ ((n14 : Int) + (1 : Int)) ∧ ((n14 : Int) + (1 : Int)) ≤ 9223372036854775807 := ⟨by omega, ob15p⟩
          refine q2rr [] [] ⟨97, [(2, q2aW x8), (3, .ptr 3 0), (6, .ptr 6 0), (15, .b16 (x5.getD n12 0#16)), (17, .b16 (x5.getD n13 0#16)), (60, q2aW x5), (61, .i (lZ x5)), (62, .i (n12 : Int)), (67, q2aW x5), (68, .i (lZ x5)), (69, .i (n13 : Int)), (73, q2aW x8), (74, .i (lZ x8)), (75, .i (((n14 + 1) : Nat) : Int))], (f53z0 x1 x2 x3 x4 x5 x6), [], 0⟩ (an1 ob15) ?_
          rw [hC5] at h
          exact lN (_, (n14 + 1)) (Le.mk rfl rfl ⟨.refl _, .refl _, .refl _, .refl _, .refl _, .refl _, .refl _, .refl _, .refl _, .refl _, .refl _, .refl _, .refl _, .refl _, trivial⟩ ⟨⟨_, rfl, .refl _⟩, ⟨_, rfl, .refl _⟩, trivial⟩) h (Nat.lt_succ_self _)
        ·
         replace h := ite_fb hc8 h
         refine AWp.exit ?_
         refine tE ?_
         refine tE ?_
         refine kS ?_
         refine kN ?_
         exact jN () (Le.mk rfl rfl ⟨.refl _, .refl _, .refl _, .refl _, .refl _, .refl _, .refl _, .refl _, .refl _, .refl _, trivial⟩ ⟨⟨_, rfl, .refl _⟩, ⟨_, rfl, .refl _⟩, trivial⟩) h
       ·
        rintro ⟨⟩ h
        replace h := (congrFun hK6 _).symm.trans h
        obtain ⟨ob16p, h⟩ := chk_some h
        have ob16 : -9223372036854775808 ≤ ((n13 : Int) + (1 : Int)) ∧ ((n13 : Int) + (1 : Int)) ≤ 9223372036854775807 := ⟨by omega, ob16p⟩
        refine q2rr [] [] ⟨97, [(2, q2aW x8), (3, .ptr 3 0), (6, .ptr 6 0), (15, .b16 (x5.getD n12 0#16)), (60, q2aW x5), (61, .i (lZ x5)), (62, .i (n12 : Int)), (67, q2aW x5), (68, .i (lZ x5)), (69, .i (((n13 + 1) : Nat) : Int))], (f53z0 x1 x2 x3 x4 x5 x6), [], 0⟩ (an1 ob16) ?_
        rw [hC4] at h
        exact lN (_, (n13 + 1)) (Le.mk rfl rfl ⟨.refl _, .refl _, .refl _, .refl _, .refl _, .refl _, .refl _, .refl _, .refl _, .refl _, trivial⟩ ⟨⟨_, rfl, .refl _⟩, ⟨_, rfl, .refl _⟩, trivial⟩) h (Nat.lt_succ_self _)
      ·
       replace h := ite_fb hc7 h
       refine AWp.exit ?_
       refine tE ?_
       refine tE ?_
       refine kS ?_
       refine kN ?_
       exact jN () (Le.mk rfl rfl ⟨.refl _, .refl _, .refl _, .refl _, .refl _, .refl _, trivial⟩ ⟨⟨_, rfl, .refl _⟩, ⟨_, rfl, .refl _⟩, trivial⟩) h
     ·
      rintro ⟨⟩ h
      replace h := (congrFun hK5 _).symm.trans h
      obtain ⟨ob17p, h⟩ := chk_some h
      have ob17 : -9223372036854775808 ≤ ((n12 : Int) + (1 : Int)) ∧ ((n12 : Int) + (1 : Int)) ≤ 9223372036854775807 := ⟨by omega, ob17p⟩
      refine q2rr [] [] ⟨97, [(2, q2aW x8), (3, .ptr 3 0), (6, .ptr 6 0), (60, q2aW x5), (61, .i (lZ x5)), (62, .i (((n12 + 1) : Nat) : Int))], (f53z0 x1 x2 x3 x4 x5 x6), [], 0⟩ (an1 ob17) ?_
      rw [hC3] at h
      exact lN (_, (n12 + 1)) (Le.mk rfl rfl ⟨.refl _, .refl _, .refl _, .refl _, .refl _, .refl _, trivial⟩ ⟨⟨_, rfl, .refl _⟩, ⟨_, rfl, .refl _⟩, trivial⟩) h (Nat.lt_succ_self _)
    ·
     replace h := ite_fb hc6 h
     refine AWp.exit ?_
     refine tE ?_
     refine tE ?_
     refine kS ?_
     exact jN () (Le.mk rfl rfl ⟨.refl _, trivial⟩ ⟨⟨_, rfl, .refl _⟩, trivial⟩) h
   ·
    rintro ⟨⟩ h
    replace h := (congrFun hK4 _).symm.trans h
    refine q2rq [] [] ⟨97, (f53z7), (f53z1), [], 0⟩ (an1 trivial) ?_
    have hret := oJ h
    subst hret
    refine AWp.le (Le.mk (s' := ⟨97, (f53z7), (f53z1), [], 0⟩) rfl rfl ⟨.refl _, .refl _, trivial⟩ ⟨⟨_, rfl, .refl _⟩, trivial⟩) ?_
    refine AWp.ret ?_
    exact bR _ rfl ⟨rfl, rfl⟩ rfl
def f29_L0 (r10 : List (BitVec 16)) (K1 : Unit → Option Tq2) : Nat → Nat → Option Tq2
 | 0, _ => none
 | k + 1, n11 =>
  if (decide ((n11 : Int) < (((r10).length : Nat) : Int))) then (
  chk ((n11 : Int) < (((r10).length : Nat) : Int)) <|
  if (!((r10.getD n11 0#16) == (BitVec.ofInt 16 0))) then (
  some ((3 : Int), (BitVec.ofInt 16 0), (BitVec.ofInt 16 0), (r10.getD n11 0#16), (0 : Int))
  ) else (
  chk (((n11 : Int) + (1 : Int)) ≤ 9223372036854775807) <|
  (f29_L0 r10 K1 k) (n11 + 1)
  )
  ) else (
  K1 ()
  )
abbrev f29z0 (x1 : List UInt8) (x2 : Int) (x3 : TB) (x4 : List (TB)) (x5 : List (TB)) (x6 : List Tq0) : Heap := [(3, .cells 33 [.str x1, .int .i64 x2, .b16 x3, vL 1 eW 0#16 x4, vL 1 eW 0#16 x5, vL 2 eWW (default : Tq0) x6]), (6, .cells 62 [.int .i64 (0 : Int), .b16 (BitVec.ofInt 16 0), .b16 (BitVec.ofInt 16 0), .b16 (BitVec.ofInt 16 0)])]
abbrev f29z1 : List V := [.int .i64 (0 : Int), .b16 (BitVec.ofInt 16 0), .b16 (BitVec.ofInt 16 0), .b16 (BitVec.ofInt 16 0)]
abbrev f29z2 (r12 : Tq4) : List V := [.int .i64 r12.1, .b16 r12.2.1, .b16 r12.2.2.1, .b16 r12.2.2.2.1]
abbrev f29z3 (x7 : TB) (r10 : List (TB)) : List (Nat × V) := [(1, .b16 x7), (3, .ptr 3 0), (6, .ptr 6 0), (9, vL 1 eW 0#16 r10)]
abbrev f29z4 : List (Nat × V) := [(6, .ptr 6 0), (7, .int .i64 (0 : Int))]
def f29 (x1 : List UInt8) (x2 : Int) (x3 : BitVec 16) (x4 : List (BitVec 16)) (x5 : List (BitVec 16)) (x6 : List Tq0) (x7 : BitVec 16) (x8 : List Tq0) : Option Tq2 :=
 (f26 x1 x2 x3 x4 x5 x6 x8).bind fun (r9 : Int) =>
 if (r9 != (0 : Int)) then (
 some ((0 : Int), (BitVec.ofInt 16 0), (BitVec.ofInt 16 0), (BitVec.ofInt 16 0), r9)
 ) else (
 (f27 x1 x2 x3 x4 x5 x6 x8).bind fun (r10 : List (TB)) =>
 jn (fun (_ : Unit) =>
 (f53 x1 x2 x3 x4 x5 x6 x7 r10).bind fun (r12 : Tq4) =>
 if r12.2.2.2.2 then (
 some (r12.1, r12.2.1, r12.2.2.1, r12.2.2.2.1, (0 : Int))
 ) else (
 some ((0 : Int), (BitVec.ofInt 16 0), (BitVec.ofInt 16 0), (BitVec.ofInt 16 0), (13 : Int))
 )
 ) fun (K1 : Unit → Option Tq2) =>
 if (x2 == (1 : Int)) then (
 f29_L0 r10 K1 FUEL 0
 ) else (
 K1 ()
 )
 )
theorem f29_ok  (x1 : List UInt8) (x2 : Int) (x3 : TB) (x4 : List (TB)) (x5 : List (TB)) (x6 : List Tq0) (x7 : TB) (x8 : List Tq0) (r : Tq2) (h : f29 x1 x2 x3 x4 x5 x6 x7 x8 = some r)  : Spec1 Tryz.prog 29 [] [] [] [.agg [.str x1, .int .i64 x2, .b16 x3, vL 1 eW 0#16 x4, vL 1 eW 0#16 x5, vL 2 eWW (default : Tq0) x6], .b16 x7, vL 2 eWW (default : Tq0) x8] (.tup [.agg [.int .i64 r.1, .b16 r.2.1, .b16 r.2.2.1, .b16 r.2.2.2.1], .int .i64 r.2.2.2.2]) [] := by
 unfold f29 at h
 refine Spec1.bodyD [6] 0 _ _ Tryz.func29 rfl Tryz.ntmps29 rfl rfl ?_
 refine q2rq [] [] ⟨48, [(1, .b16 x7), (2, q2aWW x8), (3, .ptr 3 0), (6, .ptr 6 0)], (f29z0 x1 x2 x3 x4 x5 x6), [], 0⟩ trivial ?_
 refine AWp.seq ?_
 refine AWp.seq ?_
 obtain ⟨r9, hr9, h⟩ := bind_ok h
 refine q2rr [] [(2, ⟨[.agg [.str x1, .i x2, .b16 x3, q2aW x4, q2aW x5, q2aWW x6], q2aWW x8], [], [], [], .i r9, [], [], []⟩)] ⟨48, [(1, .b16 x7), (2, q2aWW x8), (3, .ptr 3 0), (6, .ptr 6 0), (8, .i r9)], (f29z0 x1 x2 x3 x4 x5 x6), [], 0⟩ (an1 (cpT (f26_ok _ _ _ _ _ _ _ _ hr9))) ?_
 refine tN ?_
 refine q2rq [] [] ⟨48, [(1, .b16 x7), (2, q2aWW x8), (3, .ptr 3 0), (6, .ptr 6 0), (8, .i r9), (18, .bool (r9 != (0 : Int)))], (f29z0 x1 x2 x3 x4 x5 x6), [], 0⟩ trivial ?_
 refine AWp.cond (b := (r9 != (0 : Int))) (by kernel_rfl) (fun hc1 => ?_) (fun hc1 => ?_)
 ·
  replace h := ite_tb hc1 h
  refine q2rq [] [] ⟨48, [(6, .ptr 6 0), (7, .i r9)], [(6, .cells 62 (f29z1))], [], 0⟩ (an1 trivial) ?_
  have hret := oJ h
  subst hret
  refine AWp.le (Le.mk (s' := ⟨48, [(6, .ptr 6 0), (7, .i r9)], [(6, .cells 62 (f29z1))], [], 0⟩) rfl rfl ⟨.refl _, .refl _, trivial⟩ ⟨⟨_, rfl, .refl _⟩, trivial⟩) ?_
  refine AWp.ret ?_
  refine tR ?_
  exact bR _ rfl ⟨rfl, rfl⟩ rfl
 ·
  replace h := ite_fb hc1 h
  refine AWp.skip ?_
  refine tN ?_
  refine AWp.seq ?_
  obtain ⟨r10, hr10, h⟩ := bind_ok h
  refine q2rr [] [(2, ⟨[.agg [.str x1, .i x2, .b16 x3, q2aW x4, q2aW x5, q2aWW x6], q2aWW x8], [], [], [], q2aW r10, [], [], []⟩)] ⟨48, (f29z3 x7 r10), (f29z0 x1 x2 x3 x4 x5 x6), [], 0⟩ (an1 (cpT (f27_ok _ _ _ _ _ _ _ _ hr10))) ?_
  refine tN ?_
  obtain ⟨K1, hK1, h⟩ := jn_some h
  refine AWp.join (α := Unit) (fun (x : Unit) => match x with | () => ⟨48, (f29z3 x7 r10), (f29z0 x1 x2 x3 x4 x5 x6), [], 0⟩) (fun x => K1 x = some r) ?_ ?_
  ·
   refine q2rq [] [] ⟨48, [(1, .b16 x7), (3, .ptr 3 0), (6, .ptr 6 0), (9, q2aW r10), (26, .bool (x2 == (1 : Int)))], (f29z0 x1 x2 x3 x4 x5 x6), [], 0⟩ trivial ?_
   refine AWp.cond (b := (x2 == (1 : Int))) (by kernel_rfl) (fun hc2 => ?_) (fun hc2 => ?_)
   ·
    replace h := ite_tb hc2 h
    refine q2rq [] [] ⟨48, [(1, .b16 x7), (3, .ptr 3 0), (6, .ptr 6 0), (9, q2aW r10), (27, q2aW r10), (28, .i (lZ r10)), (29, .i (0 : Int))], (f29z0 x1 x2 x3 x4 x5 x6), [], 0⟩ trivial ?_
    refine AWp.block ?_
    refine AWp.loopL (α := Nat × Nat) (fun x => match x with | (_, n11) => ⟨48, [(1, .b16 x7), (3, .ptr 3 0), (6, .ptr 6 0), (9, q2aW r10), (27, q2aW r10), (28, .i (lZ r10)), (29, .i (n11 : Int))], (f29z0 x1 x2 x3 x4 x5 x6), [], 0⟩) (fun x => f29_L0 r10 K1 x.1 x.2 = some r) (fun x => x.1) (FUEL, 0) (Le.mk (s' := ⟨48, [(1, .b16 x7), (3, .ptr 3 0), (6, .ptr 6 0), (9, q2aW r10), (27, q2aW r10), (28, .i (lZ r10)), (29, .i (0 : Int))], (f29z0 x1 x2 x3 x4 x5 x6), [], 0⟩) rfl rfl ⟨.refl _, .refl _, .refl _, .refl _, .refl _, .refl _, .refl _, trivial⟩ ⟨⟨_, rfl, .refl _⟩, ⟨_, rfl, .refl _⟩, trivial⟩) h ?_
    rintro ⟨k0, n11⟩ h
    cases k0 with
    | zero => exact nomatch (show (none : Option Tq2) = some r from h)
    | succ k0 =>
    obtain ⟨C0, hC0⟩ : ∃ C, C = f29_L0 r10 K1 k0 := ⟨_, rfl⟩
    replace h := (f29_L0.eq_2 ..).symm.trans h
    try rw [← hC0] at h
    refine q2rq [] [] ⟨48, [(1, .b16 x7), (3, .ptr 3 0), (6, .ptr 6 0), (9, q2aW r10), (27, q2aW r10), (28, .i (lZ r10)), (29, .i (n11 : Int)), (30, .bool (decide ((n11 : Int) < (lZ r10))))], (f29z0 x1 x2 x3 x4 x5 x6), [], 0⟩ trivial ?_
    refine AWp.seq ?_
    refine AWp.cond (b := (decide ((n11 : Int) < (lZ r10)))) (by kernel_rfl) (fun hc3 => ?_) (fun hc3 => ?_)
    ·
     replace h := ite_tb hc3 h
     refine AWp.skip ?_
     refine tN ?_
     refine AWp.seq ?_
     refine AWp.block ?_
     refine AWp.seq ?_
     obtain ⟨ob0p, h⟩ := chk_some h
     have ob0 : 0 ≤ (n11 : Int) ∧ (n11 : Int) < (((r10).length : Nat) : Int) := ⟨by omega, ob0p⟩
     refine q2rr [] [] ⟨48, [(1, .b16 x7), (3, .ptr 3 0), (6, .ptr 6 0), (9, q2aW r10), (11, .b16 (r10.getD n11 0#16)), (27, q2aW r10), (28, .i (lZ r10)), (29, .i (n11 : Int))], (f29z0 x1 x2 x3 x4 x5 x6), [], 0⟩ (an1 ob0) ?_
     refine tN ?_
     refine q2rq [] [] ⟨48, [(1, .b16 x7), (3, .ptr 3 0), (6, .ptr 6 0), (9, q2aW r10), (11, .b16 (r10.getD n11 0#16)), (27, q2aW r10), (28, .i (lZ r10)), (29, .i (n11 : Int)), (34, .bool (!((r10.getD n11 0#16) == (q2w16 0))))], (f29z0 x1 x2 x3 x4 x5 x6), [], 0⟩ trivial ?_
     refine AWp.cond (b := (!((r10.getD n11 0#16) == (q2w16 0)))) (by kernel_rfl) (fun hc4 => ?_) (fun hc4 => ?_)
     ·
      replace h := ite_tb hc4 h
      refine q2rq [] [] ⟨48, (f29z4), [(6, .cells 62 [.i (3 : Int), .b16 (q2w16 0), .b16 (q2w16 0), .b16 (r10.getD n11 0#16)])], [], 0⟩ (an1 trivial) ?_
      have hret := oJ h
      subst hret
      refine AWp.le (Le.mk (s' := ⟨48, (f29z4), [(6, .cells 62 [.i (3 : Int), .b16 (q2w16 0), .b16 (q2w16 0), .b16 (r10.getD n11 0#16)])], [], 0⟩) rfl rfl ⟨.refl _, .refl _, trivial⟩ ⟨⟨_, rfl, .refl _⟩, trivial⟩) ?_
      refine AWp.ret ?_
      refine kR ?_
      refine tR ?_
      refine tR ?_
      refine kR ?_
      refine joinQ_ret ?_
      exact bR _ rfl ⟨rfl, rfl⟩ rfl
     ·
      replace h := ite_fb hc4 h
      refine AWp.skip ?_
      refine kN ?_
      refine tN ?_
      obtain ⟨ob1p, h⟩ := chk_some h
      have ob1 : -9223372036854775808 ≤ ((n11 : Int) + (1 : Int)) ∧ ((n11 : Int) + (1 : Int)) ≤ 9223372036854775807 := ⟨by omega, ob1p⟩
      refine q2rr [] [] ⟨48, [(1, .b16 x7), (3, .ptr 3 0), (6, .ptr 6 0), (9, q2aW r10), (27, q2aW r10), (28, .i (lZ r10)), (29, .i (((n11 + 1) : Nat) : Int))], (f29z0 x1 x2 x3 x4 x5 x6), [], 0⟩ (an1 ob1) ?_
      rw [hC0] at h
      exact lN (_, (n11 + 1)) (Le.mk rfl rfl ⟨.refl _, .refl _, .refl _, .refl _, .refl _, .refl _, .refl _, trivial⟩ ⟨⟨_, rfl, .refl _⟩, ⟨_, rfl, .refl _⟩, trivial⟩) h (Nat.lt_succ_self _)
    ·
     replace h := ite_fb hc3 h
     refine AWp.exit ?_
     refine tE ?_
     refine tE ?_
     refine kS ?_
     exact jN () (Le.mk rfl rfl ⟨.refl _, .refl _, .refl _, .refl _, trivial⟩ ⟨⟨_, rfl, .refl _⟩, ⟨_, rfl, .refl _⟩, trivial⟩) h
   ·
    replace h := ite_fb hc2 h
    refine AWp.skip ?_
    exact jN () (Le.mk rfl rfl ⟨.refl _, .refl _, .refl _, .refl _, trivial⟩ ⟨⟨_, rfl, .refl _⟩, ⟨_, rfl, .refl _⟩, trivial⟩) h
  ·
   rintro ⟨⟩ h
   replace h := (congrFun hK1 _).symm.trans h
   refine AWp.seq ?_
   refine AWp.seq ?_
   obtain ⟨r12, hr12, h⟩ := bind_ok h
   refine q2rr [] [(3, ⟨[.agg [.str x1, .i x2, .b16 x3, q2aW x4, q2aW x5, q2aWW x6], .b16 x7, q2aW r10], [], [], [], .tup [.agg (f29z2 r12), .bool r12.2.2.2.2], [], [], []⟩)] ⟨48, [(6, .ptr 6 0), (12, .ptr 12 0), (13, .bool r12.2.2.2.2)], [(6, .cells 62 (f29z1)), (12, .cells 62 (f29z2 r12))], [], 0⟩ (an2 (cpT (f53_ok _ _ _ _ _ _ _ _ _ hr12)) trivial) ?_
   refine tN ?_
   refine q2rq [] [] ⟨48, [(6, .ptr 6 0), (12, .ptr 12 0), (45, .bool r12.2.2.2.2)], [(6, .cells 62 (f29z1)), (12, .cells 62 (f29z2 r12))], [], 0⟩ trivial ?_
   refine AWp.cond (b := r12.2.2.2.2) (by kernel_rfl) (fun hc5 => ?_) (fun hc5 => ?_)
   ·
    replace h := ite_tb hc5 h
    refine q2rq [] [] ⟨48, (f29z4), [(6, .cells 62 (f29z2 r12))], [], 0⟩ (an1 trivial) ?_
    have hret := oJ h
    subst hret
    refine AWp.le (Le.mk (s' := ⟨48, (f29z4), [(6, .cells 62 (f29z2 r12))], [], 0⟩) rfl rfl ⟨.refl _, .refl _, trivial⟩ ⟨⟨_, rfl, .refl _⟩, trivial⟩) ?_
    refine AWp.ret ?_
    refine tR ?_
    exact bR _ rfl ⟨rfl, rfl⟩ rfl
   ·
    replace h := ite_fb hc5 h
    refine AWp.skip ?_
    refine tN ?_
    refine q2rq [] [] ⟨48, [(6, .ptr 6 0), (7, .i (13 : Int))], [(6, .cells 62 (f29z1))], [], 0⟩ (an1 trivial) ?_
    have hret := oJ h
    subst hret
    refine AWp.le (Le.mk (s' := ⟨48, [(6, .ptr 6 0), (7, .i (13 : Int))], [(6, .cells 62 (f29z1))], [], 0⟩) rfl rfl ⟨.refl _, .refl _, trivial⟩ ⟨⟨_, rfl, .refl _⟩, trivial⟩) ?_
    refine AWp.ret ?_
    exact bR _ rfl ⟨rfl, rfl⟩ rfl
def f12 (x1 : List UInt8) (x2 : Int) (x3 : BitVec 16) (x4 : List (BitVec 16)) (x5 : List (BitVec 16)) (x6 : List Tq0) (x7 : BitVec 16) (x8 : List Tq0) : Option Bool :=
 (f29 x1 x2 x3 x4 x5 x6 x7 x8).bind fun (r9 : Tq2) =>
 some (r9.2.2.2.2 == (13 : Int))
theorem f12_ok  (x1 : List UInt8) (x2 : Int) (x3 : TB) (x4 : List (TB)) (x5 : List (TB)) (x6 : List Tq0) (x7 : TB) (x8 : List Tq0) (r : Bool) (h : f12 x1 x2 x3 x4 x5 x6 x7 x8 = some r)  : Spec1 Tryz.prog 12 [] [] [] [.agg [.str x1, .int .i64 x2, .b16 x3, vL 1 eW 0#16 x4, vL 1 eW 0#16 x5, vL 2 eWW (default : Tq0) x6], .b16 x7, vL 2 eWW (default : Tq0) x8] (.bool r) [] := by
 unfold f12 at h
 refine Spec1.body 0 _ _ Tryz.func12 rfl Tryz.ntmps12 rfl rfl ?_
 refine q2rq [] [] ⟨18, [(1, .b16 x7), (2, q2aWW x8), (3, .ptr 3 0)], [(3, .cells 33 [.str x1, .i x2, .b16 x3, q2aW x4, q2aW x5, q2aWW x6])], [], 0⟩ trivial ?_
 refine AWp.seq ?_
 obtain ⟨r9, hr9, h⟩ := bind_ok h
 refine q2rr [] [(3, ⟨[.agg [.str x1, .i x2, .b16 x3, q2aW x4, q2aW x5, q2aWW x6], .b16 x7, q2aWW x8], [], [], [], .tup [.agg [.i r9.1, .b16 r9.2.1, .b16 r9.2.2.1, .b16 r9.2.2.2.1], .i r9.2.2.2.2], [], [], []⟩)] ⟨18, [(8, .i r9.2.2.2.2)], [], [], 0⟩ (an2 (cpT (f29_ok _ _ _ _ _ _ _ _ _ hr9)) trivial) ?_
 refine tN ?_
 refine q2rq [] [] ⟨18, [(6, .bool (r9.2.2.2.2 == (13 : Int)))], [], [], 0⟩ trivial ?_
 have hret := oJ h
 subst hret
 refine AWp.le (Le.mk (s' := ⟨18, [(6, .bool (r9.2.2.2.2 == (13 : Int)))], [], [], 0⟩) rfl rfl ⟨.refl _, trivial⟩ trivial) ?_
 refine AWp.ret ?_
 exact bR _ rfl ⟨rfl, rfl⟩ rfl
def f31 (x1 : BitVec 16) (x2 : List (BitVec 16)) : Option (Bool × List (BitVec 16)) :=
 (f24 x2 x1).bind fun (r3 : Bool) =>
 some ((!r3), x2)
theorem f31_ok  (x1 : TB) (x2 : List (TB)) (r : Bool × List (TB)) (h : f31 x1 x2 = some r)  : Spec1 Tryz.prog 31 [] [2000] [(2000, .cells 31 [vL 1 eW 0#16 x2])] [.b16 x1, .ptr 2000 0] (.bool r.1) [(2000, .cells 31 [vL 1 eW 0#16 r.2])] := by
 unfold f31 at h
 refine Spec1.body 0 _ _ Tryz.func31 rfl Tryz.ntmps31 rfl rfl ?_
 refine q2rq [] [] ⟨8, [(0, .b16 x1), (1, .ptr 2000 0)], [(2000, .cells 31 [q2aW x2])], [2000], 0⟩ trivial ?_
 refine AWp.seq ?_
 obtain ⟨r3, hr3, h⟩ := bind_ok h
 refine q2rr [] [(2, ⟨[q2aW x2, .b16 x1], [], [], [], .bool r3, [], [], []⟩)] ⟨8, [(3, .bool (!r3))], [(2000, .cells 31 [q2aW x2])], [2000], 0⟩ (an1 (cpT (f24_ok _ _ _ hr3))) ?_
 refine tN ?_
 have hret := oJ h
 subst hret
 refine AWp.le (Le.mk (s' := ⟨8, [(3, .bool (!r3))], [(2000, .cells 31 [q2aW x2])], [2000], 0⟩) rfl rfl ⟨.refl _, trivial⟩ ⟨⟨_, rfl, .refl _⟩, trivial⟩) ?_
 refine AWp.ret ?_
 exact bR _ rfl ⟨rfl, rfl⟩ rfl
def f54e_L0 (x1 : List (BitVec 16)) (K1 : (List (BitVec 16)) → Option (Int × List (BitVec 16))) : Nat → Tq1 → Option (Int × List (BitVec 16))
 | 0, _ => none
 | k + 1, (n3, l4) =>
  if (decide ((n3 : Int) < (((x1).length : Nat) : Int))) then (
  (f31 (x1.getD n3 0#16) l4).bind fun (r5 : Bool × List (TB)) =>
  chk ((n3 : Int) < (((x1).length : Nat) : Int)) <|
  if r5.1 then (
  some ((n3 : Int), r5.2)
  ) else (
  chk (((n3 : Int) + (1 : Int)) ≤ 9223372036854775807) <|
  (f54e_L0 x1 K1 k) ((n3 + 1), r5.2)
  )
  ) else (
  K1 l4
  )
abbrev f54ez0 (r5 : Bool × List (TB)) : Heap := [(2000, .cells 31 [vL 1 eW 0#16 r5.2])]
def f54e (x1 : List (BitVec 16)) (x2 : List (BitVec 16)) : Option (Int × List (BitVec 16)) :=
 jn (fun (l6 : List (BitVec 16)) =>
 some ((-1 : Int), l6)
 ) fun (K1 : (List (TB)) → Option (Int × List (TB))) =>
 f54e_L0 x1 K1 FUEL (0, x2)
theorem f54e_ok  (x1 : List (TB)) (x2 : List (TB)) (r : Int × List (TB)) (h : f54e x1 x2 = some r)  : Spec1 Tryz.prog 54 [] [2000] [(2000, .cells 31 [vL 1 eW 0#16 x2])] [vL 1 eW 0#16 x1, .fn (.func 31) [.ptr 2000 0]] (.int .i64 r.1) [(2000, .cells 31 [vL 1 eW 0#16 r.2])] := by
 unfold f54e at h
 refine Spec1.body 0 _ _ Tryz.func54 rfl Tryz.ntmps54 rfl rfl ?_
 refine q2rq [] [] ⟨19, [(0, q2aW x1), (1, .fn (.func 31) [.ptr 2000 0])], [(2000, .cells 31 [q2aW x2])], [2000], 0⟩ trivial ?_
 obtain ⟨K1, hK1, h⟩ := jn_some h
 refine AWp.join (α := List (TB)) (fun (l6 : List (TB)) => ⟨19, [], [(2000, .cells 31 [q2aW l6])], [2000], 0⟩) (fun x => K1 x = some r) ?_ ?_
 ·
  refine q2rq [] [] ⟨19, [(0, q2aW x1), (1, .fn (.func 31) [.ptr 2000 0]), (7, .i (lZ x1)), (8, .i (0 : Int))], [(2000, .cells 31 [q2aW x2])], [2000], 0⟩ trivial ?_
  refine AWp.block ?_
  refine AWp.loopL (α := Nat × Tq1) (fun x => match x with | (_, n3, l4) => ⟨19, [(0, q2aW x1), (1, .fn (.func 31) [.ptr 2000 0]), (7, .i (lZ x1)), (8, .i (n3 : Int))], [(2000, .cells 31 [q2aW l4])], [2000], 0⟩) (fun x => f54e_L0 x1 K1 x.1 x.2 = some r) (fun x => x.1) (FUEL, 0, x2) (Le.mk (s' := ⟨19, [(0, q2aW x1), (1, .fn (.func 31) [.ptr 2000 0]), (7, .i (lZ x1)), (8, .i (0 : Int))], [(2000, .cells 31 [q2aW x2])], [2000], 0⟩) rfl rfl ⟨.refl _, .refl _, .refl _, .refl _, trivial⟩ ⟨⟨_, rfl, .refl _⟩, trivial⟩) h ?_
  rintro ⟨k0, n3, l4⟩ h
  cases k0 with
  | zero => exact nomatch (show (none : Option (Int × List (TB))) = some r from h)
  | succ k0 =>
  obtain ⟨C0, hC0⟩ : ∃ C, C = f54e_L0 x1 K1 k0 := ⟨_, rfl⟩
  replace h := (f54e_L0.eq_2 ..).symm.trans h
  try rw [← hC0] at h
  refine q2rq [] [] ⟨19, [(0, q2aW x1), (1, .fn (.func 31) [.ptr 2000 0]), (7, .i (lZ x1)), (8, .i (n3 : Int)), (9, .bool (decide ((n3 : Int) < (lZ x1))))], [(2000, .cells 31 [q2aW l4])], [2000], 0⟩ trivial ?_
  refine AWp.seq ?_
  refine AWp.cond (b := (decide ((n3 : Int) < (lZ x1)))) (by kernel_rfl) (fun hc1 => ?_) (fun hc1 => ?_)
  ·
   replace h := ite_tb hc1 h
   refine AWp.skip ?_
   refine tN ?_
   refine AWp.seq ?_
   refine AWp.block ?_
   refine q2rq [] [] ⟨19, [(0, q2aW x1), (1, .fn (.func 31) [.ptr 2000 0]), (5, .i (n3 : Int)), (7, .i (lZ x1)), (8, .i (n3 : Int))], [(2000, .cells 31 [q2aW l4])], [2000], 0⟩ trivial ?_
   refine AWp.seq ?_
   obtain ⟨r5, hr5, h⟩ := bind_ok h
   obtain ⟨ob0p, h⟩ := chk_some h
   have ob0 : 0 ≤ (n3 : Int) ∧ (n3 : Int) < (((x1).length : Nat) : Int) := ⟨by omega, ob0p⟩
   refine q2rr [] [(5, ⟨[.b16 (x1.getD n3 0#16), .ptr 2000 0], [2000], [2000], (f54ez0 r5), .bool r5.1, [], [], []⟩)] ⟨19, [(0, q2aW x1), (1, .fn (.func 31) [.ptr 2000 0]), (5, .i (n3 : Int)), (7, .i (lZ x1)), (8, .i (n3 : Int)), (16, .bool r5.1)], (f54ez0 r5), [2000], 0⟩ (an2 ob0 (cpT (f31_ok _ _ _ hr5))) ?_
   refine tN ?_
   refine AWp.cond (b := r5.1) (by kernel_rfl) (fun hc2 => ?_) (fun hc2 => ?_)
   ·
    replace h := ite_tb hc2 h
    refine q2rq [] [] ⟨19, [(4, .i (n3 : Int))], (f54ez0 r5), [2000], 0⟩ trivial ?_
    have hret := oJ h
    subst hret
    refine AWp.le (Le.mk (s' := ⟨19, [(4, .i (n3 : Int))], (f54ez0 r5), [2000], 0⟩) rfl rfl ⟨.refl _, trivial⟩ ⟨⟨_, rfl, .refl _⟩, trivial⟩) ?_
    refine AWp.ret ?_
    refine kR ?_
    refine tR ?_
    refine tR ?_
    refine kR ?_
    refine joinQ_ret ?_
    exact bR _ rfl ⟨rfl, rfl⟩ rfl
   ·
    replace h := ite_fb hc2 h
    refine AWp.skip ?_
    refine kN ?_
    refine tN ?_
    obtain ⟨ob1p, h⟩ := chk_some h
    have ob1 : -9223372036854775808 ≤ ((n3 : Int) + (1 : Int)) ∧ ((n3 : Int) + (1 : Int)) ≤ 9223372036854775807 := ⟨by omega, ob1p⟩
    refine q2rr [] [] ⟨19, [(0, q2aW x1), (1, .fn (.func 31) [.ptr 2000 0]), (7, .i (lZ x1)), (8, .i (((n3 + 1) : Nat) : Int))], (f54ez0 r5), [2000], 0⟩ (an1 ob1) ?_
    rw [hC0] at h
    exact lN (_, (n3 + 1), r5.2) (Le.mk rfl rfl ⟨.refl _, .refl _, .refl _, .refl _, trivial⟩ ⟨⟨_, rfl, .refl _⟩, trivial⟩) h (Nat.lt_succ_self _)
  ·
   replace h := ite_fb hc1 h
   refine AWp.exit ?_
   refine tE ?_
   refine tE ?_
   refine kS ?_
   exact jN (l4) (Le.mk rfl rfl trivial ⟨⟨_, rfl, .refl _⟩, trivial⟩) h
 ·
  rintro l6 h
  replace h := (congrFun hK1 _).symm.trans h
  refine q2rq [] [] ⟨19, [(4, .i (-1 : Int))], [(2000, .cells 31 [q2aW l6])], [2000], 0⟩ trivial ?_
  have hret := oJ h
  subst hret
  refine AWp.le (Le.mk (s' := ⟨19, [(4, .i (-1 : Int))], [(2000, .cells 31 [q2aW l6])], [2000], 0⟩) rfl rfl ⟨.refl _, trivial⟩ ⟨⟨_, rfl, .refl _⟩, trivial⟩) ?_
  refine AWp.ret ?_
  exact bR _ rfl ⟨rfl, rfl⟩ rfl
def f30e (x1 : List (BitVec 16)) (x2 : List (BitVec 16)) : Option (Bool × List (BitVec 16)) :=
 (f54e x1 x2).bind fun (r3 : Int × List (TB)) =>
 some ((decide (r3.1 ≥ (0 : Int))), r3.2)
theorem f30e_ok  (x1 : List (TB)) (x2 : List (TB)) (r : Bool × List (TB)) (h : f30e x1 x2 = some r)  : Spec1 Tryz.prog 30 [] [2000] [(2000, .cells 31 [vL 1 eW 0#16 x2])] [vL 1 eW 0#16 x1, .fn (.func 31) [.ptr 2000 0]] (.bool r.1) [(2000, .cells 31 [vL 1 eW 0#16 r.2])] := by
 unfold f30e at h
 refine Spec1.body 0 _ _ Tryz.func30 rfl Tryz.ntmps30 rfl rfl ?_
 refine q2rq [] [] ⟨9, [(0, q2aW x1), (1, .fn (.func 31) [.ptr 2000 0])], [(2000, .cells 31 [q2aW x2])], [2000], 0⟩ trivial ?_
 refine AWp.seq ?_
 obtain ⟨r3, hr3, h⟩ := bind_ok h
 refine q2rr [] [(2, ⟨[q2aW x1, .fn (.func 31) [.ptr 2000 0]], [2000], [2000], [(2000, .cells 31 [q2aW r3.2])], .i r3.1, [], [], []⟩)] ⟨9, [(4, .bool (decide (r3.1 ≥ (0 : Int))))], [(2000, .cells 31 [q2aW r3.2])], [2000], 0⟩ (an1 (cpT (f54e_ok _ _ _ hr3))) ?_
 refine tN ?_
 have hret := oJ h
 subst hret
 refine AWp.le (Le.mk (s' := ⟨9, [(4, .bool (decide (r3.1 ≥ (0 : Int))))], [(2000, .cells 31 [q2aW r3.2])], [2000], 0⟩) rfl rfl ⟨.refl _, trivial⟩ ⟨⟨_, rfl, .refl _⟩, trivial⟩) ?_
 refine AWp.ret ?_
 exact bR _ rfl ⟨rfl, rfl⟩ rfl
def f13 (x1 : List (BitVec 16)) (x2 : List (BitVec 16)) : Option Bool :=
 (f30e x1 x2).bind fun (r3 : Bool × List (TB)) =>
 some (!r3.1)
theorem f13_ok  (x1 : List (TB)) (x2 : List (TB)) (r : Bool) (h : f13 x1 x2 = some r)  : Spec1 Tryz.prog 13 [] [] [] [vL 1 eW 0#16 x1, vL 1 eW 0#16 x2] (.bool r) [] := by
 unfold f13 at h
 refine Spec1.body 0 _ _ Tryz.func13 rfl Tryz.ntmps13 rfl rfl ?_
 refine q2rq [] [] ⟨9, [(0, q2aW x1), (3, .ptr 3 0)], [(3, .cells 31 [q2aW x2])], [], 0⟩ trivial ?_
 refine AWp.seq ?_
 obtain ⟨r3, hr3, h⟩ := bind_ok h
 refine q2rr [] [(2, ⟨[q2aW x1, .fn (.func 31) [.ptr 3 0]], [3], [3], [(3, .cells 31 [q2aW r3.2])], .bool r3.1, [], [], []⟩)] ⟨9, [(4, .bool (!r3.1))], [], [], 0⟩ (an1 (cpT (Spec1.ren (swapN 2000 3) (swapN_inv 2000 3) rfl (f30e_ok _ _ _ hr3)))) ?_
 refine tN ?_
 have hret := oJ h
 subst hret
 refine AWp.le (Le.mk (s' := ⟨9, [(4, .bool (!r3.1))], [], [], 0⟩) rfl rfl ⟨.refl _, trivial⟩ trivial) ?_
 refine AWp.ret ?_
 exact bR _ rfl ⟨rfl, rfl⟩ rfl
def f3_L1 (x13 : BitVec 16) (r18 : List UInt8 × Int × BitVec 16 × List (BitVec 16) × List (BitVec 16) × (List Tq0)) (r20 : List (BitVec 16)) (n21 : Nat) (K2 : (List (BitVec 16)) → Option Bool) : Nat → Tq1 → Option Bool
 | 0, _ => none
 | k + 1, (n23, l24) =>
  if (decide ((n23 : Int) < (((r20).length : Nat) : Int))) then (
  chk ((n23 : Int) < (((r20).length : Nat) : Int)) <|
  chk (n23 < (r20).length) <|
  chk (((l24).length + 1) * 2 ≤ 140737488355328) <|
  chk (((n23 : Int) + (1 : Int)) ≤ 9223372036854775807) <|
  (f3_L1 x13 r18 r20 n21 K2 k) ((n23 + 1), (l24 ++ [(((r18.2.2.2.1.getD n21 0#16) &&& ~~~(r20.getD n23 0#16)) &&& ~~~x13)]))
  ) else (
  K2 l24
  )
def f3_L0 (x13 : BitVec 16) (r18 : List UInt8 × Int × BitVec 16 × List (BitVec 16) × List (BitVec 16) × (List Tq0)) (r20 : List (BitVec 16)) (K1 : (List (BitVec 16)) → Option Bool) : Nat → Tq1 → Option Bool
 | 0, _ => none
 | k + 1, (n21, l22) =>
  if (decide ((n21 : Int) < (((r18.2.2.2.1).length : Nat) : Int))) then (
  jn (fun (l25 : List (BitVec 16)) =>
  chk (((n21 : Int) + (1 : Int)) ≤ 9223372036854775807) <|
  (f3_L0 x13 r18 r20 K1 k) ((n21 + 1), l25)
  ) fun (K2 : (List (TB)) → Option Bool) =>
  chk ((n21 : Int) < (((r18.2.2.2.1).length : Nat) : Int)) <|
  chk (n21 < (r18.2.2.2.1).length) <|
  f3_L1 x13 r18 r20 n21 K2 FUEL (0, l22)
  ) else (
  K1 l22
  )
def f3_L3 (x13 : BitVec 16) (x15 : Int) (r18 : List UInt8 × Int × BitVec 16 × List (BitVec 16) × List (BitVec 16) × (List Tq0)) (r19 : List Tq0) (r29 : Int × List (BitVec 16)) (n31 : Nat) (K4 : Unit → Option Bool) : Nat → Nat → Option Bool
 | 0, _ => none
 | k + 1, n32 =>
  if (decide ((n32 : Int) < (((r18.2.2.2.1).length : Nat) : Int))) then (
  chk ((n32 : Int) < (((r18.2.2.2.1).length : Nat) : Int)) <|
  chk (n32 < (r18.2.2.2.1).length) <|
  if (((((r29.2.getD n31 0#16) &&& (r18.2.2.2.1.getD n32 0#16)) &&& ~~~(r19.getD (((x15 % (((r19).length : Nat) : Int))).toNat) (default : Tq0)).1) &&& ~~~x13) == (BitVec.ofInt 16 0)) then (
  some false
  ) else (
  chk (((n32 : Int) + (1 : Int)) ≤ 9223372036854775807) <|
  (f3_L3 x13 x15 r18 r19 r29 n31 K4 k) (n32 + 1)
  )
  ) else (
  K4 ()
  )
def f3_L2 (x13 : BitVec 16) (x15 : Int) (r18 : List UInt8 × Int × BitVec 16 × List (BitVec 16) × List (BitVec 16) × (List Tq0)) (r19 : List Tq0) (r29 : Int × List (BitVec 16)) (K3 : Unit → Option Bool) : Nat → Nat → Option Bool
 | 0, _ => none
 | k + 1, n31 =>
  if (decide ((n31 : Int) < (((r29.2).length : Nat) : Int))) then (
  jn (fun (_ : Unit) =>
  chk (((n31 : Int) + (1 : Int)) ≤ 9223372036854775807) <|
  (f3_L2 x13 x15 r18 r19 r29 K3 k) (n31 + 1)
  ) fun (K4 : Unit → Option Bool) =>
  chk ((n31 : Int) < (((r29.2).length : Nat) : Int)) <|
  chk (n31 < (r29.2).length) <|
  f3_L3 x13 x15 r18 r19 r29 n31 K4 FUEL 0
  ) else (
  K3 ()
  )
abbrev f3z0 (x1 : Int) (x2 : Int) (x3 : Int) (x4 : List (TB)) (x5 : List (TB)) (x6 : List Tq0) (x7 : Int) (x8 : Int) (x9 : Int) (x10 : List (TB)) (x11 : List (TB)) (x12 : List Tq0) (x13 : TB) (x14 : List Tq0) : List V := [.int .u8 x1, .int .u8 x2, .int .u8 x3, vL 1 eW 0#16 x4, vL 1 eW 0#16 x5, vL 2 eWW (default : Tq0) x6, .int .u8 x7, .int .u8 x8, .int .u8 x9, vL 1 eW 0#16 x10, vL 1 eW 0#16 x11, vL 2 eWW (default : Tq0) x12, .b16 x13, vL 2 eWW (default : Tq0) x14]
abbrev f3z1 (x1 : Int) (x2 : Int) (x3 : Int) (x4 : List (TB)) (x5 : List (TB)) (x6 : List Tq0) (x7 : Int) (x8 : Int) (x9 : Int) (x10 : List (TB)) (x11 : List (TB)) (x12 : List Tq0) (x13 : TB) (x14 : List Tq0) (r18 : List UInt8 × Int × TB × List (TB) × List (TB) × (List Tq0)) (r19 : List Tq0) (r29 : Int × List (TB)) : Heap := [(2, .cells 29 (f3z0 x1 x2 x3 x4 x5 x6 x7 x8 x9 x10 x11 x12 x13 x14)), (5, .cells 33 [.str r18.1, .int .i64 r18.2.1, .b16 r18.2.2.1, .own 6001, .own 6002, .own 6003]), (6001, bL 27 1 eW 0#16 r18.2.2.2.1), (6002, bL 27 1 eW 0#16 r18.2.2.2.2.1), (6003, bL 43 2 eWW (default : Tq0) r18.2.2.2.2.2), (6004, bL 43 2 eWW (default : Tq0) r19), (6006, bL 27 1 eW 0#16 r29.2)]
abbrev f3z2 (r18 : List UInt8 × Int × TB × List (TB) × List (TB) × (List Tq0)) : List V := [.str r18.1, .int .i64 r18.2.1, .b16 r18.2.2.1, .own 6001, .own 6002, .own 6003]
abbrev f3z3 (x1 : Int) (x2 : Int) (x3 : Int) (x4 : List (TB)) (x5 : List (TB)) (x6 : List Tq0) (x7 : Int) (x8 : Int) (x9 : Int) (x10 : List (TB)) (x11 : List (TB)) (x12 : List Tq0) (x13 : TB) (x14 : List Tq0) (r18 : List UInt8 × Int × TB × List (TB) × List (TB) × (List Tq0)) (l22 : List (TB)) (r19 : List Tq0) (r20 : List (TB)) : Heap := [(2, .cells 29 (f3z0 x1 x2 x3 x4 x5 x6 x7 x8 x9 x10 x11 x12 x13 x14)), (5, .cells 33 (f3z2 r18)), (5008, bL 27 1 eW 0#16 l22), (6001, bL 27 1 eW 0#16 r18.2.2.2.1), (6002, bL 27 1 eW 0#16 r18.2.2.2.2.1), (6003, bL 43 2 eWW (default : Tq0) r18.2.2.2.2.2), (6004, bL 43 2 eWW (default : Tq0) r19), (6005, bL 27 1 eW 0#16 r20)]
abbrev f3z4 (r27 : List (TB) × Int) (r28 : List (TB) × Int) (r29 : Int × List (TB)) := (((r27.2 != (0 : Int)) || (r28.2 != (0 : Int))) || (r29.1 != (0 : Int)))
abbrev f3z5 (x1 : Int) (x2 : Int) (x3 : Int) (x4 : List (TB)) (x5 : List (TB)) (x6 : List Tq0) (x7 : Int) (x8 : Int) (x9 : Int) (x10 : List (TB)) (x11 : List (TB)) (x12 : List Tq0) (x13 : TB) (x14 : List Tq0) (r18 : List UInt8 × Int × TB × List (TB) × List (TB) × (List Tq0)) (l24 : List (TB)) (r19 : List Tq0) (r20 : List (TB)) : Heap := [(2, .cells 29 (f3z0 x1 x2 x3 x4 x5 x6 x7 x8 x9 x10 x11 x12 x13 x14)), (5, .cells 33 (f3z2 r18)), (5008, bL 27 1 eW 0#16 l24), (6001, bL 27 1 eW 0#16 r18.2.2.2.1), (6002, bL 27 1 eW 0#16 r18.2.2.2.2.1), (6003, bL 43 2 eWW (default : Tq0) r18.2.2.2.2.2), (6004, bL 43 2 eWW (default : Tq0) r19), (6005, bL 27 1 eW 0#16 r20)]
abbrev f3z6 (x1 : Int) (x2 : Int) (x3 : Int) (x4 : List (TB)) (x5 : List (TB)) (x6 : List Tq0) (x7 : Int) (x8 : Int) (x9 : Int) (x10 : List (TB)) (x11 : List (TB)) (x12 : List Tq0) (x13 : TB) (x14 : List Tq0) (r18 : List UInt8 × Int × TB × List (TB) × List (TB) × (List Tq0)) (r19 : List Tq0) (r20 : List (TB)) : Heap := [(2, .cells 29 (f3z0 x1 x2 x3 x4 x5 x6 x7 x8 x9 x10 x11 x12 x13 x14)), (5, .cells 33 (f3z2 r18)), (6001, bL 27 1 eW 0#16 r18.2.2.2.1), (6002, bL 27 1 eW 0#16 r18.2.2.2.2.1), (6003, bL 43 2 eWW (default : Tq0) r18.2.2.2.2.2), (6004, bL 43 2 eWW (default : Tq0) r19), (6005, bL 27 1 eW 0#16 r20)]
abbrev f3z7 (x1 : Int) (x2 : Int) (x3 : Int) (x4 : List (TB)) (x5 : List (TB)) (x6 : List Tq0) (x7 : Int) (x8 : Int) (x9 : Int) (x10 : List (TB)) (x11 : List (TB)) (x12 : List Tq0) (x13 : TB) (x14 : List Tq0) (r18 : List UInt8 × Int × TB × List (TB) × List (TB) × (List Tq0)) (r19 : List Tq0) : Heap := [(2, .cells 29 (f3z0 x1 x2 x3 x4 x5 x6 x7 x8 x9 x10 x11 x12 x13 x14)), (5, .cells 33 (f3z2 r18)), (6001, bL 27 1 eW 0#16 r18.2.2.2.1), (6002, bL 27 1 eW 0#16 r18.2.2.2.2.1), (6003, bL 43 2 eWW (default : Tq0) r18.2.2.2.2.2), (6004, bL 43 2 eWW (default : Tq0) r19)]
abbrev f3z8 (r18 : List UInt8 × Int × TB × List (TB) × List (TB) × (List Tq0)) (r19 : List Tq0) : Heap := [(6001, bL 27 1 eW 0#16 r18.2.2.2.1), (6002, bL 27 1 eW 0#16 r18.2.2.2.2.1), (6003, bL 43 2 eWW (default : Tq0) r18.2.2.2.2.2), (6004, bL 43 2 eWW (default : Tq0) r19)]
abbrev f3z9 (r18 : List UInt8 × Int × TB × List (TB) × List (TB) × (List Tq0)) : List V := [.str r18.1, .int .i64 r18.2.1, .b16 r18.2.2.1, vL 1 eW 0#16 r18.2.2.2.1, vL 1 eW 0#16 r18.2.2.2.2.1, vL 2 eWW (default : Tq0) r18.2.2.2.2.2]
abbrev f3z10 (x1 : Int) (x2 : Int) (x3 : Int) (x4 : List (TB)) (x5 : List (TB)) (x6 : List Tq0) (x7 : Int) (x8 : Int) (x9 : Int) (x10 : List (TB)) (x11 : List (TB)) (x12 : List Tq0) (x13 : TB) (x14 : List Tq0) (r18 : List UInt8 × Int × TB × List (TB) × List (TB) × (List Tq0)) (l24 : List (TB)) (n21 : Nat) (r20 : List (TB)) (n23 : Nat) (r19 : List Tq0) : Heap := [(2, .cells 29 (f3z0 x1 x2 x3 x4 x5 x6 x7 x8 x9 x10 x11 x12 x13 x14)), (5, .cells 33 (f3z2 r18)), (5008, bL 27 1 eW 0#16 (l24 ++ [(((r18.2.2.2.1.getD n21 0#16) &&& ~~~(r20.getD n23 0#16)) &&& ~~~x13)])), (6001, bL 27 1 eW 0#16 r18.2.2.2.1), (6002, bL 27 1 eW 0#16 r18.2.2.2.2.1), (6003, bL 43 2 eWW (default : Tq0) r18.2.2.2.2.2), (6004, bL 43 2 eWW (default : Tq0) r19), (6005, bL 27 1 eW 0#16 r20)]
def f3 (x1 : Int) (x2 : Int) (x3 : Int) (x4 : List (BitVec 16)) (x5 : List (BitVec 16)) (x6 : List Tq0) (x7 : Int) (x8 : Int) (x9 : Int) (x10 : List (BitVec 16)) (x11 : List (BitVec 16)) (x12 : List Tq0) (x13 : BitVec 16) (x14 : List Tq0) (x15 : Int) : Option Bool :=
 (f4 ).bind fun (r16 : Bool) =>
 if ((!r16) || (decide ((((x14).length : Nat) : Int) > (20 : Int)))) then (
 (f4 ).bind fun (r17 : Bool) =>
 some r17
 ) else (
 (f5 x1 x2 x3 x4 x5 x6 ([99] : List UInt8)).bind fun (r18 : List UInt8 × Int × TB × List (TB) × List (TB) × (List Tq0)) =>
 (f6 (5 : Int) x14).bind fun (r19 : List Tq0) =>
 (f7 r18.1 r18.2.1 r18.2.2.1 r18.2.2.2.1 r18.2.2.2.2.1 r18.2.2.2.2.2 r19).bind fun (r20 : List (TB)) =>
 jn (fun (l26 : List (BitVec 16)) =>
 (f8 l26).bind fun (r27 : List (TB) × Int) =>
 (f9 r27.1).bind fun (r28 : List (TB) × Int) =>
 (f10 r18.1 r18.2.1 r18.2.2.1 r18.2.2.2.1 r18.2.2.2.2.1 r18.2.2.2.2.2 x13 r19).bind fun (r29 : Int × List (TB)) =>
 optc ((((r27.2 != (0 : Int)) || (r28.2 != (0 : Int))) || (r29.1 != (0 : Int))) == false) (f11 r29.2 r28.1) fun (r30 : Bool) =>
 if ((((r27.2 != (0 : Int)) || (r28.2 != (0 : Int))) || (r29.1 != (0 : Int))) || (!r30)) then (
 some false
 ) else (
 chk (-9223372036854775808 ≤ x15 ∧ x15 ≤ 9223372036854775807) <|
 chk (0 ≤ x15 ∧ 1 ≤ (((r19).length : Nat) : Int)) <|
 chk (0 ≤ (x15 % (((r19).length : Nat) : Int)) ∧ (x15 % (((r19).length : Nat) : Int)) < (((r19).length : Nat) : Int)) <|
 chk ((((x15 % (((r19).length : Nat) : Int))).toNat) < (r19).length) <|
 jn (fun (_ : Unit) =>
 (f12 r18.1 r18.2.1 r18.2.2.1 r18.2.2.2.1 r18.2.2.2.2.1 r18.2.2.2.2.2 x13 r19).bind fun (r33 : Bool) =>
 optc ((!r33) == false) (f13 r18.2.2.2.2.1 r29.2) fun (r34 : Bool) =>
 some ((!r33) || r34)
 ) fun (K3 : Unit → Option Bool) =>
 f3_L2 x13 x15 r18 r19 r29 K3 FUEL 0
 )
 ) fun (K1 : (List (TB)) → Option Bool) =>
 f3_L0 x13 r18 r20 K1 FUEL (0, [])
 )
theorem f3_ok  (x1 : Int) (x2 : Int) (x3 : Int) (x4 : List (TB)) (x5 : List (TB)) (x6 : List Tq0) (x7 : Int) (x8 : Int) (x9 : Int) (x10 : List (TB)) (x11 : List (TB)) (x12 : List Tq0) (x13 : TB) (x14 : List Tq0) (x15 : Int) (r : Bool) (h : f3 x1 x2 x3 x4 x5 x6 x7 x8 x9 x10 x11 x12 x13 x14 x15 = some r)  : Spec1 Tryz.prog 3 [(0, .elem 32 1 T0F 0 0)] [] [] [.agg [.int .u8 x1, .int .u8 x2, .int .u8 x3, vL 1 eW 0#16 x4, vL 1 eW 0#16 x5, vL 2 eWW (default : Tq0) x6, .int .u8 x7, .int .u8 x8, .int .u8 x9, vL 1 eW 0#16 x10, vL 1 eW 0#16 x11, vL 2 eWW (default : Tq0) x12, .b16 x13, vL 2 eWW (default : Tq0) x14], .int .u8 x15] (.bool r) [] := by
 unfold f3 at h
 refine Spec1.body 0 _ _ Tryz.func3 rfl Tryz.ntmps3 rfl rfl ?_
 refine q2rq [] [] ⟨145, [(1, .int .u8 x15), (2, .ptr 2 0), (1000000, .elem 32 1 T0F 0 0)], [(2, .cells 29 (f3z0 x1 x2 x3 x4 x5 x6 x7 x8 x9 x10 x11 x12 x13 x14))], [], 0⟩ trivial ?_
 refine AWp.seq ?_
 refine AWp.seq ?_
 obtain ⟨r16, hr16, h⟩ := bind_ok h
 have ob0 := idA (((!r16) == false) = true)
 have ob1 := idA (((!r16) == false) = true)
 have ob2 := idA (((!r16) == false) = true)
 have ob3 := bqA (!r16) false
 refine q2rr [] [(0, ⟨[], [], [], [], .bool r16, [], [], [0]⟩)] ⟨145, [(1, .int .u8 x15), (2, .ptr 2 0), (31, .bool ((!r16) || (decide ((lZ x14) > (20 : Int))))), (1000000, .elem 32 1 T0F 0 0)], [(2, .cells 29 (f3z0 x1 x2 x3 x4 x5 x6 x7 x8 x9 x10 x11 x12 x13 x14))], [], 0⟩ (an5 (cpT (f4_ok _ hr16)) (an1 ob0) (an1 ob1) (an1 ob2) ob3) ?_
 refine tN ?_
 refine AWp.cond (b := ((!r16) || (decide ((lZ x14) > (20 : Int))))) (by kernel_rfl) (fun hc1 => ?_) (fun hc1 => ?_)
 ·
  replace h := ite_tb hc1 h
  refine AWp.seq ?_
  obtain ⟨r17, hr17, h⟩ := bind_ok h
  refine q2rr [] [(0, ⟨[], [], [], [], .bool r17, [], [], [0]⟩)] ⟨145, [(4, .bool r17), (1000000, .elem 32 1 T0F 0 0)], [], [], 0⟩ (an1 (cpT (f4_ok _ hr17))) ?_
  refine tN ?_
  have hret := oJ h
  subst hret
  refine AWp.le (Le.mk (s' := ⟨145, [(4, .bool r17)], [], [], 0⟩) rfl rfl ⟨.refl _, trivial⟩ trivial) ?_
  refine AWp.ret ?_
  refine tR ?_
  exact bR _ rfl ⟨rfl, rfl⟩ rfl
 ·
  replace h := ite_fb hc1 h
  refine AWp.skip ?_
  refine tN ?_
  refine AWp.seq ?_
  obtain ⟨r18, hr18, h⟩ := bind_ok h
  obtain ⟨r19, hr19, h⟩ := bind_ok h
  refine q2rr [] [(2, ⟨[.agg [.int .u8 x1, .int .u8 x2, .int .u8 x3, q2aW x4, q2aW x5, q2aWW x6], .str ([99] : List UInt8)], [], [], [(6001, q2bW_27 r18.2.2.2.1), (6002, q2bW_27 r18.2.2.2.2.1), (6003, q2bWW_43 r18.2.2.2.2.2)], .agg (f3z2 r18), [6001, 6002, 6003], [], []⟩), (5, ⟨[.i (5 : Int), q2aWW x14], [], [], [(6004, q2bWW_43 r19)], .own 6004, [6004], [], []⟩)] ⟨145, [(1, .int .u8 x15), (2, .ptr 2 0), (5, .ptr 5 0), (6, .own 6004), (1000000, .elem 32 1 T0F 0 0)], (f3z7 x1 x2 x3 x4 x5 x6 x7 x8 x9 x10 x11 x12 x13 x14 r18 r19), [], 0⟩ (an3 (cpT (Spec1.ren (swapN 3002 6003) (swapN_inv 3002 6003) rfl (Spec1.ren (swapN 3001 6002) (swapN_inv 3001 6002) rfl (Spec1.ren (swapN 3000 6001) (swapN_inv 3000 6001) rfl (f5_ok _ _ _ _ _ _ _ _ hr18))))) (cpT (Spec1.ren (swapN 3000 6004) (swapN_inv 3000 6004) rfl (f6_ok _ _ _ hr19))) trivial) ?_
  refine tN ?_
  refine AWp.seq ?_
  obtain ⟨r20, hr20, h⟩ := bind_ok h
  refine q2rr [] [(2, ⟨[.agg (f3z9 r18), q2aWW r19], [], [], [(6005, q2bW_27 r20)], .own 6005, [6005], [6001, 6002, 6003, 6004], []⟩)] ⟨145, [(1, .int .u8 x15), (2, .ptr 2 0), (5, .ptr 5 0), (6, .own 6004), (7, .own 6005), (1000000, .elem 32 1 T0F 0 0)], (f3z6 x1 x2 x3 x4 x5 x6 x7 x8 x9 x10 x11 x12 x13 x14 r18 r19 r20), [], 0⟩ (an1 (cpL (c := true) (f3z8 r18 r19) [6001, 6002, 6003, 6004] [.agg (f3z2 r18), .own 6004] (fun _ => (Spec1.ren (swapN 3000 6005) (swapN_inv 3000 6005) rfl (f7_ok _ _ _ _ _ _ _ _ hr20))) (fun _ => ⟨.refl _, .refl _, trivial⟩) (.inr ⟨rfl, ⟨(fun _ _ _ _ => eW_flat _ _), trivial⟩⟩))) ?_
  refine tN ?_
  refine q2rq [] [] ⟨145, [(1, .int .u8 x15), (2, .ptr 2 0), (5, .ptr 5 0), (6, .own 6004), (7, .own 6005), (8, .nils), (1000000, .elem 32 1 T0F 0 0)], (f3z6 x1 x2 x3 x4 x5 x6 x7 x8 x9 x10 x11 x12 x13 x14 r18 r19 r20), [], 0⟩ trivial ?_
  obtain ⟨K1, hK1, h⟩ := jn_some h
  refine AWp.join (α := List (TB)) (fun (l26 : List (TB)) => ⟨145, [(1, .int .u8 x15), (2, .ptr 2 0), (5, .ptr 5 0), (6, .own 6004), (8, .own 5008), (1000000, .elem 32 1 T0F 0 0)], [(2, .cells 29 (f3z0 x1 x2 x3 x4 x5 x6 x7 x8 x9 x10 x11 x12 x13 x14)), (5, .cells 33 (f3z2 r18)), (5008, q2bW_27 l26), (6001, q2bW_27 r18.2.2.2.1), (6002, q2bW_27 r18.2.2.2.2.1), (6003, q2bWW_43 r18.2.2.2.2.2), (6004, q2bWW_43 r19)], [], 0⟩) (fun x => K1 x = some r) ?_ ?_
  ·
   refine q2rq [] [] ⟨145, [(1, .int .u8 x15), (2, .ptr 2 0), (5, .ptr 5 0), (6, .own 6004), (7, .own 6005), (8, .nils), (43, .own 6001), (44, .i (lZ r18.2.2.2.1)), (45, .i (0 : Int)), (1000000, .elem 32 1 T0F 0 0)], (f3z6 x1 x2 x3 x4 x5 x6 x7 x8 x9 x10 x11 x12 x13 x14 r18 r19 r20), [], 0⟩ trivial ?_
   refine AWp.block ?_
   refine AWp.loopL (α := Nat × Tq1) (fun x => match x with | (_, n21, l22) => ⟨145, [(1, .int .u8 x15), (2, .ptr 2 0), (5, .ptr 5 0), (6, .own 6004), (7, .own 6005), (8, .own 5008), (43, .own 6001), (44, .i (lZ r18.2.2.2.1)), (45, .i (n21 : Int)), (1000000, .elem 32 1 T0F 0 0)], (f3z3 x1 x2 x3 x4 x5 x6 x7 x8 x9 x10 x11 x12 x13 x14 r18 l22 r19 r20), [], 0⟩) (fun x => f3_L0 x13 r18 r20 K1 x.1 x.2 = some r) (fun x => x.1) (FUEL, 0, []) (Le.trans (Le.trans (Le.nilOwn 8 5008 27 1 (encF eW 0#16 []) rfl rfl (Nat.le_of_ble_eq_true rfl)) (Le.mk (s' := ⟨145, [(1, .int .u8 x15), (2, .ptr 2 0), (5, .ptr 5 0), (6, .own 6004), (7, .own 6005), (8, .own 5008), (43, .own 6001), (44, .i (lZ r18.2.2.2.1)), (45, .i (0 : Int)), (1000000, .elem 32 1 T0F 0 0)], [(2, .cells 29 (f3z0 x1 x2 x3 x4 x5 x6 x7 x8 x9 x10 x11 x12 x13 x14)), (5, .cells 33 (f3z2 r18)), (6001, q2bW_27 r18.2.2.2.1), (6002, q2bW_27 r18.2.2.2.2.1), (6003, q2bWW_43 r18.2.2.2.2.2), (6004, q2bWW_43 r19), (6005, q2bW_27 r20), (5008, q2bW_27 [])], [], 0⟩) rfl rfl ⟨.refl _, .refl _, .refl _, .refl _, .refl _, .refl _, .refl _, .refl _, .refl _, .refl _, trivial⟩ ⟨⟨_, rfl, .refl _⟩, ⟨_, rfl, .refl _⟩, ⟨_, rfl, .refl _⟩, ⟨_, rfl, .refl _⟩, ⟨_, rfl, .refl _⟩, ⟨_, rfl, .refl _⟩, ⟨_, rfl, .refl _⟩, ⟨_, rfl, .refl _⟩, trivial⟩)) (Le.mk (s' := ⟨145, [(1, .int .u8 x15), (2, .ptr 2 0), (5, .ptr 5 0), (6, .own 6004), (7, .own 6005), (8, .own 5008), (43, .own 6001), (44, .i (lZ r18.2.2.2.1)), (45, .i (0 : Int)), (1000000, .elem 32 1 T0F 0 0)], [(2, .cells 29 (f3z0 x1 x2 x3 x4 x5 x6 x7 x8 x9 x10 x11 x12 x13 x14)), (5, .cells 33 (f3z2 r18)), (5008, q2bW_27 []), (6001, q2bW_27 r18.2.2.2.1), (6002, q2bW_27 r18.2.2.2.2.1), (6003, q2bWW_43 r18.2.2.2.2.2), (6004, q2bWW_43 r19), (6005, q2bW_27 r20)], [], 0⟩) rfl rfl ⟨.refl _, .refl _, .refl _, .refl _, .refl _, .refl _, .refl _, .refl _, .refl _, .refl _, trivial⟩ ⟨⟨_, rfl, .refl _⟩, ⟨_, rfl, .refl _⟩, ⟨_, rfl, .refl _⟩, ⟨_, rfl, .refl _⟩, ⟨_, rfl, .refl _⟩, ⟨_, rfl, .refl _⟩, ⟨_, rfl, .refl _⟩, ⟨_, rfl, .refl _⟩, trivial⟩)) h ?_
   rintro ⟨k0, n21, l22⟩ h
   cases k0 with
   | zero => exact nomatch (show (none : Option Bool) = some r from h)
   | succ k0 =>
   obtain ⟨C0, hC0⟩ : ∃ C, C = f3_L0 x13 r18 r20 K1 k0 := ⟨_, rfl⟩
   replace h := (f3_L0.eq_2 ..).symm.trans h
   try rw [← hC0] at h
   refine q2rq [] [] ⟨145, [(1, .int .u8 x15), (2, .ptr 2 0), (5, .ptr 5 0), (6, .own 6004), (7, .own 6005), (8, .own 5008), (43, .own 6001), (44, .i (lZ r18.2.2.2.1)), (45, .i (n21 : Int)), (46, .bool (decide ((n21 : Int) < (lZ r18.2.2.2.1)))), (1000000, .elem 32 1 T0F 0 0)], (f3z3 x1 x2 x3 x4 x5 x6 x7 x8 x9 x10 x11 x12 x13 x14 r18 l22 r19 r20), [], 0⟩ trivial ?_
   refine AWp.seq ?_
   refine AWp.cond (b := (decide ((n21 : Int) < (lZ r18.2.2.2.1)))) (by kernel_rfl) (fun hc2 => ?_) (fun hc2 => ?_)
   ·
    replace h := ite_tb hc2 h
    refine AWp.skip ?_
    refine tN ?_
    obtain ⟨K2, hK2, h⟩ := jn_some h
    refine AWp.join (α := List (TB)) (fun (l25 : List (TB)) => ⟨145, [(1, .int .u8 x15), (2, .ptr 2 0), (5, .ptr 5 0), (6, .own 6004), (7, .own 6005), (8, .own 5008), (43, .own 6001), (44, .i (lZ r18.2.2.2.1)), (45, .i (n21 : Int)), (1000000, .elem 32 1 T0F 0 0)], [(2, .cells 29 (f3z0 x1 x2 x3 x4 x5 x6 x7 x8 x9 x10 x11 x12 x13 x14)), (5, .cells 33 (f3z2 r18)), (5008, q2bW_27 l25), (6001, q2bW_27 r18.2.2.2.1), (6002, q2bW_27 r18.2.2.2.2.1), (6003, q2bWW_43 r18.2.2.2.2.2), (6004, q2bWW_43 r19), (6005, q2bW_27 r20)], [], 0⟩) (fun x => K2 x = some r) ?_ ?_
    ·
     refine AWp.block ?_
     refine AWp.seq ?_
     obtain ⟨ob4p, h⟩ := chk_some h
     have ob4 : 0 ≤ (n21 : Int) ∧ (n21 : Int) < (((r18.2.2.2.1).length : Nat) : Int) := ⟨by omega, ob4p⟩
     obtain ⟨ob5, h⟩ := chk_some h
     refine q2rr [] [] ⟨145, [(1, .int .u8 x15), (2, .ptr 2 0), (5, .ptr 5 0), (6, .own 6004), (7, .own 6005), (8, .own 5008), (10, .b16 (r18.2.2.2.1.getD n21 0#16)), (43, .own 6001), (44, .i (lZ r18.2.2.2.1)), (45, .i (n21 : Int)), (1000000, .elem 32 1 T0F 0 0)], (f3z3 x1 x2 x3 x4 x5 x6 x7 x8 x9 x10 x11 x12 x13 x14 r18 l22 r19 r20), [], 0⟩ (an2 ob4 ob5) ?_
     refine tN ?_
     refine q2rq [] [] ⟨145, [(1, .int .u8 x15), (2, .ptr 2 0), (5, .ptr 5 0), (6, .own 6004), (7, .own 6005), (8, .own 5008), (10, .b16 (r18.2.2.2.1.getD n21 0#16)), (43, .own 6001), (44, .i (lZ r18.2.2.2.1)), (45, .i (n21 : Int)), (49, .own 6005), (50, .i (lZ r20)), (51, .i (0 : Int)), (1000000, .elem 32 1 T0F 0 0)], (f3z3 x1 x2 x3 x4 x5 x6 x7 x8 x9 x10 x11 x12 x13 x14 r18 l22 r19 r20), [], 0⟩ trivial ?_
     refine AWp.block ?_
     refine AWp.loopL (α := Nat × Tq1) (fun x => match x with | (_, n23, l24) => ⟨145, [(1, .int .u8 x15), (2, .ptr 2 0), (5, .ptr 5 0), (6, .own 6004), (7, .own 6005), (8, .own 5008), (10, .b16 (r18.2.2.2.1.getD n21 0#16)), (43, .own 6001), (44, .i (lZ r18.2.2.2.1)), (45, .i (n21 : Int)), (49, .own 6005), (50, .i (lZ r20)), (51, .i (n23 : Int)), (1000000, .elem 32 1 T0F 0 0)], (f3z5 x1 x2 x3 x4 x5 x6 x7 x8 x9 x10 x11 x12 x13 x14 r18 l24 r19 r20), [], 0⟩) (fun x => f3_L1 x13 r18 r20 n21 K2 x.1 x.2 = some r) (fun x => x.1) (FUEL, 0, l22) (Le.mk (s' := ⟨145, [(1, .int .u8 x15), (2, .ptr 2 0), (5, .ptr 5 0), (6, .own 6004), (7, .own 6005), (8, .own 5008), (10, .b16 (r18.2.2.2.1.getD n21 0#16)), (43, .own 6001), (44, .i (lZ r18.2.2.2.1)), (45, .i (n21 : Int)), (49, .own 6005), (50, .i (lZ r20)), (51, .i (0 : Int)), (1000000, .elem 32 1 T0F 0 0)], (f3z3 x1 x2 x3 x4 x5 x6 x7 x8 x9 x10 x11 x12 x13 x14 r18 l22 r19 r20), [], 0⟩) rfl rfl ⟨.refl _, .refl _, .refl _, .refl _, .refl _, .refl _, .refl _, .refl _, .refl _, .refl _, .refl _, .refl _, .refl _, .refl _, trivial⟩ ⟨⟨_, rfl, .refl _⟩, ⟨_, rfl, .refl _⟩, ⟨_, rfl, .refl _⟩, ⟨_, rfl, .refl _⟩, ⟨_, rfl, .refl _⟩, ⟨_, rfl, .refl _⟩, ⟨_, rfl, .refl _⟩, ⟨_, rfl, .refl _⟩, trivial⟩) h ?_
     rintro ⟨k1, n23, l24⟩ h
     cases k1 with
     | zero => exact nomatch (show (none : Option Bool) = some r from h)
     | succ k1 =>
     obtain ⟨C1, hC1⟩ : ∃ C, C = f3_L1 x13 r18 r20 n21 K2 k1 := ⟨_, rfl⟩
     replace h := (f3_L1.eq_2 ..).symm.trans h
     try rw [← hC1] at h
     refine q2rq [] [] ⟨145, [(1, .int .u8 x15), (2, .ptr 2 0), (5, .ptr 5 0), (6, .own 6004), (7, .own 6005), (8, .own 5008), (10, .b16 (r18.2.2.2.1.getD n21 0#16)), (43, .own 6001), (44, .i (lZ r18.2.2.2.1)), (45, .i (n21 : Int)), (49, .own 6005), (50, .i (lZ r20)), (51, .i (n23 : Int)), (52, .bool (decide ((n23 : Int) < (lZ r20)))), (1000000, .elem 32 1 T0F 0 0)], (f3z5 x1 x2 x3 x4 x5 x6 x7 x8 x9 x10 x11 x12 x13 x14 r18 l24 r19 r20), [], 0⟩ trivial ?_
     refine AWp.seq ?_
     refine AWp.cond (b := (decide ((n23 : Int) < (lZ r20)))) (by kernel_rfl) (fun hc3 => ?_) (fun hc3 => ?_)
     ·
      replace h := ite_tb hc3 h
      refine AWp.skip ?_
      refine tN ?_
      refine AWp.seq ?_
      refine AWp.block ?_
      refine AWp.seq ?_
      obtain ⟨ob6p, h⟩ := chk_some h
      have ob6 : 0 ≤ (n23 : Int) ∧ (n23 : Int) < (((r20).length : Nat) : Int) := ⟨by omega, ob6p⟩
      obtain ⟨ob7, h⟩ := chk_some h
      refine q2rr [] [] ⟨145, [(1, .int .u8 x15), (2, .ptr 2 0), (5, .ptr 5 0), (6, .own 6004), (7, .own 6005), (8, .own 5008), (10, .b16 (r18.2.2.2.1.getD n21 0#16)), (12, .b16 (r20.getD n23 0#16)), (43, .own 6001), (44, .i (lZ r18.2.2.2.1)), (45, .i (n21 : Int)), (49, .own 6005), (50, .i (lZ r20)), (51, .i (n23 : Int)), (1000000, .elem 32 1 T0F 0 0)], (f3z5 x1 x2 x3 x4 x5 x6 x7 x8 x9 x10 x11 x12 x13 x14 r18 l24 r19 r20), [], 0⟩ (an2 ob6 ob7) ?_
      refine tN ?_
      obtain ⟨ob8, h⟩ := chk_some h
      refine q2rr [] [] ⟨145, [(1, .int .u8 x15), (2, .ptr 2 0), (5, .ptr 5 0), (6, .own 6004), (7, .own 6005), (8, .own 5008), (10, .b16 (r18.2.2.2.1.getD n21 0#16)), (43, .own 6001), (44, .i (lZ r18.2.2.2.1)), (45, .i (n21 : Int)), (49, .own 6005), (50, .i (lZ r20)), (51, .i (n23 : Int)), (1000000, .elem 32 1 T0F 0 0)], [(2, .cells 29 (f3z0 x1 x2 x3 x4 x5 x6 x7 x8 x9 x10 x11 x12 x13 x14)), (5, .cells 33 (f3z2 r18)), (5008, .rows 27 1 ((l24).length + 1) (appF (l24).length (encF eW 0#16 l24) (lstF 1 [.b16 (((r18.2.2.2.1.getD n21 0#16) &&& ~~~(r20.getD n23 0#16)) &&& ~~~x13)]))), (6001, q2bW_27 r18.2.2.2.1), (6002, q2bW_27 r18.2.2.2.2.1), (6003, q2bWW_43 r18.2.2.2.2.2), (6004, q2bWW_43 r19), (6005, q2bW_27 r20)], [], 0⟩ (an1 ob8) ?_
      refine kN ?_
      refine tN ?_
      refine AWp.le (Le.mk (s' := ⟨145, [(1, .int .u8 x15), (2, .ptr 2 0), (5, .ptr 5 0), (6, .own 6004), (7, .own 6005), (8, .own 5008), (10, .b16 (r18.2.2.2.1.getD n21 0#16)), (43, .own 6001), (44, .i (lZ r18.2.2.2.1)), (45, .i (n21 : Int)), (49, .own 6005), (50, .i (lZ r20)), (51, .i (n23 : Int)), (1000000, .elem 32 1 T0F 0 0)], (f3z10 x1 x2 x3 x4 x5 x6 x7 x8 x9 x10 x11 x12 x13 x14 r18 l24 n21 r20 n23 r19), [], 0⟩) rfl rfl ⟨.refl _, .refl _, .refl _, .refl _, .refl _, .refl _, .refl _, .refl _, .refl _, .refl _, .refl _, .refl _, .refl _, .refl _, trivial⟩ ⟨⟨_, rfl, .refl _⟩, ⟨_, rfl, .refl _⟩, ⟨_, rfl, (BLe.of (RL.app (RL.self _) (RL.lst (enc := eW) [(((r18.2.2.2.1.getD n21 0#16) &&& ~~~(r20.getD n23 0#16)) &&& ~~~x13)] rfl rfl (fun _ => rfl))))⟩, ⟨_, rfl, .refl _⟩, ⟨_, rfl, .refl _⟩, ⟨_, rfl, .refl _⟩, ⟨_, rfl, .refl _⟩, ⟨_, rfl, .refl _⟩, trivial⟩) ?_
      obtain ⟨ob9p, h⟩ := chk_some h
      have ob9 : -9223372036854775808 ≤ ((n23 : Int) + (1 : Int)) ∧ ((n23 : Int) + (1 : Int)) ≤ 9223372036854775807 := ⟨by omega, ob9p⟩
      refine q2rr [] [] ⟨145, [(1, .int .u8 x15), (2, .ptr 2 0), (5, .ptr 5 0), (6, .own 6004), (7, .own 6005), (8, .own 5008), (10, .b16 (r18.2.2.2.1.getD n21 0#16)), (43, .own 6001), (44, .i (lZ r18.2.2.2.1)), (45, .i (n21 : Int)), (49, .own 6005), (50, .i (lZ r20)), (51, .i (((n23 + 1) : Nat) : Int)), (1000000, .elem 32 1 T0F 0 0)], (f3z10 x1 x2 x3 x4 x5 x6 x7 x8 x9 x10 x11 x12 x13 x14 r18 l24 n21 r20 n23 r19), [], 0⟩ (an1 ob9) ?_
      rw [hC1] at h
      exact lN (_, (n23 + 1), (l24 ++ [(((r18.2.2.2.1.getD n21 0#16) &&& ~~~(r20.getD n23 0#16)) &&& ~~~x13)])) (Le.mk rfl rfl ⟨.refl _, .refl _, .refl _, .refl _, .refl _, .refl _, .refl _, .refl _, .refl _, .refl _, .refl _, .refl _, .refl _, .refl _, trivial⟩ ⟨⟨_, rfl, .refl _⟩, ⟨_, rfl, .refl _⟩, ⟨_, rfl, .refl _⟩, ⟨_, rfl, .refl _⟩, ⟨_, rfl, .refl _⟩, ⟨_, rfl, .refl _⟩, ⟨_, rfl, .refl _⟩, ⟨_, rfl, .refl _⟩, trivial⟩) h (Nat.lt_succ_self _)
     ·
      replace h := ite_fb hc3 h
      refine AWp.exit ?_
      refine tE ?_
      refine tE ?_
      refine kS ?_
      refine kN ?_
      exact jN (l24) (Le.mk rfl rfl ⟨.refl _, .refl _, .refl _, .refl _, .refl _, .refl _, .refl _, .refl _, .refl _, .refl _, trivial⟩ ⟨⟨_, rfl, .refl _⟩, ⟨_, rfl, .refl _⟩, ⟨_, rfl, .refl _⟩, ⟨_, rfl, .refl _⟩, ⟨_, rfl, .refl _⟩, ⟨_, rfl, .refl _⟩, ⟨_, rfl, .refl _⟩, ⟨_, rfl, .refl _⟩, trivial⟩) h
    ·
     rintro l25 h
     replace h := (congrFun hK2 _).symm.trans h
     obtain ⟨ob10p, h⟩ := chk_some h
     have ob10 : -9223372036854775808 ≤ ((n21 : Int) + (1 : Int)) ∧ ((n21 : Int) + (1 : Int)) ≤ 9223372036854775807 := ⟨by omega, ob10p⟩
     refine q2rr [] [] ⟨145, [(1, .int .u8 x15), (2, .ptr 2 0), (5, .ptr 5 0), (6, .own 6004), (7, .own 6005), (8, .own 5008), (43, .own 6001), (44, .i (lZ r18.2.2.2.1)), (45, .i (((n21 + 1) : Nat) : Int)), (1000000, .elem 32 1 T0F 0 0)], [(2, .cells 29 (f3z0 x1 x2 x3 x4 x5 x6 x7 x8 x9 x10 x11 x12 x13 x14)), (5, .cells 33 (f3z2 r18)), (5008, q2bW_27 l25), (6001, q2bW_27 r18.2.2.2.1), (6002, q2bW_27 r18.2.2.2.2.1), (6003, q2bWW_43 r18.2.2.2.2.2), (6004, q2bWW_43 r19), (6005, q2bW_27 r20)], [], 0⟩ (an1 ob10) ?_
     rw [hC0] at h
     exact lN (_, (n21 + 1), l25) (Le.mk rfl rfl ⟨.refl _, .refl _, .refl _, .refl _, .refl _, .refl _, .refl _, .refl _, .refl _, .refl _, trivial⟩ ⟨⟨_, rfl, .refl _⟩, ⟨_, rfl, .refl _⟩, ⟨_, rfl, .refl _⟩, ⟨_, rfl, .refl _⟩, ⟨_, rfl, .refl _⟩, ⟨_, rfl, .refl _⟩, ⟨_, rfl, .refl _⟩, ⟨_, rfl, .refl _⟩, trivial⟩) h (Nat.lt_succ_self _)
   ·
    replace h := ite_fb hc2 h
    refine AWp.exit ?_
    refine tE ?_
    refine tE ?_
    refine kS ?_
    exact jN (l22) (Le.mk rfl rfl ⟨.refl _, .refl _, .refl _, .refl _, .refl _, .refl _, trivial⟩ ⟨⟨_, rfl, .refl _⟩, ⟨_, rfl, .refl _⟩, ⟨_, rfl, .refl _⟩, ⟨_, rfl, .refl _⟩, ⟨_, rfl, .refl _⟩, ⟨_, rfl, .refl _⟩, ⟨_, rfl, .refl _⟩, trivial⟩) h
  ·
   rintro l26 h
   replace h := (congrFun hK1 _).symm.trans h
   refine AWp.seq ?_
   refine AWp.le (Le.trans (Le.freeze 5008 rfl rfl) (Le.mk (s' := ⟨145, [(1, .int .u8 x15), (2, .ptr 2 0), (5, .ptr 5 0), (6, .own 6004), (8, q2aW l26), (1000000, .elem 32 1 T0F 0 0)], (f3z7 x1 x2 x3 x4 x5 x6 x7 x8 x9 x10 x11 x12 x13 x14 r18 r19), [], 0⟩) rfl rfl ⟨.refl _, .refl _, .refl _, .refl _, .refl _, .refl _, trivial⟩ ⟨⟨_, rfl, .refl _⟩, ⟨_, rfl, .refl _⟩, ⟨_, rfl, .refl _⟩, ⟨_, rfl, .refl _⟩, ⟨_, rfl, .refl _⟩, ⟨_, rfl, .refl _⟩, trivial⟩)) ?_
   obtain ⟨r27, hr27, h⟩ := bind_ok h
   refine q2rr [] [(1, ⟨[q2aW l26], [], [], [], .tup [q2aW r27.1, .i r27.2], [], [], []⟩)] ⟨145, [(1, .int .u8 x15), (2, .ptr 2 0), (5, .ptr 5 0), (6, .own 6004), (13, q2aW r27.1), (14, .i r27.2), (1000000, .elem 32 1 T0F 0 0)], (f3z7 x1 x2 x3 x4 x5 x6 x7 x8 x9 x10 x11 x12 x13 x14 r18 r19), [], 0⟩ (an1 (cpT (f8_ok _ _ hr27))) ?_
   refine tN ?_
   refine AWp.seq ?_
   obtain ⟨r28, hr28, h⟩ := bind_ok h
   refine q2rr [] [(1, ⟨[q2aW r27.1], [], [], [], .tup [q2aW r28.1, .i r28.2], [], [], [0]⟩)] ⟨145, [(1, .int .u8 x15), (2, .ptr 2 0), (5, .ptr 5 0), (6, .own 6004), (14, .i r27.2), (15, q2aW r28.1), (16, .i r28.2), (1000000, .elem 32 1 T0F 0 0)], (f3z7 x1 x2 x3 x4 x5 x6 x7 x8 x9 x10 x11 x12 x13 x14 r18 r19), [], 0⟩ (an1 (cpT (f9_ok _ _ hr28))) ?_
   refine tN ?_
   refine AWp.seq ?_
   obtain ⟨r29, hr29, h⟩ := bind_ok h
   refine q2rr [] [(4, ⟨[.agg (f3z9 r18), .b16 x13, q2aWW r19], [], [], [(6006, q2bW_27 r29.2)], .tup [.own 6006, .i r29.1], [6006], [6001, 6002, 6003, 6004], [0]⟩)] ⟨145, [(1, .int .u8 x15), (2, .ptr 2 0), (5, .ptr 5 0), (6, .own 6004), (14, .i r27.2), (15, q2aW r28.1), (16, .i r28.2), (17, .own 6006), (18, .i r29.1), (1000000, .elem 32 1 T0F 0 0)], (f3z1 x1 x2 x3 x4 x5 x6 x7 x8 x9 x10 x11 x12 x13 x14 r18 r19 r29), [], 0⟩ (an1 (cpL (c := true) (f3z8 r18 r19) [6001, 6002, 6003, 6004] [.agg (f3z2 r18), .b16 x13, .own 6004] (fun _ => (Spec1.ren (swapN 3000 6006) (swapN_inv 3000 6006) rfl (f10_ok _ _ _ _ _ _ _ _ _ hr29))) (fun _ => ⟨.refl _, .refl _, .refl _, trivial⟩) (.inr ⟨rfl, ⟨(fun _ _ _ _ => eW_flat _ _), trivial⟩⟩))) ?_
   refine tN ?_
   refine AWp.seq ?_
   refine AWp.seq ?_
   obtain ⟨r30, hr30, h⟩ := optc_some h
   have ob11 := idA (((r27.2 != (0 : Int)) == false) = true)
   have ob12 := bqA (r27.2 != (0 : Int)) false
   have ob13 := idA ((((r27.2 != (0 : Int)) || (r28.2 != (0 : Int))) == false) = true)
   have ob14 := bqA ((r27.2 != (0 : Int)) || (r28.2 != (0 : Int))) false
   have ob15 := idA (((f3z4 r27 r28 r29) == false) = true)
   have ob16 := idA (((f3z4 r27 r28 r29) == false) = true)
   have ob17 := idA (((f3z4 r27 r28 r29) == false) = true)
   have ob18 := bqA (f3z4 r27 r28 r29) false
   refine q2rr [] [(13, ⟨[q2aW r29.2, q2aW r28.1], [], [], [], .bool r30, [], [6006], []⟩)] ⟨145, [(1, .int .u8 x15), (2, .ptr 2 0), (5, .ptr 5 0), (6, .own 6004), (17, .own 6006), (99, .bool ((f3z4 r27 r28 r29) || (!r30))), (1000000, .elem 32 1 T0F 0 0)], (f3z1 x1 x2 x3 x4 x5 x6 x7 x8 x9 x10 x11 x12 x13 x14 r18 r19 r29), [], 0⟩ (ac6 (an1 ob11) ob12 (an1 ob13) ob14 (And.intro (cpL [(6006, q2bW_27 r29.2)] [6006] [.own 6006, q2aW r28.1] (fun hc => (f11_ok _ _ _ (hr30 hc))) (fun _ => ⟨.refl _, .refl _, trivial⟩) (.inr ⟨rfl, trivial⟩)) (an2 ob15 ob16)) (an1 ob17) (an1 ob18)) ?_
   refine tN ?_
   refine AWp.cond (b := ((f3z4 r27 r28 r29) || (!r30))) (by kernel_rfl) (fun hc4 => ?_) (fun hc4 => ?_)
   ·
    replace h := ite_tb hc4 h
    refine q2rq [] [] ⟨145, [(4, .bool false), (1000000, .elem 32 1 T0F 0 0)], [], [], 0⟩ trivial ?_
    have hret := oJ h
    subst hret
    refine AWp.le (Le.mk (s' := ⟨145, [(4, .bool false)], [], [], 0⟩) rfl rfl ⟨.refl _, trivial⟩ trivial) ?_
    refine AWp.ret ?_
    refine tR ?_
    exact bR _ rfl ⟨rfl, rfl⟩ rfl
   ·
    replace h := ite_fb hc4 h
    refine AWp.skip ?_
    refine tN ?_
    refine AWp.seq ?_
    obtain ⟨ob19, ob20, ob21, ob22, h⟩ := ck4 h
    refine q2rr [] [] ⟨145, [(2, .ptr 2 0), (5, .ptr 5 0), (6, .own 6004), (17, .own 6006), (19, .b16 (r19.getD (((x15 % (lZ r19))).toNat) q2dWW).1), (1000000, .elem 32 1 T0F 0 0)], (f3z1 x1 x2 x3 x4 x5 x6 x7 x8 x9 x10 x11 x12 x13 x14 r18 r19 r29), [], 0⟩ (an4 ob19 ob20 ob21 ob22) ?_
    refine tN ?_
    obtain ⟨K3, hK3, h⟩ := jn_some h
    refine AWp.join (α := Unit) (fun (x : Unit) => match x with | () => ⟨145, [(2, .ptr 2 0), (5, .ptr 5 0), (6, .own 6004), (17, .own 6006), (1000000, .elem 32 1 T0F 0 0)], (f3z1 x1 x2 x3 x4 x5 x6 x7 x8 x9 x10 x11 x12 x13 x14 r18 r19 r29), [], 0⟩) (fun x => K3 x = some r) ?_ ?_
    ·
     refine q2rq [] [] ⟨145, [(2, .ptr 2 0), (5, .ptr 5 0), (6, .own 6004), (17, .own 6006), (19, .b16 (r19.getD (((x15 % (lZ r19))).toNat) q2dWW).1), (109, .own 6006), (110, .i (lZ r29.2)), (111, .i (0 : Int)), (1000000, .elem 32 1 T0F 0 0)], (f3z1 x1 x2 x3 x4 x5 x6 x7 x8 x9 x10 x11 x12 x13 x14 r18 r19 r29), [], 0⟩ trivial ?_
     refine AWp.block ?_
     refine AWp.loopL (α := Nat × Nat) (fun x => match x with | (_, n31) => ⟨145, [(2, .ptr 2 0), (5, .ptr 5 0), (6, .own 6004), (17, .own 6006), (19, .b16 (r19.getD (((x15 % (lZ r19))).toNat) q2dWW).1), (109, .own 6006), (110, .i (lZ r29.2)), (111, .i (n31 : Int)), (1000000, .elem 32 1 T0F 0 0)], (f3z1 x1 x2 x3 x4 x5 x6 x7 x8 x9 x10 x11 x12 x13 x14 r18 r19 r29), [], 0⟩) (fun x => f3_L2 x13 x15 r18 r19 r29 K3 x.1 x.2 = some r) (fun x => x.1) (FUEL, 0) (Le.mk (s' := ⟨145, [(2, .ptr 2 0), (5, .ptr 5 0), (6, .own 6004), (17, .own 6006), (19, .b16 (r19.getD (((x15 % (lZ r19))).toNat) q2dWW).1), (109, .own 6006), (110, .i (lZ r29.2)), (111, .i (0 : Int)), (1000000, .elem 32 1 T0F 0 0)], (f3z1 x1 x2 x3 x4 x5 x6 x7 x8 x9 x10 x11 x12 x13 x14 r18 r19 r29), [], 0⟩) rfl rfl ⟨.refl _, .refl _, .refl _, .refl _, .refl _, .refl _, .refl _, .refl _, .refl _, trivial⟩ ⟨⟨_, rfl, .refl _⟩, ⟨_, rfl, .refl _⟩, ⟨_, rfl, .refl _⟩, ⟨_, rfl, .refl _⟩, ⟨_, rfl, .refl _⟩, ⟨_, rfl, .refl _⟩, ⟨_, rfl, .refl _⟩, trivial⟩) h ?_
     rintro ⟨k2, n31⟩ h
     cases k2 with
     | zero => exact nomatch (show (none : Option Bool) = some r from h)
     | succ k2 =>
     obtain ⟨C2, hC2⟩ : ∃ C, C = f3_L2 x13 x15 r18 r19 r29 K3 k2 := ⟨_, rfl⟩
     replace h := (f3_L2.eq_2 ..).symm.trans h
     try rw [← hC2] at h
     refine q2rq [] [] ⟨145, [(2, .ptr 2 0), (5, .ptr 5 0), (6, .own 6004), (17, .own 6006), (19, .b16 (r19.getD (((x15 % (lZ r19))).toNat) q2dWW).1), (109, .own 6006), (110, .i (lZ r29.2)), (111, .i (n31 : Int)), (112, .bool (decide ((n31 : Int) < (lZ r29.2)))), (1000000, .elem 32 1 T0F 0 0)], (f3z1 x1 x2 x3 x4 x5 x6 x7 x8 x9 x10 x11 x12 x13 x14 r18 r19 r29), [], 0⟩ trivial ?_
     refine AWp.seq ?_
     refine AWp.cond (b := (decide ((n31 : Int) < (lZ r29.2)))) (by kernel_rfl) (fun hc5 => ?_) (fun hc5 => ?_)
     ·
      replace h := ite_tb hc5 h
      refine AWp.skip ?_
      refine tN ?_
      obtain ⟨K4, hK4, h⟩ := jn_some h
      refine AWp.join (α := Unit) (fun (x : Unit) => match x with | () => ⟨145, [(2, .ptr 2 0), (5, .ptr 5 0), (6, .own 6004), (17, .own 6006), (19, .b16 (r19.getD (((x15 % (lZ r19))).toNat) q2dWW).1), (109, .own 6006), (110, .i (lZ r29.2)), (111, .i (n31 : Int)), (1000000, .elem 32 1 T0F 0 0)], (f3z1 x1 x2 x3 x4 x5 x6 x7 x8 x9 x10 x11 x12 x13 x14 r18 r19 r29), [], 0⟩) (fun x => K4 x = some r) ?_ ?_
      ·
       refine AWp.block ?_
       refine AWp.seq ?_
       obtain ⟨ob23p, h⟩ := chk_some h
       have ob23 : 0 ≤ (n31 : Int) ∧ (n31 : Int) < (((r29.2).length : Nat) : Int) := ⟨by omega, ob23p⟩
       obtain ⟨ob24, h⟩ := chk_some h
       refine q2rr [] [] ⟨145, [(2, .ptr 2 0), (5, .ptr 5 0), (6, .own 6004), (17, .own 6006), (19, .b16 (r19.getD (((x15 % (lZ r19))).toNat) q2dWW).1), (21, .b16 (r29.2.getD n31 0#16)), (109, .own 6006), (110, .i (lZ r29.2)), (111, .i (n31 : Int)), (1000000, .elem 32 1 T0F 0 0)], (f3z1 x1 x2 x3 x4 x5 x6 x7 x8 x9 x10 x11 x12 x13 x14 r18 r19 r29), [], 0⟩ (an2 ob23 ob24) ?_
       refine tN ?_
       refine q2rq [] [] ⟨145, [(2, .ptr 2 0), (5, .ptr 5 0), (6, .own 6004), (17, .own 6006), (19, .b16 (r19.getD (((x15 % (lZ r19))).toNat) q2dWW).1), (21, .b16 (r29.2.getD n31 0#16)), (109, .own 6006), (110, .i (lZ r29.2)), (111, .i (n31 : Int)), (116, .own 6001), (117, .i (lZ r18.2.2.2.1)), (118, .i (0 : Int)), (1000000, .elem 32 1 T0F 0 0)], (f3z1 x1 x2 x3 x4 x5 x6 x7 x8 x9 x10 x11 x12 x13 x14 r18 r19 r29), [], 0⟩ trivial ?_
       refine AWp.block ?_
       refine AWp.loopL (α := Nat × Nat) (fun x => match x with | (_, n32) => ⟨145, [(2, .ptr 2 0), (5, .ptr 5 0), (6, .own 6004), (17, .own 6006), (19, .b16 (r19.getD (((x15 % (lZ r19))).toNat) q2dWW).1), (21, .b16 (r29.2.getD n31 0#16)), (109, .own 6006), (110, .i (lZ r29.2)), (111, .i (n31 : Int)), (116, .own 6001), (117, .i (lZ r18.2.2.2.1)), (118, .i (n32 : Int)), (1000000, .elem 32 1 T0F 0 0)], (f3z1 x1 x2 x3 x4 x5 x6 x7 x8 x9 x10 x11 x12 x13 x14 r18 r19 r29), [], 0⟩) (fun x => f3_L3 x13 x15 r18 r19 r29 n31 K4 x.1 x.2 = some r) (fun x => x.1) (FUEL, 0) (Le.mk (s' := ⟨145, [(2, .ptr 2 0), (5, .ptr 5 0), (6, .own 6004), (17, .own 6006), (19, .b16 (r19.getD (((x15 % (lZ r19))).toNat) q2dWW).1), (21, .b16 (r29.2.getD n31 0#16)), (109, .own 6006), (110, .i (lZ r29.2)), (111, .i (n31 : Int)), (116, .own 6001), (117, .i (lZ r18.2.2.2.1)), (118, .i (0 : Int)), (1000000, .elem 32 1 T0F 0 0)], (f3z1 x1 x2 x3 x4 x5 x6 x7 x8 x9 x10 x11 x12 x13 x14 r18 r19 r29), [], 0⟩) rfl rfl ⟨.refl _, .refl _, .refl _, .refl _, .refl _, .refl _, .refl _, .refl _, .refl _, .refl _, .refl _, .refl _, .refl _, trivial⟩ ⟨⟨_, rfl, .refl _⟩, ⟨_, rfl, .refl _⟩, ⟨_, rfl, .refl _⟩, ⟨_, rfl, .refl _⟩, ⟨_, rfl, .refl _⟩, ⟨_, rfl, .refl _⟩, ⟨_, rfl, .refl _⟩, trivial⟩) h ?_
       rintro ⟨k3, n32⟩ h
       cases k3 with
       | zero => exact nomatch (show (none : Option Bool) = some r from h)
       | succ k3 =>
       obtain ⟨C3, hC3⟩ : ∃ C, C = f3_L3 x13 x15 r18 r19 r29 n31 K4 k3 := ⟨_, rfl⟩
       replace h := (f3_L3.eq_2 ..).symm.trans h
       try rw [← hC3] at h
       refine q2rq [] [] ⟨145, [(2, .ptr 2 0), (5, .ptr 5 0), (6, .own 6004), (17, .own 6006), (19, .b16 (r19.getD (((x15 % (lZ r19))).toNat) q2dWW).1), (21, .b16 (r29.2.getD n31 0#16)), (109, .own 6006), (110, .i (lZ r29.2)), (111, .i (n31 : Int)), (116, .own 6001), (117, .i (lZ r18.2.2.2.1)), (118, .i (n32 : Int)), (119, .bool (decide ((n32 : Int) < (lZ r18.2.2.2.1)))), (1000000, .elem 32 1 T0F 0 0)], (f3z1 x1 x2 x3 x4 x5 x6 x7 x8 x9 x10 x11 x12 x13 x14 r18 r19 r29), [], 0⟩ trivial ?_
       refine AWp.seq ?_
       refine AWp.cond (b := (decide ((n32 : Int) < (lZ r18.2.2.2.1)))) (by kernel_rfl) (fun hc6 => ?_) (fun hc6 => ?_)
       ·
        replace h := ite_tb hc6 h
        refine AWp.skip ?_
        refine tN ?_
        refine AWp.seq ?_
        refine AWp.block ?_
        refine AWp.seq ?_
        obtain ⟨ob25p, h⟩ := chk_some h
        have ob25 : 0 ≤ (n32 : Int) ∧ (n32 : Int) < (((r18.2.2.2.1).length : Nat) : Int) := ⟨by omega, ob25p⟩
        obtain ⟨ob26, h⟩ := chk_some h
        refine q2rr [] [] ⟨145, [(2, .ptr 2 0), (5, .ptr 5 0), (6, .own 6004), (17, .own 6006), (19, .b16 (r19.getD (((x15 % (lZ r19))).toNat) q2dWW).1), (21, .b16 (r29.2.getD n31 0#16)), (23, .b16 (r18.2.2.2.1.getD n32 0#16)), (109, .own 6006), (110, .i (lZ r29.2)), (111, .i (n31 : Int)), (116, .own 6001), (117, .i (lZ r18.2.2.2.1)), (118, .i (n32 : Int)), (1000000, .elem 32 1 T0F 0 0)], (f3z1 x1 x2 x3 x4 x5 x6 x7 x8 x9 x10 x11 x12 x13 x14 r18 r19 r29), [], 0⟩ (an2 ob25 ob26) ?_
        refine tN ?_
        refine q2rq [] [] ⟨145, [(2, .ptr 2 0), (5, .ptr 5 0), (6, .own 6004), (17, .own 6006), (19, .b16 (r19.getD (((x15 % (lZ r19))).toNat) q2dWW).1), (21, .b16 (r29.2.getD n31 0#16)), (109, .own 6006), (110, .i (lZ r29.2)), (111, .i (n31 : Int)), (116, .own 6001), (117, .i (lZ r18.2.2.2.1)), (118, .i (n32 : Int)), (130, .bool (((((r29.2.getD n31 0#16) &&& (r18.2.2.2.1.getD n32 0#16)) &&& ~~~(r19.getD (((x15 % (lZ r19))).toNat) q2dWW).1) &&& ~~~x13) == (q2w16 0))), (1000000, .elem 32 1 T0F 0 0)], (f3z1 x1 x2 x3 x4 x5 x6 x7 x8 x9 x10 x11 x12 x13 x14 r18 r19 r29), [], 0⟩ trivial ?_
        refine AWp.cond (b := (((((r29.2.getD n31 0#16) &&& (r18.2.2.2.1.getD n32 0#16)) &&& ~~~(r19.getD (((x15 % (lZ r19))).toNat) q2dWW).1) &&& ~~~x13) == (q2w16 0))) (by kernel_rfl) (fun hc7 => ?_) (fun hc7 => ?_)
        ·
         replace h := ite_tb hc7 h
         refine q2rq [] [] ⟨145, [(4, .bool false), (1000000, .elem 32 1 T0F 0 0)], [], [], 0⟩ trivial ?_
         have hret := oJ h
         subst hret
         refine AWp.le (Le.mk (s' := ⟨145, [(4, .bool false)], [], [], 0⟩) rfl rfl ⟨.refl _, trivial⟩ trivial) ?_
         refine AWp.ret ?_
         refine kR ?_
         refine tR ?_
         refine tR ?_
         refine kR ?_
         refine kR ?_
         refine joinQ_ret ?_
         refine tR ?_
         refine kR ?_
         refine joinQ_ret ?_
         exact bR _ rfl ⟨rfl, rfl⟩ rfl
        ·
         replace h := ite_fb hc7 h
         refine AWp.skip ?_
         refine kN ?_
         refine tN ?_
         obtain ⟨ob27p, h⟩ := chk_some h
         have ob27 : -9223372036854775808 ≤ ((n32 : Int) + (1 : Int)) ∧ ((n32 : Int) + (1 : Int)) ≤ 9223372036854775807 := ⟨by omega, ob27p⟩
         refine q2rr [] [] ⟨145, [(2, .ptr 2 0), (5, .ptr 5 0), (6, .own 6004), (17, .own 6006), (19, .b16 (r19.getD (((x15 % (lZ r19))).toNat) q2dWW).1), (21, .b16 (r29.2.getD n31 0#16)), (109, .own 6006), (110, .i (lZ r29.2)), (111, .i (n31 : Int)), (116, .own 6001), (117, .i (lZ r18.2.2.2.1)), (118, .i (((n32 + 1) : Nat) : Int)), (1000000, .elem 32 1 T0F 0 0)], (f3z1 x1 x2 x3 x4 x5 x6 x7 x8 x9 x10 x11 x12 x13 x14 r18 r19 r29), [], 0⟩ (an1 ob27) ?_
         rw [hC3] at h
         exact lN (_, (n32 + 1)) (Le.mk rfl rfl ⟨.refl _, .refl _, .refl _, .refl _, .refl _, .refl _, .refl _, .refl _, .refl _, .refl _, .refl _, .refl _, .refl _, trivial⟩ ⟨⟨_, rfl, .refl _⟩, ⟨_, rfl, .refl _⟩, ⟨_, rfl, .refl _⟩, ⟨_, rfl, .refl _⟩, ⟨_, rfl, .refl _⟩, ⟨_, rfl, .refl _⟩, ⟨_, rfl, .refl _⟩, trivial⟩) h (Nat.lt_succ_self _)
       ·
        replace h := ite_fb hc6 h
        refine AWp.exit ?_
        refine tE ?_
        refine tE ?_
        refine kS ?_
        refine kN ?_
        exact jN () (Le.mk rfl rfl ⟨.refl _, .refl _, .refl _, .refl _, .refl _, .refl _, .refl _, .refl _, .refl _, trivial⟩ ⟨⟨_, rfl, .refl _⟩, ⟨_, rfl, .refl _⟩, ⟨_, rfl, .refl _⟩, ⟨_, rfl, .refl _⟩, ⟨_, rfl, .refl _⟩, ⟨_, rfl, .refl _⟩, ⟨_, rfl, .refl _⟩, trivial⟩) h
      ·
       rintro ⟨⟩ h
       replace h := (congrFun hK4 _).symm.trans h
       obtain ⟨ob28p, h⟩ := chk_some h
       have ob28 : -9223372036854775808 ≤ ((n31 : Int) + (1 : Int)) ∧ ((n31 : Int) + (1 : Int)) ≤ 9223372036854775807 := ⟨by omega, ob28p⟩
       refine q2rr [] [] ⟨145, [(2, .ptr 2 0), (5, .ptr 5 0), (6, .own 6004), (17, .own 6006), (19, .b16 (r19.getD (((x15 % (lZ r19))).toNat) q2dWW).1), (109, .own 6006), (110, .i (lZ r29.2)), (111, .i (((n31 + 1) : Nat) : Int)), (1000000, .elem 32 1 T0F 0 0)], (f3z1 x1 x2 x3 x4 x5 x6 x7 x8 x9 x10 x11 x12 x13 x14 r18 r19 r29), [], 0⟩ (an1 ob28) ?_
       rw [hC2] at h
       exact lN (_, (n31 + 1)) (Le.mk rfl rfl ⟨.refl _, .refl _, .refl _, .refl _, .refl _, .refl _, .refl _, .refl _, .refl _, trivial⟩ ⟨⟨_, rfl, .refl _⟩, ⟨_, rfl, .refl _⟩, ⟨_, rfl, .refl _⟩, ⟨_, rfl, .refl _⟩, ⟨_, rfl, .refl _⟩, ⟨_, rfl, .refl _⟩, ⟨_, rfl, .refl _⟩, trivial⟩) h (Nat.lt_succ_self _)
     ·
      replace h := ite_fb hc5 h
      refine AWp.exit ?_
      refine tE ?_
      refine tE ?_
      refine kS ?_
      exact jN () (Le.mk rfl rfl ⟨.refl _, .refl _, .refl _, .refl _, .refl _, trivial⟩ ⟨⟨_, rfl, .refl _⟩, ⟨_, rfl, .refl _⟩, ⟨_, rfl, .refl _⟩, ⟨_, rfl, .refl _⟩, ⟨_, rfl, .refl _⟩, ⟨_, rfl, .refl _⟩, ⟨_, rfl, .refl _⟩, trivial⟩) h
    ·
     rintro ⟨⟩ h
     replace h := (congrFun hK3 _).symm.trans h
     refine AWp.seq ?_
     obtain ⟨r33, hr33, h⟩ := bind_ok h
     obtain ⟨r34, hr34, h⟩ := optc_some h
     have ob29 := idA (((!r33) == false) = true)
     have ob30 := idA (((!r33) == false) = true)
     have ob31 := idA (((!r33) == false) = true)
     have ob32 := bqA (!r33) false
     refine q2rr [] [(4, ⟨[.agg (f3z9 r18), .b16 x13, q2aWW r19], [], [], [], .bool r33, [], [6001, 6002, 6003, 6004], []⟩), (10, ⟨[q2aW r18.2.2.2.2.1, q2aW r29.2], [], [], [], .bool r34, [], [6002, 6006], []⟩)] ⟨145, [(4, .bool ((!r33) || r34)), (1000000, .elem 32 1 T0F 0 0)], [], [], 0⟩ (an4 (cpL (c := true) (f3z8 r18 r19) [6001, 6002, 6003, 6004] [.agg (f3z2 r18), .b16 x13, .own 6004] (fun _ => (f12_ok _ _ _ _ _ _ _ _ _ hr33)) (fun _ => ⟨.refl _, .refl _, .refl _, trivial⟩) (.inr ⟨rfl, trivial⟩)) (an1 ob29) (And.intro (cpL [(6002, q2bW_27 r18.2.2.2.2.1), (6006, q2bW_27 r29.2)] [6002, 6006] [.own 6002, .own 6006] (fun hc => (f13_ok _ _ _ (hr34 hc))) (fun _ => ⟨.refl _, .refl _, trivial⟩) (.inr ⟨rfl, trivial⟩)) (an2 ob30 ob31)) ob32) ?_
     refine tN ?_
     have hret := oJ h
     subst hret
     refine AWp.le (Le.mk (s' := ⟨145, [(4, .bool ((!r33) || r34))], [], [], 0⟩) rfl rfl ⟨.refl _, trivial⟩ trivial) ?_
     refine AWp.ret ?_
     exact bR _ rfl ⟨rfl, rfl⟩ rfl
end Go.Abs
