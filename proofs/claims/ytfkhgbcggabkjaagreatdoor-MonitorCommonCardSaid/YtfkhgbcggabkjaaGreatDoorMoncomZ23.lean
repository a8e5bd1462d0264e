/- Part 23 of the proof: X54k. -/
import Derived.Test.YtfkhgbcggabkjaaGreatDoorMoncomZ22
namespace Go.Abs
open Go Go.Proofs
set_option maxRecDepth 100000
set_option maxHeartbeats 4000000
theorem f14_ok  (x1 : List Y51) (r : List (List UInt8)) (h : f14 x1 = some r)  : Spec1 Tryz.prog 14 [] [] [] [vL 28 eT51 (default : Y51) x1] (.own 3000) [(3000, bL 9 1 eS [] r)] := by
 unfold f14 at h
 refine Spec1.body 0 _ _ Tryz.func14 rfl Tryz.ntmps14 rfl rfl ?_
 refine q1rq [] [] ⟨41, [(0, q1aT51 x1)], [], [], 0⟩ trivial ?_
 refine AWp.seq ?_
 obtain ⟨r2, hr2, h⟩ := bind_ok h
 refine q1rr [] [(0, ⟨[], [], [], [(6001, bP (V.int .i64) 0 m108 [] r2.1), (6002, bP (V.int .i64) 0 m109 false r2.2.1), (6003, bP mk110E q1dII m110 [] r2.2.2.1), (6004, bP (V.int .i64) 0 m111 0 r2.2.2.2.1), (6005, bP mk110E q1dII m110 [] r2.2.2.2.2.1), (6006, bP mk112E q1dIIS m112 false r2.2.2.2.2.2.1), (6007, bP mk113E q1dII m113 false r2.2.2.2.2.2.2)], .agg (f14z0), [6001, 6002, 6003, 6004, 6005, 6006, 6007], [], []⟩)] ⟨41, [(0, q1aT51 x1), (3, .ptr 3 0)], (f14z3 r2), [], 0⟩ (an2 (cpT (Spec1.ren (swapN 3006 6007) (swapN_inv 3006 6007) rfl (Spec1.ren (swapN 3005 6006) (swapN_inv 3005 6006) rfl (Spec1.ren (swapN 3004 6005) (swapN_inv 3004 6005) rfl (Spec1.ren (swapN 3003 6004) (swapN_inv 3003 6004) rfl (Spec1.ren (swapN 3002 6003) (swapN_inv 3002 6003) rfl (Spec1.ren (swapN 3001 6002) (swapN_inv 3001 6002) rfl (Spec1.ren (swapN 3000 6001) (swapN_inv 3000 6001) rfl (f44_ok _ hr2))))))))) trivial) ?_
 refine tN ?_
 obtain ⟨K1, hK1, h⟩ := jn_some h
 refine AWp.join (α := (List Tq4) × (List Tq3) × (f14z6) × (List Tq0) × (f14z6) × (List (Tq2 × Bool)) × (List (Tq0 × Bool))) (fun (x : (List Tq4) × (List Tq3) × (f14z6) × (List Tq0) × (f14z6) × (List (Tq2 × Bool)) × (List (Tq0 × Bool))) => match x with | (l12, l13, l14, l15, l16, l17, l18) => ⟨41, [(3, .ptr 3 0)], (f14z5 l12 l13 l14 l15 l16 l17 l18), [], 0⟩) (fun x => K1 x = some r) ?_ ?_
 ·
  refine q1rq [] [] ⟨41, [(3, .ptr 3 0), (10, q1aT51 x1), (11, .i (lZ x1)), (12, .i (0 : Int))], (f14z3 r2), [], 0⟩ trivial ?_
  refine AWp.block ?_
  refine AWp.loopL (α := Nat × (Nat × (List Tq4) × (List Tq3) × (f14z6) × (List Tq0) × (f14z6) × (List (Tq2 × Bool)) × (List (Tq0 × Bool)))) (fun x => match x with | (_, n3, l4, l5, l6, l7, l8, l9, l10) => ⟨41, [(3, .ptr 3 0), (10, q1aT51 x1), (11, .i (lZ x1)), (12, .i (n3 : Int))], (f14z4 l4 l5 l6 l7 l8 l9 l10), [], 0⟩) (fun x => f14_L0 x1 K1 x.1 x.2 = some r) (fun x => x.1) (FUEL, 0, r2.1, r2.2.1, r2.2.2.1, r2.2.2.2.1, r2.2.2.2.2.1, r2.2.2.2.2.2.1, r2.2.2.2.2.2.2) (Le.mk (s' := ⟨41, [(3, .ptr 3 0), (10, q1aT51 x1), (11, .i (lZ x1)), (12, .i (0 : Int))], (f14z3 r2), [], 0⟩) rfl rfl ⟨.refl _, .refl _, .refl _, .refl _, trivial⟩ ⟨⟨_, rfl, .refl _⟩, ⟨_, rfl, .refl _⟩, ⟨_, rfl, .refl _⟩, ⟨_, rfl, .refl _⟩, ⟨_, rfl, .refl _⟩, ⟨_, rfl, .refl _⟩, ⟨_, rfl, .refl _⟩, ⟨_, rfl, .refl _⟩, trivial⟩) h ?_
  rintro ⟨k0, n3, l4, l5, l6, l7, l8, l9, l10⟩ h
  cases k0 with
  | zero => exact nomatch (show (none : Option (List (List UInt8))) = some r from h)
  | succ k0 =>
  obtain ⟨C0, hC0⟩ : ∃ C, C = f14_L0 x1 K1 k0 := ⟨_, rfl⟩
  replace h := (f14_L0.eq_2 ..).symm.trans h
  try rw [← hC0] at h
  refine q1rq [] [] ⟨41, [(3, .ptr 3 0), (10, q1aT51 x1), (11, .i (lZ x1)), (12, .i (n3 : Int)), (13, .bool (decide ((n3 : Int) < (lZ x1))))], (f14z4 l4 l5 l6 l7 l8 l9 l10), [], 0⟩ trivial ?_
  refine AWp.seq ?_
  refine AWp.cond (b := (decide ((n3 : Int) < (lZ x1)))) (by kernel_rfl) (fun hc1 => ?_) (fun hc1 => ?_)
  ·
   replace h := ite_tb hc1 h
   refine AWp.skip ?_
   refine tN ?_
   refine AWp.seq ?_
   refine AWp.block ?_
   refine AWp.seq ?_
   obtain ⟨ob0p, h⟩ := chk_some h
   have ob0 : 0 ≤ (n3 : Int) ∧ (n3 : Int) < (((x1).length : Nat) : Int) := ⟨by omega, ob0p⟩
   refine q1rr [] [] ⟨41, [(3, .ptr 3 0), (5, .ptr 5 0), (10, q1aT51 x1), (11, .i (lZ x1)), (12, .i (n3 : Int))], [(3, .cells 115 (f14z0)), (5, .cells 51 [.i (x1.getD n3 q1dT51).1, .i (x1.getD n3 q1dT51).2.1, .i (x1.getD n3 q1dT51).2.2.1, .i (x1.getD n3 q1dT51).2.2.2.1, .i (x1.getD n3 q1dT51).2.2.2.2.1, .str (x1.getD n3 q1dT51).2.2.2.2.2.1, .str (x1.getD n3 q1dT51).2.2.2.2.2.2, .opq, .opq, .opq, .opq, .opq, .opq, .opq, .opq, .opq, .opq, .opq, .opq, .opq, .opq, .opq, .opq, .opq, .opq, .opq, .opq, .opq]), (6001, bP (V.int .i64) 0 m108 [] l4), (6002, bP (V.int .i64) 0 m109 false l5), (6003, bP mk110E q1dII m110 [] l6), (6004, bP (V.int .i64) 0 m111 0 l7), (6005, bP mk110E q1dII m110 [] l8), (6006, bP mk112E q1dIIS m112 false l9), (6007, bP mk113E q1dII m113 false l10)], [], 0⟩ (an2 ob0 trivial) ?_
   refine tN ?_
   obtain ⟨r11, hr11, h⟩ := bind_ok h
   refine q1rr [] [(1, ⟨[.ptr 3 0, .agg [.i (x1.getD n3 q1dT51).1, .i (x1.getD n3 q1dT51).2.1, .i (x1.getD n3 q1dT51).2.2.1, .i (x1.getD n3 q1dT51).2.2.2.1, .i (x1.getD n3 q1dT51).2.2.2.2.1, .str (x1.getD n3 q1dT51).2.2.2.2.2.1, .str (x1.getD n3 q1dT51).2.2.2.2.2.2, .opq, .opq, .opq, .opq, .opq, .opq, .opq, .opq, .opq, .opq, .opq, .opq, .opq, .opq, .opq, .opq, .opq, .opq, .opq, .opq, .opq]], [3, 6001, 6002, 6003, 6004, 6005, 6006, 6007], [3], (f14z1 r11), .tup [], [6001, 6002, 6003, 6004, 6005, 6006, 6007], [], []⟩)] ⟨41, [(3, .ptr 3 0), (10, q1aT51 x1), (11, .i (lZ x1)), (12, .i (n3 : Int))], (f14z1 r11), [], 0⟩ (an1 (cpT (Spec1.ren (swapN 2007 6007) (swapN_inv 2007 6007) rfl (Spec1.ren (swapN 2006 6006) (swapN_inv 2006 6006) rfl (Spec1.ren (swapN 2005 6005) (swapN_inv 2005 6005) rfl (Spec1.ren (swapN 2004 6004) (swapN_inv 2004 6004) rfl (Spec1.ren (swapN 2003 6003) (swapN_inv 2003 6003) rfl (Spec1.ren (swapN 2002 6002) (swapN_inv 2002 6002) rfl (Spec1.ren (swapN 2001 6001) (swapN_inv 2001 6001) rfl (Spec1.ren (swapN 2000 3) (swapN_inv 2000 3) rfl (f45_ok _ _ _ _ _ _ _ _ _ _ _ _ _ _ _ hr11))))))))))) ?_
   refine kN ?_
   refine tN ?_
   obtain ⟨ob1p, h⟩ := chk_some h
   have ob1 : -9223372036854775808 ≤ ((n3 : Int) + (1 : Int)) ∧ ((n3 : Int) + (1 : Int)) ≤ 9223372036854775807 := ⟨by omega, ob1p⟩
   refine q1rr [] [] ⟨41, [(3, .ptr 3 0), (10, q1aT51 x1), (11, .i (lZ x1)), (12, .i (((n3 + 1) : Nat) : Int))], (f14z1 r11), [], 0⟩ (an1 ob1) ?_
   rw [hC0] at h
   exact lN (_, (n3 + 1), r11.1, r11.2.1, r11.2.2.1, r11.2.2.2.1, r11.2.2.2.2.1, r11.2.2.2.2.2.1, r11.2.2.2.2.2.2) (Le.mk rfl rfl ⟨.refl _, .refl _, .refl _, .refl _, trivial⟩ ⟨⟨_, rfl, .refl _⟩, ⟨_, rfl, .refl _⟩, ⟨_, rfl, .refl _⟩, ⟨_, rfl, .refl _⟩, ⟨_, rfl, .refl _⟩, ⟨_, rfl, .refl _⟩, ⟨_, rfl, .refl _⟩, ⟨_, rfl, .refl _⟩, trivial⟩) h (Nat.lt_succ_self _)
  ·
   replace h := ite_fb hc1 h
   refine AWp.exit ?_
   refine tE ?_
   refine tE ?_
   refine kS ?_
   exact jN (l4, l5, l6, l7, l8, l9, l10) (Le.mk rfl rfl ⟨.refl _, trivial⟩ ⟨⟨_, rfl, .refl _⟩, ⟨_, rfl, .refl _⟩, ⟨_, rfl, .refl _⟩, ⟨_, rfl, .refl _⟩, ⟨_, rfl, .refl _⟩, ⟨_, rfl, .refl _⟩, ⟨_, rfl, .refl _⟩, ⟨_, rfl, .refl _⟩, trivial⟩) h
 ·
  rintro ⟨l12, l13, l14, l15, l16, l17, l18⟩ h
  replace h := (congrFun hK1 _).symm.trans h
  refine q1rq [] [] ⟨41, [(3, .ptr 3 0), (6, .nils)], (f14z5 l12 l13 l14 l15 l16 l17 l18), [], 0⟩ trivial ?_
  refine AWp.block ?_
  refine AWp.loopL (α := Nat × (List (List UInt8))) (fun x => match x with | (_, l19) => ⟨41, (f14z7), (f14z2 l19 l12 l13 l14 l15 l16 l17 l18), [], 0⟩) (fun x => f14_L1 l12 l13 x.1 x.2 = some r) (fun x => x.1) (FUEL, []) (Le.trans (Le.trans (Le.nilOwn 6 5006 9 1 (encF eS [] []) rfl rfl (Nat.le_of_ble_eq_true rfl)) (Le.mk (s' := ⟨41, (f14z7), [(3, .cells 115 (f14z0)), (6001, bP (V.int .i64) 0 m108 [] l12), (6002, bP (V.int .i64) 0 m109 false l13), (6003, bP mk110E q1dII m110 [] l14), (6004, bP (V.int .i64) 0 m111 0 l15), (6005, bP mk110E q1dII m110 [] l16), (6006, bP mk112E q1dIIS m112 false l17), (6007, bP mk113E q1dII m113 false l18), (5006, q1bS_9 [])], [], 0⟩) rfl rfl ⟨.refl _, .refl _, trivial⟩ ⟨⟨_, rfl, .refl _⟩, ⟨_, rfl, .refl _⟩, ⟨_, rfl, .refl _⟩, ⟨_, rfl, .refl _⟩, ⟨_, rfl, .refl _⟩, ⟨_, rfl, .refl _⟩, ⟨_, rfl, .refl _⟩, ⟨_, rfl, .refl _⟩, ⟨_, rfl, .refl _⟩, trivial⟩)) (Le.mk (s' := ⟨41, (f14z7), [(3, .cells 115 (f14z0)), (5006, q1bS_9 []), (6001, bP (V.int .i64) 0 m108 [] l12), (6002, bP (V.int .i64) 0 m109 false l13), (6003, bP mk110E q1dII m110 [] l14), (6004, bP (V.int .i64) 0 m111 0 l15), (6005, bP mk110E q1dII m110 [] l16), (6006, bP mk112E q1dIIS m112 false l17), (6007, bP mk113E q1dII m113 false l18)], [], 0⟩) rfl rfl ⟨.refl _, .refl _, trivial⟩ ⟨⟨_, rfl, .refl _⟩, ⟨_, rfl, .refl _⟩, ⟨_, rfl, .refl _⟩, ⟨_, rfl, .refl _⟩, ⟨_, rfl, .refl _⟩, ⟨_, rfl, .refl _⟩, ⟨_, rfl, .refl _⟩, ⟨_, rfl, .refl _⟩, ⟨_, rfl, .refl _⟩, trivial⟩)) h ?_
  rintro ⟨k1, l19⟩ h
  cases k1 with
  | zero => exact nomatch (show (none : Option (List (List UInt8))) = some r from h)
  | succ k1 =>
  obtain ⟨C1, hC1⟩ : ∃ C, C = f14_L1 l12 l13 k1 := ⟨_, rfl⟩
  replace h := (f14_L1.eq_2 ..).symm.trans h
  try rw [← hC1] at h
  refine AWp.block ?_
  refine q1rq [] [(4, ⟨[.own 6001, .i (lZ l19)], [6001], [6001], [(6001, bP (V.int .i64) 0 m108 [] l12)], .tup [.str (gM l12 [] (lZ l19)), .bool (hM l12 (lZ l19))], [], [], []⟩)] ⟨41, [(3, .ptr 3 0), (6, .own 5006), (7, .str (gM l12 [] (lZ l19))), (8, .bool (hM l12 (lZ l19)))], (f14z2 l19 l12 l13 l14 l15 l16 l17 l18), [], 0⟩ (an1 (And.intro (lookP_spec (P := Tryz.prog) Tryz.underlying108 (V.int .i64) kE108 0 m108 [] [] (by kernel_rfl) (.tmp 21) (.tmp 23) 118 6001 l12 (lZ l19)) (VLes.same [.own 6001, .i (lZ l19)]))) ?_
  refine AWp.seq ?_
  refine AWp.seq ?_
  by_cases hg9_2 : (!(hM l12 (((l19).length : Nat) : Int))) = true
  ·
   replace h := ite_t hg9_2 h
   have ob2 := idA (false = true)
   have ob3 := idA (false = true)
   have ob4 : true = true → true = false → false = true := by first | decide | omega | simp | (intro h; cases h)
   refine q1rr [] [(2, ⟨[], [], [], [], (.bool true), [], [0], []⟩), (7, ⟨[], [], [], [], .bool (gM l13 false (lZ l19)), [], [], []⟩)] ⟨41, [(3, .ptr 3 0), (6, .own 5006), (7, .str (gM l12 [] (lZ l19))), (35, .bool true)], (f14z2 l19 l12 l13 l14 l15 l16 l17 l18), [], 0⟩ (an5 (show ((.bool (!(hM l12 (lZ l19)))) : V) = (.bool true) from (congrArg (fun x => ((.bool x) : V)) hg9_2)) (an1 ob2) (an1 ob3) trivial ob4) ?_
   refine tN ?_
   refine AWp.cond (b := true) (by kernel_rfl) (fun hc => ?_) (fun hc => ?_)
   ·
    clear hc
    refine q1rq [] [] ⟨41, [(2, .own 5006)], [(5006, q1bS_9 l19)], [], 0⟩ trivial ?_
    refine AWp.le (Le.trans (Le.ren (swapN 5006 3000) (swapN_inv 5006 3000) rfl) (Le.mk (s' := ⟨41, [(2, .own 3000)], [(3000, q1bS_9 l19)], [], 0⟩) rfl rfl ⟨.refl _, trivial⟩ ⟨⟨_, rfl, .refl _⟩, trivial⟩)) ?_
    have hret := Option.some.inj h
    subst hret
    refine AWp.le (Le.mk (s' := ⟨41, [(2, .own 3000)], [(3000, q1bS_9 l19)], [], 0⟩) rfl rfl ⟨.refl _, trivial⟩ ⟨⟨_, rfl, .refl _⟩, trivial⟩) ?_
    refine AWp.ret ?_
    refine tR ?_
    refine kR ?_
    refine tR ?_
    refine kR ?_
    exact bR _ rfl ⟨rfl, rfl⟩ rfl
   ·
    cases hc
  ·
   replace h := ite_f hg9_2 h
   have ob2 := idA (true = true)
   have ob3 := idA (true = true)
   have ob4 := idA (true = true)
   have ob5 := idA (true = true)
   refine q1rr [] [(2, ⟨[], [], [], [], (.bool false), [], [0], []⟩), (7, ⟨[.own 6002, .i (lZ l19)], [6002], [6002], [(6002, bP (V.int .i64) 0 m109 false l13)], .bool (gM l13 false (lZ l19)), [], [], []⟩)] ⟨41, [(3, .ptr 3 0), (6, .own 5006), (7, .str (gM l12 [] (lZ l19))), (35, .bool (gM l13 false (lZ l19)))], (f14z2 l19 l12 l13 l14 l15 l16 l17 l18), [], 0⟩ (an5 (show ((.bool (!(hM l12 (lZ l19)))) : V) = (.bool false) from (congrArg (fun x => ((.bool x) : V)) (Bool.eq_false_iff.2 hg9_2))) (an1 ob2) (an1 ob3) (And.intro (And.intro (lookP1_spec (P := Tryz.prog) Tryz.underlying109 (V.int .i64) kE109 0 m109 false false (by kernel_rfl) (.tmp 31) (.tmp 33) 4 6002 l13 (lZ l19)) (VLes.same [.own 6002, .i (lZ l19)])) (an2 ob4 ob5)) trivial) ?_
   refine tN ?_
   refine AWp.cond (b := (gM l13 false (lZ l19))) (by kernel_rfl) (fun hc3 => ?_) (fun hc3 => ?_)
   ·
    replace h := ite_tb hc3 h
    refine q1rq [] [] ⟨41, [(2, .own 5006)], [(5006, q1bS_9 l19)], [], 0⟩ trivial ?_
    refine AWp.le (Le.trans (Le.ren (swapN 5006 3000) (swapN_inv 5006 3000) rfl) (Le.mk (s' := ⟨41, [(2, .own 3000)], [(3000, q1bS_9 l19)], [], 0⟩) rfl rfl ⟨.refl _, trivial⟩ ⟨⟨_, rfl, .refl _⟩, trivial⟩)) ?_
    have hret := Option.some.inj h
    subst hret
    refine AWp.le (Le.mk (s' := ⟨41, [(2, .own 3000)], [(3000, q1bS_9 l19)], [], 0⟩) rfl rfl ⟨.refl _, trivial⟩ ⟨⟨_, rfl, .refl _⟩, trivial⟩) ?_
    refine AWp.ret ?_
    refine tR ?_
    refine kR ?_
    refine tR ?_
    refine kR ?_
    exact bR _ rfl ⟨rfl, rfl⟩ rfl
   ·
    replace h := ite_fb hc3 h
    refine AWp.skip ?_
    refine tN ?_
    obtain ⟨ob6, h⟩ := chk_some h
    refine q1rr [] [] ⟨41, (f14z7), [(3, .cells 115 (f14z0)), (5006, .rows 9 1 ((l19).length + 1) (appF (l19).length (encF eS [] l19) (lstF 1 [.str (gM l12 [] (lZ l19))]))), (6001, bP (V.int .i64) 0 m108 [] l12), (6002, bP (V.int .i64) 0 m109 false l13), (6003, bP mk110E q1dII m110 [] l14), (6004, bP (V.int .i64) 0 m111 0 l15), (6005, bP mk110E q1dII m110 [] l16), (6006, bP mk112E q1dIIS m112 false l17), (6007, bP mk113E q1dII m113 false l18)], [], 0⟩ (an1 ob6) ?_
    refine kN ?_
    rw [hC1] at h
    exact lN (_, (l19 ++ [(gM l12 [] (lZ l19))])) (Le.trans (Le.mk (s' := ⟨41, (f14z7), [(3, .cells 115 (f14z0)), (5006, q1bS_9 (l19 ++ [(gM l12 [] (lZ l19))])), (6001, bP (V.int .i64) 0 m108 [] l12), (6002, bP (V.int .i64) 0 m109 false l13), (6003, bP mk110E q1dII m110 [] l14), (6004, bP (V.int .i64) 0 m111 0 l15), (6005, bP mk110E q1dII m110 [] l16), (6006, bP mk112E q1dIIS m112 false l17), (6007, bP mk113E q1dII m113 false l18)], [], 0⟩) rfl rfl ⟨.refl _, .refl _, trivial⟩ ⟨⟨_, rfl, .refl _⟩, ⟨_, rfl, (BLe.of (RL.app (RL.self _) (RL.lst (enc := eS) [(gM l12 [] (lZ l19))] rfl rfl (fun _ => rfl))))⟩, ⟨_, rfl, .refl _⟩, ⟨_, rfl, .refl _⟩, ⟨_, rfl, .refl _⟩, ⟨_, rfl, .refl _⟩, ⟨_, rfl, .refl _⟩, ⟨_, rfl, .refl _⟩, ⟨_, rfl, .refl _⟩, trivial⟩) (Le.mk rfl rfl ⟨.refl _, .refl _, trivial⟩ ⟨⟨_, rfl, .refl _⟩, ⟨_, rfl, .refl _⟩, ⟨_, rfl, .refl _⟩, ⟨_, rfl, .refl _⟩, ⟨_, rfl, .refl _⟩, ⟨_, rfl, .refl _⟩, ⟨_, rfl, .refl _⟩, ⟨_, rfl, .refl _⟩, ⟨_, rfl, .refl _⟩, trivial⟩)) h (Nat.lt_succ_self _)
def f15_L0 (x1 : List (List UInt8)) (x2 : List (List UInt8)) (K1 : Unit → Option Bool) : Nat → Nat → Option Bool
 | 0, _ => none
 | k + 1, n3 =>
  if (decide ((n3 : Int) < (((x1).length : Nat) : Int))) then (
  chk ((n3 : Int) < (((x1).length : Nat) : Int)) <|
  chk ((n3 : Int) < (((x2).length : Nat) : Int)) <|
  if (!((x1.getD n3 []) == (x2.getD n3 []))) then (
  some false
  ) else (
  chk (((n3 : Int) + (1 : Int)) ≤ 9223372036854775807) <|
  (f15_L0 x1 x2 K1 k) (n3 + 1)
  )
  ) else (
  K1 ()
  )
def f15 (x1 : List (List UInt8)) (x2 : List (List UInt8)) : Option Bool :=
 if ((((x1).length : Nat) : Int) != (((x2).length : Nat) : Int)) then (
 some false
 ) else (
 jn (fun (_ : Unit) =>
 some true
 ) fun (K1 : Unit → Option Bool) =>
 f15_L0 x1 x2 K1 FUEL 0
 )
theorem f15_ok  (x1 : List (List UInt8)) (x2 : List (List UInt8)) (r : Bool) (h : f15 x1 x2 = some r)  : Spec1 Tryz.prog 15 [] [] [] [vL 1 eS [] x1, vL 1 eS [] x2] (.bool r) [] := by
 unfold f15 at h
 refine Spec1.body 0 _ _ Tryz.func15 rfl Tryz.ntmps15 rfl rfl ?_
 refine q1rq [] [] ⟨26, [(0, q1aS x1), (1, q1aS x2)], [], [], 0⟩ trivial ?_
 refine AWp.seq ?_
 refine q1rq [] [] ⟨26, [(0, q1aS x1), (1, q1aS x2), (10, .bool ((lZ x1) != (lZ x2)))], [], [], 0⟩ trivial ?_
 refine AWp.cond (b := ((lZ x1) != (lZ x2))) (by kernel_rfl) (fun hc1 => ?_) (fun hc1 => ?_)
 ·
  replace h := ite_tb hc1 h
  refine q1rq [] [] ⟨26, [(4, .bool false)], [], [], 0⟩ trivial ?_
  have hret := Option.some.inj h
  subst hret
  refine AWp.le (Le.mk (s' := ⟨26, [(4, .bool false)], [], [], 0⟩) rfl rfl ⟨.refl _, trivial⟩ trivial) ?_
  refine AWp.ret ?_
  refine tR ?_
  exact bR _ rfl ⟨rfl, rfl⟩ rfl
 ·
  replace h := ite_fb hc1 h
  refine AWp.skip ?_
  refine tN ?_
  obtain ⟨K1, hK1, h⟩ := jn_some h
  refine AWp.join (α := Unit) (fun (x : Unit) => match x with | () => ⟨26, [], [], [], 0⟩) (fun x => K1 x = some r) ?_ ?_
  ·
   refine q1rq [] [] ⟨26, [(0, q1aS x1), (1, q1aS x2), (5, .i (0 : Int))], [], [], 0⟩ trivial ?_
   refine AWp.block ?_
   refine AWp.loopL (α := Nat × Nat) (fun x => match x with | (_, n3) => ⟨26, [(0, q1aS x1), (1, q1aS x2), (5, .i (n3 : Int))], [], [], 0⟩) (fun x => f15_L0 x1 x2 K1 x.1 x.2 = some r) (fun x => x.1) (FUEL, 0) (Le.mk (s' := ⟨26, [(0, q1aS x1), (1, q1aS x2), (5, .i (0 : Int))], [], [], 0⟩) rfl rfl ⟨.refl _, .refl _, .refl _, trivial⟩ trivial) h ?_
   rintro ⟨k0, n3⟩ h
   cases k0 with
   | zero => exact nomatch (show (none : Option Bool) = some r from h)
   | succ k0 =>
   obtain ⟨C0, hC0⟩ : ∃ C, C = f15_L0 x1 x2 K1 k0 := ⟨_, rfl⟩
   replace h := (f15_L0.eq_2 ..).symm.trans h
   try rw [← hC0] at h
   refine AWp.seq ?_
   refine q1rq [] [] ⟨26, [(0, q1aS x1), (1, q1aS x2), (5, .i (n3 : Int)), (14, .bool (decide ((n3 : Int) < (lZ x1))))], [], [], 0⟩ trivial ?_
   refine AWp.cond (b := (decide ((n3 : Int) < (lZ x1)))) (by kernel_rfl) (fun hc2 => ?_) (fun hc2 => ?_)
   ·
    replace h := ite_tb hc2 h
    refine AWp.skip ?_
    refine tN ?_
    refine AWp.seq ?_
    refine AWp.block ?_
    refine AWp.seq ?_
    obtain ⟨ob0p, h⟩ := chk_some h
    have ob0 : 0 ≤ (n3 : Int) ∧ (n3 : Int) < (((x1).length : Nat) : Int) := ⟨by omega, ob0p⟩
    obtain ⟨ob1p, h⟩ := chk_some h
    have ob1 : 0 ≤ (n3 : Int) ∧ (n3 : Int) < (((x2).length : Nat) : Int) := ⟨by omega, ob1p⟩
    refine q1rr [] [] ⟨26, [(0, q1aS x1), (1, q1aS x2), (5, .i (n3 : Int)), (25, .bool (!((x1.getD n3 []) == (x2.getD n3 []))))], [], [], 0⟩ (an2 ob0 ob1) ?_
    refine tN ?_
    refine AWp.cond (b := (!((x1.getD n3 []) == (x2.getD n3 [])))) (by kernel_rfl) (fun hc3 => ?_) (fun hc3 => ?_)
    ·
     replace h := ite_tb hc3 h
     refine q1rq [] [] ⟨26, [(4, .bool false)], [], [], 0⟩ trivial ?_
     have hret := Option.some.inj h
     subst hret
     refine AWp.le (Le.mk (s' := ⟨26, [(4, .bool false)], [], [], 0⟩) rfl rfl ⟨.refl _, trivial⟩ trivial) ?_
     refine AWp.ret ?_
     refine kR ?_
     refine tR ?_
     refine tR ?_
     refine kR ?_
     refine joinQ_ret ?_
     exact bR _ rfl ⟨rfl, rfl⟩ rfl
    ·
     replace h := ite_fb hc3 h
     refine AWp.skip ?_
     refine kN ?_
     refine tN ?_
     obtain ⟨ob2p, h⟩ := chk_some h
     have ob2 : -9223372036854775808 ≤ ((n3 : Int) + (1 : Int)) ∧ ((n3 : Int) + (1 : Int)) ≤ 9223372036854775807 := ⟨by omega, ob2p⟩
     refine q1rr [] [] ⟨26, [(0, q1aS x1), (1, q1aS x2), (5, .i (((n3 + 1) : Nat) : Int))], [], [], 0⟩ (an1 ob2) ?_
     rw [hC0] at h
     exact lN (_, (n3 + 1)) (Le.mk rfl rfl ⟨.refl _, .refl _, .refl _, trivial⟩ trivial) h (Nat.lt_succ_self _)
   ·
    replace h := ite_fb hc2 h
    refine AWp.exit ?_
    refine tE ?_
    refine tE ?_
    refine kS ?_
    exact jN () (Le.mk rfl rfl trivial trivial) h
  ·
   rintro ⟨⟩ h
   replace h := (congrFun hK1 _).symm.trans h
   refine q1rq [] [] ⟨26, [(4, .bool true)], [], [], 0⟩ trivial ?_
   have hret := Option.some.inj h
   subst hret
   refine AWp.le (Le.mk (s' := ⟨26, [(4, .bool true)], [], [], 0⟩) rfl rfl ⟨.refl _, trivial⟩ trivial) ?_
   refine AWp.ret ?_
   exact bR _ rfl ⟨rfl, rfl⟩ rfl
abbrev f11z0 (r1 : Int × Int × Int × Int) (r2 : Tq6) := ((((r1.2.2.2 == (0 : Int)) && ((r1.1 == (0 : Int)) && ((r1.2.1 == (0 : Int)) && ((r1.2.2.1 == (12 : Int)) && true)))) && (r2.2.2 == (0 : Int))) && (r2.1 == (1 : Int)))
abbrev f11z1 (r1 : Int × Int × Int × Int) (r2 : Tq6) (r3 : Tq6) (r4 : Tq6) := ((((f11z0 r1 r2) && (r2.2.1 == (1 : Int))) && (r3.2.2 == (13 : Int))) && (r4.2.2 == (0 : Int)))
abbrev f11z2 (r1 : Int × Int × Int × Int) := ((r1.2.2.2 == (0 : Int)) && ((r1.1 == (0 : Int)) && ((r1.2.1 == (0 : Int)) && ((r1.2.2.1 == (12 : Int)) && true))))
abbrev f11z3 := ([118] : List UInt8)
abbrev f11z4 := ([119] : List UInt8)
abbrev f11z5 (r1 : Int × Int × Int × Int) (r2 : Tq6) (r3 : Tq6) (r4 : Tq6) := ((f11z1 r1 r2 r3 r4) && (r4.2.1 == (3 : Int)))
abbrev f11z6 (r1 : Int × Int × Int × Int) (r2 : Tq6) := ((f11z0 r1 r2) && (r2.2.1 == (1 : Int)))
abbrev f11z7 (r1 : Int × Int × Int × Int) : List V := [.int .i64 r1.1, .int .i64 r1.2.1, .int .i64 r1.2.2.1]
abbrev f11z8 (r1 : Int × Int × Int × Int) := ((r1.2.2.2 == (0 : Int)) == true)
abbrev f11z9 := (List Tq1)
abbrev f11z10 (r1 : Int × Int × Int × Int) (r2 : Tq6) := (((f11z2 r1) && (r2.2.2 == (0 : Int))) == true)
abbrev f11z11 (r1 : Int × Int × Int × Int) (r2 : Tq6) (r3 : Tq6) := (((f11z6 r1 r2) && (r3.2.2 == (13 : Int))) == true)
def f11  : Option Bool :=
 (f22 ([(((0 : Int), (4 : Int), (0 : Int), (0 : Int), (0 : Int), ([118] : List UInt8), []) : Y51), (((0 : Int), (3 : Int), (0 : Int), (0 : Int), (0 : Int), ([119] : List UInt8), []) : Y51)])).bind fun (r1 : Int × Int × Int × Int) =>
 (f13 [] [] (BitVec.ofInt 16 0) [] [] [] ([(((0 : Int), (4 : Int), (0 : Int), (0 : Int), (0 : Int), ([118] : List UInt8), []) : Y51), (((0 : Int), (3 : Int), (0 : Int), (0 : Int), (0 : Int), ([119] : List UInt8), []) : Y51)])).bind fun (r2 : Tq6) =>
 chk ((0 : Int) < ((([(((0 : Int), (4 : Int), (0 : Int), (0 : Int), (0 : Int), ([118] : List UInt8), []) : Y51), (((0 : Int), (3 : Int), (0 : Int), (0 : Int), (0 : Int), ([119] : List UInt8), []) : Y51)]).length : Nat) : Int)) <|
 chk (0 < ([(((0 : Int), (4 : Int), (0 : Int), (0 : Int), (0 : Int), ([118] : List UInt8), []) : Y51), (((0 : Int), (3 : Int), (0 : Int), (0 : Int), (0 : Int), ([119] : List UInt8), []) : Y51)]).length) <|
 (f13 [] [] (BitVec.ofInt 16 0) [] [] [] ([(((([(((0 : Int), (4 : Int), (0 : Int), (0 : Int), (0 : Int), ([118] : List UInt8), []) : Y51), (((0 : Int), (3 : Int), (0 : Int), (0 : Int), (0 : Int), ([119] : List UInt8), []) : Y51)]).getD 0 (default : Y51)).1, (([(((0 : Int), (4 : Int), (0 : Int), (0 : Int), (0 : Int), ([118] : List UInt8), []) : Y51), (((0 : Int), (3 : Int), (0 : Int), (0 : Int), (0 : Int), ([119] : List UInt8), []) : Y51)]).getD 0 (default : Y51)).2.1, (([(((0 : Int), (4 : Int), (0 : Int), (0 : Int), (0 : Int), ([118] : List UInt8), []) : Y51), (((0 : Int), (3 : Int), (0 : Int), (0 : Int), (0 : Int), ([119] : List UInt8), []) : Y51)]).getD 0 (default : Y51)).2.2.1, (([(((0 : Int), (4 : Int), (0 : Int), (0 : Int), (0 : Int), ([118] : List UInt8), []) : Y51), (((0 : Int), (3 : Int), (0 : Int), (0 : Int), (0 : Int), ([119] : List UInt8), []) : Y51)]).getD 0 (default : Y51)).2.2.2.1, (([(((0 : Int), (4 : Int), (0 : Int), (0 : Int), (0 : Int), ([118] : List UInt8), []) : Y51), (((0 : Int), (3 : Int), (0 : Int), (0 : Int), (0 : Int), ([119] : List UInt8), []) : Y51)]).getD 0 (default : Y51)).2.2.2.2.1, (([(((0 : Int), (4 : Int), (0 : Int), (0 : Int), (0 : Int), ([118] : List UInt8), []) : Y51), (((0 : Int), (3 : Int), (0 : Int), (0 : Int), (0 : Int), ([119] : List UInt8), []) : Y51)]).getD 0 (default : Y51)).2.2.2.2.2.1, (([(((0 : Int), (4 : Int), (0 : Int), (0 : Int), (0 : Int), ([118] : List UInt8), []) : Y51), (((0 : Int), (3 : Int), (0 : Int), (0 : Int), (0 : Int), ([119] : List UInt8), []) : Y51)]).getD 0 (default : Y51)).2.2.2.2.2.2) : Y51), (((0 : Int), (3 : Int), (0 : Int), (0 : Int), (0 : Int), ([118] : List UInt8), []) : Y51)])).bind fun (r3 : Tq6) =>
 (f13 [] [] (BitVec.ofInt 16 0) [] [] [] ([(((0 : Int), (2 : Int), (0 : Int), (0 : Int), (1 : Int), [], ([111, 107, 32, 49] : List UInt8)) : Y51)])).bind fun (r4 : Tq6) =>
 (f13 [] [] (BitVec.ofInt 16 0) [] [] [] ([(((0 : Int), (3 : Int), (0 : Int), (1 : Int), (0 : Int), ([118] : List UInt8), []) : Y51)])).bind fun (r5 : Tq6) =>
 if ((((((((((r1.2.2.2 == (0 : Int)) && ((r1.1 == (0 : Int)) && ((r1.2.1 == (0 : Int)) && ((r1.2.2.1 == (12 : Int)) && true)))) && (r2.2.2 == (0 : Int))) && (r2.1 == (1 : Int))) && (r2.2.1 == (1 : Int))) && (r3.2.2 == (13 : Int))) && (r4.2.2 == (0 : Int))) && (r4.2.1 == (3 : Int))) && (r5.2.2 == (0 : Int))) && (r5.2.1 == (2 : Int))) = true then (
 (f14 ([(((([(((0 : Int), (4 : Int), (0 : Int), (0 : Int), (0 : Int), ([118] : List UInt8), []) : Y51), (((0 : Int), (3 : Int), (0 : Int), (0 : Int), (0 : Int), ([119] : List UInt8), []) : Y51)]).getD 0 (default : Y51)).1, (([(((0 : Int), (4 : Int), (0 : Int), (0 : Int), (0 : Int), ([118] : List UInt8), []) : Y51), (((0 : Int), (3 : Int), (0 : Int), (0 : Int), (0 : Int), ([119] : List UInt8), []) : Y51)]).getD 0 (default : Y51)).2.1, (([(((0 : Int), (4 : Int), (0 : Int), (0 : Int), (0 : Int), ([118] : List UInt8), []) : Y51), (((0 : Int), (3 : Int), (0 : Int), (0 : Int), (0 : Int), ([119] : List UInt8), []) : Y51)]).getD 0 (default : Y51)).2.2.1, (([(((0 : Int), (4 : Int), (0 : Int), (0 : Int), (0 : Int), ([118] : List UInt8), []) : Y51), (((0 : Int), (3 : Int), (0 : Int), (0 : Int), (0 : Int), ([119] : List UInt8), []) : Y51)]).getD 0 (default : Y51)).2.2.2.1, (([(((0 : Int), (4 : Int), (0 : Int), (0 : Int), (0 : Int), ([118] : List UInt8), []) : Y51), (((0 : Int), (3 : Int), (0 : Int), (0 : Int), (0 : Int), ([119] : List UInt8), []) : Y51)]).getD 0 (default : Y51)).2.2.2.2.1, (([(((0 : Int), (4 : Int), (0 : Int), (0 : Int), (0 : Int), ([118] : List UInt8), []) : Y51), (((0 : Int), (3 : Int), (0 : Int), (0 : Int), (0 : Int), ([119] : List UInt8), []) : Y51)]).getD 0 (default : Y51)).2.2.2.2.2.1, (([(((0 : Int), (4 : Int), (0 : Int), (0 : Int), (0 : Int), ([118] : List UInt8), []) : Y51), (((0 : Int), (3 : Int), (0 : Int), (0 : Int), (0 : Int), ([119] : List UInt8), []) : Y51)]).getD 0 (default : Y51)).2.2.2.2.2.2) : Y51), (((0 : Int), (3 : Int), (0 : Int), (0 : Int), (0 : Int), ([118] : List UInt8), []) : Y51)])).bind fun (r6 : List (List UInt8)) =>
 (f15 r6 ([([118] : List UInt8)])).bind fun (r7 : Bool) =>
 some r7
 ) else (
 some false
 )
theorem f11_ok   (r : Bool) (h : f11 = some r)  : Spec1 Tryz.prog 11 [(1, .tab .u64 Lib.pow10Tab), (2, errG), (3, errG)] [] [] [] (.bool r) [] := by
 unfold f11 at h
 refine Spec1.body 0 _ _ Tryz.func11 rfl Tryz.ntmps11 rfl rfl ?_
 refine q1rq [] [] ⟨107, [(1000001, .tab .u64 Lib.pow10Tab), (1000002, errG), (1000003, errG)], [], [], 0⟩ trivial ?_
 refine q1rq [] [] ⟨107, [(1, .ptr 1 0), (1000001, .tab .u64 Lib.pow10Tab), (1000002, errG), (1000003, errG)], [(1, .cells 37 [.nils, .nils, .b16 (q1w16 0), .nils, .nils, .nils])], [], 0⟩ (an1 trivial) ?_
 refine q1rq [] [] ⟨107, [(1, .ptr 1 0), (2, .own 21), (1000001, .tab .u64 Lib.pow10Tab), (1000002, errG), (1000003, errG)], [(1, .cells 37 [.nils, .nils, .b16 (q1w16 0), .nils, .nils, .nils]), (21, .rows 51 28 2 (lstF 28 [.i (0 : Int), .i (4 : Int), .i (0 : Int), .i (0 : Int), .i (0 : Int), .str (f11z3), .str [], .i (0 : Int), .i (0 : Int), .i (0 : Int), .i (0 : Int), .i (0 : Int), .str [], .i (0 : Int), .i (0 : Int), .i (0 : Int), .i (0 : Int), .i (0 : Int), .str [], .str [], .nils, .nils, .i (0 : Int), .str [], .nils, .nils, .nils, .nils, .i (0 : Int), .i (3 : Int), .i (0 : Int), .i (0 : Int), .i (0 : Int), .str (f11z4), .str [], .i (0 : Int), .i (0 : Int), .i (0 : Int), .i (0 : Int), .i (0 : Int), .str [], .i (0 : Int), .i (0 : Int), .i (0 : Int), .i (0 : Int), .i (0 : Int), .str [], .str [], .nils, .nils, .i (0 : Int), .str [], .nils, .nils, .nils, .nils]))], [], 0⟩ trivial ?_
 refine AWp.le (Le.mk (s' := ⟨107, [(1, .ptr 1 0), (2, .own 21), (1000001, .tab .u64 Lib.pow10Tab), (1000002, errG), (1000003, errG)], [(1, .cells 37 [.nils, .nils, .b16 (q1w16 0), .nils, .nils, .nils]), (21, q1bT51_51 [(((0 : Int), (4 : Int), (0 : Int), (0 : Int), (0 : Int), (f11z3), []) : Y51), (((0 : Int), (3 : Int), (0 : Int), (0 : Int), (0 : Int), (f11z4), []) : Y51)])], [], 0⟩) rfl rfl ⟨.refl _, .refl _, .refl _, .refl _, .refl _, trivial⟩ ⟨⟨_, rfl, .refl _⟩, ⟨_, rfl, (BLe.of (RL.lstV (enc := eT51) [(((0 : Int), (4 : Int), (0 : Int), (0 : Int), (0 : Int), (f11z3), []) : Y51), (((0 : Int), (3 : Int), (0 : Int), (0 : Int), (0 : Int), (f11z4), []) : Y51)] rfl ⟨.refl _, .refl _, .refl _, .refl _, .refl _, .refl _, .refl _, VLe.opq rfl, VLe.opq rfl, VLe.opq rfl, VLe.opq rfl, VLe.opq rfl, VLe.opq rfl, VLe.opq rfl, VLe.opq rfl, VLe.opq rfl, VLe.opq rfl, VLe.opq rfl, VLe.opq rfl, VLe.opq rfl, VLe.opq rfl, VLe.opq rfl, VLe.opq rfl, VLe.opq rfl, VLe.opq rfl, VLe.opq rfl, VLe.opq rfl, VLe.opq rfl, .refl _, .refl _, .refl _, .refl _, .refl _, .refl _, .refl _, VLe.opq rfl, VLe.opq rfl, VLe.opq rfl, VLe.opq rfl, VLe.opq rfl, VLe.opq rfl, VLe.opq rfl, VLe.opq rfl, VLe.opq rfl, VLe.opq rfl, VLe.opq rfl, VLe.opq rfl, VLe.opq rfl, VLe.opq rfl, VLe.opq rfl, VLe.opq rfl, VLe.opq rfl, VLe.opq rfl, VLe.opq rfl, VLe.opq rfl, VLe.opq rfl, trivial⟩ (fun _ => rfl)))⟩, trivial⟩) ?_
 refine AWp.seq ?_
 obtain ⟨r1, hr1, h⟩ := bind_ok h
 refine q1rr [] [(1, ⟨[q1aT51 [(((0 : Int), (4 : Int), (0 : Int), (0 : Int), (0 : Int), (f11z3), []) : Y51), (((0 : Int), (3 : Int), (0 : Int), (0 : Int), (0 : Int), (f11z4), []) : Y51)]], [], [], [], .tup [.agg (f11z7 r1), .i r1.2.2.2], [], [21], []⟩)] ⟨107, [(1, .ptr 1 0), (2, .own 21), (3, .ptr 3 0), (4, .i r1.2.2.2), (1000001, .tab .u64 Lib.pow10Tab), (1000002, errG), (1000003, errG)], [(1, .cells 37 [.nils, .nils, .b16 (q1w16 0), .nils, .nils, .nils]), (3, .cells 60 (f11z7 r1)), (21, q1bT51_51 [(((0 : Int), (4 : Int), (0 : Int), (0 : Int), (0 : Int), (f11z3), []) : Y51), (((0 : Int), (3 : Int), (0 : Int), (0 : Int), (0 : Int), (f11z4), []) : Y51)])], [], 0⟩ (an2 (cpL (c := true) [(21, q1bT51_51 [(((0 : Int), (4 : Int), (0 : Int), (0 : Int), (0 : Int), (f11z3), []) : Y51), (((0 : Int), (3 : Int), (0 : Int), (0 : Int), (0 : Int), (f11z4), []) : Y51)])] [21] [.own 21] (fun _ => (f22_ok _ _ hr1)) (fun _ => ⟨.refl _, trivial⟩) (.inr ⟨rfl, trivial⟩)) trivial) ?_
 refine tN ?_
 refine AWp.seq ?_
 obtain ⟨r2, hr2, h⟩ := bind_ok h
 refine q1rr [] [(2, ⟨[.agg [q1aS [], q1aSW [], .b16 (q1w16 0), vL 6 eT73 (default : List UInt8 × Int × BitVec 16 × List (BitVec 16) × List (BitVec 16) × (f11z9)) [], q1aI [], vL 3 eSBLWWJ (default : List UInt8 × Bool × (f11z9)) []], q1aT51 [(((0 : Int), (4 : Int), (0 : Int), (0 : Int), (0 : Int), (f11z3), []) : Y51), (((0 : Int), (3 : Int), (0 : Int), (0 : Int), (0 : Int), (f11z4), []) : Y51)]], [], [], [], .tup [.i r2.1, .i r2.2.1, .i r2.2.2], [], [21], [1, 2, 3]⟩)] ⟨107, [(1, .ptr 1 0), (2, .own 21), (3, .ptr 3 0), (4, .i r1.2.2.2), (5, .i r2.1), (6, .i r2.2.1), (7, .i r2.2.2), (1000001, .tab .u64 Lib.pow10Tab), (1000002, errG), (1000003, errG)], [(1, .cells 37 [.nils, .nils, .b16 (q1w16 0), .nils, .nils, .nils]), (3, .cells 60 (f11z7 r1)), (21, q1bT51_51 [(((0 : Int), (4 : Int), (0 : Int), (0 : Int), (0 : Int), (f11z3), []) : Y51), (((0 : Int), (3 : Int), (0 : Int), (0 : Int), (0 : Int), (f11z4), []) : Y51)])], [], 0⟩ (an1 (cpL (c := true) [(21, q1bT51_51 [(((0 : Int), (4 : Int), (0 : Int), (0 : Int), (0 : Int), (f11z3), []) : Y51), (((0 : Int), (3 : Int), (0 : Int), (0 : Int), (0 : Int), (f11z4), []) : Y51)])] [21] [.agg [.nils, .nils, .b16 (q1w16 0), .nils, .nils, .nils], .own 21] (fun _ => (f13_ok _ _ _ _ _ _ _ _ hr2)) (fun _ => ⟨(.aggs ⟨.nilL, .nilL, .refl _, .nilL, .nilL, .nilL, trivial⟩), .refl _, trivial⟩) (.inr ⟨rfl, trivial⟩))) ?_
 refine tN ?_
 refine AWp.seq ?_
 obtain ⟨ob0p, h⟩ := chk_some h
 have ob0 : 0 ≤ (0 : Int) ∧ (0 : Int) < ((([(((0 : Int), (4 : Int), (0 : Int), (0 : Int), (0 : Int), ([118] : List UInt8), []) : Y51), (((0 : Int), (3 : Int), (0 : Int), (0 : Int), (0 : Int), ([119] : List UInt8), []) : Y51)]).length : Nat) : Int) := ⟨by omega, ob0p⟩
 obtain ⟨ob1, h⟩ := chk_some h
 refine q1rr [] [] ⟨107, [(1, .ptr 1 0), (3, .ptr 3 0), (4, .i r1.2.2.2), (5, .i r2.1), (6, .i r2.2.1), (7, .i r2.2.2), (8, .own 38), (1000001, .tab .u64 Lib.pow10Tab), (1000002, errG), (1000003, errG)], [(1, .cells 37 [.nils, .nils, .b16 (q1w16 0), .nils, .nils, .nils]), (3, .cells 60 (f11z7 r1)), (38, .rows 51 28 2 (lstF 28 [.i (([(((0 : Int), (4 : Int), (0 : Int), (0 : Int), (0 : Int), (f11z3), []) : Y51), (((0 : Int), (3 : Int), (0 : Int), (0 : Int), (0 : Int), (f11z4), []) : Y51)]).getD 0 q1dT51).1, .i (([(((0 : Int), (4 : Int), (0 : Int), (0 : Int), (0 : Int), (f11z3), []) : Y51), (((0 : Int), (3 : Int), (0 : Int), (0 : Int), (0 : Int), (f11z4), []) : Y51)]).getD 0 q1dT51).2.1, .i (([(((0 : Int), (4 : Int), (0 : Int), (0 : Int), (0 : Int), (f11z3), []) : Y51), (((0 : Int), (3 : Int), (0 : Int), (0 : Int), (0 : Int), (f11z4), []) : Y51)]).getD 0 q1dT51).2.2.1, .i (([(((0 : Int), (4 : Int), (0 : Int), (0 : Int), (0 : Int), (f11z3), []) : Y51), (((0 : Int), (3 : Int), (0 : Int), (0 : Int), (0 : Int), (f11z4), []) : Y51)]).getD 0 q1dT51).2.2.2.1, .i (([(((0 : Int), (4 : Int), (0 : Int), (0 : Int), (0 : Int), (f11z3), []) : Y51), (((0 : Int), (3 : Int), (0 : Int), (0 : Int), (0 : Int), (f11z4), []) : Y51)]).getD 0 q1dT51).2.2.2.2.1, .str (([(((0 : Int), (4 : Int), (0 : Int), (0 : Int), (0 : Int), (f11z3), []) : Y51), (((0 : Int), (3 : Int), (0 : Int), (0 : Int), (0 : Int), (f11z4), []) : Y51)]).getD 0 q1dT51).2.2.2.2.2.1, .str (([(((0 : Int), (4 : Int), (0 : Int), (0 : Int), (0 : Int), (f11z3), []) : Y51), (((0 : Int), (3 : Int), (0 : Int), (0 : Int), (0 : Int), (f11z4), []) : Y51)]).getD 0 q1dT51).2.2.2.2.2.2, .opq, .opq, .opq, .opq, .opq, .opq, .opq, .opq, .opq, .opq, .opq, .opq, .opq, .opq, .opq, .opq, .opq, .opq, .opq, .opq, .opq, .i (0 : Int), .i (3 : Int), .i (0 : Int), .i (0 : Int), .i (0 : Int), .str (f11z3), .str [], .i (0 : Int), .i (0 : Int), .i (0 : Int), .i (0 : Int), .i (0 : Int), .str [], .i (0 : Int), .i (0 : Int), .i (0 : Int), .i (0 : Int), .i (0 : Int), .str [], .str [], .nils, .nils, .i (0 : Int), .str [], .nils, .nils, .nils, .nils]))], [], 0⟩ (an2 ob0 ob1) ?_
 refine tN ?_
 refine AWp.le (Le.mk (s' := ⟨107, [(1, .ptr 1 0), (3, .ptr 3 0), (4, .i r1.2.2.2), (5, .i r2.1), (6, .i r2.2.1), (7, .i r2.2.2), (8, .own 38), (1000001, .tab .u64 Lib.pow10Tab), (1000002, errG), (1000003, errG)], [(1, .cells 37 [.nils, .nils, .b16 (q1w16 0), .nils, .nils, .nils]), (3, .cells 60 (f11z7 r1)), (38, q1bT51_51 [(((([(((0 : Int), (4 : Int), (0 : Int), (0 : Int), (0 : Int), (f11z3), []) : Y51), (((0 : Int), (3 : Int), (0 : Int), (0 : Int), (0 : Int), (f11z4), []) : Y51)]).getD 0 q1dT51).1, (([(((0 : Int), (4 : Int), (0 : Int), (0 : Int), (0 : Int), (f11z3), []) : Y51), (((0 : Int), (3 : Int), (0 : Int), (0 : Int), (0 : Int), (f11z4), []) : Y51)]).getD 0 q1dT51).2.1, (([(((0 : Int), (4 : Int), (0 : Int), (0 : Int), (0 : Int), (f11z3), []) : Y51), (((0 : Int), (3 : Int), (0 : Int), (0 : Int), (0 : Int), (f11z4), []) : Y51)]).getD 0 q1dT51).2.2.1, (([(((0 : Int), (4 : Int), (0 : Int), (0 : Int), (0 : Int), (f11z3), []) : Y51), (((0 : Int), (3 : Int), (0 : Int), (0 : Int), (0 : Int), (f11z4), []) : Y51)]).getD 0 q1dT51).2.2.2.1, (([(((0 : Int), (4 : Int), (0 : Int), (0 : Int), (0 : Int), (f11z3), []) : Y51), (((0 : Int), (3 : Int), (0 : Int), (0 : Int), (0 : Int), (f11z4), []) : Y51)]).getD 0 q1dT51).2.2.2.2.1, (([(((0 : Int), (4 : Int), (0 : Int), (0 : Int), (0 : Int), (f11z3), []) : Y51), (((0 : Int), (3 : Int), (0 : Int), (0 : Int), (0 : Int), (f11z4), []) : Y51)]).getD 0 q1dT51).2.2.2.2.2.1, (([(((0 : Int), (4 : Int), (0 : Int), (0 : Int), (0 : Int), (f11z3), []) : Y51), (((0 : Int), (3 : Int), (0 : Int), (0 : Int), (0 : Int), (f11z4), []) : Y51)]).getD 0 q1dT51).2.2.2.2.2.2) : Y51), (((0 : Int), (3 : Int), (0 : Int), (0 : Int), (0 : Int), (f11z3), []) : Y51)])], [], 0⟩) rfl rfl ⟨.refl _, .refl _, .refl _, .refl _, .refl _, .refl _, .refl _, .refl _, .refl _, .refl _, trivial⟩ ⟨⟨_, rfl, .refl _⟩, ⟨_, rfl, .refl _⟩, ⟨_, rfl, (BLe.of (RL.lstV (enc := eT51) [(((([(((0 : Int), (4 : Int), (0 : Int), (0 : Int), (0 : Int), (f11z3), []) : Y51), (((0 : Int), (3 : Int), (0 : Int), (0 : Int), (0 : Int), (f11z4), []) : Y51)]).getD 0 q1dT51).1, (([(((0 : Int), (4 : Int), (0 : Int), (0 : Int), (0 : Int), (f11z3), []) : Y51), (((0 : Int), (3 : Int), (0 : Int), (0 : Int), (0 : Int), (f11z4), []) : Y51)]).getD 0 q1dT51).2.1, (([(((0 : Int), (4 : Int), (0 : Int), (0 : Int), (0 : Int), (f11z3), []) : Y51), (((0 : Int), (3 : Int), (0 : Int), (0 : Int), (0 : Int), (f11z4), []) : Y51)]).getD 0 q1dT51).2.2.1, (([(((0 : Int), (4 : Int), (0 : Int), (0 : Int), (0 : Int), (f11z3), []) : Y51), (((0 : Int), (3 : Int), (0 : Int), (0 : Int), (0 : Int), (f11z4), []) : Y51)]).getD 0 q1dT51).2.2.2.1, (([(((0 : Int), (4 : Int), (0 : Int), (0 : Int), (0 : Int), (f11z3), []) : Y51), (((0 : Int), (3 : Int), (0 : Int), (0 : Int), (0 : Int), (f11z4), []) : Y51)]).getD 0 q1dT51).2.2.2.2.1, (([(((0 : Int), (4 : Int), (0 : Int), (0 : Int), (0 : Int), (f11z3), []) : Y51), (((0 : Int), (3 : Int), (0 : Int), (0 : Int), (0 : Int), (f11z4), []) : Y51)]).getD 0 q1dT51).2.2.2.2.2.1, (([(((0 : Int), (4 : Int), (0 : Int), (0 : Int), (0 : Int), (f11z3), []) : Y51), (((0 : Int), (3 : Int), (0 : Int), (0 : Int), (0 : Int), (f11z4), []) : Y51)]).getD 0 q1dT51).2.2.2.2.2.2) : Y51), (((0 : Int), (3 : Int), (0 : Int), (0 : Int), (0 : Int), (f11z3), []) : Y51)] rfl ⟨.refl _, .refl _, .refl _, .refl _, .refl _, .refl _, .refl _, .refl _, .refl _, .refl _, .refl _, .refl _, .refl _, .refl _, .refl _, .refl _, .refl _, .refl _, .refl _, .refl _, .refl _, .refl _, .refl _, .refl _, .refl _, .refl _, .refl _, .refl _, .refl _, .refl _, .refl _, .refl _, .refl _, .refl _, .refl _, VLe.opq rfl, VLe.opq rfl, VLe.opq rfl, VLe.opq rfl, VLe.opq rfl, VLe.opq rfl, VLe.opq rfl, VLe.opq rfl, VLe.opq rfl, VLe.opq rfl, VLe.opq rfl, VLe.opq rfl, VLe.opq rfl, VLe.opq rfl, VLe.opq rfl, VLe.opq rfl, VLe.opq rfl, VLe.opq rfl, VLe.opq rfl, VLe.opq rfl, VLe.opq rfl, trivial⟩ (fun _ => rfl)))⟩, trivial⟩) ?_
 refine AWp.seq ?_
 obtain ⟨r3, hr3, h⟩ := bind_ok h
 refine q1rr [] [(2, ⟨[.agg [q1aS [], q1aSW [], .b16 (q1w16 0), vL 6 eT73 (default : List UInt8 × Int × BitVec 16 × List (BitVec 16) × List (BitVec 16) × (f11z9)) [], q1aI [], vL 3 eSBLWWJ (default : List UInt8 × Bool × (f11z9)) []], q1aT51 [(((([(((0 : Int), (4 : Int), (0 : Int), (0 : Int), (0 : Int), (f11z3), []) : Y51), (((0 : Int), (3 : Int), (0 : Int), (0 : Int), (0 : Int), (f11z4), []) : Y51)]).getD 0 q1dT51).1, (([(((0 : Int), (4 : Int), (0 : Int), (0 : Int), (0 : Int), (f11z3), []) : Y51), (((0 : Int), (3 : Int), (0 : Int), (0 : Int), (0 : Int), (f11z4), []) : Y51)]).getD 0 q1dT51).2.1, (([(((0 : Int), (4 : Int), (0 : Int), (0 : Int), (0 : Int), (f11z3), []) : Y51), (((0 : Int), (3 : Int), (0 : Int), (0 : Int), (0 : Int), (f11z4), []) : Y51)]).getD 0 q1dT51).2.2.1, (([(((0 : Int), (4 : Int), (0 : Int), (0 : Int), (0 : Int), (f11z3), []) : Y51), (((0 : Int), (3 : Int), (0 : Int), (0 : Int), (0 : Int), (f11z4), []) : Y51)]).getD 0 q1dT51).2.2.2.1, (([(((0 : Int), (4 : Int), (0 : Int), (0 : Int), (0 : Int), (f11z3), []) : Y51), (((0 : Int), (3 : Int), (0 : Int), (0 : Int), (0 : Int), (f11z4), []) : Y51)]).getD 0 q1dT51).2.2.2.2.1, (([(((0 : Int), (4 : Int), (0 : Int), (0 : Int), (0 : Int), (f11z3), []) : Y51), (((0 : Int), (3 : Int), (0 : Int), (0 : Int), (0 : Int), (f11z4), []) : Y51)]).getD 0 q1dT51).2.2.2.2.2.1, (([(((0 : Int), (4 : Int), (0 : Int), (0 : Int), (0 : Int), (f11z3), []) : Y51), (((0 : Int), (3 : Int), (0 : Int), (0 : Int), (0 : Int), (f11z4), []) : Y51)]).getD 0 q1dT51).2.2.2.2.2.2) : Y51), (((0 : Int), (3 : Int), (0 : Int), (0 : Int), (0 : Int), (f11z3), []) : Y51)]], [], [], [], .tup [.i r3.1, .i r3.2.1, .i r3.2.2], [], [38], [1, 2, 3]⟩)] ⟨107, [(1, .ptr 1 0), (3, .ptr 3 0), (4, .i r1.2.2.2), (5, .i r2.1), (6, .i r2.2.1), (7, .i r2.2.2), (8, .own 38), (11, .i r3.2.2), (1000001, .tab .u64 Lib.pow10Tab), (1000002, errG), (1000003, errG)], [(1, .cells 37 [.nils, .nils, .b16 (q1w16 0), .nils, .nils, .nils]), (3, .cells 60 (f11z7 r1)), (38, q1bT51_51 [(((([(((0 : Int), (4 : Int), (0 : Int), (0 : Int), (0 : Int), (f11z3), []) : Y51), (((0 : Int), (3 : Int), (0 : Int), (0 : Int), (0 : Int), (f11z4), []) : Y51)]).getD 0 q1dT51).1, (([(((0 : Int), (4 : Int), (0 : Int), (0 : Int), (0 : Int), (f11z3), []) : Y51), (((0 : Int), (3 : Int), (0 : Int), (0 : Int), (0 : Int), (f11z4), []) : Y51)]).getD 0 q1dT51).2.1, (([(((0 : Int), (4 : Int), (0 : Int), (0 : Int), (0 : Int), (f11z3), []) : Y51), (((0 : Int), (3 : Int), (0 : Int), (0 : Int), (0 : Int), (f11z4), []) : Y51)]).getD 0 q1dT51).2.2.1, (([(((0 : Int), (4 : Int), (0 : Int), (0 : Int), (0 : Int), (f11z3), []) : Y51), (((0 : Int), (3 : Int), (0 : Int), (0 : Int), (0 : Int), (f11z4), []) : Y51)]).getD 0 q1dT51).2.2.2.1, (([(((0 : Int), (4 : Int), (0 : Int), (0 : Int), (0 : Int), (f11z3), []) : Y51), (((0 : Int), (3 : Int), (0 : Int), (0 : Int), (0 : Int), (f11z4), []) : Y51)]).getD 0 q1dT51).2.2.2.2.1, (([(((0 : Int), (4 : Int), (0 : Int), (0 : Int), (0 : Int), (f11z3), []) : Y51), (((0 : Int), (3 : Int), (0 : Int), (0 : Int), (0 : Int), (f11z4), []) : Y51)]).getD 0 q1dT51).2.2.2.2.2.1, (([(((0 : Int), (4 : Int), (0 : Int), (0 : Int), (0 : Int), (f11z3), []) : Y51), (((0 : Int), (3 : Int), (0 : Int), (0 : Int), (0 : Int), (f11z4), []) : Y51)]).getD 0 q1dT51).2.2.2.2.2.2) : Y51), (((0 : Int), (3 : Int), (0 : Int), (0 : Int), (0 : Int), (f11z3), []) : Y51)])], [], 0⟩ (an1 (cpL (c := true) [(38, q1bT51_51 [(((([(((0 : Int), (4 : Int), (0 : Int), (0 : Int), (0 : Int), (f11z3), []) : Y51), (((0 : Int), (3 : Int), (0 : Int), (0 : Int), (0 : Int), (f11z4), []) : Y51)]).getD 0 q1dT51).1, (([(((0 : Int), (4 : Int), (0 : Int), (0 : Int), (0 : Int), (f11z3), []) : Y51), (((0 : Int), (3 : Int), (0 : Int), (0 : Int), (0 : Int), (f11z4), []) : Y51)]).getD 0 q1dT51).2.1, (([(((0 : Int), (4 : Int), (0 : Int), (0 : Int), (0 : Int), (f11z3), []) : Y51), (((0 : Int), (3 : Int), (0 : Int), (0 : Int), (0 : Int), (f11z4), []) : Y51)]).getD 0 q1dT51).2.2.1, (([(((0 : Int), (4 : Int), (0 : Int), (0 : Int), (0 : Int), (f11z3), []) : Y51), (((0 : Int), (3 : Int), (0 : Int), (0 : Int), (0 : Int), (f11z4), []) : Y51)]).getD 0 q1dT51).2.2.2.1, (([(((0 : Int), (4 : Int), (0 : Int), (0 : Int), (0 : Int), (f11z3), []) : Y51), (((0 : Int), (3 : Int), (0 : Int), (0 : Int), (0 : Int), (f11z4), []) : Y51)]).getD 0 q1dT51).2.2.2.2.1, (([(((0 : Int), (4 : Int), (0 : Int), (0 : Int), (0 : Int), (f11z3), []) : Y51), (((0 : Int), (3 : Int), (0 : Int), (0 : Int), (0 : Int), (f11z4), []) : Y51)]).getD 0 q1dT51).2.2.2.2.2.1, (([(((0 : Int), (4 : Int), (0 : Int), (0 : Int), (0 : Int), (f11z3), []) : Y51), (((0 : Int), (3 : Int), (0 : Int), (0 : Int), (0 : Int), (f11z4), []) : Y51)]).getD 0 q1dT51).2.2.2.2.2.2) : Y51), (((0 : Int), (3 : Int), (0 : Int), (0 : Int), (0 : Int), (f11z3), []) : Y51)])] [38] [.agg [.nils, .nils, .b16 (q1w16 0), .nils, .nils, .nils], .own 38] (fun _ => (f13_ok _ _ _ _ _ _ _ _ hr3)) (fun _ => ⟨(.aggs ⟨.nilL, .nilL, .refl _, .nilL, .nilL, .nilL, trivial⟩), .refl _, trivial⟩) (.inr ⟨rfl, trivial⟩))) ?_
 refine tN ?_
 refine AWp.seq ?_
 obtain ⟨r4, hr4, h⟩ := bind_ok h
 refine q1rr [] [(3, ⟨[.agg [q1aS [], q1aSW [], .b16 (q1w16 0), vL 6 eT73 (default : List UInt8 × Int × BitVec 16 × List (BitVec 16) × List (BitVec 16) × (f11z9)) [], q1aI [], vL 3 eSBLWWJ (default : List UInt8 × Bool × (f11z9)) []], q1aT51 [(((0 : Int), (2 : Int), (0 : Int), (0 : Int), (1 : Int), [], ([111, 107, 32, 49] : List UInt8)) : Y51)]], [], [], [], .tup [.i r4.1, .i r4.2.1, .i r4.2.2], [], [49], [1, 2, 3]⟩)] ⟨107, [(1, .ptr 1 0), (3, .ptr 3 0), (4, .i r1.2.2.2), (5, .i r2.1), (6, .i r2.2.1), (7, .i r2.2.2), (8, .own 38), (11, .i r3.2.2), (13, .i r4.2.1), (14, .i r4.2.2), (1000001, .tab .u64 Lib.pow10Tab), (1000002, errG), (1000003, errG)], [(1, .cells 37 [.nils, .nils, .b16 (q1w16 0), .nils, .nils, .nils]), (3, .cells 60 (f11z7 r1)), (38, q1bT51_51 [(((([(((0 : Int), (4 : Int), (0 : Int), (0 : Int), (0 : Int), (f11z3), []) : Y51), (((0 : Int), (3 : Int), (0 : Int), (0 : Int), (0 : Int), (f11z4), []) : Y51)]).getD 0 q1dT51).1, (([(((0 : Int), (4 : Int), (0 : Int), (0 : Int), (0 : Int), (f11z3), []) : Y51), (((0 : Int), (3 : Int), (0 : Int), (0 : Int), (0 : Int), (f11z4), []) : Y51)]).getD 0 q1dT51).2.1, (([(((0 : Int), (4 : Int), (0 : Int), (0 : Int), (0 : Int), (f11z3), []) : Y51), (((0 : Int), (3 : Int), (0 : Int), (0 : Int), (0 : Int), (f11z4), []) : Y51)]).getD 0 q1dT51).2.2.1, (([(((0 : Int), (4 : Int), (0 : Int), (0 : Int), (0 : Int), (f11z3), []) : Y51), (((0 : Int), (3 : Int), (0 : Int), (0 : Int), (0 : Int), (f11z4), []) : Y51)]).getD 0 q1dT51).2.2.2.1, (([(((0 : Int), (4 : Int), (0 : Int), (0 : Int), (0 : Int), (f11z3), []) : Y51), (((0 : Int), (3 : Int), (0 : Int), (0 : Int), (0 : Int), (f11z4), []) : Y51)]).getD 0 q1dT51).2.2.2.2.1, (([(((0 : Int), (4 : Int), (0 : Int), (0 : Int), (0 : Int), (f11z3), []) : Y51), (((0 : Int), (3 : Int), (0 : Int), (0 : Int), (0 : Int), (f11z4), []) : Y51)]).getD 0 q1dT51).2.2.2.2.2.1, (([(((0 : Int), (4 : Int), (0 : Int), (0 : Int), (0 : Int), (f11z3), []) : Y51), (((0 : Int), (3 : Int), (0 : Int), (0 : Int), (0 : Int), (f11z4), []) : Y51)]).getD 0 q1dT51).2.2.2.2.2.2) : Y51), (((0 : Int), (3 : Int), (0 : Int), (0 : Int), (0 : Int), (f11z3), []) : Y51)])], [], 0⟩ (an1 (cpL (c := true) [(49, .rows 51 28 1 (lstF 28 [.i (0 : Int), .i (2 : Int), .i (0 : Int), .i (0 : Int), .i (1 : Int), .str [], .str ([111, 107, 32, 49] : List UInt8), .i (0 : Int), .i (0 : Int), .i (0 : Int), .i (0 : Int), .i (0 : Int), .str [], .i (0 : Int), .i (0 : Int), .i (0 : Int), .i (0 : Int), .i (0 : Int), .str [], .str [], .nils, .nils, .i (0 : Int), .str [], .nils, .nils, .nils, .nils]))] [49] [.agg [.nils, .nils, .b16 (q1w16 0), .nils, .nils, .nils], .own 49] (fun _ => (f13_ok _ _ _ _ _ _ _ _ hr4)) (fun _ => ⟨(.aggs ⟨.nilL, .nilL, .refl _, .nilL, .nilL, .nilL, trivial⟩), (VLe.of (RL.lstV (enc := eT51) [(((0 : Int), (2 : Int), (0 : Int), (0 : Int), (1 : Int), [], ([111, 107, 32, 49] : List UInt8)) : Y51)] rfl ⟨.refl _, .refl _, .refl _, .refl _, .refl _, .refl _, .refl _, VLe.opq rfl, VLe.opq rfl, VLe.opq rfl, VLe.opq rfl, VLe.opq rfl, VLe.opq rfl, VLe.opq rfl, VLe.opq rfl, VLe.opq rfl, VLe.opq rfl, VLe.opq rfl, VLe.opq rfl, VLe.opq rfl, VLe.opq rfl, VLe.opq rfl, VLe.opq rfl, VLe.opq rfl, VLe.opq rfl, VLe.opq rfl, VLe.opq rfl, VLe.opq rfl, trivial⟩ (fun _ => rfl))), trivial⟩) (.inr ⟨rfl, trivial⟩))) ?_
 refine tN ?_
 refine AWp.seq ?_
 obtain ⟨r5, hr5, h⟩ := bind_ok h
 refine q1rr [] [(3, ⟨[.agg [q1aS [], q1aSW [], .b16 (q1w16 0), vL 6 eT73 (default : List UInt8 × Int × BitVec 16 × List (BitVec 16) × List (BitVec 16) × (f11z9)) [], q1aI [], vL 3 eSBLWWJ (default : List UInt8 × Bool × (f11z9)) []], q1aT51 [(((0 : Int), (3 : Int), (0 : Int), (1 : Int), (0 : Int), (f11z3), []) : Y51)]], [], [], [], .tup [.i r5.1, .i r5.2.1, .i r5.2.2], [], [57], [1, 2, 3]⟩)] ⟨107, [(3, .ptr 3 0), (4, .i r1.2.2.2), (5, .i r2.1), (6, .i r2.2.1), (7, .i r2.2.2), (8, .own 38), (11, .i r3.2.2), (13, .i r4.2.1), (14, .i r4.2.2), (16, .i r5.2.1), (17, .i r5.2.2), (1000001, .tab .u64 Lib.pow10Tab), (1000002, errG), (1000003, errG)], [(3, .cells 60 (f11z7 r1)), (38, q1bT51_51 [(((([(((0 : Int), (4 : Int), (0 : Int), (0 : Int), (0 : Int), (f11z3), []) : Y51), (((0 : Int), (3 : Int), (0 : Int), (0 : Int), (0 : Int), (f11z4), []) : Y51)]).getD 0 q1dT51).1, (([(((0 : Int), (4 : Int), (0 : Int), (0 : Int), (0 : Int), (f11z3), []) : Y51), (((0 : Int), (3 : Int), (0 : Int), (0 : Int), (0 : Int), (f11z4), []) : Y51)]).getD 0 q1dT51).2.1, (([(((0 : Int), (4 : Int), (0 : Int), (0 : Int), (0 : Int), (f11z3), []) : Y51), (((0 : Int), (3 : Int), (0 : Int), (0 : Int), (0 : Int), (f11z4), []) : Y51)]).getD 0 q1dT51).2.2.1, (([(((0 : Int), (4 : Int), (0 : Int), (0 : Int), (0 : Int), (f11z3), []) : Y51), (((0 : Int), (3 : Int), (0 : Int), (0 : Int), (0 : Int), (f11z4), []) : Y51)]).getD 0 q1dT51).2.2.2.1, (([(((0 : Int), (4 : Int), (0 : Int), (0 : Int), (0 : Int), (f11z3), []) : Y51), (((0 : Int), (3 : Int), (0 : Int), (0 : Int), (0 : Int), (f11z4), []) : Y51)]).getD 0 q1dT51).2.2.2.2.1, (([(((0 : Int), (4 : Int), (0 : Int), (0 : Int), (0 : Int), (f11z3), []) : Y51), (((0 : Int), (3 : Int), (0 : Int), (0 : Int), (0 : Int), (f11z4), []) : Y51)]).getD 0 q1dT51).2.2.2.2.2.1, (([(((0 : Int), (4 : Int), (0 : Int), (0 : Int), (0 : Int), (f11z3), []) : Y51), (((0 : Int), (3 : Int), (0 : Int), (0 : Int), (0 : Int), (f11z4), []) : Y51)]).getD 0 q1dT51).2.2.2.2.2.2) : Y51), (((0 : Int), (3 : Int), (0 : Int), (0 : Int), (0 : Int), (f11z3), []) : Y51)])], [], 0⟩ (an1 (cpL (c := true) [(57, .rows 51 28 1 (lstF 28 [.i (0 : Int), .i (3 : Int), .i (0 : Int), .i (1 : Int), .i (0 : Int), .str (f11z3), .str [], .i (0 : Int), .i (0 : Int), .i (0 : Int), .i (0 : Int), .i (0 : Int), .str [], .i (0 : Int), .i (0 : Int), .i (0 : Int), .i (0 : Int), .i (0 : Int), .str [], .str [], .nils, .nils, .i (0 : Int), .str [], .nils, .nils, .nils, .nils]))] [57] [.agg [.nils, .nils, .b16 (q1w16 0), .nils, .nils, .nils], .own 57] (fun _ => (f13_ok _ _ _ _ _ _ _ _ hr5)) (fun _ => ⟨(.aggs ⟨.nilL, .nilL, .refl _, .nilL, .nilL, .nilL, trivial⟩), (VLe.of (RL.lstV (enc := eT51) [(((0 : Int), (3 : Int), (0 : Int), (1 : Int), (0 : Int), (f11z3), []) : Y51)] rfl ⟨.refl _, .refl _, .refl _, .refl _, .refl _, .refl _, .refl _, VLe.opq rfl, VLe.opq rfl, VLe.opq rfl, VLe.opq rfl, VLe.opq rfl, VLe.opq rfl, VLe.opq rfl, VLe.opq rfl, VLe.opq rfl, VLe.opq rfl, VLe.opq rfl, VLe.opq rfl, VLe.opq rfl, VLe.opq rfl, VLe.opq rfl, VLe.opq rfl, VLe.opq rfl, VLe.opq rfl, VLe.opq rfl, VLe.opq rfl, VLe.opq rfl, trivial⟩ (fun _ => rfl))), trivial⟩) (.inr ⟨rfl, trivial⟩))) ?_
 refine tN ?_
 refine AWp.seq ?_
 by_cases hg9_39 : ((((((((((r1.2.2.2 == (0 : Int)) && ((r1.1 == (0 : Int)) && ((r1.2.1 == (0 : Int)) && ((r1.2.2.1 == (12 : Int)) && true)))) && (r2.2.2 == (0 : Int))) && (r2.1 == (1 : Int))) && (r2.2.1 == (1 : Int))) && (r3.2.2 == (13 : Int))) && (r4.2.2 == (0 : Int))) && (r4.2.1 == (3 : Int))) && (r5.2.2 == (0 : Int))) && (r5.2.1 == (2 : Int))) = true
 ·
  replace h := ite_t hg9_39 h
  obtain ⟨r6, hr6, h⟩ := bind_ok h
  obtain ⟨r7, hr7, h⟩ := bind_ok h
  have ob2 := idA ((f11z8 r1) = true)
  have ob3 := idA ((f11z8 r1) = true)
  have ob4 : true = true → (r1.2.2.2 == (0 : Int)) = true → (f11z8 r1) = true := fun _ h => beq_iff_eq.2 h
  have ob5 := idA (((f11z2 r1) == true) = true)
  have ob6 := bqA (f11z2 r1) true
  have ob7 := idA ((f11z10 r1 r2) = true)
  have ob8 : true = true → ((f11z2 r1) && (r2.2.2 == (0 : Int))) = true → (f11z10 r1 r2) = true := fun _ h => beq_iff_eq.2 h
  have ob9 := idA (((f11z0 r1 r2) == true) = true)
  have ob10 := bqA (f11z0 r1 r2) true
  have ob11 := idA (((f11z6 r1 r2) == true) = true)
  have ob12 := bqA (f11z6 r1 r2) true
  have ob13 := idA ((f11z11 r1 r2 r3) = true)
  have ob14 : true = true → ((f11z6 r1 r2) && (r3.2.2 == (13 : Int))) = true → (f11z11 r1 r2 r3) = true := fun _ h => beq_iff_eq.2 h
  have ob15 := idA (((f11z1 r1 r2 r3 r4) == true) = true)
  have ob16 := bqA (f11z1 r1 r2 r3 r4) true
  have ob17 := idA (((f11z5 r1 r2 r3 r4) == true) = true)
  have ob18 := bqA (f11z5 r1 r2 r3 r4) true
  have ob19 := idA ((((f11z5 r1 r2 r3 r4) && (r5.2.2 == (0 : Int))) == true) = true)
  have ob20 := bqA ((f11z5 r1 r2 r3 r4) && (r5.2.2 == (0 : Int))) true
  have ob21 := idA (true = true)
  have ob22 : true = true → true = true → true = true := fun _ h => h
  refine q1rr [] [(39, ⟨[], [], [], [], (.bool true), [], [0], []⟩), (41, ⟨[q1aT51 [(((([(((0 : Int), (4 : Int), (0 : Int), (0 : Int), (0 : Int), (f11z3), []) : Y51), (((0 : Int), (3 : Int), (0 : Int), (0 : Int), (0 : Int), (f11z4), []) : Y51)]).getD 0 q1dT51).1, (([(((0 : Int), (4 : Int), (0 : Int), (0 : Int), (0 : Int), (f11z3), []) : Y51), (((0 : Int), (3 : Int), (0 : Int), (0 : Int), (0 : Int), (f11z4), []) : Y51)]).getD 0 q1dT51).2.1, (([(((0 : Int), (4 : Int), (0 : Int), (0 : Int), (0 : Int), (f11z3), []) : Y51), (((0 : Int), (3 : Int), (0 : Int), (0 : Int), (0 : Int), (f11z4), []) : Y51)]).getD 0 q1dT51).2.2.1, (([(((0 : Int), (4 : Int), (0 : Int), (0 : Int), (0 : Int), (f11z3), []) : Y51), (((0 : Int), (3 : Int), (0 : Int), (0 : Int), (0 : Int), (f11z4), []) : Y51)]).getD 0 q1dT51).2.2.2.1, (([(((0 : Int), (4 : Int), (0 : Int), (0 : Int), (0 : Int), (f11z3), []) : Y51), (((0 : Int), (3 : Int), (0 : Int), (0 : Int), (0 : Int), (f11z4), []) : Y51)]).getD 0 q1dT51).2.2.2.2.1, (([(((0 : Int), (4 : Int), (0 : Int), (0 : Int), (0 : Int), (f11z3), []) : Y51), (((0 : Int), (3 : Int), (0 : Int), (0 : Int), (0 : Int), (f11z4), []) : Y51)]).getD 0 q1dT51).2.2.2.2.2.1, (([(((0 : Int), (4 : Int), (0 : Int), (0 : Int), (0 : Int), (f11z3), []) : Y51), (((0 : Int), (3 : Int), (0 : Int), (0 : Int), (0 : Int), (f11z4), []) : Y51)]).getD 0 q1dT51).2.2.2.2.2.2) : Y51), (((0 : Int), (3 : Int), (0 : Int), (0 : Int), (0 : Int), (f11z3), []) : Y51)]], [], [], [(6001, q1bS_9 r6)], .own 6001, [6001], [38], []⟩), (43, ⟨[q1aS r6, q1aS [(f11z3)]], [], [], [], .bool r7, [], [6001, 104], []⟩)] ⟨107, [(0, .bool r7), (1000001, .tab .u64 Lib.pow10Tab), (1000002, errG), (1000003, errG)], [], [], 0⟩ (ac6 (an2 ob2 ob3) ob4 (an1 ob5) ob6 (an1 ob7) ob8 (ac6 (an1 ob9) ob10 (an1 ob11) ob12 (an1 ob13) ob14 (ac6 (an1 ob15) ob16 (an1 ob17) ob18 (an1 ob19) ob20 (an4 (show ((.bool (((f11z5 r1 r2 r3 r4) && (r5.2.2 == (0 : Int))) && (r5.2.1 == (2 : Int)))) : V) = (.bool true) from (congrArg (fun x => ((.bool x) : V)) hg9_39)) (And.intro (cpL (c := true) [(38, q1bT51_51 [(((([(((0 : Int), (4 : Int), (0 : Int), (0 : Int), (0 : Int), (f11z3), []) : Y51), (((0 : Int), (3 : Int), (0 : Int), (0 : Int), (0 : Int), (f11z4), []) : Y51)]).getD 0 q1dT51).1, (([(((0 : Int), (4 : Int), (0 : Int), (0 : Int), (0 : Int), (f11z3), []) : Y51), (((0 : Int), (3 : Int), (0 : Int), (0 : Int), (0 : Int), (f11z4), []) : Y51)]).getD 0 q1dT51).2.1, (([(((0 : Int), (4 : Int), (0 : Int), (0 : Int), (0 : Int), (f11z3), []) : Y51), (((0 : Int), (3 : Int), (0 : Int), (0 : Int), (0 : Int), (f11z4), []) : Y51)]).getD 0 q1dT51).2.2.1, (([(((0 : Int), (4 : Int), (0 : Int), (0 : Int), (0 : Int), (f11z3), []) : Y51), (((0 : Int), (3 : Int), (0 : Int), (0 : Int), (0 : Int), (f11z4), []) : Y51)]).getD 0 q1dT51).2.2.2.1, (([(((0 : Int), (4 : Int), (0 : Int), (0 : Int), (0 : Int), (f11z3), []) : Y51), (((0 : Int), (3 : Int), (0 : Int), (0 : Int), (0 : Int), (f11z4), []) : Y51)]).getD 0 q1dT51).2.2.2.2.1, (([(((0 : Int), (4 : Int), (0 : Int), (0 : Int), (0 : Int), (f11z3), []) : Y51), (((0 : Int), (3 : Int), (0 : Int), (0 : Int), (0 : Int), (f11z4), []) : Y51)]).getD 0 q1dT51).2.2.2.2.2.1, (([(((0 : Int), (4 : Int), (0 : Int), (0 : Int), (0 : Int), (f11z3), []) : Y51), (((0 : Int), (3 : Int), (0 : Int), (0 : Int), (0 : Int), (f11z4), []) : Y51)]).getD 0 q1dT51).2.2.2.2.2.2) : Y51), (((0 : Int), (3 : Int), (0 : Int), (0 : Int), (0 : Int), (f11z3), []) : Y51)])] [38] [.own 38] (fun _ => (Spec1.ren (swapN 3000 6001) (swapN_inv 3000 6001) rfl (f14_ok _ _ hr6))) (fun _ => ⟨.refl _, trivial⟩) (.inr ⟨rfl, ⟨(fun _ _ _ _ => eS_flat _ _), trivial⟩⟩)) (an1 ob21)) (cpL (c := true) [(6001, q1bS_9 r6), (104, .rows 9 1 1 (lstF 1 [.str (f11z3)]))] [6001, 104] [.own 6001, .own 104] (fun _ => (f15_ok _ _ _ hr7)) (fun _ => ⟨.refl _, (VLe.of (RL.lst (enc := eS) [(f11z3)] rfl rfl (fun _ => rfl))), trivial⟩) (.inr ⟨rfl, trivial⟩)) ob22)))) ?_
  refine tN ?_
  have hret := Option.some.inj h
  subst hret
  refine AWp.le (Le.mk (s' := ⟨107, [(0, .bool r7)], [], [], 0⟩) rfl rfl ⟨.refl _, trivial⟩ trivial) ?_
  refine AWp.ret ?_
  exact bR _ rfl ⟨rfl, rfl⟩ rfl
 ·
  replace h := ite_f hg9_39 h
  have ob2 := idA ((f11z8 r1) = true)
  have ob3 := idA ((f11z8 r1) = true)
  have ob4 : true = true → (r1.2.2.2 == (0 : Int)) = true → (f11z8 r1) = true := fun _ h => beq_iff_eq.2 h
  have ob5 := idA (((f11z2 r1) == true) = true)
  have ob6 := bqA (f11z2 r1) true
  have ob7 := idA ((f11z10 r1 r2) = true)
  have ob8 : true = true → ((f11z2 r1) && (r2.2.2 == (0 : Int))) = true → (f11z10 r1 r2) = true := fun _ h => beq_iff_eq.2 h
  have ob9 := idA (((f11z0 r1 r2) == true) = true)
  have ob10 := bqA (f11z0 r1 r2) true
  have ob11 := idA (((f11z6 r1 r2) == true) = true)
  have ob12 := bqA (f11z6 r1 r2) true
  have ob13 := idA ((f11z11 r1 r2 r3) = true)
  have ob14 : true = true → ((f11z6 r1 r2) && (r3.2.2 == (13 : Int))) = true → (f11z11 r1 r2 r3) = true := fun _ h => beq_iff_eq.2 h
  have ob15 := idA (((f11z1 r1 r2 r3 r4) == true) = true)
  have ob16 := bqA (f11z1 r1 r2 r3 r4) true
  have ob17 := idA (((f11z5 r1 r2 r3 r4) == true) = true)
  have ob18 := bqA (f11z5 r1 r2 r3 r4) true
  have ob19 := idA ((((f11z5 r1 r2 r3 r4) && (r5.2.2 == (0 : Int))) == true) = true)
  have ob20 := bqA ((f11z5 r1 r2 r3 r4) && (r5.2.2 == (0 : Int))) true
  have ob21 := idA (false = true)
  have ob22 := idA (false = true)
  have ob23 := idA (false = true)
  have ob24 : true = true → false = true → false = true := fun _ h => h
  refine q1rr [] [(39, ⟨[], [], [], [], (.bool false), [], [0], []⟩), (41, ⟨[], [], [], [], .any, [], [], []⟩), (43, ⟨[], [], [], [], .bool false, [], [], []⟩)] ⟨107, [(0, .bool false), (1000001, .tab .u64 Lib.pow10Tab), (1000002, errG), (1000003, errG)], [], [], 0⟩ (ac6 (an2 ob2 ob3) ob4 (an1 ob5) ob6 (an1 ob7) ob8 (ac6 (an1 ob9) ob10 (an1 ob11) ob12 (an1 ob13) ob14 (ac6 (an1 ob15) ob16 (an1 ob17) ob18 (an1 ob19) ob20 (an4 (show ((.bool (((f11z5 r1 r2 r3 r4) && (r5.2.2 == (0 : Int))) && (r5.2.1 == (2 : Int)))) : V) = (.bool false) from (congrArg (fun x => ((.bool x) : V)) (Bool.eq_false_iff.2 hg9_39))) (And.intro (show (callP Tryz.prog false 14 [] [] [] [] [] [.own 38] [] (.any) []) from ⟨nofun, nofun, .inl rfl⟩) (an1 ob21)) (And.intro (show (callP Tryz.prog false 15 [] [] [] [] [] [.any, .bool false] [] (.bool false) []) from ⟨nofun, nofun, .inl rfl⟩) (an2 ob22 ob23)) ob24)))) ?_
  refine tN ?_
  have hret := Option.some.inj h
  subst hret
  refine AWp.le (Le.mk (s' := ⟨107, [(0, .bool false)], [], [], 0⟩) rfl rfl ⟨.refl _, trivial⟩ trivial) ?_
  refine AWp.ret ?_
  exact bR _ rfl ⟨rfl, rfl⟩ rfl
def f16_L0 (x1 : List Y51) (K1 : Int → Option Bool) : Nat → (Int × Nat) → Option Bool
 | 0, _ => none
 | k + 1, (i2, n3) =>
  if (decide ((n3 : Int) < (((x1).length : Nat) : Int))) then (
  chk ((n3 : Int) < (((x1).length : Nat) : Int)) <|
  chk ((n3 : Int) < (((x1).length : Nat) : Int)) <|
  chk (((n3 : Int) + (1 : Int)) ≤ 9223372036854775807) <|
  (f16_L0 x1 K1 k) ((IntKind.wrap .i64 ((IntKind.wrap .i64 (i2 + ((((x1.getD n3 (default : Y51)).2.2.2.2.2.1).length : Nat) : Int))) + ((((x1.getD n3 (default : Y51)).2.2.2.2.2.2).length : Nat) : Int))), (n3 + 1))
  ) else (
  K1 i2
  )
def f16 (x1 : List Y51) : Option Bool :=
 jn (fun (i4 : Int) =>
 some ((decide ((((x1).length : Nat) : Int) ≤ (60 : Int))) && (decide (i4 ≤ (20000 : Int))))
 ) fun (K1 : Int → Option Bool) =>
 f16_L0 x1 K1 FUEL ((0 : Int), 0)
theorem f16_ok  (x1 : List Y51) (r : Bool) (h : f16 x1 = some r)  : Spec1 Tryz.prog 16 [] [] [] [vL 28 eT51 (default : Y51) x1] (.bool r) [] := by
 unfold f16 at h
 refine Spec1.body 0 _ _ Tryz.func16 rfl Tryz.ntmps16 rfl rfl ?_
 refine q1rq [18, 25] [] ⟨33, [(0, q1aT51 x1)], [], [], 0⟩ trivial ?_
 refine q1rq [18, 25] [] ⟨33, [(0, q1aT51 x1), (3, .i (0 : Int))], [], [], 0⟩ trivial ?_
 obtain ⟨K1, hK1, h⟩ := jn_some h
 refine AWp.join (α := Int) (fun (i4 : Int) => ⟨33, [(0, q1aT51 x1), (3, .i i4)], [], [], 0⟩) (fun x => K1 x = some r) ?_ ?_
 ·
  refine q1rq [18, 25] [] ⟨33, [(0, q1aT51 x1), (3, .i (0 : Int)), (4, .i (0 : Int))], [], [], 0⟩ trivial ?_
  refine AWp.block ?_
  refine AWp.loopL (α := Nat × (Int × Nat)) (fun x => match x with | (_, i2, n3) => ⟨33, [(0, q1aT51 x1), (3, .i i2), (4, .i (n3 : Int))], [], [], 0⟩) (fun x => f16_L0 x1 K1 x.1 x.2 = some r) (fun x => x.1) (FUEL, (0 : Int), 0) (Le.mk (s' := ⟨33, [(0, q1aT51 x1), (3, .i (0 : Int)), (4, .i (0 : Int))], [], [], 0⟩) rfl rfl ⟨.refl _, .refl _, .refl _, trivial⟩ trivial) h ?_
  rintro ⟨k0, i2, n3⟩ h
  cases k0 with
  | zero => exact nomatch (show (none : Option Bool) = some r from h)
  | succ k0 =>
  obtain ⟨C0, hC0⟩ : ∃ C, C = f16_L0 x1 K1 k0 := ⟨_, rfl⟩
  replace h := (f16_L0.eq_2 ..).symm.trans h
  try rw [← hC0] at h
  refine AWp.seq ?_
  refine q1rq [18, 25] [] ⟨33, [(0, q1aT51 x1), (3, .i i2), (4, .i (n3 : Int)), (8, .bool (decide ((n3 : Int) < (lZ x1))))], [], [], 0⟩ trivial ?_
  refine AWp.cond (b := (decide ((n3 : Int) < (lZ x1)))) (by kernel_rfl) (fun hc1 => ?_) (fun hc1 => ?_)
  ·
   replace h := ite_tb hc1 h
   refine AWp.skip ?_
   refine tN ?_
   refine AWp.seq ?_
   refine AWp.block ?_
   obtain ⟨ob0p, h⟩ := chk_some h
   have ob0 : 0 ≤ (n3 : Int) ∧ (n3 : Int) < (((x1).length : Nat) : Int) := ⟨by omega, ob0p⟩
   obtain ⟨ob1p, h⟩ := chk_some h
   have ob1 : 0 ≤ (n3 : Int) ∧ (n3 : Int) < (((x1).length : Nat) : Int) := ⟨by omega, ob1p⟩
   refine q1rr [18, 25] [] ⟨33, [(0, q1aT51 x1), (3, .i (IntKind.wrap .i64 ((IntKind.wrap .i64 (i2 + ((((x1.getD n3 q1dT51).2.2.2.2.2.1).length : Nat) : Int))) + ((((x1.getD n3 q1dT51).2.2.2.2.2.2).length : Nat) : Int)))), (4, .i (n3 : Int))], [], [], 0⟩ (an4 ob0 trivial ob1 trivial) ?_
   refine kN ?_
   refine tN ?_
   obtain ⟨ob2p, h⟩ := chk_some h
   have ob2 : -9223372036854775808 ≤ ((n3 : Int) + (1 : Int)) ∧ ((n3 : Int) + (1 : Int)) ≤ 9223372036854775807 := ⟨by omega, ob2p⟩
   refine q1rr [18, 25] [] ⟨33, [(0, q1aT51 x1), (3, .i (IntKind.wrap .i64 ((IntKind.wrap .i64 (i2 + ((((x1.getD n3 q1dT51).2.2.2.2.2.1).length : Nat) : Int))) + ((((x1.getD n3 q1dT51).2.2.2.2.2.2).length : Nat) : Int)))), (4, .i (((n3 + 1) : Nat) : Int))], [], [], 0⟩ (an1 ob2) ?_
   rw [hC0] at h
   exact lN (_, (IntKind.wrap .i64 ((IntKind.wrap .i64 (i2 + ((((x1.getD n3 q1dT51).2.2.2.2.2.1).length : Nat) : Int))) + ((((x1.getD n3 q1dT51).2.2.2.2.2.2).length : Nat) : Int))), (n3 + 1)) (Le.mk rfl rfl ⟨.refl _, .refl _, .refl _, trivial⟩ trivial) h (Nat.lt_succ_self _)
  ·
   replace h := ite_fb hc1 h
   refine AWp.exit ?_
   refine tE ?_
   refine tE ?_
   refine kS ?_
   exact jN (i2) (Le.mk rfl rfl ⟨.refl _, .refl _, trivial⟩ trivial) h
 ·
  rintro i4 h
  replace h := (congrFun hK1 _).symm.trans h
  refine AWp.seq ?_
  have ob3 := idA (((decide ((lZ x1) ≤ (60 : Int))) == true) = true)
  have ob4 := bqA (decide ((lZ x1) ≤ (60 : Int))) true
  refine q1rr [18, 25] [] ⟨33, [(2, .bool ((decide ((lZ x1) ≤ (60 : Int))) && (decide (i4 ≤ (20000 : Int)))))], [], [], 0⟩ (an2 (an1 ob3) ob4) ?_
  refine tN ?_
  have hret := Option.some.inj h
  subst hret
  refine AWp.le (Le.mk (s' := ⟨33, [(2, .bool ((decide ((lZ x1) ≤ (60 : Int))) && (decide (i4 ≤ (20000 : Int)))))], [], [], 0⟩) rfl rfl ⟨.refl _, trivial⟩ trivial) ?_
  refine AWp.ret ?_
  exact bR _ rfl ⟨rfl, rfl⟩ rfl
def f131 (x1 : BitVec 16) (x2 : BitVec 16) : Option Bool :=
 some ((x1 &&& ~~~x2) == (BitVec.ofInt 16 0))
theorem f131_ok  (x1 : BitVec 16) (x2 : BitVec 16) (r : Bool) (h : f131 x1 x2 = some r)  : Spec1 Tryz.prog 131 [] [] [] [.b16 x1, .b16 x2] (.bool r) [] := by
 unfold f131 at h
 refine Spec1.body 0 _ _ Tryz.func131 rfl Tryz.ntmps131 rfl rfl ?_
 refine q1rq [] [] ⟨9, [(0, .b16 x1), (1, .b16 x2)], [], [], 0⟩ trivial ?_
 refine q1rq [] [] ⟨9, [(4, .bool ((x1 &&& ~~~x2) == (q1w16 0)))], [], [], 0⟩ trivial ?_
 have hret := Option.some.inj h
 subst hret
 refine AWp.le (Le.mk (s' := ⟨9, [(4, .bool ((x1 &&& ~~~x2) == (q1w16 0)))], [], [], 0⟩) rfl rfl ⟨.refl _, trivial⟩ trivial) ?_
 refine AWp.ret ?_
 exact bR _ rfl ⟨rfl, rfl⟩ rfl
abbrev f200z0 (x2 : Int) := ((decide (x2 ≥ (0 : Int))) && (decide (x2 < (16 : Int))))
def f200 (x1 : BitVec 16) (x2 : Int) : Option Bool :=
 chk ((((decide (x2 ≥ (0 : Int))) && (decide (x2 < (16 : Int)))) == true) = true → 0 ≤ x2) <|
 some (((decide (x2 ≥ (0 : Int))) && (decide (x2 < (16 : Int)))) && (((x1 >>> ((x2).toNat)) &&& (BitVec.ofInt 16 1)) == (BitVec.ofInt 16 1)))
theorem f200_ok  (x1 : BitVec 16) (x2 : Int) (r : Bool) (h : f200 x1 x2 = some r)  : Spec1 Tryz.prog 200 [] [] [] [.b16 x1, .int .i64 x2] (.bool r) [] := by
 unfold f200 at h
 refine Spec1.body 0 _ _ Tryz.func200 rfl Tryz.ntmps200 rfl rfl ?_
 refine q1rq [] [] ⟨18, [(0, .b16 x1), (1, .i x2)], [], [], 0⟩ trivial ?_
 refine AWp.seq ?_
 have ob0 := idA (((decide (x2 ≥ (0 : Int))) == true) = true)
 have ob1 := bqA (decide (x2 ≥ (0 : Int))) true
 obtain ⟨ob2, h⟩ := chk_some h
 have ob3 := idA (((f200z0 x2) == true) = true)
 have ob4 := idA (((f200z0 x2) == true) = true)
 have ob5 := idA (((f200z0 x2) == true) = true)
 have ob6 := idA (((f200z0 x2) == true) = true)
 have ob7 := bqA (f200z0 x2) true
 refine q1rr [] [] ⟨18, [(4, .bool ((f200z0 x2) && (((x1 >>> ((x2).toNat)) &&& (q1w16 1)) == (q1w16 1))))], [], [], 0⟩ (an6 (an1 ob0) ob1 (And.intro ob2 (an2 ob3 ob4)) (an1 ob5) (an1 ob6) ob7) ?_
 refine tN ?_
 have hret := Option.some.inj h
 subst hret
 refine AWp.le (Le.mk (s' := ⟨18, [(4, .bool ((f200z0 x2) && (((x1 >>> ((x2).toNat)) &&& (q1w16 1)) == (q1w16 1))))], [], [], 0⟩) rfl rfl ⟨.refl _, trivial⟩ trivial) ?_
 refine AWp.ret ?_
 exact bR _ rfl ⟨rfl, rfl⟩ rfl
def f166_L0 (x1 : BitVec 16) (K1 : (List Int) → Option (List Int)) : Nat → (Nat × List Int) → Option (List Int)
 | 0, _ => none
 | k + 1, (n2, l3) =>
  if (decide ((n2 : Int) < (16 : Int))) then (
  jn (fun (l5 : List Int) =>
  chk (((n2 : Int) + (1 : Int)) ≤ 9223372036854775807) <|
  (f166_L0 x1 K1 k) ((n2 + 1), l5)
  ) fun (K2 : (List Int) → Option (List Int)) =>
  (f200 x1 (n2 : Int)).bind fun (r4 : Bool) =>
  if r4 then (
  chk (((l3).length + 1) * 8 ≤ 140737488355328) <|
  K2 (l3 ++ [(n2 : Int)])
  ) else (
  K2 l3
  )
  ) else (
  K1 l3
  )
abbrev f166z0 (x1 : BitVec 16) (n2 : Nat) : List (Nat × V) := [(0, .b16 x1), (3, .own 5003), (4, .int .i64 (n2 : Int))]
abbrev f166z1 (x1 : BitVec 16) (n2 : Nat) : List (Nat × V) := [(0, .b16 x1), (3, .own 15), (4, .int .i64 (n2 : Int))]
def f166 (x1 : BitVec 16) : Option (List Int) :=
 jn (fun (l6 : List Int) =>
 some l6
 ) fun (K1 : (List Int) → Option (List Int)) =>
 f166_L0 x1 K1 FUEL (0, [])
theorem f166_ok  (x1 : BitVec 16) (r : List Int) (h : f166 x1 = some r)  : Spec1 Tryz.prog 166 [] [] [] [.b16 x1] (.own 3000) [(3000, bL 3 1 eI 0 r)] := by
 unfold f166 at h
 refine Spec1.body 0 _ _ Tryz.func166 rfl Tryz.ntmps166 rfl rfl ?_
 refine q1rq [] [] ⟨17, [(0, .b16 x1)], [], [], 0⟩ trivial ?_
 refine q1rq [] [] ⟨17, [(0, .b16 x1), (3, .nils)], [], [], 0⟩ trivial ?_
 obtain ⟨K1, hK1, h⟩ := jn_some h
 refine AWp.join (α := List Int) (fun (l6 : List Int) => ⟨17, [(3, .own 5003)], [(5003, q1bI_3 l6)], [], 0⟩) (fun x => K1 x = some r) ?_ ?_
 ·
  refine q1rq [] [] ⟨17, [(0, .b16 x1), (3, .nils), (4, .i (0 : Int))], [], [], 0⟩ trivial ?_
  refine AWp.block ?_
  refine AWp.loopL (α := Nat × (Nat × List Int)) (fun x => match x with | (_, n2, l3) => ⟨17, (f166z0 x1 n2), [(5003, q1bI_3 l3)], [], 0⟩) (fun x => f166_L0 x1 K1 x.1 x.2 = some r) (fun x => x.1) (FUEL, 0, []) (Le.trans (Le.trans (Le.nilOwn 3 5003 3 1 (encF eI 0 []) rfl rfl (Nat.le_of_ble_eq_true rfl)) (Le.mk (s' := ⟨17, [(0, .b16 x1), (3, .own 5003), (4, .i (0 : Int))], [(5003, q1bI_3 [])], [], 0⟩) rfl rfl ⟨.refl _, .refl _, .refl _, trivial⟩ ⟨⟨_, rfl, .refl _⟩, trivial⟩)) (Le.mk (s' := ⟨17, [(0, .b16 x1), (3, .own 5003), (4, .i (0 : Int))], [(5003, q1bI_3 [])], [], 0⟩) rfl rfl ⟨.refl _, .refl _, .refl _, trivial⟩ ⟨⟨_, rfl, .refl _⟩, trivial⟩)) h ?_
  rintro ⟨k0, n2, l3⟩ h
  cases k0 with
  | zero => exact nomatch (show (none : Option (List Int)) = some r from h)
  | succ k0 =>
  obtain ⟨C0, hC0⟩ : ∃ C, C = f166_L0 x1 K1 k0 := ⟨_, rfl⟩
  replace h := (f166_L0.eq_2 ..).symm.trans h
  try rw [← hC0] at h
  refine AWp.seq ?_
  refine q1rq [] [] ⟨17, [(0, .b16 x1), (3, .own 5003), (4, .i (n2 : Int)), (6, .bool (decide ((n2 : Int) < (16 : Int))))], [(5003, q1bI_3 l3)], [], 0⟩ trivial ?_
  refine AWp.cond (b := (decide ((n2 : Int) < (16 : Int)))) (by kernel_rfl) (fun hc1 => ?_) (fun hc1 => ?_)
  ·
   replace h := ite_tb hc1 h
   refine AWp.skip ?_
   refine tN ?_
   obtain ⟨K2, hK2, h⟩ := jn_some h
   refine AWp.join (α := List Int) (fun (l5 : List Int) => ⟨17, (f166z1 x1 n2), [(15, q1bI_3 l5)], [], 0⟩) (fun x => K2 x = some r) ?_ ?_
   ·
    refine AWp.block ?_
    refine AWp.seq ?_
    obtain ⟨r4, hr4, h⟩ := bind_ok h
    refine q1rr [] [(2, ⟨[.b16 x1, .i (n2 : Int)], [], [], [], .bool r4, [], [], []⟩)] ⟨17, [(0, .b16 x1), (3, .own 5003), (4, .i (n2 : Int)), (11, .bool r4)], [(5003, q1bI_3 l3)], [], 0⟩ (an1 (cpT (f200_ok _ _ _ hr4))) ?_
    refine tN ?_
    refine AWp.cond (b := r4) (by kernel_rfl) (fun hc2 => ?_) (fun hc2 => ?_)
    ·
     replace h := ite_tb hc2 h
     obtain ⟨ob0, h⟩ := chk_some h
     refine q1rr [] [] ⟨17, (f166z0 x1 n2), [(5003, .rows 3 1 ((l3).length + 1) (appF (l3).length (encF eI 0 l3) (lstF 1 [.i (n2 : Int)])))], [], 0⟩ (an1 ob0) ?_
     refine kN ?_
     exact jN ((l3 ++ [(n2 : Int)])) (Le.trans (Le.mk (s' := ⟨17, (f166z0 x1 n2), [(5003, q1bI_3 (l3 ++ [(n2 : Int)]))], [], 0⟩) rfl rfl ⟨.refl _, .refl _, .refl _, trivial⟩ ⟨⟨_, rfl, (BLe.of (RL.app (RL.self _) (RL.lst (enc := eI) [(n2 : Int)] rfl rfl (fun _ => rfl))))⟩, trivial⟩) (Le.trans (Le.trans (Le.ren (swapN 5003 15) (swapN_inv 5003 15) rfl) (Le.mk (s' := ⟨17, (f166z1 x1 n2), [(15, q1bI_3 (l3 ++ [(n2 : Int)]))], [], 0⟩) rfl rfl ⟨.refl _, .refl _, .refl _, trivial⟩ ⟨⟨_, rfl, .refl _⟩, trivial⟩)) (Le.mk rfl rfl ⟨.refl _, .refl _, .refl _, trivial⟩ ⟨⟨_, rfl, .refl _⟩, trivial⟩))) h
    ·
     replace h := ite_fb hc2 h
     refine AWp.skip ?_
     refine kN ?_
     exact jN (l3) (Le.trans (Le.trans (Le.ren (swapN 5003 15) (swapN_inv 5003 15) rfl) (Le.mk (s' := ⟨17, [(0, .b16 x1), (3, .own 15), (4, .i (n2 : Int)), (11, .bool r4)], [(15, q1bI_3 l3)], [], 0⟩) rfl rfl ⟨.refl _, .refl _, .refl _, .refl _, trivial⟩ ⟨⟨_, rfl, .refl _⟩, trivial⟩)) (Le.mk rfl rfl ⟨.refl _, .refl _, .refl _, trivial⟩ ⟨⟨_, rfl, .refl _⟩, trivial⟩)) h
   ·
    rintro l5 h
    replace h := (congrFun hK2 _).symm.trans h
    obtain ⟨ob1p, h⟩ := chk_some h
    have ob1 : -9223372036854775808 ≤ ((n2 : Int) + (1 : Int)) ∧ ((n2 : Int) + (1 : Int)) ≤ 9223372036854775807 := ⟨by omega, ob1p⟩
    refine q1rr [] [] ⟨17, [(0, .b16 x1), (3, .own 15), (4, .i (((n2 + 1) : Nat) : Int))], [(15, q1bI_3 l5)], [], 0⟩ (an1 ob1) ?_
    rw [hC0] at h
    exact lN (_, (n2 + 1), l5) (Le.trans (Le.trans (Le.ren (swapN 15 5003) (swapN_inv 15 5003) rfl) (Le.mk (s' := ⟨17, [(0, .b16 x1), (3, .own 5003), (4, .i (((n2 + 1) : Nat) : Int))], [(5003, q1bI_3 l5)], [], 0⟩) rfl rfl ⟨.refl _, .refl _, .refl _, trivial⟩ ⟨⟨_, rfl, .refl _⟩, trivial⟩)) (Le.mk rfl rfl ⟨.refl _, .refl _, .refl _, trivial⟩ ⟨⟨_, rfl, .refl _⟩, trivial⟩)) h (Nat.lt_succ_self _)
  ·
   replace h := ite_fb hc1 h
   refine AWp.exit ?_
   refine tE ?_
   refine tE ?_
   refine kS ?_
   exact jN (l3) (Le.mk rfl rfl ⟨.refl _, trivial⟩ ⟨⟨_, rfl, .refl _⟩, trivial⟩) h
 ·
  rintro l6 h
  replace h := (congrFun hK1 _).symm.trans h
  refine q1rq [] [] ⟨17, [(2, .own 5003)], [(5003, q1bI_3 l6)], [], 0⟩ trivial ?_
  refine AWp.le (Le.trans (Le.ren (swapN 5003 3000) (swapN_inv 5003 3000) rfl) (Le.mk (s' := ⟨17, [(2, .own 3000)], [(3000, q1bI_3 l6)], [], 0⟩) rfl rfl ⟨.refl _, trivial⟩ ⟨⟨_, rfl, .refl _⟩, trivial⟩)) ?_
  have hret := Option.some.inj h
  subst hret
  refine AWp.le (Le.mk (s' := ⟨17, [(2, .own 3000)], [(3000, q1bI_3 l6)], [], 0⟩) rfl rfl ⟨.refl _, trivial⟩ ⟨⟨_, rfl, .refl _⟩, trivial⟩) ?_
  refine AWp.ret ?_
  exact bR _ rfl ⟨rfl, rfl⟩ rfl
def f132 (x1 : BitVec 16) : Option Int :=
 (f166 x1).bind fun (r2 : List Int) =>
 some (((r2).length : Nat) : Int)
theorem f132_ok  (x1 : BitVec 16) (r : Int) (h : f132 x1 = some r)  : Spec1 Tryz.prog 132 [] [] [] [.b16 x1] (.int .i64 r) [] := by
 unfold f132 at h
 refine Spec1.body 0 _ _ Tryz.func132 rfl Tryz.ntmps132 rfl rfl ?_
 refine q1rq [] [] ⟨6, [(0, .b16 x1)], [], [], 0⟩ trivial ?_
 refine AWp.seq ?_
 obtain ⟨r2, hr2, h⟩ := bind_ok h
 refine q1rr [] [(1, ⟨[.b16 x1], [], [], [(6001, q1bI_3 r2)], .own 6001, [6001], [], []⟩)] ⟨6, [(2, .i (lZ r2))], [], [], 0⟩ (an1 (cpT (Spec1.ren (swapN 3000 6001) (swapN_inv 3000 6001) rfl (f166_ok _ _ hr2)))) ?_
 refine tN ?_
 have hret := Option.some.inj h
 subst hret
 refine AWp.le (Le.mk (s' := ⟨6, [(2, .i (lZ r2))], [], [], 0⟩) rfl rfl ⟨.refl _, trivial⟩ trivial) ?_
 refine AWp.ret ?_
 exact bR _ rfl ⟨rfl, rfl⟩ rfl
def f102_L0 (x1 : BitVec 16) (x2 : Int) (K1 : (List (BitVec 16)) → Option (List (BitVec 16))) : Nat → (Nat × List (BitVec 16)) → Option (List (BitVec 16))
 | 0, _ => none
 | k + 1, (n3, l4) =>
  if (decide ((n3 : Int) < (65536 : Int))) then (
  jn (fun (l7 : List (BitVec 16)) =>
  chk (((n3 : Int) + (1 : Int)) ≤ 9223372036854775807) <|
  (f102_L0 x1 x2 K1 k) ((n3 + 1), l7)
  ) fun (K2 : (List (BitVec 16)) → Option (List (BitVec 16))) =>
  (f131 (BitVec.ofInt 16 (n3 : Int)) x1).bind fun (r5 : Bool) =>
  optc (r5 == true) (f132 (BitVec.ofInt 16 (n3 : Int))) fun (r6 : Int) =>
  chk ((r5 == true) = true → True) <|
  if (r5 && (r6 == x2)) then (
  chk (((l4).length + 1) * 2 ≤ 140737488355328) <|
  K2 (l4 ++ [(BitVec.ofInt 16 (n3 : Int))])
  ) else (
  K2 l4
  )
  ) else (
  K1 l4
  )
theorem f102_L0_e2 (x1 : BitVec 16) (x2 : Int) (K1 : (List (BitVec 16)) → Option (List (BitVec 16))) (k : Nat) (n3 : Nat) (l4 : List (BitVec 16)) : f102_L0 x1 x2 K1 (k + 1) (n3, l4) =
  if (decide ((n3 : Int) < (65536 : Int))) then (
  jn (fun (l7 : List (BitVec 16)) =>
  chk (((n3 : Int) + (1 : Int)) ≤ 9223372036854775807) <|
  (f102_L0 x1 x2 K1 k) ((n3 + 1), l7)
  ) fun (K2 : (List (BitVec 16)) → Option (List (BitVec 16))) =>
  (f131 (BitVec.ofInt 16 (n3 : Int)) x1).bind fun (r5 : Bool) =>
  optc (r5 == true) (f132 (BitVec.ofInt 16 (n3 : Int))) fun (r6 : Int) =>
  chk ((r5 == true) = true → True) <|
  if (r5 && (r6 == x2)) then (
  chk (((l4).length + 1) * 2 ≤ 140737488355328) <|
  K2 (l4 ++ [(BitVec.ofInt 16 (n3 : Int))])
  ) else (
  K2 l4
  )
  ) else (
  K1 l4
  ) := rfl
abbrev f102z0 (n3 : Nat) := (BitVec.ofInt 16 (n3 : Int))
abbrev f102z1 (x1 : BitVec 16) (x2 : Int) (n3 : Nat) : List (Nat × V) := [(0, .b16 x1), (1, .int .i64 x2), (5, .own 5005), (6, .int .i64 (n3 : Int))]
abbrev f102z2 (x1 : BitVec 16) (x2 : Int) (n3 : Nat) : List (Nat × V) := [(0, .b16 x1), (1, .int .i64 x2), (5, .own 26), (6, .int .i64 (n3 : Int))]
def f102 (x1 : BitVec 16) (x2 : Int) : Option (List (BitVec 16)) :=
 jn (fun (l8 : List (BitVec 16)) =>
 some l8
 ) fun (K1 : (List (BitVec 16)) → Option (List (BitVec 16))) =>
 f102_L0 x1 x2 K1 FUEL (0, [])
theorem f102_ok  (x1 : BitVec 16) (x2 : Int) (r : List (BitVec 16)) (h : f102 x1 x2 = some r)  : Spec1 Tryz.prog 102 [] [] [] [.b16 x1, .int .i64 x2] (.own 3000) [(3000, bL 32 1 eW 0#16 r)] := by
 unfold f102 at h
 refine Spec1.body 0 _ _ Tryz.func102 rfl Tryz.ntmps102 rfl rfl ?_
 refine q1rq [] [] ⟨28, [(0, .b16 x1), (1, .i x2)], [], [], 0⟩ trivial ?_
 refine q1rq [] [] ⟨28, [(0, .b16 x1), (1, .i x2), (5, .nils)], [], [], 0⟩ trivial ?_
 obtain ⟨K1, hK1, h⟩ := jn_some h
 refine AWp.join (α := List (BitVec 16)) (fun (l8 : List (BitVec 16)) => ⟨28, [(5, .own 5005)], [(5005, q1bW_32 l8)], [], 0⟩) (fun x => K1 x = some r) ?_ ?_
 ·
  refine q1rq [] [] ⟨28, [(0, .b16 x1), (1, .i x2), (5, .nils), (6, .i (0 : Int))], [], [], 0⟩ trivial ?_
  refine AWp.block ?_
  refine AWp.loopL (α := Nat × (Nat × List (BitVec 16))) (fun x => match x with | (_, n3, l4) => ⟨28, (f102z1 x1 x2 n3), [(5005, q1bW_32 l4)], [], 0⟩) (fun x => f102_L0 x1 x2 K1 x.1 x.2 = some r) (fun x => x.1) (FUEL, 0, []) (Le.trans (Le.trans (Le.nilOwn 5 5005 32 1 (encF eW 0#16 []) rfl rfl (Nat.le_of_ble_eq_true rfl)) (Le.mk (s' := ⟨28, [(0, .b16 x1), (1, .i x2), (5, .own 5005), (6, .i (0 : Int))], [(5005, q1bW_32 [])], [], 0⟩) rfl rfl ⟨.refl _, .refl _, .refl _, .refl _, trivial⟩ ⟨⟨_, rfl, .refl _⟩, trivial⟩)) (Le.mk (s' := ⟨28, [(0, .b16 x1), (1, .i x2), (5, .own 5005), (6, .i (0 : Int))], [(5005, q1bW_32 [])], [], 0⟩) rfl rfl ⟨.refl _, .refl _, .refl _, .refl _, trivial⟩ ⟨⟨_, rfl, .refl _⟩, trivial⟩)) h ?_
  rintro ⟨k0, n3, l4⟩ h
  cases k0 with
  | zero => exact nomatch (show (none : Option (List (BitVec 16))) = some r from h)
  | succ k0 =>
  obtain ⟨C0, hC0⟩ : ∃ C, C = f102_L0 x1 x2 K1 k0 := ⟨_, rfl⟩
  replace h := (f102_L0_e2 ..).symm.trans h
  try rw [← hC0] at h
  refine AWp.seq ?_
  refine q1rq [] [] ⟨28, [(0, .b16 x1), (1, .i x2), (5, .own 5005), (6, .i (n3 : Int)), (8, .bool (decide ((n3 : Int) < (65536 : Int))))], [(5005, q1bW_32 l4)], [], 0⟩ trivial ?_
  refine AWp.cond (b := (decide ((n3 : Int) < (65536 : Int)))) (by kernel_rfl) (fun hc1 => ?_) (fun hc1 => ?_)
  ·
   replace h := ite_tb hc1 h
   refine AWp.skip ?_
   refine tN ?_
   obtain ⟨K2, hK2, h⟩ := jn_some h
   refine AWp.join (α := List (BitVec 16)) (fun (l7 : List (BitVec 16)) => ⟨28, (f102z2 x1 x2 n3), [(26, q1bW_32 l7)], [], 0⟩) (fun x => K2 x = some r) ?_ ?_
   ·
    refine AWp.block ?_
    refine AWp.seq ?_
    obtain ⟨r5, hr5, h⟩ := bind_ok h
    obtain ⟨r6, hr6, h⟩ := optc_some h
    obtain ⟨ob0, h⟩ := chk_some h
    have ob1 := idA ((r5 == true) = true)
    have ob2 := idA ((r5 == true) = true)
    have ob3 := idA ((r5 == true) = true)
    have ob4 := idA ((r5 == true) = true)
    have ob5 := bqA r5 true
    refine q1rr [] [(3, ⟨[.b16 (f102z0 n3), .b16 x1], [], [], [], .bool r5, [], [], []⟩), (7, ⟨[.b16 (f102z0 n3)], [], [], [], .i r6, [], [], []⟩)] ⟨28, [(0, .b16 x1), (1, .i x2), (5, .own 5005), (6, .i (n3 : Int)), (21, .bool (r5 && (r6 == x2)))], [(5005, q1bW_32 l4)], [], 0⟩ (an6 trivial (cpT (f131_ok _ _ _ hr5)) (And.intro ob0 (an1 ob1)) (And.intro (cpC fun hc => (f132_ok _ _ (hr6 hc))) (an1 ob2)) (an2 ob3 ob4) ob5) ?_
    refine tN ?_
    refine AWp.cond (b := (r5 && (r6 == x2))) (by kernel_rfl) (fun hc2 => ?_) (fun hc2 => ?_)
    ·
     replace h := ite_tb hc2 h
     obtain ⟨ob6, h⟩ := chk_some h
     refine q1rr [] [] ⟨28, (f102z1 x1 x2 n3), [(5005, .rows 32 1 ((l4).length + 1) (appF (l4).length (encF eW 0#16 l4) (lstF 1 [.b16 (f102z0 n3)])))], [], 0⟩ (an2 trivial ob6) ?_
     refine kN ?_
     exact jN ((l4 ++ [(f102z0 n3)])) (Le.trans (Le.mk (s' := ⟨28, (f102z1 x1 x2 n3), [(5005, q1bW_32 (l4 ++ [(f102z0 n3)]))], [], 0⟩) rfl rfl ⟨.refl _, .refl _, .refl _, .refl _, trivial⟩ ⟨⟨_, rfl, (BLe.of (RL.app (RL.self _) (RL.lst (enc := eW) [(f102z0 n3)] rfl rfl (fun _ => rfl))))⟩, trivial⟩) (Le.trans (Le.trans (Le.ren (swapN 5005 26) (swapN_inv 5005 26) rfl) (Le.mk (s' := ⟨28, (f102z2 x1 x2 n3), [(26, q1bW_32 (l4 ++ [(f102z0 n3)]))], [], 0⟩) rfl rfl ⟨.refl _, .refl _, .refl _, .refl _, trivial⟩ ⟨⟨_, rfl, .refl _⟩, trivial⟩)) (Le.mk rfl rfl ⟨.refl _, .refl _, .refl _, .refl _, trivial⟩ ⟨⟨_, rfl, .refl _⟩, trivial⟩))) h
    ·
     replace h := ite_fb hc2 h
     refine AWp.skip ?_
     refine kN ?_
     exact jN (l4) (Le.trans (Le.trans (Le.ren (swapN 5005 26) (swapN_inv 5005 26) rfl) (Le.mk (s' := ⟨28, [(0, .b16 x1), (1, .i x2), (5, .own 26), (6, .i (n3 : Int)), (21, .bool (r5 && (r6 == x2)))], [(26, q1bW_32 l4)], [], 0⟩) rfl rfl ⟨.refl _, .refl _, .refl _, .refl _, .refl _, trivial⟩ ⟨⟨_, rfl, .refl _⟩, trivial⟩)) (Le.mk rfl rfl ⟨.refl _, .refl _, .refl _, .refl _, trivial⟩ ⟨⟨_, rfl, .refl _⟩, trivial⟩)) h
   ·
    rintro l7 h
    replace h := (congrFun hK2 _).symm.trans h
    obtain ⟨ob7p, h⟩ := chk_some h
    have ob7 : -9223372036854775808 ≤ ((n3 : Int) + (1 : Int)) ∧ ((n3 : Int) + (1 : Int)) ≤ 9223372036854775807 := ⟨by omega, ob7p⟩
    refine q1rr [] [] ⟨28, [(0, .b16 x1), (1, .i x2), (5, .own 26), (6, .i (((n3 + 1) : Nat) : Int))], [(26, q1bW_32 l7)], [], 0⟩ (an1 ob7) ?_
    rw [hC0] at h
    exact lN (_, (n3 + 1), l7) (Le.trans (Le.trans (Le.ren (swapN 26 5005) (swapN_inv 26 5005) rfl) (Le.mk (s' := ⟨28, [(0, .b16 x1), (1, .i x2), (5, .own 5005), (6, .i (((n3 + 1) : Nat) : Int))], [(5005, q1bW_32 l7)], [], 0⟩) rfl rfl ⟨.refl _, .refl _, .refl _, .refl _, trivial⟩ ⟨⟨_, rfl, .refl _⟩, trivial⟩)) (Le.mk rfl rfl ⟨.refl _, .refl _, .refl _, .refl _, trivial⟩ ⟨⟨_, rfl, .refl _⟩, trivial⟩)) h (Nat.lt_succ_self _)
  ·
   replace h := ite_fb hc1 h
   refine AWp.exit ?_
   refine tE ?_
   refine tE ?_
   refine kS ?_
   exact jN (l4) (Le.mk rfl rfl ⟨.refl _, trivial⟩ ⟨⟨_, rfl, .refl _⟩, trivial⟩) h
 ·
  rintro l8 h
  replace h := (congrFun hK1 _).symm.trans h
  refine q1rq [] [] ⟨28, [(4, .own 5005)], [(5005, q1bW_32 l8)], [], 0⟩ trivial ?_
  refine AWp.le (Le.trans (Le.ren (swapN 5005 3000) (swapN_inv 5005 3000) rfl) (Le.mk (s' := ⟨28, [(4, .own 3000)], [(3000, q1bW_32 l8)], [], 0⟩) rfl rfl ⟨.refl _, trivial⟩ ⟨⟨_, rfl, .refl _⟩, trivial⟩)) ?_
  have hret := Option.some.inj h
  subst hret
  refine AWp.le (Le.mk (s' := ⟨28, [(4, .own 3000)], [(3000, q1bW_32 l8)], [], 0⟩) rfl rfl ⟨.refl _, trivial⟩ ⟨⟨_, rfl, .refl _⟩, trivial⟩) ?_
  refine AWp.ret ?_
  exact bR _ rfl ⟨rfl, rfl⟩ rfl
def f201_L0 (x1 : BitVec 16) (K1 : Nat → Option Int) : Nat → (Nat × Nat) → Option Int
 | 0, _ => none
 | k + 1, (n2, n3) =>
  if (decide ((n3 : Int) < (16 : Int))) then (
  chk (((n2 : Int) + ((((x1 >>> n3) &&& (BitVec.ofInt 16 1)).toNat : Nat) : Int)) ≤ 9223372036854775807) <|
  chk (((n3 : Int) + (1 : Int)) ≤ 9223372036854775807) <|
  (f201_L0 x1 K1 k) ((n2 + ((x1 >>> n3) &&& (BitVec.ofInt 16 1)).toNat), (n3 + 1))
  ) else (
  K1 n2
  )
def f201 (x1 : BitVec 16) : Option Int :=
 jn (fun (n4 : Nat) =>
 some (n4 : Int)
 ) fun (K1 : Nat → Option Int) =>
 f201_L0 x1 K1 FUEL (0, 0)
theorem f201_ok  (x1 : BitVec 16) (r : Int) (h : f201 x1 = some r)  : Spec1 Tryz.prog 201 [] [] [] [.b16 x1] (.int .i64 r) [] := by
 unfold f201 at h
 refine Spec1.body 0 _ _ Tryz.func201 rfl Tryz.ntmps201 rfl rfl ?_
 refine q1rq [] [] ⟨17, [(0, .b16 x1)], [], [], 0⟩ trivial ?_
 refine q1rq [] [] ⟨17, [(0, .b16 x1), (3, .i (0 : Int))], [], [], 0⟩ trivial ?_
 obtain ⟨K1, hK1, h⟩ := jn_some h
 refine AWp.join (α := Nat) (fun (n4 : Nat) => ⟨17, [(3, .i (n4 : Int))], [], [], 0⟩) (fun x => K1 x = some r) ?_ ?_
 ·
  refine q1rq [] [] ⟨17, [(0, .b16 x1), (3, .i (0 : Int)), (4, .i (0 : Int))], [], [], 0⟩ trivial ?_
  refine AWp.block ?_
  refine AWp.loopL (α := Nat × (Nat × Nat)) (fun x => match x with | (_, n2, n3) => ⟨17, [(0, .b16 x1), (3, .i (n2 : Int)), (4, .i (n3 : Int))], [], [], 0⟩) (fun x => f201_L0 x1 K1 x.1 x.2 = some r) (fun x => x.1) (FUEL, 0, 0) (Le.mk (s' := ⟨17, [(0, .b16 x1), (3, .i (0 : Int)), (4, .i (0 : Int))], [], [], 0⟩) rfl rfl ⟨.refl _, .refl _, .refl _, trivial⟩ trivial) h ?_
  rintro ⟨k0, n2, n3⟩ h
  cases k0 with
  | zero => exact nomatch (show (none : Option Int) = some r from h)
  | succ k0 =>
  obtain ⟨C0, hC0⟩ : ∃ C, C = f201_L0 x1 K1 k0 := ⟨_, rfl⟩
  replace h := (f201_L0.eq_2 ..).symm.trans h
  try rw [← hC0] at h
  refine AWp.seq ?_
  refine q1rq [] [] ⟨17, [(0, .b16 x1), (3, .i (n2 : Int)), (4, .i (n3 : Int)), (6, .bool (decide ((n3 : Int) < (16 : Int))))], [], [], 0⟩ trivial ?_
  refine AWp.cond (b := (decide ((n3 : Int) < (16 : Int)))) (by kernel_rfl) (fun hc1 => ?_) (fun hc1 => ?_)
  ·
   replace h := ite_tb hc1 h
   refine AWp.skip ?_
   refine tN ?_
   refine AWp.seq ?_
   refine AWp.block ?_
   have ob0 : 0 ≤ (n3 : Int) := by omega
   have ob1 : -9223372036854775808 ≤ ((((x1 >>> n3) &&& (q1w16 1)).toNat : Nat) : Int) ∧ ((((x1 >>> n3) &&& (q1w16 1)).toNat : Nat) : Int) ≤ 9223372036854775807 := ⟨by omega, by (have := (((x1 >>> n3) &&& (q1w16 1)) : BitVec 16).isLt; omega)⟩
   obtain ⟨ob2p, h⟩ := chk_some h
   have ob2 : -9223372036854775808 ≤ ((n2 : Int) + ((((x1 >>> n3) &&& (q1w16 1)).toNat : Nat) : Int)) ∧ ((n2 : Int) + ((((x1 >>> n3) &&& (q1w16 1)).toNat : Nat) : Int)) ≤ 9223372036854775807 := ⟨by omega, ob2p⟩
   refine q1rr [] [] ⟨17, [(0, .b16 x1), (3, .i (((n2 + ((x1 >>> n3) &&& (q1w16 1)).toNat) : Nat) : Int)), (4, .i (n3 : Int))], [], [], 0⟩ (an3 ob0 ob1 ob2) ?_
   refine kN ?_
   refine tN ?_
   obtain ⟨ob3p, h⟩ := chk_some h
   have ob3 : -9223372036854775808 ≤ ((n3 : Int) + (1 : Int)) ∧ ((n3 : Int) + (1 : Int)) ≤ 9223372036854775807 := ⟨by omega, ob3p⟩
   refine q1rr [] [] ⟨17, [(0, .b16 x1), (3, .i (((n2 + ((x1 >>> n3) &&& (q1w16 1)).toNat) : Nat) : Int)), (4, .i (((n3 + 1) : Nat) : Int))], [], [], 0⟩ (an1 ob3) ?_
   rw [hC0] at h
   exact lN (_, (n2 + ((x1 >>> n3) &&& (q1w16 1)).toNat), (n3 + 1)) (Le.mk rfl rfl ⟨.refl _, .refl _, .refl _, trivial⟩ trivial) h (Nat.lt_succ_self _)
  ·
   replace h := ite_fb hc1 h
   refine AWp.exit ?_
   refine tE ?_
   refine tE ?_
   refine kS ?_
   exact jN (n2) (Le.mk rfl rfl ⟨.refl _, trivial⟩ trivial) h
 ·
  rintro n4 h
  replace h := (congrFun hK1 _).symm.trans h
  refine q1rq [] [] ⟨17, [(2, .i (n4 : Int))], [], [], 0⟩ trivial ?_
  have hret := Option.some.inj h
  subst hret
  refine AWp.le (Le.mk (s' := ⟨17, [(2, .i (n4 : Int))], [], [], 0⟩) rfl rfl ⟨.refl _, trivial⟩ trivial) ?_
  refine AWp.ret ?_
  exact bR _ rfl ⟨rfl, rfl⟩ rfl
def f167 (x1 : BitVec 16) (x2 : BitVec 16) : Option Bool :=
 (f201 x1).bind fun (r3 : Int) =>
 (f201 x2).bind fun (r4 : Int) =>
 if (r3 != r4) then (
 (f201 x1).bind fun (r5 : Int) =>
 (f201 x2).bind fun (r6 : Int) =>
 some (decide (r5 < r6))
 ) else (
 some (decide (x1.toNat < x2.toNat))
 )
theorem f167_ok  (x1 : BitVec 16) (x2 : BitVec 16) (r : Bool) (h : f167 x1 x2 = some r)  : Spec1 Tryz.prog 167 [] [] [] [.b16 x1, .b16 x2] (.bool r) [] := by
 unfold f167 at h
 refine Spec1.body 0 _ _ Tryz.func167 rfl Tryz.ntmps167 rfl rfl ?_
 refine q1rq [] [] ⟨18, [(0, .b16 x1), (1, .b16 x2)], [], [], 0⟩ trivial ?_
 refine AWp.seq ?_
 refine AWp.seq ?_
 obtain ⟨r3, hr3, h⟩ := bind_ok h
 obtain ⟨r4, hr4, h⟩ := bind_ok h
 refine q1rr [] [(1, ⟨[.b16 x1], [], [], [], .i r3, [], [], []⟩), (3, ⟨[.b16 x2], [], [], [], .i r4, [], [], []⟩)] ⟨18, [(0, .b16 x1), (1, .b16 x2), (9, .bool (r3 != r4))], [], [], 0⟩ (an2 (cpT (f201_ok _ _ hr3)) (cpT (f201_ok _ _ hr4))) ?_
 refine tN ?_
 refine AWp.cond (b := (r3 != r4)) (by kernel_rfl) (fun hc1 => ?_) (fun hc1 => ?_)
 ·
  replace h := ite_tb hc1 h
  refine AWp.seq ?_
  obtain ⟨r5, hr5, h⟩ := bind_ok h
  obtain ⟨r6, hr6, h⟩ := bind_ok h
  refine q1rr [] [(1, ⟨[.b16 x1], [], [], [], .i r5, [], [], []⟩), (3, ⟨[.b16 x2], [], [], [], .i r6, [], [], []⟩)] ⟨18, [(4, .bool (decide (r5 < r6)))], [], [], 0⟩ (an2 (cpT (f201_ok _ _ hr5)) (cpT (f201_ok _ _ hr6))) ?_
  refine tN ?_
  have hret := Option.some.inj h
  subst hret
  refine AWp.le (Le.mk (s' := ⟨18, [(4, .bool (decide (r5 < r6)))], [], [], 0⟩) rfl rfl ⟨.refl _, trivial⟩ trivial) ?_
  refine AWp.ret ?_
  refine tR ?_
  exact bR _ rfl ⟨rfl, rfl⟩ rfl
 ·
  replace h := ite_fb hc1 h
  refine AWp.skip ?_
  refine tN ?_
  refine q1rq [] [] ⟨18, [(4, .bool (decide (x1.toNat < x2.toNat)))], [], [], 0⟩ trivial ?_
  have hret := Option.some.inj h
  subst hret
  refine AWp.le (Le.mk (s' := ⟨18, [(4, .bool (decide (x1.toNat < x2.toNat)))], [], [], 0⟩) rfl rfl ⟨.refl _, trivial⟩ trivial) ?_
  refine AWp.ret ?_
  exact bR _ rfl ⟨rfl, rfl⟩ rfl
def f133_L1 (x1 : List (BitVec 16)) (n2 : Nat) (K3 : (Nat × List (BitVec 16)) → Option (List (BitVec 16))) : Nat → (Nat × List (BitVec 16)) → Option (List (BitVec 16))
 | 0, _ => none
 | k + 1, (n4, l5) =>
  optc ((decide ((n4 : Int) < (((l5).length : Nat) : Int))) == true) (f167 (l5.getD n4 0#16) (x1.getD n2 0#16)) fun (r6 : Bool) =>
  chk (((decide ((n4 : Int) < (((l5).length : Nat) : Int))) == true) = true → 0 ≤ (n4 : Int) ∧ (n4 : Int) < (((l5).length : Nat) : Int)) <|
  chk (((decide ((n4 : Int) < (((l5).length : Nat) : Int))) == true) = true → n4 < (l5).length) <|
  chk (((decide ((n4 : Int) < (((l5).length : Nat) : Int))) == true) = true → 0 ≤ (n2 : Int) ∧ (n2 : Int) < (((x1).length : Nat) : Int)) <|
  if ((decide ((n4 : Int) < (((l5).length : Nat) : Int))) && r6) then (
  chk (((n4 : Int) + (1 : Int)) ≤ 9223372036854775807) <|
  (f133_L1 x1 n2 K3 k) ((n4 + 1), l5)
  ) else (
  K3 (n4, l5)
  )
def f133_L2 (n7 : Nat) (K4 : (List (BitVec 16)) → Option (List (BitVec 16))) : Nat → (Int × List (BitVec 16)) → Option (List (BitVec 16))
 | 0, _ => none
 | k + 1, (i10, l11) =>
  if (decide (i10 > (n7 : Int))) then (
  chk (-9223372036854775808 ≤ (i10 - (1 : Int)) ∧ (i10 - (1 : Int)) ≤ 9223372036854775807) <|
  chk (0 ≤ (i10 - (1 : Int)) ∧ (i10 - (1 : Int)) < (((l11).length : Nat) : Int)) <|
  chk ((((i10 - (1 : Int))).toNat) < (l11).length) <|
  chk (0 ≤ i10 ∧ i10 < (((l11).length : Nat) : Int)) <|
  chk (((i10).toNat) < (l11).length) <|
  chk (-9223372036854775808 ≤ (i10 - (1 : Int)) ∧ (i10 - (1 : Int)) ≤ 9223372036854775807) <|
  (f133_L2 n7 K4 k) ((i10 - (1 : Int)), (l11.set ((i10).toNat) (l11.getD (((i10 - (1 : Int))).toNat) 0#16)))
  ) else (
  K4 l11
  )
def f133_L0 (x1 : List (BitVec 16)) (K1 : (List (BitVec 16)) → Option (List (BitVec 16))) : Nat → (Nat × List (BitVec 16)) → Option (List (BitVec 16))
 | 0, _ => none
 | k + 1, (n2, l3) =>
  if (decide ((n2 : Int) < (((x1).length : Nat) : Int))) then (
  jn (fun (l9 : List (BitVec 16)) =>
  chk (((n2 : Int) + (1 : Int)) ≤ 9223372036854775807) <|
  (f133_L0 x1 K1 k) ((n2 + 1), l9)
  ) fun (K2 : (List (BitVec 16)) → Option (List (BitVec 16))) =>
  jn (fun ((n7, l8) : Nat × List (BitVec 16)) =>
  chk (((decide ((n7 : Int) < (((l8).length : Nat) : Int))) == true) = true → 0 ≤ (n7 : Int) ∧ (n7 : Int) < (((l8).length : Nat) : Int)) <|
  chk (((decide ((n7 : Int) < (((l8).length : Nat) : Int))) == true) = true → n7 < (l8).length) <|
  chk (((decide ((n7 : Int) < (((l8).length : Nat) : Int))) == true) = true → 0 ≤ (n2 : Int) ∧ (n2 : Int) < (((x1).length : Nat) : Int)) <|
  if ((decide ((n7 : Int) < (((l8).length : Nat) : Int))) && ((l8.getD n7 0#16) == (x1.getD n2 0#16))) then (
  K2 l8
  ) else (
  chk (((l8).length + 1) * 2 ≤ 140737488355328) <|
  jn (fun (l12 : List (BitVec 16)) =>
  chk ((n2 : Int) < (((x1).length : Nat) : Int)) <|
  chk ((n7 : Int) < (((l12).length : Nat) : Int)) <|
  chk (n7 < (l12).length) <|
  K2 (l12.set n7 (x1.getD n2 0#16))
  ) fun (K4 : (List (BitVec 16)) → Option (List (BitVec 16))) =>
  chk (-9223372036854775808 ≤ (((((l8 ++ [(BitVec.ofInt 16 0)])).length : Nat) : Int) - (1 : Int)) ∧ (((((l8 ++ [(BitVec.ofInt 16 0)])).length : Nat) : Int) - (1 : Int)) ≤ 9223372036854775807) <|
  f133_L2 n7 K4 FUEL ((((((l8 ++ [(BitVec.ofInt 16 0)])).length : Nat) : Int) - (1 : Int)), (l8 ++ [(BitVec.ofInt 16 0)]))
  )
  ) fun (K3 : (Nat × List (BitVec 16)) → Option (List (BitVec 16))) =>
  f133_L1 x1 n2 K3 FUEL (0, l3)
  ) else (
  K1 l3
  )
abbrev f133z0 (x1 : List (BitVec 16)) (n2 : Nat) (n7 : Nat) : List (Nat × V) := [(0, vL 1 eW 0#16 x1), (3, .own 5003), (4, .int .i64 (n2 : Int)), (5, .int .i64 (n7 : Int))]
abbrev f133z1 (x1 : List (BitVec 16)) (n2 : Nat) : List (Nat × V) := [(0, vL 1 eW 0#16 x1), (3, .own 5003), (4, .int .i64 (n2 : Int))]
abbrev f133z2 (x1 : List (BitVec 16)) (n2 : Nat) (n7 : Nat) (i10 : Int) : List (Nat × V) := [(0, vL 1 eW 0#16 x1), (3, .own 5003), (4, .int .i64 (n2 : Int)), (5, .int .i64 (n7 : Int)), (6, .int .i64 i10)]
abbrev f133z3 (l11 : List (BitVec 16)) (i10 : Int) : Heap := [(5003, bL 32 1 eW 0#16 (l11.set ((i10).toNat) (l11.getD (((i10 - (1 : Int))).toNat) 0#16)))]
def f133 (x1 : List (BitVec 16)) : Option (List (BitVec 16)) :=
 jn (fun (l13 : List (BitVec 16)) =>
 some l13
 ) fun (K1 : (List (BitVec 16)) → Option (List (BitVec 16))) =>
 f133_L0 x1 K1 FUEL (0, [])
theorem f133_ok  (x1 : List (BitVec 16)) (r : List (BitVec 16)) (h : f133 x1 = some r)  : Spec1 Tryz.prog 133 [] [] [] [vL 1 eW 0#16 x1] (.own 3000) [(3000, bL 32 1 eW 0#16 r)] := by
 unfold f133 at h
 refine Spec1.body 0 _ _ Tryz.func133 rfl Tryz.ntmps133 rfl rfl ?_
 refine q1rq [] [] ⟨72, [(0, q1aW x1)], [], [], 0⟩ trivial ?_
 refine q1rq [] [] ⟨72, [(0, q1aW x1), (3, .nils)], [], [], 0⟩ trivial ?_
 obtain ⟨K1, hK1, h⟩ := jn_some h
 refine AWp.join (α := List (BitVec 16)) (fun (l13 : List (BitVec 16)) => ⟨72, [(3, .own 5003)], [(5003, q1bW_32 l13)], [], 0⟩) (fun x => K1 x = some r) ?_ ?_
 ·
  refine q1rq [] [] ⟨72, [(0, q1aW x1), (3, .nils), (4, .i (0 : Int))], [], [], 0⟩ trivial ?_
  refine AWp.block ?_
  refine AWp.loopL (α := Nat × (Nat × List (BitVec 16))) (fun x => match x with | (_, n2, l3) => ⟨72, (f133z1 x1 n2), [(5003, q1bW_32 l3)], [], 0⟩) (fun x => f133_L0 x1 K1 x.1 x.2 = some r) (fun x => x.1) (FUEL, 0, []) (Le.trans (Le.trans (Le.nilOwn 3 5003 32 1 (encF eW 0#16 []) rfl rfl (Nat.le_of_ble_eq_true rfl)) (Le.mk (s' := ⟨72, [(0, q1aW x1), (3, .own 5003), (4, .i (0 : Int))], [(5003, q1bW_32 [])], [], 0⟩) rfl rfl ⟨.refl _, .refl _, .refl _, trivial⟩ ⟨⟨_, rfl, .refl _⟩, trivial⟩)) (Le.mk (s' := ⟨72, [(0, q1aW x1), (3, .own 5003), (4, .i (0 : Int))], [(5003, q1bW_32 [])], [], 0⟩) rfl rfl ⟨.refl _, .refl _, .refl _, trivial⟩ ⟨⟨_, rfl, .refl _⟩, trivial⟩)) h ?_
  rintro ⟨k0, n2, l3⟩ h
  cases k0 with
  | zero => exact nomatch (show (none : Option (List (BitVec 16))) = some r from h)
  | succ k0 =>
  obtain ⟨C0, hC0⟩ : ∃ C, C = f133_L0 x1 K1 k0 := ⟨_, rfl⟩
  replace h := (f133_L0.eq_2 ..).symm.trans h
  try rw [← hC0] at h
  refine AWp.seq ?_
  refine q1rq [] [] ⟨72, [(0, q1aW x1), (3, .own 5003), (4, .i (n2 : Int)), (10, .bool (decide ((n2 : Int) < (lZ x1))))], [(5003, q1bW_32 l3)], [], 0⟩ trivial ?_
  refine AWp.cond (b := (decide ((n2 : Int) < (lZ x1)))) (by kernel_rfl) (fun hc1 => ?_) (fun hc1 => ?_)
  ·
   replace h := ite_tb hc1 h
   refine AWp.skip ?_
   refine tN ?_
   obtain ⟨K2, hK2, h⟩ := jn_some h
   refine AWp.join (α := List (BitVec 16)) (fun (l9 : List (BitVec 16)) => ⟨72, (f133z1 x1 n2), [(5003, q1bW_32 l9)], [], 0⟩) (fun x => K2 x = some r) ?_ ?_
   ·
    refine AWp.block ?_
    refine q1rq [] [] ⟨72, [(0, q1aW x1), (3, .own 5003), (4, .i (n2 : Int)), (5, .i (0 : Int))], [(5003, q1bW_32 l3)], [], 0⟩ trivial ?_
    obtain ⟨K3, hK3, h⟩ := jn_some h
    refine AWp.join (α := Nat × List (BitVec 16)) (fun (x : Nat × List (BitVec 16)) => match x with | (n7, l8) => ⟨72, (f133z0 x1 n2 n7), [(5003, q1bW_32 l8)], [], 0⟩) (fun x => K3 x = some r) ?_ ?_
    ·
     refine AWp.block ?_
     refine AWp.loopL (α := Nat × (Nat × List (BitVec 16))) (fun x => match x with | (_, n4, l5) => ⟨72, [(0, q1aW x1), (3, .own 5003), (4, .i (n2 : Int)), (5, .i (n4 : Int))], [(5003, q1bW_32 l5)], [], 0⟩) (fun x => f133_L1 x1 n2 K3 x.1 x.2 = some r) (fun x => x.1) (FUEL, 0, l3) (Le.mk (s' := ⟨72, [(0, q1aW x1), (3, .own 5003), (4, .i (n2 : Int)), (5, .i (0 : Int))], [(5003, q1bW_32 l3)], [], 0⟩) rfl rfl ⟨.refl _, .refl _, .refl _, .refl _, trivial⟩ ⟨⟨_, rfl, .refl _⟩, trivial⟩) h ?_
     rintro ⟨k1, n4, l5⟩ h
     cases k1 with
     | zero => exact nomatch (show (none : Option (List (BitVec 16))) = some r from h)
     | succ k1 =>
     obtain ⟨C1, hC1⟩ : ∃ C, C = f133_L1 x1 n2 K3 k1 := ⟨_, rfl⟩
     replace h := (f133_L1.eq_2 ..).symm.trans h
     try rw [← hC1] at h
     refine AWp.seq ?_
     refine AWp.seq ?_
     obtain ⟨r6, hr6, h⟩ := optc_some h
     obtain ⟨ob0, h⟩ := chk_some h
     have ob1 := idA (((decide ((n4 : Int) < (lZ l5))) == true) = true)
     have ob2 := idA (((decide ((n4 : Int) < (lZ l5))) == true) = true)
     obtain ⟨ob3, h⟩ := chk_some h
     have ob4 := idA (((decide ((n4 : Int) < (lZ l5))) == true) = true)
     obtain ⟨ob5, h⟩ := chk_some h
     have ob6 := idA (((decide ((n4 : Int) < (lZ l5))) == true) = true)
     have ob7 := idA (((decide ((n4 : Int) < (lZ l5))) == true) = true)
     have ob8 := idA (((decide ((n4 : Int) < (lZ l5))) == true) = true)
     have ob9 := idA (((decide ((n4 : Int) < (lZ l5))) == true) = true)
     have ob10 := idA (((decide ((n4 : Int) < (lZ l5))) == true) = true)
     have ob11 := bqA (decide ((n4 : Int) < (lZ l5))) true
     refine q1rr [] [(13, ⟨[.b16 (l5.getD n4 0#16), .b16 (x1.getD n2 0#16)], [], [], [], .bool r6, [], [], []⟩)] ⟨72, [(0, q1aW x1), (3, .own 5003), (4, .i (n2 : Int)), (5, .i (n4 : Int)), (27, .bool ((decide ((n4 : Int) < (lZ l5))) && r6))], [(5003, q1bW_32 l5)], [], 0⟩ (an6 (And.intro ob0 (an2 ob1 ob2)) (And.intro ob3 (an1 ob4)) (And.intro ob5 (an2 ob6 ob7)) (an1 ob8) (And.intro (cpC fun hc => (f167_ok _ _ _ (hr6 hc))) (an2 ob9 ob10)) ob11) ?_
     refine tN ?_
     refine AWp.cond (b := ((decide ((n4 : Int) < (lZ l5))) && r6)) (by kernel_rfl) (fun hc2 => ?_) (fun hc2 => ?_)
     ·
      replace h := ite_tb hc2 h
      refine AWp.skip ?_
      refine tN ?_
      refine AWp.block ?_
      obtain ⟨ob12p, h⟩ := chk_some h
      have ob12 : -9223372036854775808 ≤ ((n4 : Int) + (1 : Int)) ∧ ((n4 : Int) + (1 : Int)) ≤ 9223372036854775807 := ⟨by omega, ob12p⟩
      refine q1rr [] [] ⟨72, [(0, q1aW x1), (3, .own 5003), (4, .i (n2 : Int)), (5, .i (((n4 + 1) : Nat) : Int))], [(5003, q1bW_32 l5)], [], 0⟩ (an1 ob12) ?_
      refine kN ?_
      rw [hC1] at h
      exact lN (_, (n4 + 1), l5) (Le.mk rfl rfl ⟨.refl _, .refl _, .refl _, .refl _, trivial⟩ ⟨⟨_, rfl, .refl _⟩, trivial⟩) h (Nat.lt_succ_self _)
     ·
      replace h := ite_fb hc2 h
      refine AWp.exit ?_
      refine tE ?_
      refine tE ?_
      refine kS ?_
      exact jN (n4, l5) (Le.mk rfl rfl ⟨.refl _, .refl _, .refl _, .refl _, trivial⟩ ⟨⟨_, rfl, .refl _⟩, trivial⟩) h
    ·
     rintro ⟨n7, l8⟩ h
     replace h := (congrFun hK3 _).symm.trans h
     refine AWp.seq ?_
     refine AWp.seq ?_
     obtain ⟨ob13, h⟩ := chk_some h
     have ob14 := idA (((decide ((n7 : Int) < (lZ l8))) == true) = true)
     have ob15 := idA (((decide ((n7 : Int) < (lZ l8))) == true) = true)
     obtain ⟨ob16, h⟩ := chk_some h
     have ob17 := idA (((decide ((n7 : Int) < (lZ l8))) == true) = true)
     obtain ⟨ob18, h⟩ := chk_some h
     have ob19 := idA (((decide ((n7 : Int) < (lZ l8))) == true) = true)
     have ob20 := idA (((decide ((n7 : Int) < (lZ l8))) == true) = true)
     have ob21 := idA (((decide ((n7 : Int) < (lZ l8))) == true) = true)
     have ob22 := idA (((decide ((n7 : Int) < (lZ l8))) == true) = true)
     have ob23 := idA (((decide ((n7 : Int) < (lZ l8))) == true) = true)
     have ob24 := bqA (decide ((n7 : Int) < (lZ l8))) true
     refine q1rr [] [] ⟨72, [(0, q1aW x1), (3, .own 5003), (4, .i (n2 : Int)), (5, .i (n7 : Int)), (44, .bool ((decide ((n7 : Int) < (lZ l8))) && ((l8.getD n7 0#16) == (x1.getD n2 0#16))))], [(5003, q1bW_32 l8)], [], 0⟩ (an6 (And.intro ob13 (an2 ob14 ob15)) (And.intro ob16 (an1 ob17)) (And.intro ob18 (an2 ob19 ob20)) (an1 ob21) (an2 ob22 ob23) ob24) ?_
     refine tN ?_
     refine AWp.cond (b := ((decide ((n7 : Int) < (lZ l8))) && ((l8.getD n7 0#16) == (x1.getD n2 0#16)))) (by kernel_rfl) (fun hc3 => ?_) (fun hc3 => ?_)
     ·
      replace h := ite_tb hc3 h
      refine AWp.exit ?_
      refine tE ?_
      refine kS ?_
      exact jN (l8) (Le.mk rfl rfl ⟨.refl _, .refl _, .refl _, trivial⟩ ⟨⟨_, rfl, .refl _⟩, trivial⟩) h
     ·
      replace h := ite_fb hc3 h
      refine AWp.skip ?_
      refine tN ?_
      refine AWp.seq ?_
      obtain ⟨ob25, h⟩ := chk_some h
      refine q1rr [] [] ⟨72, (f133z0 x1 n2 n7), [(5003, .rows 32 1 ((l8).length + 1) (appF (l8).length (encF eW 0#16 l8) (lstF 1 [.b16 (q1w16 0)])))], [], 0⟩ (an1 ob25) ?_
      refine tN ?_
      refine AWp.le (Le.mk (s' := ⟨72, (f133z0 x1 n2 n7), [(5003, q1bW_32 (l8 ++ [(q1w16 0)]))], [], 0⟩) rfl rfl ⟨.refl _, .refl _, .refl _, .refl _, trivial⟩ ⟨⟨_, rfl, (BLe.of (RL.app (RL.self _) (RL.lst (enc := eW) [(q1w16 0)] rfl rfl (fun _ => rfl))))⟩, trivial⟩) ?_
      obtain ⟨K4, hK4, h⟩ := jn_some h
      refine AWp.join (α := List (BitVec 16)) (fun (l12 : List (BitVec 16)) => ⟨72, (f133z0 x1 n2 n7), [(5003, q1bW_32 l12)], [], 0⟩) (fun x => K4 x = some r) ?_ ?_
      ·
       refine AWp.seq ?_
       obtain ⟨ob26, h⟩ := chk_some h
       refine q1rr [] [] ⟨72, [(0, q1aW x1), (3, .own 5003), (4, .i (n2 : Int)), (5, .i (n7 : Int)), (6, .i (((((l8 ++ [(q1w16 0)])).length : Nat) : Int) - (1 : Int)))], [(5003, q1bW_32 (l8 ++ [(q1w16 0)]))], [], 0⟩ (an1 ob26) ?_
       refine tN ?_
       refine AWp.block ?_
       refine AWp.loopL (α := Nat × (Int × List (BitVec 16))) (fun x => match x with | (_, i10, l11) => ⟨72, (f133z2 x1 n2 n7 i10), [(5003, q1bW_32 l11)], [], 0⟩) (fun x => f133_L2 n7 K4 x.1 x.2 = some r) (fun x => x.1) (FUEL, (((((l8 ++ [(q1w16 0)])).length : Nat) : Int) - (1 : Int)), (l8 ++ [(q1w16 0)])) (Le.mk (s' := ⟨72, [(0, q1aW x1), (3, .own 5003), (4, .i (n2 : Int)), (5, .i (n7 : Int)), (6, .i (((((l8 ++ [(q1w16 0)])).length : Nat) : Int) - (1 : Int)))], [(5003, q1bW_32 (l8 ++ [(q1w16 0)]))], [], 0⟩) rfl rfl ⟨.refl _, .refl _, .refl _, .refl _, .refl _, trivial⟩ ⟨⟨_, rfl, .refl _⟩, trivial⟩) h ?_
       rintro ⟨k2, i10, l11⟩ h
       cases k2 with
       | zero => exact nomatch (show (none : Option (List (BitVec 16))) = some r from h)
       | succ k2 =>
       obtain ⟨C2, hC2⟩ : ∃ C, C = f133_L2 n7 K4 k2 := ⟨_, rfl⟩
       replace h := (f133_L2.eq_2 ..).symm.trans h
       try rw [← hC2] at h
       refine AWp.seq ?_
       refine q1rq [] [] ⟨72, [(0, q1aW x1), (3, .own 5003), (4, .i (n2 : Int)), (5, .i (n7 : Int)), (6, .i i10), (53, .bool (decide (i10 > (n7 : Int))))], [(5003, q1bW_32 l11)], [], 0⟩ trivial ?_
       refine AWp.cond (b := (decide (i10 > (n7 : Int)))) (by kernel_rfl) (fun hc4 => ?_) (fun hc4 => ?_)
       ·
        replace h := ite_tb hc4 h
        refine AWp.skip ?_
        refine tN ?_
        refine AWp.seq ?_
        refine AWp.block ?_
        obtain ⟨ob27, ob28, ob29, ob30, ob31, h⟩ := ck5 h
        refine q1rr [] [] ⟨72, (f133z2 x1 n2 n7 i10), [(5003, .rows 32 1 (l11).length (updF (encF eW 0#16 l11) ((i10).toNat) 0 [.b16 (l11.getD (((i10 - (1 : Int))).toNat) 0#16)]))], [], 0⟩ (an5 ob27 ob28 ob29 ob30 ob31) ?_
        refine kN ?_
        refine tN ?_
        refine AWp.le (Le.mk (s' := ⟨72, (f133z2 x1 n2 n7 i10), (f133z3 l11 i10), [], 0⟩) rfl rfl ⟨.refl _, .refl _, .refl _, .refl _, .refl _, trivial⟩ ⟨⟨_, rfl, (BLe.of (RL.set (l11.getD (((i10 - (1 : Int))).toNat) 0#16) (RL.self _) (by intro j hj; match j, hj with | 0, _ => rfl)))⟩, trivial⟩) ?_
        obtain ⟨ob32, h⟩ := chk_some h
        refine q1rr [] [] ⟨72, [(0, q1aW x1), (3, .own 5003), (4, .i (n2 : Int)), (5, .i (n7 : Int)), (6, .i (i10 - (1 : Int)))], (f133z3 l11 i10), [], 0⟩ (an1 ob32) ?_
        rw [hC2] at h
        exact lN (_, (i10 - (1 : Int)), (l11.set ((i10).toNat) (l11.getD (((i10 - (1 : Int))).toNat) 0#16))) (Le.mk rfl rfl ⟨.refl _, .refl _, .refl _, .refl _, .refl _, trivial⟩ ⟨⟨_, rfl, .refl _⟩, trivial⟩) h (Nat.lt_succ_self _)
       ·
        replace h := ite_fb hc4 h
        refine AWp.exit ?_
        refine tE ?_
        refine tE ?_
        refine kS ?_
        exact jN (l11) (Le.mk rfl rfl ⟨.refl _, .refl _, .refl _, .refl _, trivial⟩ ⟨⟨_, rfl, .refl _⟩, trivial⟩) h
      ·
       rintro l12 h
       replace h := (congrFun hK4 _).symm.trans h
       obtain ⟨ob33p, h⟩ := chk_some h
       have ob33 : 0 ≤ (n2 : Int) ∧ (n2 : Int) < (((x1).length : Nat) : Int) := ⟨by omega, ob33p⟩
       obtain ⟨ob34p, h⟩ := chk_some h
       have ob34 : 0 ≤ (n7 : Int) ∧ (n7 : Int) < (((l12).length : Nat) : Int) := ⟨by omega, ob34p⟩
       obtain ⟨ob35, h⟩ := chk_some h
       refine q1rr [] [] ⟨72, (f133z1 x1 n2), [(5003, .rows 32 1 (l12).length (updF (encF eW 0#16 l12) n7 0 [.b16 (x1.getD n2 0#16)]))], [], 0⟩ (an3 ob33 ob34 ob35) ?_
       refine kN ?_
       exact jN ((l12.set n7 (x1.getD n2 0#16))) (Le.trans (Le.mk (s' := ⟨72, (f133z1 x1 n2), [(5003, q1bW_32 (l12.set n7 (x1.getD n2 0#16)))], [], 0⟩) rfl rfl ⟨.refl _, .refl _, .refl _, trivial⟩ ⟨⟨_, rfl, (BLe.of (RL.set (x1.getD n2 0#16) (RL.self _) (by intro j hj; match j, hj with | 0, _ => rfl)))⟩, trivial⟩) (Le.mk rfl rfl ⟨.refl _, .refl _, .refl _, trivial⟩ ⟨⟨_, rfl, .refl _⟩, trivial⟩)) h
   ·
    rintro l9 h
    replace h := (congrFun hK2 _).symm.trans h
    obtain ⟨ob36p, h⟩ := chk_some h
    have ob36 : -9223372036854775808 ≤ ((n2 : Int) + (1 : Int)) ∧ ((n2 : Int) + (1 : Int)) ≤ 9223372036854775807 := ⟨by omega, ob36p⟩
    refine q1rr [] [] ⟨72, [(0, q1aW x1), (3, .own 5003), (4, .i (((n2 + 1) : Nat) : Int))], [(5003, q1bW_32 l9)], [], 0⟩ (an1 ob36) ?_
    rw [hC0] at h
    exact lN (_, (n2 + 1), l9) (Le.mk rfl rfl ⟨.refl _, .refl _, .refl _, trivial⟩ ⟨⟨_, rfl, .refl _⟩, trivial⟩) h (Nat.lt_succ_self _)
  ·
   replace h := ite_fb hc1 h
   refine AWp.exit ?_
   refine tE ?_
   refine tE ?_
   refine kS ?_
   exact jN (l3) (Le.mk rfl rfl ⟨.refl _, trivial⟩ ⟨⟨_, rfl, .refl _⟩, trivial⟩) h
 ·
  rintro l13 h
  replace h := (congrFun hK1 _).symm.trans h
  refine q1rq [] [] ⟨72, [(2, .own 5003)], [(5003, q1bW_32 l13)], [], 0⟩ trivial ?_
  refine AWp.le (Le.trans (Le.ren (swapN 5003 3000) (swapN_inv 5003 3000) rfl) (Le.mk (s' := ⟨72, [(2, .own 3000)], [(3000, q1bW_32 l13)], [], 0⟩) rfl rfl ⟨.refl _, trivial⟩ ⟨⟨_, rfl, .refl _⟩, trivial⟩)) ?_
  have hret := Option.some.inj h
  subst hret
  refine AWp.le (Le.mk (s' := ⟨72, [(2, .own 3000)], [(3000, q1bW_32 l13)], [], 0⟩) rfl rfl ⟨.refl _, trivial⟩ ⟨⟨_, rfl, .refl _⟩, trivial⟩) ?_
  refine AWp.ret ?_
  exact bR _ rfl ⟨rfl, rfl⟩ rfl
def f134 (x1 : BitVec 16) (x2 : BitVec 16) : Option Bool :=
 some ((x2 &&& ~~~x1) == (BitVec.ofInt 16 0))
theorem f134_ok  (x1 : BitVec 16) (x2 : BitVec 16) (r : Bool) (h : f134 x1 x2 = some r)  : Spec1 Tryz.prog 134 [] [] [] [.b16 x1, .b16 x2] (.bool r) [] := by
 unfold f134 at h
 refine Spec1.body 0 _ _ Tryz.func134 rfl Tryz.ntmps134 rfl rfl ?_
 refine q1rq [] [] ⟨9, [(0, .b16 x1), (1, .b16 x2)], [], [], 0⟩ trivial ?_
 refine q1rq [] [] ⟨9, [(4, .bool ((x2 &&& ~~~x1) == (q1w16 0)))], [], [], 0⟩ trivial ?_
 have hret := Option.some.inj h
 subst hret
 refine AWp.le (Le.mk (s' := ⟨9, [(4, .bool ((x2 &&& ~~~x1) == (q1w16 0)))], [], [], 0⟩) rfl rfl ⟨.refl _, trivial⟩ trivial) ?_
 refine AWp.ret ?_
 exact bR _ rfl ⟨rfl, rfl⟩ rfl
def f103_L1 (r2 : List (BitVec 16)) (n3 : Nat) (K3 : Bool → Option (List (BitVec 16))) : Nat → (Bool × Nat) → Option (List (BitVec 16))
 | 0, _ => none
 | k + 1, (b5, n6) =>
  if (decide ((n6 : Int) < (((r2).length : Nat) : Int))) then (
  jn (fun (b8 : Bool) =>
  chk (((n6 : Int) + (1 : Int)) ≤ 9223372036854775807) <|
  (f103_L1 r2 n3 K3 k) (b8, (n6 + 1))
  ) fun (K4 : Bool → Option (List (BitVec 16))) =>
  optc (((n3 : Int) != (n6 : Int)) == true) (f134 (r2.getD n3 0#16) (r2.getD n6 0#16)) fun (r7 : Bool) =>
  chk ((((n3 : Int) != (n6 : Int)) == true) = true → 0 ≤ (n3 : Int) ∧ (n3 : Int) < (((r2).length : Nat) : Int)) <|
  chk ((((n3 : Int) != (n6 : Int)) == true) = true → n3 < (r2).length) <|
  chk ((((n3 : Int) != (n6 : Int)) == true) = true → 0 ≤ (n6 : Int) ∧ (n6 : Int) < (((r2).length : Nat) : Int)) <|
  chk ((((n3 : Int) != (n6 : Int)) == true) = true → n6 < (r2).length) <|
  if (((n3 : Int) != (n6 : Int)) && r7) then (
  K4 false
  ) else (
  K4 b5
  )
  ) else (
  K3 b5
  )
def f103_L0 (r2 : List (BitVec 16)) (K1 : (List (BitVec 16)) → Option (List (BitVec 16))) : Nat → (Nat × List (BitVec 16)) → Option (List (BitVec 16))
 | 0, _ => none
 | k + 1, (n3, l4) =>
  if (decide ((n3 : Int) < (((r2).length : Nat) : Int))) then (
  jn (fun (l10 : List (BitVec 16)) =>
  chk (((n3 : Int) + (1 : Int)) ≤ 9223372036854775807) <|
  (f103_L0 r2 K1 k) ((n3 + 1), l10)
  ) fun (K2 : (List (BitVec 16)) → Option (List (BitVec 16))) =>
  jn (fun (b9 : Bool) =>
  if b9 then (
  chk ((n3 : Int) < (((r2).length : Nat) : Int)) <|
  chk (n3 < (r2).length) <|
  chk (((l4).length + 1) * 2 ≤ 140737488355328) <|
  K2 (l4 ++ [(r2.getD n3 0#16)])
  ) else (
  K2 l4
  )
  ) fun (K3 : Bool → Option (List (BitVec 16))) =>
  f103_L1 r2 n3 K3 FUEL (true, 0)
  ) else (
  K1 l4
  )
abbrev f103z0 (l4 : List (BitVec 16)) (r2 : List (BitVec 16)) : Heap := [(5003, bL 32 1 eW 0#16 l4), (6001, bL 32 1 eW 0#16 r2)]
abbrev f103z1 (n3 : Nat) (n6 : Nat) := (((n3 : Int) != (n6 : Int)) == true)
abbrev f103z2 (n3 : Nat) : List (Nat × V) := [(3, .own 5003), (4, .own 6001), (5, .int .i64 (n3 : Int))]
abbrev f103z3 (n3 : Nat) : List (Nat × V) := [(3, .own 43), (4, .own 6001), (5, .int .i64 (n3 : Int))]
def f103 (x1 : List (BitVec 16)) : Option (List (BitVec 16)) :=
 (f133 x1).bind fun (r2 : List (BitVec 16)) =>
 jn (fun (l11 : List (BitVec 16)) =>
 some l11
 ) fun (K1 : (List (BitVec 16)) → Option (List (BitVec 16))) =>
 f103_L0 r2 K1 FUEL (0, [])
theorem f103_ok  (x1 : List (BitVec 16)) (r : List (BitVec 16)) (h : f103 x1 = some r)  : Spec1 Tryz.prog 103 [] [] [] [vL 1 eW 0#16 x1] (.own 3000) [(3000, bL 32 1 eW 0#16 r)] := by
 unfold f103 at h
 refine Spec1.body 0 _ _ Tryz.func103 rfl Tryz.ntmps103 rfl rfl ?_
 refine q1rq [] [] ⟨45, [(0, q1aW x1)], [], [], 0⟩ trivial ?_
 refine q1rq [] [] ⟨45, [(0, q1aW x1), (3, .nils)], [], [], 0⟩ trivial ?_
 refine AWp.seq ?_
 obtain ⟨r2, hr2, h⟩ := bind_ok h
 refine q1rr [] [(1, ⟨[q1aW x1], [], [], [(6001, q1bW_32 r2)], .own 6001, [6001], [], []⟩)] ⟨45, [(3, .nils), (4, .own 6001)], [(6001, q1bW_32 r2)], [], 0⟩ (an1 (cpT (Spec1.ren (swapN 3000 6001) (swapN_inv 3000 6001) rfl (f133_ok _ _ hr2)))) ?_
 refine tN ?_
 obtain ⟨K1, hK1, h⟩ := jn_some h
 refine AWp.join (α := List (BitVec 16)) (fun (l11 : List (BitVec 16)) => ⟨45, [(3, .own 5003)], [(5003, q1bW_32 l11)], [], 0⟩) (fun x => K1 x = some r) ?_ ?_
 ·
  refine q1rq [] [] ⟨45, [(3, .nils), (4, .own 6001), (5, .i (0 : Int))], [(6001, q1bW_32 r2)], [], 0⟩ trivial ?_
  refine AWp.block ?_
  refine AWp.loopL (α := Nat × (Nat × List (BitVec 16))) (fun x => match x with | (_, n3, l4) => ⟨45, (f103z2 n3), (f103z0 l4 r2), [], 0⟩) (fun x => f103_L0 r2 K1 x.1 x.2 = some r) (fun x => x.1) (FUEL, 0, []) (Le.trans (Le.trans (Le.nilOwn 3 5003 32 1 (encF eW 0#16 []) rfl rfl (Nat.le_of_ble_eq_true rfl)) (Le.mk (s' := ⟨45, [(3, .own 5003), (4, .own 6001), (5, .i (0 : Int))], [(6001, q1bW_32 r2), (5003, q1bW_32 [])], [], 0⟩) rfl rfl ⟨.refl _, .refl _, .refl _, trivial⟩ ⟨⟨_, rfl, .refl _⟩, ⟨_, rfl, .refl _⟩, trivial⟩)) (Le.mk (s' := ⟨45, [(3, .own 5003), (4, .own 6001), (5, .i (0 : Int))], [(5003, q1bW_32 []), (6001, q1bW_32 r2)], [], 0⟩) rfl rfl ⟨.refl _, .refl _, .refl _, trivial⟩ ⟨⟨_, rfl, .refl _⟩, ⟨_, rfl, .refl _⟩, trivial⟩)) h ?_
  rintro ⟨k0, n3, l4⟩ h
  cases k0 with
  | zero => exact nomatch (show (none : Option (List (BitVec 16))) = some r from h)
  | succ k0 =>
  obtain ⟨C0, hC0⟩ : ∃ C, C = f103_L0 r2 K1 k0 := ⟨_, rfl⟩
  replace h := (f103_L0.eq_2 ..).symm.trans h
  try rw [← hC0] at h
  refine AWp.seq ?_
  refine q1rq [] [] ⟨45, [(3, .own 5003), (4, .own 6001), (5, .i (n3 : Int)), (13, .bool (decide ((n3 : Int) < (lZ r2))))], (f103z0 l4 r2), [], 0⟩ trivial ?_
  refine AWp.cond (b := (decide ((n3 : Int) < (lZ r2)))) (by kernel_rfl) (fun hc1 => ?_) (fun hc1 => ?_)
  ·
   replace h := ite_tb hc1 h
   refine AWp.skip ?_
   refine tN ?_
   obtain ⟨K2, hK2, h⟩ := jn_some h
   refine AWp.join (α := List (BitVec 16)) (fun (l10 : List (BitVec 16)) => ⟨45, (f103z3 n3), [(43, q1bW_32 l10), (6001, q1bW_32 r2)], [], 0⟩) (fun x => K2 x = some r) ?_ ?_
   ·
    refine AWp.block ?_
    refine q1rq [] [] ⟨45, [(3, .own 5003), (4, .own 6001), (5, .i (n3 : Int)), (6, .bool true)], (f103z0 l4 r2), [], 0⟩ trivial ?_
    obtain ⟨K3, hK3, h⟩ := jn_some h
    refine AWp.join (α := Bool) (fun (b9 : Bool) => ⟨45, [(3, .own 5003), (4, .own 6001), (5, .i (n3 : Int)), (6, .bool b9)], (f103z0 l4 r2), [], 0⟩) (fun x => K3 x = some r) ?_ ?_
    ·
     refine q1rq [] [] ⟨45, [(3, .own 5003), (4, .own 6001), (5, .i (n3 : Int)), (6, .bool true), (7, .i (0 : Int))], (f103z0 l4 r2), [], 0⟩ trivial ?_
     refine AWp.block ?_
     refine AWp.loopL (α := Nat × (Bool × Nat)) (fun x => match x with | (_, b5, n6) => ⟨45, [(3, .own 5003), (4, .own 6001), (5, .i (n3 : Int)), (6, .bool b5), (7, .i (n6 : Int))], (f103z0 l4 r2), [], 0⟩) (fun x => f103_L1 r2 n3 K3 x.1 x.2 = some r) (fun x => x.1) (FUEL, true, 0) (Le.mk (s' := ⟨45, [(3, .own 5003), (4, .own 6001), (5, .i (n3 : Int)), (6, .bool true), (7, .i (0 : Int))], (f103z0 l4 r2), [], 0⟩) rfl rfl ⟨.refl _, .refl _, .refl _, .refl _, .refl _, trivial⟩ ⟨⟨_, rfl, .refl _⟩, ⟨_, rfl, .refl _⟩, trivial⟩) h ?_
     rintro ⟨k1, b5, n6⟩ h
     cases k1 with
     | zero => exact nomatch (show (none : Option (List (BitVec 16))) = some r from h)
     | succ k1 =>
     obtain ⟨C1, hC1⟩ : ∃ C, C = f103_L1 r2 n3 K3 k1 := ⟨_, rfl⟩
     replace h := (f103_L1.eq_2 ..).symm.trans h
     try rw [← hC1] at h
     refine AWp.seq ?_
     refine q1rq [] [] ⟨45, [(3, .own 5003), (4, .own 6001), (5, .i (n3 : Int)), (6, .bool b5), (7, .i (n6 : Int)), (19, .bool (decide ((n6 : Int) < (lZ r2))))], (f103z0 l4 r2), [], 0⟩ trivial ?_
     refine AWp.cond (b := (decide ((n6 : Int) < (lZ r2)))) (by kernel_rfl) (fun hc2 => ?_) (fun hc2 => ?_)
     ·
      replace h := ite_tb hc2 h
      refine AWp.skip ?_
      refine tN ?_
      obtain ⟨K4, hK4, h⟩ := jn_some h
      refine AWp.join (α := Bool) (fun (b8 : Bool) => ⟨45, [(3, .own 5003), (4, .own 6001), (5, .i (n3 : Int)), (6, .bool b8), (7, .i (n6 : Int))], (f103z0 l4 r2), [], 0⟩) (fun x => K4 x = some r) ?_ ?_
      ·
       refine AWp.block ?_
       refine AWp.seq ?_
       obtain ⟨r7, hr7, h⟩ := optc_some h
       obtain ⟨ob0, h⟩ := chk_some h
       have ob1 := idA ((f103z1 n3 n6) = true)
       have ob2 := idA ((f103z1 n3 n6) = true)
       obtain ⟨ob3, h⟩ := chk_some h
       have ob4 := idA ((f103z1 n3 n6) = true)
       obtain ⟨ob5, h⟩ := chk_some h
       have ob6 := idA ((f103z1 n3 n6) = true)
       have ob7 := idA ((f103z1 n3 n6) = true)
       obtain ⟨ob8, h⟩ := chk_some h
       have ob9 := idA ((f103z1 n3 n6) = true)
       have ob10 := idA ((f103z1 n3 n6) = true)
       have ob11 := idA ((f103z1 n3 n6) = true)
       have ob12 : true = true → ((n3 : Int) != (n6 : Int)) = true → (f103z1 n3 n6) = true := fun _ h => beq_iff_eq.2 h
       refine q1rr [] [(12, ⟨[.b16 (r2.getD n3 0#16), .b16 (r2.getD n6 0#16)], [], [], [], .bool r7, [], [], []⟩)] ⟨45, [(3, .own 5003), (4, .own 6001), (5, .i (n3 : Int)), (6, .bool b5), (7, .i (n6 : Int)), (35, .bool (((n3 : Int) != (n6 : Int)) && r7))], (f103z0 l4 r2), [], 0⟩ (an6 (And.intro ob0 (an2 ob1 ob2)) (And.intro ob3 (an1 ob4)) (And.intro ob5 (an2 ob6 ob7)) (And.intro ob8 (an1 ob9)) (And.intro (cpC fun hc => (f134_ok _ _ _ (hr7 hc))) (an2 ob10 ob11)) ob12) ?_
       refine tN ?_
       refine AWp.cond (b := (((n3 : Int) != (n6 : Int)) && r7)) (by kernel_rfl) (fun hc3 => ?_) (fun hc3 => ?_)
       ·
        replace h := ite_tb hc3 h
        refine q1rr [] [] ⟨45, [(3, .own 5003), (4, .own 6001), (5, .i (n3 : Int)), (6, .bool false), (7, .i (n6 : Int))], (f103z0 l4 r2), [], 0⟩ trivial ?_
        refine kN ?_
        exact jN (false) (Le.mk rfl rfl ⟨.refl _, .refl _, .refl _, .refl _, .refl _, trivial⟩ ⟨⟨_, rfl, .refl _⟩, ⟨_, rfl, .refl _⟩, trivial⟩) h
       ·
        replace h := ite_fb hc3 h
        refine AWp.skip ?_
        refine kN ?_
        exact jN (b5) (Le.mk rfl rfl ⟨.refl _, .refl _, .refl _, .refl _, .refl _, trivial⟩ ⟨⟨_, rfl, .refl _⟩, ⟨_, rfl, .refl _⟩, trivial⟩) h
      ·
       rintro b8 h
       replace h := (congrFun hK4 _).symm.trans h
       obtain ⟨ob13p, h⟩ := chk_some h
       have ob13 : -9223372036854775808 ≤ ((n6 : Int) + (1 : Int)) ∧ ((n6 : Int) + (1 : Int)) ≤ 9223372036854775807 := ⟨by omega, ob13p⟩
       refine q1rr [] [] ⟨45, [(3, .own 5003), (4, .own 6001), (5, .i (n3 : Int)), (6, .bool b8), (7, .i (((n6 + 1) : Nat) : Int))], (f103z0 l4 r2), [], 0⟩ (an1 ob13) ?_
       rw [hC1] at h
       exact lN (_, b8, (n6 + 1)) (Le.mk rfl rfl ⟨.refl _, .refl _, .refl _, .refl _, .refl _, trivial⟩ ⟨⟨_, rfl, .refl _⟩, ⟨_, rfl, .refl _⟩, trivial⟩) h (Nat.lt_succ_self _)
     ·
      replace h := ite_fb hc2 h
      refine AWp.exit ?_
      refine tE ?_
      refine tE ?_
      refine kS ?_
      exact jN (b5) (Le.mk rfl rfl ⟨.refl _, .refl _, .refl _, .refl _, trivial⟩ ⟨⟨_, rfl, .refl _⟩, ⟨_, rfl, .refl _⟩, trivial⟩) h
    ·
     rintro b9 h
     replace h := (congrFun hK3 _).symm.trans h
     refine q1rq [] [] ⟨45, [(3, .own 5003), (4, .own 6001), (5, .i (n3 : Int)), (36, .bool b9)], (f103z0 l4 r2), [], 0⟩ trivial ?_
     refine AWp.cond (b := b9) (by kernel_rfl) (fun hc4 => ?_) (fun hc4 => ?_)
     ·
      replace h := ite_tb hc4 h
      obtain ⟨ob14p, h⟩ := chk_some h
      have ob14 : 0 ≤ (n3 : Int) ∧ (n3 : Int) < (((r2).length : Nat) : Int) := ⟨by omega, ob14p⟩
      obtain ⟨ob15, ob16, h⟩ := ck2 h
      refine q1rr [] [] ⟨45, (f103z2 n3), [(5003, .rows 32 1 ((l4).length + 1) (appF (l4).length (encF eW 0#16 l4) (lstF 1 [.b16 (r2.getD n3 0#16)]))), (6001, q1bW_32 r2)], [], 0⟩ (an3 ob14 ob15 ob16) ?_
      refine kN ?_
      exact jN ((l4 ++ [(r2.getD n3 0#16)])) (Le.trans (Le.mk (s' := ⟨45, (f103z2 n3), [(5003, q1bW_32 (l4 ++ [(r2.getD n3 0#16)])), (6001, q1bW_32 r2)], [], 0⟩) rfl rfl ⟨.refl _, .refl _, .refl _, trivial⟩ ⟨⟨_, rfl, (BLe.of (RL.app (RL.self _) (RL.lst (enc := eW) [(r2.getD n3 0#16)] rfl rfl (fun _ => rfl))))⟩, ⟨_, rfl, .refl _⟩, trivial⟩) (Le.trans (Le.trans (Le.ren (swapN 5003 43) (swapN_inv 5003 43) rfl) (Le.mk (s' := ⟨45, (f103z3 n3), [(43, q1bW_32 (l4 ++ [(r2.getD n3 0#16)])), (6001, q1bW_32 r2)], [], 0⟩) rfl rfl ⟨.refl _, .refl _, .refl _, trivial⟩ ⟨⟨_, rfl, .refl _⟩, ⟨_, rfl, .refl _⟩, trivial⟩)) (Le.mk rfl rfl ⟨.refl _, .refl _, .refl _, trivial⟩ ⟨⟨_, rfl, .refl _⟩, ⟨_, rfl, .refl _⟩, trivial⟩))) h
     ·
      replace h := ite_fb hc4 h
      refine AWp.skip ?_
      refine kN ?_
      exact jN (l4) (Le.trans (Le.trans (Le.ren (swapN 5003 43) (swapN_inv 5003 43) rfl) (Le.mk (s' := ⟨45, [(3, .own 43), (4, .own 6001), (5, .i (n3 : Int)), (36, .bool b9)], [(43, q1bW_32 l4), (6001, q1bW_32 r2)], [], 0⟩) rfl rfl ⟨.refl _, .refl _, .refl _, .refl _, trivial⟩ ⟨⟨_, rfl, .refl _⟩, ⟨_, rfl, .refl _⟩, trivial⟩)) (Le.mk rfl rfl ⟨.refl _, .refl _, .refl _, trivial⟩ ⟨⟨_, rfl, .refl _⟩, ⟨_, rfl, .refl _⟩, trivial⟩)) h
   ·
    rintro l10 h
    replace h := (congrFun hK2 _).symm.trans h
    obtain ⟨ob17p, h⟩ := chk_some h
    have ob17 : -9223372036854775808 ≤ ((n3 : Int) + (1 : Int)) ∧ ((n3 : Int) + (1 : Int)) ≤ 9223372036854775807 := ⟨by omega, ob17p⟩
    refine q1rr [] [] ⟨45, [(3, .own 43), (4, .own 6001), (5, .i (((n3 + 1) : Nat) : Int))], [(43, q1bW_32 l10), (6001, q1bW_32 r2)], [], 0⟩ (an1 ob17) ?_
    rw [hC0] at h
    exact lN (_, (n3 + 1), l10) (Le.trans (Le.trans (Le.ren (swapN 43 5003) (swapN_inv 43 5003) rfl) (Le.mk (s' := ⟨45, [(3, .own 5003), (4, .own 6001), (5, .i (((n3 + 1) : Nat) : Int))], [(5003, q1bW_32 l10), (6001, q1bW_32 r2)], [], 0⟩) rfl rfl ⟨.refl _, .refl _, .refl _, trivial⟩ ⟨⟨_, rfl, .refl _⟩, ⟨_, rfl, .refl _⟩, trivial⟩)) (Le.mk rfl rfl ⟨.refl _, .refl _, .refl _, trivial⟩ ⟨⟨_, rfl, .refl _⟩, ⟨_, rfl, .refl _⟩, trivial⟩)) h (Nat.lt_succ_self _)
  ·
   replace h := ite_fb hc1 h
   refine AWp.exit ?_
   refine tE ?_
   refine tE ?_
   refine kS ?_
   exact jN (l4) (Le.mk rfl rfl ⟨.refl _, trivial⟩ ⟨⟨_, rfl, .refl _⟩, trivial⟩) h
 ·
  rintro l11 h
  replace h := (congrFun hK1 _).symm.trans h
  refine q1rq [] [] ⟨45, [(2, .own 5003)], [(5003, q1bW_32 l11)], [], 0⟩ trivial ?_
  refine AWp.le (Le.trans (Le.ren (swapN 5003 3000) (swapN_inv 5003 3000) rfl) (Le.mk (s' := ⟨45, [(2, .own 3000)], [(3000, q1bW_32 l11)], [], 0⟩) rfl rfl ⟨.refl _, trivial⟩ ⟨⟨_, rfl, .refl _⟩, trivial⟩)) ?_
  have hret := Option.some.inj h
  subst hret
  refine AWp.le (Le.mk (s' := ⟨45, [(2, .own 3000)], [(3000, q1bW_32 l11)], [], 0⟩) rfl rfl ⟨.refl _, trivial⟩ ⟨⟨_, rfl, .refl _⟩, trivial⟩) ?_
  refine AWp.ret ?_
  exact bR _ rfl ⟨rfl, rfl⟩ rfl
def f72_L0 (x7 : List (BitVec 16)) (x8 : Int) (K2 : (List (BitVec 16)) → Option (List (BitVec 16))) : Nat → (Nat × List (BitVec 16)) → Option (List (BitVec 16))
 | 0, _ => none
 | k + 1, (n11, l12) =>
  if ((decide ((n11 : Int) < (((x7).length : Nat) : Int))) && (decide ((n11 : Int) < (6 : Int)))) then (
  jn (fun (l13 : List (BitVec 16)) =>
  chk (((n11 : Int) + (1 : Int)) ≤ 9223372036854775807) <|
  (f72_L0 x7 x8 K2 k) ((n11 + 1), l13)
  ) fun (K3 : (List (BitVec 16)) → Option (List (BitVec 16))) =>
  chk ((n11 : Int) < (((x7).length : Nat) : Int)) <|
  if (!(((x7.getD n11 0#16) &&& (((BitVec.ofInt 16 1) <<< ((x8).toNat)) - (BitVec.ofInt 16 1))) == (BitVec.ofInt 16 0))) then (
  chk (((l12).length + 1) * 2 ≤ 140737488355328) <|
  K3 (l12 ++ [((x7.getD n11 0#16) &&& (((BitVec.ofInt 16 1) <<< ((x8).toNat)) - (BitVec.ofInt 16 1)))])
  ) else (
  K3 l12
  )
  ) else (
  K2 l12
  )
abbrev f72z0 (x7 : List (BitVec 16)) (x8 : Int) (n11 : Nat) : List (Nat × V) := [(1, vL 1 eW 0#16 x7), (7, .b16 (((BitVec.ofInt 16 1) <<< ((x8).toNat)) - (BitVec.ofInt 16 1))), (9, .own 5009), (10, .int .i64 (n11 : Int))]
abbrev f72z1 (x7 : List (BitVec 16)) (x8 : Int) (n11 : Nat) : List (Nat × V) := [(1, vL 1 eW 0#16 x7), (7, .b16 (((BitVec.ofInt 16 1) <<< ((x8).toNat)) - (BitVec.ofInt 16 1))), (9, .own 54), (10, .int .i64 (n11 : Int))]
def f72 (x1 : Int) (x2 : Int) (x3 : Int) (x4 : List (BitVec 16)) (x5 : List (BitVec 16)) (x6 : List Tq1) (x7 : List (BitVec 16)) (x8 : Int) : Option (List (BitVec 16)) :=
 chk (0 ≤ x8) <|
 chk (0 ≤ x3 ∧ 1 ≤ (2 : Int)) <|
 if ((x3 % (2 : Int)) == (1 : Int)) then (
 jn (fun (i9 : Int) =>
 (f102 (((BitVec.ofInt 16 1) <<< ((x8).toNat)) - (BitVec.ofInt 16 1)) i9).bind fun (r10 : List (BitVec 16)) =>
 some r10
 ) fun (K1 : Int → Option (List (BitVec 16))) =>
 if (decide ((((x7).length : Nat) : Int) > (0 : Int))) then (
 chk ((0 : Int) < (((x7).length : Nat) : Int)) <|
 chk ((((x7.getD 0 0#16).toNat : Nat) : Int) ≤ 9223372036854775807) <|
 chk (1 ≤ x8) <|
 chk (-9223372036854775808 ≤ ((1 : Int) + ((((x7.getD 0 0#16).toNat : Nat) : Int) % x8)) ∧ ((1 : Int) + ((((x7.getD 0 0#16).toNat : Nat) : Int) % x8)) ≤ 9223372036854775807) <|
 K1 ((1 : Int) + ((((x7.getD 0 0#16).toNat : Nat) : Int) % x8))
 ) else (
 K1 x8
 )
 ) else (
 jn (fun (l14 : List (BitVec 16)) =>
 jn (fun (l15 : List (BitVec 16)) =>
 (f103 l15).bind fun (r16 : List (BitVec 16)) =>
 some r16
 ) fun (K4 : (List (BitVec 16)) → Option (List (BitVec 16))) =>
 if ((((l14).length : Nat) : Int) == (0 : Int)) then (
 chk (((l14).length + 1) * 2 ≤ 140737488355328) <|
 K4 (l14 ++ [(((BitVec.ofInt 16 1) <<< ((x8).toNat)) - (BitVec.ofInt 16 1))])
 ) else (
 K4 l14
 )
 ) fun (K2 : (List (BitVec 16)) → Option (List (BitVec 16))) =>
 f72_L0 x7 x8 K2 FUEL (0, [])
 )
theorem f72_ok  (x1 : Int) (x2 : Int) (x3 : Int) (x4 : List (BitVec 16)) (x5 : List (BitVec 16)) (x6 : List Tq1) (x7 : List (BitVec 16)) (x8 : Int) (r : List (BitVec 16)) (h : f72 x1 x2 x3 x4 x5 x6 x7 x8 = some r)  : Spec1 Tryz.prog 72 [] [] [] [.agg [.int .u8 x1, .int .u8 x2, .int .u8 x3, vL 1 eW 0#16 x4, vL 1 eW 0#16 x5, vL 2 eWW (default : Tq1) x6], vL 1 eW 0#16 x7, .int .i64 x8] (.own 3000) [(3000, bL 32 1 eW 0#16 r)] := by
 unfold f72 at h
 refine Spec1.body 0 _ _ Tryz.func72 rfl Tryz.ntmps72 rfl rfl ?_
 refine q1rq [] [] ⟨64, [(1, q1aW x7), (2, .i x8), (3, .ptr 3 0)], [(3, .cells 129 [.int .u8 x1, .int .u8 x2, .int .u8 x3, q1aW x4, q1aW x5, q1aWW x6])], [], 0⟩ trivial ?_
 refine AWp.seq ?_
 obtain ⟨ob0, h⟩ := chk_some h
 refine q1rr [] [] ⟨64, [(1, q1aW x7), (2, .i x8), (3, .ptr 3 0), (7, .b16 (((q1w16 1) <<< ((x8).toNat)) - (q1w16 1)))], [(3, .cells 129 [.int .u8 x1, .int .u8 x2, .int .u8 x3, q1aW x4, q1aW x5, q1aWW x6])], [], 0⟩ (an2 ob0 trivial) ?_
 refine tN ?_
 refine AWp.seq ?_
 refine AWp.seq ?_
 obtain ⟨ob1, h⟩ := chk_some h
 refine q1rr [] [] ⟨64, [(1, q1aW x7), (2, .i x8), (7, .b16 (((q1w16 1) <<< ((x8).toNat)) - (q1w16 1))), (18, .bool ((x3 % (2 : Int)) == (1 : Int)))], [], [], 0⟩ (an1 ob1) ?_
 refine tN ?_
 refine AWp.cond (b := ((x3 % (2 : Int)) == (1 : Int))) (by kernel_rfl) (fun hc1 => ?_) (fun hc1 => ?_)
 ·
  replace h := ite_tb hc1 h
  refine q1rq [] [] ⟨64, [(1, q1aW x7), (2, .i x8), (7, .b16 (((q1w16 1) <<< ((x8).toNat)) - (q1w16 1))), (8, .i x8)], [], [], 0⟩ trivial ?_
  obtain ⟨K1, hK1, h⟩ := jn_some h
  refine AWp.join (α := Int) (fun (i9 : Int) => ⟨64, [(7, .b16 (((q1w16 1) <<< ((x8).toNat)) - (q1w16 1))), (8, .i i9)], [], [], 0⟩) (fun x => K1 x = some r) ?_ ?_
  ·
   refine q1rq [] [] ⟨64, [(1, q1aW x7), (2, .i x8), (7, .b16 (((q1w16 1) <<< ((x8).toNat)) - (q1w16 1))), (8, .i x8), (22, .bool (decide ((lZ x7) > (0 : Int))))], [], [], 0⟩ trivial ?_
   refine AWp.cond (b := (decide ((lZ x7) > (0 : Int)))) (by kernel_rfl) (fun hc2 => ?_) (fun hc2 => ?_)
   ·
    replace h := ite_tb hc2 h
    obtain ⟨ob2p, h⟩ := chk_some h
    have ob2 : 0 ≤ (0 : Int) ∧ (0 : Int) < (((x7).length : Nat) : Int) := ⟨by omega, ob2p⟩
    obtain ⟨ob3p, h⟩ := chk_some h
    have ob3 : -9223372036854775808 ≤ (((x7.getD 0 0#16).toNat : Nat) : Int) ∧ (((x7.getD 0 0#16).toNat : Nat) : Int) ≤ 9223372036854775807 := ⟨by omega, ob3p⟩
    obtain ⟨ob4p, h⟩ := chk_some h
    have ob4 : 0 ≤ (((x7.getD 0 0#16).toNat : Nat) : Int) ∧ 1 ≤ x8 := ⟨by omega, ob4p⟩
    obtain ⟨ob5, h⟩ := chk_some h
    refine q1rr [] [] ⟨64, [(7, .b16 (((q1w16 1) <<< ((x8).toNat)) - (q1w16 1))), (8, .i ((1 : Int) + ((((x7.getD 0 0#16).toNat : Nat) : Int) % x8)))], [], [], 0⟩ (an4 ob2 ob3 ob4 ob5) ?_
    exact jN (((1 : Int) + ((((x7.getD 0 0#16).toNat : Nat) : Int) % x8))) (Le.mk rfl rfl ⟨.refl _, .refl _, trivial⟩ trivial) h
   ·
    replace h := ite_fb hc2 h
    refine AWp.skip ?_
    exact jN (x8) (Le.mk rfl rfl ⟨.refl _, .refl _, trivial⟩ trivial) h
  ·
   rintro i9 h
   replace h := (congrFun hK1 _).symm.trans h
   refine AWp.seq ?_
   obtain ⟨r10, hr10, h⟩ := bind_ok h
   refine q1rr [] [(2, ⟨[.b16 (((q1w16 1) <<< ((x8).toNat)) - (q1w16 1)), .i i9], [], [], [(6001, q1bW_32 r10)], .own 6001, [6001], [], []⟩)] ⟨64, [(6, .own 6001)], [(6001, q1bW_32 r10)], [], 0⟩ (an1 (cpT (Spec1.ren (swapN 3000 6001) (swapN_inv 3000 6001) rfl (f102_ok _ _ _ hr10)))) ?_
   refine tN ?_
   refine AWp.le (Le.trans (Le.ren (swapN 6001 3000) (swapN_inv 6001 3000) rfl) (Le.mk (s' := ⟨64, [(6, .own 3000)], [(3000, q1bW_32 r10)], [], 0⟩) rfl rfl ⟨.refl _, trivial⟩ ⟨⟨_, rfl, .refl _⟩, trivial⟩)) ?_
   have hret := Option.some.inj h
   subst hret
   refine AWp.le (Le.mk (s' := ⟨64, [(6, .own 3000)], [(3000, q1bW_32 r10)], [], 0⟩) rfl rfl ⟨.refl _, trivial⟩ ⟨⟨_, rfl, .refl _⟩, trivial⟩) ?_
   refine AWp.ret ?_
   refine tR ?_
   exact bR _ rfl ⟨rfl, rfl⟩ rfl
 ·
  replace h := ite_fb hc1 h
  refine AWp.skip ?_
  refine tN ?_
  refine q1rq [] [] ⟨64, [(1, q1aW x7), (7, .b16 (((q1w16 1) <<< ((x8).toNat)) - (q1w16 1))), (9, .nils)], [], [], 0⟩ trivial ?_
  obtain ⟨K2, hK2, h⟩ := jn_some h
  refine AWp.join (α := List (BitVec 16)) (fun (l14 : List (BitVec 16)) => ⟨64, [(7, .b16 (((q1w16 1) <<< ((x8).toNat)) - (q1w16 1))), (9, .own 5009)], [(5009, q1bW_32 l14)], [], 0⟩) (fun x => K2 x = some r) ?_ ?_
  ·
   refine q1rq [] [] ⟨64, [(1, q1aW x7), (7, .b16 (((q1w16 1) <<< ((x8).toNat)) - (q1w16 1))), (9, .nils), (10, .i (0 : Int))], [], [], 0⟩ trivial ?_
   refine AWp.block ?_
   refine AWp.loopL (α := Nat × (Nat × List (BitVec 16))) (fun x => match x with | (_, n11, l12) => ⟨64, (f72z0 x7 x8 n11), [(5009, q1bW_32 l12)], [], 0⟩) (fun x => f72_L0 x7 x8 K2 x.1 x.2 = some r) (fun x => x.1) (FUEL, 0, []) (Le.trans (Le.trans (Le.nilOwn 9 5009 32 1 (encF eW 0#16 []) rfl rfl (Nat.le_of_ble_eq_true rfl)) (Le.mk (s' := ⟨64, [(1, q1aW x7), (7, .b16 (((q1w16 1) <<< ((x8).toNat)) - (q1w16 1))), (9, .own 5009), (10, .i (0 : Int))], [(5009, q1bW_32 [])], [], 0⟩) rfl rfl ⟨.refl _, .refl _, .refl _, .refl _, trivial⟩ ⟨⟨_, rfl, .refl _⟩, trivial⟩)) (Le.mk (s' := ⟨64, [(1, q1aW x7), (7, .b16 (((q1w16 1) <<< ((x8).toNat)) - (q1w16 1))), (9, .own 5009), (10, .i (0 : Int))], [(5009, q1bW_32 [])], [], 0⟩) rfl rfl ⟨.refl _, .refl _, .refl _, .refl _, trivial⟩ ⟨⟨_, rfl, .refl _⟩, trivial⟩)) h ?_
   rintro ⟨k0, n11, l12⟩ h
   cases k0 with
   | zero => exact nomatch (show (none : Option (List (BitVec 16))) = some r from h)
   | succ k0 =>
   obtain ⟨C0, hC0⟩ : ∃ C, C = f72_L0 x7 x8 K2 k0 := ⟨_, rfl⟩
   replace h := (f72_L0.eq_2 ..).symm.trans h
   try rw [← hC0] at h
   refine AWp.seq ?_
   refine AWp.seq ?_
   have ob6 := idA (((decide ((n11 : Int) < (lZ x7))) == true) = true)
   have ob7 := bqA (decide ((n11 : Int) < (lZ x7))) true
   refine q1rr [] [] ⟨64, [(1, q1aW x7), (7, .b16 (((q1w16 1) <<< ((x8).toNat)) - (q1w16 1))), (9, .own 5009), (10, .i (n11 : Int)), (40, .bool ((decide ((n11 : Int) < (lZ x7))) && (decide ((n11 : Int) < (6 : Int)))))], [(5009, q1bW_32 l12)], [], 0⟩ (an2 (an1 ob6) ob7) ?_
   refine tN ?_
   refine AWp.cond (b := ((decide ((n11 : Int) < (lZ x7))) && (decide ((n11 : Int) < (6 : Int))))) (by kernel_rfl) (fun hc3 => ?_) (fun hc3 => ?_)
   ·
    replace h := ite_tb hc3 h
    refine AWp.skip ?_
    refine tN ?_
    obtain ⟨K3, hK3, h⟩ := jn_some h
    refine AWp.join (α := List (BitVec 16)) (fun (l13 : List (BitVec 16)) => ⟨64, (f72z1 x7 x8 n11), [(54, q1bW_32 l13)], [], 0⟩) (fun x => K3 x = some r) ?_ ?_
    ·
     refine AWp.block ?_
     refine AWp.seq ?_
     obtain ⟨ob8p, h⟩ := chk_some h
     have ob8 : 0 ≤ (n11 : Int) ∧ (n11 : Int) < (((x7).length : Nat) : Int) := ⟨by omega, ob8p⟩
     refine q1rr [] [] ⟨64, [(1, q1aW x7), (7, .b16 (((q1w16 1) <<< ((x8).toNat)) - (q1w16 1))), (9, .own 5009), (10, .i (n11 : Int)), (11, .b16 ((x7.getD n11 0#16) &&& (((q1w16 1) <<< ((x8).toNat)) - (q1w16 1))))], [(5009, q1bW_32 l12)], [], 0⟩ (an1 ob8) ?_
     refine tN ?_
     refine q1rq [] [] ⟨64, [(1, q1aW x7), (7, .b16 (((q1w16 1) <<< ((x8).toNat)) - (q1w16 1))), (9, .own 5009), (10, .i (n11 : Int)), (11, .b16 ((x7.getD n11 0#16) &&& (((q1w16 1) <<< ((x8).toNat)) - (q1w16 1)))), (50, .bool (!(((x7.getD n11 0#16) &&& (((q1w16 1) <<< ((x8).toNat)) - (q1w16 1))) == (q1w16 0))))], [(5009, q1bW_32 l12)], [], 0⟩ trivial ?_
     refine AWp.cond (b := (!(((x7.getD n11 0#16) &&& (((q1w16 1) <<< ((x8).toNat)) - (q1w16 1))) == (q1w16 0)))) (by kernel_rfl) (fun hc4 => ?_) (fun hc4 => ?_)
     ·
      replace h := ite_tb hc4 h
      obtain ⟨ob9, h⟩ := chk_some h
      refine q1rr [] [] ⟨64, (f72z0 x7 x8 n11), [(5009, .rows 32 1 ((l12).length + 1) (appF (l12).length (encF eW 0#16 l12) (lstF 1 [.b16 ((x7.getD n11 0#16) &&& (((q1w16 1) <<< ((x8).toNat)) - (q1w16 1)))])))], [], 0⟩ (an1 ob9) ?_
      refine kN ?_
      exact jN ((l12 ++ [((x7.getD n11 0#16) &&& (((q1w16 1) <<< ((x8).toNat)) - (q1w16 1)))])) (Le.trans (Le.mk (s' := ⟨64, (f72z0 x7 x8 n11), [(5009, q1bW_32 (l12 ++ [((x7.getD n11 0#16) &&& (((q1w16 1) <<< ((x8).toNat)) - (q1w16 1)))]))], [], 0⟩) rfl rfl ⟨.refl _, .refl _, .refl _, .refl _, trivial⟩ ⟨⟨_, rfl, (BLe.of (RL.app (RL.self _) (RL.lst (enc := eW) [((x7.getD n11 0#16) &&& (((q1w16 1) <<< ((x8).toNat)) - (q1w16 1)))] rfl rfl (fun _ => rfl))))⟩, trivial⟩) (Le.trans (Le.trans (Le.ren (swapN 5009 54) (swapN_inv 5009 54) rfl) (Le.mk (s' := ⟨64, (f72z1 x7 x8 n11), [(54, q1bW_32 (l12 ++ [((x7.getD n11 0#16) &&& (((q1w16 1) <<< ((x8).toNat)) - (q1w16 1)))]))], [], 0⟩) rfl rfl ⟨.refl _, .refl _, .refl _, .refl _, trivial⟩ ⟨⟨_, rfl, .refl _⟩, trivial⟩)) (Le.mk rfl rfl ⟨.refl _, .refl _, .refl _, .refl _, trivial⟩ ⟨⟨_, rfl, .refl _⟩, trivial⟩))) h
     ·
      replace h := ite_fb hc4 h
      refine AWp.skip ?_
      refine kN ?_
      exact jN (l12) (Le.trans (Le.trans (Le.ren (swapN 5009 54) (swapN_inv 5009 54) rfl) (Le.mk (s' := ⟨64, [(1, q1aW x7), (7, .b16 (((q1w16 1) <<< ((x8).toNat)) - (q1w16 1))), (9, .own 54), (10, .i (n11 : Int)), (11, .b16 ((x7.getD n11 0#16) &&& (((q1w16 1) <<< ((x8).toNat)) - (q1w16 1)))), (50, .bool (!(((x7.getD n11 0#16) &&& (((q1w16 1) <<< ((x8).toNat)) - (q1w16 1))) == (q1w16 0))))], [(54, q1bW_32 l12)], [], 0⟩) rfl rfl ⟨.refl _, .refl _, .refl _, .refl _, .refl _, .refl _, trivial⟩ ⟨⟨_, rfl, .refl _⟩, trivial⟩)) (Le.mk rfl rfl ⟨.refl _, .refl _, .refl _, .refl _, trivial⟩ ⟨⟨_, rfl, .refl _⟩, trivial⟩)) h
    ·
     rintro l13 h
     replace h := (congrFun hK3 _).symm.trans h
     obtain ⟨ob10p, h⟩ := chk_some h
     have ob10 : -9223372036854775808 ≤ ((n11 : Int) + (1 : Int)) ∧ ((n11 : Int) + (1 : Int)) ≤ 9223372036854775807 := ⟨by omega, ob10p⟩
     refine q1rr [] [] ⟨64, [(1, q1aW x7), (7, .b16 (((q1w16 1) <<< ((x8).toNat)) - (q1w16 1))), (9, .own 54), (10, .i (((n11 + 1) : Nat) : Int))], [(54, q1bW_32 l13)], [], 0⟩ (an1 ob10) ?_
     rw [hC0] at h
     exact lN (_, (n11 + 1), l13) (Le.trans (Le.trans (Le.ren (swapN 54 5009) (swapN_inv 54 5009) rfl) (Le.mk (s' := ⟨64, [(1, q1aW x7), (7, .b16 (((q1w16 1) <<< ((x8).toNat)) - (q1w16 1))), (9, .own 5009), (10, .i (((n11 + 1) : Nat) : Int))], [(5009, q1bW_32 l13)], [], 0⟩) rfl rfl ⟨.refl _, .refl _, .refl _, .refl _, trivial⟩ ⟨⟨_, rfl, .refl _⟩, trivial⟩)) (Le.mk rfl rfl ⟨.refl _, .refl _, .refl _, .refl _, trivial⟩ ⟨⟨_, rfl, .refl _⟩, trivial⟩)) h (Nat.lt_succ_self _)
   ·
    replace h := ite_fb hc3 h
    refine AWp.exit ?_
    refine tE ?_
    refine tE ?_
    refine kS ?_
    exact jN (l12) (Le.mk rfl rfl ⟨.refl _, .refl _, trivial⟩ ⟨⟨_, rfl, .refl _⟩, trivial⟩) h
  ·
   rintro l14 h
   replace h := (congrFun hK2 _).symm.trans h
   obtain ⟨K4, hK4, h⟩ := jn_some h
   refine AWp.join (α := List (BitVec 16)) (fun (l15 : List (BitVec 16)) => ⟨64, [(9, .own 5009)], [(5009, q1bW_32 l15)], [], 0⟩) (fun x => K4 x = some r) ?_ ?_
   ·
    refine q1rq [] [] ⟨64, [(7, .b16 (((q1w16 1) <<< ((x8).toNat)) - (q1w16 1))), (9, .own 5009), (57, .bool ((lZ l14) == (0 : Int)))], [(5009, q1bW_32 l14)], [], 0⟩ trivial ?_
    refine AWp.cond (b := ((lZ l14) == (0 : Int))) (by kernel_rfl) (fun hc5 => ?_) (fun hc5 => ?_)
    ·
     replace h := ite_tb hc5 h
     obtain ⟨ob11, h⟩ := chk_some h
     refine q1rr [] [] ⟨64, [(9, .own 5009)], [(5009, .rows 32 1 ((l14).length + 1) (appF (l14).length (encF eW 0#16 l14) (lstF 1 [.b16 (((q1w16 1) <<< ((x8).toNat)) - (q1w16 1))])))], [], 0⟩ (an1 ob11) ?_
     exact jN ((l14 ++ [(((q1w16 1) <<< ((x8).toNat)) - (q1w16 1))])) (Le.trans (Le.mk (s' := ⟨64, [(9, .own 5009)], [(5009, q1bW_32 (l14 ++ [(((q1w16 1) <<< ((x8).toNat)) - (q1w16 1))]))], [], 0⟩) rfl rfl ⟨.refl _, trivial⟩ ⟨⟨_, rfl, (BLe.of (RL.app (RL.self _) (RL.lst (enc := eW) [(((q1w16 1) <<< ((x8).toNat)) - (q1w16 1))] rfl rfl (fun _ => rfl))))⟩, trivial⟩) (Le.mk rfl rfl ⟨.refl _, trivial⟩ ⟨⟨_, rfl, .refl _⟩, trivial⟩)) h
    ·
     replace h := ite_fb hc5 h
     refine AWp.skip ?_
     exact jN (l14) (Le.mk rfl rfl ⟨.refl _, trivial⟩ ⟨⟨_, rfl, .refl _⟩, trivial⟩) h
   ·
    rintro l15 h
    replace h := (congrFun hK4 _).symm.trans h
    refine AWp.seq ?_
    obtain ⟨r16, hr16, h⟩ := bind_ok h
    refine q1rr [] [(1, ⟨[q1aW l15], [], [], [(6002, q1bW_32 r16)], .own 6002, [6002], [5009], []⟩)] ⟨64, [(6, .own 6002)], [(6002, q1bW_32 r16)], [], 0⟩ (an1 (cpL (c := true) [(5009, q1bW_32 l15)] [5009] [.own 5009] (fun _ => (Spec1.ren (swapN 3000 6002) (swapN_inv 3000 6002) rfl (f103_ok _ _ hr16))) (fun _ => ⟨.refl _, trivial⟩) (.inr ⟨rfl, ⟨(fun _ _ _ _ => eW_flat _ _), trivial⟩⟩))) ?_
    refine tN ?_
    refine AWp.le (Le.trans (Le.ren (swapN 6002 3000) (swapN_inv 6002 3000) rfl) (Le.mk (s' := ⟨64, [(6, .own 3000)], [(3000, q1bW_32 r16)], [], 0⟩) rfl rfl ⟨.refl _, trivial⟩ ⟨⟨_, rfl, .refl _⟩, trivial⟩)) ?_
    have hret := Option.some.inj h
    subst hret
    refine AWp.le (Le.mk (s' := ⟨64, [(6, .own 3000)], [(3000, q1bW_32 r16)], [], 0⟩) rfl rfl ⟨.refl _, trivial⟩ ⟨⟨_, rfl, .refl _⟩, trivial⟩) ?_
    refine AWp.ret ?_
    exact bR _ rfl ⟨rfl, rfl⟩ rfl
def f168 (x1 : BitVec 16) (x2 : BitVec 16) : Option (BitVec 16) :=
 some (x1 ||| x2)
theorem f168_ok  (x1 : BitVec 16) (x2 : BitVec 16) (r : BitVec 16) (h : f168 x1 x2 = some r)  : Spec1 Tryz.prog 168 [] [] [] [.agg [.b16 x1, .b16 x2]] (.b16 r) [] := by
 unfold f168 at h
 refine Spec1.body 0 _ _ Tryz.func168 rfl Tryz.ntmps168 rfl rfl ?_
 refine q1rq [] [] ⟨8, [(1, .ptr 1 0)], [(1, .cells 186 [.b16 x1, .b16 x2])], [], 0⟩ trivial ?_
 refine q1rq [] [] ⟨8, [(2, .b16 (x1 ||| x2))], [], [], 0⟩ trivial ?_
 have hret := Option.some.inj h
 subst hret
 refine AWp.le (Le.mk (s' := ⟨8, [(2, .b16 (x1 ||| x2))], [], [], 0⟩) rfl rfl ⟨.refl _, trivial⟩ trivial) ?_
 refine AWp.ret ?_
 exact bR _ rfl ⟨rfl, rfl⟩ rfl
def f135 (x1 : BitVec 16) (x2 : BitVec 16) (x3 : BitVec 16) (x4 : BitVec 16) : Option Bool :=
 (f131 x3 x1).bind fun (r5 : Bool) =>
 optc (r5 == true) (f168 x3 x4) fun (r6 : BitVec 16) =>
 optc (r5 == true) (f168 x1 x2) fun (r7 : BitVec 16) =>
 optc (r5 == true) (f131 r6 r7) fun (r8 : Bool) =>
 some (r5 && r8)
theorem f135_ok  (x1 : BitVec 16) (x2 : BitVec 16) (x3 : BitVec 16) (x4 : BitVec 16) (r : Bool) (h : f135 x1 x2 x3 x4 = some r)  : Spec1 Tryz.prog 135 [] [] [] [.agg [.b16 x1, .b16 x2], .agg [.b16 x3, .b16 x4]] (.bool r) [] := by
 unfold f135 at h
 refine Spec1.body 0 _ _ Tryz.func135 rfl Tryz.ntmps135 rfl rfl ?_
 refine q1rq [] [] ⟨17, [(2, .ptr 2 0), (3, .ptr 3 0)], [(2, .cells 186 [.b16 x1, .b16 x2]), (3, .cells 186 [.b16 x3, .b16 x4])], [], 0⟩ trivial ?_
 refine AWp.seq ?_
 obtain ⟨r5, hr5, h⟩ := bind_ok h
 obtain ⟨r6, hr6, h⟩ := optc_some h
 obtain ⟨r7, hr7, h⟩ := optc_some h
 obtain ⟨r8, hr8, h⟩ := optc_some h
 have ob0 := idA ((r5 == true) = true)
 have ob1 := idA ((r5 == true) = true)
 have ob2 := idA ((r5 == true) = true)
 have ob3 := idA ((r5 == true) = true)
 have ob4 := bqA r5 true
 refine q1rr [] [(4, ⟨[.b16 x3, .b16 x1], [], [], [], .bool r5, [], [], []⟩), (7, ⟨[.agg [.b16 x3, .b16 x4]], [], [], [], .b16 r6, [], [], []⟩), (9, ⟨[.agg [.b16 x1, .b16 x2]], [], [], [], .b16 r7, [], [], []⟩), (10, ⟨[.b16 r6, .b16 r7], [], [], [], .bool r8, [], [], []⟩)] ⟨17, [(4, .bool (r5 && r8))], [], [], 0⟩ (an5 (cpT (f131_ok _ _ _ hr5)) (And.intro (cpC fun hc => (f168_ok _ _ _ (hr6 hc))) (an1 ob0)) (And.intro (cpC fun hc => (f168_ok _ _ _ (hr7 hc))) (an1 ob1)) (And.intro (cpC fun hc => (f131_ok _ _ _ (hr8 hc))) (an2 ob2 ob3)) ob4) ?_
 refine tN ?_
 have hret := Option.some.inj h
 subst hret
 refine AWp.le (Le.mk (s' := ⟨17, [(4, .bool (r5 && r8))], [], [], 0⟩) rfl rfl ⟨.refl _, trivial⟩ trivial) ?_
 refine AWp.ret ?_
 exact bR _ rfl ⟨rfl, rfl⟩ rfl
abbrev f169z0 (r3 : Int) (r4 : Int) := ((decide (r3 < r4)) == false)
def f169 (x1 : BitVec 16) (x2 : BitVec 16) : Option Int :=
 if (x1 == x2) then (
 some (0 : Int)
 ) else (
 (f132 x1).bind fun (r3 : Int) =>
 (f132 x2).bind fun (r4 : Int) =>
 optc ((decide (r3 < r4)) == false) (f132 x1) fun (r5 : Int) =>
 optc ((decide (r3 < r4)) == false) (f132 x2) fun (r6 : Int) =>
 chk (((decide (r3 < r4)) == false) = true → ((decide (r3 < r4)) == false) = true → (r5 == r6) = true → (((decide (r3 < r4)) == false) && ((r5 == r6) == true)) = true) <|
 if ((decide (r3 < r4)) || ((r5 == r6) && (decide (x1.toNat < x2.toNat)))) then (
 some (-1 : Int)
 ) else (
 some (1 : Int)
 )
 )
theorem f169_ok  (x1 : BitVec 16) (x2 : BitVec 16) (r : Int) (h : f169 x1 x2 = some r)  : Spec1 Tryz.prog 169 [] [] [] [.b16 x1, .b16 x2] (.int .i64 r) [] := by
 unfold f169 at h
 refine Spec1.body 0 _ _ Tryz.func169 rfl Tryz.ntmps169 rfl rfl ?_
 refine q1rq [] [] ⟨25, [(0, .b16 x1), (1, .b16 x2)], [], [], 0⟩ trivial ?_
 refine AWp.seq ?_
 refine q1rq [] [] ⟨25, [(0, .b16 x1), (1, .b16 x2), (7, .bool (x1 == x2))], [], [], 0⟩ trivial ?_
 refine AWp.cond (b := (x1 == x2)) (by kernel_rfl) (fun hc1 => ?_) (fun hc1 => ?_)
 ·
  replace h := ite_tb hc1 h
  refine q1rq [] [] ⟨25, [(4, .i (0 : Int))], [], [], 0⟩ trivial ?_
  have hret := Option.some.inj h
  subst hret
  refine AWp.le (Le.mk (s' := ⟨25, [(4, .i (0 : Int))], [], [], 0⟩) rfl rfl ⟨.refl _, trivial⟩ trivial) ?_
  refine AWp.ret ?_
  refine tR ?_
  exact bR _ rfl ⟨rfl, rfl⟩ rfl
 ·
  replace h := ite_fb hc1 h
  refine AWp.skip ?_
  refine tN ?_
  refine AWp.seq ?_
  refine AWp.seq ?_
  obtain ⟨r3, hr3, h⟩ := bind_ok h
  obtain ⟨r4, hr4, h⟩ := bind_ok h
  obtain ⟨r5, hr5, h⟩ := optc_some h
  obtain ⟨r6, hr6, h⟩ := optc_some h
  have ob0 := idA ((f169z0 r3 r4) = true)
  have ob1 := idA ((f169z0 r3 r4) = true)
  have ob2 := idA ((f169z0 r3 r4) = true)
  have ob3 := idA ((f169z0 r3 r4) = true)
  have ob4 := idA ((f169z0 r3 r4) = true)
  have ob5 := idA (((f169z0 r3 r4) && ((r5 == r6) == true)) = true)
  have ob6 := idA (((f169z0 r3 r4) && ((r5 == r6) == true)) = true)
  obtain ⟨ob7, h⟩ := chk_some h
  have ob8 := idA ((f169z0 r3 r4) = true)
  have ob9 : true = true → (decide (r3 < r4)) = false → (f169z0 r3 r4) = true := fun _ h => beq_iff_eq.2 h
  refine q1rr [] [(1, ⟨[.b16 x1], [], [], [], .i r3, [], [], []⟩), (3, ⟨[.b16 x2], [], [], [], .i r4, [], [], []⟩), (7, ⟨[.b16 x1], [], [], [], .i r5, [], [], []⟩), (9, ⟨[.b16 x2], [], [], [], .i r6, [], [], []⟩)] ⟨25, [(24, .bool ((decide (r3 < r4)) || ((r5 == r6) && (decide (x1.toNat < x2.toNat)))))], [], [], 0⟩ (ac6 (cpT (f132_ok _ _ hr3)) (cpT (f132_ok _ _ hr4)) (And.intro (cpC fun hc => (f132_ok _ _ (hr5 hc))) (an1 ob0)) (And.intro (cpC fun hc => (f132_ok _ _ (hr6 hc))) (an1 ob1)) (an2 ob2 ob3) (an1 ob4) (an3 (an2 ob5 ob6) (And.intro ob7 (an1 ob8)) ob9)) ?_
  refine tN ?_
  refine AWp.cond (b := ((decide (r3 < r4)) || ((r5 == r6) && (decide (x1.toNat < x2.toNat))))) (by kernel_rfl) (fun hc2 => ?_) (fun hc2 => ?_)
  ·
   replace h := ite_tb hc2 h
   refine q1rq [] [] ⟨25, [(4, .i (-1 : Int))], [], [], 0⟩ trivial ?_
   have hret := Option.some.inj h
   subst hret
   refine AWp.le (Le.mk (s' := ⟨25, [(4, .i (-1 : Int))], [], [], 0⟩) rfl rfl ⟨.refl _, trivial⟩ trivial) ?_
   refine AWp.ret ?_
   refine tR ?_
   exact bR _ rfl ⟨rfl, rfl⟩ rfl
  ·
   replace h := ite_fb hc2 h
   refine AWp.skip ?_
   refine tN ?_
   refine q1rq [] [] ⟨25, [(4, .i (1 : Int))], [], [], 0⟩ trivial ?_
   have hret := Option.some.inj h
   subst hret
   refine AWp.le (Le.mk (s' := ⟨25, [(4, .i (1 : Int))], [], [], 0⟩) rfl rfl ⟨.refl _, trivial⟩ trivial) ?_
   refine AWp.ret ?_
   exact bR _ rfl ⟨rfl, rfl⟩ rfl
def f136 (x1 : BitVec 16) (x2 : BitVec 16) (x3 : BitVec 16) (x4 : BitVec 16) : Option Int :=
 (f169 x1 x3).bind fun (r5 : Int) =>
 if (r5 != (0 : Int)) then (
 some r5
 ) else (
 (f169 x2 x4).bind fun (r6 : Int) =>
 some r6
 )
theorem f136_ok  (x1 : BitVec 16) (x2 : BitVec 16) (x3 : BitVec 16) (x4 : BitVec 16) (r : Int) (h : f136 x1 x2 x3 x4 = some r)  : Spec1 Tryz.prog 136 [] [] [] [.agg [.b16 x1, .b16 x2], .agg [.b16 x3, .b16 x4]] (.int .i64 r) [] := by
 unfold f136 at h
 refine Spec1.body 0 _ _ Tryz.func136 rfl Tryz.ntmps136 rfl rfl ?_
 refine q1rq [] [] ⟨19, [(2, .ptr 2 0), (3, .ptr 3 0)], [(2, .cells 186 [.b16 x1, .b16 x2]), (3, .cells 186 [.b16 x3, .b16 x4])], [], 0⟩ trivial ?_
 refine AWp.seq ?_
 refine AWp.seq ?_
 obtain ⟨r5, hr5, h⟩ := bind_ok h
 refine q1rr [] [(4, ⟨[.b16 x1, .b16 x3], [], [], [], .i r5, [], [], []⟩)] ⟨19, [(2, .ptr 2 0), (3, .ptr 3 0), (5, .i r5)], [(2, .cells 186 [.b16 x1, .b16 x2]), (3, .cells 186 [.b16 x3, .b16 x4])], [], 0⟩ (an1 (cpT (f169_ok _ _ _ hr5))) ?_
 refine tN ?_
 refine q1rq [] [] ⟨19, [(2, .ptr 2 0), (3, .ptr 3 0), (5, .i r5), (12, .bool (r5 != (0 : Int)))], [(2, .cells 186 [.b16 x1, .b16 x2]), (3, .cells 186 [.b16 x3, .b16 x4])], [], 0⟩ trivial ?_
 refine AWp.cond (b := (r5 != (0 : Int))) (by kernel_rfl) (fun hc1 => ?_) (fun hc1 => ?_)
 ·
  replace h := ite_tb hc1 h
  refine q1rq [] [] ⟨19, [(4, .i r5)], [], [], 0⟩ trivial ?_
  have hret := Option.some.inj h
  subst hret
  refine AWp.le (Le.mk (s' := ⟨19, [(4, .i r5)], [], [], 0⟩) rfl rfl ⟨.refl _, trivial⟩ trivial) ?_
  refine AWp.ret ?_
  refine tR ?_
  exact bR _ rfl ⟨rfl, rfl⟩ rfl
 ·
  replace h := ite_fb hc1 h
  refine AWp.skip ?_
  refine tN ?_
  refine AWp.seq ?_
  obtain ⟨r6, hr6, h⟩ := bind_ok h
  refine q1rr [] [(4, ⟨[.b16 x2, .b16 x4], [], [], [], .i r6, [], [], []⟩)] ⟨19, [(4, .i r6)], [], [], 0⟩ (an1 (cpT (f169_ok _ _ _ hr6))) ?_
  refine tN ?_
  have hret := Option.some.inj h
  subst hret
  refine AWp.le (Le.mk (s' := ⟨19, [(4, .i r6)], [], [], 0⟩) rfl rfl ⟨.refl _, trivial⟩ trivial) ?_
  refine AWp.ret ?_
  exact bR _ rfl ⟨rfl, rfl⟩ rfl
def f104_L1 (x1 : List Tq1) (n2 : Nat) (K3 : Bool → Option (List Tq1)) : Nat → (Bool × Nat) → Option (List Tq1)
 | 0, _ => none
 | k + 1, (b4, n5) =>
  if (decide ((n5 : Int) < (((x1).length : Nat) : Int))) then (
  jn (fun (b7 : Bool) =>
  chk (((n5 : Int) + (1 : Int)) ≤ 9223372036854775807) <|
  (f104_L1 x1 n2 K3 k) (b7, (n5 + 1))
  ) fun (K4 : Bool → Option (List Tq1)) =>
  (f135 ((x1.getD n5 (default : Tq1)).1) ((x1.getD n5 (default : Tq1)).2) ((x1.getD n2 (default : Tq1)).1) ((x1.getD n2 (default : Tq1)).2)).bind fun (r6 : Bool) =>
  chk ((n5 : Int) < (((x1).length : Nat) : Int)) <|
  chk ((n2 : Int) < (((x1).length : Nat) : Int)) <|
  chk ((r6 == true) = true → 0 ≤ (n5 : Int) ∧ (n5 : Int) < (((x1).length : Nat) : Int)) <|
  chk ((r6 == true) = true → 0 ≤ (n2 : Int) ∧ (n2 : Int) < (((x1).length : Nat) : Int)) <|
  chk ((r6 == true) = true → (r6 == true) = true → (!((((x1.getD n5 (default : Tq1)).1) == ((x1.getD n2 (default : Tq1)).1)) && ((((x1.getD n5 (default : Tq1)).2) == ((x1.getD n2 (default : Tq1)).2)) && true))) = false → ((r6 == true) && ((!((((x1.getD n5 (default : Tq1)).1) == ((x1.getD n2 (default : Tq1)).1)) && ((((x1.getD n5 (default : Tq1)).2) == ((x1.getD n2 (default : Tq1)).2)) && true))) == false)) = true) <|
  if (r6 && ((!((((x1.getD n5 (default : Tq1)).1) == ((x1.getD n2 (default : Tq1)).1)) && ((((x1.getD n5 (default : Tq1)).2) == ((x1.getD n2 (default : Tq1)).2)) && true))) || (decide ((n5 : Int) < (n2 : Int))))) then (
  K4 false
  ) else (
  K4 b4
  )
  ) else (
  K3 b4
  )
def f104_L2 (x1 : List Tq1) (n2 : Nat) (K5 : (Nat × (List Tq1)) → Option (List Tq1)) : Nat → (Nat × (List Tq1)) → Option (List Tq1)
 | 0, _ => none
 | k + 1, (n10, l11) =>
  optc ((decide ((n10 : Int) < (((l11).length : Nat) : Int))) == true) (f136 ((l11.getD n10 (default : Tq1)).1) ((l11.getD n10 (default : Tq1)).2) ((x1.getD n2 (default : Tq1)).1) ((x1.getD n2 (default : Tq1)).2)) fun (r12 : Int) =>
  chk (((decide ((n10 : Int) < (((l11).length : Nat) : Int))) == true) = true → 0 ≤ (n10 : Int) ∧ (n10 : Int) < (((l11).length : Nat) : Int)) <|
  chk (((decide ((n10 : Int) < (((l11).length : Nat) : Int))) == true) = true → n10 < (l11).length) <|
  chk (((decide ((n10 : Int) < (((l11).length : Nat) : Int))) == true) = true → 0 ≤ (n2 : Int) ∧ (n2 : Int) < (((x1).length : Nat) : Int)) <|
  if ((decide ((n10 : Int) < (((l11).length : Nat) : Int))) && (decide (r12 < (0 : Int)))) then (
  chk (((n10 : Int) + (1 : Int)) ≤ 9223372036854775807) <|
  (f104_L2 x1 n2 K5 k) ((n10 + 1), l11)
  ) else (
  K5 (n10, l11)
  )
def f104_L0 (x1 : List Tq1) (K1 : (List Tq1) → Option (List Tq1)) : Nat → (Nat × (List Tq1)) → Option (List Tq1)
 | 0, _ => none
 | k + 1, (n2, l3) =>
  if (decide ((n2 : Int) < (((x1).length : Nat) : Int))) then (
  jn (fun (l9 : List Tq1) =>
  chk (((n2 : Int) + (1 : Int)) ≤ 9223372036854775807) <|
  (f104_L0 x1 K1 k) ((n2 + 1), l9)
  ) fun (K2 : (List Tq1) → Option (List Tq1)) =>
  jn (fun (b8 : Bool) =>
  if (!b8) then (
  K2 l3
  ) else (
  jn (fun ((n13, l14) : Nat × (List Tq1)) =>
  chk ((n13 : Int) ≤ (((l14).length : Nat) : Int)) <|
  chk ((0 + n13) * 4 ≤ 140737488355328) <|
  chk ((n2 : Int) < (((x1).length : Nat) : Int)) <|
  chk ((((l14.take n13)).length + 1) * 4 ≤ 140737488355328) <|
  chk ((n13 : Int) ≤ (((l14).length : Nat) : Int)) <|
  chk (((((l14.take n13) ++ [((x1.getD n2 (default : Tq1)).1, (x1.getD n2 (default : Tq1)).2)])).length + ((l14).length - n13)) * 4 ≤ 140737488355328) <|
  K2 (((l14.take n13) ++ [((x1.getD n2 (default : Tq1)).1, (x1.getD n2 (default : Tq1)).2)]) ++ (l14.drop n13))
  ) fun (K5 : (Nat × (List Tq1)) → Option (List Tq1)) =>
  f104_L2 x1 n2 K5 FUEL (0, l3)
  )
  ) fun (K3 : Bool → Option (List Tq1)) =>
  f104_L1 x1 n2 K3 FUEL (true, 0)
  ) else (
  K1 l3
  )
abbrev f104z0 (x1 : List Tq1) (n2 : Nat) := (x1.getD n2 (default : Tq1))
abbrev f104z1 (l3 : List Tq1) : Heap := [(5003, bL 186 2 eWW (default : Tq1) l3)]
abbrev f104z2 (x1 : List Tq1) (n5 : Nat) (n2 : Nat) := (!((((x1.getD n5 (default : Tq1)).1) == ((f104z0 x1 n2).1)) && ((((x1.getD n5 (default : Tq1)).2) == ((f104z0 x1 n2).2)) && true)))
abbrev f104z3 (x1 : List Tq1) (l14 : List Tq1) (n2 : Nat) (n13 : Nat) : List (Nat × V) := [(0, vL 2 eWW (default : Tq1) x1), (3, vL 2 eWW (default : Tq1) l14), (4, .int .i64 (n2 : Int)), (7, .int .i64 (n13 : Int)), (8, .own 70)]
abbrev f104z4 (x1 : List Tq1) (n2 : Nat) : List (Nat × V) := [(0, vL 2 eWW (default : Tq1) x1), (3, .own 5003), (4, .int .i64 (n2 : Int))]
abbrev f104z5 (l11 : List Tq1) : Heap := [(5003, bL 186 2 eWW (default : Tq1) l11)]
abbrev f104z6 (x1 : List Tq1) (n2 : Nat) : List (Nat × V) := [(0, vL 2 eWW (default : Tq1) x1), (3, .own 70), (4, .int .i64 (n2 : Int))]
abbrev f104z7 := Tq1
def f104 (x1 : List Tq1) : Option (List Tq1) :=
 jn (fun (l15 : List Tq1) =>
 some l15
 ) fun (K1 : (List Tq1) → Option (List Tq1)) =>
 f104_L0 x1 K1 FUEL (0, [])
theorem f104_ok  (x1 : List Tq1) (r : List Tq1) (h : f104 x1 = some r)  : Spec1 Tryz.prog 104 [] [] [] [vL 2 eWW (default : Tq1) x1] (.own 3000) [(3000, bL 186 2 eWW (default : Tq1) r)] := by
 unfold f104 at h
 refine Spec1.body 0 _ _ Tryz.func104 rfl Tryz.ntmps104 rfl rfl ?_
 refine q1rq [] [] ⟨84, [(0, q1aWW x1)], [], [], 0⟩ trivial ?_
 refine q1rq [] [] ⟨84, [(0, q1aWW x1), (3, .nils)], [], [], 0⟩ trivial ?_
 obtain ⟨K1, hK1, h⟩ := jn_some h
 refine AWp.join (α := List (f104z7)) (fun (l15 : List (f104z7)) => ⟨84, [(3, .own 5003)], [(5003, q1bWW_186 l15)], [], 0⟩) (fun x => K1 x = some r) ?_ ?_
 ·
  refine q1rq [] [] ⟨84, [(0, q1aWW x1), (3, .nils), (4, .i (0 : Int))], [], [], 0⟩ trivial ?_
  refine AWp.block ?_
  refine AWp.loopL (α := Nat × (Nat × (List (f104z7)))) (fun x => match x with | (_, n2, l3) => ⟨84, (f104z4 x1 n2), (f104z1 l3), [], 0⟩) (fun x => f104_L0 x1 K1 x.1 x.2 = some r) (fun x => x.1) (FUEL, 0, []) (Le.trans (Le.trans (Le.nilOwn 3 5003 186 2 (encF eWW q1dWW []) rfl rfl (Nat.le_of_ble_eq_true rfl)) (Le.mk (s' := ⟨84, [(0, q1aWW x1), (3, .own 5003), (4, .i (0 : Int))], [(5003, q1bWW_186 [])], [], 0⟩) rfl rfl ⟨.refl _, .refl _, .refl _, trivial⟩ ⟨⟨_, rfl, .refl _⟩, trivial⟩)) (Le.mk (s' := ⟨84, [(0, q1aWW x1), (3, .own 5003), (4, .i (0 : Int))], [(5003, q1bWW_186 [])], [], 0⟩) rfl rfl ⟨.refl _, .refl _, .refl _, trivial⟩ ⟨⟨_, rfl, .refl _⟩, trivial⟩)) h ?_
  rintro ⟨k0, n2, l3⟩ h
  cases k0 with
  | zero => exact nomatch (show (none : Option (List Tq1)) = some r from h)
  | succ k0 =>
  obtain ⟨C0, hC0⟩ : ∃ C, C = f104_L0 x1 K1 k0 := ⟨_, rfl⟩
  replace h := (f104_L0.eq_2 ..).symm.trans h
  try rw [← hC0] at h
  refine AWp.seq ?_
  refine q1rq [] [] ⟨84, [(0, q1aWW x1), (3, .own 5003), (4, .i (n2 : Int)), (12, .bool (decide ((n2 : Int) < (lZ x1))))], (f104z1 l3), [], 0⟩ trivial ?_
  refine AWp.cond (b := (decide ((n2 : Int) < (lZ x1)))) (by kernel_rfl) (fun hc1 => ?_) (fun hc1 => ?_)
  ·
   replace h := ite_tb hc1 h
   refine AWp.skip ?_
   refine tN ?_
   obtain ⟨K2, hK2, h⟩ := jn_some h
   refine AWp.join (α := List (f104z7)) (fun (l9 : List (f104z7)) => ⟨84, (f104z4 x1 n2), [(5003, q1bWW_186 l9)], [], 0⟩) (fun x => K2 x = some r) ?_ ?_
   ·
    refine AWp.block ?_
    refine q1rq [] [] ⟨84, [(0, q1aWW x1), (3, .own 5003), (4, .i (n2 : Int)), (5, .bool true)], (f104z1 l3), [], 0⟩ trivial ?_
    obtain ⟨K3, hK3, h⟩ := jn_some h
    refine AWp.join (α := Bool) (fun (b8 : Bool) => ⟨84, [(0, q1aWW x1), (3, .own 5003), (4, .i (n2 : Int)), (5, .bool b8)], (f104z1 l3), [], 0⟩) (fun x => K3 x = some r) ?_ ?_
    ·
     refine q1rq [] [] ⟨84, [(0, q1aWW x1), (3, .own 5003), (4, .i (n2 : Int)), (5, .bool true), (6, .i (0 : Int))], (f104z1 l3), [], 0⟩ trivial ?_
     refine AWp.block ?_
     refine AWp.loopL (α := Nat × (Bool × Nat)) (fun x => match x with | (_, b4, n5) => ⟨84, [(0, q1aWW x1), (3, .own 5003), (4, .i (n2 : Int)), (5, .bool b4), (6, .i (n5 : Int))], (f104z1 l3), [], 0⟩) (fun x => f104_L1 x1 n2 K3 x.1 x.2 = some r) (fun x => x.1) (FUEL, true, 0) (Le.mk (s' := ⟨84, [(0, q1aWW x1), (3, .own 5003), (4, .i (n2 : Int)), (5, .bool true), (6, .i (0 : Int))], (f104z1 l3), [], 0⟩) rfl rfl ⟨.refl _, .refl _, .refl _, .refl _, .refl _, trivial⟩ ⟨⟨_, rfl, .refl _⟩, trivial⟩) h ?_
     rintro ⟨k1, b4, n5⟩ h
     cases k1 with
     | zero => exact nomatch (show (none : Option (List Tq1)) = some r from h)
     | succ k1 =>
     obtain ⟨C1, hC1⟩ : ∃ C, C = f104_L1 x1 n2 K3 k1 := ⟨_, rfl⟩
     replace h := (f104_L1.eq_2 ..).symm.trans h
     try rw [← hC1] at h
     refine AWp.seq ?_
     refine q1rq [] [] ⟨84, [(0, q1aWW x1), (3, .own 5003), (4, .i (n2 : Int)), (5, .bool b4), (6, .i (n5 : Int)), (18, .bool (decide ((n5 : Int) < (lZ x1))))], (f104z1 l3), [], 0⟩ trivial ?_
     refine AWp.cond (b := (decide ((n5 : Int) < (lZ x1)))) (by kernel_rfl) (fun hc2 => ?_) (fun hc2 => ?_)
     ·
      replace h := ite_tb hc2 h
      refine AWp.skip ?_
      refine tN ?_
      obtain ⟨K4, hK4, h⟩ := jn_some h
      refine AWp.join (α := Bool) (fun (b7 : Bool) => ⟨84, [(0, q1aWW x1), (3, .own 5003), (4, .i (n2 : Int)), (5, .bool b7), (6, .i (n5 : Int))], (f104z1 l3), [], 0⟩) (fun x => K4 x = some r) ?_ ?_
      ·
       refine AWp.block ?_
       refine AWp.seq ?_
       obtain ⟨r6, hr6, h⟩ := bind_ok h
       obtain ⟨ob0p, h⟩ := chk_some h
       have ob0 : 0 ≤ (n5 : Int) ∧ (n5 : Int) < (((x1).length : Nat) : Int) := ⟨by omega, ob0p⟩
       obtain ⟨ob1p, h⟩ := chk_some h
       have ob1 : 0 ≤ (n2 : Int) ∧ (n2 : Int) < (((x1).length : Nat) : Int) := ⟨by omega, ob1p⟩
       obtain ⟨ob2, h⟩ := chk_some h
       have ob3 := idA ((r6 == true) = true)
       have ob4 := idA ((r6 == true) = true)
       have ob5 := idA ((r6 == true) = true)
       obtain ⟨ob6, h⟩ := chk_some h
       have ob7 := idA ((r6 == true) = true)
       have ob8 := idA ((r6 == true) = true)
       have ob9 := idA ((r6 == true) = true)
       have ob10 := idA ((r6 == true) = true)
       have ob11 := idA ((r6 == true) = true)
       have ob12 := idA ((r6 == true) = true)
       have ob13 := idA (((r6 == true) && ((f104z2 x1 n5 n2) == false)) = true)
       have ob14 := idA (((r6 == true) && ((f104z2 x1 n5 n2) == false)) = true)
       obtain ⟨ob15, h⟩ := chk_some h
       have ob16 := idA ((r6 == true) = true)
       have ob17 := bqA r6 true
       refine q1rr [] [(8, ⟨[.agg [.b16 (x1.getD n5 q1dWW).1, .b16 (x1.getD n5 q1dWW).2], .agg [.b16 (f104z0 x1 n2).1, .b16 (f104z0 x1 n2).2]], [], [], [], .bool r6, [], [], []⟩)] ⟨84, [(0, q1aWW x1), (3, .own 5003), (4, .i (n2 : Int)), (5, .bool b4), (6, .i (n5 : Int)), (45, .bool (r6 && ((f104z2 x1 n5 n2) || (decide ((n5 : Int) < (n2 : Int))))))], (f104z1 l3), [], 0⟩ (ac6 ob0 ob1 (cpT (f135_ok _ _ _ _ _ hr6)) (And.intro ob2 (an2 ob3 ob4)) (an1 ob5) (And.intro ob6 (an2 ob7 ob8)) (an6 (an1 ob9) (an2 ob10 ob11) (an1 ob12) (an2 ob13 ob14) (And.intro ob15 (an1 ob16)) ob17)) ?_
       refine tN ?_
       refine AWp.cond (b := (r6 && ((f104z2 x1 n5 n2) || (decide ((n5 : Int) < (n2 : Int)))))) (by kernel_rfl) (fun hc3 => ?_) (fun hc3 => ?_)
       ·
        replace h := ite_tb hc3 h
        refine q1rr [] [] ⟨84, [(0, q1aWW x1), (3, .own 5003), (4, .i (n2 : Int)), (5, .bool false), (6, .i (n5 : Int))], (f104z1 l3), [], 0⟩ trivial ?_
        refine kN ?_
        exact jN (false) (Le.mk rfl rfl ⟨.refl _, .refl _, .refl _, .refl _, .refl _, trivial⟩ ⟨⟨_, rfl, .refl _⟩, trivial⟩) h
       ·
        replace h := ite_fb hc3 h
        refine AWp.skip ?_
        refine kN ?_
        exact jN (b4) (Le.mk rfl rfl ⟨.refl _, .refl _, .refl _, .refl _, .refl _, trivial⟩ ⟨⟨_, rfl, .refl _⟩, trivial⟩) h
      ·
       rintro b7 h
       replace h := (congrFun hK4 _).symm.trans h
       obtain ⟨ob18p, h⟩ := chk_some h
       have ob18 : -9223372036854775808 ≤ ((n5 : Int) + (1 : Int)) ∧ ((n5 : Int) + (1 : Int)) ≤ 9223372036854775807 := ⟨by omega, ob18p⟩
       refine q1rr [] [] ⟨84, [(0, q1aWW x1), (3, .own 5003), (4, .i (n2 : Int)), (5, .bool b7), (6, .i (((n5 + 1) : Nat) : Int))], (f104z1 l3), [], 0⟩ (an1 ob18) ?_
       rw [hC1] at h
       exact lN (_, b7, (n5 + 1)) (Le.mk rfl rfl ⟨.refl _, .refl _, .refl _, .refl _, .refl _, trivial⟩ ⟨⟨_, rfl, .refl _⟩, trivial⟩) h (Nat.lt_succ_self _)
     ·
      replace h := ite_fb hc2 h
      refine AWp.exit ?_
      refine tE ?_
      refine tE ?_
      refine kS ?_
      exact jN (b4) (Le.mk rfl rfl ⟨.refl _, .refl _, .refl _, .refl _, trivial⟩ ⟨⟨_, rfl, .refl _⟩, trivial⟩) h
    ·
     rintro b8 h
     replace h := (congrFun hK3 _).symm.trans h
     refine AWp.seq ?_
     refine q1rq [] [] ⟨84, [(0, q1aWW x1), (3, .own 5003), (4, .i (n2 : Int)), (47, .bool (!b8))], (f104z1 l3), [], 0⟩ trivial ?_
     refine AWp.cond (b := (!b8)) (by kernel_rfl) (fun hc4 => ?_) (fun hc4 => ?_)
     ·
      replace h := ite_tb hc4 h
      refine AWp.exit ?_
      refine tE ?_
      refine kS ?_
      exact jN (l3) (Le.mk rfl rfl ⟨.refl _, .refl _, .refl _, trivial⟩ ⟨⟨_, rfl, .refl _⟩, trivial⟩) h
     ·
      replace h := ite_fb hc4 h
      refine AWp.skip ?_
      refine tN ?_
      refine q1rq [] [] ⟨84, [(0, q1aWW x1), (3, .own 5003), (4, .i (n2 : Int)), (7, .i (0 : Int))], (f104z1 l3), [], 0⟩ trivial ?_
      obtain ⟨K5, hK5, h⟩ := jn_some h
      refine AWp.join (α := Nat × (List (f104z7))) (fun (x : Nat × (List (f104z7))) => match x with | (n13, l14) => ⟨84, [(0, q1aWW x1), (3, .own 5003), (4, .i (n2 : Int)), (7, .i (n13 : Int))], [(5003, q1bWW_186 l14)], [], 0⟩) (fun x => K5 x = some r) ?_ ?_
      ·
       refine AWp.block ?_
       refine AWp.loopL (α := Nat × (Nat × (List (f104z7)))) (fun x => match x with | (_, n10, l11) => ⟨84, [(0, q1aWW x1), (3, .own 5003), (4, .i (n2 : Int)), (7, .i (n10 : Int))], (f104z5 l11), [], 0⟩) (fun x => f104_L2 x1 n2 K5 x.1 x.2 = some r) (fun x => x.1) (FUEL, 0, l3) (Le.mk (s' := ⟨84, [(0, q1aWW x1), (3, .own 5003), (4, .i (n2 : Int)), (7, .i (0 : Int))], (f104z1 l3), [], 0⟩) rfl rfl ⟨.refl _, .refl _, .refl _, .refl _, trivial⟩ ⟨⟨_, rfl, .refl _⟩, trivial⟩) h ?_
       rintro ⟨k2, n10, l11⟩ h
       cases k2 with
       | zero => exact nomatch (show (none : Option (List Tq1)) = some r from h)
       | succ k2 =>
       obtain ⟨C2, hC2⟩ : ∃ C, C = f104_L2 x1 n2 K5 k2 := ⟨_, rfl⟩
       replace h := (f104_L2.eq_2 ..).symm.trans h
       try rw [← hC2] at h
       refine AWp.seq ?_
       refine AWp.seq ?_
       obtain ⟨r12, hr12, h⟩ := optc_some h
       obtain ⟨ob19, h⟩ := chk_some h
       have ob20 := idA (((decide ((n10 : Int) < (lZ l11))) == true) = true)
       have ob21 := idA (((decide ((n10 : Int) < (lZ l11))) == true) = true)
       obtain ⟨ob22, h⟩ := chk_some h
       have ob23 := idA (((decide ((n10 : Int) < (lZ l11))) == true) = true)
       obtain ⟨ob24, h⟩ := chk_some h
       have ob25 := idA (((decide ((n10 : Int) < (lZ l11))) == true) = true)
       have ob26 := idA (((decide ((n10 : Int) < (lZ l11))) == true) = true)
       have ob27 := idA (((decide ((n10 : Int) < (lZ l11))) == true) = true)
       have ob28 := idA (((decide ((n10 : Int) < (lZ l11))) == true) = true)
       have ob29 := idA (((decide ((n10 : Int) < (lZ l11))) == true) = true)
       have ob30 := idA (((decide ((n10 : Int) < (lZ l11))) == true) = true)
       have ob31 := bqA (decide ((n10 : Int) < (lZ l11))) true
       refine q1rr [] [(13, ⟨[.agg [.b16 (l11.getD n10 q1dWW).1, .b16 (l11.getD n10 q1dWW).2], .agg [.b16 (f104z0 x1 n2).1, .b16 (f104z0 x1 n2).2]], [], [], [], .i r12, [], [], []⟩)] ⟨84, [(0, q1aWW x1), (3, .own 5003), (4, .i (n2 : Int)), (7, .i (n10 : Int)), (63, .bool ((decide ((n10 : Int) < (lZ l11))) && (decide (r12 < (0 : Int)))))], (f104z5 l11), [], 0⟩ (ac6 (And.intro ob19 (an2 ob20 ob21)) (And.intro ob22 (an1 ob23)) (And.intro ob24 (an2 ob25 ob26)) (an1 ob27) (And.intro (cpC fun hc => (f136_ok _ _ _ _ _ (hr12 hc))) (an2 ob28 ob29)) (an1 ob30) (an1 ob31)) ?_
       refine tN ?_
       refine AWp.cond (b := ((decide ((n10 : Int) < (lZ l11))) && (decide (r12 < (0 : Int))))) (by kernel_rfl) (fun hc5 => ?_) (fun hc5 => ?_)
       ·
        replace h := ite_tb hc5 h
        refine AWp.skip ?_
        refine tN ?_
        refine AWp.block ?_
        obtain ⟨ob32p, h⟩ := chk_some h
        have ob32 : -9223372036854775808 ≤ ((n10 : Int) + (1 : Int)) ∧ ((n10 : Int) + (1 : Int)) ≤ 9223372036854775807 := ⟨by omega, ob32p⟩
        refine q1rr [] [] ⟨84, [(0, q1aWW x1), (3, .own 5003), (4, .i (n2 : Int)), (7, .i (((n10 + 1) : Nat) : Int))], (f104z5 l11), [], 0⟩ (an1 ob32) ?_
        refine kN ?_
        rw [hC2] at h
        exact lN (_, (n10 + 1), l11) (Le.mk rfl rfl ⟨.refl _, .refl _, .refl _, .refl _, trivial⟩ ⟨⟨_, rfl, .refl _⟩, trivial⟩) h (Nat.lt_succ_self _)
       ·
        replace h := ite_fb hc5 h
        refine AWp.exit ?_
        refine tE ?_
        refine tE ?_
        refine kS ?_
        exact jN (n10, l11) (Le.mk rfl rfl ⟨.refl _, .refl _, .refl _, .refl _, trivial⟩ ⟨⟨_, rfl, .refl _⟩, trivial⟩) h
      ·
       rintro ⟨n13, l14⟩ h
       replace h := (congrFun hK5 _).symm.trans h
       refine q1rq [] [] ⟨84, [(0, q1aWW x1), (3, .own 5003), (4, .i (n2 : Int)), (7, .i (n13 : Int)), (8, .nils)], [(5003, q1bWW_186 l14)], [], 0⟩ trivial ?_
       refine AWp.seq ?_
       refine AWp.le (Le.trans (Le.freeze 5003 rfl rfl) (Le.mk (s' := ⟨84, [(0, q1aWW x1), (3, q1aWW l14), (4, .i (n2 : Int)), (7, .i (n13 : Int)), (8, .nils)], [], [], 0⟩) rfl rfl ⟨.refl _, .refl _, .refl _, .refl _, .refl _, trivial⟩ trivial)) ?_
       obtain ⟨ob33p, h⟩ := chk_some h
       have ob33 : 0 ≤ (n13 : Int) ∧ (n13 : Int) ≤ (((l14).length : Nat) : Int) := ⟨by omega, ob33p⟩
       obtain ⟨ob34, h⟩ := chk_some h
       refine q1rr [] [] ⟨84, (f104z3 x1 l14 n2 n13), [(70, .rows 186 2 (0 + n13) (encF eWW q1dWW l14))], [], 0⟩ (an2 ob33 ob34) ?_
       refine tN ?_
       refine AWp.le (Le.mk (s' := ⟨84, (f104z3 x1 l14 n2 n13), [(70, q1bWW_186 (l14.take n13))], [], 0⟩) rfl rfl ⟨.refl _, .refl _, .refl _, .refl _, .refl _, trivial⟩ ⟨⟨_, rfl, (BLe.of (RL.app0 (RL.takeL (by first | omega | (simp only [List.length_append, List.length_cons, List.length_nil, List.length_take, List.length_drop] at *; omega) | (simp; done) | (simp_all; done) | (simp_all; omega) | rfl))))⟩, trivial⟩) ?_
       refine AWp.seq ?_
       obtain ⟨ob35p, h⟩ := chk_some h
       have ob35 : 0 ≤ (n2 : Int) ∧ (n2 : Int) < (((x1).length : Nat) : Int) := ⟨by omega, ob35p⟩
       obtain ⟨ob36, h⟩ := chk_some h
       refine q1rr [] [] ⟨84, (f104z3 x1 l14 n2 n13), [(70, .rows 186 2 (((l14.take n13)).length + 1) (appF ((l14.take n13)).length (encF eWW q1dWW (l14.take n13)) (lstF 2 [.b16 (f104z0 x1 n2).1, .b16 (f104z0 x1 n2).2])))], [], 0⟩ (an2 ob35 ob36) ?_
       refine tN ?_
       refine AWp.le (Le.mk (s' := ⟨84, (f104z3 x1 l14 n2 n13), [(70, q1bWW_186 ((l14.take n13) ++ [((f104z0 x1 n2).1, (f104z0 x1 n2).2)]))], [], 0⟩) rfl rfl ⟨.refl _, .refl _, .refl _, .refl _, .refl _, trivial⟩ ⟨⟨_, rfl, (BLe.of (RL.app (RL.self _) (RL.lst (enc := eWW) [((f104z0 x1 n2).1, (f104z0 x1 n2).2)] rfl rfl (fun _ => rfl))))⟩, trivial⟩) ?_
       obtain ⟨ob37p, h⟩ := chk_some h
       have ob37 : 0 ≤ (n13 : Int) ∧ (n13 : Int) ≤ (((l14).length : Nat) : Int) := ⟨by omega, ob37p⟩
       obtain ⟨ob38, h⟩ := chk_some h
       refine q1rr [] [] ⟨84, (f104z6 x1 n2), [(70, .rows 186 2 ((((l14.take n13) ++ [((f104z0 x1 n2).1, (f104z0 x1 n2).2)])).length + ((l14).length - n13)) (appF (((l14.take n13) ++ [((f104z0 x1 n2).1, (f104z0 x1 n2).2)])).length (encF eWW q1dWW ((l14.take n13) ++ [((f104z0 x1 n2).1, (f104z0 x1 n2).2)])) (fun i j => (encF eWW q1dWW l14) (i + n13) j)))], [], 0⟩ (an2 ob37 ob38) ?_
       refine kN ?_
       exact jN ((((l14.take n13) ++ [((f104z0 x1 n2).1, (f104z0 x1 n2).2)]) ++ (l14.drop n13))) (Le.trans (Le.mk (s' := ⟨84, (f104z6 x1 n2), [(70, q1bWW_186 (((l14.take n13) ++ [((f104z0 x1 n2).1, (f104z0 x1 n2).2)]) ++ (l14.drop n13)))], [], 0⟩) rfl rfl ⟨.refl _, .refl _, .refl _, trivial⟩ ⟨⟨_, rfl, (BLe.of (RL.app (RL.self _) RL.dropL))⟩, trivial⟩) (Le.trans (Le.trans (Le.ren (swapN 70 5003) (swapN_inv 70 5003) rfl) (Le.mk (s' := ⟨84, (f104z4 x1 n2), [(5003, q1bWW_186 (((l14.take n13) ++ [((f104z0 x1 n2).1, (f104z0 x1 n2).2)]) ++ (l14.drop n13)))], [], 0⟩) rfl rfl ⟨.refl _, .refl _, .refl _, trivial⟩ ⟨⟨_, rfl, .refl _⟩, trivial⟩)) (Le.mk rfl rfl ⟨.refl _, .refl _, .refl _, trivial⟩ ⟨⟨_, rfl, .refl _⟩, trivial⟩))) h
   ·
    rintro l9 h
    replace h := (congrFun hK2 _).symm.trans h
    obtain ⟨ob39p, h⟩ := chk_some h
    have ob39 : -9223372036854775808 ≤ ((n2 : Int) + (1 : Int)) ∧ ((n2 : Int) + (1 : Int)) ≤ 9223372036854775807 := ⟨by omega, ob39p⟩
    refine q1rr [] [] ⟨84, [(0, q1aWW x1), (3, .own 5003), (4, .i (((n2 + 1) : Nat) : Int))], [(5003, q1bWW_186 l9)], [], 0⟩ (an1 ob39) ?_
    rw [hC0] at h
    exact lN (_, (n2 + 1), l9) (Le.mk rfl rfl ⟨.refl _, .refl _, .refl _, trivial⟩ ⟨⟨_, rfl, .refl _⟩, trivial⟩) h (Nat.lt_succ_self _)
  ·
   replace h := ite_fb hc1 h
   refine AWp.exit ?_
   refine tE ?_
   refine tE ?_
   refine kS ?_
   exact jN (l3) (Le.mk rfl rfl ⟨.refl _, trivial⟩ ⟨⟨_, rfl, .refl _⟩, trivial⟩) h
 ·
  rintro l15 h
  replace h := (congrFun hK1 _).symm.trans h
  refine q1rq [] [] ⟨84, [(2, .own 5003)], [(5003, q1bWW_186 l15)], [], 0⟩ trivial ?_
  refine AWp.le (Le.trans (Le.ren (swapN 5003 3000) (swapN_inv 5003 3000) rfl) (Le.mk (s' := ⟨84, [(2, .own 3000)], [(3000, q1bWW_186 l15)], [], 0⟩) rfl rfl ⟨.refl _, trivial⟩ ⟨⟨_, rfl, .refl _⟩, trivial⟩)) ?_
  have hret := Option.some.inj h
  subst hret
  refine AWp.le (Le.mk (s' := ⟨84, [(2, .own 3000)], [(3000, q1bWW_186 l15)], [], 0⟩) rfl rfl ⟨.refl _, trivial⟩ ⟨⟨_, rfl, .refl _⟩, trivial⟩) ?_
  refine AWp.ret ?_
  exact bR _ rfl ⟨rfl, rfl⟩ rfl
def f73_L0 (x1 : Int) (x2 : List Tq1) (K1 : (List Tq1) → Option (List Tq1)) : Nat → (Nat × (List Tq1)) → Option (List Tq1)
 | 0, _ => none
 | k + 1, (n3, l4) =>
  if ((decide ((n3 : Int) < (((x2).length : Nat) : Int))) && (decide ((n3 : Int) < (6 : Int)))) then (
  chk ((n3 : Int) < (((x2).length : Nat) : Int)) <|
  chk ((n3 : Int) < (((x2).length : Nat) : Int)) <|
  chk ((n3 : Int) < (((x2).length : Nat) : Int)) <|
  chk (((l4).length + 1) * 4 ≤ 140737488355328) <|
  chk (((n3 : Int) + (1 : Int)) ≤ 9223372036854775807) <|
  (f73_L0 x1 x2 K1 k) ((n3 + 1), (l4 ++ [(((x2.getD n3 (default : Tq1)).1 &&& (((BitVec.ofInt 16 1) <<< ((x1).toNat)) - (BitVec.ofInt 16 1))), (((x2.getD n3 (default : Tq1)).2 &&& (((BitVec.ofInt 16 1) <<< ((x1).toNat)) - (BitVec.ofInt 16 1))) &&& ~~~(x2.getD n3 (default : Tq1)).1))]))
  ) else (
  K1 l4
  )
abbrev f73z0 (l4 : List Tq1) (x2 : List Tq1) (n3 : Nat) (x1 : Int) : Heap := [(12, bL 186 2 eWW (default : Tq1) (l4 ++ [(((x2.getD n3 (default : Tq1)).1 &&& (((BitVec.ofInt 16 1) <<< ((x1).toNat)) - (BitVec.ofInt 16 1))), (((x2.getD n3 (default : Tq1)).2 &&& (((BitVec.ofInt 16 1) <<< ((x1).toNat)) - (BitVec.ofInt 16 1))) &&& ~~~(x2.getD n3 (default : Tq1)).1))]))]
abbrev f73z1 (x2 : List Tq1) (x1 : Int) (n3 : Nat) : List (Nat × V) := [(1, vL 2 eWW (default : Tq1) x2), (5, .b16 (((BitVec.ofInt 16 1) <<< ((x1).toNat)) - (BitVec.ofInt 16 1))), (6, .own 12), (7, .int .i64 (n3 : Int))]
abbrev f73z2 (x2 : List Tq1) (n3 : Nat) := (x2.getD n3 (default : Tq1))
abbrev f73z3 : Heap := [(12, bL 186 2 eWW (default : Tq1) [((BitVec.ofInt 16 0), (BitVec.ofInt 16 0))])]
def f73 (x1 : Int) (x2 : List Tq1) : Option (List Tq1) :=
 chk (0 ≤ x1) <|
 jn (fun (l5 : List Tq1) =>
 (f104 l5).bind fun (r6 : List Tq1) =>
 some r6
 ) fun (K1 : (List Tq1) → Option (List Tq1)) =>
 f73_L0 x1 x2 K1 FUEL (0, [((BitVec.ofInt 16 0), (BitVec.ofInt 16 0))])
theorem f73_ok  (x1 : Int) (x2 : List Tq1) (r : List Tq1) (h : f73 x1 x2 = some r)  : Spec1 Tryz.prog 73 [] [] [] [.int .i64 x1, vL 2 eWW (default : Tq1) x2] (.own 3000) [(3000, bL 186 2 eWW (default : Tq1) r)] := by
 unfold f73 at h
 refine Spec1.body 0 _ _ Tryz.func73 rfl Tryz.ntmps73 rfl rfl ?_
 refine q1rq [] [] ⟨49, [(0, .i x1), (1, q1aWW x2)], [], [], 0⟩ trivial ?_
 refine AWp.seq ?_
 obtain ⟨ob0, h⟩ := chk_some h
 refine q1rr [] [] ⟨49, [(1, q1aWW x2), (5, .b16 (((q1w16 1) <<< ((x1).toNat)) - (q1w16 1)))], [], [], 0⟩ (an2 ob0 trivial) ?_
 refine tN ?_
 refine q1rq [] [] ⟨49, [(1, q1aWW x2), (5, .b16 (((q1w16 1) <<< ((x1).toNat)) - (q1w16 1))), (6, .own 12)], [(12, .rows 186 2 1 (lstF 2 [.b16 (q1w16 0), .b16 (q1w16 0)]))], [], 0⟩ trivial ?_
 refine AWp.le (Le.mk (s' := ⟨49, [(1, q1aWW x2), (5, .b16 (((q1w16 1) <<< ((x1).toNat)) - (q1w16 1))), (6, .own 12)], (f73z3), [], 0⟩) rfl rfl ⟨.refl _, .refl _, .refl _, trivial⟩ ⟨⟨_, rfl, (BLe.of (RL.lst (enc := eWW) [((q1w16 0), (q1w16 0))] rfl rfl (fun _ => rfl)))⟩, trivial⟩) ?_
 obtain ⟨K1, hK1, h⟩ := jn_some h
 refine AWp.join (α := List Tq1) (fun (l5 : List Tq1) => ⟨49, [(6, .own 12)], [(12, q1bWW_186 l5)], [], 0⟩) (fun x => K1 x = some r) ?_ ?_
 ·
  refine q1rq [] [] ⟨49, [(1, q1aWW x2), (5, .b16 (((q1w16 1) <<< ((x1).toNat)) - (q1w16 1))), (6, .own 12), (7, .i (0 : Int))], (f73z3), [], 0⟩ trivial ?_
  refine AWp.block ?_
  refine AWp.loopL (α := Nat × (Nat × (List Tq1))) (fun x => match x with | (_, n3, l4) => ⟨49, (f73z1 x2 x1 n3), [(12, q1bWW_186 l4)], [], 0⟩) (fun x => f73_L0 x1 x2 K1 x.1 x.2 = some r) (fun x => x.1) (FUEL, 0, [((q1w16 0), (q1w16 0))]) (Le.mk (s' := ⟨49, [(1, q1aWW x2), (5, .b16 (((q1w16 1) <<< ((x1).toNat)) - (q1w16 1))), (6, .own 12), (7, .i (0 : Int))], (f73z3), [], 0⟩) rfl rfl ⟨.refl _, .refl _, .refl _, .refl _, trivial⟩ ⟨⟨_, rfl, .refl _⟩, trivial⟩) h ?_
  rintro ⟨k0, n3, l4⟩ h
  cases k0 with
  | zero => exact nomatch (show (none : Option (List Tq1)) = some r from h)
  | succ k0 =>
  obtain ⟨C0, hC0⟩ : ∃ C, C = f73_L0 x1 x2 K1 k0 := ⟨_, rfl⟩
  replace h := (f73_L0.eq_2 ..).symm.trans h
  try rw [← hC0] at h
  refine AWp.seq ?_
  refine AWp.seq ?_
  have ob1 := idA (((decide ((n3 : Int) < (lZ x2))) == true) = true)
  have ob2 := bqA (decide ((n3 : Int) < (lZ x2))) true
  refine q1rr [] [] ⟨49, [(1, q1aWW x2), (5, .b16 (((q1w16 1) <<< ((x1).toNat)) - (q1w16 1))), (6, .own 12), (7, .i (n3 : Int)), (20, .bool ((decide ((n3 : Int) < (lZ x2))) && (decide ((n3 : Int) < (6 : Int)))))], [(12, q1bWW_186 l4)], [], 0⟩ (an2 (an1 ob1) ob2) ?_
  refine tN ?_
  refine AWp.cond (b := ((decide ((n3 : Int) < (lZ x2))) && (decide ((n3 : Int) < (6 : Int))))) (by kernel_rfl) (fun hc1 => ?_) (fun hc1 => ?_)
  ·
   replace h := ite_tb hc1 h
   refine AWp.skip ?_
   refine tN ?_
   refine AWp.seq ?_
   refine AWp.block ?_
   obtain ⟨ob3p, h⟩ := chk_some h
   have ob3 : 0 ≤ (n3 : Int) ∧ (n3 : Int) < (((x2).length : Nat) : Int) := ⟨by omega, ob3p⟩
   obtain ⟨ob4p, h⟩ := chk_some h
   have ob4 : 0 ≤ (n3 : Int) ∧ (n3 : Int) < (((x2).length : Nat) : Int) := ⟨by omega, ob4p⟩
   obtain ⟨ob5p, h⟩ := chk_some h
   have ob5 : 0 ≤ (n3 : Int) ∧ (n3 : Int) < (((x2).length : Nat) : Int) := ⟨by omega, ob5p⟩
   obtain ⟨ob6, h⟩ := chk_some h
   refine q1rr [] [] ⟨49, (f73z1 x2 x1 n3), [(12, .rows 186 2 ((l4).length + 1) (appF (l4).length (encF eWW q1dWW l4) (lstF 2 [.b16 ((f73z2 x2 n3).1 &&& (((q1w16 1) <<< ((x1).toNat)) - (q1w16 1))), .b16 (((f73z2 x2 n3).2 &&& (((q1w16 1) <<< ((x1).toNat)) - (q1w16 1))) &&& ~~~(f73z2 x2 n3).1)])))], [], 0⟩ (an4 ob3 ob4 ob5 ob6) ?_
   refine kN ?_
   refine tN ?_
   refine AWp.le (Le.mk (s' := ⟨49, (f73z1 x2 x1 n3), (f73z0 l4 x2 n3 x1), [], 0⟩) rfl rfl ⟨.refl _, .refl _, .refl _, .refl _, trivial⟩ ⟨⟨_, rfl, (BLe.of (RL.app (RL.self _) (RL.lst (enc := eWW) [(((f73z2 x2 n3).1 &&& (((q1w16 1) <<< ((x1).toNat)) - (q1w16 1))), (((f73z2 x2 n3).2 &&& (((q1w16 1) <<< ((x1).toNat)) - (q1w16 1))) &&& ~~~(f73z2 x2 n3).1))] rfl rfl (fun _ => rfl))))⟩, trivial⟩) ?_
   obtain ⟨ob7p, h⟩ := chk_some h
   have ob7 : -9223372036854775808 ≤ ((n3 : Int) + (1 : Int)) ∧ ((n3 : Int) + (1 : Int)) ≤ 9223372036854775807 := ⟨by omega, ob7p⟩
   refine q1rr [] [] ⟨49, [(1, q1aWW x2), (5, .b16 (((q1w16 1) <<< ((x1).toNat)) - (q1w16 1))), (6, .own 12), (7, .i (((n3 + 1) : Nat) : Int))], (f73z0 l4 x2 n3 x1), [], 0⟩ (an1 ob7) ?_
   rw [hC0] at h
   exact lN (_, (n3 + 1), (l4 ++ [(((f73z2 x2 n3).1 &&& (((q1w16 1) <<< ((x1).toNat)) - (q1w16 1))), (((f73z2 x2 n3).2 &&& (((q1w16 1) <<< ((x1).toNat)) - (q1w16 1))) &&& ~~~(f73z2 x2 n3).1))])) (Le.mk rfl rfl ⟨.refl _, .refl _, .refl _, .refl _, trivial⟩ ⟨⟨_, rfl, .refl _⟩, trivial⟩) h (Nat.lt_succ_self _)
  ·
   replace h := ite_fb hc1 h
   refine AWp.exit ?_
   refine tE ?_
   refine tE ?_
   refine kS ?_
   exact jN (l4) (Le.mk rfl rfl ⟨.refl _, trivial⟩ ⟨⟨_, rfl, .refl _⟩, trivial⟩) h
 ·
  rintro l5 h
  replace h := (congrFun hK1 _).symm.trans h
  refine AWp.seq ?_
  obtain ⟨r6, hr6, h⟩ := bind_ok h
  refine q1rr [] [(1, ⟨[q1aWW l5], [], [], [(6001, q1bWW_186 r6)], .own 6001, [6001], [12], []⟩)] ⟨49, [(4, .own 6001)], [(6001, q1bWW_186 r6)], [], 0⟩ (an1 (cpL (c := true) [(12, q1bWW_186 l5)] [12] [.own 12] (fun _ => (Spec1.ren (swapN 3000 6001) (swapN_inv 3000 6001) rfl (f104_ok _ _ hr6))) (fun _ => ⟨.refl _, trivial⟩) (.inr ⟨rfl, ⟨(fun _ _ _ _ => eWW_flat _ _), trivial⟩⟩))) ?_
  refine tN ?_
  refine AWp.le (Le.trans (Le.ren (swapN 6001 3000) (swapN_inv 6001 3000) rfl) (Le.mk (s' := ⟨49, [(4, .own 3000)], [(3000, q1bWW_186 r6)], [], 0⟩) rfl rfl ⟨.refl _, trivial⟩ ⟨⟨_, rfl, .refl _⟩, trivial⟩)) ?_
  have hret := Option.some.inj h
  subst hret
  refine AWp.le (Le.mk (s' := ⟨49, [(4, .own 3000)], [(3000, q1bWW_186 r6)], [], 0⟩) rfl rfl ⟨.refl _, trivial⟩ ⟨⟨_, rfl, .refl _⟩, trivial⟩) ?_
  refine AWp.ret ?_
  exact bR _ rfl ⟨rfl, rfl⟩ rfl
abbrev f54z0 (x7 : List UInt8) (x1 : Int) (x2 : Int) : List V := [.str x7, .int .i64 ((1 : Int) + (x1 % (2 : Int))), .b16 (((BitVec.ofInt 16 1) <<< ((((1 : Int) + (x2 % (5 : Int)))).toNat)) - (BitVec.ofInt 16 1)), .own 6001, .own 6002, .own 6003]
abbrev f54z1 (x1 : Int) (x2 : Int) (x3 : Int) (x4 : List (BitVec 16)) (x5 : List (BitVec 16)) (x6 : List Tq1) : List V := [.int .u8 x1, .int .u8 x2, .int .u8 x3, vL 1 eW 0#16 x4, vL 1 eW 0#16 x5, vL 2 eWW (default : Tq1) x6]
abbrev f54z2 : List V := [.str [], .int .i64 (0 : Int), .b16 (BitVec.ofInt 16 0), .nils, .nils, .nils]
def f54 (x1 : Int) (x2 : Int) (x3 : Int) (x4 : List (BitVec 16)) (x5 : List (BitVec 16)) (x6 : List Tq1) (x7 : List UInt8) : Option (List UInt8 × Int × BitVec 16 × List (BitVec 16) × List (BitVec 16) × (List Tq1)) :=
 chk (0 ≤ x2 ∧ 1 ≤ (5 : Int)) <|
 chk (-9223372036854775808 ≤ (x2 % (5 : Int)) ∧ (x2 % (5 : Int)) ≤ 9223372036854775807) <|
 chk (-9223372036854775808 ≤ ((1 : Int) + (x2 % (5 : Int))) ∧ ((1 : Int) + (x2 % (5 : Int))) ≤ 9223372036854775807) <|
 (f72 x1 x2 x3 x4 x5 x6 x4 ((1 : Int) + (x2 % (5 : Int)))).bind fun (r8 : List (BitVec 16)) =>
 (f72 x1 x2 x3 x4 x5 x6 x5 ((1 : Int) + (x2 % (5 : Int)))).bind fun (r9 : List (BitVec 16)) =>
 chk (0 ≤ x1 ∧ 1 ≤ (2 : Int)) <|
 chk (-9223372036854775808 ≤ (x1 % (2 : Int)) ∧ (x1 % (2 : Int)) ≤ 9223372036854775807) <|
 chk (-9223372036854775808 ≤ ((1 : Int) + (x1 % (2 : Int))) ∧ ((1 : Int) + (x1 % (2 : Int))) ≤ 9223372036854775807) <|
 chk (0 ≤ ((1 : Int) + (x2 % (5 : Int)))) <|
 (f73 ((1 : Int) + (x2 % (5 : Int))) x6).bind fun (r10 : List Tq1) =>
 some (x7, ((1 : Int) + (x1 % (2 : Int))), (((BitVec.ofInt 16 1) <<< ((((1 : Int) + (x2 % (5 : Int)))).toNat)) - (BitVec.ofInt 16 1)), r8, r9, r10)
theorem f54_ok  (x1 : Int) (x2 : Int) (x3 : Int) (x4 : List (BitVec 16)) (x5 : List (BitVec 16)) (x6 : List Tq1) (x7 : List UInt8) (r : List UInt8 × Int × BitVec 16 × List (BitVec 16) × List (BitVec 16) × (List Tq1)) (h : f54 x1 x2 x3 x4 x5 x6 x7 = some r)  : Spec1 Tryz.prog 54 [] [] [] [.agg [.int .u8 x1, .int .u8 x2, .int .u8 x3, vL 1 eW 0#16 x4, vL 1 eW 0#16 x5, vL 2 eWW (default : Tq1) x6], .str x7] (.agg [.str r.1, .int .i64 r.2.1, .b16 r.2.2.1, vL 1 eW 0#16 r.2.2.2.1, vL 1 eW 0#16 r.2.2.2.2.1, vL 2 eWW (default : Tq1) r.2.2.2.2.2]) [] := by
 unfold f54 at h
 refine Spec1.bodyD [4] 0 _ _ Tryz.func54 rfl Tryz.ntmps54 rfl rfl ?_
 refine q1rq [] [] ⟨38, [(1, .str x7), (2, .ptr 2 0), (4, .ptr 4 0)], [(2, .cells 129 (f54z1 x1 x2 x3 x4 x5 x6)), (4, .cells 73 (f54z2))], [], 0⟩ trivial ?_
 refine AWp.seq ?_
 obtain ⟨ob0, ob1, ob2, h⟩ := ck3 h
 refine q1rr [] [] ⟨38, [(1, .str x7), (2, .ptr 2 0), (4, .ptr 4 0), (5, .i ((1 : Int) + (x2 % (5 : Int))))], [(2, .cells 129 (f54z1 x1 x2 x3 x4 x5 x6)), (4, .cells 73 (f54z2))], [], 0⟩ (an3 ob0 ob1 ob2) ?_
 refine tN ?_
 refine AWp.seq ?_
 obtain ⟨r8, hr8, h⟩ := bind_ok h
 obtain ⟨r9, hr9, h⟩ := bind_ok h
 obtain ⟨ob3, ob4, ob5, ob6, h⟩ := ck4 h
 refine q1rr [] [(13, ⟨[.agg (f54z1 x1 x2 x3 x4 x5 x6), q1aW x4, .i ((1 : Int) + (x2 % (5 : Int)))], [], [], [(6001, q1bW_32 r8)], .own 6001, [6001], [], []⟩), (18, ⟨[.agg (f54z1 x1 x2 x3 x4 x5 x6), q1aW x5, .i ((1 : Int) + (x2 % (5 : Int)))], [], [], [(6002, q1bW_32 r9)], .own 6002, [6002], [], []⟩)] ⟨38, [(2, .ptr 2 0), (4, .ptr 4 0), (5, .i ((1 : Int) + (x2 % (5 : Int)))), (6, .ptr 6 0)], [(2, .cells 129 (f54z1 x1 x2 x3 x4 x5 x6)), (4, .cells 73 (f54z2)), (6, .cells 73 [.str x7, .i ((1 : Int) + (x1 % (2 : Int))), .b16 (((q1w16 1) <<< ((((1 : Int) + (x2 % (5 : Int)))).toNat)) - (q1w16 1)), .own 6001, .own 6002, .nils]), (6001, q1bW_32 r8), (6002, q1bW_32 r9)], [], 0⟩ (ac6 ob3 ob4 ob5 ob6 trivial (cpT (Spec1.ren (swapN 3000 6001) (swapN_inv 3000 6001) rfl (f72_ok _ _ _ _ _ _ _ _ _ hr8))) (an2 (cpT (Spec1.ren (swapN 3000 6002) (swapN_inv 3000 6002) rfl (f72_ok _ _ _ _ _ _ _ _ _ hr9))) trivial)) ?_
 refine tN ?_
 refine AWp.seq ?_
 obtain ⟨r10, hr10, h⟩ := bind_ok h
 refine q1rr [] [(3, ⟨[.i ((1 : Int) + (x2 % (5 : Int))), q1aWW x6], [], [], [(6003, q1bWW_186 r10)], .own 6003, [6003], [], []⟩)] ⟨38, [(4, .ptr 4 0), (6, .ptr 6 0)], [(4, .cells 73 (f54z2)), (6, .cells 73 (f54z0 x7 x1 x2)), (6001, q1bW_32 r8), (6002, q1bW_32 r9), (6003, q1bWW_186 r10)], [], 0⟩ (an2 (cpT (Spec1.ren (swapN 3000 6003) (swapN_inv 3000 6003) rfl (f73_ok _ _ _ hr10))) trivial) ?_
 refine tN ?_
 refine q1rq [] [] ⟨38, [(4, .ptr 4 0)], [(4, .cells 73 (f54z0 x7 x1 x2)), (6001, q1bW_32 r8), (6002, q1bW_32 r9), (6003, q1bWW_186 r10)], [], 0⟩ (an1 trivial) ?_
 refine AWp.le (Le.trans (Le.freeze 6001 rfl rfl) (Le.mk (s' := ⟨38, [(4, .ptr 4 0)], [(4, .cells 73 [.str x7, .i ((1 : Int) + (x1 % (2 : Int))), .b16 (((q1w16 1) <<< ((((1 : Int) + (x2 % (5 : Int)))).toNat)) - (q1w16 1)), q1aW r8, .own 6002, .own 6003]), (6002, q1bW_32 r9), (6003, q1bWW_186 r10)], [], 0⟩) rfl rfl ⟨.refl _, trivial⟩ ⟨⟨_, rfl, .refl _⟩, ⟨_, rfl, .refl _⟩, ⟨_, rfl, .refl _⟩, trivial⟩)) ?_
 refine AWp.le (Le.trans (Le.freeze 6002 rfl rfl) (Le.mk (s' := ⟨38, [(4, .ptr 4 0)], [(4, .cells 73 [.str x7, .i ((1 : Int) + (x1 % (2 : Int))), .b16 (((q1w16 1) <<< ((((1 : Int) + (x2 % (5 : Int)))).toNat)) - (q1w16 1)), q1aW r8, q1aW r9, .own 6003]), (6003, q1bWW_186 r10)], [], 0⟩) rfl rfl ⟨.refl _, trivial⟩ ⟨⟨_, rfl, .refl _⟩, ⟨_, rfl, .refl _⟩, trivial⟩)) ?_
 refine AWp.le (Le.trans (Le.freeze 6003 rfl rfl) (Le.mk (s' := ⟨38, [(4, .ptr 4 0)], [(4, .cells 73 [.str x7, .i ((1 : Int) + (x1 % (2 : Int))), .b16 (((q1w16 1) <<< ((((1 : Int) + (x2 % (5 : Int)))).toNat)) - (q1w16 1)), q1aW r8, q1aW r9, q1aWW r10])], [], 0⟩) rfl rfl ⟨.refl _, trivial⟩ ⟨⟨_, rfl, .refl _⟩, trivial⟩)) ?_
 have hret := Option.some.inj h
 subst hret
 refine AWp.le (Le.mk (s' := ⟨38, [(4, .ptr 4 0)], [(4, .cells 73 [.str x7, .i ((1 : Int) + (x1 % (2 : Int))), .b16 (((q1w16 1) <<< ((((1 : Int) + (x2 % (5 : Int)))).toNat)) - (q1w16 1)), q1aW r8, q1aW r9, q1aWW r10])], [], 0⟩) rfl rfl ⟨.refl _, trivial⟩ ⟨⟨_, rfl, .refl _⟩, trivial⟩) ?_
 refine AWp.ret ?_
 exact bR _ rfl ⟨rfl, rfl⟩ rfl
def f28_L0 (x1 : Int) (x4 : List (Int × Int × Int × List (BitVec 16) × List (BitVec 16) × (List Tq1))) (K2 : ((List (List UInt8 × Int × BitVec 16 × List (BitVec 16) × List (BitVec 16) × (List Tq1))) × List Int) → Option (List (List UInt8) × BitVec 16 × (List Tq5) × (List (List UInt8 × Int × BitVec 16 × List (BitVec 16) × List (BitVec 16) × (List Tq1))) × List Int × (List (List UInt8 × Bool × (List Tq1))))) : Nat → (Nat × (List (List UInt8 × Int × BitVec 16 × List (BitVec 16) × List (BitVec 16) × (List Tq1))) × List Int) → Option (List (List UInt8) × BitVec 16 × (List Tq5) × (List (List UInt8 × Int × BitVec 16 × List (BitVec 16) × List (BitVec 16) × (List Tq1))) × List Int × (List (List UInt8 × Bool × (List Tq1))))
 | 0, _ => none
 | k + 1, (n6, l7, l8) =>
  if (((decide ((n6 : Int) < (((x4).length : Nat) : Int))) && (decide ((n6 : Int) < (2 : Int)))) || ((n6 : Int) == (0 : Int))) then (
  chk (0 ≤ ((3 : Int) + (x1 % (3 : Int))) ∧ 1 ≤ (2 : Int) ∧ -9223372036854775808 ≤ (((3 : Int) + (x1 % (3 : Int))) / (2 : Int)) ∧ (((3 : Int) + (x1 % (3 : Int))) / (2 : Int)) ≤ 9223372036854775807) <|
  chk (0 ≤ ((3 : Int) + (x1 % (3 : Int))) ∧ 1 ≤ (2 : Int) ∧ -9223372036854775808 ≤ (((3 : Int) + (x1 % (3 : Int))) / (2 : Int)) ∧ (((3 : Int) + (x1 % (3 : Int))) / (2 : Int)) ≤ 9223372036854775807) <|
  jn (fun ((i9, i10, i11, l12, l13, l14) : Int × Int × Int × List (BitVec 16) × List (BitVec 16) × (List Tq1)) =>
  chk (-9223372036854775808 ≤ (((3 : Int) + (x1 % (3 : Int))) - (1 : Int)) ∧ (((3 : Int) + (x1 % (3 : Int))) - (1 : Int)) ≤ 9223372036854775807) <|
  chk (0 ≤ (((3 : Int) + (x1 % (3 : Int))) - (1 : Int)) ∧ (((3 : Int) + (x1 % (3 : Int))) - (1 : Int)) ≤ 255) <|
  (f54 i9 (((3 : Int) + (x1 % (3 : Int))) - (1 : Int)) i11 l12 l13 l14 (([([99, 48] : List UInt8), ([99, 49] : List UInt8)] : List (List UInt8)).getD n6 [])).bind fun (r15 : List UInt8 × Int × BitVec 16 × List (BitVec 16) × List (BitVec 16) × (List Tq1)) =>
  chk ((n6 : Int) < (2 : Int)) <|
  chk (n6 < 2) <|
  chk (((l7).length + 1) * 104 ≤ 140737488355328) <|
  chk (((l8).length + 1) * 8 ≤ 140737488355328) <|
  chk (((n6 : Int) + (1 : Int)) ≤ 9223372036854775807) <|
  (f28_L0 x1 x4 K2 k) ((n6 + 1), (l7 ++ [(r15.1, r15.2.1, r15.2.2.1, r15.2.2.2.1, r15.2.2.2.2.1, r15.2.2.2.2.2)]), (l8 ++ [(n6 : Int)]))
  ) fun (K3 : (Int × Int × Int × List (BitVec 16) × List (BitVec 16) × (List Tq1)) → Option (List (List UInt8) × BitVec 16 × (List Tq5) × (List (List UInt8 × Int × BitVec 16 × List (BitVec 16) × List (BitVec 16) × (List Tq1))) × List Int × (List (List UInt8 × Bool × (List Tq1))))) =>
  if (decide ((n6 : Int) < (((x4).length : Nat) : Int))) then (
  chk ((n6 : Int) < (((x4).length : Nat) : Int)) <|
  K3 ((x4.getD n6 (default : Int × Int × Int × List (BitVec 16) × List (BitVec 16) × (List Tq1))).1, (x4.getD n6 (default : Int × Int × Int × List (BitVec 16) × List (BitVec 16) × (List Tq1))).2.1, (x4.getD n6 (default : Int × Int × Int × List (BitVec 16) × List (BitVec 16) × (List Tq1))).2.2.1, (x4.getD n6 (default : Int × Int × Int × List (BitVec 16) × List (BitVec 16) × (List Tq1))).2.2.2.1, (x4.getD n6 (default : Int × Int × Int × List (BitVec 16) × List (BitVec 16) × (List Tq1))).2.2.2.2.1, (x4.getD n6 (default : Int × Int × Int × List (BitVec 16) × List (BitVec 16) × (List Tq1))).2.2.2.2.2)
  ) else (
  K3 ((0 : Int), (0 : Int), (1 : Int), [(BitVec.ofInt 16 (((3 : Int) + (x1 % (3 : Int))) / (2 : Int)))], [(BitVec.ofInt 16 (((3 : Int) + (x1 % (3 : Int))) / (2 : Int)))], [])
  )
  ) else (
  K2 (l7, l8)
  )
def f28_L1 (x3 : Int) (K4 : (List (List UInt8 × Bool × (List Tq1))) → Option (List (List UInt8) × BitVec 16 × (List Tq5) × (List (List UInt8 × Int × BitVec 16 × List (BitVec 16) × List (BitVec 16) × (List Tq1))) × List Int × (List (List UInt8 × Bool × (List Tq1))))) : Nat → (Nat × (List (List UInt8 × Bool × (List Tq1)))) → Option (List (List UInt8) × BitVec 16 × (List Tq5) × (List (List UInt8 × Int × BitVec 16 × List (BitVec 16) × List (BitVec 16) × (List Tq1))) × List Int × (List (List UInt8 × Bool × (List Tq1))))
 | 0, _ => none
 | k + 1, (n18, l19) =>
  chk (0 ≤ x3 ∧ 1 ≤ (3 : Int)) <|
  chk (-9223372036854775808 ≤ (x3 % (3 : Int)) ∧ (x3 % (3 : Int)) ≤ 9223372036854775807) <|
  if (decide ((n18 : Int) < (x3 % (3 : Int)))) then (
  chk ((n18 : Int) < (2 : Int)) <|
  chk (n18 < 2) <|
  chk (((l19).length + 1) * 48 ≤ 140737488355328) <|
  chk (((n18 : Int) + (1 : Int)) ≤ 9223372036854775807) <|
  (f28_L1 x3 K4 k) ((n18 + 1), (l19 ++ [((([([107, 48] : List UInt8), ([107, 49] : List UInt8)] : List (List UInt8)).getD n18 []), true, [])]))
  ) else (
  K4 l19
  )
abbrev f28z0 (x1 : Int) (x2 : Int) (x3 : Int) (x4 : List (Int × Int × Int × List (BitVec 16) × List (BitVec 16) × (List Tq1))) : List V := [.int .u8 x1, .int .u8 x2, .int .u8 x3, vL 6 eT129 (default : Int × Int × Int × List (BitVec 16) × List (BitVec 16) × (List Tq1)) x4]
abbrev f28z1 (x1 : Int) (w5 : BitVec 16) : List V := [vL 1 eS [] (([([115, 48] : List UInt8), ([115, 49] : List UInt8), ([115, 50] : List UInt8), ([115, 51] : List UInt8), ([115, 52] : List UInt8)]).take ((((3 : Int) + (x1 % (3 : Int)))).toNat)), .own 22, .b16 w5, .own 6003, .own 6004, .nils]
abbrev f28z2 (x1 : Int) (w5 : BitVec 16) : List V := [vL 1 eS [] (([([115, 48] : List UInt8), ([115, 49] : List UInt8), ([115, 50] : List UInt8), ([115, 51] : List UInt8), ([115, 52] : List UInt8)]).take ((((3 : Int) + (x1 % (3 : Int)))).toNat)), .own 22, .b16 w5, .own 6003, .own 6004, .own 6005]
abbrev f28z3 := (List Tq1)
abbrev f28z4 := ([104, 111, 109, 101] : List UInt8)
abbrev f28z5 (x4 : List (Int × Int × Int × List (BitVec 16) × List (BitVec 16) × (List Tq1))) (n6 : Nat) := (x4.getD n6 (default : Int × Int × Int × List (BitVec 16) × List (BitVec 16) × (f28z3)))
abbrev f28z6 (x1 : Int) (x2 : Int) (x3 : Int) (x4 : List (Int × Int × Int × List (BitVec 16) × List (BitVec 16) × (List Tq1))) : Heap := [(1, .cells 68 (f28z0 x1 x2 x3 x4)), (2, .cells 37 [.nils, .nils, .b16 (BitVec.ofInt 16 0), .nils, .nils, .nils]), (5, .cells 37 [vL 1 eS [] (([([115, 48] : List UInt8), ([115, 49] : List UInt8), ([115, 50] : List UInt8), ([115, 51] : List UInt8), ([115, 52] : List UInt8)]).take ((((3 : Int) + (x1 % (3 : Int)))).toNat)), .own 22, .b16 (BitVec.ofInt 16 0), .nils, .nils, .nils]), (22, bL 126 2 eSW (default : Tq5) [((f28z4), (((BitVec.ofInt 16 1) <<< ((((3 : Int) + (x1 % (3 : Int)))).toNat)) - (BitVec.ofInt 16 1)))])]
abbrev f28z7 (x1 : Int) (x2 : Int) (x3 : Int) (x4 : List (Int × Int × Int × List (BitVec 16) × List (BitVec 16) × (List Tq1))) (w5 : BitVec 16) : Heap := [(1, .cells 68 (f28z0 x1 x2 x3 x4)), (2, .cells 37 [.nils, .nils, .b16 (BitVec.ofInt 16 0), .nils, .nils, .nils]), (5, .cells 37 [vL 1 eS [] (([([115, 48] : List UInt8), ([115, 49] : List UInt8), ([115, 50] : List UInt8), ([115, 51] : List UInt8), ([115, 52] : List UInt8)]).take ((((3 : Int) + (x1 % (3 : Int)))).toNat)), .own 22, .b16 w5, .nils, .nils, .nils]), (22, bL 126 2 eSW (default : Tq5) [((f28z4), (((BitVec.ofInt 16 1) <<< ((((3 : Int) + (x1 % (3 : Int)))).toNat)) - (BitVec.ofInt 16 1)))])]
abbrev f28z8 (x1 : Int) (n6 : Nat) : List (Nat × V) := [(1, .ptr 1 0), (2, .ptr 2 0), (3, .int .i64 ((3 : Int) + (x1 % (3 : Int)))), (5, .ptr 5 0), (6, .int .i64 (n6 : Int)), (7, .ptr 7 0)]
abbrev f28z9 (x1 : Int) (n6 : Nat) (x4 : List (Int × Int × Int × List (BitVec 16) × List (BitVec 16) × (List Tq1))) : List (Nat × V) := [(1, .ptr 1 0), (2, .ptr 2 0), (3, .int .i64 ((3 : Int) + (x1 % (3 : Int)))), (5, .ptr 5 0), (6, .int .i64 (n6 : Int)), (7, .ptr 7 0), (61, .bool (decide ((n6 : Int) < (((x4).length : Nat) : Int))))]
abbrev f28z10 (x1 : Int) (x2 : Int) (x3 : Int) (x4 : List (Int × Int × Int × List (BitVec 16) × List (BitVec 16) × (List Tq1))) (w5 : BitVec 16) (l7 : List (List UInt8 × Int × BitVec 16 × List (BitVec 16) × List (BitVec 16) × (List Tq1))) (r15 : List UInt8 × Int × BitVec 16 × List (BitVec 16) × List (BitVec 16) × (List Tq1)) (l8 : List Int) (n6 : Nat) : Heap := [(1, .cells 68 (f28z0 x1 x2 x3 x4)), (2, .cells 37 [.nils, .nils, .b16 (BitVec.ofInt 16 0), .nils, .nils, .nils]), (5, .cells 37 (f28z1 x1 w5)), (22, bL 126 2 eSW (default : Tq5) [((f28z4), (((BitVec.ofInt 16 1) <<< ((((3 : Int) + (x1 % (3 : Int)))).toNat)) - (BitVec.ofInt 16 1)))]), (6003, bL 73 6 eT73 (default : List UInt8 × Int × BitVec 16 × List (BitVec 16) × List (BitVec 16) × (f28z3)) (l7 ++ [(r15.1, r15.2.1, r15.2.2.1, r15.2.2.2.1, r15.2.2.2.2.1, r15.2.2.2.2.2)])), (6004, bL 3 1 eI 0 (l8 ++ [(n6 : Int)]))]
abbrev f28z11 (x1 : Int) (x2 : Int) (x3 : Int) (x4 : List (Int × Int × Int × List (BitVec 16) × List (BitVec 16) × (List Tq1))) (w5 : BitVec 16) (l7 : List (List UInt8 × Int × BitVec 16 × List (BitVec 16) × List (BitVec 16) × (List Tq1))) (l8 : List Int) : Heap := [(1, .cells 68 (f28z0 x1 x2 x3 x4)), (2, .cells 37 [.nils, .nils, .b16 (BitVec.ofInt 16 0), .nils, .nils, .nils]), (5, .cells 37 (f28z1 x1 w5)), (22, bL 126 2 eSW (default : Tq5) [((f28z4), (((BitVec.ofInt 16 1) <<< ((((3 : Int) + (x1 % (3 : Int)))).toNat)) - (BitVec.ofInt 16 1)))]), (6003, bL 73 6 eT73 (default : List UInt8 × Int × BitVec 16 × List (BitVec 16) × List (BitVec 16) × (f28z3)) l7), (6004, bL 3 1 eI 0 l8)]
abbrev f28z12 (x1 : Int) : List (Nat × V) := [(1, .ptr 1 0), (2, .ptr 2 0), (3, .int .i64 ((3 : Int) + (x1 % (3 : Int)))), (5, .ptr 5 0), (6, .int .i64 (0 : Int))]
abbrev f28z13 (x1 : Int) (x2 : Int) (x3 : Int) (x4 : List (Int × Int × Int × List (BitVec 16) × List (BitVec 16) × (List Tq1))) (w5 : BitVec 16) (l16 : List (List UInt8 × Int × BitVec 16 × List (BitVec 16) × List (BitVec 16) × (List Tq1))) (l17 : List Int) : Heap := [(1, .cells 68 (f28z0 x1 x2 x3 x4)), (2, .cells 37 [.nils, .nils, .b16 (BitVec.ofInt 16 0), .nils, .nils, .nils]), (5, .cells 37 (f28z1 x1 w5)), (22, bL 126 2 eSW (default : Tq5) [((f28z4), (((BitVec.ofInt 16 1) <<< ((((3 : Int) + (x1 % (3 : Int)))).toNat)) - (BitVec.ofInt 16 1)))]), (6003, bL 73 6 eT73 (default : List UInt8 × Int × BitVec 16 × List (BitVec 16) × List (BitVec 16) × (f28z3)) l16), (6004, bL 3 1 eI 0 l17)]
abbrev f28z14 (x1 : Int) (n6 : Nat) : List (Nat × V) := [(1, .ptr 1 0), (2, .ptr 2 0), (3, .int .i64 ((3 : Int) + (x1 % (3 : Int)))), (5, .ptr 5 0), (6, .int .i64 (n6 : Int))]
abbrev f28z15 (x1 : Int) : List (Nat × V) := [(1, .ptr 1 0), (2, .ptr 2 0), (3, .int .i64 ((3 : Int) + (x1 % (3 : Int)))), (5, .ptr 5 0)]
abbrev f28z16 := ([115, 48] : List UInt8)
abbrev f28z17 := ([115, 49] : List UInt8)
abbrev f28z18 := ([115, 50] : List UInt8)
abbrev f28z19 := ([115, 51] : List UInt8)
abbrev f28z20 := ([115, 52] : List UInt8)
abbrev f28z21 : List V := [.int .u8 (0 : Int), .int .u8 (0 : Int), .int .u8 (1 : Int), .own 51, .own 55, .nils]
abbrev f28z22 : List (Nat × V) := [(1, .ptr 1 0), (2, .ptr 2 0), (5, .ptr 5 0), (8, .int .i64 (0 : Int))]
abbrev f28z23 := (List (List UInt8 × Int × BitVec 16 × List (BitVec 16) × List (BitVec 16) × (f28z3)))
abbrev f28z24 (x1 : Int) : List (Nat × V) := [(1, .ptr 1 0), (2, .ptr 2 0), (3, .int .i64 ((3 : Int) + (x1 % (3 : Int)))), (4, .own 14)]
abbrev f28z25 := ([107, 48] : List UInt8)
abbrev f28z26 := ([107, 49] : List UInt8)
abbrev f28z27 (n6 : Nat) := (decide ((n6 : Int) < (2 : Int)))
abbrev f28z28 (n18 : Nat) : List (Nat × V) := [(1, .ptr 1 0), (2, .ptr 2 0), (5, .ptr 5 0), (8, .int .i64 (n18 : Int))]
def f28 (x1 : Int) (x2 : Int) (x3 : Int) (x4 : List (Int × Int × Int × List (BitVec 16) × List (BitVec 16) × (List Tq1))) : Option (List (List UInt8) × BitVec 16 × (List Tq5) × (List (List UInt8 × Int × BitVec 16 × List (BitVec 16) × List (BitVec 16) × (List Tq1))) × List Int × (List (List UInt8 × Bool × (List Tq1)))) :=
 chk (0 ≤ x1 ∧ 1 ≤ (3 : Int)) <|
 chk (-9223372036854775808 ≤ (x1 % (3 : Int)) ∧ (x1 % (3 : Int)) ≤ 9223372036854775807) <|
 chk (-9223372036854775808 ≤ ((3 : Int) + (x1 % (3 : Int))) ∧ ((3 : Int) + (x1 % (3 : Int))) ≤ 9223372036854775807) <|
 chk (0 ≤ ((3 : Int) + (x1 % (3 : Int))) ∧ ((3 : Int) + (x1 % (3 : Int))) ≤ ((([([115, 48] : List UInt8), ([115, 49] : List UInt8), ([115, 50] : List UInt8), ([115, 51] : List UInt8), ([115, 52] : List UInt8)]).length : Nat) : Int)) <|
 chk (0 ≤ ((3 : Int) + (x1 % (3 : Int)))) <|
 jn (fun (w5 : BitVec 16) =>
 jn (fun ((l16, l17) : (List (List UInt8 × Int × BitVec 16 × List (BitVec 16) × List (BitVec 16) × (List Tq1))) × List Int) =>
 jn (fun (l20 : List (List UInt8 × Bool × (List Tq1))) =>
 some ((([([115, 48] : List UInt8), ([115, 49] : List UInt8), ([115, 50] : List UInt8), ([115, 51] : List UInt8), ([115, 52] : List UInt8)]).take ((((3 : Int) + (x1 % (3 : Int)))).toNat)), w5, [(([104, 111, 109, 101] : List UInt8), (((BitVec.ofInt 16 1) <<< ((((3 : Int) + (x1 % (3 : Int)))).toNat)) - (BitVec.ofInt 16 1)))], l16, l17, l20)
 ) fun (K4 : (List (List UInt8 × Bool × (List Tq1))) → Option (List (List UInt8) × BitVec 16 × (List Tq5) × (List (List UInt8 × Int × BitVec 16 × List (BitVec 16) × List (BitVec 16) × (List Tq1))) × List Int × (List (List UInt8 × Bool × (List Tq1))))) =>
 f28_L1 x3 K4 FUEL (0, [])
 ) fun (K2 : ((List (List UInt8 × Int × BitVec 16 × List (BitVec 16) × List (BitVec 16) × (List Tq1))) × List Int) → Option (List (List UInt8) × BitVec 16 × (List Tq5) × (List (List UInt8 × Int × BitVec 16 × List (BitVec 16) × List (BitVec 16) × (List Tq1))) × List Int × (List (List UInt8 × Bool × (List Tq1))))) =>
 f28_L0 x1 x4 K2 FUEL (0, [], [])
 ) fun (K1 : (BitVec 16) → Option (List (List UInt8) × BitVec 16 × (List Tq5) × (List (List UInt8 × Int × BitVec 16 × List (BitVec 16) × List (BitVec 16) × (List Tq1))) × List Int × (List (List UInt8 × Bool × (List Tq1))))) =>
 chk (-9223372036854775808 ≤ x2 ∧ x2 ≤ 9223372036854775807) <|
 if (decide (x2 < ((3 : Int) + (x1 % (3 : Int))))) then (
 chk (0 ≤ x2) <|
 K1 ((BitVec.ofInt 16 1) <<< ((x2).toNat))
 ) else (
 K1 (BitVec.ofInt 16 0)
 )
theorem f28_ok  (x1 : Int) (x2 : Int) (x3 : Int) (x4 : List (Int × Int × Int × List (BitVec 16) × List (BitVec 16) × (List Tq1))) (r : List (List UInt8) × BitVec 16 × (List Tq5) × (List (List UInt8 × Int × BitVec 16 × List (BitVec 16) × List (BitVec 16) × (List Tq1))) × List Int × (List (List UInt8 × Bool × (List Tq1)))) (h : f28 x1 x2 x3 x4 = some r)  : Spec1 Tryz.prog 28 [] [] [] [.agg [.int .u8 x1, .int .u8 x2, .int .u8 x3, vL 6 eT129 (default : Int × Int × Int × List (BitVec 16) × List (BitVec 16) × (List Tq1)) x4]] (.agg [vL 1 eS [] r.1, .own 3000, .b16 r.2.1, .own 3001, .own 3002, .own 3003]) [(3000, bL 126 2 eSW (default : Tq5) r.2.2.1), (3001, bL 73 6 eT73 (default : List UInt8 × Int × BitVec 16 × List (BitVec 16) × List (BitVec 16) × (List Tq1)) r.2.2.2.1), (3002, bL 3 1 eI 0 r.2.2.2.2.1), (3003, bL 132 3 eSBLWWJ (default : List UInt8 × Bool × (List Tq1)) r.2.2.2.2.2)] := by
 unfold f28 at h
 refine Spec1.bodyD [2] 0 _ _ Tryz.func28 rfl Tryz.ntmps28 rfl rfl ?_
 refine q1rq [] [] ⟨107, [(1, .ptr 1 0), (2, .ptr 2 0)], [(1, .cells 68 (f28z0 x1 x2 x3 x4)), (2, .cells 37 [.nils, .nils, .b16 (q1w16 0), .nils, .nils, .nils])], [], 0⟩ trivial ?_
 refine AWp.seq ?_
 obtain ⟨ob0, ob1, ob2, h⟩ := ck3 h
 refine q1rr [] [] ⟨107, [(1, .ptr 1 0), (2, .ptr 2 0), (3, .i ((3 : Int) + (x1 % (3 : Int))))], [(1, .cells 68 (f28z0 x1 x2 x3 x4)), (2, .cells 37 [.nils, .nils, .b16 (q1w16 0), .nils, .nils, .nils])], [], 0⟩ (an3 ob0 ob1 ob2) ?_
 refine tN ?_
 refine q1rq [] [] ⟨107, (f28z24 x1), [(1, .cells 68 (f28z0 x1 x2 x3 x4)), (2, .cells 37 [.nils, .nils, .b16 (q1w16 0), .nils, .nils, .nils]), (14, .rows 9 1 5 (lstF 1 [.str (f28z16), .str (f28z17), .str (f28z18), .str (f28z19), .str (f28z20)]))], [], 0⟩ trivial ?_
 refine AWp.le (Le.mk (s' := ⟨107, (f28z24 x1), [(1, .cells 68 (f28z0 x1 x2 x3 x4)), (2, .cells 37 [.nils, .nils, .b16 (q1w16 0), .nils, .nils, .nils]), (14, q1bS_9 [(f28z16), (f28z17), (f28z18), (f28z19), (f28z20)])], [], 0⟩) rfl rfl ⟨.refl _, .refl _, .refl _, .refl _, trivial⟩ ⟨⟨_, rfl, .refl _⟩, ⟨_, rfl, .refl _⟩, ⟨_, rfl, (BLe.of (RL.lst (enc := eS) [(f28z16), (f28z17), (f28z18), (f28z19), (f28z20)] rfl rfl (fun _ => rfl)))⟩, trivial⟩) ?_
 refine AWp.seq ?_
 refine AWp.le (Le.trans (Le.freeze 14 rfl rfl) (Le.mk (s' := ⟨107, [(1, .ptr 1 0), (2, .ptr 2 0), (3, .i ((3 : Int) + (x1 % (3 : Int)))), (4, q1aS [(f28z16), (f28z17), (f28z18), (f28z19), (f28z20)])], [(1, .cells 68 (f28z0 x1 x2 x3 x4)), (2, .cells 37 [.nils, .nils, .b16 (q1w16 0), .nils, .nils, .nils])], [], 0⟩) rfl rfl ⟨.refl _, .refl _, .refl _, .refl _, trivial⟩ ⟨⟨_, rfl, .refl _⟩, ⟨_, rfl, .refl _⟩, trivial⟩)) ?_
 obtain ⟨ob3, ob4, h⟩ := ck2 h
 refine q1rr [] [] ⟨107, (f28z15 x1), [(1, .cells 68 (f28z0 x1 x2 x3 x4)), (2, .cells 37 [.nils, .nils, .b16 (q1w16 0), .nils, .nils, .nils]), (5, .cells 37 [.arr 1 ((((3 : Int) + (x1 % (3 : Int)))).toNat) (encF eS [] [(f28z16), (f28z17), (f28z18), (f28z19), (f28z20)]), .own 22, .b16 (q1w16 0), .nils, .nils, .nils]), (22, .rows 126 2 1 (lstF 2 [.str (f28z4), .b16 (((q1w16 1) <<< ((((3 : Int) + (x1 % (3 : Int)))).toNat)) - (q1w16 1))]))], [], 0⟩ (an4 ob3 ob4 trivial trivial) ?_
 refine tN ?_
 refine AWp.le (Le.mk (s' := ⟨107, (f28z15 x1), (f28z6 x1 x2 x3 x4), [], 0⟩) rfl rfl ⟨.refl _, .refl _, .refl _, .refl _, trivial⟩ ⟨⟨_, rfl, .refl _⟩, ⟨_, rfl, .refl _⟩, ⟨_, rfl, (.cellsL ⟨(VLe.takeL (by first | omega | (simp only [List.length_append, List.length_cons, List.length_nil, List.length_take, List.length_drop] at *; omega) | (simp; done) | (simp_all; done) | (simp_all; omega) | rfl)), .refl _, .refl _, .refl _, .refl _, .refl _, trivial⟩)⟩, ⟨_, rfl, (BLe.of (RL.lst (enc := eSW) [((f28z4), (((q1w16 1) <<< ((((3 : Int) + (x1 % (3 : Int)))).toNat)) - (q1w16 1)))] rfl rfl (fun _ => rfl)))⟩, trivial⟩) ?_
 obtain ⟨K1, hK1, h⟩ := jn_some h
 refine AWp.join (α := BitVec 16) (fun (w5 : BitVec 16) => ⟨107, (f28z15 x1), (f28z7 x1 x2 x3 x4 w5), [], 0⟩) (fun x => K1 x = some r) ?_ ?_
 ·
  refine AWp.seq ?_
  obtain ⟨ob5, h⟩ := chk_some h
  refine q1rr [] [] ⟨107, [(1, .ptr 1 0), (2, .ptr 2 0), (3, .i ((3 : Int) + (x1 % (3 : Int)))), (5, .ptr 5 0), (28, .bool (decide (x2 < ((3 : Int) + (x1 % (3 : Int))))))], (f28z6 x1 x2 x3 x4), [], 0⟩ (an1 ob5) ?_
  refine tN ?_
  refine AWp.cond (b := (decide (x2 < ((3 : Int) + (x1 % (3 : Int)))))) (by kernel_rfl) (fun hc1 => ?_) (fun hc1 => ?_)
  ·
   replace h := ite_tb hc1 h
   obtain ⟨ob6, h⟩ := chk_some h
   refine q1rr [] [] ⟨107, (f28z15 x1), [(1, .cells 68 (f28z0 x1 x2 x3 x4)), (2, .cells 37 [.nils, .nils, .b16 (q1w16 0), .nils, .nils, .nils]), (5, .cells 37 [q1aS (([(f28z16), (f28z17), (f28z18), (f28z19), (f28z20)]).take ((((3 : Int) + (x1 % (3 : Int)))).toNat)), .own 22, .b16 ((q1w16 1) <<< ((x2).toNat)), .nils, .nils, .nils]), (22, q1bSW_126 [((f28z4), (((q1w16 1) <<< ((((3 : Int) + (x1 % (3 : Int)))).toNat)) - (q1w16 1)))])], [], 0⟩ (an2 ob6 trivial) ?_
   exact jN (((q1w16 1) <<< ((x2).toNat))) (Le.mk rfl rfl ⟨.refl _, .refl _, .refl _, .refl _, trivial⟩ ⟨⟨_, rfl, .refl _⟩, ⟨_, rfl, .refl _⟩, ⟨_, rfl, .refl _⟩, ⟨_, rfl, .refl _⟩, trivial⟩) h
  ·
   replace h := ite_fb hc1 h
   refine AWp.skip ?_
   exact jN ((q1w16 0)) (Le.mk rfl rfl ⟨.refl _, .refl _, .refl _, .refl _, trivial⟩ ⟨⟨_, rfl, .refl _⟩, ⟨_, rfl, .refl _⟩, ⟨_, rfl, .refl _⟩, ⟨_, rfl, .refl _⟩, trivial⟩) h
 ·
  rintro w5 h
  replace h := (congrFun hK1 _).symm.trans h
  obtain ⟨K2, hK2, h⟩ := jn_some h
  refine AWp.join (α := (f28z23) × List Int) (fun (x : (f28z23) × List Int) => match x with | (l16, l17) => ⟨107, [(1, .ptr 1 0), (2, .ptr 2 0), (5, .ptr 5 0)], (f28z13 x1 x2 x3 x4 w5 l16 l17), [], 0⟩) (fun x => K2 x = some r) ?_ ?_
  ·
   refine q1rq [] [] ⟨107, (f28z12 x1), (f28z7 x1 x2 x3 x4 w5), [], 0⟩ trivial ?_
   refine AWp.block ?_
   refine AWp.loopL (α := Nat × (Nat × (f28z23) × List Int)) (fun x => match x with | (_, n6, l7, l8) => ⟨107, (f28z14 x1 n6), (f28z11 x1 x2 x3 x4 w5 l7 l8), [], 0⟩) (fun x => f28_L0 x1 x4 K2 x.1 x.2 = some r) (fun x => x.1) (FUEL, 0, [], []) (Le.trans (Le.trans (Le.nilOwnC 5 3 6003 73 6 (encF eT73 (default : List UInt8 × Int × BitVec 16 × List (BitVec 16) × List (BitVec 16) × (f28z3)) []) rfl rfl rfl) (Le.mk (s' := ⟨107, (f28z12 x1), [(1, .cells 68 (f28z0 x1 x2 x3 x4)), (2, .cells 37 [.nils, .nils, .b16 (q1w16 0), .nils, .nils, .nils]), (5, .cells 37 [q1aS (([(f28z16), (f28z17), (f28z18), (f28z19), (f28z20)]).take ((((3 : Int) + (x1 % (3 : Int)))).toNat)), .own 22, .b16 w5, .own 6003, .nils, .nils]), (22, q1bSW_126 [((f28z4), (((q1w16 1) <<< ((((3 : Int) + (x1 % (3 : Int)))).toNat)) - (q1w16 1)))]), (6003, bL 73 6 eT73 (default : List UInt8 × Int × BitVec 16 × List (BitVec 16) × List (BitVec 16) × (f28z3)) [])], [], 0⟩) rfl rfl ⟨.refl _, .refl _, .refl _, .refl _, .refl _, trivial⟩ ⟨⟨_, rfl, .refl _⟩, ⟨_, rfl, .refl _⟩, ⟨_, rfl, .refl _⟩, ⟨_, rfl, .refl _⟩, ⟨_, rfl, .refl _⟩, trivial⟩)) (Le.trans (Le.trans (Le.nilOwnC 5 4 6004 3 1 (encF eI 0 []) rfl rfl rfl) (Le.mk (s' := ⟨107, (f28z12 x1), [(1, .cells 68 (f28z0 x1 x2 x3 x4)), (2, .cells 37 [.nils, .nils, .b16 (q1w16 0), .nils, .nils, .nils]), (5, .cells 37 (f28z1 x1 w5)), (22, q1bSW_126 [((f28z4), (((q1w16 1) <<< ((((3 : Int) + (x1 % (3 : Int)))).toNat)) - (q1w16 1)))]), (6003, bL 73 6 eT73 (default : List UInt8 × Int × BitVec 16 × List (BitVec 16) × List (BitVec 16) × (f28z3)) []), (6004, q1bI_3 [])], [], 0⟩) rfl rfl ⟨.refl _, .refl _, .refl _, .refl _, .refl _, trivial⟩ ⟨⟨_, rfl, .refl _⟩, ⟨_, rfl, .refl _⟩, ⟨_, rfl, .refl _⟩, ⟨_, rfl, .refl _⟩, ⟨_, rfl, .refl _⟩, ⟨_, rfl, .refl _⟩, trivial⟩)) (Le.mk (s' := ⟨107, (f28z12 x1), [(1, .cells 68 (f28z0 x1 x2 x3 x4)), (2, .cells 37 [.nils, .nils, .b16 (q1w16 0), .nils, .nils, .nils]), (5, .cells 37 (f28z1 x1 w5)), (22, q1bSW_126 [((f28z4), (((q1w16 1) <<< ((((3 : Int) + (x1 % (3 : Int)))).toNat)) - (q1w16 1)))]), (6003, bL 73 6 eT73 (default : List UInt8 × Int × BitVec 16 × List (BitVec 16) × List (BitVec 16) × (f28z3)) []), (6004, q1bI_3 [])], [], 0⟩) rfl rfl ⟨.refl _, .refl _, .refl _, .refl _, .refl _, trivial⟩ ⟨⟨_, rfl, .refl _⟩, ⟨_, rfl, .refl _⟩, ⟨_, rfl, .refl _⟩, ⟨_, rfl, .refl _⟩, ⟨_, rfl, .refl _⟩, ⟨_, rfl, .refl _⟩, trivial⟩))) h ?_
   rintro ⟨k0, n6, l7, l8⟩ h
   cases k0 with
   | zero => exact nomatch (show (none : Option (List (List UInt8) × BitVec 16 × (List Tq5) × (List (List UInt8 × Int × BitVec 16 × List (BitVec 16) × List (BitVec 16) × (List Tq1))) × List Int × (List (List UInt8 × Bool × (List Tq1))))) = some r from h)
   | succ k0 =>
   obtain ⟨C0, hC0⟩ : ∃ C, C = f28_L0 x1 x4 K2 k0 := ⟨_, rfl⟩
   replace h := (f28_L0.eq_2 ..).symm.trans h
   try rw [← hC0] at h
   refine AWp.seq ?_
   refine AWp.seq ?_
   have ob7 := idA (((decide ((n6 : Int) < (lZ x4))) == true) = true)
   have ob8 := bqA (decide ((n6 : Int) < (lZ x4))) true
   have ob9 := idA ((((decide ((n6 : Int) < (lZ x4))) && (f28z27 n6)) == false) = true)
   have ob10 := bqA ((decide ((n6 : Int) < (lZ x4))) && (f28z27 n6)) false
   refine q1rr [] [] ⟨107, [(1, .ptr 1 0), (2, .ptr 2 0), (3, .i ((3 : Int) + (x1 % (3 : Int)))), (5, .ptr 5 0), (6, .i (n6 : Int)), (45, .bool (((decide ((n6 : Int) < (lZ x4))) && (f28z27 n6)) || ((n6 : Int) == (0 : Int))))], (f28z11 x1 x2 x3 x4 w5 l7 l8), [], 0⟩ (an4 (an1 ob7) ob8 (an1 ob9) ob10) ?_
   refine tN ?_
   refine AWp.cond (b := (((decide ((n6 : Int) < (lZ x4))) && (f28z27 n6)) || ((n6 : Int) == (0 : Int)))) (by kernel_rfl) (fun hc2 => ?_) (fun hc2 => ?_)
   ·
    replace h := ite_tb hc2 h
    refine AWp.skip ?_
    refine tN ?_
    refine AWp.seq ?_
    refine AWp.block ?_
    refine AWp.seq ?_
    obtain ⟨ob11, ob12, h⟩ := ck2 h
    refine q1rr [] [] ⟨107, (f28z8 x1 n6), [(1, .cells 68 (f28z0 x1 x2 x3 x4)), (2, .cells 37 [.nils, .nils, .b16 (q1w16 0), .nils, .nils, .nils]), (5, .cells 37 (f28z1 x1 w5)), (7, .cells 129 (f28z21)), (22, q1bSW_126 [((f28z4), (((q1w16 1) <<< ((((3 : Int) + (x1 % (3 : Int)))).toNat)) - (q1w16 1)))]), (51, .rows 31 1 1 (lstF 1 [.b16 (q1w16 (((3 : Int) + (x1 % (3 : Int))) / (2 : Int)))])), (55, .rows 31 1 1 (lstF 1 [.b16 (q1w16 (((3 : Int) + (x1 % (3 : Int))) / (2 : Int)))])), (6003, bL 73 6 eT73 (default : List UInt8 × Int × BitVec 16 × List (BitVec 16) × List (BitVec 16) × (f28z3)) l7), (6004, q1bI_3 l8)], [], 0⟩ (an5 ob11 trivial ob12 trivial trivial) ?_
    refine tN ?_
    refine AWp.le (Le.mk (s' := ⟨107, (f28z8 x1 n6), [(1, .cells 68 (f28z0 x1 x2 x3 x4)), (2, .cells 37 [.nils, .nils, .b16 (q1w16 0), .nils, .nils, .nils]), (5, .cells 37 (f28z1 x1 w5)), (7, .cells 129 (f28z21)), (22, q1bSW_126 [((f28z4), (((q1w16 1) <<< ((((3 : Int) + (x1 % (3 : Int)))).toNat)) - (q1w16 1)))]), (51, q1bW_31 [(q1w16 (((3 : Int) + (x1 % (3 : Int))) / (2 : Int)))]), (55, q1bW_31 [(q1w16 (((3 : Int) + (x1 % (3 : Int))) / (2 : Int)))]), (6003, bL 73 6 eT73 (default : List UInt8 × Int × BitVec 16 × List (BitVec 16) × List (BitVec 16) × (f28z3)) l7), (6004, q1bI_3 l8)], [], 0⟩) rfl rfl ⟨.refl _, .refl _, .refl _, .refl _, .refl _, .refl _, trivial⟩ ⟨⟨_, rfl, .refl _⟩, ⟨_, rfl, .refl _⟩, ⟨_, rfl, .refl _⟩, ⟨_, rfl, .refl _⟩, ⟨_, rfl, .refl _⟩, ⟨_, rfl, (BLe.of (RL.lst (enc := eW) [(q1w16 (((3 : Int) + (x1 % (3 : Int))) / (2 : Int)))] rfl rfl (fun _ => rfl)))⟩, ⟨_, rfl, (BLe.of (RL.lst (enc := eW) [(q1w16 (((3 : Int) + (x1 % (3 : Int))) / (2 : Int)))] rfl rfl (fun _ => rfl)))⟩, ⟨_, rfl, .refl _⟩, ⟨_, rfl, .refl _⟩, trivial⟩) ?_
    obtain ⟨K3, hK3, h⟩ := jn_some h
    refine AWp.join (α := Int × Int × Int × List (BitVec 16) × List (BitVec 16) × (f28z3)) (fun (x : Int × Int × Int × List (BitVec 16) × List (BitVec 16) × (f28z3)) => match x with | (i9, i10, i11, l12, l13, l14) => ⟨107, (f28z8 x1 n6), [(1, .cells 68 (f28z0 x1 x2 x3 x4)), (2, .cells 37 [.nils, .nils, .b16 (q1w16 0), .nils, .nils, .nils]), (5, .cells 37 (f28z1 x1 w5)), (7, .cells 129 [.int .u8 i9, .int .u8 i10, .int .u8 i11, q1aW l12, q1aW l13, q1aWW l14]), (22, q1bSW_126 [((f28z4), (((q1w16 1) <<< ((((3 : Int) + (x1 % (3 : Int)))).toNat)) - (q1w16 1)))]), (6003, bL 73 6 eT73 (default : List UInt8 × Int × BitVec 16 × List (BitVec 16) × List (BitVec 16) × (f28z3)) l7), (6004, q1bI_3 l8)], [], 0⟩) (fun x => K3 x = some r) ?_ ?_
    ·
     refine q1rq [] [] ⟨107, (f28z9 x1 n6 x4), [(1, .cells 68 (f28z0 x1 x2 x3 x4)), (2, .cells 37 [.nils, .nils, .b16 (q1w16 0), .nils, .nils, .nils]), (5, .cells 37 (f28z1 x1 w5)), (7, .cells 129 (f28z21)), (22, q1bSW_126 [((f28z4), (((q1w16 1) <<< ((((3 : Int) + (x1 % (3 : Int)))).toNat)) - (q1w16 1)))]), (51, q1bW_31 [(q1w16 (((3 : Int) + (x1 % (3 : Int))) / (2 : Int)))]), (55, q1bW_31 [(q1w16 (((3 : Int) + (x1 % (3 : Int))) / (2 : Int)))]), (6003, bL 73 6 eT73 (default : List UInt8 × Int × BitVec 16 × List (BitVec 16) × List (BitVec 16) × (f28z3)) l7), (6004, q1bI_3 l8)], [], 0⟩ trivial ?_
     refine AWp.cond (b := (decide ((n6 : Int) < (lZ x4)))) (by kernel_rfl) (fun hc3 => ?_) (fun hc3 => ?_)
     ·
      replace h := ite_tb hc3 h
      obtain ⟨ob13p, h⟩ := chk_some h
      have ob13 : 0 ≤ (n6 : Int) ∧ (n6 : Int) < (((x4).length : Nat) : Int) := ⟨by omega, ob13p⟩
      refine q1rr [] [] ⟨107, (f28z8 x1 n6), [(1, .cells 68 (f28z0 x1 x2 x3 x4)), (2, .cells 37 [.nils, .nils, .b16 (q1w16 0), .nils, .nils, .nils]), (5, .cells 37 (f28z1 x1 w5)), (7, .cells 129 [.int .u8 (f28z5 x4 n6).1, .int .u8 (f28z5 x4 n6).2.1, .int .u8 (f28z5 x4 n6).2.2.1, q1aW (f28z5 x4 n6).2.2.2.1, q1aW (f28z5 x4 n6).2.2.2.2.1, q1aWW (f28z5 x4 n6).2.2.2.2.2]), (22, q1bSW_126 [((f28z4), (((q1w16 1) <<< ((((3 : Int) + (x1 % (3 : Int)))).toNat)) - (q1w16 1)))]), (6003, bL 73 6 eT73 (default : List UInt8 × Int × BitVec 16 × List (BitVec 16) × List (BitVec 16) × (f28z3)) l7), (6004, q1bI_3 l8)], [], 0⟩ (an2 ob13 trivial) ?_
      have eq14 : (x4.getD n6 q1dT129).1 = ((x4.getD n6 q1dT129).1) := by first | omega | (simp only [List.length_append, List.length_cons, List.length_nil, List.length_take, List.length_drop] at *; omega) | (simp; done) | (simp_all; done) | (simp_all; omega) | rfl
      have eq15 : (x4.getD n6 q1dT129).2.1 = ((x4.getD n6 q1dT129).2.1) := by first | omega | (simp only [List.length_append, List.length_cons, List.length_nil, List.length_take, List.length_drop] at *; omega) | (simp; done) | (simp_all; done) | (simp_all; omega) | rfl
      have eq16 : (x4.getD n6 q1dT129).2.2.1 = ((x4.getD n6 q1dT129).2.2.1) := by first | omega | (simp only [List.length_append, List.length_cons, List.length_nil, List.length_take, List.length_drop] at *; omega) | (simp; done) | (simp_all; done) | (simp_all; omega) | rfl
      have eq17 : (x4.getD n6 q1dT129).2.2.2.1 = ((x4.getD n6 q1dT129).2.2.2.1) := by first | omega | (simp only [List.length_append, List.length_cons, List.length_nil, List.length_take, List.length_drop] at *; omega) | (simp; done) | (simp_all; done) | (simp_all; omega) | rfl
      have eq18 : (x4.getD n6 q1dT129).2.2.2.2.1 = ((x4.getD n6 q1dT129).2.2.2.2.1) := by first | omega | (simp only [List.length_append, List.length_cons, List.length_nil, List.length_take, List.length_drop] at *; omega) | (simp; done) | (simp_all; done) | (simp_all; omega) | rfl
      have eq19 : (x4.getD n6 q1dT129).2.2.2.2.2 = ((x4.getD n6 q1dT129).2.2.2.2.2) := by first | omega | (simp only [List.length_append, List.length_cons, List.length_nil, List.length_take, List.length_drop] at *; omega) | (simp; done) | (simp_all; done) | (simp_all; omega) | rfl
      exact jN ((f28z5 x4 n6).1, (f28z5 x4 n6).2.1, (f28z5 x4 n6).2.2.1, (f28z5 x4 n6).2.2.2.1, (f28z5 x4 n6).2.2.2.2.1, (f28z5 x4 n6).2.2.2.2.2) (Le.mk rfl rfl ⟨.refl _, .refl _, .refl _, .refl _, .refl _, .refl _, trivial⟩ ⟨⟨_, rfl, .refl _⟩, ⟨_, rfl, .refl _⟩, ⟨_, rfl, .refl _⟩, ⟨_, rfl, (.cellsL ⟨(.int eq14), (.int eq15), (.int eq16), (.L eq17), (.L eq18), (.L eq19), trivial⟩)⟩, ⟨_, rfl, .refl _⟩, ⟨_, rfl, .refl _⟩, ⟨_, rfl, .refl _⟩, trivial⟩) h
     ·
      replace h := ite_fb hc3 h
      refine AWp.skip ?_
      exact jN ((0 : Int), (0 : Int), (1 : Int), [(q1w16 (((3 : Int) + (x1 % (3 : Int))) / (2 : Int)))], [(q1w16 (((3 : Int) + (x1 % (3 : Int))) / (2 : Int)))], []) (Le.trans (Le.trans (Le.freeze 51 rfl rfl) (Le.mk (s' := ⟨107, (f28z9 x1 n6 x4), [(1, .cells 68 (f28z0 x1 x2 x3 x4)), (2, .cells 37 [.nils, .nils, .b16 (q1w16 0), .nils, .nils, .nils]), (5, .cells 37 (f28z1 x1 w5)), (7, .cells 129 [.int .u8 (0 : Int), .int .u8 (0 : Int), .int .u8 (1 : Int), q1aW [(q1w16 (((3 : Int) + (x1 % (3 : Int))) / (2 : Int)))], .own 55, .nils]), (22, q1bSW_126 [((f28z4), (((q1w16 1) <<< ((((3 : Int) + (x1 % (3 : Int)))).toNat)) - (q1w16 1)))]), (55, q1bW_31 [(q1w16 (((3 : Int) + (x1 % (3 : Int))) / (2 : Int)))]), (6003, bL 73 6 eT73 (default : List UInt8 × Int × BitVec 16 × List (BitVec 16) × List (BitVec 16) × (f28z3)) l7), (6004, q1bI_3 l8)], [], 0⟩) rfl rfl ⟨.refl _, .refl _, .refl _, .refl _, .refl _, .refl _, .refl _, trivial⟩ ⟨⟨_, rfl, .refl _⟩, ⟨_, rfl, .refl _⟩, ⟨_, rfl, .refl _⟩, ⟨_, rfl, .refl _⟩, ⟨_, rfl, .refl _⟩, ⟨_, rfl, .refl _⟩, ⟨_, rfl, .refl _⟩, ⟨_, rfl, .refl _⟩, trivial⟩)) (Le.trans (Le.trans (Le.freeze 55 rfl rfl) (Le.mk (s' := ⟨107, (f28z9 x1 n6 x4), [(1, .cells 68 (f28z0 x1 x2 x3 x4)), (2, .cells 37 [.nils, .nils, .b16 (q1w16 0), .nils, .nils, .nils]), (5, .cells 37 (f28z1 x1 w5)), (7, .cells 129 [.int .u8 (0 : Int), .int .u8 (0 : Int), .int .u8 (1 : Int), q1aW [(q1w16 (((3 : Int) + (x1 % (3 : Int))) / (2 : Int)))], q1aW [(q1w16 (((3 : Int) + (x1 % (3 : Int))) / (2 : Int)))], .nils]), (22, q1bSW_126 [((f28z4), (((q1w16 1) <<< ((((3 : Int) + (x1 % (3 : Int)))).toNat)) - (q1w16 1)))]), (6003, bL 73 6 eT73 (default : List UInt8 × Int × BitVec 16 × List (BitVec 16) × List (BitVec 16) × (f28z3)) l7), (6004, q1bI_3 l8)], [], 0⟩) rfl rfl ⟨.refl _, .refl _, .refl _, .refl _, .refl _, .refl _, .refl _, trivial⟩ ⟨⟨_, rfl, .refl _⟩, ⟨_, rfl, .refl _⟩, ⟨_, rfl, .refl _⟩, ⟨_, rfl, .refl _⟩, ⟨_, rfl, .refl _⟩, ⟨_, rfl, .refl _⟩, ⟨_, rfl, .refl _⟩, trivial⟩)) (Le.mk rfl rfl ⟨.refl _, .refl _, .refl _, .refl _, .refl _, .refl _, trivial⟩ ⟨⟨_, rfl, .refl _⟩, ⟨_, rfl, .refl _⟩, ⟨_, rfl, .refl _⟩, ⟨_, rfl, (.cellsL ⟨.refl _, .refl _, .refl _, .refl _, .refl _, .nilL, trivial⟩)⟩, ⟨_, rfl, .refl _⟩, ⟨_, rfl, .refl _⟩, ⟨_, rfl, .refl _⟩, trivial⟩))) h
    ·
     rintro ⟨i9, i10, i11, l12, l13, l14⟩ h
     replace h := (congrFun hK3 _).symm.trans h
     refine AWp.seq ?_
     obtain ⟨ob20, ob21, h⟩ := ck2 h
     refine q1rr [] [] ⟨107, (f28z8 x1 n6), [(1, .cells 68 (f28z0 x1 x2 x3 x4)), (2, .cells 37 [.nils, .nils, .b16 (q1w16 0), .nils, .nils, .nils]), (5, .cells 37 (f28z1 x1 w5)), (7, .cells 129 [.int .u8 i9, .int .u8 (((3 : Int) + (x1 % (3 : Int))) - (1 : Int)), .int .u8 i11, q1aW l12, q1aW l13, q1aWW l14]), (22, q1bSW_126 [((f28z4), (((q1w16 1) <<< ((((3 : Int) + (x1 % (3 : Int)))).toNat)) - (q1w16 1)))]), (6003, bL 73 6 eT73 (default : List UInt8 × Int × BitVec 16 × List (BitVec 16) × List (BitVec 16) × (f28z3)) l7), (6004, q1bI_3 l8)], [], 0⟩ (an3 ob20 ob21 trivial) ?_
     refine tN ?_
     refine AWp.seq ?_
     obtain ⟨r15, hr15, h⟩ := bind_ok h
     obtain ⟨ob22p, h⟩ := chk_some h
     have ob22 : 0 ≤ (n6 : Int) ∧ (n6 : Int) < (2 : Int) := ⟨by omega, ob22p⟩
     obtain ⟨ob23, ob24, h⟩ := ck2 h
     refine q1rr [] [(6, ⟨[], [], [], [], .str (([([99, 48] : List UInt8), ([99, 49] : List UInt8)] : List (List UInt8)).getD n6 []), [], [0], []⟩), (7, ⟨[.agg [.int .u8 i9, .int .u8 (((3 : Int) + (x1 % (3 : Int))) - (1 : Int)), .int .u8 i11, q1aW l12, q1aW l13, q1aWW l14], .str (([([99, 48] : List UInt8), ([99, 49] : List UInt8)] : List (List UInt8)).getD n6 [])], [], [], [], .agg [.str r15.1, .i r15.2.1, .b16 r15.2.2.1, q1aW r15.2.2.2.1, q1aW r15.2.2.2.2.1, q1aWW r15.2.2.2.2.2], [], [], []⟩)] ⟨107, (f28z14 x1 n6), [(1, .cells 68 (f28z0 x1 x2 x3 x4)), (2, .cells 37 [.nils, .nils, .b16 (q1w16 0), .nils, .nils, .nils]), (5, .cells 37 (f28z1 x1 w5)), (22, q1bSW_126 [((f28z4), (((q1w16 1) <<< ((((3 : Int) + (x1 % (3 : Int)))).toNat)) - (q1w16 1)))]), (6003, .rows 73 6 ((l7).length + 1) (appF (l7).length (encF eT73 (default : List UInt8 × Int × BitVec 16 × List (BitVec 16) × List (BitVec 16) × (f28z3)) l7) (lstF 6 [.str r15.1, .i r15.2.1, .b16 r15.2.2.1, q1aW r15.2.2.2.1, q1aW r15.2.2.2.2.1, q1aWW r15.2.2.2.2.2]))), (6004, q1bI_3 l8)], [], 0⟩ (an5 ob22 (And.intro ob23 (show ((lstF 1 [.str ([99, 48] : List UInt8), .str ([99, 49] : List UInt8)]) n6 0 : V) = .str (([([99, 48] : List UInt8), ([99, 49] : List UInt8)] : List (List UInt8)).getD n6 []) from (lst_at eS [] 1 ([([99, 48] : List UInt8), ([99, 49] : List UInt8)] : List (List UInt8)) (fun _ => rfl) (show n6 < 2 from by assumption) (j := 0) (by decide)))) (cpT (f54_ok _ _ _ _ _ _ _ _ hr15)) ob24 trivial) ?_
     refine tN ?_
     refine AWp.le (Le.mk (s' := ⟨107, (f28z14 x1 n6), [(1, .cells 68 (f28z0 x1 x2 x3 x4)), (2, .cells 37 [.nils, .nils, .b16 (q1w16 0), .nils, .nils, .nils]), (5, .cells 37 (f28z1 x1 w5)), (22, q1bSW_126 [((f28z4), (((q1w16 1) <<< ((((3 : Int) + (x1 % (3 : Int)))).toNat)) - (q1w16 1)))]), (6003, bL 73 6 eT73 (default : List UInt8 × Int × BitVec 16 × List (BitVec 16) × List (BitVec 16) × (f28z3)) (l7 ++ [(r15.1, r15.2.1, r15.2.2.1, r15.2.2.2.1, r15.2.2.2.2.1, r15.2.2.2.2.2)])), (6004, q1bI_3 l8)], [], 0⟩) rfl rfl ⟨.refl _, .refl _, .refl _, .refl _, .refl _, trivial⟩ ⟨⟨_, rfl, .refl _⟩, ⟨_, rfl, .refl _⟩, ⟨_, rfl, .refl _⟩, ⟨_, rfl, .refl _⟩, ⟨_, rfl, (BLe.of (RL.app (RL.self _) (RL.lstV (enc := eT73) [(r15.1, r15.2.1, r15.2.2.1, r15.2.2.2.1, r15.2.2.2.2.1, r15.2.2.2.2.2)] rfl ⟨.refl _, .refl _, .refl _, .refl _, .refl _, .refl _, trivial⟩ (fun _ => rfl))))⟩, ⟨_, rfl, .refl _⟩, trivial⟩) ?_
     obtain ⟨ob25, h⟩ := chk_some h
     refine q1rr [] [] ⟨107, (f28z14 x1 n6), [(1, .cells 68 (f28z0 x1 x2 x3 x4)), (2, .cells 37 [.nils, .nils, .b16 (q1w16 0), .nils, .nils, .nils]), (5, .cells 37 (f28z1 x1 w5)), (22, q1bSW_126 [((f28z4), (((q1w16 1) <<< ((((3 : Int) + (x1 % (3 : Int)))).toNat)) - (q1w16 1)))]), (6003, bL 73 6 eT73 (default : List UInt8 × Int × BitVec 16 × List (BitVec 16) × List (BitVec 16) × (f28z3)) (l7 ++ [(r15.1, r15.2.1, r15.2.2.1, r15.2.2.2.1, r15.2.2.2.2.1, r15.2.2.2.2.2)])), (6004, .rows 3 1 ((l8).length + 1) (appF (l8).length (encF eI 0 l8) (lstF 1 [.i (n6 : Int)])))], [], 0⟩ (an2 ob25 trivial) ?_
     refine kN ?_
     refine tN ?_
     refine AWp.le (Le.mk (s' := ⟨107, (f28z14 x1 n6), (f28z10 x1 x2 x3 x4 w5 l7 r15 l8 n6), [], 0⟩) rfl rfl ⟨.refl _, .refl _, .refl _, .refl _, .refl _, trivial⟩ ⟨⟨_, rfl, .refl _⟩, ⟨_, rfl, .refl _⟩, ⟨_, rfl, .refl _⟩, ⟨_, rfl, .refl _⟩, ⟨_, rfl, .refl _⟩, ⟨_, rfl, (BLe.of (RL.app (RL.self _) (RL.lst (enc := eI) [(n6 : Int)] rfl rfl (fun _ => rfl))))⟩, trivial⟩) ?_
     obtain ⟨ob26p, h⟩ := chk_some h
     have ob26 : -9223372036854775808 ≤ ((n6 : Int) + (1 : Int)) ∧ ((n6 : Int) + (1 : Int)) ≤ 9223372036854775807 := ⟨by omega, ob26p⟩
     refine q1rr [] [] ⟨107, [(1, .ptr 1 0), (2, .ptr 2 0), (3, .i ((3 : Int) + (x1 % (3 : Int)))), (5, .ptr 5 0), (6, .i (((n6 + 1) : Nat) : Int))], (f28z10 x1 x2 x3 x4 w5 l7 r15 l8 n6), [], 0⟩ (an1 ob26) ?_
     rw [hC0] at h
     exact lN (_, (n6 + 1), (l7 ++ [(r15.1, r15.2.1, r15.2.2.1, r15.2.2.2.1, r15.2.2.2.2.1, r15.2.2.2.2.2)]), (l8 ++ [(n6 : Int)])) (Le.mk rfl rfl ⟨.refl _, .refl _, .refl _, .refl _, .refl _, trivial⟩ ⟨⟨_, rfl, .refl _⟩, ⟨_, rfl, .refl _⟩, ⟨_, rfl, .refl _⟩, ⟨_, rfl, .refl _⟩, ⟨_, rfl, .refl _⟩, ⟨_, rfl, .refl _⟩, trivial⟩) h (Nat.lt_succ_self _)
   ·
    replace h := ite_fb hc2 h
    refine AWp.exit ?_
    refine tE ?_
    refine tE ?_
    refine kS ?_
    exact jN (l7, l8) (Le.mk rfl rfl ⟨.refl _, .refl _, .refl _, trivial⟩ ⟨⟨_, rfl, .refl _⟩, ⟨_, rfl, .refl _⟩, ⟨_, rfl, .refl _⟩, ⟨_, rfl, .refl _⟩, ⟨_, rfl, .refl _⟩, ⟨_, rfl, .refl _⟩, trivial⟩) h
  ·
   rintro ⟨l16, l17⟩ h
   replace h := (congrFun hK2 _).symm.trans h
   obtain ⟨K4, hK4, h⟩ := jn_some h
   refine AWp.join (α := List (List UInt8 × Bool × (f28z3))) (fun (l20 : List (List UInt8 × Bool × (f28z3))) => ⟨107, [(2, .ptr 2 0), (5, .ptr 5 0)], [(2, .cells 37 [.nils, .nils, .b16 (q1w16 0), .nils, .nils, .nils]), (5, .cells 37 (f28z2 x1 w5)), (22, q1bSW_126 [((f28z4), (((q1w16 1) <<< ((((3 : Int) + (x1 % (3 : Int)))).toNat)) - (q1w16 1)))]), (6003, bL 73 6 eT73 (default : List UInt8 × Int × BitVec 16 × List (BitVec 16) × List (BitVec 16) × (f28z3)) l16), (6004, q1bI_3 l17), (6005, bL 132 3 eSBLWWJ (default : List UInt8 × Bool × (f28z3)) l20)], [], 0⟩) (fun x => K4 x = some r) ?_ ?_
   ·
    refine q1rq [] [] ⟨107, (f28z22), (f28z13 x1 x2 x3 x4 w5 l16 l17), [], 0⟩ trivial ?_
    refine AWp.block ?_
    refine AWp.loopL (α := Nat × (Nat × (List (List UInt8 × Bool × (f28z3))))) (fun x => match x with | (_, n18, l19) => ⟨107, (f28z28 n18), [(1, .cells 68 (f28z0 x1 x2 x3 x4)), (2, .cells 37 [.nils, .nils, .b16 (q1w16 0), .nils, .nils, .nils]), (5, .cells 37 (f28z2 x1 w5)), (22, q1bSW_126 [((f28z4), (((q1w16 1) <<< ((((3 : Int) + (x1 % (3 : Int)))).toNat)) - (q1w16 1)))]), (6003, bL 73 6 eT73 (default : List UInt8 × Int × BitVec 16 × List (BitVec 16) × List (BitVec 16) × (f28z3)) l16), (6004, q1bI_3 l17), (6005, bL 132 3 eSBLWWJ (default : List UInt8 × Bool × (f28z3)) l19)], [], 0⟩) (fun x => f28_L1 x3 K4 x.1 x.2 = some r) (fun x => x.1) (FUEL, 0, []) (Le.trans (Le.trans (Le.nilOwnC 5 5 6005 132 3 (encF eSBLWWJ (default : List UInt8 × Bool × (f28z3)) []) rfl rfl rfl) (Le.mk (s' := ⟨107, (f28z22), [(1, .cells 68 (f28z0 x1 x2 x3 x4)), (2, .cells 37 [.nils, .nils, .b16 (q1w16 0), .nils, .nils, .nils]), (5, .cells 37 (f28z2 x1 w5)), (22, q1bSW_126 [((f28z4), (((q1w16 1) <<< ((((3 : Int) + (x1 % (3 : Int)))).toNat)) - (q1w16 1)))]), (6003, bL 73 6 eT73 (default : List UInt8 × Int × BitVec 16 × List (BitVec 16) × List (BitVec 16) × (f28z3)) l16), (6004, q1bI_3 l17), (6005, bL 132 3 eSBLWWJ (default : List UInt8 × Bool × (f28z3)) [])], [], 0⟩) rfl rfl ⟨.refl _, .refl _, .refl _, .refl _, trivial⟩ ⟨⟨_, rfl, .refl _⟩, ⟨_, rfl, .refl _⟩, ⟨_, rfl, .refl _⟩, ⟨_, rfl, .refl _⟩, ⟨_, rfl, .refl _⟩, ⟨_, rfl, .refl _⟩, ⟨_, rfl, .refl _⟩, trivial⟩)) (Le.mk (s' := ⟨107, (f28z22), [(1, .cells 68 (f28z0 x1 x2 x3 x4)), (2, .cells 37 [.nils, .nils, .b16 (q1w16 0), .nils, .nils, .nils]), (5, .cells 37 (f28z2 x1 w5)), (22, q1bSW_126 [((f28z4), (((q1w16 1) <<< ((((3 : Int) + (x1 % (3 : Int)))).toNat)) - (q1w16 1)))]), (6003, bL 73 6 eT73 (default : List UInt8 × Int × BitVec 16 × List (BitVec 16) × List (BitVec 16) × (f28z3)) l16), (6004, q1bI_3 l17), (6005, bL 132 3 eSBLWWJ (default : List UInt8 × Bool × (f28z3)) [])], [], 0⟩) rfl rfl ⟨.refl _, .refl _, .refl _, .refl _, trivial⟩ ⟨⟨_, rfl, .refl _⟩, ⟨_, rfl, .refl _⟩, ⟨_, rfl, .refl _⟩, ⟨_, rfl, .refl _⟩, ⟨_, rfl, .refl _⟩, ⟨_, rfl, .refl _⟩, ⟨_, rfl, .refl _⟩, trivial⟩)) h ?_
    rintro ⟨k1, n18, l19⟩ h
    cases k1 with
    | zero => exact nomatch (show (none : Option (List (List UInt8) × BitVec 16 × (List Tq5) × (List (List UInt8 × Int × BitVec 16 × List (BitVec 16) × List (BitVec 16) × (List Tq1))) × List Int × (List (List UInt8 × Bool × (List Tq1))))) = some r from h)
    | succ k1 =>
    obtain ⟨C1, hC1⟩ : ∃ C, C = f28_L1 x3 K4 k1 := ⟨_, rfl⟩
    replace h := (f28_L1.eq_2 ..).symm.trans h
    try rw [← hC1] at h
    refine AWp.seq ?_
    refine AWp.seq ?_
    obtain ⟨ob27, ob28, h⟩ := ck2 h
    refine q1rr [] [] ⟨107, [(1, .ptr 1 0), (2, .ptr 2 0), (5, .ptr 5 0), (8, .i (n18 : Int)), (93, .bool (decide ((n18 : Int) < (x3 % (3 : Int)))))], [(1, .cells 68 (f28z0 x1 x2 x3 x4)), (2, .cells 37 [.nils, .nils, .b16 (q1w16 0), .nils, .nils, .nils]), (5, .cells 37 (f28z2 x1 w5)), (22, q1bSW_126 [((f28z4), (((q1w16 1) <<< ((((3 : Int) + (x1 % (3 : Int)))).toNat)) - (q1w16 1)))]), (6003, bL 73 6 eT73 (default : List UInt8 × Int × BitVec 16 × List (BitVec 16) × List (BitVec 16) × (f28z3)) l16), (6004, q1bI_3 l17), (6005, bL 132 3 eSBLWWJ (default : List UInt8 × Bool × (f28z3)) l19)], [], 0⟩ (an2 ob27 ob28) ?_
    refine tN ?_
    refine AWp.cond (b := (decide ((n18 : Int) < (x3 % (3 : Int))))) (by kernel_rfl) (fun hc4 => ?_) (fun hc4 => ?_)
    ·
     replace h := ite_tb hc4 h
     refine AWp.skip ?_
     refine tN ?_
     refine AWp.seq ?_
     refine AWp.block ?_
     obtain ⟨ob29p, h⟩ := chk_some h
     have ob29 : 0 ≤ (n18 : Int) ∧ (n18 : Int) < (2 : Int) := ⟨by omega, ob29p⟩
     obtain ⟨ob30, ob31, h⟩ := ck2 h
     refine q1rr [] [(5, ⟨[], [], [], [], .str (([(f28z25), (f28z26)] : List (List UInt8)).getD n18 []), [], [0], []⟩)] ⟨107, (f28z28 n18), [(1, .cells 68 (f28z0 x1 x2 x3 x4)), (2, .cells 37 [.nils, .nils, .b16 (q1w16 0), .nils, .nils, .nils]), (5, .cells 37 (f28z2 x1 w5)), (22, q1bSW_126 [((f28z4), (((q1w16 1) <<< ((((3 : Int) + (x1 % (3 : Int)))).toNat)) - (q1w16 1)))]), (6003, bL 73 6 eT73 (default : List UInt8 × Int × BitVec 16 × List (BitVec 16) × List (BitVec 16) × (f28z3)) l16), (6004, q1bI_3 l17), (6005, .rows 132 3 ((l19).length + 1) (appF (l19).length (encF eSBLWWJ (default : List UInt8 × Bool × (f28z3)) l19) (lstF 3 [.str (([(f28z25), (f28z26)] : List (List UInt8)).getD n18 []), .bool true, .nils])))], [], 0⟩ (an4 ob29 (And.intro ob30 (show ((lstF 1 [.str (f28z25), .str (f28z26)]) n18 0 : V) = .str (([(f28z25), (f28z26)] : List (List UInt8)).getD n18 []) from (lst_at eS [] 1 ([(f28z25), (f28z26)] : List (List UInt8)) (fun _ => rfl) (show n18 < 2 from by assumption) (j := 0) (by decide)))) ob31 trivial) ?_
     refine kN ?_
     refine tN ?_
     refine AWp.le (Le.mk (s' := ⟨107, (f28z28 n18), [(1, .cells 68 (f28z0 x1 x2 x3 x4)), (2, .cells 37 [.nils, .nils, .b16 (q1w16 0), .nils, .nils, .nils]), (5, .cells 37 (f28z2 x1 w5)), (22, q1bSW_126 [((f28z4), (((q1w16 1) <<< ((((3 : Int) + (x1 % (3 : Int)))).toNat)) - (q1w16 1)))]), (6003, bL 73 6 eT73 (default : List UInt8 × Int × BitVec 16 × List (BitVec 16) × List (BitVec 16) × (f28z3)) l16), (6004, q1bI_3 l17), (6005, bL 132 3 eSBLWWJ (default : List UInt8 × Bool × (f28z3)) (l19 ++ [((([(f28z25), (f28z26)] : List (List UInt8)).getD n18 []), true, [])]))], [], 0⟩) rfl rfl ⟨.refl _, .refl _, .refl _, .refl _, trivial⟩ ⟨⟨_, rfl, .refl _⟩, ⟨_, rfl, .refl _⟩, ⟨_, rfl, .refl _⟩, ⟨_, rfl, .refl _⟩, ⟨_, rfl, .refl _⟩, ⟨_, rfl, .refl _⟩, ⟨_, rfl, (BLe.of (RL.app (RL.self _) (RL.lstV (enc := eSBLWWJ) [((([(f28z25), (f28z26)] : List (List UInt8)).getD n18 []), true, [])] rfl ⟨.refl _, .refl _, .nilL, trivial⟩ (fun _ => rfl))))⟩, trivial⟩) ?_
     obtain ⟨ob32p, h⟩ := chk_some h
     have ob32 : -9223372036854775808 ≤ ((n18 : Int) + (1 : Int)) ∧ ((n18 : Int) + (1 : Int)) ≤ 9223372036854775807 := ⟨by omega, ob32p⟩
     refine q1rr [] [] ⟨107, [(1, .ptr 1 0), (2, .ptr 2 0), (5, .ptr 5 0), (8, .i (((n18 + 1) : Nat) : Int))], [(1, .cells 68 (f28z0 x1 x2 x3 x4)), (2, .cells 37 [.nils, .nils, .b16 (q1w16 0), .nils, .nils, .nils]), (5, .cells 37 (f28z2 x1 w5)), (22, q1bSW_126 [((f28z4), (((q1w16 1) <<< ((((3 : Int) + (x1 % (3 : Int)))).toNat)) - (q1w16 1)))]), (6003, bL 73 6 eT73 (default : List UInt8 × Int × BitVec 16 × List (BitVec 16) × List (BitVec 16) × (f28z3)) l16), (6004, q1bI_3 l17), (6005, bL 132 3 eSBLWWJ (default : List UInt8 × Bool × (f28z3)) (l19 ++ [((([(f28z25), (f28z26)] : List (List UInt8)).getD n18 []), true, [])]))], [], 0⟩ (an1 ob32) ?_
     rw [hC1] at h
     exact lN (_, (n18 + 1), (l19 ++ [((([(f28z25), (f28z26)] : List (List UInt8)).getD n18 []), true, [])])) (Le.mk rfl rfl ⟨.refl _, .refl _, .refl _, .refl _, trivial⟩ ⟨⟨_, rfl, .refl _⟩, ⟨_, rfl, .refl _⟩, ⟨_, rfl, .refl _⟩, ⟨_, rfl, .refl _⟩, ⟨_, rfl, .refl _⟩, ⟨_, rfl, .refl _⟩, ⟨_, rfl, .refl _⟩, trivial⟩) h (Nat.lt_succ_self _)
    ·
     replace h := ite_fb hc4 h
     refine AWp.exit ?_
     refine tE ?_
     refine tE ?_
     refine kS ?_
     exact jN (l19) (Le.mk rfl rfl ⟨.refl _, .refl _, trivial⟩ ⟨⟨_, rfl, .refl _⟩, ⟨_, rfl, .refl _⟩, ⟨_, rfl, .refl _⟩, ⟨_, rfl, .refl _⟩, ⟨_, rfl, .refl _⟩, ⟨_, rfl, .refl _⟩, trivial⟩) h
   ·
    rintro l20 h
    replace h := (congrFun hK4 _).symm.trans h
    refine q1rq [] [] ⟨107, [(2, .ptr 2 0)], [(2, .cells 37 (f28z2 x1 w5)), (22, q1bSW_126 [((f28z4), (((q1w16 1) <<< ((((3 : Int) + (x1 % (3 : Int)))).toNat)) - (q1w16 1)))]), (6003, bL 73 6 eT73 (default : List UInt8 × Int × BitVec 16 × List (BitVec 16) × List (BitVec 16) × (f28z3)) l16), (6004, q1bI_3 l17), (6005, bL 132 3 eSBLWWJ (default : List UInt8 × Bool × (f28z3)) l20)], [], 0⟩ (an1 trivial) ?_
    refine AWp.le (Le.trans (Le.ren (swapN 22 3000) (swapN_inv 22 3000) rfl) (Le.mk (s' := ⟨107, [(2, .ptr 2 0)], [(2, .cells 37 [q1aS (([(f28z16), (f28z17), (f28z18), (f28z19), (f28z20)]).take ((((3 : Int) + (x1 % (3 : Int)))).toNat)), .own 3000, .b16 w5, .own 6003, .own 6004, .own 6005]), (3000, q1bSW_126 [((f28z4), (((q1w16 1) <<< ((((3 : Int) + (x1 % (3 : Int)))).toNat)) - (q1w16 1)))]), (6003, bL 73 6 eT73 (default : List UInt8 × Int × BitVec 16 × List (BitVec 16) × List (BitVec 16) × (f28z3)) l16), (6004, q1bI_3 l17), (6005, bL 132 3 eSBLWWJ (default : List UInt8 × Bool × (f28z3)) l20)], [], 0⟩) rfl rfl ⟨.refl _, trivial⟩ ⟨⟨_, rfl, .refl _⟩, ⟨_, rfl, .refl _⟩, ⟨_, rfl, .refl _⟩, ⟨_, rfl, .refl _⟩, ⟨_, rfl, .refl _⟩, trivial⟩)) ?_
    refine AWp.le (Le.trans (Le.ren (swapN 6003 3001) (swapN_inv 6003 3001) rfl) (Le.mk (s' := ⟨107, [(2, .ptr 2 0)], [(2, .cells 37 [q1aS (([(f28z16), (f28z17), (f28z18), (f28z19), (f28z20)]).take ((((3 : Int) + (x1 % (3 : Int)))).toNat)), .own 3000, .b16 w5, .own 3001, .own 6004, .own 6005]), (3000, q1bSW_126 [((f28z4), (((q1w16 1) <<< ((((3 : Int) + (x1 % (3 : Int)))).toNat)) - (q1w16 1)))]), (3001, bL 73 6 eT73 (default : List UInt8 × Int × BitVec 16 × List (BitVec 16) × List (BitVec 16) × (f28z3)) l16), (6004, q1bI_3 l17), (6005, bL 132 3 eSBLWWJ (default : List UInt8 × Bool × (f28z3)) l20)], [], 0⟩) rfl rfl ⟨.refl _, trivial⟩ ⟨⟨_, rfl, .refl _⟩, ⟨_, rfl, .refl _⟩, ⟨_, rfl, .refl _⟩, ⟨_, rfl, .refl _⟩, ⟨_, rfl, .refl _⟩, trivial⟩)) ?_
    refine AWp.le (Le.trans (Le.ren (swapN 6004 3002) (swapN_inv 6004 3002) rfl) (Le.mk (s' := ⟨107, [(2, .ptr 2 0)], [(2, .cells 37 [q1aS (([(f28z16), (f28z17), (f28z18), (f28z19), (f28z20)]).take ((((3 : Int) + (x1 % (3 : Int)))).toNat)), .own 3000, .b16 w5, .own 3001, .own 3002, .own 6005]), (3000, q1bSW_126 [((f28z4), (((q1w16 1) <<< ((((3 : Int) + (x1 % (3 : Int)))).toNat)) - (q1w16 1)))]), (3001, bL 73 6 eT73 (default : List UInt8 × Int × BitVec 16 × List (BitVec 16) × List (BitVec 16) × (f28z3)) l16), (3002, q1bI_3 l17), (6005, bL 132 3 eSBLWWJ (default : List UInt8 × Bool × (f28z3)) l20)], [], 0⟩) rfl rfl ⟨.refl _, trivial⟩ ⟨⟨_, rfl, .refl _⟩, ⟨_, rfl, .refl _⟩, ⟨_, rfl, .refl _⟩, ⟨_, rfl, .refl _⟩, ⟨_, rfl, .refl _⟩, trivial⟩)) ?_
    refine AWp.le (Le.trans (Le.ren (swapN 6005 3003) (swapN_inv 6005 3003) rfl) (Le.mk (s' := ⟨107, [(2, .ptr 2 0)], [(2, .cells 37 [q1aS (([(f28z16), (f28z17), (f28z18), (f28z19), (f28z20)]).take ((((3 : Int) + (x1 % (3 : Int)))).toNat)), .own 3000, .b16 w5, .own 3001, .own 3002, .own 3003]), (3000, q1bSW_126 [((f28z4), (((q1w16 1) <<< ((((3 : Int) + (x1 % (3 : Int)))).toNat)) - (q1w16 1)))]), (3001, bL 73 6 eT73 (default : List UInt8 × Int × BitVec 16 × List (BitVec 16) × List (BitVec 16) × (f28z3)) l16), (3002, q1bI_3 l17), (3003, bL 132 3 eSBLWWJ (default : List UInt8 × Bool × (f28z3)) l20)], [], 0⟩) rfl rfl ⟨.refl _, trivial⟩ ⟨⟨_, rfl, .refl _⟩, ⟨_, rfl, .refl _⟩, ⟨_, rfl, .refl _⟩, ⟨_, rfl, .refl _⟩, ⟨_, rfl, .refl _⟩, trivial⟩)) ?_
    have hret := Option.some.inj h
    subst hret
    refine AWp.le (Le.mk (s' := ⟨107, [(2, .ptr 2 0)], [(3000, q1bSW_126 [((f28z4), (((q1w16 1) <<< ((((3 : Int) + (x1 % (3 : Int)))).toNat)) - (q1w16 1)))]), (3001, bL 73 6 eT73 (default : List UInt8 × Int × BitVec 16 × List (BitVec 16) × List (BitVec 16) × (f28z3)) l16), (3002, q1bI_3 l17), (3003, bL 132 3 eSBLWWJ (default : List UInt8 × Bool × (f28z3)) l20), (2, .cells 37 [q1aS (([(f28z16), (f28z17), (f28z18), (f28z19), (f28z20)]).take ((((3 : Int) + (x1 % (3 : Int)))).toNat)), .own 3000, .b16 w5, .own 3001, .own 3002, .own 3003])], [], 0⟩) rfl rfl ⟨.refl _, trivial⟩ ⟨⟨_, rfl, .refl _⟩, ⟨_, rfl, .refl _⟩, ⟨_, rfl, .refl _⟩, ⟨_, rfl, .refl _⟩, ⟨_, rfl, .refl _⟩, trivial⟩) ?_
    refine AWp.ret ?_
    exact bR _ rfl ⟨rfl, rfl⟩ rfl
abbrev f52z0 (x1 : Int) (x2 : Int) (x3 : Int) (x4 : Int) (x5 : Int) (x6 : List UInt8) (x7 : List UInt8) : Heap := [(1, .cells 51 [.int .i64 x1, .int .i64 x2, .int .i64 x3, .int .i64 x4, .int .i64 x5, .str x6, .str x7, .opq, .opq, .opq, .opq, .opq, .opq, .opq, .opq, .opq, .opq, .opq, .opq, .opq, .opq, .opq, .opq, .opq, .opq, .opq, .opq, .opq])]
abbrev f52z1 (x2 : Int) (x3 : Int) := ((x2 == (4 : Int)) && (decide (x3 ≥ (0 : Int))))
abbrev f52z2 (x2 : Int) (x3 : Int) := ((x2 == (3 : Int)) && (decide (x3 ≥ (0 : Int))))
def f52 (x1 : Int) (x2 : Int) (x3 : Int) (x4 : Int) (x5 : Int) (x6 : List UInt8) (x7 : List UInt8) : Option Int :=
 if (((x2 == (4 : Int)) && (decide (x3 ≥ (0 : Int)))) && (decide (x3 < (12 : Int)))) then (
 some x3
 ) else (
 if (((x2 == (3 : Int)) && (decide (x3 ≥ (0 : Int)))) && (decide (x3 < (6 : Int)))) then (
 chk (-9223372036854775808 ≤ ((12 : Int) + x3) ∧ ((12 : Int) + x3) ≤ 9223372036854775807) <|
 some ((12 : Int) + x3)
 ) else (
 some (-1 : Int)
 )
 )
theorem f52_ok  (x1 : Int) (x2 : Int) (x3 : Int) (x4 : Int) (x5 : Int) (x6 : List UInt8) (x7 : List UInt8) (r : Int) (h : f52 x1 x2 x3 x4 x5 x6 x7 = some r)  : Spec1 Tryz.prog 52 [] [] [] [.agg [.int .i64 x1, .int .i64 x2, .int .i64 x3, .int .i64 x4, .int .i64 x5, .str x6, .str x7, .opq, .opq, .opq, .opq, .opq, .opq, .opq, .opq, .opq, .opq, .opq, .opq, .opq, .opq, .opq, .opq, .opq, .opq, .opq, .opq, .opq]] (.int .i64 r) [] := by
 unfold f52 at h
 refine Spec1.body 0 _ _ Tryz.func52 rfl Tryz.ntmps52 rfl rfl ?_
 refine q1rq [] [] ⟨34, [(1, .ptr 1 0)], (f52z0 x1 x2 x3 x4 x5 x6 x7), [], 0⟩ trivial ?_
 refine AWp.seq ?_
 refine AWp.seq ?_
 have ob0 := idA (((x2 == (4 : Int)) == true) = true)
 have ob1 := idA (((x2 == (4 : Int)) == true) = true)
 have ob2 := bqA (x2 == (4 : Int)) true
 have ob3 := idA (((f52z1 x2 x3) == true) = true)
 have ob4 := idA (((f52z1 x2 x3) == true) = true)
 have ob5 := bqA (f52z1 x2 x3) true
 refine q1rr [] [] ⟨34, [(1, .ptr 1 0), (15, .bool ((f52z1 x2 x3) && (decide (x3 < (12 : Int)))))], (f52z0 x1 x2 x3 x4 x5 x6 x7), [], 0⟩ (an6 (an1 ob0) (an1 ob1) ob2 (an1 ob3) (an1 ob4) ob5) ?_
 refine tN ?_
 refine AWp.cond (b := ((f52z1 x2 x3) && (decide (x3 < (12 : Int))))) (by kernel_rfl) (fun hc1 => ?_) (fun hc1 => ?_)
 ·
  replace h := ite_tb hc1 h
  refine q1rq [] [] ⟨34, [(2, .i x3)], [], [], 0⟩ trivial ?_
  have hret := Option.some.inj h
  subst hret
  refine AWp.le (Le.mk (s' := ⟨34, [(2, .i x3)], [], [], 0⟩) rfl rfl ⟨.refl _, trivial⟩ trivial) ?_
  refine AWp.ret ?_
  refine tR ?_
  exact bR _ rfl ⟨rfl, rfl⟩ rfl
 ·
  replace h := ite_fb hc1 h
  refine AWp.skip ?_
  refine tN ?_
  refine AWp.seq ?_
  refine AWp.seq ?_
  have ob6 := idA (((x2 == (3 : Int)) == true) = true)
  have ob7 := idA (((x2 == (3 : Int)) == true) = true)
  have ob8 := bqA (x2 == (3 : Int)) true
  have ob9 := idA (((f52z2 x2 x3) == true) = true)
  have ob10 := idA (((f52z2 x2 x3) == true) = true)
  have ob11 := bqA (f52z2 x2 x3) true
  refine q1rr [] [] ⟨34, [(1, .ptr 1 0), (30, .bool ((f52z2 x2 x3) && (decide (x3 < (6 : Int)))))], (f52z0 x1 x2 x3 x4 x5 x6 x7), [], 0⟩ (an6 (an1 ob6) (an1 ob7) ob8 (an1 ob9) (an1 ob10) ob11) ?_
  refine tN ?_
  refine AWp.cond (b := ((f52z2 x2 x3) && (decide (x3 < (6 : Int))))) (by kernel_rfl) (fun hc2 => ?_) (fun hc2 => ?_)
  ·
   replace h := ite_tb hc2 h
   refine AWp.seq ?_
   obtain ⟨ob12, h⟩ := chk_some h
   refine q1rr [] [] ⟨34, [(2, .i ((12 : Int) + x3))], [], [], 0⟩ (an1 ob12) ?_
   refine tN ?_
   have hret := Option.some.inj h
   subst hret
   refine AWp.le (Le.mk (s' := ⟨34, [(2, .i ((12 : Int) + x3))], [], [], 0⟩) rfl rfl ⟨.refl _, trivial⟩ trivial) ?_
   refine AWp.ret ?_
   refine tR ?_
   exact bR _ rfl ⟨rfl, rfl⟩ rfl
  ·
   replace h := ite_fb hc2 h
   refine AWp.skip ?_
   refine tN ?_
   refine q1rq [] [] ⟨34, [(2, .i (-1 : Int))], [], [], 0⟩ trivial ?_
   have hret := Option.some.inj h
   subst hret
   refine AWp.le (Le.mk (s' := ⟨34, [(2, .i (-1 : Int))], [], [], 0⟩) rfl rfl ⟨.refl _, trivial⟩ trivial) ?_
   refine AWp.ret ?_
   exact bR _ rfl ⟨rfl, rfl⟩ rfl
def f32_L1 (x1 : List Y51) (l2 : List (List UInt8)) (K1 : (List UInt8 × Bool × Bool) → Option (List (List UInt8))) : Nat → (List UInt8 × Bool × Bool × Nat) → Option (List (List UInt8))
 | 0, _ => none
 | k + 1, (s3, b4, b5, n6) =>
  if (decide ((n6 : Int) < (((x1).length : Nat) : Int))) then (
  jn (fun ((s8, b9, b10) : List UInt8 × Bool × Bool) =>
  chk (((n6 : Int) + (1 : Int)) ≤ 9223372036854775807) <|
  (f32_L1 x1 l2 K1 k) (s8, b9, b10, (n6 + 1))
  ) fun (K2 : (List UInt8 × Bool × Bool) → Option (List (List UInt8))) =>
  (f52 ((x1.getD n6 (default : Y51)).1) ((x1.getD n6 (default : Y51)).2.1) ((x1.getD n6 (default : Y51)).2.2.1) ((x1.getD n6 (default : Y51)).2.2.2.1) ((x1.getD n6 (default : Y51)).2.2.2.2.1) ((x1.getD n6 (default : Y51)).2.2.2.2.2.1) ((x1.getD n6 (default : Y51)).2.2.2.2.2.2)).bind fun (r7 : Int) =>
  chk ((n6 : Int) < (((x1).length : Nat) : Int)) <|
  chk (((decide (r7 < (0 : Int))) == false) = true → 0 ≤ (n6 : Int) ∧ (n6 : Int) < (((x1).length : Nat) : Int)) <|
  if ((decide (r7 < (0 : Int))) || ((x1.getD n6 (default : Y51)).2.2.2.1 != (((l2).length : Nat) : Int))) then (
  K2 (s3, b4, b5)
  ) else (
  chk (((b5 == true) && ((!b4) == false)) = true → 0 ≤ (n6 : Int) ∧ (n6 : Int) < (((x1).length : Nat) : Int)) <|
  chk ((b5 == true) = true → (b5 == true) = true → (!b4) = false → ((b5 == true) && ((!b4) == false)) = true) <|
  chk ((n6 : Int) < (((x1).length : Nat) : Int)) <|
  K2 ((x1.getD n6 (default : Y51)).2.2.2.2.2.1, true, (b5 && ((!b4) || (s3 == ((x1.getD n6 (default : Y51)).2.2.2.2.2.1)))))
  )
  ) else (
  K1 (s3, b4, b5)
  )
def f32_L0 (x1 : List Y51) : Nat → (List (List UInt8)) → Option (List (List UInt8))
 | 0, _ => none
 | k + 1, l2 =>
  jn (fun ((s11, b12, b13) : List UInt8 × Bool × Bool) =>
  if ((!b12) || (!b13)) then (
  some l2
  ) else (
  chk (((l2).length + 1) * 16 ≤ 140737488355328) <|
  (f32_L0 x1 k) (l2 ++ [s11])
  )
  ) fun (K1 : (List UInt8 × Bool × Bool) → Option (List (List UInt8))) =>
  f32_L1 x1 l2 K1 FUEL ([], false, true, 0)
abbrev f32z0 (r7 : Int) := ((decide (r7 < (0 : Int))) == false)
abbrev f32z1 (l2 : List (List UInt8)) : Heap := [(5003, bL 9 1 eS [] l2)]
abbrev f32z2 (b5 : Bool) (b4 : Bool) := ((b5 == true) && ((!b4) == false))
def f32 (x1 : List Y51) : Option (List (List UInt8)) :=
 f32_L0 x1 FUEL []
theorem f32_ok  (x1 : List Y51) (r : List (List UInt8)) (h : f32 x1 = some r)  : Spec1 Tryz.prog 32 [] [] [] [vL 28 eT51 (default : Y51) x1] (.own 3000) [(3000, bL 9 1 eS [] r)] := by
 unfold f32 at h
 refine Spec1.body 0 _ _ Tryz.func32 rfl Tryz.ntmps32 rfl rfl ?_
 refine q1rq [] [] ⟨60, [(0, q1aT51 x1)], [], [], 0⟩ trivial ?_
 refine q1rq [] [] ⟨60, [(0, q1aT51 x1), (3, .nils)], [], [], 0⟩ trivial ?_
 refine AWp.block ?_
 refine AWp.loopL (α := Nat × (List (List UInt8))) (fun x => match x with | (_, l2) => ⟨60, [(0, q1aT51 x1), (3, .own 5003)], (f32z1 l2), [], 0⟩) (fun x => f32_L0 x1 x.1 x.2 = some r) (fun x => x.1) (FUEL, []) (Le.trans (Le.trans (Le.nilOwn 3 5003 9 1 (encF eS [] []) rfl rfl (Nat.le_of_ble_eq_true rfl)) (Le.mk (s' := ⟨60, [(0, q1aT51 x1), (3, .own 5003)], [(5003, q1bS_9 [])], [], 0⟩) rfl rfl ⟨.refl _, .refl _, trivial⟩ ⟨⟨_, rfl, .refl _⟩, trivial⟩)) (Le.mk (s' := ⟨60, [(0, q1aT51 x1), (3, .own 5003)], [(5003, q1bS_9 [])], [], 0⟩) rfl rfl ⟨.refl _, .refl _, trivial⟩ ⟨⟨_, rfl, .refl _⟩, trivial⟩)) h ?_
 rintro ⟨k0, l2⟩ h
 cases k0 with
 | zero => exact nomatch (show (none : Option (List (List UInt8))) = some r from h)
 | succ k0 =>
 obtain ⟨C0, hC0⟩ : ∃ C, C = f32_L0 x1 k0 := ⟨_, rfl⟩
 replace h := (f32_L0.eq_2 ..).symm.trans h
 try rw [← hC0] at h
 refine AWp.block ?_
 refine q1rq [] [] ⟨60, [(0, q1aT51 x1), (3, .own 5003), (4, .str []), (5, .bool false), (6, .bool true)], (f32z1 l2), [], 0⟩ trivial ?_
 obtain ⟨K1, hK1, h⟩ := jn_some h
 refine AWp.join (α := List UInt8 × Bool × Bool) (fun (x : List UInt8 × Bool × Bool) => match x with | (s11, b12, b13) => ⟨60, [(0, q1aT51 x1), (3, .own 5003), (4, .str s11), (5, .bool b12), (6, .bool b13)], (f32z1 l2), [], 0⟩) (fun x => K1 x = some r) ?_ ?_
 ·
  refine q1rq [] [] ⟨60, [(0, q1aT51 x1), (3, .own 5003), (4, .str []), (5, .bool false), (6, .bool true), (7, .i (0 : Int))], (f32z1 l2), [], 0⟩ trivial ?_
  refine AWp.block ?_
  refine AWp.loopL (α := Nat × (List UInt8 × Bool × Bool × Nat)) (fun x => match x with | (_, s3, b4, b5, n6) => ⟨60, [(0, q1aT51 x1), (3, .own 5003), (4, .str s3), (5, .bool b4), (6, .bool b5), (7, .i (n6 : Int))], (f32z1 l2), [], 0⟩) (fun x => f32_L1 x1 l2 K1 x.1 x.2 = some r) (fun x => x.1) (FUEL, [], false, true, 0) (Le.mk (s' := ⟨60, [(0, q1aT51 x1), (3, .own 5003), (4, .str []), (5, .bool false), (6, .bool true), (7, .i (0 : Int))], (f32z1 l2), [], 0⟩) rfl rfl ⟨.refl _, .refl _, .refl _, .refl _, .refl _, .refl _, trivial⟩ ⟨⟨_, rfl, .refl _⟩, trivial⟩) h ?_
  rintro ⟨k1, s3, b4, b5, n6⟩ h
  cases k1 with
  | zero => exact nomatch (show (none : Option (List (List UInt8))) = some r from h)
  | succ k1 =>
  obtain ⟨C1, hC1⟩ : ∃ C, C = f32_L1 x1 l2 K1 k1 := ⟨_, rfl⟩
  replace h := (f32_L1.eq_2 ..).symm.trans h
  try rw [← hC1] at h
  refine AWp.seq ?_
  refine q1rq [] [] ⟨60, [(0, q1aT51 x1), (3, .own 5003), (4, .str s3), (5, .bool b4), (6, .bool b5), (7, .i (n6 : Int)), (11, .bool (decide ((n6 : Int) < (lZ x1))))], (f32z1 l2), [], 0⟩ trivial ?_
  refine AWp.cond (b := (decide ((n6 : Int) < (lZ x1)))) (by kernel_rfl) (fun hc1 => ?_) (fun hc1 => ?_)
  ·
   replace h := ite_tb hc1 h
   refine AWp.skip ?_
   refine tN ?_
   obtain ⟨K2, hK2, h⟩ := jn_some h
   refine AWp.join (α := List UInt8 × Bool × Bool) (fun (x : List UInt8 × Bool × Bool) => match x with | (s8, b9, b10) => ⟨60, [(0, q1aT51 x1), (3, .own 5003), (4, .str s8), (5, .bool b9), (6, .bool b10), (7, .i (n6 : Int))], (f32z1 l2), [], 0⟩) (fun x => K2 x = some r) ?_ ?_
   ·
    refine AWp.block ?_
    refine AWp.seq ?_
    refine AWp.seq ?_
    obtain ⟨r7, hr7, h⟩ := bind_ok h
    obtain ⟨ob0p, h⟩ := chk_some h
    have ob0 : 0 ≤ (n6 : Int) ∧ (n6 : Int) < (((x1).length : Nat) : Int) := ⟨by omega, ob0p⟩
    obtain ⟨ob1, h⟩ := chk_some h
    have ob2 := idA ((f32z0 r7) = true)
    have ob3 := idA ((f32z0 r7) = true)
    have ob4 := idA ((f32z0 r7) = true)
    have ob5 := idA ((f32z0 r7) = true)
    have ob6 := idA ((f32z0 r7) = true)
    have ob7 := idA ((f32z0 r7) = true)
    have ob8 := idA ((f32z0 r7) = true)
    have ob9 : true = true → (decide (r7 < (0 : Int))) = false → (f32z0 r7) = true := fun _ h => beq_iff_eq.2 h
    refine q1rr [] [(4, ⟨[.agg [.i (x1.getD n6 q1dT51).1, .i (x1.getD n6 q1dT51).2.1, .i (x1.getD n6 q1dT51).2.2.1, .i (x1.getD n6 q1dT51).2.2.2.1, .i (x1.getD n6 q1dT51).2.2.2.2.1, .str (x1.getD n6 q1dT51).2.2.2.2.2.1, .str (x1.getD n6 q1dT51).2.2.2.2.2.2, .opq, .opq, .opq, .opq, .opq, .opq, .opq, .opq, .opq, .opq, .opq, .opq, .opq, .opq, .opq, .opq, .opq, .opq, .opq, .opq, .opq]], [], [], [], .i r7, [], [], []⟩)] ⟨60, [(0, q1aT51 x1), (3, .own 5003), (4, .str s3), (5, .bool b4), (6, .bool b5), (7, .i (n6 : Int)), (29, .bool ((decide (r7 < (0 : Int))) || ((x1.getD n6 q1dT51).2.2.2.1 != (lZ l2))))], (f32z1 l2), [], 0⟩ (ac6 ob0 (cpT (f52_ok _ _ _ _ _ _ _ _ hr7)) (And.intro ob1 (an2 ob2 ob3)) (an1 ob4) (an1 ob5) (an1 ob6) (an2 (an2 ob7 ob8) ob9)) ?_
    refine tN ?_
    refine AWp.cond (b := ((decide (r7 < (0 : Int))) || ((x1.getD n6 q1dT51).2.2.2.1 != (lZ l2)))) (by kernel_rfl) (fun hc2 => ?_) (fun hc2 => ?_)
    ·
     replace h := ite_tb hc2 h
     refine AWp.exit ?_
     refine tE ?_
     refine kS ?_
     exact jN (s3, b4, b5) (Le.mk rfl rfl ⟨.refl _, .refl _, .refl _, .refl _, .refl _, .refl _, trivial⟩ ⟨⟨_, rfl, .refl _⟩, trivial⟩) h
    ·
     replace h := ite_fb hc2 h
     refine AWp.skip ?_
     refine tN ?_
     refine AWp.seq ?_
     have ob10 := idA ((b5 == true) = true)
     have ob11 := idA ((b5 == true) = true)
     obtain ⟨ob12, h⟩ := chk_some h
     have ob13 := idA ((f32z2 b5 b4) = true)
     have ob14 := idA ((f32z2 b5 b4) = true)
     have ob15 := idA ((f32z2 b5 b4) = true)
     have ob16 := idA ((f32z2 b5 b4) = true)
     have ob17 := idA ((f32z2 b5 b4) = true)
     have ob18 := idA ((f32z2 b5 b4) = true)
     obtain ⟨ob19, h⟩ := chk_some h
     have ob20 := idA ((b5 == true) = true)
     have ob21 := bqA b5 true
     refine q1rr [] [] ⟨60, [(0, q1aT51 x1), (3, .own 5003), (6, .bool (b5 && ((!b4) || (s3 == ((x1.getD n6 q1dT51).2.2.2.2.2.1))))), (7, .i (n6 : Int))], (f32z1 l2), [], 0⟩ (ac6 (an1 ob10) (an1 ob11) (And.intro ob12 (an2 ob13 ob14)) (an1 ob15) (an1 ob16) (an2 ob17 ob18) (an2 (And.intro ob19 (an1 ob20)) ob21)) ?_
     refine tN ?_
     obtain ⟨ob22p, h⟩ := chk_some h
     have ob22 : 0 ≤ (n6 : Int) ∧ (n6 : Int) < (((x1).length : Nat) : Int) := ⟨by omega, ob22p⟩
     refine q1rr [] [] ⟨60, [(0, q1aT51 x1), (3, .own 5003), (4, .str (x1.getD n6 q1dT51).2.2.2.2.2.1), (5, .bool true), (6, .bool (b5 && ((!b4) || (s3 == ((x1.getD n6 q1dT51).2.2.2.2.2.1))))), (7, .i (n6 : Int))], (f32z1 l2), [], 0⟩ (an1 ob22) ?_
     refine kN ?_
     have eq23 : (x1.getD n6 q1dT51).2.2.2.2.2.1 = ((x1.getD n6 q1dT51).2.2.2.2.2.1) := by first | omega | (simp only [List.length_append, List.length_cons, List.length_nil, List.length_take, List.length_drop] at *; omega) | (simp; done) | (simp_all; done) | (simp_all; omega) | rfl
     exact jN ((x1.getD n6 q1dT51).2.2.2.2.2.1, true, (b5 && ((!b4) || (s3 == ((x1.getD n6 q1dT51).2.2.2.2.2.1))))) (Le.mk rfl rfl ⟨.refl _, .refl _, (.str eq23), .refl _, .refl _, .refl _, trivial⟩ ⟨⟨_, rfl, .refl _⟩, trivial⟩) h
   ·
    rintro ⟨s8, b9, b10⟩ h
    replace h := (congrFun hK2 _).symm.trans h
    obtain ⟨ob24p, h⟩ := chk_some h
    have ob24 : -9223372036854775808 ≤ ((n6 : Int) + (1 : Int)) ∧ ((n6 : Int) + (1 : Int)) ≤ 9223372036854775807 := ⟨by omega, ob24p⟩
    refine q1rr [] [] ⟨60, [(0, q1aT51 x1), (3, .own 5003), (4, .str s8), (5, .bool b9), (6, .bool b10), (7, .i (((n6 + 1) : Nat) : Int))], (f32z1 l2), [], 0⟩ (an1 ob24) ?_
    rw [hC1] at h
    exact lN (_, s8, b9, b10, (n6 + 1)) (Le.mk rfl rfl ⟨.refl _, .refl _, .refl _, .refl _, .refl _, .refl _, trivial⟩ ⟨⟨_, rfl, .refl _⟩, trivial⟩) h (Nat.lt_succ_self _)
  ·
   replace h := ite_fb hc1 h
   refine AWp.exit ?_
   refine tE ?_
   refine tE ?_
   refine kS ?_
   exact jN (s3, b4, b5) (Le.mk rfl rfl ⟨.refl _, .refl _, .refl _, .refl _, .refl _, trivial⟩ ⟨⟨_, rfl, .refl _⟩, trivial⟩) h
 ·
  rintro ⟨s11, b12, b13⟩ h
  replace h := (congrFun hK1 _).symm.trans h
  refine AWp.seq ?_
  refine AWp.seq ?_
  have ob25 := idA (((!b12) == false) = true)
  have ob26 := bqA (!b12) false
  refine q1rr [] [] ⟨60, [(0, q1aT51 x1), (3, .own 5003), (4, .str s11), (54, .bool ((!b12) || (!b13)))], (f32z1 l2), [], 0⟩ (an2 (an1 ob25) ob26) ?_
  refine tN ?_
  refine AWp.cond (b := ((!b12) || (!b13))) (by kernel_rfl) (fun hc3 => ?_) (fun hc3 => ?_)
  ·
   replace h := ite_tb hc3 h
   refine q1rq [] [] ⟨60, [(2, .own 5003)], (f32z1 l2), [], 0⟩ trivial ?_
   refine AWp.le (Le.trans (Le.ren (swapN 5003 3000) (swapN_inv 5003 3000) rfl) (Le.mk (s' := ⟨60, [(2, .own 3000)], [(3000, q1bS_9 l2)], [], 0⟩) rfl rfl ⟨.refl _, trivial⟩ ⟨⟨_, rfl, .refl _⟩, trivial⟩)) ?_
   have hret := Option.some.inj h
   subst hret
   refine AWp.le (Le.mk (s' := ⟨60, [(2, .own 3000)], [(3000, q1bS_9 l2)], [], 0⟩) rfl rfl ⟨.refl _, trivial⟩ ⟨⟨_, rfl, .refl _⟩, trivial⟩) ?_
   refine AWp.ret ?_
   refine tR ?_
   refine kR ?_
   refine tR ?_
   refine kR ?_
   exact bR _ rfl ⟨rfl, rfl⟩ rfl
  ·
   replace h := ite_fb hc3 h
   refine AWp.skip ?_
   refine tN ?_
   obtain ⟨ob27, h⟩ := chk_some h
   refine q1rr [] [] ⟨60, [(0, q1aT51 x1), (3, .own 5003)], [(5003, .rows 9 1 ((l2).length + 1) (appF (l2).length (encF eS [] l2) (lstF 1 [.str s11])))], [], 0⟩ (an1 ob27) ?_
   refine kN ?_
   rw [hC0] at h
   exact lN (_, (l2 ++ [s11])) (Le.trans (Le.mk (s' := ⟨60, [(0, q1aT51 x1), (3, .own 5003)], [(5003, q1bS_9 (l2 ++ [s11]))], [], 0⟩) rfl rfl ⟨.refl _, .refl _, trivial⟩ ⟨⟨_, rfl, (BLe.of (RL.app (RL.self _) (RL.lst (enc := eS) [s11] rfl rfl (fun _ => rfl))))⟩, trivial⟩) (Le.mk rfl rfl ⟨.refl _, .refl _, trivial⟩ ⟨⟨_, rfl, .refl _⟩, trivial⟩)) h (Nat.lt_succ_self _)
abbrev f80z0 (x7 : Int) := (decide (x7 ≥ (0 : Int)))
def f80 (x1 : List (List UInt8)) (x2 : List Tq5) (x3 : BitVec 16) (x4 : List (List UInt8 × Int × BitVec 16 × List (BitVec 16) × List (BitVec 16) × (List Tq1))) (x5 : List Int) (x6 : List (List UInt8 × Bool × (List Tq1))) (x7 : Int) : Option Bool :=
 chk ((((decide (x7 ≥ (0 : Int))) && (decide (x7 < (((x5).length : Nat) : Int)))) == true) = true → 0 ≤ x7 ∧ x7 < (((x5).length : Nat) : Int)) <|
 chk (((((decide (x7 ≥ (0 : Int))) && (decide (x7 < (((x5).length : Nat) : Int)))) && (decide ((x5.getD ((x7).toNat) 0) ≥ (0 : Int)))) == true) = true → 0 ≤ x7 ∧ x7 < (((x5).length : Nat) : Int)) <|
 some ((((decide (x7 ≥ (0 : Int))) && (decide (x7 < (((x5).length : Nat) : Int)))) && (decide ((x5.getD ((x7).toNat) 0) ≥ (0 : Int)))) && (decide ((x5.getD ((x7).toNat) 0) < (((x4).length : Nat) : Int))))
theorem f80_ok  (x1 : List (List UInt8)) (x2 : List Tq5) (x3 : BitVec 16) (x4 : List (List UInt8 × Int × BitVec 16 × List (BitVec 16) × List (BitVec 16) × (List Tq1))) (x5 : List Int) (x6 : List (List UInt8 × Bool × (List Tq1))) (x7 : Int) (r : Bool) (h : f80 x1 x2 x3 x4 x5 x6 x7 = some r)  : Spec1 Tryz.prog 80 [] [] [] [.agg [vL 1 eS [] x1, vL 2 eSW (default : Tq5) x2, .b16 x3, vL 6 eT73 (default : List UInt8 × Int × BitVec 16 × List (BitVec 16) × List (BitVec 16) × (List Tq1)) x4, vL 1 eI 0 x5, vL 3 eSBLWWJ (default : List UInt8 × Bool × (List Tq1)) x6], .int .i64 x7] (.bool r) [] := by
 unfold f80 at h
 refine Spec1.body 0 _ _ Tryz.func80 rfl Tryz.ntmps80 rfl rfl ?_
 refine q1rq [] [] ⟨33, [(1, .i x7), (2, .ptr 2 0)], [(2, .cells 37 [q1aS x1, q1aSW x2, .b16 x3, q1aT73 x4, q1aI x5, q1aSBLWWJ x6])], [], 0⟩ trivial ?_
 refine AWp.seq ?_
 have ob0 := idA (((f80z0 x7) == true) = true)
 have ob1 := idA (((f80z0 x7) == true) = true)
 have ob2 := idA (((f80z0 x7) == true) = true)
 have ob3 := idA (((f80z0 x7) == true) = true)
 have ob4 := bqA (f80z0 x7) true
 have ob5 := idA ((((f80z0 x7) && (decide (x7 < (lZ x5)))) == true) = true)
 obtain ⟨ob6, h⟩ := chk_some h
 have ob7 := idA ((((f80z0 x7) && (decide (x7 < (lZ x5)))) == true) = true)
 have ob8 := idA ((((f80z0 x7) && (decide (x7 < (lZ x5)))) == true) = true)
 have ob9 := idA ((((f80z0 x7) && (decide (x7 < (lZ x5)))) == true) = true)
 have ob10 := idA ((((f80z0 x7) && (decide (x7 < (lZ x5)))) == true) = true)
 have ob11 := bqA ((f80z0 x7) && (decide (x7 < (lZ x5)))) true
 have ob12 := idA (((((f80z0 x7) && (decide (x7 < (lZ x5)))) && (decide ((x5.getD ((x7).toNat) 0) ≥ (0 : Int)))) == true) = true)
 obtain ⟨ob13, h⟩ := chk_some h
 have ob14 := idA (((((f80z0 x7) && (decide (x7 < (lZ x5)))) && (decide ((x5.getD ((x7).toNat) 0) ≥ (0 : Int)))) == true) = true)
 have ob15 := idA (((((f80z0 x7) && (decide (x7 < (lZ x5)))) && (decide ((x5.getD ((x7).toNat) 0) ≥ (0 : Int)))) == true) = true)
 have ob16 := idA (((((f80z0 x7) && (decide (x7 < (lZ x5)))) && (decide ((x5.getD ((x7).toNat) 0) ≥ (0 : Int)))) == true) = true)
 have ob17 := idA (((((f80z0 x7) && (decide (x7 < (lZ x5)))) && (decide ((x5.getD ((x7).toNat) 0) ≥ (0 : Int)))) == true) = true)
 have ob18 := idA (((((f80z0 x7) && (decide (x7 < (lZ x5)))) && (decide ((x5.getD ((x7).toNat) 0) ≥ (0 : Int)))) == true) = true)
 have ob19 := idA (((((f80z0 x7) && (decide (x7 < (lZ x5)))) && (decide ((x5.getD ((x7).toNat) 0) ≥ (0 : Int)))) == true) = true)
 have ob20 := idA (((((f80z0 x7) && (decide (x7 < (lZ x5)))) && (decide ((x5.getD ((x7).toNat) 0) ≥ (0 : Int)))) == true) = true)
 have ob21 := bqA (((f80z0 x7) && (decide (x7 < (lZ x5)))) && (decide ((x5.getD ((x7).toNat) 0) ≥ (0 : Int)))) true
 refine q1rr [] [] ⟨33, [(4, .bool ((((f80z0 x7) && (decide (x7 < (lZ x5)))) && (decide ((x5.getD ((x7).toNat) 0) ≥ (0 : Int)))) && (decide ((x5.getD ((x7).toNat) 0) < (lZ x4)))))], [], [], 0⟩ (ac6 (an1 ob0) (an1 ob1) (an2 ob2 ob3) ob4 (an1 ob5) (And.intro ob6 (an2 ob7 ob8)) (ac6 (an1 ob9) (an1 ob10) ob11 (an1 ob12) (And.intro ob13 (an2 ob14 ob15)) (an1 ob16) (an4 (an1 ob17) (an1 ob18) (an2 ob19 ob20) ob21))) ?_
 refine tN ?_
 have hret := Option.some.inj h
 subst hret
 refine AWp.le (Le.mk (s' := ⟨33, [(4, .bool ((((f80z0 x7) && (decide (x7 < (lZ x5)))) && (decide ((x5.getD ((x7).toNat) 0) ≥ (0 : Int)))) && (decide ((x5.getD ((x7).toNat) 0) < (lZ x4)))))], [], [], 0⟩) rfl rfl ⟨.refl _, trivial⟩ trivial) ?_
 refine AWp.ret ?_
 exact bR _ rfl ⟨rfl, rfl⟩ rfl
abbrev f79z0 (r9 : Bool) (x8 : Bool) := ((r9 == true) && ((!x8) == false))
abbrev f79z1 := (List Tq1)
def f79 (x1 : List (List UInt8)) (x2 : List Tq5) (x3 : BitVec 16) (x4 : List (List UInt8 × Int × BitVec 16 × List (BitVec 16) × List (BitVec 16) × (List Tq1))) (x5 : List Int) (x6 : List (List UInt8 × Bool × (List Tq1))) (x7 : Int) (x8 : Bool) : Option Bool :=
 (f80 x1 x2 x3 x4 x5 x6 x7).bind fun (r9 : Bool) =>
 optc ((r9 == true) && ((!x8) == false)) (f80 x1 x2 x3 x4 x5 x6 (x7 + (1 : Int))) fun (r10 : Bool) =>
 chk (((r9 == true) && ((!x8) == false)) = true → -9223372036854775808 ≤ (x7 + (1 : Int)) ∧ (x7 + (1 : Int)) ≤ 9223372036854775807) <|
 chk ((r9 == true) = true → (r9 == true) = true → (!x8) = false → ((r9 == true) && ((!x8) == false)) = true) <|
 some (r9 && ((!x8) || r10))
theorem f79_ok  (x1 : List (List UInt8)) (x2 : List Tq5) (x3 : BitVec 16) (x4 : List (List UInt8 × Int × BitVec 16 × List (BitVec 16) × List (BitVec 16) × (List Tq1))) (x5 : List Int) (x6 : List (List UInt8 × Bool × (List Tq1))) (x7 : Int) (x8 : Bool) (r : Bool) (h : f79 x1 x2 x3 x4 x5 x6 x7 x8 = some r)  : Spec1 Tryz.prog 79 [] [] [] [.agg [vL 1 eS [] x1, vL 2 eSW (default : Tq5) x2, .b16 x3, vL 6 eT73 (default : List UInt8 × Int × BitVec 16 × List (BitVec 16) × List (BitVec 16) × (List Tq1)) x4, vL 1 eI 0 x5, vL 3 eSBLWWJ (default : List UInt8 × Bool × (List Tq1)) x6], .agg [.int .i64 x7, .bool x8]] (.bool r) [] := by
 unfold f79 at h
 refine Spec1.body 0 _ _ Tryz.func79 rfl Tryz.ntmps79 rfl rfl ?_
 refine q1rq [] [] ⟨21, [(2, .ptr 2 0), (3, .ptr 3 0)], [(2, .cells 37 [q1aS x1, q1aSW x2, .b16 x3, vL 6 eT73 (default : List UInt8 × Int × BitVec 16 × List (BitVec 16) × List (BitVec 16) × (f79z1)) x4, q1aI x5, vL 3 eSBLWWJ (default : List UInt8 × Bool × (f79z1)) x6]), (3, .cells 77 [.i x7, .bool x8])], [], 0⟩ trivial ?_
 refine AWp.seq ?_
 obtain ⟨r9, hr9, h⟩ := bind_ok h
 obtain ⟨r10, hr10, h⟩ := optc_some h
 have ob0 := idA ((r9 == true) = true)
 have ob1 := idA ((r9 == true) = true)
 have ob2 := idA ((r9 == true) = true)
 have ob3 := idA ((f79z0 r9 x8) = true)
 obtain ⟨ob4, h⟩ := chk_some h
 have ob5 := idA ((f79z0 r9 x8) = true)
 have ob6 := idA ((f79z0 r9 x8) = true)
 have ob7 := idA ((f79z0 r9 x8) = true)
 obtain ⟨ob8, h⟩ := chk_some h
 have ob9 := idA ((r9 == true) = true)
 have ob10 := bqA r9 true
 refine q1rr [] [(3, ⟨[.agg [q1aS x1, q1aSW x2, .b16 x3, vL 6 eT73 (default : List UInt8 × Int × BitVec 16 × List (BitVec 16) × List (BitVec 16) × (f79z1)) x4, q1aI x5, vL 3 eSBLWWJ (default : List UInt8 × Bool × (f79z1)) x6], .i x7], [], [], [], .bool r9, [], [], []⟩), (13, ⟨[.agg [q1aS x1, q1aSW x2, .b16 x3, vL 6 eT73 (default : List UInt8 × Int × BitVec 16 × List (BitVec 16) × List (BitVec 16) × (f79z1)) x4, q1aI x5, vL 3 eSBLWWJ (default : List UInt8 × Bool × (f79z1)) x6], .i (x7 + (1 : Int))], [], [], [], .bool r10, [], [], []⟩)] ⟨21, [(4, .bool (r9 && ((!x8) || r10)))], [], [], 0⟩ (ac6 (cpT (f80_ok _ _ _ _ _ _ _ _ hr9)) (an1 ob0) (an1 ob1) (an1 ob2) (an1 ob3) (And.intro ob4 (an1 ob5)) (an3 (And.intro (cpC fun hc => (f80_ok _ _ _ _ _ _ _ _ (hr10 hc))) (an2 ob6 ob7)) (And.intro ob8 (an1 ob9)) ob10)) ?_
 refine tN ?_
 have hret := Option.some.inj h
 subst hret
 refine AWp.le (Le.mk (s' := ⟨21, [(4, .bool (r9 && ((!x8) || r10)))], [], [], 0⟩) rfl rfl ⟨.refl _, trivial⟩ trivial) ?_
 refine AWp.ret ?_
 exact bR _ rfl ⟨rfl, rfl⟩ rfl
abbrev f59z0 (r11 : Int × Int × (List Tq2) × Int) (x8 : Bool) := ((r11.1 == (2 : Int)) && (!x8))
abbrev f59z1 : List (Nat × V) := [(6, .ptr 6 0), (1000001, .tab .u64 Lib.pow10Tab), (1000002, errG), (1000003, errG)]
abbrev f59z2 := (List Tq1)
abbrev f59z3 (r11 : Int × Int × (List Tq2) × Int) : List V := [.int .i64 r11.1, .int .i64 r11.2.1, vL 3 eIIS (default : Tq2) r11.2.2.1]
abbrev f59z4 : List V := [.int .i64 (0 : Int), .bool false]
abbrev f59z5 (x7 : Int) (x8 : Bool) : Heap := [(6, .cells 77 [.int .i64 x7, .bool x8])]
def f59 (x1 : List (List UInt8)) (x2 : List Tq5) (x3 : BitVec 16) (x4 : List (List UInt8 × Int × BitVec 16 × List (BitVec 16) × List (BitVec 16) × (List Tq1))) (x5 : List Int) (x6 : List (List UInt8 × Bool × (List Tq1))) (x7 : Int) (x8 : Bool) (x9 : List UInt8) : Option Tq3 :=
 (f79 x1 x2 x3 x4 x5 x6 x7 x8).bind fun (r10 : Bool) =>
 if (!r10) then (
 some (x7, x8)
 ) else (
 (f68 x9).bind fun (r11 : Int × Int × (List Tq2) × Int) =>
 if (r11.2.2.2 != (0 : Int)) then (
 some (x7, x8)
 ) else (
 optc ((((r11.1 == (2 : Int)) && (!x8)) && (r11.2.1 == (x7 + (1 : Int)))) == true) (f80 x1 x2 x3 x4 x5 x6 (x7 + (1 : Int))) fun (r12 : Bool) =>
 chk ((((r11.1 == (2 : Int)) && (!x8)) == true) = true → -9223372036854775808 ≤ (x7 + (1 : Int)) ∧ (x7 + (1 : Int)) ≤ 9223372036854775807) <|
 chk (((((r11.1 == (2 : Int)) && (!x8)) && (r11.2.1 == (x7 + (1 : Int)))) == true) = true → -9223372036854775808 ≤ (x7 + (1 : Int)) ∧ (x7 + (1 : Int)) ≤ 9223372036854775807) <|
 if ((((r11.1 == (2 : Int)) && (!x8)) && (r11.2.1 == (x7 + (1 : Int)))) && r12) then (
 some (x7, true)
 ) else (
 if ((r11.1 == (3 : Int)) && x8) then (
 chk (-9223372036854775808 ≤ (x7 + (1 : Int)) ∧ (x7 + (1 : Int)) ≤ 9223372036854775807) <|
 some ((x7 + (1 : Int)), false)
 ) else (
 some (x7, x8)
 )
 )
 )
 )
theorem f59_ok  (x1 : List (List UInt8)) (x2 : List Tq5) (x3 : BitVec 16) (x4 : List (List UInt8 × Int × BitVec 16 × List (BitVec 16) × List (BitVec 16) × (List Tq1))) (x5 : List Int) (x6 : List (List UInt8 × Bool × (List Tq1))) (x7 : Int) (x8 : Bool) (x9 : List UInt8) (r : Tq3) (h : f59 x1 x2 x3 x4 x5 x6 x7 x8 x9 = some r)  : Spec1 Tryz.prog 59 [(1, .tab .u64 Lib.pow10Tab), (2, errG), (3, errG)] [] [] [.agg [vL 1 eS [] x1, vL 2 eSW (default : Tq5) x2, .b16 x3, vL 6 eT73 (default : List UInt8 × Int × BitVec 16 × List (BitVec 16) × List (BitVec 16) × (List Tq1)) x4, vL 1 eI 0 x5, vL 3 eSBLWWJ (default : List UInt8 × Bool × (List Tq1)) x6], .agg [.int .i64 x7, .bool x8], .str x9] (.agg [.int .i64 r.1, .bool r.2]) [] := by
 unfold f59 at h
 refine Spec1.bodyD [6] 0 _ _ Tryz.func59 rfl Tryz.ntmps59 rfl rfl ?_
 refine q1rq [] [] ⟨63, [(2, .str x9), (3, .ptr 3 0), (4, .ptr 4 0), (6, .ptr 6 0), (1000001, .tab .u64 Lib.pow10Tab), (1000002, errG), (1000003, errG)], [(3, .cells 37 [q1aS x1, q1aSW x2, .b16 x3, vL 6 eT73 (default : List UInt8 × Int × BitVec 16 × List (BitVec 16) × List (BitVec 16) × (f59z2)) x4, q1aI x5, vL 3 eSBLWWJ (default : List UInt8 × Bool × (f59z2)) x6]), (4, .cells 77 [.i x7, .bool x8]), (6, .cells 77 (f59z4))], [], 0⟩ trivial ?_
 refine AWp.seq ?_
 refine AWp.seq ?_
 obtain ⟨r10, hr10, h⟩ := bind_ok h
 refine q1rr [] [(2, ⟨[.agg [q1aS x1, q1aSW x2, .b16 x3, vL 6 eT73 (default : List UInt8 × Int × BitVec 16 × List (BitVec 16) × List (BitVec 16) × (f59z2)) x4, q1aI x5, vL 3 eSBLWWJ (default : List UInt8 × Bool × (f59z2)) x6], .agg [.i x7, .bool x8]], [], [], [], .bool r10, [], [], []⟩)] ⟨63, [(2, .str x9), (3, .ptr 3 0), (4, .ptr 4 0), (6, .ptr 6 0), (12, .bool (!r10)), (1000001, .tab .u64 Lib.pow10Tab), (1000002, errG), (1000003, errG)], [(3, .cells 37 [q1aS x1, q1aSW x2, .b16 x3, vL 6 eT73 (default : List UInt8 × Int × BitVec 16 × List (BitVec 16) × List (BitVec 16) × (f59z2)) x4, q1aI x5, vL 3 eSBLWWJ (default : List UInt8 × Bool × (f59z2)) x6]), (4, .cells 77 [.i x7, .bool x8]), (6, .cells 77 (f59z4))], [], 0⟩ (an1 (cpT (f79_ok _ _ _ _ _ _ _ _ _ hr10))) ?_
 refine tN ?_
 refine AWp.cond (b := (!r10)) (by kernel_rfl) (fun hc1 => ?_) (fun hc1 => ?_)
 ·
  replace h := ite_tb hc1 h
  refine q1rq [] [] ⟨63, (f59z1), (f59z5 x7 x8), [], 0⟩ (an1 trivial) ?_
  have hret := Option.some.inj h
  subst hret
  refine AWp.le (Le.mk (s' := ⟨63, [(6, .ptr 6 0)], (f59z5 x7 x8), [], 0⟩) rfl rfl ⟨.refl _, trivial⟩ ⟨⟨_, rfl, .refl _⟩, trivial⟩) ?_
  refine AWp.ret ?_
  refine tR ?_
  exact bR _ rfl ⟨rfl, rfl⟩ rfl
 ·
  replace h := ite_fb hc1 h
  refine AWp.skip ?_
  refine tN ?_
  refine AWp.seq ?_
  obtain ⟨r11, hr11, h⟩ := bind_ok h
  refine q1rr [] [(1, ⟨[.str x9], [], [], [], .tup [.agg (f59z3 r11), .i r11.2.2.2], [], [], [1, 2, 3]⟩)] ⟨63, [(3, .ptr 3 0), (4, .ptr 4 0), (6, .ptr 6 0), (7, .ptr 7 0), (8, .i r11.2.2.2), (1000001, .tab .u64 Lib.pow10Tab), (1000002, errG), (1000003, errG)], [(3, .cells 37 [q1aS x1, q1aSW x2, .b16 x3, vL 6 eT73 (default : List UInt8 × Int × BitVec 16 × List (BitVec 16) × List (BitVec 16) × (f59z2)) x4, q1aI x5, vL 3 eSBLWWJ (default : List UInt8 × Bool × (f59z2)) x6]), (4, .cells 77 [.i x7, .bool x8]), (6, .cells 77 (f59z4)), (7, .cells 100 (f59z3 r11))], [], 0⟩ (an2 (cpT (f68_ok _ _ hr11)) trivial) ?_
  refine tN ?_
  refine AWp.seq ?_
  refine AWp.block ?_
  refine q1rq [] [] ⟨63, [(3, .ptr 3 0), (4, .ptr 4 0), (6, .ptr 6 0), (7, .ptr 7 0), (19, .bool (r11.2.2.2 != (0 : Int))), (1000001, .tab .u64 Lib.pow10Tab), (1000002, errG), (1000003, errG)], [(3, .cells 37 [q1aS x1, q1aSW x2, .b16 x3, vL 6 eT73 (default : List UInt8 × Int × BitVec 16 × List (BitVec 16) × List (BitVec 16) × (f59z2)) x4, q1aI x5, vL 3 eSBLWWJ (default : List UInt8 × Bool × (f59z2)) x6]), (4, .cells 77 [.i x7, .bool x8]), (6, .cells 77 (f59z4)), (7, .cells 100 (f59z3 r11))], [], 0⟩ trivial ?_
  refine AWp.cond (b := (r11.2.2.2 != (0 : Int))) (by kernel_rfl) (fun hc2 => ?_) (fun hc2 => ?_)
  ·
   replace h := ite_tb hc2 h
   refine q1rq [] [] ⟨63, (f59z1), (f59z5 x7 x8), [], 0⟩ (an1 trivial) ?_
   have hret := Option.some.inj h
   subst hret
   refine AWp.le (Le.mk (s' := ⟨63, [(6, .ptr 6 0)], (f59z5 x7 x8), [], 0⟩) rfl rfl ⟨.refl _, trivial⟩ ⟨⟨_, rfl, .refl _⟩, trivial⟩) ?_
   refine AWp.ret ?_
   refine kR ?_
   refine tR ?_
   exact bR _ rfl ⟨rfl, rfl⟩ rfl
  ·
   replace h := ite_fb hc2 h
   refine AWp.seq ?_
   obtain ⟨r12, hr12, h⟩ := optc_some h
   have ob0 := idA (((r11.1 == (2 : Int)) == true) = true)
   have ob1 := idA (((r11.1 == (2 : Int)) == true) = true)
   have ob2 := bqA (r11.1 == (2 : Int)) true
   have ob3 := idA (((f59z0 r11 x8) == true) = true)
   have ob4 := idA (((f59z0 r11 x8) == true) = true)
   obtain ⟨ob5, h⟩ := chk_some h
   have ob6 := idA (((f59z0 r11 x8) == true) = true)
   have ob7 := idA (((f59z0 r11 x8) == true) = true)
   have ob8 := idA (((f59z0 r11 x8) == true) = true)
   have ob9 := bqA (f59z0 r11 x8) true
   have ob10 := idA ((((f59z0 r11 x8) && (r11.2.1 == (x7 + (1 : Int)))) == true) = true)
   obtain ⟨ob11, h⟩ := chk_some h
   have ob12 := idA ((((f59z0 r11 x8) && (r11.2.1 == (x7 + (1 : Int)))) == true) = true)
   have ob13 := idA ((((f59z0 r11 x8) && (r11.2.1 == (x7 + (1 : Int)))) == true) = true)
   have ob14 := idA ((((f59z0 r11 x8) && (r11.2.1 == (x7 + (1 : Int)))) == true) = true)
   have ob15 := bqA ((f59z0 r11 x8) && (r11.2.1 == (x7 + (1 : Int)))) true
   refine q1rr [] [(21, ⟨[.agg [q1aS x1, q1aSW x2, .b16 x3, vL 6 eT73 (default : List UInt8 × Int × BitVec 16 × List (BitVec 16) × List (BitVec 16) × (f59z2)) x4, q1aI x5, vL 3 eSBLWWJ (default : List UInt8 × Bool × (f59z2)) x6], .i (x7 + (1 : Int))], [], [], [], .bool r12, [], [], []⟩)] ⟨63, [(4, .ptr 4 0), (6, .ptr 6 0), (7, .ptr 7 0), (23, .bool (((f59z0 r11 x8) && (r11.2.1 == (x7 + (1 : Int)))) && r12)), (1000001, .tab .u64 Lib.pow10Tab), (1000002, errG), (1000003, errG)], [(4, .cells 77 [.i x7, .bool x8]), (6, .cells 77 (f59z4)), (7, .cells 100 (f59z3 r11))], [], 0⟩ (ac6 (an1 ob0) (an1 ob1) ob2 (an1 ob3) (an1 ob4) (And.intro ob5 (an1 ob6)) (an6 (an2 ob7 ob8) ob9 (an1 ob10) (And.intro ob11 (an1 ob12)) (And.intro (cpC fun hc => (f80_ok _ _ _ _ _ _ _ _ (hr12 hc))) (an2 ob13 ob14)) ob15)) ?_
   refine tN ?_
   refine AWp.cond (b := (((f59z0 r11 x8) && (r11.2.1 == (x7 + (1 : Int)))) && r12)) (by kernel_rfl) (fun hc3 => ?_) (fun hc3 => ?_)
   ·
    replace h := ite_tb hc3 h
    refine q1rq [] [] ⟨63, (f59z1), [(6, .cells 77 [.i x7, .bool true])], [], 0⟩ (an1 trivial) ?_
    have hret := Option.some.inj h
    subst hret
    refine AWp.le (Le.mk (s' := ⟨63, [(6, .ptr 6 0)], [(6, .cells 77 [.i x7, .bool true])], [], 0⟩) rfl rfl ⟨.refl _, trivial⟩ ⟨⟨_, rfl, .refl _⟩, trivial⟩) ?_
    refine AWp.ret ?_
    refine kR ?_
    refine tR ?_
    exact bR _ rfl ⟨rfl, rfl⟩ rfl
   ·
    replace h := ite_fb hc3 h
    refine AWp.seq ?_
    have ob16 := idA (((r11.1 == (3 : Int)) == true) = true)
    have ob17 := bqA (r11.1 == (3 : Int)) true
    refine q1rr [] [] ⟨63, [(4, .ptr 4 0), (6, .ptr 6 0), (50, .bool ((r11.1 == (3 : Int)) && x8)), (1000001, .tab .u64 Lib.pow10Tab), (1000002, errG), (1000003, errG)], [(4, .cells 77 [.i x7, .bool x8]), (6, .cells 77 (f59z4))], [], 0⟩ (an2 (an1 ob16) ob17) ?_
    refine tN ?_
    refine AWp.cond (b := ((r11.1 == (3 : Int)) && x8)) (by kernel_rfl) (fun hc4 => ?_) (fun hc4 => ?_)
    ·
     replace h := ite_tb hc4 h
     refine AWp.seq ?_
     obtain ⟨ob18, h⟩ := chk_some h
     refine q1rr [] [] ⟨63, (f59z1), [(6, .cells 77 [.i (x7 + (1 : Int)), .bool false])], [], 0⟩ (an2 ob18 trivial) ?_
     refine tN ?_
     have hret := Option.some.inj h
     subst hret
     refine AWp.le (Le.mk (s' := ⟨63, [(6, .ptr 6 0)], [(6, .cells 77 [.i (x7 + (1 : Int)), .bool false])], [], 0⟩) rfl rfl ⟨.refl _, trivial⟩ ⟨⟨_, rfl, .refl _⟩, trivial⟩) ?_
     refine AWp.ret ?_
     refine kR ?_
     refine tR ?_
     exact bR _ rfl ⟨rfl, rfl⟩ rfl
    ·
     replace h := ite_fb hc4 h
     refine AWp.skip ?_
     refine kN ?_
     refine tN ?_
     refine q1rq [] [] ⟨63, (f59z1), (f59z5 x7 x8), [], 0⟩ (an1 trivial) ?_
     have hret := Option.some.inj h
     subst hret
     refine AWp.le (Le.mk (s' := ⟨63, [(6, .ptr 6 0)], (f59z5 x7 x8), [], 0⟩) rfl rfl ⟨.refl _, trivial⟩ ⟨⟨_, rfl, .refl _⟩, trivial⟩) ?_
     refine AWp.ret ?_
     exact bR _ rfl ⟨rfl, rfl⟩ rfl
def f34_L0 (x1 : List (List UInt8)) (x2 : List Tq5) (x3 : BitVec 16) (x4 : List (List UInt8 × Int × BitVec 16 × List (BitVec 16) × List (BitVec 16) × (List Tq1))) (x5 : List Int) (x6 : List (List UInt8 × Bool × (List Tq1))) (K1 : (List Tq3) → Option (List Tq3)) (r8 : List (List UInt8)) : Nat → (Nat × Int × Bool × (List Tq3)) → Option (List Tq3)
 | 0, _ => none
 | k + 1, (n9, i10, b11, l12) =>
  if (decide ((n9 : Int) < (((r8).length : Nat) : Int))) then (
  chk ((n9 : Int) < (((r8).length : Nat) : Int)) <|
  chk (n9 < (r8).length) <|
  (f59 x1 x2 x3 x4 x5 x6 i10 b11 (r8.getD n9 [])).bind fun (r13 : Tq3) =>
  chk (((l12).length + 1) * 16 ≤ 140737488355328) <|
  chk (((n9 : Int) + (1 : Int)) ≤ 9223372036854775807) <|
  (f34_L0 x1 x2 x3 x4 x5 x6 K1 r8 k) ((n9 + 1), r13.1, r13.2, (l12 ++ [(r13.1, r13.2)]))
  ) else (
  K1 l12
  )
abbrev f34z0 := (List Tq1)
abbrev f34z1 (r8 : List (List UInt8)) (n9 : Nat) : List (Nat × V) := [(2, .ptr 2 0), (5, .ptr 5 0), (6, .own 11), (13, .own 6001), (14, .int .i64 (((r8).length : Nat) : Int)), (15, .int .i64 (n9 : Int)), (1000001, .tab .u64 Lib.pow10Tab), (1000002, errG), (1000003, errG)]
abbrev f34z2 : List V := [.int .i64 (0 : Int), .bool false]
abbrev f34z3 (r13 : Tq3) : List V := [.int .i64 r13.1, .bool r13.2]
def f34 (x1 : List (List UInt8)) (x2 : List Tq5) (x3 : BitVec 16) (x4 : List (List UInt8 × Int × BitVec 16 × List (BitVec 16) × List (BitVec 16) × (List Tq1))) (x5 : List Int) (x6 : List (List UInt8 × Bool × (List Tq1))) (x7 : List Y51) : Option (List Tq3) :=
 jn (fun (l14 : List Tq3) =>
 some l14
 ) fun (K1 : (List Tq3) → Option (List Tq3)) =>
 (f14 x7).bind fun (r8 : List (List UInt8)) =>
 f34_L0 x1 x2 x3 x4 x5 x6 K1 r8 FUEL (0, (0 : Int), false, [((0 : Int), false)])
theorem f34_ok  (x1 : List (List UInt8)) (x2 : List Tq5) (x3 : BitVec 16) (x4 : List (List UInt8 × Int × BitVec 16 × List (BitVec 16) × List (BitVec 16) × (List Tq1))) (x5 : List Int) (x6 : List (List UInt8 × Bool × (List Tq1))) (x7 : List Y51) (r : List Tq3) (h : f34 x1 x2 x3 x4 x5 x6 x7 = some r)  : Spec1 Tryz.prog 34 [(1, .tab .u64 Lib.pow10Tab), (2, errG), (3, errG)] [] [] [.agg [vL 1 eS [] x1, vL 2 eSW (default : Tq5) x2, .b16 x3, vL 6 eT73 (default : List UInt8 × Int × BitVec 16 × List (BitVec 16) × List (BitVec 16) × (List Tq1)) x4, vL 1 eI 0 x5, vL 3 eSBLWWJ (default : List UInt8 × Bool × (List Tq1)) x6], vL 28 eT51 (default : Y51) x7] (.own 3000) [(3000, bL 77 2 eIB (default : Tq3) r)] := by
 unfold f34 at h
 refine Spec1.body 0 _ _ Tryz.func34 rfl Tryz.ntmps34 rfl rfl ?_
 refine q1rq [] [] ⟨29, [(1, q1aT51 x7), (2, .ptr 2 0), (1000001, .tab .u64 Lib.pow10Tab), (1000002, errG), (1000003, errG)], [(2, .cells 37 [q1aS x1, q1aSW x2, .b16 x3, vL 6 eT73 (default : List UInt8 × Int × BitVec 16 × List (BitVec 16) × List (BitVec 16) × (f34z0)) x4, q1aI x5, vL 3 eSBLWWJ (default : List UInt8 × Bool × (f34z0)) x6])], [], 0⟩ trivial ?_
 refine q1rq [] [] ⟨29, [(1, q1aT51 x7), (2, .ptr 2 0), (5, .ptr 5 0), (1000001, .tab .u64 Lib.pow10Tab), (1000002, errG), (1000003, errG)], [(2, .cells 37 [q1aS x1, q1aSW x2, .b16 x3, vL 6 eT73 (default : List UInt8 × Int × BitVec 16 × List (BitVec 16) × List (BitVec 16) × (f34z0)) x4, q1aI x5, vL 3 eSBLWWJ (default : List UInt8 × Bool × (f34z0)) x6]), (5, .cells 77 (f34z2))], [], 0⟩ (an1 trivial) ?_
 refine q1rq [] [] ⟨29, [(1, q1aT51 x7), (2, .ptr 2 0), (5, .ptr 5 0), (6, .own 11), (1000001, .tab .u64 Lib.pow10Tab), (1000002, errG), (1000003, errG)], [(2, .cells 37 [q1aS x1, q1aSW x2, .b16 x3, vL 6 eT73 (default : List UInt8 × Int × BitVec 16 × List (BitVec 16) × List (BitVec 16) × (f34z0)) x4, q1aI x5, vL 3 eSBLWWJ (default : List UInt8 × Bool × (f34z0)) x6]), (5, .cells 77 (f34z2)), (11, .rows 77 2 1 (lstF 2 (f34z2)))], [], 0⟩ trivial ?_
 refine AWp.le (Le.mk (s' := ⟨29, [(1, q1aT51 x7), (2, .ptr 2 0), (5, .ptr 5 0), (6, .own 11), (1000001, .tab .u64 Lib.pow10Tab), (1000002, errG), (1000003, errG)], [(2, .cells 37 [q1aS x1, q1aSW x2, .b16 x3, vL 6 eT73 (default : List UInt8 × Int × BitVec 16 × List (BitVec 16) × List (BitVec 16) × (f34z0)) x4, q1aI x5, vL 3 eSBLWWJ (default : List UInt8 × Bool × (f34z0)) x6]), (5, .cells 77 (f34z2)), (11, q1bIB_77 [((0 : Int), false)])], [], 0⟩) rfl rfl ⟨.refl _, .refl _, .refl _, .refl _, .refl _, .refl _, .refl _, trivial⟩ ⟨⟨_, rfl, .refl _⟩, ⟨_, rfl, .refl _⟩, ⟨_, rfl, (BLe.of (RL.lst (enc := eIB) [((0 : Int), false)] rfl rfl (fun _ => rfl)))⟩, trivial⟩) ?_
 obtain ⟨K1, hK1, h⟩ := jn_some h
 refine AWp.join (α := List Tq3) (fun (l14 : List Tq3) => ⟨29, [(6, .own 11), (1000001, .tab .u64 Lib.pow10Tab), (1000002, errG), (1000003, errG)], [(11, q1bIB_77 l14)], [], 0⟩) (fun x => K1 x = some r) ?_ ?_
 ·
  refine AWp.seq ?_
  obtain ⟨r8, hr8, h⟩ := bind_ok h
  refine q1rr [] [(1, ⟨[q1aT51 x7], [], [], [(6001, q1bS_9 r8)], .own 6001, [6001], [], []⟩)] ⟨29, [(2, .ptr 2 0), (5, .ptr 5 0), (6, .own 11), (13, .own 6001), (14, .i (lZ r8)), (15, .i (0 : Int)), (1000001, .tab .u64 Lib.pow10Tab), (1000002, errG), (1000003, errG)], [(2, .cells 37 [q1aS x1, q1aSW x2, .b16 x3, vL 6 eT73 (default : List UInt8 × Int × BitVec 16 × List (BitVec 16) × List (BitVec 16) × (f34z0)) x4, q1aI x5, vL 3 eSBLWWJ (default : List UInt8 × Bool × (f34z0)) x6]), (5, .cells 77 (f34z2)), (11, q1bIB_77 [((0 : Int), false)]), (6001, q1bS_9 r8)], [], 0⟩ (an1 (cpT (Spec1.ren (swapN 3000 6001) (swapN_inv 3000 6001) rfl (f14_ok _ _ hr8)))) ?_
  refine tN ?_
  refine AWp.block ?_
  refine AWp.loopL (α := Nat × (Nat × Int × Bool × (List Tq3))) (fun x => match x with | (_, n9, i10, b11, l12) => ⟨29, (f34z1 r8 n9), [(2, .cells 37 [q1aS x1, q1aSW x2, .b16 x3, vL 6 eT73 (default : List UInt8 × Int × BitVec 16 × List (BitVec 16) × List (BitVec 16) × (f34z0)) x4, q1aI x5, vL 3 eSBLWWJ (default : List UInt8 × Bool × (f34z0)) x6]), (5, .cells 77 [.i i10, .bool b11]), (11, q1bIB_77 l12), (6001, q1bS_9 r8)], [], 0⟩) (fun x => f34_L0 x1 x2 x3 x4 x5 x6 K1 r8 x.1 x.2 = some r) (fun x => x.1) (FUEL, 0, (0 : Int), false, [((0 : Int), false)]) (Le.mk (s' := ⟨29, [(2, .ptr 2 0), (5, .ptr 5 0), (6, .own 11), (13, .own 6001), (14, .i (lZ r8)), (15, .i (0 : Int)), (1000001, .tab .u64 Lib.pow10Tab), (1000002, errG), (1000003, errG)], [(2, .cells 37 [q1aS x1, q1aSW x2, .b16 x3, vL 6 eT73 (default : List UInt8 × Int × BitVec 16 × List (BitVec 16) × List (BitVec 16) × (f34z0)) x4, q1aI x5, vL 3 eSBLWWJ (default : List UInt8 × Bool × (f34z0)) x6]), (5, .cells 77 (f34z2)), (11, q1bIB_77 [((0 : Int), false)]), (6001, q1bS_9 r8)], [], 0⟩) rfl rfl ⟨.refl _, .refl _, .refl _, .refl _, .refl _, .refl _, .refl _, .refl _, .refl _, trivial⟩ ⟨⟨_, rfl, .refl _⟩, ⟨_, rfl, .refl _⟩, ⟨_, rfl, .refl _⟩, ⟨_, rfl, .refl _⟩, trivial⟩) h ?_
  rintro ⟨k0, n9, i10, b11, l12⟩ h
  cases k0 with
  | zero => exact nomatch (show (none : Option (List Tq3)) = some r from h)
  | succ k0 =>
  obtain ⟨C0, hC0⟩ : ∃ C, C = f34_L0 x1 x2 x3 x4 x5 x6 K1 r8 k0 := ⟨_, rfl⟩
  replace h := (f34_L0.eq_2 ..).symm.trans h
  try rw [← hC0] at h
  refine q1rq [] [] ⟨29, [(2, .ptr 2 0), (5, .ptr 5 0), (6, .own 11), (13, .own 6001), (14, .i (lZ r8)), (15, .i (n9 : Int)), (16, .bool (decide ((n9 : Int) < (lZ r8)))), (1000001, .tab .u64 Lib.pow10Tab), (1000002, errG), (1000003, errG)], [(2, .cells 37 [q1aS x1, q1aSW x2, .b16 x3, vL 6 eT73 (default : List UInt8 × Int × BitVec 16 × List (BitVec 16) × List (BitVec 16) × (f34z0)) x4, q1aI x5, vL 3 eSBLWWJ (default : List UInt8 × Bool × (f34z0)) x6]), (5, .cells 77 [.i i10, .bool b11]), (11, q1bIB_77 l12), (6001, q1bS_9 r8)], [], 0⟩ trivial ?_
  refine AWp.seq ?_
  refine AWp.cond (b := (decide ((n9 : Int) < (lZ r8)))) (by kernel_rfl) (fun hc1 => ?_) (fun hc1 => ?_)
  ·
   replace h := ite_tb hc1 h
   refine AWp.skip ?_
   refine tN ?_
   refine AWp.seq ?_
   refine AWp.block ?_
   refine AWp.seq ?_
   obtain ⟨ob0p, h⟩ := chk_some h
   have ob0 : 0 ≤ (n9 : Int) ∧ (n9 : Int) < (((r8).length : Nat) : Int) := ⟨by omega, ob0p⟩
   obtain ⟨ob1, h⟩ := chk_some h
   refine q1rr [] [] ⟨29, [(2, .ptr 2 0), (5, .ptr 5 0), (6, .own 11), (8, .str (r8.getD n9 [])), (13, .own 6001), (14, .i (lZ r8)), (15, .i (n9 : Int)), (1000001, .tab .u64 Lib.pow10Tab), (1000002, errG), (1000003, errG)], [(2, .cells 37 [q1aS x1, q1aSW x2, .b16 x3, vL 6 eT73 (default : List UInt8 × Int × BitVec 16 × List (BitVec 16) × List (BitVec 16) × (f34z0)) x4, q1aI x5, vL 3 eSBLWWJ (default : List UInt8 × Bool × (f34z0)) x6]), (5, .cells 77 [.i i10, .bool b11]), (11, q1bIB_77 l12), (6001, q1bS_9 r8)], [], 0⟩ (an2 ob0 ob1) ?_
   refine tN ?_
   refine AWp.seq ?_
   obtain ⟨r13, hr13, h⟩ := bind_ok h
   refine q1rr [] [(3, ⟨[.agg [q1aS x1, q1aSW x2, .b16 x3, vL 6 eT73 (default : List UInt8 × Int × BitVec 16 × List (BitVec 16) × List (BitVec 16) × (f34z0)) x4, q1aI x5, vL 3 eSBLWWJ (default : List UInt8 × Bool × (f34z0)) x6], .agg [.i i10, .bool b11], .str (r8.getD n9 [])], [], [], [], .agg (f34z3 r13), [], [], [1, 2, 3]⟩)] ⟨29, (f34z1 r8 n9), [(2, .cells 37 [q1aS x1, q1aSW x2, .b16 x3, vL 6 eT73 (default : List UInt8 × Int × BitVec 16 × List (BitVec 16) × List (BitVec 16) × (f34z0)) x4, q1aI x5, vL 3 eSBLWWJ (default : List UInt8 × Bool × (f34z0)) x6]), (5, .cells 77 (f34z3 r13)), (11, q1bIB_77 l12), (6001, q1bS_9 r8)], [], 0⟩ (an2 (cpT (f59_ok _ _ _ _ _ _ _ _ _ _ hr13)) trivial) ?_
   refine tN ?_
   obtain ⟨ob2, h⟩ := chk_some h
   refine q1rr [] [] ⟨29, (f34z1 r8 n9), [(2, .cells 37 [q1aS x1, q1aSW x2, .b16 x3, vL 6 eT73 (default : List UInt8 × Int × BitVec 16 × List (BitVec 16) × List (BitVec 16) × (f34z0)) x4, q1aI x5, vL 3 eSBLWWJ (default : List UInt8 × Bool × (f34z0)) x6]), (5, .cells 77 (f34z3 r13)), (11, .rows 77 2 ((l12).length + 1) (appF (l12).length (encF eIB q1dIB l12) (lstF 2 (f34z3 r13)))), (6001, q1bS_9 r8)], [], 0⟩ (an1 ob2) ?_
   refine kN ?_
   refine tN ?_
   refine AWp.le (Le.mk (s' := ⟨29, (f34z1 r8 n9), [(2, .cells 37 [q1aS x1, q1aSW x2, .b16 x3, vL 6 eT73 (default : List UInt8 × Int × BitVec 16 × List (BitVec 16) × List (BitVec 16) × (f34z0)) x4, q1aI x5, vL 3 eSBLWWJ (default : List UInt8 × Bool × (f34z0)) x6]), (5, .cells 77 (f34z3 r13)), (11, q1bIB_77 (l12 ++ [(r13.1, r13.2)])), (6001, q1bS_9 r8)], [], 0⟩) rfl rfl ⟨.refl _, .refl _, .refl _, .refl _, .refl _, .refl _, .refl _, .refl _, .refl _, trivial⟩ ⟨⟨_, rfl, .refl _⟩, ⟨_, rfl, .refl _⟩, ⟨_, rfl, (BLe.of (RL.app (RL.self _) (RL.lst (enc := eIB) [(r13.1, r13.2)] rfl rfl (fun _ => rfl))))⟩, ⟨_, rfl, .refl _⟩, trivial⟩) ?_
   obtain ⟨ob3p, h⟩ := chk_some h
   have ob3 : -9223372036854775808 ≤ ((n9 : Int) + (1 : Int)) ∧ ((n9 : Int) + (1 : Int)) ≤ 9223372036854775807 := ⟨by omega, ob3p⟩
   refine q1rr [] [] ⟨29, [(2, .ptr 2 0), (5, .ptr 5 0), (6, .own 11), (13, .own 6001), (14, .i (lZ r8)), (15, .i (((n9 + 1) : Nat) : Int)), (1000001, .tab .u64 Lib.pow10Tab), (1000002, errG), (1000003, errG)], [(2, .cells 37 [q1aS x1, q1aSW x2, .b16 x3, vL 6 eT73 (default : List UInt8 × Int × BitVec 16 × List (BitVec 16) × List (BitVec 16) × (f34z0)) x4, q1aI x5, vL 3 eSBLWWJ (default : List UInt8 × Bool × (f34z0)) x6]), (5, .cells 77 (f34z3 r13)), (11, q1bIB_77 (l12 ++ [(r13.1, r13.2)])), (6001, q1bS_9 r8)], [], 0⟩ (an1 ob3) ?_
   rw [hC0] at h
   exact lN (_, (n9 + 1), r13.1, r13.2, (l12 ++ [(r13.1, r13.2)])) (Le.mk rfl rfl ⟨.refl _, .refl _, .refl _, .refl _, .refl _, .refl _, .refl _, .refl _, .refl _, trivial⟩ ⟨⟨_, rfl, .refl _⟩, ⟨_, rfl, .refl _⟩, ⟨_, rfl, .refl _⟩, ⟨_, rfl, .refl _⟩, trivial⟩) h (Nat.lt_succ_self _)
  ·
   replace h := ite_fb hc1 h
   refine AWp.exit ?_
   refine tE ?_
   refine tE ?_
   refine kS ?_
   exact jN (l12) (Le.mk rfl rfl ⟨.refl _, .refl _, .refl _, .refl _, trivial⟩ ⟨⟨_, rfl, .refl _⟩, trivial⟩) h
 ·
  rintro l14 h
  replace h := (congrFun hK1 _).symm.trans h
  refine q1rq [] [] ⟨29, [(4, .own 11), (1000001, .tab .u64 Lib.pow10Tab), (1000002, errG), (1000003, errG)], [(11, q1bIB_77 l14)], [], 0⟩ trivial ?_
  refine AWp.le (Le.trans (Le.ren (swapN 11 3000) (swapN_inv 11 3000) rfl) (Le.mk (s' := ⟨29, [(4, .own 3000), (1000001, .tab .u64 Lib.pow10Tab), (1000002, errG), (1000003, errG)], [(3000, q1bIB_77 l14)], [], 0⟩) rfl rfl ⟨.refl _, .refl _, .refl _, .refl _, trivial⟩ ⟨⟨_, rfl, .refl _⟩, trivial⟩)) ?_
  have hret := Option.some.inj h
  subst hret
  refine AWp.le (Le.mk (s' := ⟨29, [(4, .own 3000)], [(3000, q1bIB_77 l14)], [], 0⟩) rfl rfl ⟨.refl _, trivial⟩ ⟨⟨_, rfl, .refl _⟩, trivial⟩) ?_
  refine AWp.ret ?_
  exact bR _ rfl ⟨rfl, rfl⟩ rfl
abbrev f112z0 : List (Nat × V) := [(4, .int .i64 (0 : Int)), (5, .int .i64 (0 : Int))]
end Go.Abs
