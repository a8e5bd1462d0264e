/- Part 22 of the proof: Xtz. -/
import Derived.Test.YtjgboohpholnbaaGreatDoorTpcomZ21
namespace Go.Abs
open Go Go.Proofs
set_option maxRecDepth 100000
set_option maxHeartbeats 4000000
theorem f46b_ok (C70004 : YC) (Y70004 : (List UInt8 × Int × TB × List (TB) × List (TB) × (List Tq0) × TB × List (TB) × TB × List (TB)) → (TB) → Option (Nat × (List UInt8 × Int × TB × List (TB) × List (TB) × (List Tq0) × TB × List (TB) × TB × List (TB)))) (x1 : TB) (x2 : Int) (x3 : List UInt8) (x4 : Int) (x5 : TB) (x6 : List (TB)) (x7 : List (TB)) (x8 : List Tq0) (x9 : TB) (x10 : List (TB)) (x11 : TB) (x12 : List (TB)) (r : Bool × Nat × List UInt8 × Int × TB × List (TB) × List (TB) × (List Tq0) × TB × List (TB) × TB × List (TB)) (h : f46b Y70004 x1 x2 x3 x4 x5 x6 x7 x8 x9 x10 x11 x12 = some r) (hY70004 : ∀ s x r, Y70004 s x = some r → YSpec Tryz.prog 70004 [3, 4, 9, 10] C70004 [3, 4, 9, 10, 6001] [(3, .cells 33 [.str s.1, .int .i64 s.2.1, .b16 s.2.2.1, vL 1 eW 0#16 s.2.2.2.1, vL 1 eW 0#16 s.2.2.2.2.1, vL 2 eWW (default : Tq0) s.2.2.2.2.2.1]), (4, .cells 27 [.b16 s.2.2.2.2.2.2.1]), (9, .cells 31 [vL 1 eW 0#16 s.2.2.2.2.2.2.2.1]), (10, .cells 31 [.own 6500]), (6001, .cells 27 [.b16 s.2.2.2.2.2.2.2.2.1]), (6500, bL 27 1 eW 0#16 s.2.2.2.2.2.2.2.2.2)] [.b16 x] r.1 [(3, .cells 33 [.str r.2.1, .int .i64 r.2.2.1, .b16 r.2.2.2.1, vL 1 eW 0#16 r.2.2.2.2.1, vL 1 eW 0#16 r.2.2.2.2.2.1, vL 2 eWW (default : Tq0) r.2.2.2.2.2.2.1]), (4, .cells 27 [.b16 r.2.2.2.2.2.2.2.1]), (9, .cells 31 [vL 1 eW 0#16 r.2.2.2.2.2.2.2.2.1]), (10, .cells 31 [.own 6500]), (6001, .cells 27 [.b16 r.2.2.2.2.2.2.2.2.2.1]), (6500, bL 27 1 eW 0#16 r.2.2.2.2.2.2.2.2.2.2)]) : Spec1 Tryz.prog 46 [(0, .elem 32 1 T0F 0 0)] [70004, 3, 4, 9, 10, 6001] [(70004, .yld (some ([3, 4, 9, 10], C70004)) 0), (3, .cells 33 [.str x3, .int .i64 x4, .b16 x5, vL 1 eW 0#16 x6, vL 1 eW 0#16 x7, vL 2 eWW (default : Tq0) x8]), (4, .cells 27 [.b16 x9]), (9, .cells 31 [vL 1 eW 0#16 x10]), (10, .cells 31 [.own 6500]), (6001, .cells 27 [.b16 x11]), (6500, bL 27 1 eW 0#16 x12)] [.b16 x1, .int .i64 x2, .own 70004] (.bool r.1) [(70004, .yld (some ([3, 4, 9, 10], C70004)) r.2.1), (3, .cells 33 [.str r.2.2.1, .int .i64 r.2.2.2.1, .b16 r.2.2.2.2.1, vL 1 eW 0#16 r.2.2.2.2.2.1, vL 1 eW 0#16 r.2.2.2.2.2.2.1, vL 2 eWW (default : Tq0) r.2.2.2.2.2.2.2.1]), (4, .cells 27 [.b16 r.2.2.2.2.2.2.2.2.1]), (9, .cells 31 [vL 1 eW 0#16 r.2.2.2.2.2.2.2.2.2.1]), (10, .cells 31 [.own 6500]), (6001, .cells 27 [.b16 r.2.2.2.2.2.2.2.2.2.2.1]), (6500, bL 27 1 eW 0#16 r.2.2.2.2.2.2.2.2.2.2.2)] := by
 unfold f46b at h
 refine Spec1.body 20000 _ _ Tryz.func46 rfl Tryz.ntmps46 rfl rfl ?_
 refine q2rq [57] [] ⟨70, [(0, .b16 x1), (1, .i x2), (2, .own 70004), (1000000, .elem 32 1 T0F 0 0)], [(3, .cells 33 [.str x3, .i x4, .b16 x5, q2aW x6, q2aW x7, q2aWW x8]), (4, .cells 27 [.b16 x9]), (9, .cells 31 [q2aW x10]), (10, .cells 31 [.own 6500]), (6001, .cells 27 [.b16 x11]), (6500, q2bW_27 x12), (70004, .yld (some ([3, 4, 9, 10], C70004)) 0)], [70004, 3, 4, 9, 10, 6001], 20000⟩ trivial ?_
 refine AWp.seq ?_
 obtain ⟨r13, hr13, h⟩ := bind_ok h
 refine q2rr [57] [(1, ⟨[.b16 x1], [], [], [(26001, q2bI_3 r13)], .own 26001, [26001], [], [0]⟩)] ⟨70, [(1, .i x2), (2, .own 70004), (7, .own 26001), (1000000, .elem 32 1 T0F 0 0)], (f46bz3 x3 x4 x5 x6 x7 x8 x9 x10 x11 x12 r13 C70004), [70004, 3, 4, 9, 10, 6001], 20000⟩ (an1 (cpT (Spec1.ren (swapN 3000 26001) (swapN_inv 3000 26001) rfl (f70_ok _ _ hr13)))) ?_
 refine tN ?_
 refine AWp.seq ?_
 refine AWp.seq ?_
 have ob0 := idA ((f46bz7 x2) = true)
 have ob1 := idA ((f46bz7 x2) = true)
 have ob2 := idA ((f46bz7 x2) = true)
 have ob3 : true = true → (decide (x2 < (0 : Int))) = false → (f46bz7 x2) = true := fun _ h => beq_iff_eq.2 h
 refine q2rr [57] [] ⟨70, [(1, .i x2), (2, .own 70004), (7, .own 26001), (23, .bool ((decide (x2 < (0 : Int))) || (decide (x2 > (lZ r13))))), (1000000, .elem 32 1 T0F 0 0)], (f46bz3 x3 x4 x5 x6 x7 x8 x9 x10 x11 x12 r13 C70004), [70004, 3, 4, 9, 10, 6001], 20000⟩ (an3 (an1 ob0) (an2 ob1 ob2) ob3) ?_
 refine tN ?_
 refine AWp.cond (b := ((decide (x2 < (0 : Int))) || (decide (x2 > (lZ r13))))) (by kernel_rfl) (fun hc1 => ?_) (fun hc1 => ?_)
 ·
  replace h := ite_tb hc1 h
  refine q2rq [57] [] ⟨70, [(6, .bool true), (1000000, .elem 32 1 T0F 0 0)], [(3, .cells 33 [.str x3, .i x4, .b16 x5, q2aW x6, q2aW x7, q2aWW x8]), (4, .cells 27 [.b16 x9]), (9, .cells 31 [q2aW x10]), (10, .cells 31 [.own 6500]), (6001, .cells 27 [.b16 x11]), (6500, q2bW_27 x12), (70004, .yld (some ([3, 4, 9, 10], C70004)) 0)], [70004, 3, 4, 9, 10, 6001], 20000⟩ trivial ?_
  have hret := oJ h
  subst hret
  refine AWp.le (Le.mk (s' := ⟨70, [(6, .bool true)], [(70004, .yld (some ([3, 4, 9, 10], C70004)) 0), (3, .cells 33 [.str x3, .i x4, .b16 x5, q2aW x6, q2aW x7, q2aWW x8]), (4, .cells 27 [.b16 x9]), (9, .cells 31 [q2aW x10]), (10, .cells 31 [.own 6500]), (6001, .cells 27 [.b16 x11]), (6500, q2bW_27 x12)], [70004, 3, 4, 9, 10, 6001], 20000⟩) rfl rfl ⟨.refl _, trivial⟩ ⟨⟨_, rfl, .refl _⟩, ⟨_, rfl, .refl _⟩, ⟨_, rfl, .refl _⟩, ⟨_, rfl, .refl _⟩, ⟨_, rfl, .refl _⟩, ⟨_, rfl, .refl _⟩, ⟨_, rfl, .refl _⟩, trivial⟩) ?_
  refine AWp.ret ?_
  refine tR ?_
  exact bR _ rfl ⟨rfl, rfl⟩ rfl
 ·
  replace h := ite_fb hc1 h
  refine AWp.skip ?_
  refine tN ?_
  obtain ⟨K1, hK1, h⟩ := jn_some h
  refine AWp.join (α := TB × List (TB) × TB × List UInt8 × Int × TB × List (TB) × List (TB) × (f46bz9) × List (TB) × Nat) (fun (x : TB × List (TB) × TB × List UInt8 × Int × TB × List (TB) × List (TB) × (f46bz9) × List (TB) × Nat) => match x with | (w30, l31, w32, s33, i34, w35, l36, l37, l38, l39, n40) => ⟨70, [(1000000, .elem 32 1 T0F 0 0)], [(3, .cells 33 [.str s33, .i i34, .b16 w35, q2aW l36, q2aW l37, q2aWW l38]), (4, .cells 27 [.b16 w32]), (9, .cells 31 [q2aW l31]), (10, .cells 31 [.own 6500]), (6001, .cells 27 [.b16 w30]), (6500, q2bW_27 l39), (70004, .yld (some ([3, 4, 9, 10], C70004)) n40)], [70004, 3, 4, 9, 10, 6001], 20000⟩) (fun x => K1 x = some r) ?_ ?_
  ·
   refine AWp.seq ?_
   obtain ⟨ob4, ob5, h⟩ := ck2 h
   refine q2rr [57] [] ⟨70, [(2, .own 70004), (7, .own 26001), (8, .int .u32 (((1 : Int) * 2 ^ ((x2).toNat)) - (1 : Int))), (1000000, .elem 32 1 T0F 0 0)], (f46bz3 x3 x4 x5 x6 x7 x8 x9 x10 x11 x12 r13 C70004), [70004, 3, 4, 9, 10, 6001], 20000⟩ (an2 ob4 ob5) ?_
   refine tN ?_
   refine AWp.block ?_
   refine AWp.loopL (α := Nat × (Int × TB × List (TB) × TB × List UInt8 × Int × TB × List (TB) × List (TB) × (f46bz9) × List (TB) × Nat)) (fun x => match x with | (_, i14, w15, l16, w17, s18, i19, w20, l21, l22, l23, l24, n25) => ⟨70, [(2, .own 70004), (7, .own 26001), (8, .int .u32 i14), (1000000, .elem 32 1 T0F 0 0)], (f46bz0 s18 i19 w20 l21 l22 l23 w17 l16 w15 l24 r13 C70004 n25), [70004, 3, 4, 9, 10, 6001], 20000⟩) (fun x => f46b_L0 Y70004 r13 K1 x.1 x.2 = some r) (fun x => x.1) (FUEL, (((1 : Int) * 2 ^ ((x2).toNat)) - (1 : Int)), x11, x10, x9, x3, x4, x5, x6, x7, x8, x12, 0) (Le.mk (s' := ⟨70, [(2, .own 70004), (7, .own 26001), (8, .int .u32 (((1 : Int) * 2 ^ ((x2).toNat)) - (1 : Int))), (1000000, .elem 32 1 T0F 0 0)], (f46bz3 x3 x4 x5 x6 x7 x8 x9 x10 x11 x12 r13 C70004), [70004, 3, 4, 9, 10, 6001], 20000⟩) rfl rfl ⟨.refl _, .refl _, .refl _, .refl _, trivial⟩ ⟨⟨_, rfl, .refl _⟩, ⟨_, rfl, .refl _⟩, ⟨_, rfl, .refl _⟩, ⟨_, rfl, .refl _⟩, ⟨_, rfl, .refl _⟩, ⟨_, rfl, .refl _⟩, ⟨_, rfl, .refl _⟩, ⟨_, rfl, .refl _⟩, trivial⟩) h ?_
   rintro ⟨k0, i14, w15, l16, w17, s18, i19, w20, l21, l22, l23, l24, n25⟩ h
   cases k0 with
   | zero => exact nomatch (show (none : Option (Bool × Nat × List UInt8 × Int × TB × List (TB) × List (TB) × (List Tq0) × TB × List (TB) × TB × List (TB))) = some r from h)
   | succ k0 =>
   obtain ⟨C0, hC0⟩ : ∃ C, C = f46b_L0 Y70004 r13 K1 k0 := ⟨_, rfl⟩
   replace h := (f46b_L0.eq_2 ..).symm.trans h
   try rw [← hC0] at h
   refine AWp.seq ?_
   refine AWp.seq ?_
   obtain ⟨ob6p, h⟩ := chk_some h
   have ob6 : 0 ≤ (((r13).length : Nat) : Int) ∧ (r13).length ≤ IntKind.bits .u32 ∧ 0 ≤ ((1 : Int) * 2 ^ ((r13).length)) ∧ ((1 : Int) * 2 ^ ((r13).length)) ≤ 4294967295 := ⟨by omega, ob6p.1, ob6p.2.1, ob6p.2.2⟩
   refine q2rr [57] [] ⟨70, [(2, .own 70004), (7, .own 26001), (8, .int .u32 i14), (31, .bool (decide (i14 < ((1 : Int) * 2 ^ ((r13).length))))), (1000000, .elem 32 1 T0F 0 0)], (f46bz0 s18 i19 w20 l21 l22 l23 w17 l16 w15 l24 r13 C70004 n25), [70004, 3, 4, 9, 10, 6001], 20000⟩ (an1 ob6) ?_
   refine tN ?_
   refine AWp.cond (b := (decide (i14 < ((1 : Int) * 2 ^ ((r13).length))))) (by kernel_rfl) (fun hc2 => ?_) (fun hc2 => ?_)
   ·
    replace h := ite_tb hc2 h
    refine AWp.skip ?_
    refine tN ?_
    refine AWp.block ?_
    refine q2rq [57] [] ⟨70, [(2, .own 70004), (7, .own 26001), (8, .int .u32 i14), (9, .b16 (q2w16 0)), (1000000, .elem 32 1 T0F 0 0)], (f46bz0 s18 i19 w20 l21 l22 l23 w17 l16 w15 l24 r13 C70004 n25), [70004, 3, 4, 9, 10, 6001], 20000⟩ trivial ?_
    obtain ⟨K2, hK2, h⟩ := jn_some h
    refine AWp.join (α := TB) (fun (w29 : TB) => ⟨70, [(2, .own 70004), (7, .own 26001), (8, .int .u32 i14), (9, .b16 w29), (1000000, .elem 32 1 T0F 0 0)], (f46bz0 s18 i19 w20 l21 l22 l23 w17 l16 w15 l24 r13 C70004 n25), [70004, 3, 4, 9, 10, 6001], 20000⟩) (fun x => K2 x = some r) ?_ ?_
    ·
     refine q2rq [57] [] ⟨70, [(2, .own 70004), (7, .own 26001), (8, .int .u32 i14), (9, .b16 (q2w16 0)), (32, .own 26001), (33, .i (lZ r13)), (34, .i (0 : Int)), (1000000, .elem 32 1 T0F 0 0)], (f46bz0 s18 i19 w20 l21 l22 l23 w17 l16 w15 l24 r13 C70004 n25), [70004, 3, 4, 9, 10, 6001], 20000⟩ trivial ?_
     refine AWp.block ?_
     refine AWp.loopL (α := Nat × (TB × Nat)) (fun x => match x with | (_, w26, n27) => ⟨70, [(2, .own 70004), (7, .own 26001), (8, .int .u32 i14), (9, .b16 w26), (32, .own 26001), (33, .i (lZ r13)), (34, .i (n27 : Int)), (1000000, .elem 32 1 T0F 0 0)], (f46bz0 s18 i19 w20 l21 l22 l23 w17 l16 w15 l24 r13 C70004 n25), [70004, 3, 4, 9, 10, 6001], 20000⟩) (fun x => f46b_L1 r13 i14 K2 x.1 x.2 = some r) (fun x => x.1) (FUEL, (q2w16 0), 0) (Le.mk (s' := ⟨70, [(2, .own 70004), (7, .own 26001), (8, .int .u32 i14), (9, .b16 (q2w16 0)), (32, .own 26001), (33, .i (lZ r13)), (34, .i (0 : Int)), (1000000, .elem 32 1 T0F 0 0)], (f46bz0 s18 i19 w20 l21 l22 l23 w17 l16 w15 l24 r13 C70004 n25), [70004, 3, 4, 9, 10, 6001], 20000⟩) rfl rfl ⟨.refl _, .refl _, .refl _, .refl _, .refl _, .refl _, .refl _, .refl _, trivial⟩ ⟨⟨_, rfl, .refl _⟩, ⟨_, rfl, .refl _⟩, ⟨_, rfl, .refl _⟩, ⟨_, rfl, .refl _⟩, ⟨_, rfl, .refl _⟩, ⟨_, rfl, .refl _⟩, ⟨_, rfl, .refl _⟩, ⟨_, rfl, .refl _⟩, trivial⟩) h ?_
     rintro ⟨k1, w26, n27⟩ h
     cases k1 with
     | zero => exact nomatch (show (none : Option (Bool × Nat × List UInt8 × Int × TB × List (TB) × List (TB) × (List Tq0) × TB × List (TB) × TB × List (TB))) = some r from h)
     | succ k1 =>
     obtain ⟨C1, hC1⟩ : ∃ C, C = f46b_L1 r13 i14 K2 k1 := ⟨_, rfl⟩
     replace h := (f46b_L1.eq_2 ..).symm.trans h
     try rw [← hC1] at h
     refine q2rq [57] [] ⟨70, [(2, .own 70004), (7, .own 26001), (8, .int .u32 i14), (9, .b16 w26), (32, .own 26001), (33, .i (lZ r13)), (34, .i (n27 : Int)), (35, .bool (decide ((n27 : Int) < (lZ r13)))), (1000000, .elem 32 1 T0F 0 0)], (f46bz0 s18 i19 w20 l21 l22 l23 w17 l16 w15 l24 r13 C70004 n25), [70004, 3, 4, 9, 10, 6001], 20000⟩ trivial ?_
     refine AWp.seq ?_
     refine AWp.cond (b := (decide ((n27 : Int) < (lZ r13)))) (by kernel_rfl) (fun hc3 => ?_) (fun hc3 => ?_)
     ·
      replace h := ite_tb hc3 h
      refine AWp.skip ?_
      refine tN ?_
      obtain ⟨K3, hK3, h⟩ := jn_some h
      refine AWp.join (α := TB) (fun (w28 : TB) => ⟨70, [(2, .own 70004), (7, .own 26001), (8, .int .u32 i14), (9, .b16 w28), (32, .own 26001), (33, .i (lZ r13)), (34, .i (n27 : Int)), (1000000, .elem 32 1 T0F 0 0)], (f46bz0 s18 i19 w20 l21 l22 l23 w17 l16 w15 l24 r13 C70004 n25), [70004, 3, 4, 9, 10, 6001], 20000⟩) (fun x => K3 x = some r) ?_ ?_
      ·
       refine AWp.block ?_
       refine AWp.seq ?_
       obtain ⟨ob7p, h⟩ := chk_some h
       have ob7 : 0 ≤ (n27 : Int) ∧ (n27 : Int) < (((r13).length : Nat) : Int) := ⟨by omega, ob7p⟩
       obtain ⟨ob8, h⟩ := chk_some h
       refine q2rr [57] [] ⟨70, [(2, .own 70004), (7, .own 26001), (8, .int .u32 i14), (9, .b16 w26), (10, .i (n27 : Int)), (11, .i (r13.getD n27 0)), (32, .own 26001), (33, .i (lZ r13)), (34, .i (n27 : Int)), (1000000, .elem 32 1 T0F 0 0)], (f46bz0 s18 i19 w20 l21 l22 l23 w17 l16 w15 l24 r13 C70004 n25), [70004, 3, 4, 9, 10, 6001], 20000⟩ (an2 ob7 ob8) ?_
       refine tN ?_
       refine AWp.seq ?_
       obtain ⟨ob9p, h⟩ := chk_some h
       have ob9 : 0 ≤ (n27 : Int) ∧ n27 ≤ IntKind.bits .u32 := ⟨by omega, ob9p⟩
       refine q2rr [57] [] ⟨70, [(2, .own 70004), (7, .own 26001), (8, .int .u32 i14), (9, .b16 w26), (11, .i (r13.getD n27 0)), (32, .own 26001), (33, .i (lZ r13)), (34, .i (n27 : Int)), (43, .bool ((bitsI .and .u32 (i14 / 2 ^ n27) (1 : Int)) == (1 : Int))), (1000000, .elem 32 1 T0F 0 0)], (f46bz0 s18 i19 w20 l21 l22 l23 w17 l16 w15 l24 r13 C70004 n25), [70004, 3, 4, 9, 10, 6001], 20000⟩ (an1 ob9) ?_
       refine tN ?_
       refine AWp.cond (b := ((bitsI .and .u32 (i14 / 2 ^ n27) (1 : Int)) == (1 : Int))) (by kernel_rfl) (fun hc4 => ?_) (fun hc4 => ?_)
       ·
        replace h := ite_tb hc4 h
        obtain ⟨ob10, h⟩ := chk_some h
        refine q2rr [57] [] ⟨70, [(2, .own 70004), (7, .own 26001), (8, .int .u32 i14), (9, .b16 (w26 ||| ((q2w16 1) <<< (((r13.getD n27 0)).toNat)))), (32, .own 26001), (33, .i (lZ r13)), (34, .i (n27 : Int)), (1000000, .elem 32 1 T0F 0 0)], (f46bz0 s18 i19 w20 l21 l22 l23 w17 l16 w15 l24 r13 C70004 n25), [70004, 3, 4, 9, 10, 6001], 20000⟩ (an1 ob10) ?_
        refine kN ?_
        exact jN ((w26 ||| ((q2w16 1) <<< (((r13.getD n27 0)).toNat)))) (Le.mk rfl rfl ⟨.refl _, .refl _, .refl _, .refl _, .refl _, .refl _, .refl _, .refl _, trivial⟩ ⟨⟨_, rfl, .refl _⟩, ⟨_, rfl, .refl _⟩, ⟨_, rfl, .refl _⟩, ⟨_, rfl, .refl _⟩, ⟨_, rfl, .refl _⟩, ⟨_, rfl, .refl _⟩, ⟨_, rfl, .refl _⟩, ⟨_, rfl, .refl _⟩, trivial⟩) h
       ·
        replace h := ite_fb hc4 h
        refine AWp.skip ?_
        refine kN ?_
        exact jN (w26) (Le.mk rfl rfl ⟨.refl _, .refl _, .refl _, .refl _, .refl _, .refl _, .refl _, .refl _, trivial⟩ ⟨⟨_, rfl, .refl _⟩, ⟨_, rfl, .refl _⟩, ⟨_, rfl, .refl _⟩, ⟨_, rfl, .refl _⟩, ⟨_, rfl, .refl _⟩, ⟨_, rfl, .refl _⟩, ⟨_, rfl, .refl _⟩, ⟨_, rfl, .refl _⟩, trivial⟩) h
      ·
       rintro w28 h
       replace h := (congrFun hK3 _).symm.trans h
       obtain ⟨ob11p, h⟩ := chk_some h
       have ob11 : -9223372036854775808 ≤ ((n27 : Int) + (1 : Int)) ∧ ((n27 : Int) + (1 : Int)) ≤ 9223372036854775807 := ⟨by omega, ob11p⟩
       refine q2rr [57] [] ⟨70, [(2, .own 70004), (7, .own 26001), (8, .int .u32 i14), (9, .b16 w28), (32, .own 26001), (33, .i (lZ r13)), (34, .i (((n27 + 1) : Nat) : Int)), (1000000, .elem 32 1 T0F 0 0)], (f46bz0 s18 i19 w20 l21 l22 l23 w17 l16 w15 l24 r13 C70004 n25), [70004, 3, 4, 9, 10, 6001], 20000⟩ (an1 ob11) ?_
       rw [hC1] at h
       exact lN (_, w28, (n27 + 1)) (Le.mk rfl rfl ⟨.refl _, .refl _, .refl _, .refl _, .refl _, .refl _, .refl _, .refl _, trivial⟩ ⟨⟨_, rfl, .refl _⟩, ⟨_, rfl, .refl _⟩, ⟨_, rfl, .refl _⟩, ⟨_, rfl, .refl _⟩, ⟨_, rfl, .refl _⟩, ⟨_, rfl, .refl _⟩, ⟨_, rfl, .refl _⟩, ⟨_, rfl, .refl _⟩, trivial⟩) h (Nat.lt_succ_self _)
     ·
      replace h := ite_fb hc3 h
      refine AWp.exit ?_
      refine tE ?_
      refine tE ?_
      refine kS ?_
      exact jN (w26) (Le.mk rfl rfl ⟨.refl _, .refl _, .refl _, .refl _, .refl _, trivial⟩ ⟨⟨_, rfl, .refl _⟩, ⟨_, rfl, .refl _⟩, ⟨_, rfl, .refl _⟩, ⟨_, rfl, .refl _⟩, ⟨_, rfl, .refl _⟩, ⟨_, rfl, .refl _⟩, ⟨_, rfl, .refl _⟩, ⟨_, rfl, .refl _⟩, trivial⟩) h
    ·
     rintro w29 h
     replace h := (congrFun hK2 _).symm.trans h
     obtain ⟨K4, hK4, h⟩ := jn_some h
     refine AWp.join (α := TB × List (TB) × TB × List UInt8 × Int × TB × List (TB) × List (TB) × (f46bz9) × List (TB) × Nat) (fun (x : TB × List (TB) × TB × List UInt8 × Int × TB × List (TB) × List (TB) × (f46bz9) × List (TB) × Nat) => match x with | (w31, l32, w33, s34, i35, w36, l37, l38, l39, l40, n41) => ⟨70, [(2, .own 70004), (7, .own 26001), (8, .int .u32 i14), (1000000, .elem 32 1 T0F 0 0)], (f46bz2 s34 i35 w36 l37 l38 l39 w33 l32 w31 l40 r13 C70004 n41), [70004, 3, 4, 9, 10, 6001], 20000⟩) (fun x => K4 x = some r) ?_ ?_
     ·
      refine AWp.seq ?_
      obtain ⟨hz5, h⟩ := chk_some h
      refine AWp.le (Le.mk (s' := ⟨70, [(2, .own 70004), (7, .own 26001), (8, .int .u32 i14), (9, .b16 w29), (1000000, .elem 32 1 T0F 0 0)], [(3, .cells 33 (f46bz8 s18 i19 w20 l21 l22 l23)), (4, .cells 27 [.b16 w17]), (9, .cells 31 [q2aW l16]), (10, .cells 31 [.own 6500]), (6001, .cells 27 [.b16 w15]), (6500, q2bW_27 l24), (26001, q2bI_3 r13), (70004, .yld (some ([3, 4, 9, 10], C70004)) 0)], [70004, 3, 4, 9, 10, 6001], 20000⟩) rfl rfl ⟨.refl _, .refl _, .refl _, .refl _, .refl _, trivial⟩ ⟨⟨_, rfl, .refl _⟩, ⟨_, rfl, .refl _⟩, ⟨_, rfl, .refl _⟩, ⟨_, rfl, .refl _⟩, ⟨_, rfl, .refl _⟩, ⟨_, rfl, .refl _⟩, ⟨_, rfl, .refl _⟩, ⟨_, rfl, BLe.yldEq hz5⟩, trivial⟩) ?_
      obtain ⟨r30, hr30, h⟩ := bind_ok h
      by_cases hy_r30 : r30.1 = 0
      ·
       replace h := ite_t hy_r30 h
       refine q2rr [57] [(2, ⟨[.b16 w29], [70004, 3, 4, 9, 10, 6001, 6500], [3, 4, 9, 10, 6001], (f46bz6 C70004 r30), .bool true, [6500], [], []⟩)] ⟨70, [(2, .own 70004), (7, .own 26001), (8, .int .u32 i14), (52, .bool (!true)), (1000000, .elem 32 1 T0F 0 0)], [(3, .cells 33 (f46bz1 r30)), (4, .cells 27 [.b16 r30.2.2.2.2.2.2.2.1]), (9, .cells 31 [q2aW r30.2.2.2.2.2.2.2.2.1]), (10, .cells 31 [.own 6500]), (6001, .cells 27 [.b16 r30.2.2.2.2.2.2.2.2.2.1]), (6500, q2bW_27 r30.2.2.2.2.2.2.2.2.2.2), (26001, q2bI_3 r13), (70004, .yld (some ([3, 4, 9, 10], C70004)) 0)], [70004, 3, 4, 9, 10, 6001], 20000⟩ (an1 (show (((f46bz6 C70004 r30) : Heap) = (70004, .yld (some ([3, 4, 9, 10], C70004)) 0) :: (f46bz4 r30) ∧ V.bool true = V.bool (0 == 0) ∧ YSpec Tryz.prog 70004 [3, 4, 9, 10] C70004 [3, 4, 9, 10, 6001] [(3, .cells 33 (f46bz8 s18 i19 w20 l21 l22 l23)), (4, .cells 27 [.b16 w17]), (9, .cells 31 [q2aW l16]), (10, .cells 31 [.own 6500]), (6001, .cells 27 [.b16 w15]), (6500, q2bW_27 l24)] [.b16 w29] 0 (f46bz4 r30) ∧ VLes [.b16 w29] [.b16 w29]) from ⟨rfl, rfl, (YSpec.zero (hY70004 _ _ r30 hr30) hy_r30), ⟨.refl _, trivial⟩⟩)) ?_
       refine tN ?_
       refine AWp.cond (b := (!true)) (by kernel_rfl) (fun hc7 => ?_) (fun hc7 => ?_)
       ·
        replace h := ite_tb hc7 h
        refine q2rq [57] [] ⟨70, [(6, .bool false), (1000000, .elem 32 1 T0F 0 0)], [(3, .cells 33 (f46bz1 r30)), (4, .cells 27 [.b16 r30.2.2.2.2.2.2.2.1]), (9, .cells 31 [q2aW r30.2.2.2.2.2.2.2.2.1]), (10, .cells 31 [.own 6500]), (6001, .cells 27 [.b16 r30.2.2.2.2.2.2.2.2.2.1]), (6500, q2bW_27 r30.2.2.2.2.2.2.2.2.2.2), (70004, .yld (some ([3, 4, 9, 10], C70004)) 0)], [70004, 3, 4, 9, 10, 6001], 20000⟩ trivial ?_
        have hret := oJ h
        subst hret
        refine AWp.le (Le.mk (s' := ⟨70, [(6, .bool false)], (f46bz6 C70004 r30), [70004, 3, 4, 9, 10, 6001], 20000⟩) rfl rfl ⟨.refl _, trivial⟩ ⟨⟨_, rfl, .refl _⟩, ⟨_, rfl, .refl _⟩, ⟨_, rfl, .refl _⟩, ⟨_, rfl, .refl _⟩, ⟨_, rfl, .refl _⟩, ⟨_, rfl, .refl _⟩, ⟨_, rfl, .refl _⟩, trivial⟩) ?_
        refine AWp.ret ?_
        refine joinQ_ret ?_
        refine kR ?_
        refine tR ?_
        refine kR ?_
        refine joinQ_ret ?_
        exact bR _ rfl ⟨rfl, rfl⟩ rfl
       ·
        replace h := ite_fb hc7 h
        refine AWp.skip ?_
        exact jN (r30.2.2.2.2.2.2.2.2.2.1, r30.2.2.2.2.2.2.2.2.1, r30.2.2.2.2.2.2.2.1, r30.2.1, r30.2.2.1, r30.2.2.2.1, r30.2.2.2.2.1, r30.2.2.2.2.2.1, r30.2.2.2.2.2.2.1, r30.2.2.2.2.2.2.2.2.2.2, 0) (Le.mk rfl rfl ⟨.refl _, .refl _, .refl _, .refl _, trivial⟩ ⟨⟨_, rfl, .refl _⟩, ⟨_, rfl, .refl _⟩, ⟨_, rfl, .refl _⟩, ⟨_, rfl, .refl _⟩, ⟨_, rfl, .refl _⟩, ⟨_, rfl, .refl _⟩, ⟨_, rfl, .refl _⟩, ⟨_, rfl, .refl _⟩, trivial⟩) h
      ·
       replace h := ite_f hy_r30 h
       refine q2rr [57] [(2, ⟨[.b16 w29], [70004, 3, 4, 9, 10, 6001, 6500], [3, 4, 9, 10, 6001], (f46bz5 C70004 r30), .bool false, [6500], [], []⟩)] ⟨70, [(2, .own 70004), (7, .own 26001), (8, .int .u32 i14), (52, .bool (!false)), (1000000, .elem 32 1 T0F 0 0)], [(3, .cells 33 (f46bz1 r30)), (4, .cells 27 [.b16 r30.2.2.2.2.2.2.2.1]), (9, .cells 31 [q2aW r30.2.2.2.2.2.2.2.2.1]), (10, .cells 31 [.own 6500]), (6001, .cells 27 [.b16 r30.2.2.2.2.2.2.2.2.2.1]), (6500, q2bW_27 r30.2.2.2.2.2.2.2.2.2.2), (26001, q2bI_3 r13), (70004, .yld (some ([3, 4, 9, 10], C70004)) r30.1)], [70004, 3, 4, 9, 10, 6001], 20000⟩ (an1 (show (((f46bz5 C70004 r30) : Heap) = (70004, .yld (some ([3, 4, 9, 10], C70004)) r30.1) :: (f46bz4 r30) ∧ V.bool false = V.bool (r30.1 == 0) ∧ YSpec Tryz.prog 70004 [3, 4, 9, 10] C70004 [3, 4, 9, 10, 6001] [(3, .cells 33 (f46bz8 s18 i19 w20 l21 l22 l23)), (4, .cells 27 [.b16 w17]), (9, .cells 31 [q2aW l16]), (10, .cells 31 [.own 6500]), (6001, .cells 27 [.b16 w15]), (6500, q2bW_27 l24)] [.b16 w29] r30.1 (f46bz4 r30) ∧ VLes [.b16 w29] [.b16 w29]) from ⟨rfl, bool_ne hy_r30, (hY70004 _ _ r30 hr30), ⟨.refl _, trivial⟩⟩)) ?_
       refine tN ?_
       refine AWp.cond (b := (!false)) (by kernel_rfl) (fun hc8 => ?_) (fun hc8 => ?_)
       ·
        replace h := ite_tb hc8 h
        refine q2rq [57] [] ⟨70, [(6, .bool false), (1000000, .elem 32 1 T0F 0 0)], [(3, .cells 33 (f46bz1 r30)), (4, .cells 27 [.b16 r30.2.2.2.2.2.2.2.1]), (9, .cells 31 [q2aW r30.2.2.2.2.2.2.2.2.1]), (10, .cells 31 [.own 6500]), (6001, .cells 27 [.b16 r30.2.2.2.2.2.2.2.2.2.1]), (6500, q2bW_27 r30.2.2.2.2.2.2.2.2.2.2), (70004, .yld (some ([3, 4, 9, 10], C70004)) r30.1)], [70004, 3, 4, 9, 10, 6001], 20000⟩ trivial ?_
        have hret := oJ h
        subst hret
        refine AWp.le (Le.mk (s' := ⟨70, [(6, .bool false)], (f46bz5 C70004 r30), [70004, 3, 4, 9, 10, 6001], 20000⟩) rfl rfl ⟨.refl _, trivial⟩ ⟨⟨_, rfl, .refl _⟩, ⟨_, rfl, .refl _⟩, ⟨_, rfl, .refl _⟩, ⟨_, rfl, .refl _⟩, ⟨_, rfl, .refl _⟩, ⟨_, rfl, .refl _⟩, ⟨_, rfl, .refl _⟩, trivial⟩) ?_
        refine AWp.ret ?_
        refine joinQ_ret ?_
        refine kR ?_
        refine tR ?_
        refine kR ?_
        refine joinQ_ret ?_
        exact bR _ rfl ⟨rfl, rfl⟩ rfl
       ·
        replace h := ite_fb hc8 h
        refine AWp.skip ?_
        exact jN (r30.2.2.2.2.2.2.2.2.2.1, r30.2.2.2.2.2.2.2.2.1, r30.2.2.2.2.2.2.2.1, r30.2.1, r30.2.2.1, r30.2.2.2.1, r30.2.2.2.2.1, r30.2.2.2.2.2.1, r30.2.2.2.2.2.2.1, r30.2.2.2.2.2.2.2.2.2.2, r30.1) (Le.mk rfl rfl ⟨.refl _, .refl _, .refl _, .refl _, trivial⟩ ⟨⟨_, rfl, .refl _⟩, ⟨_, rfl, .refl _⟩, ⟨_, rfl, .refl _⟩, ⟨_, rfl, .refl _⟩, ⟨_, rfl, .refl _⟩, ⟨_, rfl, .refl _⟩, ⟨_, rfl, .refl _⟩, ⟨_, rfl, .refl _⟩, trivial⟩) h
     ·
      rintro ⟨w31, l32, w33, s34, i35, w36, l37, l38, l39, l40, n41⟩ h
      replace h := (congrFun hK4 _).symm.trans h
      refine AWp.seq ?_
      refine q2rq [57] [] ⟨70, [(2, .own 70004), (7, .own 26001), (8, .int .u32 i14), (54, .bool (i14 == (0 : Int))), (1000000, .elem 32 1 T0F 0 0)], (f46bz2 s34 i35 w36 l37 l38 l39 w33 l32 w31 l40 r13 C70004 n41), [70004, 3, 4, 9, 10, 6001], 20000⟩ trivial ?_
      refine AWp.cond (b := (i14 == (0 : Int))) (by kernel_rfl) (fun hc9 => ?_) (fun hc9 => ?_)
      ·
       replace h := ite_tb hc9 h
       refine AWp.exit ?_
       refine tE ?_
       refine blockQ_other (by decide) ?_
       refine tE ?_
       refine kS ?_
       exact jN (w31, l32, w33, s34, i35, w36, l37, l38, l39, l40, n41) (Le.mk rfl rfl ⟨.refl _, trivial⟩ ⟨⟨_, rfl, .refl _⟩, ⟨_, rfl, .refl _⟩, ⟨_, rfl, .refl _⟩, ⟨_, rfl, .refl _⟩, ⟨_, rfl, .refl _⟩, ⟨_, rfl, .refl _⟩, ⟨_, rfl, .refl _⟩, trivial⟩) h
      ·
       replace h := ite_fb hc9 h
       refine AWp.skip ?_
       refine tN ?_
       refine q2rq [57] [] ⟨70, [(2, .own 70004), (7, .own 26001), (8, .int .u32 i14), (12, .int .u32 (bitsI .and .u32 i14 (IntKind.wrap .u32 (0 - i14)))), (1000000, .elem 32 1 T0F 0 0)], (f46bz2 s34 i35 w36 l37 l38 l39 w33 l32 w31 l40 r13 C70004 n41), [70004, 3, 4, 9, 10, 6001], 20000⟩ (an1 trivial) ?_
       refine AWp.seq ?_
       obtain ⟨ob12, h⟩ := chk_some h
       refine q2rr [57] [] ⟨70, [(2, .own 70004), (7, .own 26001), (8, .int .u32 i14), (12, .int .u32 (bitsI .and .u32 i14 (IntKind.wrap .u32 (0 - i14)))), (13, .int .u32 (i14 + (bitsI .and .u32 i14 (IntKind.wrap .u32 (0 - i14))))), (1000000, .elem 32 1 T0F 0 0)], (f46bz2 s34 i35 w36 l37 l38 l39 w33 l32 w31 l40 r13 C70004 n41), [70004, 3, 4, 9, 10, 6001], 20000⟩ (an1 ob12) ?_
       refine tN ?_
       obtain ⟨ob13, ob14p, h⟩ := ck2 h
       have ob14 : 0 ≤ (2 : Int) ∧ 2 ≤ IntKind.bits .u32 := ⟨by omega, ob14p⟩
       refine q2rr [57] [] ⟨70, [(2, .own 70004), (7, .own 26001), (8, .int .u32 (bitsI .or .u32 (i14 + (bitsI .and .u32 i14 (IntKind.wrap .u32 (0 - i14)))) (((bitsI .xor .u32 i14 (i14 + (bitsI .and .u32 i14 (IntKind.wrap .u32 (0 - i14))))) / (bitsI .and .u32 i14 (IntKind.wrap .u32 (0 - i14)))) / 2 ^ 2))), (1000000, .elem 32 1 T0F 0 0)], (f46bz2 s34 i35 w36 l37 l38 l39 w33 l32 w31 l40 r13 C70004 n41), [70004, 3, 4, 9, 10, 6001], 20000⟩ (an2 ob13 ob14) ?_
       refine kN ?_
       rw [hC0] at h
       exact lN (_, (bitsI .or .u32 (i14 + (bitsI .and .u32 i14 (IntKind.wrap .u32 (0 - i14)))) (((bitsI .xor .u32 i14 (i14 + (bitsI .and .u32 i14 (IntKind.wrap .u32 (0 - i14))))) / (bitsI .and .u32 i14 (IntKind.wrap .u32 (0 - i14)))) / 2 ^ 2)), w31, l32, w33, s34, i35, w36, l37, l38, l39, l40, n41) (Le.mk rfl rfl ⟨.refl _, .refl _, .refl _, .refl _, trivial⟩ ⟨⟨_, rfl, .refl _⟩, ⟨_, rfl, .refl _⟩, ⟨_, rfl, .refl _⟩, ⟨_, rfl, .refl _⟩, ⟨_, rfl, .refl _⟩, ⟨_, rfl, .refl _⟩, ⟨_, rfl, .refl _⟩, ⟨_, rfl, .refl _⟩, trivial⟩) h (Nat.lt_succ_self _)
   ·
    replace h := ite_fb hc2 h
    refine AWp.exit ?_
    refine tE ?_
    refine tE ?_
    refine kS ?_
    exact jN (w15, l16, w17, s18, i19, w20, l21, l22, l23, l24, n25) (Le.mk rfl rfl ⟨.refl _, trivial⟩ ⟨⟨_, rfl, .refl _⟩, ⟨_, rfl, .refl _⟩, ⟨_, rfl, .refl _⟩, ⟨_, rfl, .refl _⟩, ⟨_, rfl, .refl _⟩, ⟨_, rfl, .refl _⟩, ⟨_, rfl, .refl _⟩, trivial⟩) h
  ·
   rintro ⟨w30, l31, w32, s33, i34, w35, l36, l37, l38, l39, n40⟩ h
   replace h := (congrFun hK1 _).symm.trans h
   refine q2rq [57] [] ⟨70, [(6, .bool true), (1000000, .elem 32 1 T0F 0 0)], [(3, .cells 33 [.str s33, .i i34, .b16 w35, q2aW l36, q2aW l37, q2aWW l38]), (4, .cells 27 [.b16 w32]), (9, .cells 31 [q2aW l31]), (10, .cells 31 [.own 6500]), (6001, .cells 27 [.b16 w30]), (6500, q2bW_27 l39), (70004, .yld (some ([3, 4, 9, 10], C70004)) n40)], [70004, 3, 4, 9, 10, 6001], 20000⟩ trivial ?_
   have hret := oJ h
   subst hret
   refine AWp.le (Le.mk (s' := ⟨70, [(6, .bool true)], [(70004, .yld (some ([3, 4, 9, 10], C70004)) n40), (3, .cells 33 [.str s33, .i i34, .b16 w35, q2aW l36, q2aW l37, q2aWW l38]), (4, .cells 27 [.b16 w32]), (9, .cells 31 [q2aW l31]), (10, .cells 31 [.own 6500]), (6001, .cells 27 [.b16 w30]), (6500, q2bW_27 l39)], [70004, 3, 4, 9, 10, 6001], 20000⟩) rfl rfl ⟨.refl _, trivial⟩ ⟨⟨_, rfl, .refl _⟩, ⟨_, rfl, .refl _⟩, ⟨_, rfl, .refl _⟩, ⟨_, rfl, .refl _⟩, ⟨_, rfl, .refl _⟩, ⟨_, rfl, .refl _⟩, ⟨_, rfl, .refl _⟩, trivial⟩) ?_
   refine AWp.ret ?_
   exact bR _ rfl ⟨rfl, rfl⟩ rfl
def f44_L0 (Y70004 : (List UInt8 × Int × BitVec 16 × List (BitVec 16) × List (BitVec 16) × (List Tq0) × BitVec 16 × List (BitVec 16) × BitVec 16 × List (BitVec 16)) → (BitVec 16) → Option (Nat × (List UInt8 × Int × BitVec 16 × List (BitVec 16) × List (BitVec 16) × (List Tq0) × BitVec 16 × List (BitVec 16) × BitVec 16 × List (BitVec 16)))) : Nat → (Nat × BitVec 16 × List (BitVec 16) × BitVec 16 × List UInt8 × Int × BitVec 16 × List (BitVec 16) × List (BitVec 16) × (List Tq0) × List (BitVec 16) × Nat) → Option (Nat × List UInt8 × Int × BitVec 16 × List (BitVec 16) × List (BitVec 16) × (List Tq0) × BitVec 16 × List (BitVec 16) × BitVec 16 × List (BitVec 16))
 | 0, _ => none
 | k + 1, (n11, w12, l13, w14, s15, i17, w18, l19, l20, l21, l22, n23) =>
  chk (n23 = 0) <|
  (f45 w12).bind fun (r24 : Int) =>
  if (decide ((n11 : Int) ≤ r24)) = true then (
  (f46b Y70004 w12 (n11 : Int) s15 i17 w18 l19 l20 l21 w14 l13 w12 l22).bind fun (r25 : Bool × Nat × List UInt8 × Int × TB × List (TB) × List (TB) × (List Tq0) × TB × List (TB) × TB × List (TB)) =>
  if r25.1 then (
  chk (((n11 : Int) + (1 : Int)) ≤ 9223372036854775807) <|
  (f44_L0 Y70004 k) ((n11 + 1), r25.2.2.2.2.2.2.2.2.2.2.1, r25.2.2.2.2.2.2.2.2.2.1, r25.2.2.2.2.2.2.2.2.1, r25.2.2.1, r25.2.2.2.1, r25.2.2.2.2.1, r25.2.2.2.2.2.1, r25.2.2.2.2.2.2.1, r25.2.2.2.2.2.2.2.1, r25.2.2.2.2.2.2.2.2.2.2.2, r25.2.1)
  ) else (
  some (r25.2.1, r25.2.2.1, r25.2.2.2.1, r25.2.2.2.2.1, r25.2.2.2.2.2.1, r25.2.2.2.2.2.2.1, r25.2.2.2.2.2.2.2.1, r25.2.2.2.2.2.2.2.2.1, r25.2.2.2.2.2.2.2.2.2.1, r25.2.2.2.2.2.2.2.2.2.2.1, r25.2.2.2.2.2.2.2.2.2.2.2)
  )
  ) else (
  some (0, s15, i17, w18, l19, l20, l21, w14, l13, w12, l22)
  )
abbrev f44z0 (r25 : Bool × Nat × List UInt8 × Int × TB × List (TB) × List (TB) × (List Tq0) × TB × List (TB) × TB × List (TB)) (C70004 : YC) : Heap := [(3, .cells 33 [.str r25.2.2.1, .int .i64 r25.2.2.2.1, .b16 r25.2.2.2.2.1, vL 1 eW 0#16 r25.2.2.2.2.2.1, vL 1 eW 0#16 r25.2.2.2.2.2.2.1, vL 2 eWW (default : Tq0) r25.2.2.2.2.2.2.2.1]), (4, .cells 27 [.b16 r25.2.2.2.2.2.2.2.2.1]), (9, .cells 31 [vL 1 eW 0#16 r25.2.2.2.2.2.2.2.2.2.1]), (10, .cells 31 [.own 6500]), (6001, .cells 27 [.b16 r25.2.2.2.2.2.2.2.2.2.2.1]), (6500, bL 27 1 eW 0#16 r25.2.2.2.2.2.2.2.2.2.2.2), (70004, .yld (some ([3, 4, 9, 10], C70004)) r25.2.1)]
abbrev f44z1 (s15 : List UInt8) (i17 : Int) (w18 : TB) (l19 : List (TB)) (l20 : List (TB)) (l21 : List Tq0) : List V := [.str s15, .int .i64 i17, .b16 w18, vL 1 eW 0#16 l19, vL 1 eW 0#16 l20, vL 2 eWW (default : Tq0) l21]
def f44 (Y70004 : (List UInt8 × Int × BitVec 16 × List (BitVec 16) × List (BitVec 16) × (List Tq0) × BitVec 16 × List (BitVec 16) × BitVec 16 × List (BitVec 16)) → (BitVec 16) → Option (Nat × (List UInt8 × Int × BitVec 16 × List (BitVec 16) × List (BitVec 16) × (List Tq0) × BitVec 16 × List (BitVec 16) × BitVec 16 × List (BitVec 16)))) (x1 : List UInt8) (x2 : Int) (x3 : BitVec 16) (x4 : List (BitVec 16)) (x5 : List (BitVec 16)) (x6 : List Tq0) (x7 : BitVec 16) (x8 : List (BitVec 16)) (x9 : BitVec 16) (x10 : List (BitVec 16)) : Option (Nat × List UInt8 × Int × BitVec 16 × List (BitVec 16) × List (BitVec 16) × (List Tq0) × BitVec 16 × List (BitVec 16) × BitVec 16 × List (BitVec 16)) :=
 f44_L0 Y70004 FUEL (0, x9, x8, x7, x1, x2, x3, x4, x5, x6, x10, 0)
theorem f44_ok (C70004 : YC) (Y70004 : (List UInt8 × Int × TB × List (TB) × List (TB) × (List Tq0) × TB × List (TB) × TB × List (TB)) → (TB) → Option (Nat × (List UInt8 × Int × TB × List (TB) × List (TB) × (List Tq0) × TB × List (TB) × TB × List (TB)))) (x1 : List UInt8) (x2 : Int) (x3 : TB) (x4 : List (TB)) (x5 : List (TB)) (x6 : List Tq0) (x7 : TB) (x8 : List (TB)) (x9 : TB) (x10 : List (TB)) (r : Nat × List UInt8 × Int × TB × List (TB) × List (TB) × (List Tq0) × TB × List (TB) × TB × List (TB)) (h : f44 Y70004 x1 x2 x3 x4 x5 x6 x7 x8 x9 x10 = some r) (hY70004 : ∀ s x r, Y70004 s x = some r → YSpec Tryz.prog 70004 [3, 4, 9, 10] C70004 [3, 4, 9, 10, 6001] [(3, .cells 33 [.str s.1, .int .i64 s.2.1, .b16 s.2.2.1, vL 1 eW 0#16 s.2.2.2.1, vL 1 eW 0#16 s.2.2.2.2.1, vL 2 eWW (default : Tq0) s.2.2.2.2.2.1]), (4, .cells 27 [.b16 s.2.2.2.2.2.2.1]), (9, .cells 31 [vL 1 eW 0#16 s.2.2.2.2.2.2.2.1]), (10, .cells 31 [.own 6500]), (6001, .cells 27 [.b16 s.2.2.2.2.2.2.2.2.1]), (6500, bL 27 1 eW 0#16 s.2.2.2.2.2.2.2.2.2)] [.b16 x] r.1 [(3, .cells 33 [.str r.2.1, .int .i64 r.2.2.1, .b16 r.2.2.2.1, vL 1 eW 0#16 r.2.2.2.2.1, vL 1 eW 0#16 r.2.2.2.2.2.1, vL 2 eWW (default : Tq0) r.2.2.2.2.2.2.1]), (4, .cells 27 [.b16 r.2.2.2.2.2.2.2.1]), (9, .cells 31 [vL 1 eW 0#16 r.2.2.2.2.2.2.2.2.1]), (10, .cells 31 [.own 6500]), (6001, .cells 27 [.b16 r.2.2.2.2.2.2.2.2.2.1]), (6500, bL 27 1 eW 0#16 r.2.2.2.2.2.2.2.2.2.2)]) : Spec1 Tryz.prog 44 [(0, .elem 32 1 T0F 0 0)] [70004, 3, 4, 9, 10, 6001] [(70004, .yld (some ([3, 4, 9, 10], C70004)) 0), (3, .cells 33 [.str x1, .int .i64 x2, .b16 x3, vL 1 eW 0#16 x4, vL 1 eW 0#16 x5, vL 2 eWW (default : Tq0) x6]), (4, .cells 27 [.b16 x7]), (9, .cells 31 [vL 1 eW 0#16 x8]), (10, .cells 31 [.own 6500]), (6001, .cells 27 [.b16 x9]), (6500, bL 27 1 eW 0#16 x10)] [.own 70004, .ptr 6001 0] (.tup []) [(70004, .yld (some ([3, 4, 9, 10], C70004)) r.1), (3, .cells 33 [.str r.2.1, .int .i64 r.2.2.1, .b16 r.2.2.2.1, vL 1 eW 0#16 r.2.2.2.2.1, vL 1 eW 0#16 r.2.2.2.2.2.1, vL 2 eWW (default : Tq0) r.2.2.2.2.2.2.1]), (4, .cells 27 [.b16 r.2.2.2.2.2.2.2.1]), (9, .cells 31 [vL 1 eW 0#16 r.2.2.2.2.2.2.2.2.1]), (10, .cells 31 [.own 6500]), (6001, .cells 27 [.b16 r.2.2.2.2.2.2.2.2.2.1]), (6500, bL 27 1 eW 0#16 r.2.2.2.2.2.2.2.2.2.2)] := by
 unfold f44 at h
 refine Spec1.body 10000 _ _ Tryz.func44 rfl Tryz.ntmps44 rfl rfl ?_
 refine q2rq [] [] ⟨16, [(0, .own 70004), (1, .ptr 6001 0), (3, .i (0 : Int)), (1000000, .elem 32 1 T0F 0 0)], [(3, .cells 33 [.str x1, .i x2, .b16 x3, q2aW x4, q2aW x5, q2aWW x6]), (4, .cells 27 [.b16 x7]), (9, .cells 31 [q2aW x8]), (10, .cells 31 [.own 6500]), (6001, .cells 27 [.b16 x9]), (6500, q2bW_27 x10), (70004, .yld (some ([3, 4, 9, 10], C70004)) 0)], [70004, 3, 4, 9, 10, 6001], 10000⟩ trivial ?_
 refine AWp.block ?_
 refine AWp.loopL (α := Nat × (Nat × TB × List (TB) × TB × List UInt8 × Int × TB × List (TB) × List (TB) × (List Tq0) × List (TB) × Nat)) (fun x => match x with | (_, n11, w12, l13, w14, s15, i17, w18, l19, l20, l21, l22, n23) => ⟨16, [(0, .own 70004), (1, .ptr 6001 0), (3, .i (n11 : Int)), (1000000, .elem 32 1 T0F 0 0)], [(3, .cells 33 (f44z1 s15 i17 w18 l19 l20 l21)), (4, .cells 27 [.b16 w14]), (9, .cells 31 [q2aW l13]), (10, .cells 31 [.own 6500]), (6001, .cells 27 [.b16 w12]), (6500, q2bW_27 l22), (70004, .yld (some ([3, 4, 9, 10], C70004)) n23)], [70004, 3, 4, 9, 10, 6001], 10000⟩) (fun x => f44_L0 Y70004 x.1 x.2 = some r) (fun x => x.1) (FUEL, 0, x9, x8, x7, x1, x2, x3, x4, x5, x6, x10, 0) (Le.mk (s' := ⟨16, [(0, .own 70004), (1, .ptr 6001 0), (3, .i (0 : Int)), (1000000, .elem 32 1 T0F 0 0)], [(3, .cells 33 [.str x1, .i x2, .b16 x3, q2aW x4, q2aW x5, q2aWW x6]), (4, .cells 27 [.b16 x7]), (9, .cells 31 [q2aW x8]), (10, .cells 31 [.own 6500]), (6001, .cells 27 [.b16 x9]), (6500, q2bW_27 x10), (70004, .yld (some ([3, 4, 9, 10], C70004)) 0)], [70004, 3, 4, 9, 10, 6001], 10000⟩) rfl rfl ⟨.refl _, .refl _, .refl _, .refl _, trivial⟩ ⟨⟨_, rfl, .refl _⟩, ⟨_, rfl, .refl _⟩, ⟨_, rfl, .refl _⟩, ⟨_, rfl, .refl _⟩, ⟨_, rfl, .refl _⟩, ⟨_, rfl, .refl _⟩, ⟨_, rfl, .refl _⟩, trivial⟩) h ?_
 rintro ⟨k0, n11, w12, l13, w14, s15, i17, w18, l19, l20, l21, l22, n23⟩ h
 cases k0 with
 | zero => exact nomatch (show (none : Option (Nat × List UInt8 × Int × TB × List (TB) × List (TB) × (List Tq0) × TB × List (TB) × TB × List (TB))) = some r from h)
 | succ k0 =>
 obtain ⟨C0, hC0⟩ : ∃ C, C = f44_L0 Y70004 k0 := ⟨_, rfl⟩
 replace h := (f44_L0.eq_2 ..).symm.trans h
 try rw [← hC0] at h
 refine AWp.seq ?_
 refine AWp.seq ?_
 obtain ⟨hz1, h⟩ := chk_some h
 refine AWp.le (Le.mk (s' := ⟨16, [(0, .own 70004), (1, .ptr 6001 0), (3, .i (n11 : Int)), (1000000, .elem 32 1 T0F 0 0)], [(3, .cells 33 (f44z1 s15 i17 w18 l19 l20 l21)), (4, .cells 27 [.b16 w14]), (9, .cells 31 [q2aW l13]), (10, .cells 31 [.own 6500]), (6001, .cells 27 [.b16 w12]), (6500, q2bW_27 l22), (70004, .yld (some ([3, 4, 9, 10], C70004)) 0)], [70004, 3, 4, 9, 10, 6001], 10000⟩) rfl rfl ⟨.refl _, .refl _, .refl _, .refl _, trivial⟩ ⟨⟨_, rfl, .refl _⟩, ⟨_, rfl, .refl _⟩, ⟨_, rfl, .refl _⟩, ⟨_, rfl, .refl _⟩, ⟨_, rfl, .refl _⟩, ⟨_, rfl, .refl _⟩, ⟨_, rfl, BLe.yldEq hz1⟩, trivial⟩) ?_
 obtain ⟨r24, hr24, h⟩ := bind_ok h
 by_cases hg1_4 : (decide ((n11 : Int) ≤ r24)) = true
 ·
  replace h := ite_t hg1_4 h
  obtain ⟨r25, hr25, h⟩ := bind_ok h
  have ob0 := idA (true = true)
  have ob1 := idA (true = true)
  have ob2 := idA (true = true)
  refine q2rr [] [(2, ⟨[.b16 w12], [], [], [], .i r24, [], [], []⟩), (4, ⟨[], [], [], [], (.bool true), [], [0], []⟩), (8, ⟨[.b16 w12, .i (n11 : Int), .own 70004], [70004, 3, 4, 9, 10, 6001, 6500], [70004, 3, 4, 9, 10, 6001], [(70004, .yld (some ([3, 4, 9, 10], C70004)) r25.2.1), (3, .cells 33 [.str r25.2.2.1, .i r25.2.2.2.1, .b16 r25.2.2.2.2.1, q2aW r25.2.2.2.2.2.1, q2aW r25.2.2.2.2.2.2.1, q2aWW r25.2.2.2.2.2.2.2.1]), (4, .cells 27 [.b16 r25.2.2.2.2.2.2.2.2.1]), (9, .cells 31 [q2aW r25.2.2.2.2.2.2.2.2.2.1]), (10, .cells 31 [.own 6500]), (6001, .cells 27 [.b16 r25.2.2.2.2.2.2.2.2.2.2.1]), (6500, q2bW_27 r25.2.2.2.2.2.2.2.2.2.2.2)], .bool r25.1, [6500], [], [0]⟩)] ⟨16, [(0, .own 70004), (1, .ptr 6001 0), (3, .i (n11 : Int)), (13, .bool r25.1), (1000000, .elem 32 1 T0F 0 0)], (f44z0 r25 C70004), [70004, 3, 4, 9, 10, 6001], 10000⟩ (an4 (cpT (f45_ok _ _ hr24)) (show ((.bool (decide ((n11 : Int) ≤ r24))) : V) = (.bool true) from (congrArg (fun x => ((.bool x) : V)) hg1_4)) (And.intro (cpT (f46b_ok C70004 _ _ _ _ _ _ _ _ _ _ _ _ _ _ hr25 hY70004)) (an3 ob0 ob1 ob2)) trivial) ?_
  refine tN ?_
  refine AWp.cond (b := r25.1) (by kernel_rfl) (fun hc3 => ?_) (fun hc3 => ?_)
  ·
   replace h := ite_tb hc3 h
   refine AWp.skip ?_
   refine tN ?_
   refine AWp.seq ?_
   refine AWp.block ?_
   refine AWp.skip ?_
   refine kN ?_
   refine tN ?_
   obtain ⟨ob4p, h⟩ := chk_some h
   have ob4 : -9223372036854775808 ≤ ((n11 : Int) + (1 : Int)) ∧ ((n11 : Int) + (1 : Int)) ≤ 9223372036854775807 := ⟨by omega, ob4p⟩
   refine q2rr [] [] ⟨16, [(0, .own 70004), (1, .ptr 6001 0), (3, .i (((n11 + 1) : Nat) : Int)), (1000000, .elem 32 1 T0F 0 0)], (f44z0 r25 C70004), [70004, 3, 4, 9, 10, 6001], 10000⟩ (an1 ob4) ?_
   rw [hC0] at h
   exact lN (_, (n11 + 1), r25.2.2.2.2.2.2.2.2.2.2.1, r25.2.2.2.2.2.2.2.2.2.1, r25.2.2.2.2.2.2.2.2.1, r25.2.2.1, r25.2.2.2.1, r25.2.2.2.2.1, r25.2.2.2.2.2.1, r25.2.2.2.2.2.2.1, r25.2.2.2.2.2.2.2.1, r25.2.2.2.2.2.2.2.2.2.2.2, r25.2.1) (Le.mk rfl rfl ⟨.refl _, .refl _, .refl _, .refl _, trivial⟩ ⟨⟨_, rfl, .refl _⟩, ⟨_, rfl, .refl _⟩, ⟨_, rfl, .refl _⟩, ⟨_, rfl, .refl _⟩, ⟨_, rfl, .refl _⟩, ⟨_, rfl, .refl _⟩, ⟨_, rfl, .refl _⟩, trivial⟩) h (Nat.lt_succ_self _)
  ·
   replace h := ite_fb hc3 h
   refine AWp.exit ?_
   refine tE ?_
   refine tE ?_
   refine kS ?_
   have hret := oJ h
   subst hret
   exact bodyQ_le (Le.mk (s' := ⟨16, [], [(70004, .yld (some ([3, 4, 9, 10], C70004)) r25.2.1), (3, .cells 33 [.str r25.2.2.1, .i r25.2.2.2.1, .b16 r25.2.2.2.2.1, q2aW r25.2.2.2.2.2.1, q2aW r25.2.2.2.2.2.2.1, q2aWW r25.2.2.2.2.2.2.2.1]), (4, .cells 27 [.b16 r25.2.2.2.2.2.2.2.2.1]), (9, .cells 31 [q2aW r25.2.2.2.2.2.2.2.2.2.1]), (10, .cells 31 [.own 6500]), (6001, .cells 27 [.b16 r25.2.2.2.2.2.2.2.2.2.2.1]), (6500, q2bW_27 r25.2.2.2.2.2.2.2.2.2.2.2)], [70004, 3, 4, 9, 10, 6001], 10000⟩) rfl rfl trivial ⟨⟨_, rfl, .refl _⟩, ⟨_, rfl, .refl _⟩, ⟨_, rfl, .refl _⟩, ⟨_, rfl, .refl _⟩, ⟨_, rfl, .refl _⟩, ⟨_, rfl, .refl _⟩, ⟨_, rfl, .refl _⟩, trivial⟩) (bodyQ_normal _ rfl ⟨rfl, rfl⟩ rfl)
 ·
  replace h := ite_f hg1_4 h
  have ob0 := idA (false = true)
  have ob1 := idA (false = true)
  have ob2 := idA (false = true)
  have ob3 : true = true → false = true → false = true := fun _ h => h
  refine q2rr [] [(2, ⟨[.b16 w12], [], [], [], .i r24, [], [], []⟩), (4, ⟨[], [], [], [], (.bool false), [], [0], []⟩), (8, ⟨[], [], [], [], .bool false, [], [], []⟩)] ⟨16, [(0, .own 70004), (1, .ptr 6001 0), (3, .i (n11 : Int)), (13, .bool false), (1000000, .elem 32 1 T0F 0 0)], [(3, .cells 33 (f44z1 s15 i17 w18 l19 l20 l21)), (4, .cells 27 [.b16 w14]), (9, .cells 31 [q2aW l13]), (10, .cells 31 [.own 6500]), (6001, .cells 27 [.b16 w12]), (6500, q2bW_27 l22), (70004, .yld (some ([3, 4, 9, 10], C70004)) 0)], [70004, 3, 4, 9, 10, 6001], 10000⟩ (an4 (cpT (f45_ok _ _ hr24)) (show ((.bool (decide ((n11 : Int) ≤ r24))) : V) = (.bool false) from (congrArg (fun x => ((.bool x) : V)) (Bool.eq_false_iff.2 hg1_4))) (And.intro (show (callP Tryz.prog false 46 [] [] [] [] [] [.b16 w12, .i (n11 : Int), .own 70004] [] (.bool false) []) from ⟨nofun, nofun, .inl rfl⟩) (an3 ob0 ob1 ob2)) ob3) ?_
  refine tN ?_
  refine AWp.cond (b := false) (by kernel_rfl) (fun hc => ?_) (fun hc => ?_)
  ·
   cases hc
  ·
   clear hc
   refine AWp.exit ?_
   refine tE ?_
   refine tE ?_
   refine kS ?_
   have hret := oJ h
   subst hret
   exact bodyQ_le (Le.mk (s' := ⟨16, [], [(70004, .yld (some ([3, 4, 9, 10], C70004)) 0), (3, .cells 33 (f44z1 s15 i17 w18 l19 l20 l21)), (4, .cells 27 [.b16 w14]), (9, .cells 31 [q2aW l13]), (10, .cells 31 [.own 6500]), (6001, .cells 27 [.b16 w12]), (6500, q2bW_27 l22)], [70004, 3, 4, 9, 10, 6001], 10000⟩) rfl rfl trivial ⟨⟨_, rfl, .refl _⟩, ⟨_, rfl, .refl _⟩, ⟨_, rfl, .refl _⟩, ⟨_, rfl, .refl _⟩, ⟨_, rfl, .refl _⟩, ⟨_, rfl, .refl _⟩, ⟨_, rfl, .refl _⟩, trivial⟩) (bodyQ_normal _ rfl ⟨rfl, rfl⟩ rfl)
def f10_Y70004 : (List UInt8 × Int × BitVec 16 × List (BitVec 16) × List (BitVec 16) × (List Tq0) × BitVec 16 × List (BitVec 16) × BitVec 16 × List (BitVec 16)) → (BitVec 16) → Option (Nat × (List UInt8 × Int × BitVec 16 × List (BitVec 16) × List (BitVec 16) × (List Tq0) × BitVec 16 × List (BitVec 16) × BitVec 16 × List (BitVec 16)))
 | (s15, i17, w18, l19, l20, l21, w14, l13, w12, l22), x23 =>
  (f24 l22 x23).bind fun (r24 : Bool) =>
  optc ((!r24) == true) (f28 s15 i17 w18 l19 l20 l21 w14 l13 x23) fun (r25 : Bool) =>
  if ((!r24) && r25) then (
  chk (((l22).length + 1) * 2 ≤ 140737488355328) <|
  some (0, (s15, i17, w18, l19, l20, l21, w14, l13, w12, (l22 ++ [x23])))
  ) else (
  some (0, (s15, i17, w18, l19, l20, l21, w14, l13, w12, l22))
  )
abbrev f10z0 (x1 : List UInt8) (x2 : Int) (x3 : TB) (x4 : List (TB)) (x5 : List (TB)) (x6 : List Tq0) : List V := [.str x1, .int .i64 x2, .b16 x3, vL 1 eW 0#16 x4, vL 1 eW 0#16 x5, vL 2 eWW (default : Tq0) x6]
abbrev f10z1 (s15 : List UInt8) (i17 : Int) (w18 : TB) (l19 : List (TB)) (l20 : List (TB)) (l21 : List Tq0) : List V := [.str s15, .int .i64 i17, .b16 w18, vL 1 eW 0#16 l19, vL 1 eW 0#16 l20, vL 2 eWW (default : Tq0) l21]
abbrev f10z2 (s15 : List UInt8) (i17 : Int) (w18 : TB) (l19 : List (TB)) (l20 : List (TB)) (l21 : List Tq0) (w14 : TB) (l13 : List (TB)) (w12 : TB) (l22 : List (TB)) : Heap := [(3, .cells 33 (f10z1 s15 i17 w18 l19 l20 l21)), (4, .cells 27 [.b16 w14]), (9, .cells 31 [vL 1 eW 0#16 l13]), (10, .cells 31 [.own 6500]), (6001, .cells 27 [.b16 w12]), (6500, bL 27 1 eW 0#16 l22)]
abbrev f10z3 (x1 : List UInt8) (x2 : Int) (x3 : TB) (x4 : List (TB)) (x5 : List (TB)) (x6 : List Tq0) (x7 : TB) (r10 : List (TB)) (r11 : TB) : Heap := [(3, .cells 33 (f10z0 x1 x2 x3 x4 x5 x6)), (4, .cells 27 [.b16 x7]), (9, .cells 31 [vL 1 eW 0#16 r10]), (10, .cells 31 [.own 6500]), (6001, .cells 27 [.b16 r11]), (6500, bL 27 1 eW 0#16 [])]
def f10 (x1 : List UInt8) (x2 : Int) (x3 : BitVec 16) (x4 : List (BitVec 16)) (x5 : List (BitVec 16)) (x6 : List Tq0) (x7 : BitVec 16) (x8 : List Tq0) : Option (Int × List (BitVec 16)) :=
 (f26 x1 x2 x3 x4 x5 x6 x8).bind fun (r9 : Int) =>
 if (r9 != (0 : Int)) then (
 some (r9, [])
 ) else (
 (f27 x1 x2 x3 x4 x5 x6 x8).bind fun (r10 : List (TB)) =>
 (f22 x3).bind fun (r11 : TB) =>
 (f44 f10_Y70004 x1 x2 x3 x4 x5 x6 x7 r10 r11 []).bind fun (r26 : Nat × List UInt8 × Int × TB × List (TB) × List (TB) × (List Tq0) × TB × List (TB) × TB × List (TB)) =>
 chk (r26.1 ≠ 1) <|
 if r26.1 = 0 then (
 if (decide ((((r26.2.2.2.2.2.2.2.2.2.2).length : Nat) : Int) > (400 : Int))) then (
 some ((3 : Int), [])
 ) else (
 some ((0 : Int), r26.2.2.2.2.2.2.2.2.2.2)
 )
 ) else (
 none
 )
 )
theorem f10_ok  (x1 : List UInt8) (x2 : Int) (x3 : TB) (x4 : List (TB)) (x5 : List (TB)) (x6 : List Tq0) (x7 : TB) (x8 : List Tq0) (r : Int × List (TB)) (h : f10 x1 x2 x3 x4 x5 x6 x7 x8 = some r)  : Spec1 Tryz.prog 10 [(0, .elem 32 1 T0F 0 0)] [] [] [.agg [.str x1, .int .i64 x2, .b16 x3, vL 1 eW 0#16 x4, vL 1 eW 0#16 x5, vL 2 eWW (default : Tq0) x6], .b16 x7, vL 2 eWW (default : Tq0) x8] (.tup [.own 3000, .int .i64 r.1]) [(3000, bL 27 1 eW 0#16 r.2)] := by
 unfold f10 at h
 refine Spec1.body 0 _ _ Tryz.func10 rfl Tryz.ntmps10 rfl rfl ?_
 refine q2rq [] [] ⟨44, [(2, q2aWW x8), (3, .ptr 3 0), (4, .ptr 4 0), (1000000, .elem 32 1 T0F 0 0)], [(3, .cells 33 (f10z0 x1 x2 x3 x4 x5 x6)), (4, .cells 27 [.b16 x7])], [], 0⟩ trivial ?_
 refine AWp.seq ?_
 refine AWp.seq ?_
 obtain ⟨r9, hr9, h⟩ := bind_ok h
 refine q2rr [] [(2, ⟨[.agg (f10z0 x1 x2 x3 x4 x5 x6), q2aWW x8], [], [], [], .i r9, [], [], []⟩)] ⟨44, [(2, q2aWW x8), (3, .ptr 3 0), (4, .ptr 4 0), (8, .i r9), (1000000, .elem 32 1 T0F 0 0)], [(3, .cells 33 (f10z0 x1 x2 x3 x4 x5 x6)), (4, .cells 27 [.b16 x7])], [], 0⟩ (an1 (cpT (f26_ok _ _ _ _ _ _ _ _ hr9))) ?_
 refine tN ?_
 refine q2rq [] [] ⟨44, [(2, q2aWW x8), (3, .ptr 3 0), (4, .ptr 4 0), (8, .i r9), (16, .bool (r9 != (0 : Int))), (1000000, .elem 32 1 T0F 0 0)], [(3, .cells 33 (f10z0 x1 x2 x3 x4 x5 x6)), (4, .cells 27 [.b16 x7])], [], 0⟩ trivial ?_
 refine AWp.cond (b := (r9 != (0 : Int))) (by kernel_rfl) (fun hc1 => ?_) (fun hc1 => ?_)
 ·
  replace h := ite_tb hc1 h
  refine q2rq [] [] ⟨44, [(6, .nils), (7, .i r9), (1000000, .elem 32 1 T0F 0 0)], [], [], 0⟩ trivial ?_
  refine AWp.le (Le.trans (Le.nilOwn 6 3000 27 1 (encF eW 0#16 []) rfl rfl (Nat.le_of_ble_eq_true rfl)) (Le.mk (s' := ⟨44, [(6, .own 3000), (7, .i r9), (1000000, .elem 32 1 T0F 0 0)], [(3000, q2bW_27 [])], [], 0⟩) rfl rfl ⟨.refl _, .refl _, .refl _, trivial⟩ ⟨⟨_, rfl, .refl _⟩, trivial⟩)) ?_
  have hret := oJ h
  subst hret
  refine AWp.le (Le.mk (s' := ⟨44, [(6, .own 3000), (7, .i r9)], [(3000, q2bW_27 [])], [], 0⟩) rfl rfl ⟨.refl _, .refl _, trivial⟩ ⟨⟨_, rfl, .refl _⟩, trivial⟩) ?_
  refine AWp.ret ?_
  refine tR ?_
  exact bR _ rfl ⟨rfl, rfl⟩ rfl
 ·
  replace h := ite_fb hc1 h
  refine AWp.skip ?_
  refine tN ?_
  refine AWp.seq ?_
  obtain ⟨r10, hr10, h⟩ := bind_ok h
  refine q2rr [] [(2, ⟨[.agg (f10z0 x1 x2 x3 x4 x5 x6), q2aWW x8], [], [], [], q2aW r10, [], [], []⟩)] ⟨44, [(3, .ptr 3 0), (4, .ptr 4 0), (9, .ptr 9 0), (1000000, .elem 32 1 T0F 0 0)], [(3, .cells 33 (f10z0 x1 x2 x3 x4 x5 x6)), (4, .cells 27 [.b16 x7]), (9, .cells 31 [q2aW r10])], [], 0⟩ (an2 (cpT (f27_ok _ _ _ _ _ _ _ _ hr10)) trivial) ?_
  refine tN ?_
  refine q2rq [] [] ⟨44, [(3, .ptr 3 0), (4, .ptr 4 0), (9, .ptr 9 0), (10, .ptr 10 0), (1000000, .elem 32 1 T0F 0 0)], [(3, .cells 33 (f10z0 x1 x2 x3 x4 x5 x6)), (4, .cells 27 [.b16 x7]), (9, .cells 31 [q2aW r10]), (10, .cells 31 [.nils])], [], 0⟩ trivial ?_
  refine AWp.seq ?_
  refine AWp.seq ?_
  obtain ⟨r11, hr11, h⟩ := bind_ok h
  refine q2rr [] [(2, ⟨[.b16 x3], [], [], [(6001, .cells 27 [.b16 r11])], .fn (.func 44) [.ptr 6001 0], [6001], [], []⟩)] ⟨44, [(3, .ptr 3 0), (4, .ptr 4 0), (9, .ptr 9 0), (10, .ptr 10 0), (23, .fn (.func 44) [.ptr 6001 0]), (1000000, .elem 32 1 T0F 0 0)], [(3, .cells 33 (f10z0 x1 x2 x3 x4 x5 x6)), (4, .cells 27 [.b16 x7]), (9, .cells 31 [q2aW r10]), (10, .cells 31 [.nils]), (6001, .cells 27 [.b16 r11])], [], 0⟩ (an1 (cpT (Spec1.ren (swapN 3500 6001) (swapN_inv 3500 6001) rfl (f22_ok _ _ hr11)))) ?_
  refine tN ?_
  refine AWp.block ?_
  refine AWp.le (Le.trans (Le.trans (Le.nilOwnC 10 0 6500 27 1 (encF eW 0#16 []) rfl rfl rfl) (Le.mk (s' := ⟨44, [(3, .ptr 3 0), (4, .ptr 4 0), (9, .ptr 9 0), (10, .ptr 10 0), (23, .fn (.func 44) [.ptr 6001 0]), (1000000, .elem 32 1 T0F 0 0)], (f10z3 x1 x2 x3 x4 x5 x6 x7 r10 r11), [], 0⟩) rfl rfl ⟨.refl _, .refl _, .refl _, .refl _, .refl _, .refl _, trivial⟩ ⟨⟨_, rfl, .refl _⟩, ⟨_, rfl, .refl _⟩, ⟨_, rfl, .refl _⟩, ⟨_, rfl, .refl _⟩, ⟨_, rfl, .refl _⟩, ⟨_, rfl, .refl _⟩, trivial⟩)) (Le.mk (s' := ⟨44, [(3, .ptr 3 0), (4, .ptr 4 0), (9, .ptr 9 0), (10, .ptr 10 0), (23, .fn (.func 44) [.ptr 6001 0]), (1000000, .elem 32 1 T0F 0 0)], (f10z3 x1 x2 x3 x4 x5 x6 x7 r10 r11), [], 0⟩) rfl rfl ⟨.refl _, .refl _, .refl _, .refl _, .refl _, .refl _, trivial⟩ ⟨⟨_, rfl, .refl _⟩, ⟨_, rfl, .refl _⟩, ⟨_, rfl, .refl _⟩, ⟨_, rfl, .refl _⟩, ⟨_, rfl, .refl _⟩, ⟨_, rfl, .refl _⟩, trivial⟩)) ?_
  obtain ⟨r26, hr26, h⟩ := bind_ok h
  obtain ⟨hkr26, h⟩ := chk_some h
  refine AWp.rangeFunc (s := ⟨44, [(3, .ptr 3 0), (4, .ptr 4 0), (9, .ptr 9 0), (10, .ptr 10 0), (23, .fn (.func 44) [.ptr 6001 0]), (1000000, .elem 32 1 T0F 0 0)], (f10z3 x1 x2 x3 x4 x5 x6 x7 r10 r11), [], 0⟩) 70004 [3, 4, 9, 10] [3, 4, 9, 10, 1000000] [] 44 [.ptr 6001 0] ⟨[.own 70004, .ptr 6001 0], [3, 4, 9, 10, 6001, 6500], [70004, 3, 4, 9, 10, 6001], [], .tup [], [6500], [], [0]⟩ r26.1 [(3, .cells 33 [.str r26.2.1, .i r26.2.2.1, .b16 r26.2.2.2.1, q2aW r26.2.2.2.2.1, q2aW r26.2.2.2.2.2.1, q2aWW r26.2.2.2.2.2.2.1]), (4, .cells 27 [.b16 r26.2.2.2.2.2.2.2.1]), (9, .cells 31 [q2aW r26.2.2.2.2.2.2.2.2.1]), (10, .cells 31 [.own 6500]), (6001, .cells 27 [.b16 r26.2.2.2.2.2.2.2.2.2.1]), (6500, q2bW_27 r26.2.2.2.2.2.2.2.2.2.2)] ⟨44, [(3, .ptr 3 0), (4, .ptr 4 0), (9, .ptr 9 0), (10, .ptr 10 0), (23, .fn (.func 44) [.ptr 6001 0]), (1000000, .elem 32 1 T0F 0 0)], [(3, .cells 33 [.str r26.2.1, .i r26.2.2.1, .b16 r26.2.2.2.1, q2aW r26.2.2.2.2.1, q2aW r26.2.2.2.2.2.1, q2aWW r26.2.2.2.2.2.2.1]), (4, .cells 27 [.b16 r26.2.2.2.2.2.2.2.1]), (9, .cells 31 [q2aW r26.2.2.2.2.2.2.2.2.1]), (10, .cells 31 [.own 6500]), (6001, .cells 27 [.b16 r26.2.2.2.2.2.2.2.2.2.1]), (6500, q2bW_27 r26.2.2.2.2.2.2.2.2.2.2)], [], 0⟩ rfl (by kernel_rfl) (by kernel_rfl) (fun g0 => ?_) (fun C => (by kernel_rfl)) (by kernel_rfl) (by kernel_rfl) (by kernel_rfl) (by kernel_rfl) hkr26 (by kernel_rfl) ?_ ?_
  ·
   refine ⟨fun _ => (f44_ok _ f10_Y70004 x1 x2 x3 x4 x5 x6 x7 r10 r11 [] r26 hr26 ?_), fun _ => ⟨.refl _, .refl _, trivial⟩, .inl rfl⟩
   clear h
   rintro ⟨s15, i17, w18, l19, l20, l21, w14, l13, w12, l22⟩ x23 rY70004 h
   replace h := (f10_Y70004.eq_1 ..).symm.trans h
   refine YSpec.body 0 rfl (of_decide_eq_true (by kernel_rfl)) (of_decide_eq_true (by kernel_rfl)) (within_tget (by kernel_rfl)) (by kernel_rfl) (by kernel_rfl) (by kernel_rfl) (by kernel_rfl) ?_
   refine AWp.le (Le.mk (s' := ⟨44, [(24, .b16 x23), (3, .ptr 3 0), (4, .ptr 4 0), (9, .ptr 9 0), (10, .ptr 10 0), (1000000, .elem 32 1 T0F 0 0)], (f10z2 s15 i17 w18 l19 l20 l21 w14 l13 w12 l22), [3, 4, 9, 10, 6001], 0⟩) rfl rfl ⟨.refl _, .refl _, .refl _, .refl _, .refl _, .refl _, trivial⟩ ⟨⟨_, rfl, .refl _⟩, ⟨_, rfl, .refl _⟩, ⟨_, rfl, .refl _⟩, ⟨_, rfl, .refl _⟩, ⟨_, rfl, .refl _⟩, ⟨_, rfl, .refl _⟩, trivial⟩) ?_
   refine q2rr [] [] ⟨44, [(3, .ptr 3 0), (4, .ptr 4 0), (9, .ptr 9 0), (10, .ptr 10 0), (11, .b16 x23), (1000000, .elem 32 1 T0F 0 0)], (f10z2 s15 i17 w18 l19 l20 l21 w14 l13 w12 l22), [3, 4, 9, 10, 6001], 0⟩ trivial ?_
   refine ⟨rfl, rfl, ?_⟩
   refine AWp.block ?_
   refine AWp.seq ?_
   obtain ⟨r24, hr24, h⟩ := bind_ok h
   obtain ⟨r25, hr25, h⟩ := optc_some h
   have ob0 := idA (((!r24) == true) = true)
   have ob1 := idA (((!r24) == true) = true)
   have ob2 := idA (((!r24) == true) = true)
   have ob3 := idA (((!r24) == true) = true)
   have ob4 := bqA (!r24) true
   refine q2rr [] [(2, ⟨[q2aW l22, .b16 x23], [], [], [], .bool r24, [], [6500], []⟩), (9, ⟨[.agg (f10z1 s15 i17 w18 l19 l20 l21), .b16 w14, q2aW l13, .b16 x23], [], [], [], .bool r25, [], [], []⟩)] ⟨44, [(10, .ptr 10 0), (11, .b16 x23), (35, .bool ((!r24) && r25)), (1000000, .elem 32 1 T0F 0 0)], (f10z2 s15 i17 w18 l19 l20 l21 w14 l13 w12 l22), [3, 4, 9, 10, 6001], 0⟩ (an3 (cpL (c := true) [(6500, q2bW_27 l22)] [6500] [.own 6500, .b16 x23] (fun _ => (f24_ok _ _ _ hr24)) (fun _ => ⟨.refl _, .refl _, trivial⟩) (.inr ⟨rfl, trivial⟩)) (And.intro (cpC fun hc => (f28_ok _ _ _ _ _ _ _ _ _ _ (hr25 hc))) (an4 ob0 ob1 ob2 ob3)) ob4) ?_
   refine tN ?_
   refine AWp.cond (b := ((!r24) && r25)) (by kernel_rfl) (fun hc2 => ?_) (fun hc2 => ?_)
   ·
    replace h := ite_tb hc2 h
    obtain ⟨ob5, h⟩ := chk_some h
    refine q2rr [] [] ⟨44, [(1000000, .elem 32 1 T0F 0 0)], [(3, .cells 33 (f10z1 s15 i17 w18 l19 l20 l21)), (4, .cells 27 [.b16 w14]), (9, .cells 31 [q2aW l13]), (10, .cells 31 [.own 6500]), (6001, .cells 27 [.b16 w12]), (6500, .rows 27 1 ((l22).length + 1) (appF (l22).length (encF eW 0#16 l22) (lstF 1 [.b16 x23])))], [3, 4, 9, 10, 6001], 0⟩ (an2 ob5 trivial) ?_
    refine kN ?_
    have hret := oJ h
    subst hret
    exact ⟨_, (Le.trans (Le.mk (s' := ⟨44, [(1000000, .elem 32 1 T0F 0 0)], [(3, .cells 33 (f10z1 s15 i17 w18 l19 l20 l21)), (4, .cells 27 [.b16 w14]), (9, .cells 31 [q2aW l13]), (10, .cells 31 [.own 6500]), (6001, .cells 27 [.b16 w12]), (6500, q2bW_27 (l22 ++ [x23]))], [3, 4, 9, 10, 6001], 0⟩) rfl rfl ⟨.refl _, trivial⟩ ⟨⟨_, rfl, .refl _⟩, ⟨_, rfl, .refl _⟩, ⟨_, rfl, .refl _⟩, ⟨_, rfl, .refl _⟩, ⟨_, rfl, .refl _⟩, ⟨_, rfl, (BLe.of (RL.app (RL.self _) (RL.lst (enc := eW) [x23] rfl rfl (fun _ => rfl))))⟩, trivial⟩) (Le.mk (s' := ⟨44, [], [(3, .cells 33 (f10z1 s15 i17 w18 l19 l20 l21)), (4, .cells 27 [.b16 w14]), (9, .cells 31 [q2aW l13]), (10, .cells 31 [.own 6500]), (6001, .cells 27 [.b16 w12]), (6500, q2bW_27 (l22 ++ [x23]))], [3, 4, 9, 10, 6001], 0⟩) rfl rfl trivial ⟨⟨_, rfl, .refl _⟩, ⟨_, rfl, .refl _⟩, ⟨_, rfl, .refl _⟩, ⟨_, rfl, .refl _⟩, ⟨_, rfl, .refl _⟩, ⟨_, rfl, .refl _⟩, trivial⟩)), rfl, rfl, .inl ⟨rfl, rfl⟩⟩
   ·
    replace h := ite_fb hc2 h
    refine AWp.skip ?_
    refine kN ?_
    have hret := oJ h
    subst hret
    exact ⟨_, (Le.mk (s' := ⟨44, [], (f10z2 s15 i17 w18 l19 l20 l21 w14 l13 w12 l22), [3, 4, 9, 10, 6001], 0⟩) rfl rfl trivial ⟨⟨_, rfl, .refl _⟩, ⟨_, rfl, .refl _⟩, ⟨_, rfl, .refl _⟩, ⟨_, rfl, .refl _⟩, ⟨_, rfl, .refl _⟩, ⟨_, rfl, .refl _⟩, trivial⟩), rfl, rfl, .inl ⟨rfl, rfl⟩⟩
  ·
   intro hk0
   replace h := ite_t hk0 h
   refine kN ?_
   refine tN ?_
   refine AWp.seq ?_
   refine q2rq [] [] ⟨44, [(10, .ptr 10 0), (42, .bool (decide ((lZ r26.2.2.2.2.2.2.2.2.2.2) > (400 : Int)))), (1000000, .elem 32 1 T0F 0 0)], [(10, .cells 31 [.own 6500]), (6500, q2bW_27 r26.2.2.2.2.2.2.2.2.2.2)], [], 0⟩ trivial ?_
   refine AWp.cond (b := (decide ((lZ r26.2.2.2.2.2.2.2.2.2.2) > (400 : Int)))) (by kernel_rfl) (fun hc3 => ?_) (fun hc3 => ?_)
   ·
    replace h := ite_tb hc3 h
    refine q2rq [] [] ⟨44, [(6, .nils), (7, .i (3 : Int)), (1000000, .elem 32 1 T0F 0 0)], [], [], 0⟩ trivial ?_
    refine AWp.le (Le.trans (Le.nilOwn 6 3000 27 1 (encF eW 0#16 []) rfl rfl (Nat.le_of_ble_eq_true rfl)) (Le.mk (s' := ⟨44, [(6, .own 3000), (7, .i (3 : Int)), (1000000, .elem 32 1 T0F 0 0)], [(3000, q2bW_27 [])], [], 0⟩) rfl rfl ⟨.refl _, .refl _, .refl _, trivial⟩ ⟨⟨_, rfl, .refl _⟩, trivial⟩)) ?_
    have hret := oJ h
    subst hret
    refine AWp.le (Le.mk (s' := ⟨44, [(6, .own 3000), (7, .i (3 : Int))], [(3000, q2bW_27 [])], [], 0⟩) rfl rfl ⟨.refl _, .refl _, trivial⟩ ⟨⟨_, rfl, .refl _⟩, trivial⟩) ?_
    refine AWp.ret ?_
    refine tR ?_
    exact bR _ rfl ⟨rfl, rfl⟩ rfl
   ·
    replace h := ite_fb hc3 h
    refine AWp.skip ?_
    refine tN ?_
    refine q2rq [] [] ⟨44, [(6, .own 6500), (7, .i (0 : Int)), (1000000, .elem 32 1 T0F 0 0)], [(6500, q2bW_27 r26.2.2.2.2.2.2.2.2.2.2)], [], 0⟩ trivial ?_
    refine AWp.le (Le.trans (Le.ren (swapN 6500 3000) (swapN_inv 6500 3000) rfl) (Le.mk (s' := ⟨44, [(6, .own 3000), (7, .i (0 : Int)), (1000000, .elem 32 1 T0F 0 0)], [(3000, q2bW_27 r26.2.2.2.2.2.2.2.2.2.2)], [], 0⟩) rfl rfl ⟨.refl _, .refl _, .refl _, trivial⟩ ⟨⟨_, rfl, .refl _⟩, trivial⟩)) ?_
    have hret := oJ h
    subst hret
    refine AWp.le (Le.mk (s' := ⟨44, [(6, .own 3000), (7, .i (0 : Int))], [(3000, q2bW_27 r26.2.2.2.2.2.2.2.2.2.2)], [], 0⟩) rfl rfl ⟨.refl _, .refl _, trivial⟩ ⟨⟨_, rfl, .refl _⟩, trivial⟩) ?_
    refine AWp.ret ?_
    exact bR _ rfl ⟨rfl, rfl⟩ rfl
  ·
   intro j hkj
   replace h := ite_f (by omega) h
   exact nomatch (show (none : Option (Int × List (TB))) = some r from h)
def f107 (x1 : BitVec 16) (x2 : BitVec 16) : Option (Bool × BitVec 16) :=
 some (((!(x1 == x2)) && ((x2 &&& ~~~x1) == (BitVec.ofInt 16 0))), x2)
theorem f107_ok  (x1 : TB) (x2 : TB) (r : Bool × TB) (h : f107 x1 x2 = some r)  : Spec1 Tryz.prog 107 [] [2000] [(2000, .cells 27 [.b16 x2])] [.b16 x1, .ptr 2000 0] (.bool r.1) [(2000, .cells 27 [.b16 r.2])] := by
 unfold f107 at h
 refine Spec1.body 0 _ _ Tryz.func107 rfl Tryz.ntmps107 rfl rfl ?_
 refine q2rq [] [] ⟨13, [(0, .b16 x1), (1, .ptr 2000 0)], [(2000, .cells 27 [.b16 x2])], [2000], 0⟩ trivial ?_
 refine AWp.seq ?_
 have ob0 := idA (((!(x1 == x2)) == true) = true)
 have ob1 := idA (((!(x1 == x2)) == true) = true)
 have ob2 := idA (((!(x1 == x2)) == true) = true)
 have ob3 := bqA (!(x1 == x2)) true
 refine q2rr [] [] ⟨13, [(3, .bool ((!(x1 == x2)) && ((x2 &&& ~~~x1) == (q2w16 0))))], [(2000, .cells 27 [.b16 x2])], [2000], 0⟩ (an3 (an2 ob0 ob1) (an1 ob2) ob3) ?_
 refine tN ?_
 have hret := oJ h
 subst hret
 refine AWp.le (Le.mk (s' := ⟨13, [(3, .bool ((!(x1 == x2)) && ((x2 &&& ~~~x1) == (q2w16 0))))], [(2000, .cells 27 [.b16 x2])], [2000], 0⟩) rfl rfl ⟨.refl _, trivial⟩ ⟨⟨_, rfl, .refl _⟩, trivial⟩) ?_
 refine AWp.ret ?_
 exact bR _ rfl ⟨rfl, rfl⟩ rfl
def f54c_L0 (x1 : List (BitVec 16)) (K1 : (BitVec 16) → Option (Int × BitVec 16)) : Nat → (Nat × BitVec 16) → Option (Int × BitVec 16)
 | 0, _ => none
 | k + 1, (n3, w4) =>
  if (decide ((n3 : Int) < (((x1).length : Nat) : Int))) then (
  (f107 (x1.getD n3 0#16) w4).bind fun (r5 : Bool × TB) =>
  chk ((n3 : Int) < (((x1).length : Nat) : Int)) <|
  if r5.1 then (
  some ((n3 : Int), r5.2)
  ) else (
  chk (((n3 : Int) + (1 : Int)) ≤ 9223372036854775807) <|
  (f54c_L0 x1 K1 k) ((n3 + 1), r5.2)
  )
  ) else (
  K1 w4
  )
def f54c (x1 : List (BitVec 16)) (x2 : BitVec 16) : Option (Int × BitVec 16) :=
 jn (fun (w6 : BitVec 16) =>
 some ((-1 : Int), w6)
 ) fun (K1 : (TB) → Option (Int × TB)) =>
 f54c_L0 x1 K1 FUEL (0, x2)
theorem f54c_ok  (x1 : List (TB)) (x2 : TB) (r : Int × TB) (h : f54c x1 x2 = some r)  : Spec1 Tryz.prog 54 [] [2000] [(2000, .cells 27 [.b16 x2])] [vL 1 eW 0#16 x1, .fn (.func 107) [.ptr 2000 0]] (.int .i64 r.1) [(2000, .cells 27 [.b16 r.2])] := by
 unfold f54c at h
 refine Spec1.body 0 _ _ Tryz.func54 rfl Tryz.ntmps54 rfl rfl ?_
 refine q2rq [] [] ⟨19, [(0, q2aW x1), (1, .fn (.func 107) [.ptr 2000 0])], [(2000, .cells 27 [.b16 x2])], [2000], 0⟩ trivial ?_
 obtain ⟨K1, hK1, h⟩ := jn_some h
 refine AWp.join (α := TB) (fun (w6 : TB) => ⟨19, [], [(2000, .cells 27 [.b16 w6])], [2000], 0⟩) (fun x => K1 x = some r) ?_ ?_
 ·
  refine q2rq [] [] ⟨19, [(0, q2aW x1), (1, .fn (.func 107) [.ptr 2000 0]), (7, .i (lZ x1)), (8, .i (0 : Int))], [(2000, .cells 27 [.b16 x2])], [2000], 0⟩ trivial ?_
  refine AWp.block ?_
  refine AWp.loopL (α := Nat × (Nat × TB)) (fun x => match x with | (_, n3, w4) => ⟨19, [(0, q2aW x1), (1, .fn (.func 107) [.ptr 2000 0]), (7, .i (lZ x1)), (8, .i (n3 : Int))], [(2000, .cells 27 [.b16 w4])], [2000], 0⟩) (fun x => f54c_L0 x1 K1 x.1 x.2 = some r) (fun x => x.1) (FUEL, 0, x2) (Le.mk (s' := ⟨19, [(0, q2aW x1), (1, .fn (.func 107) [.ptr 2000 0]), (7, .i (lZ x1)), (8, .i (0 : Int))], [(2000, .cells 27 [.b16 x2])], [2000], 0⟩) rfl rfl ⟨.refl _, .refl _, .refl _, .refl _, trivial⟩ ⟨⟨_, rfl, .refl _⟩, trivial⟩) h ?_
  rintro ⟨k0, n3, w4⟩ h
  cases k0 with
  | zero => exact nomatch (show (none : Option (Int × TB)) = some r from h)
  | succ k0 =>
  obtain ⟨C0, hC0⟩ : ∃ C, C = f54c_L0 x1 K1 k0 := ⟨_, rfl⟩
  replace h := (f54c_L0.eq_2 ..).symm.trans h
  try rw [← hC0] at h
  refine q2rq [] [] ⟨19, [(0, q2aW x1), (1, .fn (.func 107) [.ptr 2000 0]), (7, .i (lZ x1)), (8, .i (n3 : Int)), (9, .bool (decide ((n3 : Int) < (lZ x1))))], [(2000, .cells 27 [.b16 w4])], [2000], 0⟩ trivial ?_
  refine AWp.seq ?_
  refine AWp.cond (b := (decide ((n3 : Int) < (lZ x1)))) (by kernel_rfl) (fun hc1 => ?_) (fun hc1 => ?_)
  ·
   replace h := ite_tb hc1 h
   refine AWp.skip ?_
   refine tN ?_
   refine AWp.seq ?_
   refine AWp.block ?_
   refine q2rq [] [] ⟨19, [(0, q2aW x1), (1, .fn (.func 107) [.ptr 2000 0]), (5, .i (n3 : Int)), (7, .i (lZ x1)), (8, .i (n3 : Int))], [(2000, .cells 27 [.b16 w4])], [2000], 0⟩ trivial ?_
   refine AWp.seq ?_
   obtain ⟨r5, hr5, h⟩ := bind_ok h
   obtain ⟨ob0p, h⟩ := chk_some h
   have ob0 : 0 ≤ (n3 : Int) ∧ (n3 : Int) < (((x1).length : Nat) : Int) := ⟨by omega, ob0p⟩
   refine q2rr [] [(5, ⟨[.b16 (x1.getD n3 0#16), .ptr 2000 0], [2000], [2000], [(2000, .cells 27 [.b16 r5.2])], .bool r5.1, [], [], []⟩)] ⟨19, [(0, q2aW x1), (1, .fn (.func 107) [.ptr 2000 0]), (5, .i (n3 : Int)), (7, .i (lZ x1)), (8, .i (n3 : Int)), (16, .bool r5.1)], [(2000, .cells 27 [.b16 r5.2])], [2000], 0⟩ (an2 ob0 (cpT (f107_ok _ _ _ hr5))) ?_
   refine tN ?_
   refine AWp.cond (b := r5.1) (by kernel_rfl) (fun hc2 => ?_) (fun hc2 => ?_)
   ·
    replace h := ite_tb hc2 h
    refine q2rq [] [] ⟨19, [(4, .i (n3 : Int))], [(2000, .cells 27 [.b16 r5.2])], [2000], 0⟩ trivial ?_
    have hret := oJ h
    subst hret
    refine AWp.le (Le.mk (s' := ⟨19, [(4, .i (n3 : Int))], [(2000, .cells 27 [.b16 r5.2])], [2000], 0⟩) rfl rfl ⟨.refl _, trivial⟩ ⟨⟨_, rfl, .refl _⟩, trivial⟩) ?_
    refine AWp.ret ?_
    refine kR ?_
    refine tR ?_
    refine tR ?_
    refine kR ?_
    refine joinQ_ret ?_
    exact bR _ rfl ⟨rfl, rfl⟩ rfl
   ·
    replace h := ite_fb hc2 h
    refine AWp.skip ?_
    refine kN ?_
    refine tN ?_
    obtain ⟨ob1p, h⟩ := chk_some h
    have ob1 : -9223372036854775808 ≤ ((n3 : Int) + (1 : Int)) ∧ ((n3 : Int) + (1 : Int)) ≤ 9223372036854775807 := ⟨by omega, ob1p⟩
    refine q2rr [] [] ⟨19, [(0, q2aW x1), (1, .fn (.func 107) [.ptr 2000 0]), (7, .i (lZ x1)), (8, .i (((n3 + 1) : Nat) : Int))], [(2000, .cells 27 [.b16 r5.2])], [2000], 0⟩ (an1 ob1) ?_
    rw [hC0] at h
    exact lN (_, (n3 + 1), r5.2) (Le.mk rfl rfl ⟨.refl _, .refl _, .refl _, .refl _, trivial⟩ ⟨⟨_, rfl, .refl _⟩, trivial⟩) h (Nat.lt_succ_self _)
  ·
   replace h := ite_fb hc1 h
   refine AWp.exit ?_
   refine tE ?_
   refine tE ?_
   refine kS ?_
   exact jN (w4) (Le.mk rfl rfl trivial ⟨⟨_, rfl, .refl _⟩, trivial⟩) h
 ·
  rintro w6 h
  replace h := (congrFun hK1 _).symm.trans h
  refine q2rq [] [] ⟨19, [(4, .i (-1 : Int))], [(2000, .cells 27 [.b16 w6])], [2000], 0⟩ trivial ?_
  have hret := oJ h
  subst hret
  refine AWp.le (Le.mk (s' := ⟨19, [(4, .i (-1 : Int))], [(2000, .cells 27 [.b16 w6])], [2000], 0⟩) rfl rfl ⟨.refl _, trivial⟩ ⟨⟨_, rfl, .refl _⟩, trivial⟩) ?_
  refine AWp.ret ?_
  exact bR _ rfl ⟨rfl, rfl⟩ rfl
def f30c (x1 : List (BitVec 16)) (x2 : BitVec 16) : Option (Bool × BitVec 16) :=
 (f54c x1 x2).bind fun (r3 : Int × TB) =>
 some ((decide (r3.1 ≥ (0 : Int))), r3.2)
theorem f30c_ok  (x1 : List (TB)) (x2 : TB) (r : Bool × TB) (h : f30c x1 x2 = some r)  : Spec1 Tryz.prog 30 [] [2000] [(2000, .cells 27 [.b16 x2])] [vL 1 eW 0#16 x1, .fn (.func 107) [.ptr 2000 0]] (.bool r.1) [(2000, .cells 27 [.b16 r.2])] := by
 unfold f30c at h
 refine Spec1.body 0 _ _ Tryz.func30 rfl Tryz.ntmps30 rfl rfl ?_
 refine q2rq [] [] ⟨9, [(0, q2aW x1), (1, .fn (.func 107) [.ptr 2000 0])], [(2000, .cells 27 [.b16 x2])], [2000], 0⟩ trivial ?_
 refine AWp.seq ?_
 obtain ⟨r3, hr3, h⟩ := bind_ok h
 refine q2rr [] [(2, ⟨[q2aW x1, .fn (.func 107) [.ptr 2000 0]], [2000], [2000], [(2000, .cells 27 [.b16 r3.2])], .i r3.1, [], [], []⟩)] ⟨9, [(4, .bool (decide (r3.1 ≥ (0 : Int))))], [(2000, .cells 27 [.b16 r3.2])], [2000], 0⟩ (an1 (cpT (f54c_ok _ _ _ hr3))) ?_
 refine tN ?_
 have hret := oJ h
 subst hret
 refine AWp.le (Le.mk (s' := ⟨9, [(4, .bool (decide (r3.1 ≥ (0 : Int))))], [(2000, .cells 27 [.b16 r3.2])], [2000], 0⟩) rfl rfl ⟨.refl _, trivial⟩ ⟨⟨_, rfl, .refl _⟩, trivial⟩) ?_
 refine AWp.ret ?_
 exact bR _ rfl ⟨rfl, rfl⟩ rfl
def f93_L0 (x1 : List Tq0) (K1 : (List (BitVec 16)) → Option (List (BitVec 16))) : Nat → Tq1 → Option (List (BitVec 16))
 | 0, _ => none
 | k + 1, (n2, l3) =>
  if (decide ((n2 : Int) < (((x1).length : Nat) : Int))) then (
  chk ((n2 : Int) < (((x1).length : Nat) : Int)) <|
  chk (((l3).length + 1) * 2 ≤ 140737488355328) <|
  chk (((n2 : Int) + (1 : Int)) ≤ 9223372036854775807) <|
  (f93_L0 x1 K1 k) ((n2 + 1), (l3 ++ [(x1.getD n2 (default : Tq0)).1]))
  ) else (
  K1 l3
  )
def f93_L1 (r6 : List (BitVec 16)) (K2 : (List (BitVec 16)) → Option (List (BitVec 16))) : Nat → Tq1 → Option (List (BitVec 16))
 | 0, _ => none
 | k + 1, (n7, l8) =>
  if (decide ((n7 : Int) < (((r6).length : Nat) : Int))) then (
  jn (fun (l10 : List (BitVec 16)) =>
  chk (((n7 : Int) + (1 : Int)) ≤ 9223372036854775807) <|
  (f93_L1 r6 K2 k) ((n7 + 1), l10)
  ) fun (K3 : (List (TB)) → Option (List (TB))) =>
  chk ((n7 : Int) < (((r6).length : Nat) : Int)) <|
  chk (n7 < (r6).length) <|
  (f30c r6 (r6.getD n7 0#16)).bind fun (r9 : Bool × TB) =>
  if (!r9.1) then (
  chk (((l8).length + 1) * 2 ≤ 140737488355328) <|
  K3 (l8 ++ [r9.2])
  ) else (
  K3 l8
  )
  ) else (
  K2 l8
  )
abbrev f93z0 (r6 : List (TB)) (n7 : Nat) : List (Nat × V) := [(3, .own 5003), (4, .own 5004), (25, .own 5003), (26, .int .i64 (((r6).length : Nat) : Int)), (27, .int .i64 (n7 : Int))]
abbrev f93z1 (r6 : List (TB)) (n7 : Nat) : List (Nat × V) := [(3, .own 5003), (4, .own 38), (25, .own 5003), (26, .int .i64 (((r6).length : Nat) : Int)), (27, .int .i64 (n7 : Int))]
abbrev f93z2 (x1 : List Tq0) (n2 : Nat) : List (Nat × V) := [(3, .own 5003), (4, .nils), (9, vL 2 eWW (default : Tq0) x1), (10, .int .i64 (((x1).length : Nat) : Int)), (11, .int .i64 (n2 : Int))]
abbrev f93z3 (x1 : List Tq0) (n2 : Nat) := (x1.getD n2 (default : Tq0))
def f93 (x1 : List Tq0) : Option (List (BitVec 16)) :=
 jn (fun (l4 : List (BitVec 16)) =>
 (f64 l4).bind fun (r5 : List (TB)) =>
 (f65 r5).bind fun (r6 : List (TB)) =>
 jn (fun (l11 : List (BitVec 16)) =>
 some l11
 ) fun (K2 : (List (TB)) → Option (List (TB))) =>
 f93_L1 r6 K2 FUEL (0, [])
 ) fun (K1 : (List (TB)) → Option (List (TB))) =>
 f93_L0 x1 K1 FUEL (0, [])
theorem f93_ok  (x1 : List Tq0) (r : List (TB)) (h : f93 x1 = some r)  : Spec1 Tryz.prog 93 [] [] [] [vL 2 eWW (default : Tq0) x1] (.own 3000) [(3000, bL 27 1 eW 0#16 r)] := by
 unfold f93 at h
 refine Spec1.body 0 _ _ Tryz.func93 rfl Tryz.ntmps93 rfl rfl ?_
 refine q2rq [] [] ⟨41, [(0, q2aWW x1)], [], [], 0⟩ trivial ?_
 refine q2rq [] [] ⟨41, [(0, q2aWW x1), (3, .nils), (4, .nils)], [], [], 0⟩ trivial ?_
 obtain ⟨K1, hK1, h⟩ := jn_some h
 refine AWp.join (α := List (TB)) (fun (l4 : List (TB)) => ⟨41, [(3, .own 5003), (4, .nils)], [(5003, q2bW_27 l4)], [], 0⟩) (fun x => K1 x = some r) ?_ ?_
 ·
  refine q2rq [] [] ⟨41, [(3, .nils), (4, .nils), (9, q2aWW x1), (10, .i (lZ x1)), (11, .i (0 : Int))], [], [], 0⟩ trivial ?_
  refine AWp.block ?_
  refine AWp.loopL (α := Nat × Tq1) (fun x => match x with | (_, n2, l3) => ⟨41, (f93z2 x1 n2), [(5003, q2bW_27 l3)], [], 0⟩) (fun x => f93_L0 x1 K1 x.1 x.2 = some r) (fun x => x.1) (FUEL, 0, []) (Le.trans (Le.trans (Le.nilOwn 3 5003 27 1 (encF eW 0#16 []) rfl rfl (Nat.le_of_ble_eq_true rfl)) (Le.mk (s' := ⟨41, [(3, .own 5003), (4, .nils), (9, q2aWW x1), (10, .i (lZ x1)), (11, .i (0 : Int))], [(5003, q2bW_27 [])], [], 0⟩) rfl rfl ⟨.refl _, .refl _, .refl _, .refl _, .refl _, trivial⟩ ⟨⟨_, rfl, .refl _⟩, trivial⟩)) (Le.mk (s' := ⟨41, [(3, .own 5003), (4, .nils), (9, q2aWW x1), (10, .i (lZ x1)), (11, .i (0 : Int))], [(5003, q2bW_27 [])], [], 0⟩) rfl rfl ⟨.refl _, .refl _, .refl _, .refl _, .refl _, trivial⟩ ⟨⟨_, rfl, .refl _⟩, trivial⟩)) h ?_
  rintro ⟨k0, n2, l3⟩ h
  cases k0 with
  | zero => exact nomatch (show (none : Option (List (TB))) = some r from h)
  | succ k0 =>
  obtain ⟨C0, hC0⟩ : ∃ C, C = f93_L0 x1 K1 k0 := ⟨_, rfl⟩
  replace h := (f93_L0.eq_2 ..).symm.trans h
  try rw [← hC0] at h
  refine q2rq [] [] ⟨41, [(3, .own 5003), (4, .nils), (9, q2aWW x1), (10, .i (lZ x1)), (11, .i (n2 : Int)), (12, .bool (decide ((n2 : Int) < (lZ x1))))], [(5003, q2bW_27 l3)], [], 0⟩ trivial ?_
  refine AWp.seq ?_
  refine AWp.cond (b := (decide ((n2 : Int) < (lZ x1)))) (by kernel_rfl) (fun hc1 => ?_) (fun hc1 => ?_)
  ·
   replace h := ite_tb hc1 h
   refine AWp.skip ?_
   refine tN ?_
   refine AWp.seq ?_
   refine AWp.block ?_
   refine AWp.seq ?_
   obtain ⟨ob0p, h⟩ := chk_some h
   have ob0 : 0 ≤ (n2 : Int) ∧ (n2 : Int) < (((x1).length : Nat) : Int) := ⟨by omega, ob0p⟩
   refine q2rr [] [] ⟨41, [(3, .own 5003), (4, .nils), (6, .ptr 6 0), (9, q2aWW x1), (10, .i (lZ x1)), (11, .i (n2 : Int))], [(6, .cells 43 [.b16 (f93z3 x1 n2).1, .b16 (f93z3 x1 n2).2]), (5003, q2bW_27 l3)], [], 0⟩ (an2 ob0 trivial) ?_
   refine tN ?_
   obtain ⟨ob1, h⟩ := chk_some h
   refine q2rr [] [] ⟨41, (f93z2 x1 n2), [(5003, .rows 27 1 ((l3).length + 1) (appF (l3).length (encF eW 0#16 l3) (lstF 1 [.b16 (f93z3 x1 n2).1])))], [], 0⟩ (an1 ob1) ?_
   refine kN ?_
   refine tN ?_
   refine AWp.le (Le.mk (s' := ⟨41, (f93z2 x1 n2), [(5003, q2bW_27 (l3 ++ [(f93z3 x1 n2).1]))], [], 0⟩) rfl rfl ⟨.refl _, .refl _, .refl _, .refl _, .refl _, trivial⟩ ⟨⟨_, rfl, (BLe.of (RL.app (RL.self _) (RL.lst (enc := eW) [(f93z3 x1 n2).1] rfl rfl (fun _ => rfl))))⟩, trivial⟩) ?_
   obtain ⟨ob2p, h⟩ := chk_some h
   have ob2 : -9223372036854775808 ≤ ((n2 : Int) + (1 : Int)) ∧ ((n2 : Int) + (1 : Int)) ≤ 9223372036854775807 := ⟨by omega, ob2p⟩
   refine q2rr [] [] ⟨41, [(3, .own 5003), (4, .nils), (9, q2aWW x1), (10, .i (lZ x1)), (11, .i (((n2 + 1) : Nat) : Int))], [(5003, q2bW_27 (l3 ++ [(f93z3 x1 n2).1]))], [], 0⟩ (an1 ob2) ?_
   rw [hC0] at h
   exact lN (_, (n2 + 1), (l3 ++ [(f93z3 x1 n2).1])) (Le.mk rfl rfl ⟨.refl _, .refl _, .refl _, .refl _, .refl _, trivial⟩ ⟨⟨_, rfl, .refl _⟩, trivial⟩) h (Nat.lt_succ_self _)
  ·
   replace h := ite_fb hc1 h
   refine AWp.exit ?_
   refine tE ?_
   refine tE ?_
   refine kS ?_
   exact jN (l3) (Le.mk rfl rfl ⟨.refl _, .refl _, trivial⟩ ⟨⟨_, rfl, .refl _⟩, trivial⟩) h
 ·
  rintro l4 h
  replace h := (congrFun hK1 _).symm.trans h
  refine AWp.seq ?_
  obtain ⟨r5, hr5, h⟩ := bind_ok h
  refine q2rr [] [(1, ⟨[.own 5003, .fn (.func 43) []], [5003], [5003], [(5003, q2bW_27 r5)], .tup [], [], [], []⟩)] ⟨41, [(3, .own 5003), (4, .nils)], [(5003, q2bW_27 r5)], [], 0⟩ (an1 (cpT (Spec1.ren (swapN 2000 5003) (swapN_inv 2000 5003) rfl (f64_ok _ _ hr5)))) ?_
  refine tN ?_
  refine AWp.seq ?_
  obtain ⟨r6, hr6, h⟩ := bind_ok h
  refine q2rr [] [(1, ⟨[.own 5003], [5003], [], [(5003, q2bW_27 r6)], .own 5003, [5003], [], []⟩)] ⟨41, [(3, .own 5003), (4, .nils)], [(5003, q2bW_27 r6)], [], 0⟩ (an1 (cpT (Spec1.ren (swapN 2000 5003) (swapN_inv 2000 5003) rfl (f65_ok _ _ hr6)))) ?_
  refine tN ?_
  obtain ⟨K2, hK2, h⟩ := jn_some h
  refine AWp.join (α := List (TB)) (fun (l11 : List (TB)) => ⟨41, [(4, .own 5004)], [(5004, q2bW_27 l11)], [], 0⟩) (fun x => K2 x = some r) ?_ ?_
  ·
   refine q2rq [] [] ⟨41, [(3, .own 5003), (4, .nils), (25, .own 5003), (26, .i (lZ r6)), (27, .i (0 : Int))], [(5003, q2bW_27 r6)], [], 0⟩ trivial ?_
   refine AWp.block ?_
   refine AWp.loopL (α := Nat × Tq1) (fun x => match x with | (_, n7, l8) => ⟨41, (f93z0 r6 n7), [(5003, q2bW_27 r6), (5004, q2bW_27 l8)], [], 0⟩) (fun x => f93_L1 r6 K2 x.1 x.2 = some r) (fun x => x.1) (FUEL, 0, []) (Le.trans (Le.trans (Le.nilOwn 4 5004 27 1 (encF eW 0#16 []) rfl rfl (Nat.le_of_ble_eq_true rfl)) (Le.mk (s' := ⟨41, [(3, .own 5003), (4, .own 5004), (25, .own 5003), (26, .i (lZ r6)), (27, .i (0 : Int))], [(5003, q2bW_27 r6), (5004, q2bW_27 [])], [], 0⟩) rfl rfl ⟨.refl _, .refl _, .refl _, .refl _, .refl _, trivial⟩ ⟨⟨_, rfl, .refl _⟩, ⟨_, rfl, .refl _⟩, trivial⟩)) (Le.mk (s' := ⟨41, [(3, .own 5003), (4, .own 5004), (25, .own 5003), (26, .i (lZ r6)), (27, .i (0 : Int))], [(5003, q2bW_27 r6), (5004, q2bW_27 [])], [], 0⟩) rfl rfl ⟨.refl _, .refl _, .refl _, .refl _, .refl _, trivial⟩ ⟨⟨_, rfl, .refl _⟩, ⟨_, rfl, .refl _⟩, trivial⟩)) h ?_
   rintro ⟨k1, n7, l8⟩ h
   cases k1 with
   | zero => exact nomatch (show (none : Option (List (TB))) = some r from h)
   | succ k1 =>
   obtain ⟨C1, hC1⟩ : ∃ C, C = f93_L1 r6 K2 k1 := ⟨_, rfl⟩
   replace h := (f93_L1.eq_2 ..).symm.trans h
   try rw [← hC1] at h
   refine q2rq [] [] ⟨41, [(3, .own 5003), (4, .own 5004), (25, .own 5003), (26, .i (lZ r6)), (27, .i (n7 : Int)), (28, .bool (decide ((n7 : Int) < (lZ r6))))], [(5003, q2bW_27 r6), (5004, q2bW_27 l8)], [], 0⟩ trivial ?_
   refine AWp.seq ?_
   refine AWp.cond (b := (decide ((n7 : Int) < (lZ r6)))) (by kernel_rfl) (fun hc2 => ?_) (fun hc2 => ?_)
   ·
    replace h := ite_tb hc2 h
    refine AWp.skip ?_
    refine tN ?_
    obtain ⟨K3, hK3, h⟩ := jn_some h
    refine AWp.join (α := List (TB)) (fun (l10 : List (TB)) => ⟨41, (f93z1 r6 n7), [(38, q2bW_27 l10), (5003, q2bW_27 r6)], [], 0⟩) (fun x => K3 x = some r) ?_ ?_
    ·
     refine AWp.block ?_
     refine AWp.seq ?_
     obtain ⟨ob3p, h⟩ := chk_some h
     have ob3 : 0 ≤ (n7 : Int) ∧ (n7 : Int) < (((r6).length : Nat) : Int) := ⟨by omega, ob3p⟩
     obtain ⟨ob4, h⟩ := chk_some h
     refine q2rr [] [] ⟨41, [(3, .own 5003), (4, .own 5004), (8, .ptr 8 0), (25, .own 5003), (26, .i (lZ r6)), (27, .i (n7 : Int))], [(8, .cells 27 [.b16 (r6.getD n7 0#16)]), (5003, q2bW_27 r6), (5004, q2bW_27 l8)], [], 0⟩ (an3 ob3 ob4 trivial) ?_
     refine tN ?_
     refine AWp.seq ?_
     obtain ⟨r9, hr9, h⟩ := bind_ok h
     refine q2rr [] [(2, ⟨[q2aW r6, .fn (.func 107) [.ptr 8 0]], [8], [8], [(8, .cells 27 [.b16 r9.2])], .bool r9.1, [], [5003], []⟩)] ⟨41, [(3, .own 5003), (4, .own 5004), (8, .ptr 8 0), (25, .own 5003), (26, .i (lZ r6)), (27, .i (n7 : Int)), (34, .bool (!r9.1))], [(8, .cells 27 [.b16 r9.2]), (5003, q2bW_27 r6), (5004, q2bW_27 l8)], [], 0⟩ (an1 (cpL (c := true) [(5003, q2bW_27 r6)] [5003] [.own 5003, .fn (.func 107) [.ptr 8 0]] (fun _ => (Spec1.ren (swapN 2000 8) (swapN_inv 2000 8) rfl (f30c_ok _ _ _ hr9))) (fun _ => ⟨.refl _, .refl _, trivial⟩) (.inr ⟨rfl, ⟨rfl, trivial⟩⟩))) ?_
     refine tN ?_
     refine AWp.cond (b := (!r9.1)) (by kernel_rfl) (fun hc3 => ?_) (fun hc3 => ?_)
     ·
      replace h := ite_tb hc3 h
      obtain ⟨ob5, h⟩ := chk_some h
      refine q2rr [] [] ⟨41, (f93z0 r6 n7), [(5003, q2bW_27 r6), (5004, .rows 27 1 ((l8).length + 1) (appF (l8).length (encF eW 0#16 l8) (lstF 1 [.b16 r9.2])))], [], 0⟩ (an1 ob5) ?_
      refine kN ?_
      exact jN ((l8 ++ [r9.2])) (Le.trans (Le.mk (s' := ⟨41, (f93z0 r6 n7), [(5003, q2bW_27 r6), (5004, q2bW_27 (l8 ++ [r9.2]))], [], 0⟩) rfl rfl ⟨.refl _, .refl _, .refl _, .refl _, .refl _, trivial⟩ ⟨⟨_, rfl, .refl _⟩, ⟨_, rfl, (BLe.of (RL.app (RL.self _) (RL.lst (enc := eW) [r9.2] rfl rfl (fun _ => rfl))))⟩, trivial⟩) (Le.trans (Le.trans (Le.ren (swapN 5004 38) (swapN_inv 5004 38) rfl) (Le.mk (s' := ⟨41, (f93z1 r6 n7), [(5003, q2bW_27 r6), (38, q2bW_27 (l8 ++ [r9.2]))], [], 0⟩) rfl rfl ⟨.refl _, .refl _, .refl _, .refl _, .refl _, trivial⟩ ⟨⟨_, rfl, .refl _⟩, ⟨_, rfl, .refl _⟩, trivial⟩)) (Le.mk rfl rfl ⟨.refl _, .refl _, .refl _, .refl _, .refl _, trivial⟩ ⟨⟨_, rfl, .refl _⟩, ⟨_, rfl, .refl _⟩, trivial⟩))) h
     ·
      replace h := ite_fb hc3 h
      refine AWp.skip ?_
      refine kN ?_
      exact jN (l8) (Le.trans (Le.trans (Le.ren (swapN 5004 38) (swapN_inv 5004 38) rfl) (Le.mk (s' := ⟨41, [(3, .own 5003), (4, .own 38), (8, .ptr 8 0), (25, .own 5003), (26, .i (lZ r6)), (27, .i (n7 : Int)), (34, .bool (!r9.1))], [(8, .cells 27 [.b16 r9.2]), (5003, q2bW_27 r6), (38, q2bW_27 l8)], [], 0⟩) rfl rfl ⟨.refl _, .refl _, .refl _, .refl _, .refl _, .refl _, .refl _, trivial⟩ ⟨⟨_, rfl, .refl _⟩, ⟨_, rfl, .refl _⟩, ⟨_, rfl, .refl _⟩, trivial⟩)) (Le.mk rfl rfl ⟨.refl _, .refl _, .refl _, .refl _, .refl _, trivial⟩ ⟨⟨_, rfl, .refl _⟩, ⟨_, rfl, .refl _⟩, trivial⟩)) h
    ·
     rintro l10 h
     replace h := (congrFun hK3 _).symm.trans h
     obtain ⟨ob6p, h⟩ := chk_some h
     have ob6 : -9223372036854775808 ≤ ((n7 : Int) + (1 : Int)) ∧ ((n7 : Int) + (1 : Int)) ≤ 9223372036854775807 := ⟨by omega, ob6p⟩
     refine q2rr [] [] ⟨41, [(3, .own 5003), (4, .own 38), (25, .own 5003), (26, .i (lZ r6)), (27, .i (((n7 + 1) : Nat) : Int))], [(38, q2bW_27 l10), (5003, q2bW_27 r6)], [], 0⟩ (an1 ob6) ?_
     rw [hC1] at h
     exact lN (_, (n7 + 1), l10) (Le.trans (Le.trans (Le.ren (swapN 38 5004) (swapN_inv 38 5004) rfl) (Le.mk (s' := ⟨41, [(3, .own 5003), (4, .own 5004), (25, .own 5003), (26, .i (lZ r6)), (27, .i (((n7 + 1) : Nat) : Int))], [(5004, q2bW_27 l10), (5003, q2bW_27 r6)], [], 0⟩) rfl rfl ⟨.refl _, .refl _, .refl _, .refl _, .refl _, trivial⟩ ⟨⟨_, rfl, .refl _⟩, ⟨_, rfl, .refl _⟩, trivial⟩)) (Le.mk rfl rfl ⟨.refl _, .refl _, .refl _, .refl _, .refl _, trivial⟩ ⟨⟨_, rfl, .refl _⟩, ⟨_, rfl, .refl _⟩, trivial⟩)) h (Nat.lt_succ_self _)
   ·
    replace h := ite_fb hc2 h
    refine AWp.exit ?_
    refine tE ?_
    refine tE ?_
    refine kS ?_
    exact jN (l8) (Le.mk rfl rfl ⟨.refl _, trivial⟩ ⟨⟨_, rfl, .refl _⟩, trivial⟩) h
  ·
   rintro l11 h
   replace h := (congrFun hK2 _).symm.trans h
   refine q2rq [] [] ⟨41, [(2, .own 5004)], [(5004, q2bW_27 l11)], [], 0⟩ trivial ?_
   refine AWp.le (Le.trans (Le.ren (swapN 5004 3000) (swapN_inv 5004 3000) rfl) (Le.mk (s' := ⟨41, [(2, .own 3000)], [(3000, q2bW_27 l11)], [], 0⟩) rfl rfl ⟨.refl _, trivial⟩ ⟨⟨_, rfl, .refl _⟩, trivial⟩)) ?_
   have hret := oJ h
   subst hret
   refine AWp.le (Le.mk (s' := ⟨41, [(2, .own 3000)], [(3000, q2bW_27 l11)], [], 0⟩) rfl rfl ⟨.refl _, trivial⟩ ⟨⟨_, rfl, .refl _⟩, trivial⟩) ?_
   refine AWp.ret ?_
   exact bR _ rfl ⟨rfl, rfl⟩ rfl
def f77_L0 (x3 : BitVec 16) (x6 : List Tq0) (K1 : (List Tq0) → Option (List (BitVec 16))) : Nat → (Nat × (List Tq0)) → Option (List (BitVec 16))
 | 0, _ => none
 | k + 1, (n7, l8) =>
  if (decide ((n7 : Int) < (((x6).length : Nat) : Int))) then (
  chk ((n7 : Int) < (((x6).length : Nat) : Int)) <|
  chk (((l8).length + 1) * 4 ≤ 140737488355328) <|
  chk (((n7 : Int) + (1 : Int)) ≤ 9223372036854775807) <|
  (f77_L0 x3 x6 K1 k) ((n7 + 1), (l8 ++ [(((x6.getD n7 (default : Tq0)).1 &&& x3), (BitVec.ofInt 16 0))]))
  ) else (
  K1 l8
  )
abbrev f77z0 (x1 : List UInt8) (x2 : Int) (x3 : TB) (x4 : List (TB)) (x5 : List (TB)) (x6 : List Tq0) : List V := [.str x1, .int .i64 x2, .b16 x3, vL 1 eW 0#16 x4, vL 1 eW 0#16 x5, vL 2 eWW (default : Tq0) x6]
abbrev f77z1 (x6 : List Tq0) (n7 : Nat) : List (Nat × V) := [(1, .ptr 1 0), (3, .own 5003), (11, vL 2 eWW (default : Tq0) x6), (12, .int .i64 (((x6).length : Nat) : Int)), (13, .int .i64 (n7 : Int))]
abbrev f77z2 (x6 : List Tq0) (n7 : Nat) := (x6.getD n7 (default : Tq0))
def f77 (x1 : List UInt8) (x2 : Int) (x3 : BitVec 16) (x4 : List (BitVec 16)) (x5 : List (BitVec 16)) (x6 : List Tq0) : Option (List (BitVec 16)) :=
 if (x2 == (1 : Int)) then (
 some [(BitVec.ofInt 16 0)]
 ) else (
 jn (fun (l9 : List Tq0) =>
 (f93 l9).bind fun (r10 : List (TB)) =>
 some r10
 ) fun (K1 : (List Tq0) → Option (List (TB))) =>
 f77_L0 x3 x6 K1 FUEL (0, [])
 )
theorem f77_ok  (x1 : List UInt8) (x2 : Int) (x3 : TB) (x4 : List (TB)) (x5 : List (TB)) (x6 : List Tq0) (r : List (TB)) (h : f77 x1 x2 x3 x4 x5 x6 = some r)  : Spec1 Tryz.prog 77 [] [] [] [.agg [.str x1, .int .i64 x2, .b16 x3, vL 1 eW 0#16 x4, vL 1 eW 0#16 x5, vL 2 eWW (default : Tq0) x6]] (.own 3000) [(3000, bL 27 1 eW 0#16 r)] := by
 unfold f77 at h
 refine Spec1.body 0 _ _ Tryz.func77 rfl Tryz.ntmps77 rfl rfl ?_
 refine q2rq [] [] ⟨29, [(1, .ptr 1 0)], [(1, .cells 33 (f77z0 x1 x2 x3 x4 x5 x6))], [], 0⟩ trivial ?_
 refine AWp.seq ?_
 refine q2rq [] [] ⟨29, [(1, .ptr 1 0), (8, .bool (x2 == (1 : Int)))], [(1, .cells 33 (f77z0 x1 x2 x3 x4 x5 x6))], [], 0⟩ trivial ?_
 refine AWp.cond (b := (x2 == (1 : Int))) (by kernel_rfl) (fun hc1 => ?_) (fun hc1 => ?_)
 ·
  replace h := ite_tb hc1 h
  refine q2rq [] [] ⟨29, [(2, .own 9)], [(9, .rows 27 1 1 (lstF 1 [.b16 (q2w16 0)]))], [], 0⟩ trivial ?_
  refine AWp.le (Le.mk (s' := ⟨29, [(2, .own 9)], [(9, q2bW_27 [(q2w16 0)])], [], 0⟩) rfl rfl ⟨.refl _, trivial⟩ ⟨⟨_, rfl, (BLe.of (RL.lst (enc := eW) [(q2w16 0)] rfl rfl (fun _ => rfl)))⟩, trivial⟩) ?_
  refine AWp.le (Le.trans (Le.ren (swapN 9 3000) (swapN_inv 9 3000) rfl) (Le.mk (s' := ⟨29, [(2, .own 3000)], [(3000, q2bW_27 [(q2w16 0)])], [], 0⟩) rfl rfl ⟨.refl _, trivial⟩ ⟨⟨_, rfl, .refl _⟩, trivial⟩)) ?_
  have hret := oJ h
  subst hret
  refine AWp.le (Le.mk (s' := ⟨29, [(2, .own 3000)], [(3000, q2bW_27 [(q2w16 0)])], [], 0⟩) rfl rfl ⟨.refl _, trivial⟩ ⟨⟨_, rfl, .refl _⟩, trivial⟩) ?_
  refine AWp.ret ?_
  refine tR ?_
  exact bR _ rfl ⟨rfl, rfl⟩ rfl
 ·
  replace h := ite_fb hc1 h
  refine AWp.skip ?_
  refine tN ?_
  refine q2rq [] [] ⟨29, [(1, .ptr 1 0), (3, .nils)], [(1, .cells 33 (f77z0 x1 x2 x3 x4 x5 x6))], [], 0⟩ trivial ?_
  obtain ⟨K1, hK1, h⟩ := jn_some h
  refine AWp.join (α := List Tq0) (fun (l9 : List Tq0) => ⟨29, [(3, .own 5003)], [(5003, q2bWW_43 l9)], [], 0⟩) (fun x => K1 x = some r) ?_ ?_
  ·
   refine q2rq [] [] ⟨29, [(1, .ptr 1 0), (3, .nils), (11, q2aWW x6), (12, .i (lZ x6)), (13, .i (0 : Int))], [(1, .cells 33 (f77z0 x1 x2 x3 x4 x5 x6))], [], 0⟩ trivial ?_
   refine AWp.block ?_
   refine AWp.loopL (α := Nat × (Nat × (List Tq0))) (fun x => match x with | (_, n7, l8) => ⟨29, (f77z1 x6 n7), [(1, .cells 33 (f77z0 x1 x2 x3 x4 x5 x6)), (5003, q2bWW_43 l8)], [], 0⟩) (fun x => f77_L0 x3 x6 K1 x.1 x.2 = some r) (fun x => x.1) (FUEL, 0, []) (Le.trans (Le.trans (Le.nilOwn 3 5003 43 2 (encF eWW q2dWW []) rfl rfl (Nat.le_of_ble_eq_true rfl)) (Le.mk (s' := ⟨29, [(1, .ptr 1 0), (3, .own 5003), (11, q2aWW x6), (12, .i (lZ x6)), (13, .i (0 : Int))], [(1, .cells 33 (f77z0 x1 x2 x3 x4 x5 x6)), (5003, q2bWW_43 [])], [], 0⟩) rfl rfl ⟨.refl _, .refl _, .refl _, .refl _, .refl _, trivial⟩ ⟨⟨_, rfl, .refl _⟩, ⟨_, rfl, .refl _⟩, trivial⟩)) (Le.mk (s' := ⟨29, [(1, .ptr 1 0), (3, .own 5003), (11, q2aWW x6), (12, .i (lZ x6)), (13, .i (0 : Int))], [(1, .cells 33 (f77z0 x1 x2 x3 x4 x5 x6)), (5003, q2bWW_43 [])], [], 0⟩) rfl rfl ⟨.refl _, .refl _, .refl _, .refl _, .refl _, trivial⟩ ⟨⟨_, rfl, .refl _⟩, ⟨_, rfl, .refl _⟩, trivial⟩)) h ?_
   rintro ⟨k0, n7, l8⟩ h
   cases k0 with
   | zero => exact nomatch (show (none : Option (List (TB))) = some r from h)
   | succ k0 =>
   obtain ⟨C0, hC0⟩ : ∃ C, C = f77_L0 x3 x6 K1 k0 := ⟨_, rfl⟩
   replace h := (f77_L0.eq_2 ..).symm.trans h
   try rw [← hC0] at h
   refine q2rq [] [] ⟨29, [(1, .ptr 1 0), (3, .own 5003), (11, q2aWW x6), (12, .i (lZ x6)), (13, .i (n7 : Int)), (14, .bool (decide ((n7 : Int) < (lZ x6))))], [(1, .cells 33 (f77z0 x1 x2 x3 x4 x5 x6)), (5003, q2bWW_43 l8)], [], 0⟩ trivial ?_
   refine AWp.seq ?_
   refine AWp.cond (b := (decide ((n7 : Int) < (lZ x6)))) (by kernel_rfl) (fun hc2 => ?_) (fun hc2 => ?_)
   ·
    replace h := ite_tb hc2 h
    refine AWp.skip ?_
    refine tN ?_
    refine AWp.seq ?_
    refine AWp.block ?_
    refine AWp.seq ?_
    obtain ⟨ob0p, h⟩ := chk_some h
    have ob0 : 0 ≤ (n7 : Int) ∧ (n7 : Int) < (((x6).length : Nat) : Int) := ⟨by omega, ob0p⟩
    refine q2rr [] [] ⟨29, [(1, .ptr 1 0), (3, .own 5003), (5, .ptr 5 0), (11, q2aWW x6), (12, .i (lZ x6)), (13, .i (n7 : Int))], [(1, .cells 33 (f77z0 x1 x2 x3 x4 x5 x6)), (5, .cells 43 [.b16 (f77z2 x6 n7).1, .b16 (f77z2 x6 n7).2]), (5003, q2bWW_43 l8)], [], 0⟩ (an2 ob0 trivial) ?_
    refine tN ?_
    obtain ⟨ob1, h⟩ := chk_some h
    refine q2rr [] [] ⟨29, (f77z1 x6 n7), [(1, .cells 33 (f77z0 x1 x2 x3 x4 x5 x6)), (5003, .rows 43 2 ((l8).length + 1) (appF (l8).length (encF eWW q2dWW l8) (lstF 2 [.b16 ((f77z2 x6 n7).1 &&& x3), .b16 (q2w16 0)])))], [], 0⟩ (an1 ob1) ?_
    refine kN ?_
    refine tN ?_
    refine AWp.le (Le.mk (s' := ⟨29, (f77z1 x6 n7), [(1, .cells 33 (f77z0 x1 x2 x3 x4 x5 x6)), (5003, q2bWW_43 (l8 ++ [(((f77z2 x6 n7).1 &&& x3), (q2w16 0))]))], [], 0⟩) rfl rfl ⟨.refl _, .refl _, .refl _, .refl _, .refl _, trivial⟩ ⟨⟨_, rfl, .refl _⟩, ⟨_, rfl, (BLe.of (RL.app (RL.self _) (RL.lst (enc := eWW) [(((f77z2 x6 n7).1 &&& x3), (q2w16 0))] rfl rfl (fun _ => rfl))))⟩, trivial⟩) ?_
    obtain ⟨ob2p, h⟩ := chk_some h
    have ob2 : -9223372036854775808 ≤ ((n7 : Int) + (1 : Int)) ∧ ((n7 : Int) + (1 : Int)) ≤ 9223372036854775807 := ⟨by omega, ob2p⟩
    refine q2rr [] [] ⟨29, [(1, .ptr 1 0), (3, .own 5003), (11, q2aWW x6), (12, .i (lZ x6)), (13, .i (((n7 + 1) : Nat) : Int))], [(1, .cells 33 (f77z0 x1 x2 x3 x4 x5 x6)), (5003, q2bWW_43 (l8 ++ [(((f77z2 x6 n7).1 &&& x3), (q2w16 0))]))], [], 0⟩ (an1 ob2) ?_
    rw [hC0] at h
    exact lN (_, (n7 + 1), (l8 ++ [(((f77z2 x6 n7).1 &&& x3), (q2w16 0))])) (Le.mk rfl rfl ⟨.refl _, .refl _, .refl _, .refl _, .refl _, trivial⟩ ⟨⟨_, rfl, .refl _⟩, ⟨_, rfl, .refl _⟩, trivial⟩) h (Nat.lt_succ_self _)
   ·
    replace h := ite_fb hc2 h
    refine AWp.exit ?_
    refine tE ?_
    refine tE ?_
    refine kS ?_
    exact jN (l8) (Le.mk rfl rfl ⟨.refl _, trivial⟩ ⟨⟨_, rfl, .refl _⟩, trivial⟩) h
  ·
   rintro l9 h
   replace h := (congrFun hK1 _).symm.trans h
   refine AWp.seq ?_
   obtain ⟨r10, hr10, h⟩ := bind_ok h
   refine q2rr [] [(1, ⟨[q2aWW l9], [], [], [(6001, q2bW_27 r10)], .own 6001, [6001], [5003], []⟩)] ⟨29, [(2, .own 6001)], [(6001, q2bW_27 r10)], [], 0⟩ (an1 (cpL (c := true) [(5003, q2bWW_43 l9)] [5003] [.own 5003] (fun _ => (Spec1.ren (swapN 3000 6001) (swapN_inv 3000 6001) rfl (f93_ok _ _ hr10))) (fun _ => ⟨.refl _, trivial⟩) (.inr ⟨rfl, ⟨(fun _ _ _ _ => eW_flat _ _), trivial⟩⟩))) ?_
   refine tN ?_
   refine AWp.le (Le.trans (Le.ren (swapN 6001 3000) (swapN_inv 6001 3000) rfl) (Le.mk (s' := ⟨29, [(2, .own 3000)], [(3000, q2bW_27 r10)], [], 0⟩) rfl rfl ⟨.refl _, trivial⟩ ⟨⟨_, rfl, .refl _⟩, trivial⟩)) ?_
   have hret := oJ h
   subst hret
   refine AWp.le (Le.mk (s' := ⟨29, [(2, .own 3000)], [(3000, q2bW_27 r10)], [], 0⟩) rfl rfl ⟨.refl _, trivial⟩ ⟨⟨_, rfl, .refl _⟩, trivial⟩) ?_
   refine AWp.ret ?_
   exact bR _ rfl ⟨rfl, rfl⟩ rfl
def f78 (x1 : BitVec 16) : Option Int :=
 if (x1 == (BitVec.ofInt 16 0)) then (
 some (-1 : Int)
 ) else (
 (f79 x1).bind fun (r2 : Int) =>
 some r2
 )
theorem f78_ok  (x1 : TB) (r : Int) (h : f78 x1 = some r)  : Spec1 Tryz.prog 78 [(0, .elem 32 1 T0F 0 0)] [] [] [.b16 x1] (.int .i64 r) [] := by
 unfold f78 at h
 refine Spec1.body 0 _ _ Tryz.func78 rfl Tryz.ntmps78 rfl rfl ?_
 refine q2rq [] [] ⟨7, [(0, .b16 x1), (1000000, .elem 32 1 T0F 0 0)], [], [], 0⟩ trivial ?_
 refine AWp.seq ?_
 refine q2rq [] [] ⟨7, [(0, .b16 x1), (4, .bool (x1 == (q2w16 0))), (1000000, .elem 32 1 T0F 0 0)], [], [], 0⟩ trivial ?_
 refine AWp.cond (b := (x1 == (q2w16 0))) (by kernel_rfl) (fun hc1 => ?_) (fun hc1 => ?_)
 ·
  replace h := ite_tb hc1 h
  refine q2rq [] [] ⟨7, [(2, .i (-1 : Int)), (1000000, .elem 32 1 T0F 0 0)], [], [], 0⟩ trivial ?_
  have hret := oJ h
  subst hret
  refine AWp.le (Le.mk (s' := ⟨7, [(2, .i (-1 : Int))], [], [], 0⟩) rfl rfl ⟨.refl _, trivial⟩ trivial) ?_
  refine AWp.ret ?_
  refine tR ?_
  exact bR _ rfl ⟨rfl, rfl⟩ rfl
 ·
  replace h := ite_fb hc1 h
  refine AWp.skip ?_
  refine tN ?_
  refine AWp.seq ?_
  obtain ⟨r2, hr2, h⟩ := bind_ok h
  refine q2rr [] [(1, ⟨[.b16 x1], [], [], [], .i r2, [], [], [0]⟩)] ⟨7, [(2, .i r2), (1000000, .elem 32 1 T0F 0 0)], [], [], 0⟩ (an1 (cpT (f79_ok _ _ hr2))) ?_
  refine tN ?_
  have hret := oJ h
  subst hret
  refine AWp.le (Le.mk (s' := ⟨7, [(2, .i r2)], [], [], 0⟩) rfl rfl ⟨.refl _, trivial⟩ trivial) ?_
  refine AWp.ret ?_
  exact bR _ rfl ⟨rfl, rfl⟩ rfl
def f57 (x1 : Int) (x2 : BitVec 16) (x3 : BitVec 16) (x4 : BitVec 16) (x5 : Int) (x6 : Int) (x7 : BitVec 16) (x8 : BitVec 16) (x9 : BitVec 16) (x10 : Int) : Option (Bool × Int × BitVec 16 × BitVec 16 × BitVec 16 × Int) :=
 jn (fun ((i11, i12, w13, w14, w15) : Tq5) =>
 some ((decide (x5 ≥ (0 : Int))), i12, w13, w14, w15, i11)
 ) fun (K1 : Tq5 → Option (Bool × Int × TB × TB × TB × Int)) =>
 if (decide (x5 < (0 : Int))) then (
 K1 ((0 : Int), x1, x2, x3, x4)
 ) else (
 K1 (x10, x6, x7, x8, x9)
 )
theorem f57_ok  (x1 : Int) (x2 : TB) (x3 : TB) (x4 : TB) (x5 : Int) (x6 : Int) (x7 : TB) (x8 : TB) (x9 : TB) (x10 : Int) (r : Bool × Int × TB × TB × TB × Int) (h : f57 x1 x2 x3 x4 x5 x6 x7 x8 x9 x10 = some r)  : Spec1 Tryz.prog 57 [] [2000, 2001] [(2000, .cells 62 [.int .i64 x6, .b16 x7, .b16 x8, .b16 x9]), (2001, .cells 37 [.int .i64 x10])] [.int .i64 x1, .b16 x2, .b16 x3, .b16 x4, .int .i64 x5, .ptr 2000 0, .ptr 2001 0] (.bool r.1) [(2000, .cells 62 [.int .i64 r.2.1, .b16 r.2.2.1, .b16 r.2.2.2.1, .b16 r.2.2.2.2.1]), (2001, .cells 37 [.int .i64 r.2.2.2.2.2])] := by
 unfold f57 at h
 refine Spec1.body 0 _ _ Tryz.func57 rfl Tryz.ntmps57 rfl rfl ?_
 refine q2rq [] [] ⟨22, [(0, .i x1), (1, .b16 x2), (2, .b16 x3), (3, .b16 x4), (4, .i x5), (5, .ptr 2000 0), (6, .ptr 2001 0)], [(2000, .cells 62 [.i x6, .b16 x7, .b16 x8, .b16 x9]), (2001, .cells 37 [.i x10])], [2000, 2001], 0⟩ trivial ?_
 obtain ⟨K1, hK1, h⟩ := jn_some h
 refine AWp.join (α := Int × Int × TB × TB × TB) (fun (x : Tq5) => match x with | (i11, i12, w13, w14, w15) => ⟨22, [(4, .i x5)], [(2000, .cells 62 [.i i12, .b16 w13, .b16 w14, .b16 w15]), (2001, .cells 37 [.i i11])], [2000, 2001], 0⟩) (fun x => K1 x = some r) ?_ ?_
 ·
  refine q2rq [] [] ⟨22, [(0, .i x1), (1, .b16 x2), (2, .b16 x3), (3, .b16 x4), (4, .i x5), (5, .ptr 2000 0), (6, .ptr 2001 0), (14, .bool (decide (x5 < (0 : Int))))], [(2000, .cells 62 [.i x6, .b16 x7, .b16 x8, .b16 x9]), (2001, .cells 37 [.i x10])], [2000, 2001], 0⟩ trivial ?_
  refine AWp.cond (b := (decide (x5 < (0 : Int)))) (by kernel_rfl) (fun hc1 => ?_) (fun hc1 => ?_)
  ·
   replace h := ite_tb hc1 h
   refine q2rr [] [] ⟨22, [(4, .i x5)], [(2000, .cells 62 [.i x1, .b16 x2, .b16 x3, .b16 x4]), (2001, .cells 37 [.i (0 : Int)])], [2000, 2001], 0⟩ (an2 trivial trivial) ?_
   exact jN ((0 : Int), x1, x2, x3, x4) (Le.mk rfl rfl ⟨.refl _, trivial⟩ ⟨⟨_, rfl, .refl _⟩, ⟨_, rfl, .refl _⟩, trivial⟩) h
  ·
   replace h := ite_fb hc1 h
   refine AWp.skip ?_
   exact jN (x10, x6, x7, x8, x9) (Le.mk rfl rfl ⟨.refl _, trivial⟩ ⟨⟨_, rfl, .refl _⟩, ⟨_, rfl, .refl _⟩, trivial⟩) h
 ·
  rintro ⟨i11, i12, w13, w14, w15⟩ h
  replace h := (congrFun hK1 _).symm.trans h
  refine q2rq [] [] ⟨22, [(12, .bool (decide (x5 ≥ (0 : Int))))], [(2000, .cells 62 [.i i12, .b16 w13, .b16 w14, .b16 w15]), (2001, .cells 37 [.i i11])], [2000, 2001], 0⟩ trivial ?_
  have hret := oJ h
  subst hret
  refine AWp.le (Le.mk (s' := ⟨22, [(12, .bool (decide (x5 ≥ (0 : Int))))], [(2000, .cells 62 [.i i12, .b16 w13, .b16 w14, .b16 w15]), (2001, .cells 37 [.i i11])], [2000, 2001], 0⟩) rfl rfl ⟨.refl _, trivial⟩ ⟨⟨_, rfl, .refl _⟩, ⟨_, rfl, .refl _⟩, trivial⟩) ?_
  refine AWp.ret ?_
  exact bR _ rfl ⟨rfl, rfl⟩ rfl
def f56_L2 (x4 : List (BitVec 16)) (x5 : List (BitVec 16)) (x7 : BitVec 16) (r13 : List (BitVec 16)) (n14 : Nat) (n21 : Nat) (K3 : Tq5 → Option Tq2) : Nat → (Nat × Int × Int × BitVec 16 × BitVec 16 × BitVec 16) → Option Tq2
 | 0, _ => none
 | k + 1, (n27, i28, i29, w30, w31, w32) =>
  if (decide ((n27 : Int) < (((r13).length : Nat) : Int))) then (
  chk ((n27 : Int) < (((r13).length : Nat) : Int)) <|
  chk (n27 < (r13).length) <|
  (f78 ((((x4.getD n14 0#16) &&& (x5.getD n21 0#16)) &&& ~~~(r13.getD n27 0#16)) &&& ~~~x7)).bind fun (r33 : Int) =>
  (f57 (1 : Int) (x4.getD n14 0#16) (x5.getD n21 0#16) (r13.getD n27 0#16) r33 i29 w30 w31 w32 i28).bind fun (r34 : Bool × Int × TB × TB × TB × Int) =>
  if (!r34.1) then (
  some (r34.2.1, r34.2.2.1, r34.2.2.2.1, r34.2.2.2.2.1, r34.2.2.2.2.2)
  ) else (
  chk (((n27 : Int) + (1 : Int)) ≤ 9223372036854775807) <|
  (f56_L2 x4 x5 x7 r13 n14 n21 K3 k) ((n27 + 1), r34.2.2.2.2.2, r34.2.1, r34.2.2.1, r34.2.2.2.1, r34.2.2.2.2.1)
  )
  ) else (
  K3 (i28, i29, w30, w31, w32)
  )
def f56_L1 (x4 : List (BitVec 16)) (x5 : List (BitVec 16)) (x7 : BitVec 16) (r13 : List (BitVec 16)) (n14 : Nat) (K2 : Tq5 → Option Tq2) : Nat → (Nat × Int × Int × BitVec 16 × BitVec 16 × BitVec 16) → Option Tq2
 | 0, _ => none
 | k + 1, (n21, i22, i23, w24, w25, w26) =>
  if (decide ((n21 : Int) < (((x5).length : Nat) : Int))) then (
  jn (fun ((i35, i36, w37, w38, w39) : Tq5) =>
  chk (((n21 : Int) + (1 : Int)) ≤ 9223372036854775807) <|
  (f56_L1 x4 x5 x7 r13 n14 K2 k) ((n21 + 1), i35, i36, w37, w38, w39)
  ) fun (K3 : Tq5 → Option Tq2) =>
  chk ((n21 : Int) < (((x5).length : Nat) : Int)) <|
  f56_L2 x4 x5 x7 r13 n14 n21 K3 FUEL (0, i22, i23, w24, w25, w26)
  ) else (
  K2 (i22, i23, w24, w25, w26)
  )
def f56_L0 (x4 : List (BitVec 16)) (x5 : List (BitVec 16)) (x7 : BitVec 16) (r13 : List (BitVec 16)) (K1 : Tq5 → Option Tq2) : Nat → (Nat × Int × Int × BitVec 16 × BitVec 16 × BitVec 16) → Option Tq2
 | 0, _ => none
 | k + 1, (n14, i15, i17, w18, w19, w20) =>
  if (decide ((n14 : Int) < (((x4).length : Nat) : Int))) then (
  jn (fun ((i40, i41, w42, w43, w44) : Tq5) =>
  chk (((n14 : Int) + (1 : Int)) ≤ 9223372036854775807) <|
  (f56_L0 x4 x5 x7 r13 K1 k) ((n14 + 1), i40, i41, w42, w43, w44)
  ) fun (K2 : Tq5 → Option Tq2) =>
  chk ((n14 : Int) < (((x4).length : Nat) : Int)) <|
  f56_L1 x4 x5 x7 r13 n14 K2 FUEL (0, i15, i17, w18, w19, w20)
  ) else (
  K1 (i15, i17, w18, w19, w20)
  )
def f56_L5 (x5 : List (BitVec 16)) (r13 : List (BitVec 16)) (n50 : Nat) (n56 : Nat) (K5 : Tq5 → Option Tq2) : Nat → (Nat × Int × Int × BitVec 16 × BitVec 16 × BitVec 16) → Option Tq2
 | 0, _ => none
 | k + 1, (n62, i63, i65, w66, w67, w68) =>
  if (decide ((n62 : Int) < (((r13).length : Nat) : Int))) then (
  jn (fun ((i71, i72, w73, w74, w75) : Tq5) =>
  chk (((n62 : Int) + (1 : Int)) ≤ 9223372036854775807) <|
  (f56_L5 x5 r13 n50 n56 K5 k) ((n62 + 1), i71, i72, w73, w74, w75)
  ) fun (K6 : Tq5 → Option Tq2) =>
  chk ((n62 : Int) < (((r13).length : Nat) : Int)) <|
  chk (n62 < (r13).length) <|
  if (!((r13.getD n62 0#16) == (BitVec.ofInt 16 0))) = true then (
  (f78 (((x5.getD n50 0#16) &&& (x5.getD n56 0#16)) &&& ~~~(r13.getD n62 0#16))).bind fun (r69 : Int) =>
  (f57 (2 : Int) (x5.getD n50 0#16) (x5.getD n56 0#16) (r13.getD n62 0#16) r69 i65 w66 w67 w68 i63).bind fun (r70 : Bool × Int × TB × TB × TB × Int) =>
  if (!r70.1) then (
  some (r70.2.1, r70.2.2.1, r70.2.2.2.1, r70.2.2.2.2.1, r70.2.2.2.2.2)
  ) else (
  K6 (r70.2.2.2.2.2, r70.2.1, r70.2.2.1, r70.2.2.2.1, r70.2.2.2.2.1)
  )
  ) else (
  K6 (i63, i65, w66, w67, w68)
  )
  ) else (
  K5 (i63, i65, w66, w67, w68)
  )
def f56_L4 (x5 : List (BitVec 16)) (r13 : List (BitVec 16)) (n50 : Nat) (K4 : Tq5 → Option Tq2) : Nat → (Nat × Int × Int × BitVec 16 × BitVec 16 × BitVec 16) → Option Tq2
 | 0, _ => none
 | k + 1, (n56, i57, i58, w59, w60, w61) =>
  if (decide ((n56 : Int) < (((x5).length : Nat) : Int))) then (
  jn (fun ((i76, i77, w78, w79, w80) : Tq5) =>
  chk (((n56 : Int) + (1 : Int)) ≤ 9223372036854775807) <|
  (f56_L4 x5 r13 n50 K4 k) ((n56 + 1), i76, i77, w78, w79, w80)
  ) fun (K5 : Tq5 → Option Tq2) =>
  chk ((n56 : Int) < (((x5).length : Nat) : Int)) <|
  f56_L5 x5 r13 n50 n56 K5 FUEL (0, i57, i58, w59, w60, w61)
  ) else (
  K4 (i57, i58, w59, w60, w61)
  )
def f56_L3 (x5 : List (BitVec 16)) (r13 : List (BitVec 16)) : Nat → (Nat × Int × Int × BitVec 16 × BitVec 16 × BitVec 16) → Option Tq2
 | 0, _ => none
 | k + 1, (n50, i51, i52, w53, w54, w55) =>
  if (decide ((n50 : Int) < (((x5).length : Nat) : Int))) then (
  jn (fun ((i81, i82, w83, w84, w85) : Tq5) =>
  chk (((n50 : Int) + (1 : Int)) ≤ 9223372036854775807) <|
  (f56_L3 x5 r13 k) ((n50 + 1), i81, i82, w83, w84, w85)
  ) fun (K4 : Tq5 → Option Tq2) =>
  chk ((n50 : Int) < (((x5).length : Nat) : Int)) <|
  f56_L4 x5 r13 n50 K4 FUEL (0, i51, i52, w53, w54, w55)
  ) else (
  some (i52, w53, w54, w55, i51)
  )
abbrev f56z0 (x1 : List UInt8) (x2 : Int) (x3 : TB) (x4 : List (TB)) (x5 : List (TB)) (x6 : List Tq0) : List V := [.str x1, .int .i64 x2, .b16 x3, vL 1 eW 0#16 x4, vL 1 eW 0#16 x5, vL 2 eWW (default : Tq0) x6]
abbrev f56z1 : List V := [.ptr 2000 0, .ptr 2001 0]
abbrev f56z2 (x1 : List UInt8) (x2 : Int) (x3 : TB) (x4 : List (TB)) (x5 : List (TB)) (x6 : List Tq0) (i17 : Int) (w18 : TB) (w19 : TB) (w20 : TB) (i15 : Int) (r13 : List (TB)) : Heap := [(3, .cells 33 (f56z0 x1 x2 x3 x4 x5 x6)), (2000, .cells 62 [.int .i64 i17, .b16 w18, .b16 w19, .b16 w20]), (2001, .cells 37 [.int .i64 i15]), (6001, bL 27 1 eW 0#16 r13)]
abbrev f56z3 (x1 : List UInt8) (x2 : Int) (x3 : TB) (x4 : List (TB)) (x5 : List (TB)) (x6 : List Tq0) (i23 : Int) (w24 : TB) (w25 : TB) (w26 : TB) (i22 : Int) (r13 : List (TB)) : Heap := [(3, .cells 33 (f56z0 x1 x2 x3 x4 x5 x6)), (2000, .cells 62 [.int .i64 i23, .b16 w24, .b16 w25, .b16 w26]), (2001, .cells 37 [.int .i64 i22]), (6001, bL 27 1 eW 0#16 r13)]
abbrev f56z4 (x1 : List UInt8) (x2 : Int) (x3 : TB) (x4 : List (TB)) (x5 : List (TB)) (x6 : List Tq0) (i58 : Int) (w59 : TB) (w60 : TB) (w61 : TB) (i57 : Int) (r13 : List (TB)) : Heap := [(3, .cells 33 (f56z0 x1 x2 x3 x4 x5 x6)), (2000, .cells 62 [.int .i64 i58, .b16 w59, .b16 w60, .b16 w61]), (2001, .cells 37 [.int .i64 i57]), (6001, bL 27 1 eW 0#16 r13)]
abbrev f56z5 (x1 : List UInt8) (x2 : Int) (x3 : TB) (x4 : List (TB)) (x5 : List (TB)) (x6 : List Tq0) (i65 : Int) (w66 : TB) (w67 : TB) (w68 : TB) (i63 : Int) (r13 : List (TB)) : Heap := [(3, .cells 33 (f56z0 x1 x2 x3 x4 x5 x6)), (2000, .cells 62 [.int .i64 i65, .b16 w66, .b16 w67, .b16 w68]), (2001, .cells 37 [.int .i64 i63]), (6001, bL 27 1 eW 0#16 r13)]
abbrev f56z6 := (Nat × Int × Int × TB × TB × TB)
abbrev f56z7 (x1 : List UInt8) (x2 : Int) (x3 : TB) (x4 : List (TB)) (x5 : List (TB)) (x6 : List Tq0) (i52 : Int) (w53 : TB) (w54 : TB) (w55 : TB) (i51 : Int) (r13 : List (TB)) : Heap := [(3, .cells 33 (f56z0 x1 x2 x3 x4 x5 x6)), (2000, .cells 62 [.int .i64 i52, .b16 w53, .b16 w54, .b16 w55]), (2001, .cells 37 [.int .i64 i51]), (6001, bL 27 1 eW 0#16 r13)]
abbrev f56z8 (r34 : Bool × Int × TB × TB × TB × Int) : List V := [.int .i64 r34.2.1, .b16 r34.2.2.1, .b16 r34.2.2.2.1, .b16 r34.2.2.2.2.1]
abbrev f56z9 (r70 : Bool × Int × TB × TB × TB × Int) : List V := [.int .i64 r70.2.1, .b16 r70.2.2.1, .b16 r70.2.2.2.1, .b16 r70.2.2.2.2.1]
abbrev f56z10 (x1 : List UInt8) (x2 : Int) (x3 : TB) (x4 : List (TB)) (x5 : List (TB)) (x6 : List Tq0) (x8 : Int) (x9 : TB) (x10 : TB) (x11 : TB) (x12 : Int) (r13 : List (TB)) : Heap := [(3, .cells 33 (f56z0 x1 x2 x3 x4 x5 x6)), (2000, .cells 62 [.int .i64 x8, .b16 x9, .b16 x10, .b16 x11]), (2001, .cells 37 [.int .i64 x12]), (6001, bL 27 1 eW 0#16 r13)]
abbrev f56z11 (x1 : List UInt8) (x2 : Int) (x3 : TB) (x4 : List (TB)) (x5 : List (TB)) (x6 : List Tq0) (i29 : Int) (w30 : TB) (w31 : TB) (w32 : TB) (i28 : Int) (r13 : List (TB)) : Heap := [(3, .cells 33 (f56z0 x1 x2 x3 x4 x5 x6)), (2000, .cells 62 [.int .i64 i29, .b16 w30, .b16 w31, .b16 w32]), (2001, .cells 37 [.int .i64 i28]), (6001, bL 27 1 eW 0#16 r13)]
def f56 (x1 : List UInt8) (x2 : Int) (x3 : BitVec 16) (x4 : List (BitVec 16)) (x5 : List (BitVec 16)) (x6 : List Tq0) (x7 : BitVec 16) (x8 : Int) (x9 : BitVec 16) (x10 : BitVec 16) (x11 : BitVec 16) (x12 : Int) : Option Tq2 :=
 (f77 x1 x2 x3 x4 x5 x6).bind fun (r13 : List (TB)) =>
 jn (fun ((i45, i46, w47, w48, w49) : Tq5) =>
 f56_L3 x5 r13 FUEL (0, i45, i46, w47, w48, w49)
 ) fun (K1 : Tq5 → Option Tq2) =>
 f56_L0 x4 x5 x7 r13 K1 FUEL (0, x12, x8, x9, x10, x11)
theorem f56_ok  (x1 : List UInt8) (x2 : Int) (x3 : TB) (x4 : List (TB)) (x5 : List (TB)) (x6 : List Tq0) (x7 : TB) (x8 : Int) (x9 : TB) (x10 : TB) (x11 : TB) (x12 : Int) (r : Tq2) (h : f56 x1 x2 x3 x4 x5 x6 x7 x8 x9 x10 x11 x12 = some r)  : Spec1 Tryz.prog 56 [(0, .elem 32 1 T0F 0 0)] [2000, 2001] [(2000, .cells 62 [.int .i64 x8, .b16 x9, .b16 x10, .b16 x11]), (2001, .cells 37 [.int .i64 x12])] [.agg [.str x1, .int .i64 x2, .b16 x3, vL 1 eW 0#16 x4, vL 1 eW 0#16 x5, vL 2 eWW (default : Tq0) x6], .b16 x7, .fn (.func 57) [.ptr 2000 0, .ptr 2001 0]] (.tup []) [(2000, .cells 62 [.int .i64 r.1, .b16 r.2.1, .b16 r.2.2.1, .b16 r.2.2.2.1]), (2001, .cells 37 [.int .i64 r.2.2.2.2])] := by
 unfold f56 at h
 refine Spec1.body 0 _ _ Tryz.func56 rfl Tryz.ntmps56 rfl rfl ?_
 refine q2rq [] [] ⟨100, [(1, .b16 x7), (2, .fn (.func 57) (f56z1)), (3, .ptr 3 0), (1000000, .elem 32 1 T0F 0 0)], [(3, .cells 33 (f56z0 x1 x2 x3 x4 x5 x6)), (2000, .cells 62 [.i x8, .b16 x9, .b16 x10, .b16 x11]), (2001, .cells 37 [.i x12])], [2000, 2001], 0⟩ trivial ?_
 refine AWp.seq ?_
 obtain ⟨r13, hr13, h⟩ := bind_ok h
 refine q2rr [] [(1, ⟨[.agg (f56z0 x1 x2 x3 x4 x5 x6)], [], [], [(6001, q2bW_27 r13)], .own 6001, [6001], [], []⟩)] ⟨100, [(1, .b16 x7), (2, .fn (.func 57) (f56z1)), (3, .ptr 3 0), (6, .own 6001), (1000000, .elem 32 1 T0F 0 0)], (f56z10 x1 x2 x3 x4 x5 x6 x8 x9 x10 x11 x12 r13), [2000, 2001], 0⟩ (an1 (cpT (Spec1.ren (swapN 3000 6001) (swapN_inv 3000 6001) rfl (f77_ok _ _ _ _ _ _ _ hr13)))) ?_
 refine tN ?_
 refine q2rq [] [] ⟨100, [(1, .b16 x7), (2, .fn (.func 57) (f56z1)), (3, .ptr 3 0), (6, .own 6001), (7, .fn (.func 78) []), (1000000, .elem 32 1 T0F 0 0)], (f56z10 x1 x2 x3 x4 x5 x6 x8 x9 x10 x11 x12 r13), [2000, 2001], 0⟩ trivial ?_
 obtain ⟨K1, hK1, h⟩ := jn_some h
 refine AWp.join (α := Int × Int × TB × TB × TB) (fun (x : Tq5) => match x with | (i45, i46, w47, w48, w49) => ⟨100, [(2, .fn (.func 57) (f56z1)), (3, .ptr 3 0), (6, .own 6001), (7, .fn (.func 78) []), (1000000, .elem 32 1 T0F 0 0)], [(3, .cells 33 (f56z0 x1 x2 x3 x4 x5 x6)), (2000, .cells 62 [.i i46, .b16 w47, .b16 w48, .b16 w49]), (2001, .cells 37 [.i i45]), (6001, q2bW_27 r13)], [2000, 2001], 0⟩) (fun x => K1 x = some r) ?_ ?_
 ·
  refine q2rq [] [] ⟨100, [(1, .b16 x7), (2, .fn (.func 57) (f56z1)), (3, .ptr 3 0), (6, .own 6001), (7, .fn (.func 78) []), (23, q2aW x4), (24, .i (lZ x4)), (25, .i (0 : Int)), (1000000, .elem 32 1 T0F 0 0)], (f56z10 x1 x2 x3 x4 x5 x6 x8 x9 x10 x11 x12 r13), [2000, 2001], 0⟩ trivial ?_
  refine AWp.block ?_
  refine AWp.loopL (α := Nat × (f56z6)) (fun x => match x with | (_, n14, i15, i17, w18, w19, w20) => ⟨100, [(1, .b16 x7), (2, .fn (.func 57) (f56z1)), (3, .ptr 3 0), (6, .own 6001), (7, .fn (.func 78) []), (23, q2aW x4), (24, .i (lZ x4)), (25, .i (n14 : Int)), (1000000, .elem 32 1 T0F 0 0)], (f56z2 x1 x2 x3 x4 x5 x6 i17 w18 w19 w20 i15 r13), [2000, 2001], 0⟩) (fun x => f56_L0 x4 x5 x7 r13 K1 x.1 x.2 = some r) (fun x => x.1) (FUEL, 0, x12, x8, x9, x10, x11) (Le.mk (s' := ⟨100, [(1, .b16 x7), (2, .fn (.func 57) (f56z1)), (3, .ptr 3 0), (6, .own 6001), (7, .fn (.func 78) []), (23, q2aW x4), (24, .i (lZ x4)), (25, .i (0 : Int)), (1000000, .elem 32 1 T0F 0 0)], (f56z10 x1 x2 x3 x4 x5 x6 x8 x9 x10 x11 x12 r13), [2000, 2001], 0⟩) rfl rfl ⟨.refl _, .refl _, .refl _, .refl _, .refl _, .refl _, .refl _, .refl _, .refl _, trivial⟩ ⟨⟨_, rfl, .refl _⟩, ⟨_, rfl, .refl _⟩, ⟨_, rfl, .refl _⟩, ⟨_, rfl, .refl _⟩, trivial⟩) h ?_
  rintro ⟨k0, n14, i15, i17, w18, w19, w20⟩ h
  cases k0 with
  | zero => exact nomatch (show (none : Option Tq2) = some r from h)
  | succ k0 =>
  obtain ⟨C0, hC0⟩ : ∃ C, C = f56_L0 x4 x5 x7 r13 K1 k0 := ⟨_, rfl⟩
  replace h := (f56_L0.eq_2 ..).symm.trans h
  try rw [← hC0] at h
  refine q2rq [] [] ⟨100, [(1, .b16 x7), (2, .fn (.func 57) (f56z1)), (3, .ptr 3 0), (6, .own 6001), (7, .fn (.func 78) []), (23, q2aW x4), (24, .i (lZ x4)), (25, .i (n14 : Int)), (26, .bool (decide ((n14 : Int) < (lZ x4)))), (1000000, .elem 32 1 T0F 0 0)], (f56z2 x1 x2 x3 x4 x5 x6 i17 w18 w19 w20 i15 r13), [2000, 2001], 0⟩ trivial ?_
  refine AWp.seq ?_
  refine AWp.cond (b := (decide ((n14 : Int) < (lZ x4)))) (by kernel_rfl) (fun hc1 => ?_) (fun hc1 => ?_)
  ·
   replace h := ite_tb hc1 h
   refine AWp.skip ?_
   refine tN ?_
   obtain ⟨K2, hK2, h⟩ := jn_some h
   refine AWp.join (α := Int × Int × TB × TB × TB) (fun (x : Tq5) => match x with | (i40, i41, w42, w43, w44) => ⟨100, [(1, .b16 x7), (2, .fn (.func 57) (f56z1)), (3, .ptr 3 0), (6, .own 6001), (7, .fn (.func 78) []), (23, q2aW x4), (24, .i (lZ x4)), (25, .i (n14 : Int)), (1000000, .elem 32 1 T0F 0 0)], [(3, .cells 33 (f56z0 x1 x2 x3 x4 x5 x6)), (2000, .cells 62 [.i i41, .b16 w42, .b16 w43, .b16 w44]), (2001, .cells 37 [.i i40]), (6001, q2bW_27 r13)], [2000, 2001], 0⟩) (fun x => K2 x = some r) ?_ ?_
   ·
    refine AWp.block ?_
    refine AWp.seq ?_
    obtain ⟨ob0p, h⟩ := chk_some h
    have ob0 : 0 ≤ (n14 : Int) ∧ (n14 : Int) < (((x4).length : Nat) : Int) := ⟨by omega, ob0p⟩
    refine q2rr [] [] ⟨100, [(1, .b16 x7), (2, .fn (.func 57) (f56z1)), (3, .ptr 3 0), (6, .own 6001), (7, .fn (.func 78) []), (9, .b16 (x4.getD n14 0#16)), (23, q2aW x4), (24, .i (lZ x4)), (25, .i (n14 : Int)), (1000000, .elem 32 1 T0F 0 0)], (f56z2 x1 x2 x3 x4 x5 x6 i17 w18 w19 w20 i15 r13), [2000, 2001], 0⟩ (an1 ob0) ?_
    refine tN ?_
    refine q2rq [] [] ⟨100, [(1, .b16 x7), (2, .fn (.func 57) (f56z1)), (3, .ptr 3 0), (6, .own 6001), (7, .fn (.func 78) []), (9, .b16 (x4.getD n14 0#16)), (23, q2aW x4), (24, .i (lZ x4)), (25, .i (n14 : Int)), (30, q2aW x5), (31, .i (lZ x5)), (32, .i (0 : Int)), (1000000, .elem 32 1 T0F 0 0)], (f56z2 x1 x2 x3 x4 x5 x6 i17 w18 w19 w20 i15 r13), [2000, 2001], 0⟩ trivial ?_
    refine AWp.block ?_
    refine AWp.loopL (α := Nat × (f56z6)) (fun x => match x with | (_, n21, i22, i23, w24, w25, w26) => ⟨100, [(1, .b16 x7), (2, .fn (.func 57) (f56z1)), (3, .ptr 3 0), (6, .own 6001), (7, .fn (.func 78) []), (9, .b16 (x4.getD n14 0#16)), (23, q2aW x4), (24, .i (lZ x4)), (25, .i (n14 : Int)), (30, q2aW x5), (31, .i (lZ x5)), (32, .i (n21 : Int)), (1000000, .elem 32 1 T0F 0 0)], (f56z3 x1 x2 x3 x4 x5 x6 i23 w24 w25 w26 i22 r13), [2000, 2001], 0⟩) (fun x => f56_L1 x4 x5 x7 r13 n14 K2 x.1 x.2 = some r) (fun x => x.1) (FUEL, 0, i15, i17, w18, w19, w20) (Le.mk (s' := ⟨100, [(1, .b16 x7), (2, .fn (.func 57) (f56z1)), (3, .ptr 3 0), (6, .own 6001), (7, .fn (.func 78) []), (9, .b16 (x4.getD n14 0#16)), (23, q2aW x4), (24, .i (lZ x4)), (25, .i (n14 : Int)), (30, q2aW x5), (31, .i (lZ x5)), (32, .i (0 : Int)), (1000000, .elem 32 1 T0F 0 0)], (f56z2 x1 x2 x3 x4 x5 x6 i17 w18 w19 w20 i15 r13), [2000, 2001], 0⟩) rfl rfl ⟨.refl _, .refl _, .refl _, .refl _, .refl _, .refl _, .refl _, .refl _, .refl _, .refl _, .refl _, .refl _, .refl _, trivial⟩ ⟨⟨_, rfl, .refl _⟩, ⟨_, rfl, .refl _⟩, ⟨_, rfl, .refl _⟩, ⟨_, rfl, .refl _⟩, trivial⟩) h ?_
    rintro ⟨k1, n21, i22, i23, w24, w25, w26⟩ h
    cases k1 with
    | zero => exact nomatch (show (none : Option Tq2) = some r from h)
    | succ k1 =>
    obtain ⟨C1, hC1⟩ : ∃ C, C = f56_L1 x4 x5 x7 r13 n14 K2 k1 := ⟨_, rfl⟩
    replace h := (f56_L1.eq_2 ..).symm.trans h
    try rw [← hC1] at h
    refine q2rq [] [] ⟨100, [(1, .b16 x7), (2, .fn (.func 57) (f56z1)), (3, .ptr 3 0), (6, .own 6001), (7, .fn (.func 78) []), (9, .b16 (x4.getD n14 0#16)), (23, q2aW x4), (24, .i (lZ x4)), (25, .i (n14 : Int)), (30, q2aW x5), (31, .i (lZ x5)), (32, .i (n21 : Int)), (33, .bool (decide ((n21 : Int) < (lZ x5)))), (1000000, .elem 32 1 T0F 0 0)], (f56z3 x1 x2 x3 x4 x5 x6 i23 w24 w25 w26 i22 r13), [2000, 2001], 0⟩ trivial ?_
    refine AWp.seq ?_
    refine AWp.cond (b := (decide ((n21 : Int) < (lZ x5)))) (by kernel_rfl) (fun hc2 => ?_) (fun hc2 => ?_)
    ·
     replace h := ite_tb hc2 h
     refine AWp.skip ?_
     refine tN ?_
     obtain ⟨K3, hK3, h⟩ := jn_some h
     refine AWp.join (α := Int × Int × TB × TB × TB) (fun (x : Tq5) => match x with | (i35, i36, w37, w38, w39) => ⟨100, [(1, .b16 x7), (2, .fn (.func 57) (f56z1)), (3, .ptr 3 0), (6, .own 6001), (7, .fn (.func 78) []), (9, .b16 (x4.getD n14 0#16)), (23, q2aW x4), (24, .i (lZ x4)), (25, .i (n14 : Int)), (30, q2aW x5), (31, .i (lZ x5)), (32, .i (n21 : Int)), (1000000, .elem 32 1 T0F 0 0)], [(3, .cells 33 (f56z0 x1 x2 x3 x4 x5 x6)), (2000, .cells 62 [.i i36, .b16 w37, .b16 w38, .b16 w39]), (2001, .cells 37 [.i i35]), (6001, q2bW_27 r13)], [2000, 2001], 0⟩) (fun x => K3 x = some r) ?_ ?_
     ·
      refine AWp.block ?_
      refine AWp.seq ?_
      obtain ⟨ob1p, h⟩ := chk_some h
      have ob1 : 0 ≤ (n21 : Int) ∧ (n21 : Int) < (((x5).length : Nat) : Int) := ⟨by omega, ob1p⟩
      refine q2rr [] [] ⟨100, [(1, .b16 x7), (2, .fn (.func 57) (f56z1)), (3, .ptr 3 0), (6, .own 6001), (7, .fn (.func 78) []), (9, .b16 (x4.getD n14 0#16)), (11, .b16 (x5.getD n21 0#16)), (23, q2aW x4), (24, .i (lZ x4)), (25, .i (n14 : Int)), (30, q2aW x5), (31, .i (lZ x5)), (32, .i (n21 : Int)), (1000000, .elem 32 1 T0F 0 0)], (f56z3 x1 x2 x3 x4 x5 x6 i23 w24 w25 w26 i22 r13), [2000, 2001], 0⟩ (an1 ob1) ?_
      refine tN ?_
      refine q2rq [] [] ⟨100, [(1, .b16 x7), (2, .fn (.func 57) (f56z1)), (3, .ptr 3 0), (6, .own 6001), (7, .fn (.func 78) []), (9, .b16 (x4.getD n14 0#16)), (11, .b16 (x5.getD n21 0#16)), (23, q2aW x4), (24, .i (lZ x4)), (25, .i (n14 : Int)), (30, q2aW x5), (31, .i (lZ x5)), (32, .i (n21 : Int)), (36, .own 6001), (37, .i (lZ r13)), (38, .i (0 : Int)), (1000000, .elem 32 1 T0F 0 0)], (f56z3 x1 x2 x3 x4 x5 x6 i23 w24 w25 w26 i22 r13), [2000, 2001], 0⟩ trivial ?_
      refine AWp.block ?_
      refine AWp.loopL (α := Nat × (f56z6)) (fun x => match x with | (_, n27, i28, i29, w30, w31, w32) => ⟨100, [(1, .b16 x7), (2, .fn (.func 57) (f56z1)), (3, .ptr 3 0), (6, .own 6001), (7, .fn (.func 78) []), (9, .b16 (x4.getD n14 0#16)), (11, .b16 (x5.getD n21 0#16)), (23, q2aW x4), (24, .i (lZ x4)), (25, .i (n14 : Int)), (30, q2aW x5), (31, .i (lZ x5)), (32, .i (n21 : Int)), (36, .own 6001), (37, .i (lZ r13)), (38, .i (n27 : Int)), (1000000, .elem 32 1 T0F 0 0)], (f56z11 x1 x2 x3 x4 x5 x6 i29 w30 w31 w32 i28 r13), [2000, 2001], 0⟩) (fun x => f56_L2 x4 x5 x7 r13 n14 n21 K3 x.1 x.2 = some r) (fun x => x.1) (FUEL, 0, i22, i23, w24, w25, w26) (Le.mk (s' := ⟨100, [(1, .b16 x7), (2, .fn (.func 57) (f56z1)), (3, .ptr 3 0), (6, .own 6001), (7, .fn (.func 78) []), (9, .b16 (x4.getD n14 0#16)), (11, .b16 (x5.getD n21 0#16)), (23, q2aW x4), (24, .i (lZ x4)), (25, .i (n14 : Int)), (30, q2aW x5), (31, .i (lZ x5)), (32, .i (n21 : Int)), (36, .own 6001), (37, .i (lZ r13)), (38, .i (0 : Int)), (1000000, .elem 32 1 T0F 0 0)], (f56z3 x1 x2 x3 x4 x5 x6 i23 w24 w25 w26 i22 r13), [2000, 2001], 0⟩) rfl rfl ⟨.refl _, .refl _, .refl _, .refl _, .refl _, .refl _, .refl _, .refl _, .refl _, .refl _, .refl _, .refl _, .refl _, .refl _, .refl _, .refl _, .refl _, trivial⟩ ⟨⟨_, rfl, .refl _⟩, ⟨_, rfl, .refl _⟩, ⟨_, rfl, .refl _⟩, ⟨_, rfl, .refl _⟩, trivial⟩) h ?_
      rintro ⟨k2, n27, i28, i29, w30, w31, w32⟩ h
      cases k2 with
      | zero => exact nomatch (show (none : Option Tq2) = some r from h)
      | succ k2 =>
      obtain ⟨C2, hC2⟩ : ∃ C, C = f56_L2 x4 x5 x7 r13 n14 n21 K3 k2 := ⟨_, rfl⟩
      replace h := (f56_L2.eq_2 ..).symm.trans h
      try rw [← hC2] at h
      refine q2rq [] [] ⟨100, [(1, .b16 x7), (2, .fn (.func 57) (f56z1)), (3, .ptr 3 0), (6, .own 6001), (7, .fn (.func 78) []), (9, .b16 (x4.getD n14 0#16)), (11, .b16 (x5.getD n21 0#16)), (23, q2aW x4), (24, .i (lZ x4)), (25, .i (n14 : Int)), (30, q2aW x5), (31, .i (lZ x5)), (32, .i (n21 : Int)), (36, .own 6001), (37, .i (lZ r13)), (38, .i (n27 : Int)), (39, .bool (decide ((n27 : Int) < (lZ r13)))), (1000000, .elem 32 1 T0F 0 0)], (f56z11 x1 x2 x3 x4 x5 x6 i29 w30 w31 w32 i28 r13), [2000, 2001], 0⟩ trivial ?_
      refine AWp.seq ?_
      refine AWp.cond (b := (decide ((n27 : Int) < (lZ r13)))) (by kernel_rfl) (fun hc3 => ?_) (fun hc3 => ?_)
      ·
       replace h := ite_tb hc3 h
       refine AWp.skip ?_
       refine tN ?_
       refine AWp.seq ?_
       refine AWp.block ?_
       refine AWp.seq ?_
       obtain ⟨ob2p, h⟩ := chk_some h
       have ob2 : 0 ≤ (n27 : Int) ∧ (n27 : Int) < (((r13).length : Nat) : Int) := ⟨by omega, ob2p⟩
       obtain ⟨ob3, h⟩ := chk_some h
       refine q2rr [] [] ⟨100, [(1, .b16 x7), (2, .fn (.func 57) (f56z1)), (3, .ptr 3 0), (6, .own 6001), (7, .fn (.func 78) []), (9, .b16 (x4.getD n14 0#16)), (11, .b16 (x5.getD n21 0#16)), (13, .b16 (r13.getD n27 0#16)), (23, q2aW x4), (24, .i (lZ x4)), (25, .i (n14 : Int)), (30, q2aW x5), (31, .i (lZ x5)), (32, .i (n21 : Int)), (36, .own 6001), (37, .i (lZ r13)), (38, .i (n27 : Int)), (1000000, .elem 32 1 T0F 0 0)], (f56z11 x1 x2 x3 x4 x5 x6 i29 w30 w31 w32 i28 r13), [2000, 2001], 0⟩ (an2 ob2 ob3) ?_
       refine tN ?_
       refine AWp.seq ?_
       obtain ⟨r33, hr33, h⟩ := bind_ok h
       obtain ⟨r34, hr34, h⟩ := bind_ok h
       refine q2rr [] [(12, ⟨[.b16 ((((x4.getD n14 0#16) &&& (x5.getD n21 0#16)) &&& ~~~(r13.getD n27 0#16)) &&& ~~~x7)], [], [], [], .i r33, [], [], [0]⟩), (13, ⟨[.i (1 : Int), .b16 (x4.getD n14 0#16), .b16 (x5.getD n21 0#16), .b16 (r13.getD n27 0#16), .i r33, .ptr 2000 0, .ptr 2001 0], [2000, 2001], [2000, 2001], [(2000, .cells 62 (f56z8 r34)), (2001, .cells 37 [.i r34.2.2.2.2.2])], .bool r34.1, [], [], []⟩)] ⟨100, [(1, .b16 x7), (2, .fn (.func 57) (f56z1)), (3, .ptr 3 0), (6, .own 6001), (7, .fn (.func 78) []), (9, .b16 (x4.getD n14 0#16)), (11, .b16 (x5.getD n21 0#16)), (23, q2aW x4), (24, .i (lZ x4)), (25, .i (n14 : Int)), (30, q2aW x5), (31, .i (lZ x5)), (32, .i (n21 : Int)), (36, .own 6001), (37, .i (lZ r13)), (38, .i (n27 : Int)), (56, .bool (!r34.1)), (1000000, .elem 32 1 T0F 0 0)], [(3, .cells 33 (f56z0 x1 x2 x3 x4 x5 x6)), (2000, .cells 62 (f56z8 r34)), (2001, .cells 37 [.i r34.2.2.2.2.2]), (6001, q2bW_27 r13)], [2000, 2001], 0⟩ (an2 (cpT (f78_ok _ _ hr33)) (cpT (f57_ok _ _ _ _ _ _ _ _ _ _ _ hr34))) ?_
       refine tN ?_
       refine AWp.cond (b := (!r34.1)) (by kernel_rfl) (fun hc4 => ?_) (fun hc4 => ?_)
       ·
        replace h := ite_tb hc4 h
        have hret := oJ h
        subst hret
        refine AWp.le (Le.mk (s' := ⟨100, [], [(2000, .cells 62 (f56z8 r34)), (2001, .cells 37 [.i r34.2.2.2.2.2])], [2000, 2001], 0⟩) rfl rfl trivial ⟨⟨_, rfl, .refl _⟩, ⟨_, rfl, .refl _⟩, trivial⟩) ?_
        refine AWp.ret ?_
        refine kR ?_
        refine tR ?_
        refine tR ?_
        refine kR ?_
        refine kR ?_
        refine joinQ_ret ?_
        refine tR ?_
        refine kR ?_
        refine kR ?_
        refine joinQ_ret ?_
        refine tR ?_
        refine kR ?_
        refine joinQ_ret ?_
        exact bR _ rfl ⟨rfl, rfl⟩ rfl
       ·
        replace h := ite_fb hc4 h
        refine AWp.skip ?_
        refine kN ?_
        refine tN ?_
        obtain ⟨ob4p, h⟩ := chk_some h
        have ob4 : -9223372036854775808 ≤ ((n27 : Int) + (1 : Int)) ∧ ((n27 : Int) + (1 : Int)) ≤ 9223372036854775807 := ⟨by omega, ob4p⟩
        refine q2rr [] [] ⟨100, [(1, .b16 x7), (2, .fn (.func 57) (f56z1)), (3, .ptr 3 0), (6, .own 6001), (7, .fn (.func 78) []), (9, .b16 (x4.getD n14 0#16)), (11, .b16 (x5.getD n21 0#16)), (23, q2aW x4), (24, .i (lZ x4)), (25, .i (n14 : Int)), (30, q2aW x5), (31, .i (lZ x5)), (32, .i (n21 : Int)), (36, .own 6001), (37, .i (lZ r13)), (38, .i (((n27 + 1) : Nat) : Int)), (1000000, .elem 32 1 T0F 0 0)], [(3, .cells 33 (f56z0 x1 x2 x3 x4 x5 x6)), (2000, .cells 62 (f56z8 r34)), (2001, .cells 37 [.i r34.2.2.2.2.2]), (6001, q2bW_27 r13)], [2000, 2001], 0⟩ (an1 ob4) ?_
        rw [hC2] at h
        exact lN (_, (n27 + 1), r34.2.2.2.2.2, r34.2.1, r34.2.2.1, r34.2.2.2.1, r34.2.2.2.2.1) (Le.mk rfl rfl ⟨.refl _, .refl _, .refl _, .refl _, .refl _, .refl _, .refl _, .refl _, .refl _, .refl _, .refl _, .refl _, .refl _, .refl _, .refl _, .refl _, .refl _, trivial⟩ ⟨⟨_, rfl, .refl _⟩, ⟨_, rfl, .refl _⟩, ⟨_, rfl, .refl _⟩, ⟨_, rfl, .refl _⟩, trivial⟩) h (Nat.lt_succ_self _)
      ·
       replace h := ite_fb hc3 h
       refine AWp.exit ?_
       refine tE ?_
       refine tE ?_
       refine kS ?_
       refine kN ?_
       exact jN (i28, i29, w30, w31, w32) (Le.mk rfl rfl ⟨.refl _, .refl _, .refl _, .refl _, .refl _, .refl _, .refl _, .refl _, .refl _, .refl _, .refl _, .refl _, .refl _, trivial⟩ ⟨⟨_, rfl, .refl _⟩, ⟨_, rfl, .refl _⟩, ⟨_, rfl, .refl _⟩, ⟨_, rfl, .refl _⟩, trivial⟩) h
     ·
      rintro ⟨i35, i36, w37, w38, w39⟩ h
      replace h := (congrFun hK3 _).symm.trans h
      obtain ⟨ob5p, h⟩ := chk_some h
      have ob5 : -9223372036854775808 ≤ ((n21 : Int) + (1 : Int)) ∧ ((n21 : Int) + (1 : Int)) ≤ 9223372036854775807 := ⟨by omega, ob5p⟩
      refine q2rr [] [] ⟨100, [(1, .b16 x7), (2, .fn (.func 57) (f56z1)), (3, .ptr 3 0), (6, .own 6001), (7, .fn (.func 78) []), (9, .b16 (x4.getD n14 0#16)), (23, q2aW x4), (24, .i (lZ x4)), (25, .i (n14 : Int)), (30, q2aW x5), (31, .i (lZ x5)), (32, .i (((n21 + 1) : Nat) : Int)), (1000000, .elem 32 1 T0F 0 0)], [(3, .cells 33 (f56z0 x1 x2 x3 x4 x5 x6)), (2000, .cells 62 [.i i36, .b16 w37, .b16 w38, .b16 w39]), (2001, .cells 37 [.i i35]), (6001, q2bW_27 r13)], [2000, 2001], 0⟩ (an1 ob5) ?_
      rw [hC1] at h
      exact lN (_, (n21 + 1), i35, i36, w37, w38, w39) (Le.mk rfl rfl ⟨.refl _, .refl _, .refl _, .refl _, .refl _, .refl _, .refl _, .refl _, .refl _, .refl _, .refl _, .refl _, .refl _, trivial⟩ ⟨⟨_, rfl, .refl _⟩, ⟨_, rfl, .refl _⟩, ⟨_, rfl, .refl _⟩, ⟨_, rfl, .refl _⟩, trivial⟩) h (Nat.lt_succ_self _)
    ·
     replace h := ite_fb hc2 h
     refine AWp.exit ?_
     refine tE ?_
     refine tE ?_
     refine kS ?_
     refine kN ?_
     exact jN (i22, i23, w24, w25, w26) (Le.mk rfl rfl ⟨.refl _, .refl _, .refl _, .refl _, .refl _, .refl _, .refl _, .refl _, .refl _, trivial⟩ ⟨⟨_, rfl, .refl _⟩, ⟨_, rfl, .refl _⟩, ⟨_, rfl, .refl _⟩, ⟨_, rfl, .refl _⟩, trivial⟩) h
   ·
    rintro ⟨i40, i41, w42, w43, w44⟩ h
    replace h := (congrFun hK2 _).symm.trans h
    obtain ⟨ob6p, h⟩ := chk_some h
    have ob6 : -9223372036854775808 ≤ ((n14 : Int) + (1 : Int)) ∧ ((n14 : Int) + (1 : Int)) ≤ 9223372036854775807 := ⟨by omega, ob6p⟩
    refine q2rr [] [] ⟨100, [(1, .b16 x7), (2, .fn (.func 57) (f56z1)), (3, .ptr 3 0), (6, .own 6001), (7, .fn (.func 78) []), (23, q2aW x4), (24, .i (lZ x4)), (25, .i (((n14 + 1) : Nat) : Int)), (1000000, .elem 32 1 T0F 0 0)], [(3, .cells 33 (f56z0 x1 x2 x3 x4 x5 x6)), (2000, .cells 62 [.i i41, .b16 w42, .b16 w43, .b16 w44]), (2001, .cells 37 [.i i40]), (6001, q2bW_27 r13)], [2000, 2001], 0⟩ (an1 ob6) ?_
    rw [hC0] at h
    exact lN (_, (n14 + 1), i40, i41, w42, w43, w44) (Le.mk rfl rfl ⟨.refl _, .refl _, .refl _, .refl _, .refl _, .refl _, .refl _, .refl _, .refl _, trivial⟩ ⟨⟨_, rfl, .refl _⟩, ⟨_, rfl, .refl _⟩, ⟨_, rfl, .refl _⟩, ⟨_, rfl, .refl _⟩, trivial⟩) h (Nat.lt_succ_self _)
  ·
   replace h := ite_fb hc1 h
   refine AWp.exit ?_
   refine tE ?_
   refine tE ?_
   refine kS ?_
   exact jN (i15, i17, w18, w19, w20) (Le.mk rfl rfl ⟨.refl _, .refl _, .refl _, .refl _, .refl _, trivial⟩ ⟨⟨_, rfl, .refl _⟩, ⟨_, rfl, .refl _⟩, ⟨_, rfl, .refl _⟩, ⟨_, rfl, .refl _⟩, trivial⟩) h
 ·
  rintro ⟨i45, i46, w47, w48, w49⟩ h
  replace h := (congrFun hK1 _).symm.trans h
  refine q2rq [] [] ⟨100, [(2, .fn (.func 57) (f56z1)), (3, .ptr 3 0), (6, .own 6001), (7, .fn (.func 78) []), (61, q2aW x5), (62, .i (lZ x5)), (63, .i (0 : Int)), (1000000, .elem 32 1 T0F 0 0)], [(3, .cells 33 (f56z0 x1 x2 x3 x4 x5 x6)), (2000, .cells 62 [.i i46, .b16 w47, .b16 w48, .b16 w49]), (2001, .cells 37 [.i i45]), (6001, q2bW_27 r13)], [2000, 2001], 0⟩ trivial ?_
  refine AWp.block ?_
  refine AWp.loopL (α := Nat × (f56z6)) (fun x => match x with | (_, n50, i51, i52, w53, w54, w55) => ⟨100, [(2, .fn (.func 57) (f56z1)), (3, .ptr 3 0), (6, .own 6001), (7, .fn (.func 78) []), (61, q2aW x5), (62, .i (lZ x5)), (63, .i (n50 : Int)), (1000000, .elem 32 1 T0F 0 0)], (f56z7 x1 x2 x3 x4 x5 x6 i52 w53 w54 w55 i51 r13), [2000, 2001], 0⟩) (fun x => f56_L3 x5 r13 x.1 x.2 = some r) (fun x => x.1) (FUEL, 0, i45, i46, w47, w48, w49) (Le.mk (s' := ⟨100, [(2, .fn (.func 57) (f56z1)), (3, .ptr 3 0), (6, .own 6001), (7, .fn (.func 78) []), (61, q2aW x5), (62, .i (lZ x5)), (63, .i (0 : Int)), (1000000, .elem 32 1 T0F 0 0)], [(3, .cells 33 (f56z0 x1 x2 x3 x4 x5 x6)), (2000, .cells 62 [.i i46, .b16 w47, .b16 w48, .b16 w49]), (2001, .cells 37 [.i i45]), (6001, q2bW_27 r13)], [2000, 2001], 0⟩) rfl rfl ⟨.refl _, .refl _, .refl _, .refl _, .refl _, .refl _, .refl _, .refl _, trivial⟩ ⟨⟨_, rfl, .refl _⟩, ⟨_, rfl, .refl _⟩, ⟨_, rfl, .refl _⟩, ⟨_, rfl, .refl _⟩, trivial⟩) h ?_
  rintro ⟨k3, n50, i51, i52, w53, w54, w55⟩ h
  cases k3 with
  | zero => exact nomatch (show (none : Option Tq2) = some r from h)
  | succ k3 =>
  obtain ⟨C3, hC3⟩ : ∃ C, C = f56_L3 x5 r13 k3 := ⟨_, rfl⟩
  replace h := (f56_L3.eq_2 ..).symm.trans h
  try rw [← hC3] at h
  refine q2rq [] [] ⟨100, [(2, .fn (.func 57) (f56z1)), (3, .ptr 3 0), (6, .own 6001), (7, .fn (.func 78) []), (61, q2aW x5), (62, .i (lZ x5)), (63, .i (n50 : Int)), (64, .bool (decide ((n50 : Int) < (lZ x5)))), (1000000, .elem 32 1 T0F 0 0)], (f56z7 x1 x2 x3 x4 x5 x6 i52 w53 w54 w55 i51 r13), [2000, 2001], 0⟩ trivial ?_
  refine AWp.seq ?_
  refine AWp.cond (b := (decide ((n50 : Int) < (lZ x5)))) (by kernel_rfl) (fun hc5 => ?_) (fun hc5 => ?_)
  ·
   replace h := ite_tb hc5 h
   refine AWp.skip ?_
   refine tN ?_
   obtain ⟨K4, hK4, h⟩ := jn_some h
   refine AWp.join (α := Int × Int × TB × TB × TB) (fun (x : Tq5) => match x with | (i81, i82, w83, w84, w85) => ⟨100, [(2, .fn (.func 57) (f56z1)), (3, .ptr 3 0), (6, .own 6001), (7, .fn (.func 78) []), (61, q2aW x5), (62, .i (lZ x5)), (63, .i (n50 : Int)), (1000000, .elem 32 1 T0F 0 0)], [(3, .cells 33 (f56z0 x1 x2 x3 x4 x5 x6)), (2000, .cells 62 [.i i82, .b16 w83, .b16 w84, .b16 w85]), (2001, .cells 37 [.i i81]), (6001, q2bW_27 r13)], [2000, 2001], 0⟩) (fun x => K4 x = some r) ?_ ?_
   ·
    refine AWp.block ?_
    refine AWp.seq ?_
    obtain ⟨ob7p, h⟩ := chk_some h
    have ob7 : 0 ≤ (n50 : Int) ∧ (n50 : Int) < (((x5).length : Nat) : Int) := ⟨by omega, ob7p⟩
    refine q2rr [] [] ⟨100, [(2, .fn (.func 57) (f56z1)), (3, .ptr 3 0), (6, .own 6001), (7, .fn (.func 78) []), (15, .b16 (x5.getD n50 0#16)), (61, q2aW x5), (62, .i (lZ x5)), (63, .i (n50 : Int)), (1000000, .elem 32 1 T0F 0 0)], (f56z7 x1 x2 x3 x4 x5 x6 i52 w53 w54 w55 i51 r13), [2000, 2001], 0⟩ (an1 ob7) ?_
    refine tN ?_
    refine q2rq [] [] ⟨100, [(2, .fn (.func 57) (f56z1)), (3, .ptr 3 0), (6, .own 6001), (7, .fn (.func 78) []), (15, .b16 (x5.getD n50 0#16)), (61, q2aW x5), (62, .i (lZ x5)), (63, .i (n50 : Int)), (68, q2aW x5), (69, .i (lZ x5)), (70, .i (0 : Int)), (1000000, .elem 32 1 T0F 0 0)], (f56z7 x1 x2 x3 x4 x5 x6 i52 w53 w54 w55 i51 r13), [2000, 2001], 0⟩ trivial ?_
    refine AWp.block ?_
    refine AWp.loopL (α := Nat × (f56z6)) (fun x => match x with | (_, n56, i57, i58, w59, w60, w61) => ⟨100, [(2, .fn (.func 57) (f56z1)), (3, .ptr 3 0), (6, .own 6001), (7, .fn (.func 78) []), (15, .b16 (x5.getD n50 0#16)), (61, q2aW x5), (62, .i (lZ x5)), (63, .i (n50 : Int)), (68, q2aW x5), (69, .i (lZ x5)), (70, .i (n56 : Int)), (1000000, .elem 32 1 T0F 0 0)], (f56z4 x1 x2 x3 x4 x5 x6 i58 w59 w60 w61 i57 r13), [2000, 2001], 0⟩) (fun x => f56_L4 x5 r13 n50 K4 x.1 x.2 = some r) (fun x => x.1) (FUEL, 0, i51, i52, w53, w54, w55) (Le.mk (s' := ⟨100, [(2, .fn (.func 57) (f56z1)), (3, .ptr 3 0), (6, .own 6001), (7, .fn (.func 78) []), (15, .b16 (x5.getD n50 0#16)), (61, q2aW x5), (62, .i (lZ x5)), (63, .i (n50 : Int)), (68, q2aW x5), (69, .i (lZ x5)), (70, .i (0 : Int)), (1000000, .elem 32 1 T0F 0 0)], (f56z7 x1 x2 x3 x4 x5 x6 i52 w53 w54 w55 i51 r13), [2000, 2001], 0⟩) rfl rfl ⟨.refl _, .refl _, .refl _, .refl _, .refl _, .refl _, .refl _, .refl _, .refl _, .refl _, .refl _, .refl _, trivial⟩ ⟨⟨_, rfl, .refl _⟩, ⟨_, rfl, .refl _⟩, ⟨_, rfl, .refl _⟩, ⟨_, rfl, .refl _⟩, trivial⟩) h ?_
    rintro ⟨k4, n56, i57, i58, w59, w60, w61⟩ h
    cases k4 with
    | zero => exact nomatch (show (none : Option Tq2) = some r from h)
    | succ k4 =>
    obtain ⟨C4, hC4⟩ : ∃ C, C = f56_L4 x5 r13 n50 K4 k4 := ⟨_, rfl⟩
    replace h := (f56_L4.eq_2 ..).symm.trans h
    try rw [← hC4] at h
    refine q2rq [] [] ⟨100, [(2, .fn (.func 57) (f56z1)), (3, .ptr 3 0), (6, .own 6001), (7, .fn (.func 78) []), (15, .b16 (x5.getD n50 0#16)), (61, q2aW x5), (62, .i (lZ x5)), (63, .i (n50 : Int)), (68, q2aW x5), (69, .i (lZ x5)), (70, .i (n56 : Int)), (71, .bool (decide ((n56 : Int) < (lZ x5)))), (1000000, .elem 32 1 T0F 0 0)], (f56z4 x1 x2 x3 x4 x5 x6 i58 w59 w60 w61 i57 r13), [2000, 2001], 0⟩ trivial ?_
    refine AWp.seq ?_
    refine AWp.cond (b := (decide ((n56 : Int) < (lZ x5)))) (by kernel_rfl) (fun hc6 => ?_) (fun hc6 => ?_)
    ·
     replace h := ite_tb hc6 h
     refine AWp.skip ?_
     refine tN ?_
     obtain ⟨K5, hK5, h⟩ := jn_some h
     refine AWp.join (α := Int × Int × TB × TB × TB) (fun (x : Tq5) => match x with | (i76, i77, w78, w79, w80) => ⟨100, [(2, .fn (.func 57) (f56z1)), (3, .ptr 3 0), (6, .own 6001), (7, .fn (.func 78) []), (15, .b16 (x5.getD n50 0#16)), (61, q2aW x5), (62, .i (lZ x5)), (63, .i (n50 : Int)), (68, q2aW x5), (69, .i (lZ x5)), (70, .i (n56 : Int)), (1000000, .elem 32 1 T0F 0 0)], [(3, .cells 33 (f56z0 x1 x2 x3 x4 x5 x6)), (2000, .cells 62 [.i i77, .b16 w78, .b16 w79, .b16 w80]), (2001, .cells 37 [.i i76]), (6001, q2bW_27 r13)], [2000, 2001], 0⟩) (fun x => K5 x = some r) ?_ ?_
     ·
      refine AWp.block ?_
      refine AWp.seq ?_
      obtain ⟨ob8p, h⟩ := chk_some h
      have ob8 : 0 ≤ (n56 : Int) ∧ (n56 : Int) < (((x5).length : Nat) : Int) := ⟨by omega, ob8p⟩
      refine q2rr [] [] ⟨100, [(2, .fn (.func 57) (f56z1)), (3, .ptr 3 0), (6, .own 6001), (7, .fn (.func 78) []), (15, .b16 (x5.getD n50 0#16)), (17, .b16 (x5.getD n56 0#16)), (61, q2aW x5), (62, .i (lZ x5)), (63, .i (n50 : Int)), (68, q2aW x5), (69, .i (lZ x5)), (70, .i (n56 : Int)), (1000000, .elem 32 1 T0F 0 0)], (f56z4 x1 x2 x3 x4 x5 x6 i58 w59 w60 w61 i57 r13), [2000, 2001], 0⟩ (an1 ob8) ?_
      refine tN ?_
      refine q2rq [] [] ⟨100, [(2, .fn (.func 57) (f56z1)), (3, .ptr 3 0), (6, .own 6001), (7, .fn (.func 78) []), (15, .b16 (x5.getD n50 0#16)), (17, .b16 (x5.getD n56 0#16)), (61, q2aW x5), (62, .i (lZ x5)), (63, .i (n50 : Int)), (68, q2aW x5), (69, .i (lZ x5)), (70, .i (n56 : Int)), (74, .own 6001), (75, .i (lZ r13)), (76, .i (0 : Int)), (1000000, .elem 32 1 T0F 0 0)], (f56z4 x1 x2 x3 x4 x5 x6 i58 w59 w60 w61 i57 r13), [2000, 2001], 0⟩ trivial ?_
      refine AWp.block ?_
      refine AWp.loopL (α := Nat × (f56z6)) (fun x => match x with | (_, n62, i63, i65, w66, w67, w68) => ⟨100, [(2, .fn (.func 57) (f56z1)), (3, .ptr 3 0), (6, .own 6001), (7, .fn (.func 78) []), (15, .b16 (x5.getD n50 0#16)), (17, .b16 (x5.getD n56 0#16)), (61, q2aW x5), (62, .i (lZ x5)), (63, .i (n50 : Int)), (68, q2aW x5), (69, .i (lZ x5)), (70, .i (n56 : Int)), (74, .own 6001), (75, .i (lZ r13)), (76, .i (n62 : Int)), (1000000, .elem 32 1 T0F 0 0)], (f56z5 x1 x2 x3 x4 x5 x6 i65 w66 w67 w68 i63 r13), [2000, 2001], 0⟩) (fun x => f56_L5 x5 r13 n50 n56 K5 x.1 x.2 = some r) (fun x => x.1) (FUEL, 0, i57, i58, w59, w60, w61) (Le.mk (s' := ⟨100, [(2, .fn (.func 57) (f56z1)), (3, .ptr 3 0), (6, .own 6001), (7, .fn (.func 78) []), (15, .b16 (x5.getD n50 0#16)), (17, .b16 (x5.getD n56 0#16)), (61, q2aW x5), (62, .i (lZ x5)), (63, .i (n50 : Int)), (68, q2aW x5), (69, .i (lZ x5)), (70, .i (n56 : Int)), (74, .own 6001), (75, .i (lZ r13)), (76, .i (0 : Int)), (1000000, .elem 32 1 T0F 0 0)], (f56z4 x1 x2 x3 x4 x5 x6 i58 w59 w60 w61 i57 r13), [2000, 2001], 0⟩) rfl rfl ⟨.refl _, .refl _, .refl _, .refl _, .refl _, .refl _, .refl _, .refl _, .refl _, .refl _, .refl _, .refl _, .refl _, .refl _, .refl _, .refl _, trivial⟩ ⟨⟨_, rfl, .refl _⟩, ⟨_, rfl, .refl _⟩, ⟨_, rfl, .refl _⟩, ⟨_, rfl, .refl _⟩, trivial⟩) h ?_
      rintro ⟨k5, n62, i63, i65, w66, w67, w68⟩ h
      cases k5 with
      | zero => exact nomatch (show (none : Option Tq2) = some r from h)
      | succ k5 =>
      obtain ⟨C5, hC5⟩ : ∃ C, C = f56_L5 x5 r13 n50 n56 K5 k5 := ⟨_, rfl⟩
      replace h := (f56_L5.eq_2 ..).symm.trans h
      try rw [← hC5] at h
      refine q2rq [] [] ⟨100, [(2, .fn (.func 57) (f56z1)), (3, .ptr 3 0), (6, .own 6001), (7, .fn (.func 78) []), (15, .b16 (x5.getD n50 0#16)), (17, .b16 (x5.getD n56 0#16)), (61, q2aW x5), (62, .i (lZ x5)), (63, .i (n50 : Int)), (68, q2aW x5), (69, .i (lZ x5)), (70, .i (n56 : Int)), (74, .own 6001), (75, .i (lZ r13)), (76, .i (n62 : Int)), (77, .bool (decide ((n62 : Int) < (lZ r13)))), (1000000, .elem 32 1 T0F 0 0)], (f56z5 x1 x2 x3 x4 x5 x6 i65 w66 w67 w68 i63 r13), [2000, 2001], 0⟩ trivial ?_
      refine AWp.seq ?_
      refine AWp.cond (b := (decide ((n62 : Int) < (lZ r13)))) (by kernel_rfl) (fun hc7 => ?_) (fun hc7 => ?_)
      ·
       replace h := ite_tb hc7 h
       refine AWp.skip ?_
       refine tN ?_
       obtain ⟨K6, hK6, h⟩ := jn_some h
       refine AWp.join (α := Int × Int × TB × TB × TB) (fun (x : Tq5) => match x with | (i71, i72, w73, w74, w75) => ⟨100, [(2, .fn (.func 57) (f56z1)), (3, .ptr 3 0), (6, .own 6001), (7, .fn (.func 78) []), (15, .b16 (x5.getD n50 0#16)), (17, .b16 (x5.getD n56 0#16)), (61, q2aW x5), (62, .i (lZ x5)), (63, .i (n50 : Int)), (68, q2aW x5), (69, .i (lZ x5)), (70, .i (n56 : Int)), (74, .own 6001), (75, .i (lZ r13)), (76, .i (n62 : Int)), (1000000, .elem 32 1 T0F 0 0)], [(3, .cells 33 (f56z0 x1 x2 x3 x4 x5 x6)), (2000, .cells 62 [.i i72, .b16 w73, .b16 w74, .b16 w75]), (2001, .cells 37 [.i i71]), (6001, q2bW_27 r13)], [2000, 2001], 0⟩) (fun x => K6 x = some r) ?_ ?_
       ·
        refine AWp.block ?_
        refine AWp.seq ?_
        obtain ⟨ob9p, h⟩ := chk_some h
        have ob9 : 0 ≤ (n62 : Int) ∧ (n62 : Int) < (((r13).length : Nat) : Int) := ⟨by omega, ob9p⟩
        obtain ⟨ob10, h⟩ := chk_some h
        refine q2rr [] [] ⟨100, [(2, .fn (.func 57) (f56z1)), (3, .ptr 3 0), (6, .own 6001), (7, .fn (.func 78) []), (15, .b16 (x5.getD n50 0#16)), (17, .b16 (x5.getD n56 0#16)), (19, .b16 (r13.getD n62 0#16)), (61, q2aW x5), (62, .i (lZ x5)), (63, .i (n50 : Int)), (68, q2aW x5), (69, .i (lZ x5)), (70, .i (n56 : Int)), (74, .own 6001), (75, .i (lZ r13)), (76, .i (n62 : Int)), (1000000, .elem 32 1 T0F 0 0)], (f56z5 x1 x2 x3 x4 x5 x6 i65 w66 w67 w68 i63 r13), [2000, 2001], 0⟩ (an2 ob9 ob10) ?_
        refine tN ?_
        refine AWp.seq ?_
        by_cases hg25_2 : (!((r13.getD n62 0#16) == (q2w16 0))) = true
        ·
         replace h := ite_t hg25_2 h
         obtain ⟨r69, hr69, h⟩ := bind_ok h
         obtain ⟨r70, hr70, h⟩ := bind_ok h
         have ob11 := idA (true = true)
         have ob12 := idA (true = true)
         have ob13 := idA (true = true)
         have ob14 := idA (true = true)
         have ob15 := idA (true = true)
         have ob16 := idA (true = true)
         have ob17 := idA (true = true)
         have ob18 := idA (true = true)
         have ob19 := idA (true = true)
         have ob20 := idA (true = true)
         have ob21 := idA (true = true)
         have ob22 : true = true → true = true → true = true := fun _ h => h
         refine q2rr [] [(2, ⟨[], [], [], [], (.bool true), [], [0], []⟩), (13, ⟨[.b16 (((x5.getD n50 0#16) &&& (x5.getD n56 0#16)) &&& ~~~(r13.getD n62 0#16))], [], [], [], .i r69, [], [], [0]⟩), (14, ⟨[.i (2 : Int), .b16 (x5.getD n50 0#16), .b16 (x5.getD n56 0#16), .b16 (r13.getD n62 0#16), .i r69, .ptr 2000 0, .ptr 2001 0], [2000, 2001], [2000, 2001], [(2000, .cells 62 (f56z9 r70)), (2001, .cells 37 [.i r70.2.2.2.2.2])], .bool r70.1, [], [], []⟩)] ⟨100, [(2, .fn (.func 57) (f56z1)), (3, .ptr 3 0), (6, .own 6001), (7, .fn (.func 78) []), (15, .b16 (x5.getD n50 0#16)), (17, .b16 (x5.getD n56 0#16)), (61, q2aW x5), (62, .i (lZ x5)), (63, .i (n50 : Int)), (68, q2aW x5), (69, .i (lZ x5)), (70, .i (n56 : Int)), (74, .own 6001), (75, .i (lZ r13)), (76, .i (n62 : Int)), (96, .bool (!r70.1)), (1000000, .elem 32 1 T0F 0 0)], [(3, .cells 33 (f56z0 x1 x2 x3 x4 x5 x6)), (2000, .cells 62 (f56z9 r70)), (2001, .cells 37 [.i r70.2.2.2.2.2]), (6001, q2bW_27 r13)], [2000, 2001], 0⟩ (an6 (show ((.bool (!((r13.getD n62 0#16) == (q2w16 0)))) : V) = (.bool true) from (congrArg (fun x => ((.bool x) : V)) hg25_2)) (an2 ob11 ob12) (an2 ob13 ob14) (And.intro (cpT (f78_ok _ _ hr69)) (an2 ob15 ob16)) (And.intro (cpT (f57_ok _ _ _ _ _ _ _ _ _ _ _ hr70)) (an5 ob17 ob18 ob19 ob20 ob21)) ob22) ?_
         refine tN ?_
         refine AWp.cond (b := (!r70.1)) (by kernel_rfl) (fun hc9 => ?_) (fun hc9 => ?_)
         ·
          replace h := ite_tb hc9 h
          have hret := oJ h
          subst hret
          refine AWp.le (Le.mk (s' := ⟨100, [], [(2000, .cells 62 (f56z9 r70)), (2001, .cells 37 [.i r70.2.2.2.2.2])], [2000, 2001], 0⟩) rfl rfl trivial ⟨⟨_, rfl, .refl _⟩, ⟨_, rfl, .refl _⟩, trivial⟩) ?_
          refine AWp.ret ?_
          refine kR ?_
          refine joinQ_ret ?_
          refine tR ?_
          refine kR ?_
          refine kR ?_
          refine joinQ_ret ?_
          refine tR ?_
          refine kR ?_
          refine kR ?_
          refine joinQ_ret ?_
          refine tR ?_
          refine kR ?_
          exact bR _ rfl ⟨rfl, rfl⟩ rfl
         ·
          replace h := ite_fb hc9 h
          refine AWp.skip ?_
          refine kN ?_
          exact jN (r70.2.2.2.2.2, r70.2.1, r70.2.2.1, r70.2.2.2.1, r70.2.2.2.2.1) (Le.mk rfl rfl ⟨.refl _, .refl _, .refl _, .refl _, .refl _, .refl _, .refl _, .refl _, .refl _, .refl _, .refl _, .refl _, .refl _, .refl _, .refl _, .refl _, trivial⟩ ⟨⟨_, rfl, .refl _⟩, ⟨_, rfl, .refl _⟩, ⟨_, rfl, .refl _⟩, ⟨_, rfl, .refl _⟩, trivial⟩) h
        ·
         replace h := ite_f hg25_2 h
         have ob11 := idA (false = true)
         have ob12 := idA (false = true)
         have ob13 := idA (false = true)
         have ob14 := idA (false = true)
         have ob15 := idA (false = true)
         have ob16 := idA (false = true)
         have ob17 := idA (false = true)
         have ob18 := idA (false = true)
         have ob19 := idA (false = true)
         have ob20 := idA (false = true)
         have ob21 := idA (false = true)
         have ob22 := idA (false = true)
         have ob23 : true = true → false = true → false = true := fun _ h => h
         refine q2rr [] [(2, ⟨[], [], [], [], (.bool false), [], [0], []⟩), (13, ⟨[], [], [], [], .any, [], [], []⟩), (14, ⟨[], [], [], [], .bool false, [], [], []⟩)] ⟨100, [(2, .fn (.func 57) (f56z1)), (3, .ptr 3 0), (6, .own 6001), (7, .fn (.func 78) []), (15, .b16 (x5.getD n50 0#16)), (17, .b16 (x5.getD n56 0#16)), (61, q2aW x5), (62, .i (lZ x5)), (63, .i (n50 : Int)), (68, q2aW x5), (69, .i (lZ x5)), (70, .i (n56 : Int)), (74, .own 6001), (75, .i (lZ r13)), (76, .i (n62 : Int)), (96, .bool false), (1000000, .elem 32 1 T0F 0 0)], (f56z5 x1 x2 x3 x4 x5 x6 i65 w66 w67 w68 i63 r13), [2000, 2001], 0⟩ (ac6 (show ((.bool (!((r13.getD n62 0#16) == (q2w16 0)))) : V) = (.bool false) from (congrArg (fun x => ((.bool x) : V)) (Bool.eq_false_iff.2 hg25_2))) (an2 ob11 ob12) (an2 ob13 ob14) (And.intro (show (callP Tryz.prog false 78 [] [] [] [] [] [.b16 (((x5.getD n50 0#16) &&& (x5.getD n56 0#16)) &&& ~~~(r13.getD n62 0#16))] [] (.any) []) from ⟨nofun, nofun, .inl rfl⟩) (an2 ob15 ob16)) (And.intro (show (callP Tryz.prog false 57 [] [] [] [] [] [.i (2 : Int), .b16 (x5.getD n50 0#16), .b16 (x5.getD n56 0#16), .b16 (r13.getD n62 0#16), .any, .ptr 2000 0, .ptr 2001 0] [] (.bool false) []) from ⟨nofun, nofun, .inl rfl⟩) (an5 ob17 ob18 ob19 ob20 ob21)) (an1 ob22) (an1 ob23)) ?_
         refine tN ?_
         refine AWp.cond (b := false) (by kernel_rfl) (fun hc => ?_) (fun hc => ?_)
         ·
          cases hc
         ·
          clear hc
          refine AWp.skip ?_
          refine kN ?_
          exact jN (i63, i65, w66, w67, w68) (Le.mk rfl rfl ⟨.refl _, .refl _, .refl _, .refl _, .refl _, .refl _, .refl _, .refl _, .refl _, .refl _, .refl _, .refl _, .refl _, .refl _, .refl _, .refl _, trivial⟩ ⟨⟨_, rfl, .refl _⟩, ⟨_, rfl, .refl _⟩, ⟨_, rfl, .refl _⟩, ⟨_, rfl, .refl _⟩, trivial⟩) h
       ·
        rintro ⟨i71, i72, w73, w74, w75⟩ h
        replace h := (congrFun hK6 _).symm.trans h
        obtain ⟨ob24p, h⟩ := chk_some h
        have ob24 : -9223372036854775808 ≤ ((n62 : Int) + (1 : Int)) ∧ ((n62 : Int) + (1 : Int)) ≤ 9223372036854775807 := ⟨by omega, ob24p⟩
        refine q2rr [] [] ⟨100, [(2, .fn (.func 57) (f56z1)), (3, .ptr 3 0), (6, .own 6001), (7, .fn (.func 78) []), (15, .b16 (x5.getD n50 0#16)), (17, .b16 (x5.getD n56 0#16)), (61, q2aW x5), (62, .i (lZ x5)), (63, .i (n50 : Int)), (68, q2aW x5), (69, .i (lZ x5)), (70, .i (n56 : Int)), (74, .own 6001), (75, .i (lZ r13)), (76, .i (((n62 + 1) : Nat) : Int)), (1000000, .elem 32 1 T0F 0 0)], [(3, .cells 33 (f56z0 x1 x2 x3 x4 x5 x6)), (2000, .cells 62 [.i i72, .b16 w73, .b16 w74, .b16 w75]), (2001, .cells 37 [.i i71]), (6001, q2bW_27 r13)], [2000, 2001], 0⟩ (an1 ob24) ?_
        rw [hC5] at h
        exact lN (_, (n62 + 1), i71, i72, w73, w74, w75) (Le.mk rfl rfl ⟨.refl _, .refl _, .refl _, .refl _, .refl _, .refl _, .refl _, .refl _, .refl _, .refl _, .refl _, .refl _, .refl _, .refl _, .refl _, .refl _, trivial⟩ ⟨⟨_, rfl, .refl _⟩, ⟨_, rfl, .refl _⟩, ⟨_, rfl, .refl _⟩, ⟨_, rfl, .refl _⟩, trivial⟩) h (Nat.lt_succ_self _)
      ·
       replace h := ite_fb hc7 h
       refine AWp.exit ?_
       refine tE ?_
       refine tE ?_
       refine kS ?_
       refine kN ?_
       exact jN (i63, i65, w66, w67, w68) (Le.mk rfl rfl ⟨.refl _, .refl _, .refl _, .refl _, .refl _, .refl _, .refl _, .refl _, .refl _, .refl _, .refl _, .refl _, trivial⟩ ⟨⟨_, rfl, .refl _⟩, ⟨_, rfl, .refl _⟩, ⟨_, rfl, .refl _⟩, ⟨_, rfl, .refl _⟩, trivial⟩) h
     ·
      rintro ⟨i76, i77, w78, w79, w80⟩ h
      replace h := (congrFun hK5 _).symm.trans h
      obtain ⟨ob25p, h⟩ := chk_some h
      have ob25 : -9223372036854775808 ≤ ((n56 : Int) + (1 : Int)) ∧ ((n56 : Int) + (1 : Int)) ≤ 9223372036854775807 := ⟨by omega, ob25p⟩
      refine q2rr [] [] ⟨100, [(2, .fn (.func 57) (f56z1)), (3, .ptr 3 0), (6, .own 6001), (7, .fn (.func 78) []), (15, .b16 (x5.getD n50 0#16)), (61, q2aW x5), (62, .i (lZ x5)), (63, .i (n50 : Int)), (68, q2aW x5), (69, .i (lZ x5)), (70, .i (((n56 + 1) : Nat) : Int)), (1000000, .elem 32 1 T0F 0 0)], [(3, .cells 33 (f56z0 x1 x2 x3 x4 x5 x6)), (2000, .cells 62 [.i i77, .b16 w78, .b16 w79, .b16 w80]), (2001, .cells 37 [.i i76]), (6001, q2bW_27 r13)], [2000, 2001], 0⟩ (an1 ob25) ?_
      rw [hC4] at h
      exact lN (_, (n56 + 1), i76, i77, w78, w79, w80) (Le.mk rfl rfl ⟨.refl _, .refl _, .refl _, .refl _, .refl _, .refl _, .refl _, .refl _, .refl _, .refl _, .refl _, .refl _, trivial⟩ ⟨⟨_, rfl, .refl _⟩, ⟨_, rfl, .refl _⟩, ⟨_, rfl, .refl _⟩, ⟨_, rfl, .refl _⟩, trivial⟩) h (Nat.lt_succ_self _)
    ·
     replace h := ite_fb hc6 h
     refine AWp.exit ?_
     refine tE ?_
     refine tE ?_
     refine kS ?_
     refine kN ?_
     exact jN (i57, i58, w59, w60, w61) (Le.mk rfl rfl ⟨.refl _, .refl _, .refl _, .refl _, .refl _, .refl _, .refl _, .refl _, trivial⟩ ⟨⟨_, rfl, .refl _⟩, ⟨_, rfl, .refl _⟩, ⟨_, rfl, .refl _⟩, ⟨_, rfl, .refl _⟩, trivial⟩) h
   ·
    rintro ⟨i81, i82, w83, w84, w85⟩ h
    replace h := (congrFun hK4 _).symm.trans h
    obtain ⟨ob26p, h⟩ := chk_some h
    have ob26 : -9223372036854775808 ≤ ((n50 : Int) + (1 : Int)) ∧ ((n50 : Int) + (1 : Int)) ≤ 9223372036854775807 := ⟨by omega, ob26p⟩
    refine q2rr [] [] ⟨100, [(2, .fn (.func 57) (f56z1)), (3, .ptr 3 0), (6, .own 6001), (7, .fn (.func 78) []), (61, q2aW x5), (62, .i (lZ x5)), (63, .i (((n50 + 1) : Nat) : Int)), (1000000, .elem 32 1 T0F 0 0)], [(3, .cells 33 (f56z0 x1 x2 x3 x4 x5 x6)), (2000, .cells 62 [.i i82, .b16 w83, .b16 w84, .b16 w85]), (2001, .cells 37 [.i i81]), (6001, q2bW_27 r13)], [2000, 2001], 0⟩ (an1 ob26) ?_
    rw [hC3] at h
    exact lN (_, (n50 + 1), i81, i82, w83, w84, w85) (Le.mk rfl rfl ⟨.refl _, .refl _, .refl _, .refl _, .refl _, .refl _, .refl _, .refl _, trivial⟩ ⟨⟨_, rfl, .refl _⟩, ⟨_, rfl, .refl _⟩, ⟨_, rfl, .refl _⟩, ⟨_, rfl, .refl _⟩, trivial⟩) h (Nat.lt_succ_self _)
  ·
   replace h := ite_fb hc5 h
   refine AWp.exit ?_
   refine tE ?_
   refine tE ?_
   refine kS ?_
   have hret := oJ h
   subst hret
   exact bodyQ_le (Le.mk (s' := ⟨100, [], [(2000, .cells 62 [.i i52, .b16 w53, .b16 w54, .b16 w55]), (2001, .cells 37 [.i i51])], [2000, 2001], 0⟩) rfl rfl trivial ⟨⟨_, rfl, .refl _⟩, ⟨_, rfl, .refl _⟩, trivial⟩) (bodyQ_normal _ rfl ⟨rfl, rfl⟩ rfl)
abbrev f33z0 : List V := [.int .i64 (0 : Int), .b16 (BitVec.ofInt 16 0), .b16 (BitVec.ofInt 16 0), .b16 (BitVec.ofInt 16 0)]
abbrev f33z1 (x1 : List UInt8) (x2 : Int) (x3 : TB) (x4 : List (TB)) (x5 : List (TB)) (x6 : List Tq0) : List V := [.str x1, .int .i64 x2, .b16 x3, vL 1 eW 0#16 x4, vL 1 eW 0#16 x5, vL 2 eWW (default : Tq0) x6]
abbrev f33z2 (r9 : Tq2) : List V := [.int .i64 r9.1, .b16 r9.2.1, .b16 r9.2.2.1, .b16 r9.2.2.2.1]
def f33 (x1 : List UInt8) (x2 : Int) (x3 : BitVec 16) (x4 : List (BitVec 16)) (x5 : List (BitVec 16)) (x6 : List Tq0) (x7 : BitVec 16) : Option Tq2 :=
 (f50 x1 x2 x3 x4 x5 x6).bind fun (r8 : Int) =>
 if (r8 != (0 : Int)) then (
 some ((0 : Int), (BitVec.ofInt 16 0), (BitVec.ofInt 16 0), (BitVec.ofInt 16 0), r8)
 ) else (
 (f56 x1 x2 x3 x4 x5 x6 x7 (0 : Int) (BitVec.ofInt 16 0) (BitVec.ofInt 16 0) (BitVec.ofInt 16 0) (13 : Int)).bind fun (r9 : Tq2) =>
 some (r9.1, r9.2.1, r9.2.2.1, r9.2.2.2.1, r9.2.2.2.2)
 )
theorem f33_ok  (x1 : List UInt8) (x2 : Int) (x3 : TB) (x4 : List (TB)) (x5 : List (TB)) (x6 : List Tq0) (x7 : TB) (r : Tq2) (h : f33 x1 x2 x3 x4 x5 x6 x7 = some r)  : Spec1 Tryz.prog 33 [(0, .elem 32 1 T0F 0 0)] [] [] [.agg [.str x1, .int .i64 x2, .b16 x3, vL 1 eW 0#16 x4, vL 1 eW 0#16 x5, vL 2 eWW (default : Tq0) x6], .b16 x7] (.tup [.agg [.int .i64 r.1, .b16 r.2.1, .b16 r.2.2.1, .b16 r.2.2.2.1], .int .i64 r.2.2.2.2]) [] := by
 unfold f33 at h
 refine Spec1.bodyD [4] 0 _ _ Tryz.func33 rfl Tryz.ntmps33 rfl rfl ?_
 refine q2rq [] [] ⟨22, [(1, .b16 x7), (2, .ptr 2 0), (4, .ptr 4 0), (1000000, .elem 32 1 T0F 0 0)], [(2, .cells 33 (f33z1 x1 x2 x3 x4 x5 x6)), (4, .cells 62 (f33z0))], [], 0⟩ trivial ?_
 refine AWp.seq ?_
 refine AWp.seq ?_
 obtain ⟨r8, hr8, h⟩ := bind_ok h
 refine q2rr [] [(1, ⟨[.agg (f33z1 x1 x2 x3 x4 x5 x6)], [], [], [], .i r8, [], [], []⟩)] ⟨22, [(1, .b16 x7), (2, .ptr 2 0), (4, .ptr 4 0), (6, .i r8), (1000000, .elem 32 1 T0F 0 0)], [(2, .cells 33 (f33z1 x1 x2 x3 x4 x5 x6)), (4, .cells 62 (f33z0))], [], 0⟩ (an1 (cpT (f50_ok _ _ _ _ _ _ _ hr8))) ?_
 refine tN ?_
 refine q2rq [] [] ⟨22, [(1, .b16 x7), (2, .ptr 2 0), (4, .ptr 4 0), (6, .i r8), (12, .bool (r8 != (0 : Int))), (1000000, .elem 32 1 T0F 0 0)], [(2, .cells 33 (f33z1 x1 x2 x3 x4 x5 x6)), (4, .cells 62 (f33z0))], [], 0⟩ trivial ?_
 refine AWp.cond (b := (r8 != (0 : Int))) (by kernel_rfl) (fun hc1 => ?_) (fun hc1 => ?_)
 ·
  replace h := ite_tb hc1 h
  refine q2rq [] [] ⟨22, [(4, .ptr 4 0), (5, .i r8), (1000000, .elem 32 1 T0F 0 0)], [(4, .cells 62 (f33z0))], [], 0⟩ (an1 trivial) ?_
  have hret := oJ h
  subst hret
  refine AWp.le (Le.mk (s' := ⟨22, [(4, .ptr 4 0), (5, .i r8)], [(4, .cells 62 (f33z0))], [], 0⟩) rfl rfl ⟨.refl _, .refl _, trivial⟩ ⟨⟨_, rfl, .refl _⟩, trivial⟩) ?_
  refine AWp.ret ?_
  refine tR ?_
  exact bR _ rfl ⟨rfl, rfl⟩ rfl
 ·
  replace h := ite_fb hc1 h
  refine AWp.skip ?_
  refine tN ?_
  refine q2rq [] [] ⟨22, [(1, .b16 x7), (2, .ptr 2 0), (4, .ptr 4 0), (7, .ptr 7 0), (8, .ptr 8 0), (1000000, .elem 32 1 T0F 0 0)], [(2, .cells 33 (f33z1 x1 x2 x3 x4 x5 x6)), (4, .cells 62 (f33z0)), (7, .cells 62 (f33z0)), (8, .cells 37 [.i (13 : Int)])], [], 0⟩ (an2 trivial trivial) ?_
  refine AWp.seq ?_
  obtain ⟨r9, hr9, h⟩ := bind_ok h
  refine q2rr [] [(3, ⟨[.agg (f33z1 x1 x2 x3 x4 x5 x6), .b16 x7, .fn (.func 57) [.ptr 7 0, .ptr 8 0]], [7, 8], [7, 8], [(7, .cells 62 (f33z2 r9)), (8, .cells 37 [.i r9.2.2.2.2])], .tup [], [], [], [0]⟩)] ⟨22, [(4, .ptr 4 0), (7, .ptr 7 0), (8, .ptr 8 0), (1000000, .elem 32 1 T0F 0 0)], [(4, .cells 62 (f33z0)), (7, .cells 62 (f33z2 r9)), (8, .cells 37 [.i r9.2.2.2.2])], [], 0⟩ (an1 (cpT (Spec1.ren (swapN 2001 8) (swapN_inv 2001 8) rfl (Spec1.ren (swapN 2000 7) (swapN_inv 2000 7) rfl (f56_ok _ _ _ _ _ _ _ _ _ _ _ _ _ hr9))))) ?_
  refine tN ?_
  refine q2rq [] [] ⟨22, [(4, .ptr 4 0), (5, .i r9.2.2.2.2), (1000000, .elem 32 1 T0F 0 0)], [(4, .cells 62 (f33z2 r9))], [], 0⟩ (an1 trivial) ?_
  have hret := oJ h
  subst hret
  refine AWp.le (Le.mk (s' := ⟨22, [(4, .ptr 4 0), (5, .i r9.2.2.2.2)], [(4, .cells 62 (f33z2 r9))], [], 0⟩) rfl rfl ⟨.refl _, .refl _, trivial⟩ ⟨⟨_, rfl, .refl _⟩, trivial⟩) ?_
  refine AWp.ret ?_
  exact bR _ rfl ⟨rfl, rfl⟩ rfl
def f15 (x1 : List UInt8) (x2 : Int) (x3 : BitVec 16) (x4 : List (BitVec 16)) (x5 : List (BitVec 16)) (x6 : List Tq0) (x7 : BitVec 16) : Option Bool :=
 (f33 x1 x2 x3 x4 x5 x6 x7).bind fun (r8 : Tq2) =>
 some (r8.2.2.2.2 == (13 : Int))
theorem f15_ok  (x1 : List UInt8) (x2 : Int) (x3 : TB) (x4 : List (TB)) (x5 : List (TB)) (x6 : List Tq0) (x7 : TB) (r : Bool) (h : f15 x1 x2 x3 x4 x5 x6 x7 = some r)  : Spec1 Tryz.prog 15 [(0, .elem 32 1 T0F 0 0)] [] [] [.agg [.str x1, .int .i64 x2, .b16 x3, vL 1 eW 0#16 x4, vL 1 eW 0#16 x5, vL 2 eWW (default : Tq0) x6], .b16 x7] (.bool r) [] := by
 unfold f15 at h
 refine Spec1.body 0 _ _ Tryz.func15 rfl Tryz.ntmps15 rfl rfl ?_
 refine q2rq [] [] ⟨15, [(1, .b16 x7), (2, .ptr 2 0), (1000000, .elem 32 1 T0F 0 0)], [(2, .cells 33 [.str x1, .i x2, .b16 x3, q2aW x4, q2aW x5, q2aWW x6])], [], 0⟩ trivial ?_
 refine AWp.seq ?_
 obtain ⟨r8, hr8, h⟩ := bind_ok h
 refine q2rr [] [(2, ⟨[.agg [.str x1, .i x2, .b16 x3, q2aW x4, q2aW x5, q2aWW x6], .b16 x7], [], [], [], .tup [.agg [.i r8.1, .b16 r8.2.1, .b16 r8.2.2.1, .b16 r8.2.2.2.1], .i r8.2.2.2.2], [], [], [0]⟩)] ⟨15, [(6, .i r8.2.2.2.2), (1000000, .elem 32 1 T0F 0 0)], [], [], 0⟩ (an2 (cpT (f33_ok _ _ _ _ _ _ _ _ hr8)) trivial) ?_
 refine tN ?_
 refine q2rq [] [] ⟨15, [(4, .bool (r8.2.2.2.2 == (13 : Int))), (1000000, .elem 32 1 T0F 0 0)], [], [], 0⟩ trivial ?_
 have hret := oJ h
 subst hret
 refine AWp.le (Le.mk (s' := ⟨15, [(4, .bool (r8.2.2.2.2 == (13 : Int)))], [], [], 0⟩) rfl rfl ⟨.refl _, trivial⟩ trivial) ?_
 refine AWp.ret ?_
 exact bR _ rfl ⟨rfl, rfl⟩ rfl
def f11_L0 (x1 : List (BitVec 16)) (x2 : List (BitVec 16)) (K1 : Unit → Option Bool) : Nat → Nat → Option Bool
 | 0, _ => none
 | k + 1, n3 =>
  if (decide ((n3 : Int) < (((x1).length : Nat) : Int))) then (
  chk ((n3 : Int) < (((x1).length : Nat) : Int)) <|
  chk ((n3 : Int) < (((x2).length : Nat) : Int)) <|
  if (!((x1.getD n3 0#16) == (x2.getD n3 0#16))) then (
  some false
  ) else (
  chk (((n3 : Int) + (1 : Int)) ≤ 9223372036854775807) <|
  (f11_L0 x1 x2 K1 k) (n3 + 1)
  )
  ) else (
  K1 ()
  )
def f11 (x1 : List (BitVec 16)) (x2 : List (BitVec 16)) : Option Bool :=
 if ((((x1).length : Nat) : Int) != (((x2).length : Nat) : Int)) then (
 some false
 ) else (
 jn (fun (_ : Unit) =>
 some true
 ) fun (K1 : Unit → Option Bool) =>
 f11_L0 x1 x2 K1 FUEL 0
 )
theorem f11_ok  (x1 : List (TB)) (x2 : List (TB)) (r : Bool) (h : f11 x1 x2 = some r)  : Spec1 Tryz.prog 11 [] [] [] [vL 1 eW 0#16 x1, vL 1 eW 0#16 x2] (.bool r) [] := by
 unfold f11 at h
 refine Spec1.body 0 _ _ Tryz.func11 rfl Tryz.ntmps11 rfl rfl ?_
 refine q2rq [] [] ⟨26, [(0, q2aW x1), (1, q2aW x2)], [], [], 0⟩ trivial ?_
 refine AWp.seq ?_
 refine q2rq [] [] ⟨26, [(0, q2aW x1), (1, q2aW x2), (10, .bool ((lZ x1) != (lZ x2)))], [], [], 0⟩ trivial ?_
 refine AWp.cond (b := ((lZ x1) != (lZ x2))) (by kernel_rfl) (fun hc1 => ?_) (fun hc1 => ?_)
 ·
  replace h := ite_tb hc1 h
  refine q2rq [] [] ⟨26, [(4, .bool false)], [], [], 0⟩ trivial ?_
  have hret := oJ h
  subst hret
  refine AWp.le (Le.mk (s' := ⟨26, [(4, .bool false)], [], [], 0⟩) rfl rfl ⟨.refl _, trivial⟩ trivial) ?_
  refine AWp.ret ?_
  refine tR ?_
  exact bR _ rfl ⟨rfl, rfl⟩ rfl
 ·
  replace h := ite_fb hc1 h
  refine AWp.skip ?_
  refine tN ?_
  obtain ⟨K1, hK1, h⟩ := jn_some h
  refine AWp.join (α := Unit) (fun (x : Unit) => match x with | () => ⟨26, [], [], [], 0⟩) (fun x => K1 x = some r) ?_ ?_
  ·
   refine q2rq [] [] ⟨26, [(0, q2aW x1), (1, q2aW x2), (12, .i (lZ x1)), (13, .i (0 : Int))], [], [], 0⟩ trivial ?_
   refine AWp.block ?_
   refine AWp.loopL (α := Nat × Nat) (fun x => match x with | (_, n3) => ⟨26, [(0, q2aW x1), (1, q2aW x2), (12, .i (lZ x1)), (13, .i (n3 : Int))], [], [], 0⟩) (fun x => f11_L0 x1 x2 K1 x.1 x.2 = some r) (fun x => x.1) (FUEL, 0) (Le.mk (s' := ⟨26, [(0, q2aW x1), (1, q2aW x2), (12, .i (lZ x1)), (13, .i (0 : Int))], [], [], 0⟩) rfl rfl ⟨.refl _, .refl _, .refl _, .refl _, trivial⟩ trivial) h ?_
   rintro ⟨k0, n3⟩ h
   cases k0 with
   | zero => exact nomatch (show (none : Option Bool) = some r from h)
   | succ k0 =>
   obtain ⟨C0, hC0⟩ : ∃ C, C = f11_L0 x1 x2 K1 k0 := ⟨_, rfl⟩
   replace h := (f11_L0.eq_2 ..).symm.trans h
   try rw [← hC0] at h
   refine q2rq [] [] ⟨26, [(0, q2aW x1), (1, q2aW x2), (12, .i (lZ x1)), (13, .i (n3 : Int)), (14, .bool (decide ((n3 : Int) < (lZ x1))))], [], [], 0⟩ trivial ?_
   refine AWp.seq ?_
   refine AWp.cond (b := (decide ((n3 : Int) < (lZ x1)))) (by kernel_rfl) (fun hc2 => ?_) (fun hc2 => ?_)
   ·
    replace h := ite_tb hc2 h
    refine AWp.skip ?_
    refine tN ?_
    refine AWp.seq ?_
    refine AWp.block ?_
    refine q2rq [] [] ⟨26, [(0, q2aW x1), (1, q2aW x2), (5, .i (n3 : Int)), (12, .i (lZ x1)), (13, .i (n3 : Int))], [], [], 0⟩ trivial ?_
    refine AWp.seq ?_
    obtain ⟨ob0p, h⟩ := chk_some h
    have ob0 : 0 ≤ (n3 : Int) ∧ (n3 : Int) < (((x1).length : Nat) : Int) := ⟨by omega, ob0p⟩
    obtain ⟨ob1p, h⟩ := chk_some h
    have ob1 : 0 ≤ (n3 : Int) ∧ (n3 : Int) < (((x2).length : Nat) : Int) := ⟨by omega, ob1p⟩
    refine q2rr [] [] ⟨26, [(0, q2aW x1), (1, q2aW x2), (12, .i (lZ x1)), (13, .i (n3 : Int)), (24, .bool (!((x1.getD n3 0#16) == (x2.getD n3 0#16))))], [], [], 0⟩ (an2 ob0 ob1) ?_
    refine tN ?_
    refine AWp.cond (b := (!((x1.getD n3 0#16) == (x2.getD n3 0#16)))) (by kernel_rfl) (fun hc3 => ?_) (fun hc3 => ?_)
    ·
     replace h := ite_tb hc3 h
     refine q2rq [] [] ⟨26, [(4, .bool false)], [], [], 0⟩ trivial ?_
     have hret := oJ h
     subst hret
     refine AWp.le (Le.mk (s' := ⟨26, [(4, .bool false)], [], [], 0⟩) rfl rfl ⟨.refl _, trivial⟩ trivial) ?_
     refine AWp.ret ?_
     refine kR ?_
     refine tR ?_
     refine tR ?_
     refine kR ?_
     refine joinQ_ret ?_
     exact bR _ rfl ⟨rfl, rfl⟩ rfl
    ·
     replace h := ite_fb hc3 h
     refine AWp.skip ?_
     refine kN ?_
     refine tN ?_
     obtain ⟨ob2p, h⟩ := chk_some h
     have ob2 : -9223372036854775808 ≤ ((n3 : Int) + (1 : Int)) ∧ ((n3 : Int) + (1 : Int)) ≤ 9223372036854775807 := ⟨by omega, ob2p⟩
     refine q2rr [] [] ⟨26, [(0, q2aW x1), (1, q2aW x2), (12, .i (lZ x1)), (13, .i (((n3 + 1) : Nat) : Int))], [], [], 0⟩ (an1 ob2) ?_
     rw [hC0] at h
     exact lN (_, (n3 + 1)) (Le.mk rfl rfl ⟨.refl _, .refl _, .refl _, .refl _, trivial⟩ trivial) h (Nat.lt_succ_self _)
   ·
    replace h := ite_fb hc2 h
    refine AWp.exit ?_
    refine tE ?_
    refine tE ?_
    refine kS ?_
    exact jN () (Le.mk rfl rfl trivial trivial) h
  ·
   rintro ⟨⟩ h
   replace h := (congrFun hK1 _).symm.trans h
   refine q2rq [] [] ⟨26, [(4, .bool true)], [], [], 0⟩ trivial ?_
   have hret := oJ h
   subst hret
   refine AWp.le (Le.mk (s' := ⟨26, [(4, .bool true)], [], [], 0⟩) rfl rfl ⟨.refl _, trivial⟩ trivial) ?_
   refine AWp.ret ?_
   exact bR _ rfl ⟨rfl, rfl⟩ rfl
abbrev f4z0 (r1 : (List Tq0) × Int) : List V := [.str ([99] : List UInt8), .int .i64 (2 : Int), .b16 (BitVec.ofInt 16 15), .own 9, .own 9, vL 2 eWW (default : Tq0) r1.1]
abbrev f4z1 (r1 : (List Tq0) × Int) (r2 : Int × List (TB)) := ((r1.2 == (0 : Int)) && (r2.1 == (0 : Int)))
abbrev f4z2 : Heap := [(9, bL 27 1 eW 0#16 [(BitVec.ofInt 16 7), (BitVec.ofInt 16 11), (BitVec.ofInt 16 13), (BitVec.ofInt 16 14)])]
abbrev f4z3 : List V := [.str ([100] : List UInt8), .int .i64 (2 : Int), .b16 (BitVec.ofInt 16 7), .own 24, .own 24, .own 28]
abbrev f4z4 := (BitVec.ofInt 16 11)
abbrev f4z5 := (BitVec.ofInt 16 13)
abbrev f4z6 := (BitVec.ofInt 16 14)
def f4  : Option Bool :=
 (f14 (4 : Int) (1 : Int) (0 : Int)).bind fun (r1 : (List Tq0) × Int) =>
 (f10 ([99] : List UInt8) (2 : Int) (BitVec.ofInt 16 15) [(BitVec.ofInt 16 7), (BitVec.ofInt 16 11), (BitVec.ofInt 16 13), (BitVec.ofInt 16 14)] [(BitVec.ofInt 16 7), (BitVec.ofInt 16 11), (BitVec.ofInt 16 13), (BitVec.ofInt 16 14)] r1.1 (BitVec.ofInt 16 0) r1.1).bind fun (r2 : Int × List (TB)) =>
 optc (((r1.2 == (0 : Int)) && (r2.1 == (0 : Int))) == true) (f15 ([99] : List UInt8) (2 : Int) (BitVec.ofInt 16 15) [(BitVec.ofInt 16 7), (BitVec.ofInt 16 11), (BitVec.ofInt 16 13), (BitVec.ofInt 16 14)] [(BitVec.ofInt 16 7), (BitVec.ofInt 16 11), (BitVec.ofInt 16 13), (BitVec.ofInt 16 14)] r1.1 (BitVec.ofInt 16 0)) fun (r3 : Bool) =>
 optc ((((r1.2 == (0 : Int)) && (r2.1 == (0 : Int))) && r3) == true) (f15 ([100] : List UInt8) (2 : Int) (BitVec.ofInt 16 7) [(BitVec.ofInt 16 3), (BitVec.ofInt 16 5), (BitVec.ofInt 16 6)] [(BitVec.ofInt 16 3), (BitVec.ofInt 16 5), (BitVec.ofInt 16 6)] [((BitVec.ofInt 16 1), (BitVec.ofInt 16 0))] (BitVec.ofInt 16 0)) fun (r4 : Bool) =>
 optc (((((r1.2 == (0 : Int)) && (r2.1 == (0 : Int))) && r3) && (!r4)) == true) (f11 r2.2 [(BitVec.ofInt 16 7), (BitVec.ofInt 16 11), (BitVec.ofInt 16 13), (BitVec.ofInt 16 14)]) fun (r5 : Bool) =>
 some (((((r1.2 == (0 : Int)) && (r2.1 == (0 : Int))) && r3) && (!r4)) && r5)
theorem f4_ok   (r : Bool) (h : f4 = some r)  : Spec1 Tryz.prog 4 [(0, .elem 32 1 T0F 0 0)] [] [] [] (.bool r) [] := by
 unfold f4 at h
 refine Spec1.body 0 _ _ Tryz.func4 rfl Tryz.ntmps4 rfl rfl ?_
 refine q2rq [] [] ⟨50, [(1000000, .elem 32 1 T0F 0 0)], [], [], 0⟩ trivial ?_
 refine q2rq [] [] ⟨50, [(1, .own 9), (1000000, .elem 32 1 T0F 0 0)], [(9, .rows 27 1 4 (lstF 1 [.b16 (q2w16 7), .b16 (f4z4), .b16 (f4z5), .b16 (f4z6)]))], [], 0⟩ trivial ?_
 refine AWp.le (Le.mk (s' := ⟨50, [(1, .own 9), (1000000, .elem 32 1 T0F 0 0)], (f4z2), [], 0⟩) rfl rfl ⟨.refl _, .refl _, trivial⟩ ⟨⟨_, rfl, (BLe.of (RL.lst (enc := eW) [(q2w16 7), (f4z4), (f4z5), (f4z6)] rfl rfl (fun _ => rfl)))⟩, trivial⟩) ?_
 refine AWp.seq ?_
 obtain ⟨r1, hr1, h⟩ := bind_ok h
 refine q2rr [] [(0, ⟨[.i (4 : Int), .i (1 : Int), .i (0 : Int)], [], [], [], .tup [q2aWW r1.1, .i r1.2], [], [], [0]⟩)] ⟨50, [(1, .own 9), (2, q2aWW r1.1), (3, .i r1.2), (1000000, .elem 32 1 T0F 0 0)], (f4z2), [], 0⟩ (an1 (cpT (f14_ok _ _ _ _ hr1))) ?_
 refine tN ?_
 refine q2rq [] [] ⟨50, [(1, .own 9), (2, q2aWW r1.1), (3, .i r1.2), (4, .ptr 4 0), (1000000, .elem 32 1 T0F 0 0)], [(4, .cells 33 (f4z0 r1)), (9, q2bW_27 [(q2w16 7), (f4z4), (f4z5), (f4z6)])], [], 0⟩ (an1 trivial) ?_
 refine AWp.seq ?_
 obtain ⟨r2, hr2, h⟩ := bind_ok h
 refine q2rr [] [(2, ⟨[.agg [.str ([99] : List UInt8), .i (2 : Int), .b16 (q2w16 15), q2aW [(q2w16 7), (f4z4), (f4z5), (f4z6)], q2aW [(q2w16 7), (f4z4), (f4z5), (f4z6)], q2aWW r1.1], .b16 (q2w16 0), q2aWW r1.1], [], [], [(6001, q2bW_27 r2.2)], .tup [.own 6001, .i r2.1], [6001], [9], [0]⟩)] ⟨50, [(1, .own 9), (3, .i r1.2), (4, .ptr 4 0), (5, .own 6001), (6, .i r2.1), (1000000, .elem 32 1 T0F 0 0)], [(4, .cells 33 (f4z0 r1)), (9, q2bW_27 [(q2w16 7), (f4z4), (f4z5), (f4z6)]), (6001, q2bW_27 r2.2)], [], 0⟩ (an1 (cpL (c := true) (f4z2) [9] [.agg (f4z0 r1), .b16 (q2w16 0), q2aWW r1.1] (fun _ => (Spec1.ren (swapN 3000 6001) (swapN_inv 3000 6001) rfl (f10_ok _ _ _ _ _ _ _ _ _ hr2))) (fun _ => ⟨.refl _, .refl _, .refl _, trivial⟩) (.inr ⟨rfl, ⟨(fun _ _ _ _ => eW_flat _ _), trivial⟩⟩))) ?_
 refine tN ?_
 refine q2rq [] [] ⟨50, [(1, .own 9), (3, .i r1.2), (4, .ptr 4 0), (5, .own 6001), (6, .i r2.1), (7, .own 24), (1000000, .elem 32 1 T0F 0 0)], [(4, .cells 33 (f4z0 r1)), (9, q2bW_27 [(q2w16 7), (f4z4), (f4z5), (f4z6)]), (24, .rows 27 1 3 (lstF 1 [.b16 (q2w16 3), .b16 (q2w16 5), .b16 (q2w16 6)])), (6001, q2bW_27 r2.2)], [], 0⟩ trivial ?_
 refine AWp.le (Le.mk (s' := ⟨50, [(1, .own 9), (3, .i r1.2), (4, .ptr 4 0), (5, .own 6001), (6, .i r2.1), (7, .own 24), (1000000, .elem 32 1 T0F 0 0)], [(4, .cells 33 (f4z0 r1)), (9, q2bW_27 [(q2w16 7), (f4z4), (f4z5), (f4z6)]), (24, q2bW_27 [(q2w16 3), (q2w16 5), (q2w16 6)]), (6001, q2bW_27 r2.2)], [], 0⟩) rfl rfl ⟨.refl _, .refl _, .refl _, .refl _, .refl _, .refl _, .refl _, trivial⟩ ⟨⟨_, rfl, .refl _⟩, ⟨_, rfl, .refl _⟩, ⟨_, rfl, (BLe.of (RL.lst (enc := eW) [(q2w16 3), (q2w16 5), (q2w16 6)] rfl rfl (fun _ => rfl)))⟩, ⟨_, rfl, .refl _⟩, trivial⟩) ?_
 refine q2rq [] [] ⟨50, [(1, .own 9), (3, .i r1.2), (4, .ptr 4 0), (5, .own 6001), (6, .i r2.1), (8, .ptr 8 0), (1000000, .elem 32 1 T0F 0 0)], [(4, .cells 33 (f4z0 r1)), (8, .cells 33 (f4z3)), (9, q2bW_27 [(q2w16 7), (f4z4), (f4z5), (f4z6)]), (24, q2bW_27 [(q2w16 3), (q2w16 5), (q2w16 6)]), (28, .rows 43 2 1 (lstF 2 [.b16 (q2w16 1), .b16 (q2w16 0)])), (6001, q2bW_27 r2.2)], [], 0⟩ (an1 trivial) ?_
 refine AWp.le (Le.mk (s' := ⟨50, [(1, .own 9), (3, .i r1.2), (4, .ptr 4 0), (5, .own 6001), (6, .i r2.1), (8, .ptr 8 0), (1000000, .elem 32 1 T0F 0 0)], [(4, .cells 33 (f4z0 r1)), (8, .cells 33 (f4z3)), (9, q2bW_27 [(q2w16 7), (f4z4), (f4z5), (f4z6)]), (24, q2bW_27 [(q2w16 3), (q2w16 5), (q2w16 6)]), (28, q2bWW_43 [((q2w16 1), (q2w16 0))]), (6001, q2bW_27 r2.2)], [], 0⟩) rfl rfl ⟨.refl _, .refl _, .refl _, .refl _, .refl _, .refl _, .refl _, trivial⟩ ⟨⟨_, rfl, .refl _⟩, ⟨_, rfl, .refl _⟩, ⟨_, rfl, .refl _⟩, ⟨_, rfl, .refl _⟩, ⟨_, rfl, (BLe.of (RL.lst (enc := eWW) [((q2w16 1), (q2w16 0))] rfl rfl (fun _ => rfl)))⟩, ⟨_, rfl, .refl _⟩, trivial⟩) ?_
 refine AWp.seq ?_
 obtain ⟨r3, hr3, h⟩ := optc_some h
 obtain ⟨r4, hr4, h⟩ := optc_some h
 obtain ⟨r5, hr5, h⟩ := optc_some h
 have ob0 := idA (((r1.2 == (0 : Int)) == true) = true)
 have ob1 := bqA (r1.2 == (0 : Int)) true
 have ob2 := idA (((f4z1 r1 r2) == true) = true)
 have ob3 := bqA (f4z1 r1 r2) true
 have ob4 := idA ((((f4z1 r1 r2) && r3) == true) = true)
 have ob5 := idA ((((f4z1 r1 r2) && r3) == true) = true)
 have ob6 := bqA ((f4z1 r1 r2) && r3) true
 have ob7 := idA (((((f4z1 r1 r2) && r3) && (!r4)) == true) = true)
 have ob8 := idA (((((f4z1 r1 r2) && r3) && (!r4)) == true) = true)
 have ob9 := bqA (((f4z1 r1 r2) && r3) && (!r4)) true
 refine q2rr [] [(8, ⟨[.agg [.str ([99] : List UInt8), .i (2 : Int), .b16 (q2w16 15), q2aW [(q2w16 7), (f4z4), (f4z5), (f4z6)], q2aW [(q2w16 7), (f4z4), (f4z5), (f4z6)], q2aWW r1.1], .b16 (q2w16 0)], [], [], [], .bool r3, [], [9], [0]⟩), (12, ⟨[.agg [.str ([100] : List UInt8), .i (2 : Int), .b16 (q2w16 7), q2aW [(q2w16 3), (q2w16 5), (q2w16 6)], q2aW [(q2w16 3), (q2w16 5), (q2w16 6)], q2aWW [((q2w16 1), (q2w16 0))]], .b16 (q2w16 0)], [], [], [], .bool r4, [], [24, 28], [0]⟩), (18, ⟨[q2aW r2.2, q2aW [(q2w16 7), (f4z4), (f4z5), (f4z6)]], [], [], [], .bool r5, [], [6001, 9], []⟩)] ⟨50, [(0, .bool ((((f4z1 r1 r2) && r3) && (!r4)) && r5)), (1000000, .elem 32 1 T0F 0 0)], [], [], 0⟩ (ac6 (an1 ob0) ob1 (And.intro (cpL (f4z2) [9] [.agg (f4z0 r1), .b16 (q2w16 0)] (fun hc => (f15_ok _ _ _ _ _ _ _ _ (hr3 hc))) (fun _ => ⟨.refl _, .refl _, trivial⟩) (.inr ⟨rfl, trivial⟩)) (an1 ob2)) ob3 (And.intro (cpL [(24, q2bW_27 [(q2w16 3), (q2w16 5), (q2w16 6)]), (28, q2bWW_43 [((q2w16 1), (q2w16 0))])] [24, 28] [.agg (f4z3), .b16 (q2w16 0)] (fun hc => (f15_ok _ _ _ _ _ _ _ _ (hr4 hc))) (fun _ => ⟨.refl _, .refl _, trivial⟩) (.inr ⟨rfl, trivial⟩)) (an1 ob4)) (an1 ob5) (an3 ob6 (And.intro (cpL [(6001, q2bW_27 r2.2), (9, q2bW_27 [(q2w16 7), (f4z4), (f4z5), (f4z6)])] [6001, 9] [.own 6001, .own 9] (fun hc => (f11_ok _ _ _ (hr5 hc))) (fun _ => ⟨.refl _, .refl _, trivial⟩) (.inr ⟨rfl, trivial⟩)) (an2 ob7 ob8)) ob9)) ?_
 refine tN ?_
 have hret := oJ h
 subst hret
 refine AWp.le (Le.mk (s' := ⟨50, [(0, .bool ((((f4z1 r1 r2) && r3) && (!r4)) && r5))], [], [], 0⟩) rfl rfl ⟨.refl _, trivial⟩ trivial) ?_
 refine AWp.ret ?_
 exact bR _ rfl ⟨rfl, rfl⟩ rfl
def f58 (x1 : BitVec 16) (x2 : BitVec 16) : Option Bool :=
 some ((x1 &&& ~~~x2) == (BitVec.ofInt 16 0))
theorem f58_ok  (x1 : TB) (x2 : TB) (r : Bool) (h : f58 x1 x2 = some r)  : Spec1 Tryz.prog 58 [] [] [] [.b16 x1, .b16 x2] (.bool r) [] := by
 unfold f58 at h
 refine Spec1.body 0 _ _ Tryz.func58 rfl Tryz.ntmps58 rfl rfl ?_
 refine q2rq [] [] ⟨9, [(0, .b16 x1), (1, .b16 x2)], [], [], 0⟩ trivial ?_
 refine q2rq [] [] ⟨9, [(4, .bool ((x1 &&& ~~~x2) == (q2w16 0)))], [], [], 0⟩ trivial ?_
 have hret := oJ h
 subst hret
 refine AWp.le (Le.mk (s' := ⟨9, [(4, .bool ((x1 &&& ~~~x2) == (q2w16 0)))], [], [], 0⟩) rfl rfl ⟨.refl _, trivial⟩ trivial) ?_
 refine AWp.ret ?_
 exact bR _ rfl ⟨rfl, rfl⟩ rfl
abbrev f94z0 (x2 : Int) := ((decide (x2 ≥ (0 : Int))) && (decide (x2 < (16 : Int))))
def f94 (x1 : BitVec 16) (x2 : Int) : Option Bool :=
 chk ((((decide (x2 ≥ (0 : Int))) && (decide (x2 < (16 : Int)))) == true) = true → 0 ≤ x2) <|
 some (((decide (x2 ≥ (0 : Int))) && (decide (x2 < (16 : Int)))) && (((x1 >>> ((x2).toNat)) &&& (BitVec.ofInt 16 1)) == (BitVec.ofInt 16 1)))
theorem f94_ok  (x1 : TB) (x2 : Int) (r : Bool) (h : f94 x1 x2 = some r)  : Spec1 Tryz.prog 94 [] [] [] [.b16 x1, .int .i64 x2] (.bool r) [] := by
 unfold f94 at h
 refine Spec1.body 0 _ _ Tryz.func94 rfl Tryz.ntmps94 rfl rfl ?_
 refine q2rq [] [] ⟨18, [(0, .b16 x1), (1, .i x2)], [], [], 0⟩ trivial ?_
 refine AWp.seq ?_
 have ob0 := idA (((decide (x2 ≥ (0 : Int))) == true) = true)
 have ob1 := bqA (decide (x2 ≥ (0 : Int))) true
 obtain ⟨ob2, h⟩ := chk_some h
 have ob3 := idA (((f94z0 x2) == true) = true)
 have ob4 := idA (((f94z0 x2) == true) = true)
 have ob5 := idA (((f94z0 x2) == true) = true)
 have ob6 := idA (((f94z0 x2) == true) = true)
 have ob7 := bqA (f94z0 x2) true
 refine q2rr [] [] ⟨18, [(4, .bool ((f94z0 x2) && (((x1 >>> ((x2).toNat)) &&& (q2w16 1)) == (q2w16 1))))], [], [], 0⟩ (an6 (an1 ob0) ob1 (And.intro ob2 (an2 ob3 ob4)) (an1 ob5) (an1 ob6) ob7) ?_
 refine tN ?_
 have hret := oJ h
 subst hret
 refine AWp.le (Le.mk (s' := ⟨18, [(4, .bool ((f94z0 x2) && (((x1 >>> ((x2).toNat)) &&& (q2w16 1)) == (q2w16 1))))], [], [], 0⟩) rfl rfl ⟨.refl _, trivial⟩ trivial) ?_
 refine AWp.ret ?_
 exact bR _ rfl ⟨rfl, rfl⟩ rfl
def f80_L0 (x1 : BitVec 16) (K1 : (List Int) → Option (List Int)) : Nat → (Nat × List Int) → Option (List Int)
 | 0, _ => none
 | k + 1, (n2, l3) =>
  if (decide ((n2 : Int) < (16 : Int))) then (
  jn (fun (l5 : List Int) =>
  chk (((n2 : Int) + (1 : Int)) ≤ 9223372036854775807) <|
  (f80_L0 x1 K1 k) ((n2 + 1), l5)
  ) fun (K2 : (List Int) → Option (List Int)) =>
  (f94 x1 (n2 : Int)).bind fun (r4 : Bool) =>
  if r4 then (
  chk (((l3).length + 1) * 8 ≤ 140737488355328) <|
  K2 (l3 ++ [(n2 : Int)])
  ) else (
  K2 l3
  )
  ) else (
  K1 l3
  )
abbrev f80z0 (x1 : TB) (n2 : Nat) : List (Nat × V) := [(0, .b16 x1), (3, .own 5003), (4, .int .i64 (n2 : Int))]
abbrev f80z1 (x1 : TB) (n2 : Nat) : List (Nat × V) := [(0, .b16 x1), (3, .own 15), (4, .int .i64 (n2 : Int))]
def f80 (x1 : BitVec 16) : Option (List Int) :=
 jn (fun (l6 : List Int) =>
 some l6
 ) fun (K1 : (List Int) → Option (List Int)) =>
 f80_L0 x1 K1 FUEL (0, [])
theorem f80_ok  (x1 : TB) (r : List Int) (h : f80 x1 = some r)  : Spec1 Tryz.prog 80 [] [] [] [.b16 x1] (.own 3000) [(3000, bL 3 1 eI 0 r)] := by
 unfold f80 at h
 refine Spec1.body 0 _ _ Tryz.func80 rfl Tryz.ntmps80 rfl rfl ?_
 refine q2rq [] [] ⟨17, [(0, .b16 x1)], [], [], 0⟩ trivial ?_
 refine q2rq [] [] ⟨17, [(0, .b16 x1), (3, .nils)], [], [], 0⟩ trivial ?_
 obtain ⟨K1, hK1, h⟩ := jn_some h
 refine AWp.join (α := List Int) (fun (l6 : List Int) => ⟨17, [(3, .own 5003)], [(5003, q2bI_3 l6)], [], 0⟩) (fun x => K1 x = some r) ?_ ?_
 ·
  refine q2rq [] [] ⟨17, [(0, .b16 x1), (3, .nils), (4, .i (0 : Int))], [], [], 0⟩ trivial ?_
  refine AWp.block ?_
  refine AWp.loopL (α := Nat × (Nat × List Int)) (fun x => match x with | (_, n2, l3) => ⟨17, (f80z0 x1 n2), [(5003, q2bI_3 l3)], [], 0⟩) (fun x => f80_L0 x1 K1 x.1 x.2 = some r) (fun x => x.1) (FUEL, 0, []) (Le.trans (Le.trans (Le.nilOwn 3 5003 3 1 (encF eI 0 []) rfl rfl (Nat.le_of_ble_eq_true rfl)) (Le.mk (s' := ⟨17, [(0, .b16 x1), (3, .own 5003), (4, .i (0 : Int))], [(5003, q2bI_3 [])], [], 0⟩) rfl rfl ⟨.refl _, .refl _, .refl _, trivial⟩ ⟨⟨_, rfl, .refl _⟩, trivial⟩)) (Le.mk (s' := ⟨17, [(0, .b16 x1), (3, .own 5003), (4, .i (0 : Int))], [(5003, q2bI_3 [])], [], 0⟩) rfl rfl ⟨.refl _, .refl _, .refl _, trivial⟩ ⟨⟨_, rfl, .refl _⟩, trivial⟩)) h ?_
  rintro ⟨k0, n2, l3⟩ h
  cases k0 with
  | zero => exact nomatch (show (none : Option (List Int)) = some r from h)
  | succ k0 =>
  obtain ⟨C0, hC0⟩ : ∃ C, C = f80_L0 x1 K1 k0 := ⟨_, rfl⟩
  replace h := (f80_L0.eq_2 ..).symm.trans h
  try rw [← hC0] at h
  refine AWp.seq ?_
  refine q2rq [] [] ⟨17, [(0, .b16 x1), (3, .own 5003), (4, .i (n2 : Int)), (6, .bool (decide ((n2 : Int) < (16 : Int))))], [(5003, q2bI_3 l3)], [], 0⟩ trivial ?_
  refine AWp.cond (b := (decide ((n2 : Int) < (16 : Int)))) (by kernel_rfl) (fun hc1 => ?_) (fun hc1 => ?_)
  ·
   replace h := ite_tb hc1 h
   refine AWp.skip ?_
   refine tN ?_
   obtain ⟨K2, hK2, h⟩ := jn_some h
   refine AWp.join (α := List Int) (fun (l5 : List Int) => ⟨17, (f80z1 x1 n2), [(15, q2bI_3 l5)], [], 0⟩) (fun x => K2 x = some r) ?_ ?_
   ·
    refine AWp.block ?_
    refine AWp.seq ?_
    obtain ⟨r4, hr4, h⟩ := bind_ok h
    refine q2rr [] [(2, ⟨[.b16 x1, .i (n2 : Int)], [], [], [], .bool r4, [], [], []⟩)] ⟨17, [(0, .b16 x1), (3, .own 5003), (4, .i (n2 : Int)), (11, .bool r4)], [(5003, q2bI_3 l3)], [], 0⟩ (an1 (cpT (f94_ok _ _ _ hr4))) ?_
    refine tN ?_
    refine AWp.cond (b := r4) (by kernel_rfl) (fun hc2 => ?_) (fun hc2 => ?_)
    ·
     replace h := ite_tb hc2 h
     obtain ⟨ob0, h⟩ := chk_some h
     refine q2rr [] [] ⟨17, (f80z0 x1 n2), [(5003, .rows 3 1 ((l3).length + 1) (appF (l3).length (encF eI 0 l3) (lstF 1 [.i (n2 : Int)])))], [], 0⟩ (an1 ob0) ?_
     refine kN ?_
     exact jN ((l3 ++ [(n2 : Int)])) (Le.trans (Le.mk (s' := ⟨17, (f80z0 x1 n2), [(5003, q2bI_3 (l3 ++ [(n2 : Int)]))], [], 0⟩) rfl rfl ⟨.refl _, .refl _, .refl _, trivial⟩ ⟨⟨_, rfl, (BLe.of (RL.app (RL.self _) (RL.lst (enc := eI) [(n2 : Int)] rfl rfl (fun _ => rfl))))⟩, trivial⟩) (Le.trans (Le.trans (Le.ren (swapN 5003 15) (swapN_inv 5003 15) rfl) (Le.mk (s' := ⟨17, (f80z1 x1 n2), [(15, q2bI_3 (l3 ++ [(n2 : Int)]))], [], 0⟩) rfl rfl ⟨.refl _, .refl _, .refl _, trivial⟩ ⟨⟨_, rfl, .refl _⟩, trivial⟩)) (Le.mk rfl rfl ⟨.refl _, .refl _, .refl _, trivial⟩ ⟨⟨_, rfl, .refl _⟩, trivial⟩))) h
    ·
     replace h := ite_fb hc2 h
     refine AWp.skip ?_
     refine kN ?_
     exact jN (l3) (Le.trans (Le.trans (Le.ren (swapN 5003 15) (swapN_inv 5003 15) rfl) (Le.mk (s' := ⟨17, [(0, .b16 x1), (3, .own 15), (4, .i (n2 : Int)), (11, .bool r4)], [(15, q2bI_3 l3)], [], 0⟩) rfl rfl ⟨.refl _, .refl _, .refl _, .refl _, trivial⟩ ⟨⟨_, rfl, .refl _⟩, trivial⟩)) (Le.mk rfl rfl ⟨.refl _, .refl _, .refl _, trivial⟩ ⟨⟨_, rfl, .refl _⟩, trivial⟩)) h
   ·
    rintro l5 h
    replace h := (congrFun hK2 _).symm.trans h
    obtain ⟨ob1p, h⟩ := chk_some h
    have ob1 : -9223372036854775808 ≤ ((n2 : Int) + (1 : Int)) ∧ ((n2 : Int) + (1 : Int)) ≤ 9223372036854775807 := ⟨by omega, ob1p⟩
    refine q2rr [] [] ⟨17, [(0, .b16 x1), (3, .own 15), (4, .i (((n2 + 1) : Nat) : Int))], [(15, q2bI_3 l5)], [], 0⟩ (an1 ob1) ?_
    rw [hC0] at h
    exact lN (_, (n2 + 1), l5) (Le.trans (Le.trans (Le.ren (swapN 15 5003) (swapN_inv 15 5003) rfl) (Le.mk (s' := ⟨17, [(0, .b16 x1), (3, .own 5003), (4, .i (((n2 + 1) : Nat) : Int))], [(5003, q2bI_3 l5)], [], 0⟩) rfl rfl ⟨.refl _, .refl _, .refl _, trivial⟩ ⟨⟨_, rfl, .refl _⟩, trivial⟩)) (Le.mk rfl rfl ⟨.refl _, .refl _, .refl _, trivial⟩ ⟨⟨_, rfl, .refl _⟩, trivial⟩)) h (Nat.lt_succ_self _)
  ·
   replace h := ite_fb hc1 h
   refine AWp.exit ?_
   refine tE ?_
   refine tE ?_
   refine kS ?_
   exact jN (l3) (Le.mk rfl rfl ⟨.refl _, trivial⟩ ⟨⟨_, rfl, .refl _⟩, trivial⟩) h
 ·
  rintro l6 h
  replace h := (congrFun hK1 _).symm.trans h
  refine q2rq [] [] ⟨17, [(2, .own 5003)], [(5003, q2bI_3 l6)], [], 0⟩ trivial ?_
  refine AWp.le (Le.trans (Le.ren (swapN 5003 3000) (swapN_inv 5003 3000) rfl) (Le.mk (s' := ⟨17, [(2, .own 3000)], [(3000, q2bI_3 l6)], [], 0⟩) rfl rfl ⟨.refl _, trivial⟩ ⟨⟨_, rfl, .refl _⟩, trivial⟩)) ?_
  have hret := oJ h
  subst hret
  refine AWp.le (Le.mk (s' := ⟨17, [(2, .own 3000)], [(3000, q2bI_3 l6)], [], 0⟩) rfl rfl ⟨.refl _, trivial⟩ ⟨⟨_, rfl, .refl _⟩, trivial⟩) ?_
  refine AWp.ret ?_
  exact bR _ rfl ⟨rfl, rfl⟩ rfl
def f59 (x1 : BitVec 16) : Option Int :=
 (f80 x1).bind fun (r2 : List Int) =>
 some (((r2).length : Nat) : Int)
theorem f59_ok  (x1 : TB) (r : Int) (h : f59 x1 = some r)  : Spec1 Tryz.prog 59 [] [] [] [.b16 x1] (.int .i64 r) [] := by
 unfold f59 at h
 refine Spec1.body 0 _ _ Tryz.func59 rfl Tryz.ntmps59 rfl rfl ?_
 refine q2rq [] [] ⟨6, [(0, .b16 x1)], [], [], 0⟩ trivial ?_
 refine AWp.seq ?_
 obtain ⟨r2, hr2, h⟩ := bind_ok h
 refine q2rr [] [(1, ⟨[.b16 x1], [], [], [(6001, q2bI_3 r2)], .own 6001, [6001], [], []⟩)] ⟨6, [(2, .i (lZ r2))], [], [], 0⟩ (an1 (cpT (Spec1.ren (swapN 3000 6001) (swapN_inv 3000 6001) rfl (f80_ok _ _ hr2)))) ?_
 refine tN ?_
 have hret := oJ h
 subst hret
 refine AWp.le (Le.mk (s' := ⟨6, [(2, .i (lZ r2))], [], [], 0⟩) rfl rfl ⟨.refl _, trivial⟩ trivial) ?_
 refine AWp.ret ?_
 exact bR _ rfl ⟨rfl, rfl⟩ rfl
def f34_L0 (x1 : BitVec 16) (x2 : Int) (K1 : (List (BitVec 16)) → Option (List (BitVec 16))) : Nat → Tq1 → Option (List (BitVec 16))
 | 0, _ => none
 | k + 1, (n3, l4) =>
  if (decide ((n3 : Int) < (65536 : Int))) then (
  jn (fun (l7 : List (BitVec 16)) =>
  chk (((n3 : Int) + (1 : Int)) ≤ 9223372036854775807) <|
  (f34_L0 x1 x2 K1 k) ((n3 + 1), l7)
  ) fun (K2 : (List (TB)) → Option (List (TB))) =>
  (f58 (BitVec.ofInt 16 (n3 : Int)) x1).bind fun (r5 : Bool) =>
  optc (r5 == true) (f59 (BitVec.ofInt 16 (n3 : Int))) fun (r6 : Int) =>
  chk ((r5 == true) = true → True) <|
  if (r5 && (r6 == x2)) then (
  chk (((l4).length + 1) * 2 ≤ 140737488355328) <|
  K2 (l4 ++ [(BitVec.ofInt 16 (n3 : Int))])
  ) else (
  K2 l4
  )
  ) else (
  K1 l4
  )
theorem f34_L0_e2 (x1 : BitVec 16) (x2 : Int) (K1 : (List (BitVec 16)) → Option (List (BitVec 16))) (k : Nat) (n3 : Nat) (l4 : List (BitVec 16)) : f34_L0 x1 x2 K1 (k + 1) (n3, l4) =
  if (decide ((n3 : Int) < (65536 : Int))) then (
  jn (fun (l7 : List (BitVec 16)) =>
  chk (((n3 : Int) + (1 : Int)) ≤ 9223372036854775807) <|
  (f34_L0 x1 x2 K1 k) ((n3 + 1), l7)
  ) fun (K2 : (List (TB)) → Option (List (TB))) =>
  (f58 (BitVec.ofInt 16 (n3 : Int)) x1).bind fun (r5 : Bool) =>
  optc (r5 == true) (f59 (BitVec.ofInt 16 (n3 : Int))) fun (r6 : Int) =>
  chk ((r5 == true) = true → True) <|
  if (r5 && (r6 == x2)) then (
  chk (((l4).length + 1) * 2 ≤ 140737488355328) <|
  K2 (l4 ++ [(BitVec.ofInt 16 (n3 : Int))])
  ) else (
  K2 l4
  )
  ) else (
  K1 l4
  ) := rfl
abbrev f34z0 (n3 : Nat) := (BitVec.ofInt 16 (n3 : Int))
abbrev f34z1 (x1 : TB) (x2 : Int) (n3 : Nat) : List (Nat × V) := [(0, .b16 x1), (1, .int .i64 x2), (5, .own 5005), (6, .int .i64 (n3 : Int))]
abbrev f34z2 (x1 : TB) (x2 : Int) (n3 : Nat) : List (Nat × V) := [(0, .b16 x1), (1, .int .i64 x2), (5, .own 26), (6, .int .i64 (n3 : Int))]
def f34 (x1 : BitVec 16) (x2 : Int) : Option (List (BitVec 16)) :=
 jn (fun (l8 : List (BitVec 16)) =>
 some l8
 ) fun (K1 : (List (TB)) → Option (List (TB))) =>
 f34_L0 x1 x2 K1 FUEL (0, [])
theorem f34_ok  (x1 : TB) (x2 : Int) (r : List (TB)) (h : f34 x1 x2 = some r)  : Spec1 Tryz.prog 34 [] [] [] [.b16 x1, .int .i64 x2] (.own 3000) [(3000, bL 27 1 eW 0#16 r)] := by
 unfold f34 at h
 refine Spec1.body 0 _ _ Tryz.func34 rfl Tryz.ntmps34 rfl rfl ?_
 refine q2rq [] [] ⟨28, [(0, .b16 x1), (1, .i x2)], [], [], 0⟩ trivial ?_
 refine q2rq [] [] ⟨28, [(0, .b16 x1), (1, .i x2), (5, .nils)], [], [], 0⟩ trivial ?_
 obtain ⟨K1, hK1, h⟩ := jn_some h
 refine AWp.join (α := List (TB)) (fun (l8 : List (TB)) => ⟨28, [(5, .own 5005)], [(5005, q2bW_27 l8)], [], 0⟩) (fun x => K1 x = some r) ?_ ?_
 ·
  refine q2rq [] [] ⟨28, [(0, .b16 x1), (1, .i x2), (5, .nils), (6, .i (0 : Int))], [], [], 0⟩ trivial ?_
  refine AWp.block ?_
  refine AWp.loopL (α := Nat × Tq1) (fun x => match x with | (_, n3, l4) => ⟨28, (f34z1 x1 x2 n3), [(5005, q2bW_27 l4)], [], 0⟩) (fun x => f34_L0 x1 x2 K1 x.1 x.2 = some r) (fun x => x.1) (FUEL, 0, []) (Le.trans (Le.trans (Le.nilOwn 5 5005 27 1 (encF eW 0#16 []) rfl rfl (Nat.le_of_ble_eq_true rfl)) (Le.mk (s' := ⟨28, [(0, .b16 x1), (1, .i x2), (5, .own 5005), (6, .i (0 : Int))], [(5005, q2bW_27 [])], [], 0⟩) rfl rfl ⟨.refl _, .refl _, .refl _, .refl _, trivial⟩ ⟨⟨_, rfl, .refl _⟩, trivial⟩)) (Le.mk (s' := ⟨28, [(0, .b16 x1), (1, .i x2), (5, .own 5005), (6, .i (0 : Int))], [(5005, q2bW_27 [])], [], 0⟩) rfl rfl ⟨.refl _, .refl _, .refl _, .refl _, trivial⟩ ⟨⟨_, rfl, .refl _⟩, trivial⟩)) h ?_
  rintro ⟨k0, n3, l4⟩ h
  cases k0 with
  | zero => exact nomatch (show (none : Option (List (TB))) = some r from h)
  | succ k0 =>
  obtain ⟨C0, hC0⟩ : ∃ C, C = f34_L0 x1 x2 K1 k0 := ⟨_, rfl⟩
  replace h := (f34_L0_e2 ..).symm.trans h
  try rw [← hC0] at h
  refine AWp.seq ?_
  refine q2rq [] [] ⟨28, [(0, .b16 x1), (1, .i x2), (5, .own 5005), (6, .i (n3 : Int)), (8, .bool (decide ((n3 : Int) < (65536 : Int))))], [(5005, q2bW_27 l4)], [], 0⟩ trivial ?_
  refine AWp.cond (b := (decide ((n3 : Int) < (65536 : Int)))) (by kernel_rfl) (fun hc1 => ?_) (fun hc1 => ?_)
  ·
   replace h := ite_tb hc1 h
   refine AWp.skip ?_
   refine tN ?_
   obtain ⟨K2, hK2, h⟩ := jn_some h
   refine AWp.join (α := List (TB)) (fun (l7 : List (TB)) => ⟨28, (f34z2 x1 x2 n3), [(26, q2bW_27 l7)], [], 0⟩) (fun x => K2 x = some r) ?_ ?_
   ·
    refine AWp.block ?_
    refine AWp.seq ?_
    obtain ⟨r5, hr5, h⟩ := bind_ok h
    obtain ⟨r6, hr6, h⟩ := optc_some h
    obtain ⟨ob0, h⟩ := chk_some h
    have ob1 := idA ((r5 == true) = true)
    have ob2 := idA ((r5 == true) = true)
    have ob3 := idA ((r5 == true) = true)
    have ob4 := idA ((r5 == true) = true)
    have ob5 := bqA r5 true
    refine q2rr [] [(3, ⟨[.b16 (f34z0 n3), .b16 x1], [], [], [], .bool r5, [], [], []⟩), (7, ⟨[.b16 (f34z0 n3)], [], [], [], .i r6, [], [], []⟩)] ⟨28, [(0, .b16 x1), (1, .i x2), (5, .own 5005), (6, .i (n3 : Int)), (21, .bool (r5 && (r6 == x2)))], [(5005, q2bW_27 l4)], [], 0⟩ (an6 trivial (cpT (f58_ok _ _ _ hr5)) (And.intro ob0 (an1 ob1)) (And.intro (cpC fun hc => (f59_ok _ _ (hr6 hc))) (an1 ob2)) (an2 ob3 ob4) ob5) ?_
    refine tN ?_
    refine AWp.cond (b := (r5 && (r6 == x2))) (by kernel_rfl) (fun hc2 => ?_) (fun hc2 => ?_)
    ·
     replace h := ite_tb hc2 h
     obtain ⟨ob6, h⟩ := chk_some h
     refine q2rr [] [] ⟨28, (f34z1 x1 x2 n3), [(5005, .rows 27 1 ((l4).length + 1) (appF (l4).length (encF eW 0#16 l4) (lstF 1 [.b16 (f34z0 n3)])))], [], 0⟩ (an2 trivial ob6) ?_
     refine kN ?_
     exact jN ((l4 ++ [(f34z0 n3)])) (Le.trans (Le.mk (s' := ⟨28, (f34z1 x1 x2 n3), [(5005, q2bW_27 (l4 ++ [(f34z0 n3)]))], [], 0⟩) rfl rfl ⟨.refl _, .refl _, .refl _, .refl _, trivial⟩ ⟨⟨_, rfl, (BLe.of (RL.app (RL.self _) (RL.lst (enc := eW) [(f34z0 n3)] rfl rfl (fun _ => rfl))))⟩, trivial⟩) (Le.trans (Le.trans (Le.ren (swapN 5005 26) (swapN_inv 5005 26) rfl) (Le.mk (s' := ⟨28, (f34z2 x1 x2 n3), [(26, q2bW_27 (l4 ++ [(f34z0 n3)]))], [], 0⟩) rfl rfl ⟨.refl _, .refl _, .refl _, .refl _, trivial⟩ ⟨⟨_, rfl, .refl _⟩, trivial⟩)) (Le.mk rfl rfl ⟨.refl _, .refl _, .refl _, .refl _, trivial⟩ ⟨⟨_, rfl, .refl _⟩, trivial⟩))) h
    ·
     replace h := ite_fb hc2 h
     refine AWp.skip ?_
     refine kN ?_
     exact jN (l4) (Le.trans (Le.trans (Le.ren (swapN 5005 26) (swapN_inv 5005 26) rfl) (Le.mk (s' := ⟨28, [(0, .b16 x1), (1, .i x2), (5, .own 26), (6, .i (n3 : Int)), (21, .bool (r5 && (r6 == x2)))], [(26, q2bW_27 l4)], [], 0⟩) rfl rfl ⟨.refl _, .refl _, .refl _, .refl _, .refl _, trivial⟩ ⟨⟨_, rfl, .refl _⟩, trivial⟩)) (Le.mk rfl rfl ⟨.refl _, .refl _, .refl _, .refl _, trivial⟩ ⟨⟨_, rfl, .refl _⟩, trivial⟩)) h
   ·
    rintro l7 h
    replace h := (congrFun hK2 _).symm.trans h
    obtain ⟨ob7p, h⟩ := chk_some h
    have ob7 : -9223372036854775808 ≤ ((n3 : Int) + (1 : Int)) ∧ ((n3 : Int) + (1 : Int)) ≤ 9223372036854775807 := ⟨by omega, ob7p⟩
    refine q2rr [] [] ⟨28, [(0, .b16 x1), (1, .i x2), (5, .own 26), (6, .i (((n3 + 1) : Nat) : Int))], [(26, q2bW_27 l7)], [], 0⟩ (an1 ob7) ?_
    rw [hC0] at h
    exact lN (_, (n3 + 1), l7) (Le.trans (Le.trans (Le.ren (swapN 26 5005) (swapN_inv 26 5005) rfl) (Le.mk (s' := ⟨28, [(0, .b16 x1), (1, .i x2), (5, .own 5005), (6, .i (((n3 + 1) : Nat) : Int))], [(5005, q2bW_27 l7)], [], 0⟩) rfl rfl ⟨.refl _, .refl _, .refl _, .refl _, trivial⟩ ⟨⟨_, rfl, .refl _⟩, trivial⟩)) (Le.mk rfl rfl ⟨.refl _, .refl _, .refl _, .refl _, trivial⟩ ⟨⟨_, rfl, .refl _⟩, trivial⟩)) h (Nat.lt_succ_self _)
  ·
   replace h := ite_fb hc1 h
   refine AWp.exit ?_
   refine tE ?_
   refine tE ?_
   refine kS ?_
   exact jN (l4) (Le.mk rfl rfl ⟨.refl _, trivial⟩ ⟨⟨_, rfl, .refl _⟩, trivial⟩) h
 ·
  rintro l8 h
  replace h := (congrFun hK1 _).symm.trans h
  refine q2rq [] [] ⟨28, [(4, .own 5005)], [(5005, q2bW_27 l8)], [], 0⟩ trivial ?_
  refine AWp.le (Le.trans (Le.ren (swapN 5005 3000) (swapN_inv 5005 3000) rfl) (Le.mk (s' := ⟨28, [(4, .own 3000)], [(3000, q2bW_27 l8)], [], 0⟩) rfl rfl ⟨.refl _, trivial⟩ ⟨⟨_, rfl, .refl _⟩, trivial⟩)) ?_
  have hret := oJ h
  subst hret
  refine AWp.le (Le.mk (s' := ⟨28, [(4, .own 3000)], [(3000, q2bW_27 l8)], [], 0⟩) rfl rfl ⟨.refl _, trivial⟩ ⟨⟨_, rfl, .refl _⟩, trivial⟩) ?_
  refine AWp.ret ?_
  exact bR _ rfl ⟨rfl, rfl⟩ rfl
def f81_L0 (x1 : BitVec 16) (K1 : Nat → Option Int) : Nat → (Nat × Nat) → Option Int
 | 0, _ => none
 | k + 1, (n2, n3) =>
  if (decide ((n3 : Int) < (16 : Int))) then (
  chk (((n2 : Int) + ((((x1 >>> n3) &&& (BitVec.ofInt 16 1)).toNat : Nat) : Int)) ≤ 9223372036854775807) <|
  chk (((n3 : Int) + (1 : Int)) ≤ 9223372036854775807) <|
  (f81_L0 x1 K1 k) ((n2 + ((x1 >>> n3) &&& (BitVec.ofInt 16 1)).toNat), (n3 + 1))
  ) else (
  K1 n2
  )
def f81 (x1 : BitVec 16) : Option Int :=
 jn (fun (n4 : Nat) =>
 some (n4 : Int)
 ) fun (K1 : Nat → Option Int) =>
 f81_L0 x1 K1 FUEL (0, 0)
theorem f81_ok  (x1 : TB) (r : Int) (h : f81 x1 = some r)  : Spec1 Tryz.prog 81 [] [] [] [.b16 x1] (.int .i64 r) [] := by
 unfold f81 at h
 refine Spec1.body 0 _ _ Tryz.func81 rfl Tryz.ntmps81 rfl rfl ?_
 refine q2rq [] [] ⟨17, [(0, .b16 x1)], [], [], 0⟩ trivial ?_
 refine q2rq [] [] ⟨17, [(0, .b16 x1), (3, .i (0 : Int))], [], [], 0⟩ trivial ?_
 obtain ⟨K1, hK1, h⟩ := jn_some h
 refine AWp.join (α := Nat) (fun (n4 : Nat) => ⟨17, [(3, .i (n4 : Int))], [], [], 0⟩) (fun x => K1 x = some r) ?_ ?_
 ·
  refine q2rq [] [] ⟨17, [(0, .b16 x1), (3, .i (0 : Int)), (4, .i (0 : Int))], [], [], 0⟩ trivial ?_
  refine AWp.block ?_
  refine AWp.loopL (α := Nat × (Nat × Nat)) (fun x => match x with | (_, n2, n3) => ⟨17, [(0, .b16 x1), (3, .i (n2 : Int)), (4, .i (n3 : Int))], [], [], 0⟩) (fun x => f81_L0 x1 K1 x.1 x.2 = some r) (fun x => x.1) (FUEL, 0, 0) (Le.mk (s' := ⟨17, [(0, .b16 x1), (3, .i (0 : Int)), (4, .i (0 : Int))], [], [], 0⟩) rfl rfl ⟨.refl _, .refl _, .refl _, trivial⟩ trivial) h ?_
  rintro ⟨k0, n2, n3⟩ h
  cases k0 with
  | zero => exact nomatch (show (none : Option Int) = some r from h)
  | succ k0 =>
  obtain ⟨C0, hC0⟩ : ∃ C, C = f81_L0 x1 K1 k0 := ⟨_, rfl⟩
  replace h := (f81_L0.eq_2 ..).symm.trans h
  try rw [← hC0] at h
  refine AWp.seq ?_
  refine q2rq [] [] ⟨17, [(0, .b16 x1), (3, .i (n2 : Int)), (4, .i (n3 : Int)), (6, .bool (decide ((n3 : Int) < (16 : Int))))], [], [], 0⟩ trivial ?_
  refine AWp.cond (b := (decide ((n3 : Int) < (16 : Int)))) (by kernel_rfl) (fun hc1 => ?_) (fun hc1 => ?_)
  ·
   replace h := ite_tb hc1 h
   refine AWp.skip ?_
   refine tN ?_
   refine AWp.seq ?_
   refine AWp.block ?_
   have ob0 : 0 ≤ (n3 : Int) := by omega
   have ob1 : -9223372036854775808 ≤ ((((x1 >>> n3) &&& (q2w16 1)).toNat : Nat) : Int) ∧ ((((x1 >>> n3) &&& (q2w16 1)).toNat : Nat) : Int) ≤ 9223372036854775807 := ⟨by omega, by (have := (((x1 >>> n3) &&& (q2w16 1)) : TB).isLt; omega)⟩
   obtain ⟨ob2p, h⟩ := chk_some h
   have ob2 : -9223372036854775808 ≤ ((n2 : Int) + ((((x1 >>> n3) &&& (q2w16 1)).toNat : Nat) : Int)) ∧ ((n2 : Int) + ((((x1 >>> n3) &&& (q2w16 1)).toNat : Nat) : Int)) ≤ 9223372036854775807 := ⟨by omega, ob2p⟩
   refine q2rr [] [] ⟨17, [(0, .b16 x1), (3, .i (((n2 + ((x1 >>> n3) &&& (q2w16 1)).toNat) : Nat) : Int)), (4, .i (n3 : Int))], [], [], 0⟩ (an3 ob0 ob1 ob2) ?_
   refine kN ?_
   refine tN ?_
   obtain ⟨ob3p, h⟩ := chk_some h
   have ob3 : -9223372036854775808 ≤ ((n3 : Int) + (1 : Int)) ∧ ((n3 : Int) + (1 : Int)) ≤ 9223372036854775807 := ⟨by omega, ob3p⟩
   refine q2rr [] [] ⟨17, [(0, .b16 x1), (3, .i (((n2 + ((x1 >>> n3) &&& (q2w16 1)).toNat) : Nat) : Int)), (4, .i (((n3 + 1) : Nat) : Int))], [], [], 0⟩ (an1 ob3) ?_
   rw [hC0] at h
   exact lN (_, (n2 + ((x1 >>> n3) &&& (q2w16 1)).toNat), (n3 + 1)) (Le.mk rfl rfl ⟨.refl _, .refl _, .refl _, trivial⟩ trivial) h (Nat.lt_succ_self _)
  ·
   replace h := ite_fb hc1 h
   refine AWp.exit ?_
   refine tE ?_
   refine tE ?_
   refine kS ?_
   exact jN (n2) (Le.mk rfl rfl ⟨.refl _, trivial⟩ trivial) h
 ·
  rintro n4 h
  replace h := (congrFun hK1 _).symm.trans h
  refine q2rq [] [] ⟨17, [(2, .i (n4 : Int))], [], [], 0⟩ trivial ?_
  have hret := oJ h
  subst hret
  refine AWp.le (Le.mk (s' := ⟨17, [(2, .i (n4 : Int))], [], [], 0⟩) rfl rfl ⟨.refl _, trivial⟩ trivial) ?_
  refine AWp.ret ?_
  exact bR _ rfl ⟨rfl, rfl⟩ rfl
def f62 (x1 : BitVec 16) (x2 : BitVec 16) : Option Bool :=
 (f81 x1).bind fun (r3 : Int) =>
 (f81 x2).bind fun (r4 : Int) =>
 if (r3 != r4) then (
 (f81 x1).bind fun (r5 : Int) =>
 (f81 x2).bind fun (r6 : Int) =>
 some (decide (r5 < r6))
 ) else (
 some (decide (x1.toNat < x2.toNat))
 )
theorem f62_ok  (x1 : TB) (x2 : TB) (r : Bool) (h : f62 x1 x2 = some r)  : Spec1 Tryz.prog 62 [] [] [] [.b16 x1, .b16 x2] (.bool r) [] := by
 unfold f62 at h
 refine Spec1.body 0 _ _ Tryz.func62 rfl Tryz.ntmps62 rfl rfl ?_
 refine q2rq [] [] ⟨18, [(0, .b16 x1), (1, .b16 x2)], [], [], 0⟩ trivial ?_
 refine AWp.seq ?_
 refine AWp.seq ?_
 obtain ⟨r3, hr3, h⟩ := bind_ok h
 obtain ⟨r4, hr4, h⟩ := bind_ok h
 refine q2rr [] [(1, ⟨[.b16 x1], [], [], [], .i r3, [], [], []⟩), (3, ⟨[.b16 x2], [], [], [], .i r4, [], [], []⟩)] ⟨18, [(0, .b16 x1), (1, .b16 x2), (9, .bool (r3 != r4))], [], [], 0⟩ (an2 (cpT (f81_ok _ _ hr3)) (cpT (f81_ok _ _ hr4))) ?_
 refine tN ?_
 refine AWp.cond (b := (r3 != r4)) (by kernel_rfl) (fun hc1 => ?_) (fun hc1 => ?_)
 ·
  replace h := ite_tb hc1 h
  refine AWp.seq ?_
  obtain ⟨r5, hr5, h⟩ := bind_ok h
  obtain ⟨r6, hr6, h⟩ := bind_ok h
  refine q2rr [] [(1, ⟨[.b16 x1], [], [], [], .i r5, [], [], []⟩), (3, ⟨[.b16 x2], [], [], [], .i r6, [], [], []⟩)] ⟨18, [(4, .bool (decide (r5 < r6)))], [], [], 0⟩ (an2 (cpT (f81_ok _ _ hr5)) (cpT (f81_ok _ _ hr6))) ?_
  refine tN ?_
  have hret := oJ h
  subst hret
  refine AWp.le (Le.mk (s' := ⟨18, [(4, .bool (decide (r5 < r6)))], [], [], 0⟩) rfl rfl ⟨.refl _, trivial⟩ trivial) ?_
  refine AWp.ret ?_
  refine tR ?_
  exact bR _ rfl ⟨rfl, rfl⟩ rfl
 ·
  replace h := ite_fb hc1 h
  refine AWp.skip ?_
  refine tN ?_
  refine q2rq [] [] ⟨18, [(4, .bool (decide (x1.toNat < x2.toNat)))], [], [], 0⟩ trivial ?_
  have hret := oJ h
  subst hret
  refine AWp.le (Le.mk (s' := ⟨18, [(4, .bool (decide (x1.toNat < x2.toNat)))], [], [], 0⟩) rfl rfl ⟨.refl _, trivial⟩ trivial) ?_
  refine AWp.ret ?_
  exact bR _ rfl ⟨rfl, rfl⟩ rfl
def f38_L1 (x1 : List (BitVec 16)) (n2 : Nat) (K3 : Tq1 → Option (List (BitVec 16))) : Nat → Tq1 → Option (List (BitVec 16))
 | 0, _ => none
 | k + 1, (n4, l5) =>
  optc ((decide ((n4 : Int) < (((l5).length : Nat) : Int))) == true) (f62 (l5.getD n4 0#16) (x1.getD n2 0#16)) fun (r6 : Bool) =>
  chk (((decide ((n4 : Int) < (((l5).length : Nat) : Int))) == true) = true → 0 ≤ (n4 : Int) ∧ (n4 : Int) < (((l5).length : Nat) : Int)) <|
  chk (((decide ((n4 : Int) < (((l5).length : Nat) : Int))) == true) = true → n4 < (l5).length) <|
  chk (((decide ((n4 : Int) < (((l5).length : Nat) : Int))) == true) = true → 0 ≤ (n2 : Int) ∧ (n2 : Int) < (((x1).length : Nat) : Int)) <|
  if ((decide ((n4 : Int) < (((l5).length : Nat) : Int))) && r6) then (
  chk (((n4 : Int) + (1 : Int)) ≤ 9223372036854775807) <|
  (f38_L1 x1 n2 K3 k) ((n4 + 1), l5)
  ) else (
  K3 (n4, l5)
  )
def f38_L2 (n7 : Nat) (K4 : (List (BitVec 16)) → Option (List (BitVec 16))) : Nat → (Int × List (BitVec 16)) → Option (List (BitVec 16))
 | 0, _ => none
 | k + 1, (i10, l11) =>
  if (decide (i10 > (n7 : Int))) then (
  chk (-9223372036854775808 ≤ (i10 - (1 : Int)) ∧ (i10 - (1 : Int)) ≤ 9223372036854775807) <|
  chk (0 ≤ (i10 - (1 : Int)) ∧ (i10 - (1 : Int)) < (((l11).length : Nat) : Int)) <|
  chk ((((i10 - (1 : Int))).toNat) < (l11).length) <|
  chk (0 ≤ i10 ∧ i10 < (((l11).length : Nat) : Int)) <|
  chk (((i10).toNat) < (l11).length) <|
  chk (-9223372036854775808 ≤ (i10 - (1 : Int)) ∧ (i10 - (1 : Int)) ≤ 9223372036854775807) <|
  (f38_L2 n7 K4 k) ((i10 - (1 : Int)), (l11.set ((i10).toNat) (l11.getD (((i10 - (1 : Int))).toNat) 0#16)))
  ) else (
  K4 l11
  )
def f38_L0 (x1 : List (BitVec 16)) (K1 : (List (BitVec 16)) → Option (List (BitVec 16))) : Nat → Tq1 → Option (List (BitVec 16))
 | 0, _ => none
 | k + 1, (n2, l3) =>
  if (decide ((n2 : Int) < (((x1).length : Nat) : Int))) then (
  jn (fun (l9 : List (BitVec 16)) =>
  chk (((n2 : Int) + (1 : Int)) ≤ 9223372036854775807) <|
  (f38_L0 x1 K1 k) ((n2 + 1), l9)
  ) fun (K2 : (List (TB)) → Option (List (TB))) =>
  jn (fun ((n7, l8) : Tq1) =>
  chk (((decide ((n7 : Int) < (((l8).length : Nat) : Int))) == true) = true → 0 ≤ (n7 : Int) ∧ (n7 : Int) < (((l8).length : Nat) : Int)) <|
  chk (((decide ((n7 : Int) < (((l8).length : Nat) : Int))) == true) = true → n7 < (l8).length) <|
  chk (((decide ((n7 : Int) < (((l8).length : Nat) : Int))) == true) = true → 0 ≤ (n2 : Int) ∧ (n2 : Int) < (((x1).length : Nat) : Int)) <|
  if ((decide ((n7 : Int) < (((l8).length : Nat) : Int))) && ((l8.getD n7 0#16) == (x1.getD n2 0#16))) then (
  K2 l8
  ) else (
  chk (((l8).length + 1) * 2 ≤ 140737488355328) <|
  jn (fun (l12 : List (BitVec 16)) =>
  chk ((n2 : Int) < (((x1).length : Nat) : Int)) <|
  chk ((n7 : Int) < (((l12).length : Nat) : Int)) <|
  chk (n7 < (l12).length) <|
  K2 (l12.set n7 (x1.getD n2 0#16))
  ) fun (K4 : (List (TB)) → Option (List (TB))) =>
  chk (-9223372036854775808 ≤ (((((l8 ++ [(BitVec.ofInt 16 0)])).length : Nat) : Int) - (1 : Int)) ∧ (((((l8 ++ [(BitVec.ofInt 16 0)])).length : Nat) : Int) - (1 : Int)) ≤ 9223372036854775807) <|
  f38_L2 n7 K4 FUEL ((((((l8 ++ [(BitVec.ofInt 16 0)])).length : Nat) : Int) - (1 : Int)), (l8 ++ [(BitVec.ofInt 16 0)]))
  )
  ) fun (K3 : Tq1 → Option (List (TB))) =>
  f38_L1 x1 n2 K3 FUEL (0, l3)
  ) else (
  K1 l3
  )
abbrev f38z0 (x1 : List (TB)) (n2 : Nat) (n7 : Nat) : List (Nat × V) := [(0, vL 1 eW 0#16 x1), (3, .own 5003), (4, .int .i64 (n2 : Int)), (5, .int .i64 (n7 : Int))]
abbrev f38z1 (x1 : List (TB)) (n2 : Nat) : List (Nat × V) := [(0, vL 1 eW 0#16 x1), (3, .own 5003), (4, .int .i64 (n2 : Int))]
abbrev f38z2 (x1 : List (TB)) (n2 : Nat) (n7 : Nat) (i10 : Int) : List (Nat × V) := [(0, vL 1 eW 0#16 x1), (3, .own 5003), (4, .int .i64 (n2 : Int)), (5, .int .i64 (n7 : Int)), (6, .int .i64 i10)]
abbrev f38z3 (l11 : List (TB)) (i10 : Int) : Heap := [(5003, bL 27 1 eW 0#16 (l11.set ((i10).toNat) (l11.getD (((i10 - (1 : Int))).toNat) 0#16)))]
def f38 (x1 : List (BitVec 16)) : Option (List (BitVec 16)) :=
 jn (fun (l13 : List (BitVec 16)) =>
 some l13
 ) fun (K1 : (List (TB)) → Option (List (TB))) =>
 f38_L0 x1 K1 FUEL (0, [])
theorem f38_ok  (x1 : List (TB)) (r : List (TB)) (h : f38 x1 = some r)  : Spec1 Tryz.prog 38 [] [] [] [vL 1 eW 0#16 x1] (.own 3000) [(3000, bL 27 1 eW 0#16 r)] := by
 unfold f38 at h
 refine Spec1.body 0 _ _ Tryz.func38 rfl Tryz.ntmps38 rfl rfl ?_
 refine q2rq [] [] ⟨72, [(0, q2aW x1)], [], [], 0⟩ trivial ?_
 refine q2rq [] [] ⟨72, [(0, q2aW x1), (3, .nils)], [], [], 0⟩ trivial ?_
 obtain ⟨K1, hK1, h⟩ := jn_some h
 refine AWp.join (α := List (TB)) (fun (l13 : List (TB)) => ⟨72, [(3, .own 5003)], [(5003, q2bW_27 l13)], [], 0⟩) (fun x => K1 x = some r) ?_ ?_
 ·
  refine q2rq [] [] ⟨72, [(0, q2aW x1), (3, .nils), (4, .i (0 : Int))], [], [], 0⟩ trivial ?_
  refine AWp.block ?_
  refine AWp.loopL (α := Nat × Tq1) (fun x => match x with | (_, n2, l3) => ⟨72, (f38z1 x1 n2), [(5003, q2bW_27 l3)], [], 0⟩) (fun x => f38_L0 x1 K1 x.1 x.2 = some r) (fun x => x.1) (FUEL, 0, []) (Le.trans (Le.trans (Le.nilOwn 3 5003 27 1 (encF eW 0#16 []) rfl rfl (Nat.le_of_ble_eq_true rfl)) (Le.mk (s' := ⟨72, [(0, q2aW x1), (3, .own 5003), (4, .i (0 : Int))], [(5003, q2bW_27 [])], [], 0⟩) rfl rfl ⟨.refl _, .refl _, .refl _, trivial⟩ ⟨⟨_, rfl, .refl _⟩, trivial⟩)) (Le.mk (s' := ⟨72, [(0, q2aW x1), (3, .own 5003), (4, .i (0 : Int))], [(5003, q2bW_27 [])], [], 0⟩) rfl rfl ⟨.refl _, .refl _, .refl _, trivial⟩ ⟨⟨_, rfl, .refl _⟩, trivial⟩)) h ?_
  rintro ⟨k0, n2, l3⟩ h
  cases k0 with
  | zero => exact nomatch (show (none : Option (List (TB))) = some r from h)
  | succ k0 =>
  obtain ⟨C0, hC0⟩ : ∃ C, C = f38_L0 x1 K1 k0 := ⟨_, rfl⟩
  replace h := (f38_L0.eq_2 ..).symm.trans h
  try rw [← hC0] at h
  refine AWp.seq ?_
  refine q2rq [] [] ⟨72, [(0, q2aW x1), (3, .own 5003), (4, .i (n2 : Int)), (10, .bool (decide ((n2 : Int) < (lZ x1))))], [(5003, q2bW_27 l3)], [], 0⟩ trivial ?_
  refine AWp.cond (b := (decide ((n2 : Int) < (lZ x1)))) (by kernel_rfl) (fun hc1 => ?_) (fun hc1 => ?_)
  ·
   replace h := ite_tb hc1 h
   refine AWp.skip ?_
   refine tN ?_
   obtain ⟨K2, hK2, h⟩ := jn_some h
   refine AWp.join (α := List (TB)) (fun (l9 : List (TB)) => ⟨72, (f38z1 x1 n2), [(5003, q2bW_27 l9)], [], 0⟩) (fun x => K2 x = some r) ?_ ?_
   ·
    refine AWp.block ?_
    refine q2rq [] [] ⟨72, [(0, q2aW x1), (3, .own 5003), (4, .i (n2 : Int)), (5, .i (0 : Int))], [(5003, q2bW_27 l3)], [], 0⟩ trivial ?_
    obtain ⟨K3, hK3, h⟩ := jn_some h
    refine AWp.join (α := Nat × List (TB)) (fun (x : Tq1) => match x with | (n7, l8) => ⟨72, (f38z0 x1 n2 n7), [(5003, q2bW_27 l8)], [], 0⟩) (fun x => K3 x = some r) ?_ ?_
    ·
     refine AWp.block ?_
     refine AWp.loopL (α := Nat × Tq1) (fun x => match x with | (_, n4, l5) => ⟨72, [(0, q2aW x1), (3, .own 5003), (4, .i (n2 : Int)), (5, .i (n4 : Int))], [(5003, q2bW_27 l5)], [], 0⟩) (fun x => f38_L1 x1 n2 K3 x.1 x.2 = some r) (fun x => x.1) (FUEL, 0, l3) (Le.mk (s' := ⟨72, [(0, q2aW x1), (3, .own 5003), (4, .i (n2 : Int)), (5, .i (0 : Int))], [(5003, q2bW_27 l3)], [], 0⟩) rfl rfl ⟨.refl _, .refl _, .refl _, .refl _, trivial⟩ ⟨⟨_, rfl, .refl _⟩, trivial⟩) h ?_
     rintro ⟨k1, n4, l5⟩ h
     cases k1 with
     | zero => exact nomatch (show (none : Option (List (TB))) = some r from h)
     | succ k1 =>
     obtain ⟨C1, hC1⟩ : ∃ C, C = f38_L1 x1 n2 K3 k1 := ⟨_, rfl⟩
     replace h := (f38_L1.eq_2 ..).symm.trans h
     try rw [← hC1] at h
     refine AWp.seq ?_
     refine AWp.seq ?_
     obtain ⟨r6, hr6, h⟩ := optc_some h
     obtain ⟨ob0, h⟩ := chk_some h
     have ob1 := idA (((decide ((n4 : Int) < (lZ l5))) == true) = true)
     have ob2 := idA (((decide ((n4 : Int) < (lZ l5))) == true) = true)
     obtain ⟨ob3, h⟩ := chk_some h
     have ob4 := idA (((decide ((n4 : Int) < (lZ l5))) == true) = true)
     obtain ⟨ob5, h⟩ := chk_some h
     have ob6 := idA (((decide ((n4 : Int) < (lZ l5))) == true) = true)
     have ob7 := idA (((decide ((n4 : Int) < (lZ l5))) == true) = true)
     have ob8 := idA (((decide ((n4 : Int) < (lZ l5))) == true) = true)
     have ob9 := idA (((decide ((n4 : Int) < (lZ l5))) == true) = true)
     have ob10 := idA (((decide ((n4 : Int) < (lZ l5))) == true) = true)
     have ob11 := bqA (decide ((n4 : Int) < (lZ l5))) true
     refine q2rr [] [(13, ⟨[.b16 (l5.getD n4 0#16), .b16 (x1.getD n2 0#16)], [], [], [], .bool r6, [], [], []⟩)] ⟨72, [(0, q2aW x1), (3, .own 5003), (4, .i (n2 : Int)), (5, .i (n4 : Int)), (27, .bool ((decide ((n4 : Int) < (lZ l5))) && r6))], [(5003, q2bW_27 l5)], [], 0⟩ (an6 (And.intro ob0 (an2 ob1 ob2)) (And.intro ob3 (an1 ob4)) (And.intro ob5 (an2 ob6 ob7)) (an1 ob8) (And.intro (cpC fun hc => (f62_ok _ _ _ (hr6 hc))) (an2 ob9 ob10)) ob11) ?_
     refine tN ?_
     refine AWp.cond (b := ((decide ((n4 : Int) < (lZ l5))) && r6)) (by kernel_rfl) (fun hc2 => ?_) (fun hc2 => ?_)
     ·
      replace h := ite_tb hc2 h
      refine AWp.skip ?_
      refine tN ?_
      refine AWp.block ?_
      obtain ⟨ob12p, h⟩ := chk_some h
      have ob12 : -9223372036854775808 ≤ ((n4 : Int) + (1 : Int)) ∧ ((n4 : Int) + (1 : Int)) ≤ 9223372036854775807 := ⟨by omega, ob12p⟩
      refine q2rr [] [] ⟨72, [(0, q2aW x1), (3, .own 5003), (4, .i (n2 : Int)), (5, .i (((n4 + 1) : Nat) : Int))], [(5003, q2bW_27 l5)], [], 0⟩ (an1 ob12) ?_
      refine kN ?_
      rw [hC1] at h
      exact lN (_, (n4 + 1), l5) (Le.mk rfl rfl ⟨.refl _, .refl _, .refl _, .refl _, trivial⟩ ⟨⟨_, rfl, .refl _⟩, trivial⟩) h (Nat.lt_succ_self _)
     ·
      replace h := ite_fb hc2 h
      refine AWp.exit ?_
      refine tE ?_
      refine tE ?_
      refine kS ?_
      exact jN (n4, l5) (Le.mk rfl rfl ⟨.refl _, .refl _, .refl _, .refl _, trivial⟩ ⟨⟨_, rfl, .refl _⟩, trivial⟩) h
    ·
     rintro ⟨n7, l8⟩ h
     replace h := (congrFun hK3 _).symm.trans h
     refine AWp.seq ?_
     refine AWp.seq ?_
     obtain ⟨ob13, h⟩ := chk_some h
     have ob14 := idA (((decide ((n7 : Int) < (lZ l8))) == true) = true)
     have ob15 := idA (((decide ((n7 : Int) < (lZ l8))) == true) = true)
     obtain ⟨ob16, h⟩ := chk_some h
     have ob17 := idA (((decide ((n7 : Int) < (lZ l8))) == true) = true)
     obtain ⟨ob18, h⟩ := chk_some h
     have ob19 := idA (((decide ((n7 : Int) < (lZ l8))) == true) = true)
     have ob20 := idA (((decide ((n7 : Int) < (lZ l8))) == true) = true)
     have ob21 := idA (((decide ((n7 : Int) < (lZ l8))) == true) = true)
     have ob22 := idA (((decide ((n7 : Int) < (lZ l8))) == true) = true)
     have ob23 := idA (((decide ((n7 : Int) < (lZ l8))) == true) = true)
     have ob24 := bqA (decide ((n7 : Int) < (lZ l8))) true
     refine q2rr [] [] ⟨72, [(0, q2aW x1), (3, .own 5003), (4, .i (n2 : Int)), (5, .i (n7 : Int)), (44, .bool ((decide ((n7 : Int) < (lZ l8))) && ((l8.getD n7 0#16) == (x1.getD n2 0#16))))], [(5003, q2bW_27 l8)], [], 0⟩ (an6 (And.intro ob13 (an2 ob14 ob15)) (And.intro ob16 (an1 ob17)) (And.intro ob18 (an2 ob19 ob20)) (an1 ob21) (an2 ob22 ob23) ob24) ?_
     refine tN ?_
     refine AWp.cond (b := ((decide ((n7 : Int) < (lZ l8))) && ((l8.getD n7 0#16) == (x1.getD n2 0#16)))) (by kernel_rfl) (fun hc3 => ?_) (fun hc3 => ?_)
     ·
      replace h := ite_tb hc3 h
      refine AWp.exit ?_
      refine tE ?_
      refine kS ?_
      exact jN (l8) (Le.mk rfl rfl ⟨.refl _, .refl _, .refl _, trivial⟩ ⟨⟨_, rfl, .refl _⟩, trivial⟩) h
     ·
      replace h := ite_fb hc3 h
      refine AWp.skip ?_
      refine tN ?_
      refine AWp.seq ?_
      obtain ⟨ob25, h⟩ := chk_some h
      refine q2rr [] [] ⟨72, (f38z0 x1 n2 n7), [(5003, .rows 27 1 ((l8).length + 1) (appF (l8).length (encF eW 0#16 l8) (lstF 1 [.b16 (q2w16 0)])))], [], 0⟩ (an1 ob25) ?_
      refine tN ?_
      refine AWp.le (Le.mk (s' := ⟨72, (f38z0 x1 n2 n7), [(5003, q2bW_27 (l8 ++ [(q2w16 0)]))], [], 0⟩) rfl rfl ⟨.refl _, .refl _, .refl _, .refl _, trivial⟩ ⟨⟨_, rfl, (BLe.of (RL.app (RL.self _) (RL.lst (enc := eW) [(q2w16 0)] rfl rfl (fun _ => rfl))))⟩, trivial⟩) ?_
      obtain ⟨K4, hK4, h⟩ := jn_some h
      refine AWp.join (α := List (TB)) (fun (l12 : List (TB)) => ⟨72, (f38z0 x1 n2 n7), [(5003, q2bW_27 l12)], [], 0⟩) (fun x => K4 x = some r) ?_ ?_
      ·
       refine AWp.seq ?_
       obtain ⟨ob26, h⟩ := chk_some h
       refine q2rr [] [] ⟨72, [(0, q2aW x1), (3, .own 5003), (4, .i (n2 : Int)), (5, .i (n7 : Int)), (6, .i (((((l8 ++ [(q2w16 0)])).length : Nat) : Int) - (1 : Int)))], [(5003, q2bW_27 (l8 ++ [(q2w16 0)]))], [], 0⟩ (an1 ob26) ?_
       refine tN ?_
       refine AWp.block ?_
       refine AWp.loopL (α := Nat × (Int × List (TB))) (fun x => match x with | (_, i10, l11) => ⟨72, (f38z2 x1 n2 n7 i10), [(5003, q2bW_27 l11)], [], 0⟩) (fun x => f38_L2 n7 K4 x.1 x.2 = some r) (fun x => x.1) (FUEL, (((((l8 ++ [(q2w16 0)])).length : Nat) : Int) - (1 : Int)), (l8 ++ [(q2w16 0)])) (Le.mk (s' := ⟨72, [(0, q2aW x1), (3, .own 5003), (4, .i (n2 : Int)), (5, .i (n7 : Int)), (6, .i (((((l8 ++ [(q2w16 0)])).length : Nat) : Int) - (1 : Int)))], [(5003, q2bW_27 (l8 ++ [(q2w16 0)]))], [], 0⟩) rfl rfl ⟨.refl _, .refl _, .refl _, .refl _, .refl _, trivial⟩ ⟨⟨_, rfl, .refl _⟩, trivial⟩) h ?_
       rintro ⟨k2, i10, l11⟩ h
       cases k2 with
       | zero => exact nomatch (show (none : Option (List (TB))) = some r from h)
       | succ k2 =>
       obtain ⟨C2, hC2⟩ : ∃ C, C = f38_L2 n7 K4 k2 := ⟨_, rfl⟩
       replace h := (f38_L2.eq_2 ..).symm.trans h
       try rw [← hC2] at h
       refine AWp.seq ?_
       refine q2rq [] [] ⟨72, [(0, q2aW x1), (3, .own 5003), (4, .i (n2 : Int)), (5, .i (n7 : Int)), (6, .i i10), (53, .bool (decide (i10 > (n7 : Int))))], [(5003, q2bW_27 l11)], [], 0⟩ trivial ?_
       refine AWp.cond (b := (decide (i10 > (n7 : Int)))) (by kernel_rfl) (fun hc4 => ?_) (fun hc4 => ?_)
       ·
        replace h := ite_tb hc4 h
        refine AWp.skip ?_
        refine tN ?_
        refine AWp.seq ?_
        refine AWp.block ?_
        obtain ⟨ob27, ob28, ob29, ob30, ob31, h⟩ := ck5 h
        refine q2rr [] [] ⟨72, (f38z2 x1 n2 n7 i10), [(5003, .rows 27 1 (l11).length (updF (encF eW 0#16 l11) ((i10).toNat) 0 [.b16 (l11.getD (((i10 - (1 : Int))).toNat) 0#16)]))], [], 0⟩ (an5 ob27 ob28 ob29 ob30 ob31) ?_
        refine kN ?_
        refine tN ?_
        refine AWp.le (Le.mk (s' := ⟨72, (f38z2 x1 n2 n7 i10), (f38z3 l11 i10), [], 0⟩) rfl rfl ⟨.refl _, .refl _, .refl _, .refl _, .refl _, trivial⟩ ⟨⟨_, rfl, (BLe.of (RL.set (l11.getD (((i10 - (1 : Int))).toNat) 0#16) (RL.self _) (by intro j hj; match j, hj with | 0, _ => rfl)))⟩, trivial⟩) ?_
        obtain ⟨ob32, h⟩ := chk_some h
        refine q2rr [] [] ⟨72, [(0, q2aW x1), (3, .own 5003), (4, .i (n2 : Int)), (5, .i (n7 : Int)), (6, .i (i10 - (1 : Int)))], (f38z3 l11 i10), [], 0⟩ (an1 ob32) ?_
        rw [hC2] at h
        exact lN (_, (i10 - (1 : Int)), (l11.set ((i10).toNat) (l11.getD (((i10 - (1 : Int))).toNat) 0#16))) (Le.mk rfl rfl ⟨.refl _, .refl _, .refl _, .refl _, .refl _, trivial⟩ ⟨⟨_, rfl, .refl _⟩, trivial⟩) h (Nat.lt_succ_self _)
       ·
        replace h := ite_fb hc4 h
        refine AWp.exit ?_
        refine tE ?_
        refine tE ?_
        refine kS ?_
        exact jN (l11) (Le.mk rfl rfl ⟨.refl _, .refl _, .refl _, .refl _, trivial⟩ ⟨⟨_, rfl, .refl _⟩, trivial⟩) h
      ·
       rintro l12 h
       replace h := (congrFun hK4 _).symm.trans h
       obtain ⟨ob33p, h⟩ := chk_some h
       have ob33 : 0 ≤ (n2 : Int) ∧ (n2 : Int) < (((x1).length : Nat) : Int) := ⟨by omega, ob33p⟩
       obtain ⟨ob34p, h⟩ := chk_some h
       have ob34 : 0 ≤ (n7 : Int) ∧ (n7 : Int) < (((l12).length : Nat) : Int) := ⟨by omega, ob34p⟩
       obtain ⟨ob35, h⟩ := chk_some h
       refine q2rr [] [] ⟨72, (f38z1 x1 n2), [(5003, .rows 27 1 (l12).length (updF (encF eW 0#16 l12) n7 0 [.b16 (x1.getD n2 0#16)]))], [], 0⟩ (an3 ob33 ob34 ob35) ?_
       refine kN ?_
       exact jN ((l12.set n7 (x1.getD n2 0#16))) (Le.trans (Le.mk (s' := ⟨72, (f38z1 x1 n2), [(5003, q2bW_27 (l12.set n7 (x1.getD n2 0#16)))], [], 0⟩) rfl rfl ⟨.refl _, .refl _, .refl _, trivial⟩ ⟨⟨_, rfl, (BLe.of (RL.set (x1.getD n2 0#16) (RL.self _) (by intro j hj; match j, hj with | 0, _ => rfl)))⟩, trivial⟩) (Le.mk rfl rfl ⟨.refl _, .refl _, .refl _, trivial⟩ ⟨⟨_, rfl, .refl _⟩, trivial⟩)) h
   ·
    rintro l9 h
    replace h := (congrFun hK2 _).symm.trans h
    obtain ⟨ob36p, h⟩ := chk_some h
    have ob36 : -9223372036854775808 ≤ ((n2 : Int) + (1 : Int)) ∧ ((n2 : Int) + (1 : Int)) ≤ 9223372036854775807 := ⟨by omega, ob36p⟩
    refine q2rr [] [] ⟨72, [(0, q2aW x1), (3, .own 5003), (4, .i (((n2 + 1) : Nat) : Int))], [(5003, q2bW_27 l9)], [], 0⟩ (an1 ob36) ?_
    rw [hC0] at h
    exact lN (_, (n2 + 1), l9) (Le.mk rfl rfl ⟨.refl _, .refl _, .refl _, trivial⟩ ⟨⟨_, rfl, .refl _⟩, trivial⟩) h (Nat.lt_succ_self _)
  ·
   replace h := ite_fb hc1 h
   refine AWp.exit ?_
   refine tE ?_
   refine tE ?_
   refine kS ?_
   exact jN (l3) (Le.mk rfl rfl ⟨.refl _, trivial⟩ ⟨⟨_, rfl, .refl _⟩, trivial⟩) h
 ·
  rintro l13 h
  replace h := (congrFun hK1 _).symm.trans h
  refine q2rq [] [] ⟨72, [(2, .own 5003)], [(5003, q2bW_27 l13)], [], 0⟩ trivial ?_
  refine AWp.le (Le.trans (Le.ren (swapN 5003 3000) (swapN_inv 5003 3000) rfl) (Le.mk (s' := ⟨72, [(2, .own 3000)], [(3000, q2bW_27 l13)], [], 0⟩) rfl rfl ⟨.refl _, trivial⟩ ⟨⟨_, rfl, .refl _⟩, trivial⟩)) ?_
  have hret := oJ h
  subst hret
  refine AWp.le (Le.mk (s' := ⟨72, [(2, .own 3000)], [(3000, q2bW_27 l13)], [], 0⟩) rfl rfl ⟨.refl _, trivial⟩ ⟨⟨_, rfl, .refl _⟩, trivial⟩) ?_
  refine AWp.ret ?_
  exact bR _ rfl ⟨rfl, rfl⟩ rfl
def f39 (x1 : BitVec 16) (x2 : BitVec 16) : Option Bool :=
 some ((x2 &&& ~~~x1) == (BitVec.ofInt 16 0))
theorem f39_ok  (x1 : TB) (x2 : TB) (r : Bool) (h : f39 x1 x2 = some r)  : Spec1 Tryz.prog 39 [] [] [] [.b16 x1, .b16 x2] (.bool r) [] := by
 unfold f39 at h
 refine Spec1.body 0 _ _ Tryz.func39 rfl Tryz.ntmps39 rfl rfl ?_
 refine q2rq [] [] ⟨9, [(0, .b16 x1), (1, .b16 x2)], [], [], 0⟩ trivial ?_
 refine q2rq [] [] ⟨9, [(4, .bool ((x2 &&& ~~~x1) == (q2w16 0)))], [], [], 0⟩ trivial ?_
 have hret := oJ h
 subst hret
 refine AWp.le (Le.mk (s' := ⟨9, [(4, .bool ((x2 &&& ~~~x1) == (q2w16 0)))], [], [], 0⟩) rfl rfl ⟨.refl _, trivial⟩ trivial) ?_
 refine AWp.ret ?_
 exact bR _ rfl ⟨rfl, rfl⟩ rfl
def f35_L1 (r2 : List (BitVec 16)) (n3 : Nat) (K3 : Bool → Option (List (BitVec 16))) : Nat → (Bool × Nat) → Option (List (BitVec 16))
 | 0, _ => none
 | k + 1, (b5, n6) =>
  if (decide ((n6 : Int) < (((r2).length : Nat) : Int))) then (
  jn (fun (b8 : Bool) =>
  chk (((n6 : Int) + (1 : Int)) ≤ 9223372036854775807) <|
  (f35_L1 r2 n3 K3 k) (b8, (n6 + 1))
  ) fun (K4 : Bool → Option (List (TB))) =>
  optc (((n3 : Int) != (n6 : Int)) == true) (f39 (r2.getD n3 0#16) (r2.getD n6 0#16)) fun (r7 : Bool) =>
  chk ((((n3 : Int) != (n6 : Int)) == true) = true → 0 ≤ (n3 : Int) ∧ (n3 : Int) < (((r2).length : Nat) : Int)) <|
  chk ((((n3 : Int) != (n6 : Int)) == true) = true → n3 < (r2).length) <|
  chk ((((n3 : Int) != (n6 : Int)) == true) = true → 0 ≤ (n6 : Int) ∧ (n6 : Int) < (((r2).length : Nat) : Int)) <|
  chk ((((n3 : Int) != (n6 : Int)) == true) = true → n6 < (r2).length) <|
  if (((n3 : Int) != (n6 : Int)) && r7) then (
  K4 false
  ) else (
  K4 b5
  )
  ) else (
  K3 b5
  )
def f35_L0 (r2 : List (BitVec 16)) (K1 : (List (BitVec 16)) → Option (List (BitVec 16))) : Nat → Tq1 → Option (List (BitVec 16))
 | 0, _ => none
 | k + 1, (n3, l4) =>
  if (decide ((n3 : Int) < (((r2).length : Nat) : Int))) then (
  jn (fun (l10 : List (BitVec 16)) =>
  chk (((n3 : Int) + (1 : Int)) ≤ 9223372036854775807) <|
  (f35_L0 r2 K1 k) ((n3 + 1), l10)
  ) fun (K2 : (List (TB)) → Option (List (TB))) =>
  jn (fun (b9 : Bool) =>
  if b9 then (
  chk ((n3 : Int) < (((r2).length : Nat) : Int)) <|
  chk (n3 < (r2).length) <|
  chk (((l4).length + 1) * 2 ≤ 140737488355328) <|
  K2 (l4 ++ [(r2.getD n3 0#16)])
  ) else (
  K2 l4
  )
  ) fun (K3 : Bool → Option (List (TB))) =>
  f35_L1 r2 n3 K3 FUEL (true, 0)
  ) else (
  K1 l4
  )
abbrev f35z0 (l4 : List (TB)) (r2 : List (TB)) : Heap := [(5003, bL 27 1 eW 0#16 l4), (6001, bL 27 1 eW 0#16 r2)]
abbrev f35z1 (n3 : Nat) (n6 : Nat) := (((n3 : Int) != (n6 : Int)) == true)
abbrev f35z2 (n3 : Nat) : List (Nat × V) := [(3, .own 5003), (4, .own 6001), (5, .int .i64 (n3 : Int))]
abbrev f35z3 (n3 : Nat) : List (Nat × V) := [(3, .own 43), (4, .own 6001), (5, .int .i64 (n3 : Int))]
def f35 (x1 : List (BitVec 16)) : Option (List (BitVec 16)) :=
 (f38 x1).bind fun (r2 : List (TB)) =>
 jn (fun (l11 : List (BitVec 16)) =>
 some l11
 ) fun (K1 : (List (TB)) → Option (List (TB))) =>
 f35_L0 r2 K1 FUEL (0, [])
theorem f35_ok  (x1 : List (TB)) (r : List (TB)) (h : f35 x1 = some r)  : Spec1 Tryz.prog 35 [] [] [] [vL 1 eW 0#16 x1] (.own 3000) [(3000, bL 27 1 eW 0#16 r)] := by
 unfold f35 at h
 refine Spec1.body 0 _ _ Tryz.func35 rfl Tryz.ntmps35 rfl rfl ?_
 refine q2rq [] [] ⟨45, [(0, q2aW x1)], [], [], 0⟩ trivial ?_
 refine q2rq [] [] ⟨45, [(0, q2aW x1), (3, .nils)], [], [], 0⟩ trivial ?_
 refine AWp.seq ?_
 obtain ⟨r2, hr2, h⟩ := bind_ok h
 refine q2rr [] [(1, ⟨[q2aW x1], [], [], [(6001, q2bW_27 r2)], .own 6001, [6001], [], []⟩)] ⟨45, [(3, .nils), (4, .own 6001)], [(6001, q2bW_27 r2)], [], 0⟩ (an1 (cpT (Spec1.ren (swapN 3000 6001) (swapN_inv 3000 6001) rfl (f38_ok _ _ hr2)))) ?_
 refine tN ?_
 obtain ⟨K1, hK1, h⟩ := jn_some h
 refine AWp.join (α := List (TB)) (fun (l11 : List (TB)) => ⟨45, [(3, .own 5003)], [(5003, q2bW_27 l11)], [], 0⟩) (fun x => K1 x = some r) ?_ ?_
 ·
  refine q2rq [] [] ⟨45, [(3, .nils), (4, .own 6001), (5, .i (0 : Int))], [(6001, q2bW_27 r2)], [], 0⟩ trivial ?_
  refine AWp.block ?_
  refine AWp.loopL (α := Nat × Tq1) (fun x => match x with | (_, n3, l4) => ⟨45, (f35z2 n3), (f35z0 l4 r2), [], 0⟩) (fun x => f35_L0 r2 K1 x.1 x.2 = some r) (fun x => x.1) (FUEL, 0, []) (Le.trans (Le.trans (Le.nilOwn 3 5003 27 1 (encF eW 0#16 []) rfl rfl (Nat.le_of_ble_eq_true rfl)) (Le.mk (s' := ⟨45, [(3, .own 5003), (4, .own 6001), (5, .i (0 : Int))], [(6001, q2bW_27 r2), (5003, q2bW_27 [])], [], 0⟩) rfl rfl ⟨.refl _, .refl _, .refl _, trivial⟩ ⟨⟨_, rfl, .refl _⟩, ⟨_, rfl, .refl _⟩, trivial⟩)) (Le.mk (s' := ⟨45, [(3, .own 5003), (4, .own 6001), (5, .i (0 : Int))], [(5003, q2bW_27 []), (6001, q2bW_27 r2)], [], 0⟩) rfl rfl ⟨.refl _, .refl _, .refl _, trivial⟩ ⟨⟨_, rfl, .refl _⟩, ⟨_, rfl, .refl _⟩, trivial⟩)) h ?_
  rintro ⟨k0, n3, l4⟩ h
  cases k0 with
  | zero => exact nomatch (show (none : Option (List (TB))) = some r from h)
  | succ k0 =>
  obtain ⟨C0, hC0⟩ : ∃ C, C = f35_L0 r2 K1 k0 := ⟨_, rfl⟩
  replace h := (f35_L0.eq_2 ..).symm.trans h
  try rw [← hC0] at h
  refine AWp.seq ?_
  refine q2rq [] [] ⟨45, [(3, .own 5003), (4, .own 6001), (5, .i (n3 : Int)), (13, .bool (decide ((n3 : Int) < (lZ r2))))], (f35z0 l4 r2), [], 0⟩ trivial ?_
  refine AWp.cond (b := (decide ((n3 : Int) < (lZ r2)))) (by kernel_rfl) (fun hc1 => ?_) (fun hc1 => ?_)
  ·
   replace h := ite_tb hc1 h
   refine AWp.skip ?_
   refine tN ?_
   obtain ⟨K2, hK2, h⟩ := jn_some h
   refine AWp.join (α := List (TB)) (fun (l10 : List (TB)) => ⟨45, (f35z3 n3), [(43, q2bW_27 l10), (6001, q2bW_27 r2)], [], 0⟩) (fun x => K2 x = some r) ?_ ?_
   ·
    refine AWp.block ?_
    refine q2rq [] [] ⟨45, [(3, .own 5003), (4, .own 6001), (5, .i (n3 : Int)), (6, .bool true)], (f35z0 l4 r2), [], 0⟩ trivial ?_
    obtain ⟨K3, hK3, h⟩ := jn_some h
    refine AWp.join (α := Bool) (fun (b9 : Bool) => ⟨45, [(3, .own 5003), (4, .own 6001), (5, .i (n3 : Int)), (6, .bool b9)], (f35z0 l4 r2), [], 0⟩) (fun x => K3 x = some r) ?_ ?_
    ·
     refine q2rq [] [] ⟨45, [(3, .own 5003), (4, .own 6001), (5, .i (n3 : Int)), (6, .bool true), (7, .i (0 : Int))], (f35z0 l4 r2), [], 0⟩ trivial ?_
     refine AWp.block ?_
     refine AWp.loopL (α := Nat × (Bool × Nat)) (fun x => match x with | (_, b5, n6) => ⟨45, [(3, .own 5003), (4, .own 6001), (5, .i (n3 : Int)), (6, .bool b5), (7, .i (n6 : Int))], (f35z0 l4 r2), [], 0⟩) (fun x => f35_L1 r2 n3 K3 x.1 x.2 = some r) (fun x => x.1) (FUEL, true, 0) (Le.mk (s' := ⟨45, [(3, .own 5003), (4, .own 6001), (5, .i (n3 : Int)), (6, .bool true), (7, .i (0 : Int))], (f35z0 l4 r2), [], 0⟩) rfl rfl ⟨.refl _, .refl _, .refl _, .refl _, .refl _, trivial⟩ ⟨⟨_, rfl, .refl _⟩, ⟨_, rfl, .refl _⟩, trivial⟩) h ?_
     rintro ⟨k1, b5, n6⟩ h
     cases k1 with
     | zero => exact nomatch (show (none : Option (List (TB))) = some r from h)
     | succ k1 =>
     obtain ⟨C1, hC1⟩ : ∃ C, C = f35_L1 r2 n3 K3 k1 := ⟨_, rfl⟩
     replace h := (f35_L1.eq_2 ..).symm.trans h
     try rw [← hC1] at h
     refine AWp.seq ?_
     refine q2rq [] [] ⟨45, [(3, .own 5003), (4, .own 6001), (5, .i (n3 : Int)), (6, .bool b5), (7, .i (n6 : Int)), (19, .bool (decide ((n6 : Int) < (lZ r2))))], (f35z0 l4 r2), [], 0⟩ trivial ?_
     refine AWp.cond (b := (decide ((n6 : Int) < (lZ r2)))) (by kernel_rfl) (fun hc2 => ?_) (fun hc2 => ?_)
     ·
      replace h := ite_tb hc2 h
      refine AWp.skip ?_
      refine tN ?_
      obtain ⟨K4, hK4, h⟩ := jn_some h
      refine AWp.join (α := Bool) (fun (b8 : Bool) => ⟨45, [(3, .own 5003), (4, .own 6001), (5, .i (n3 : Int)), (6, .bool b8), (7, .i (n6 : Int))], (f35z0 l4 r2), [], 0⟩) (fun x => K4 x = some r) ?_ ?_
      ·
       refine AWp.block ?_
       refine AWp.seq ?_
       obtain ⟨r7, hr7, h⟩ := optc_some h
       obtain ⟨ob0, h⟩ := chk_some h
       have ob1 := idA ((f35z1 n3 n6) = true)
       have ob2 := idA ((f35z1 n3 n6) = true)
       obtain ⟨ob3, h⟩ := chk_some h
       have ob4 := idA ((f35z1 n3 n6) = true)
       obtain ⟨ob5, h⟩ := chk_some h
       have ob6 := idA ((f35z1 n3 n6) = true)
       have ob7 := idA ((f35z1 n3 n6) = true)
       obtain ⟨ob8, h⟩ := chk_some h
       have ob9 := idA ((f35z1 n3 n6) = true)
       have ob10 := idA ((f35z1 n3 n6) = true)
       have ob11 := idA ((f35z1 n3 n6) = true)
       have ob12 : true = true → ((n3 : Int) != (n6 : Int)) = true → (f35z1 n3 n6) = true := fun _ h => beq_iff_eq.2 h
       refine q2rr [] [(12, ⟨[.b16 (r2.getD n3 0#16), .b16 (r2.getD n6 0#16)], [], [], [], .bool r7, [], [], []⟩)] ⟨45, [(3, .own 5003), (4, .own 6001), (5, .i (n3 : Int)), (6, .bool b5), (7, .i (n6 : Int)), (35, .bool (((n3 : Int) != (n6 : Int)) && r7))], (f35z0 l4 r2), [], 0⟩ (an6 (And.intro ob0 (an2 ob1 ob2)) (And.intro ob3 (an1 ob4)) (And.intro ob5 (an2 ob6 ob7)) (And.intro ob8 (an1 ob9)) (And.intro (cpC fun hc => (f39_ok _ _ _ (hr7 hc))) (an2 ob10 ob11)) ob12) ?_
       refine tN ?_
       refine AWp.cond (b := (((n3 : Int) != (n6 : Int)) && r7)) (by kernel_rfl) (fun hc3 => ?_) (fun hc3 => ?_)
       ·
        replace h := ite_tb hc3 h
        refine q2rr [] [] ⟨45, [(3, .own 5003), (4, .own 6001), (5, .i (n3 : Int)), (6, .bool false), (7, .i (n6 : Int))], (f35z0 l4 r2), [], 0⟩ trivial ?_
        refine kN ?_
        exact jN (false) (Le.mk rfl rfl ⟨.refl _, .refl _, .refl _, .refl _, .refl _, trivial⟩ ⟨⟨_, rfl, .refl _⟩, ⟨_, rfl, .refl _⟩, trivial⟩) h
       ·
        replace h := ite_fb hc3 h
        refine AWp.skip ?_
        refine kN ?_
        exact jN (b5) (Le.mk rfl rfl ⟨.refl _, .refl _, .refl _, .refl _, .refl _, trivial⟩ ⟨⟨_, rfl, .refl _⟩, ⟨_, rfl, .refl _⟩, trivial⟩) h
      ·
       rintro b8 h
       replace h := (congrFun hK4 _).symm.trans h
       obtain ⟨ob13p, h⟩ := chk_some h
       have ob13 : -9223372036854775808 ≤ ((n6 : Int) + (1 : Int)) ∧ ((n6 : Int) + (1 : Int)) ≤ 9223372036854775807 := ⟨by omega, ob13p⟩
       refine q2rr [] [] ⟨45, [(3, .own 5003), (4, .own 6001), (5, .i (n3 : Int)), (6, .bool b8), (7, .i (((n6 + 1) : Nat) : Int))], (f35z0 l4 r2), [], 0⟩ (an1 ob13) ?_
       rw [hC1] at h
       exact lN (_, b8, (n6 + 1)) (Le.mk rfl rfl ⟨.refl _, .refl _, .refl _, .refl _, .refl _, trivial⟩ ⟨⟨_, rfl, .refl _⟩, ⟨_, rfl, .refl _⟩, trivial⟩) h (Nat.lt_succ_self _)
     ·
      replace h := ite_fb hc2 h
      refine AWp.exit ?_
      refine tE ?_
      refine tE ?_
      refine kS ?_
      exact jN (b5) (Le.mk rfl rfl ⟨.refl _, .refl _, .refl _, .refl _, trivial⟩ ⟨⟨_, rfl, .refl _⟩, ⟨_, rfl, .refl _⟩, trivial⟩) h
    ·
     rintro b9 h
     replace h := (congrFun hK3 _).symm.trans h
     refine q2rq [] [] ⟨45, [(3, .own 5003), (4, .own 6001), (5, .i (n3 : Int)), (36, .bool b9)], (f35z0 l4 r2), [], 0⟩ trivial ?_
     refine AWp.cond (b := b9) (by kernel_rfl) (fun hc4 => ?_) (fun hc4 => ?_)
     ·
      replace h := ite_tb hc4 h
      obtain ⟨ob14p, h⟩ := chk_some h
      have ob14 : 0 ≤ (n3 : Int) ∧ (n3 : Int) < (((r2).length : Nat) : Int) := ⟨by omega, ob14p⟩
      obtain ⟨ob15, ob16, h⟩ := ck2 h
      refine q2rr [] [] ⟨45, (f35z2 n3), [(5003, .rows 27 1 ((l4).length + 1) (appF (l4).length (encF eW 0#16 l4) (lstF 1 [.b16 (r2.getD n3 0#16)]))), (6001, q2bW_27 r2)], [], 0⟩ (an3 ob14 ob15 ob16) ?_
      refine kN ?_
      exact jN ((l4 ++ [(r2.getD n3 0#16)])) (Le.trans (Le.mk (s' := ⟨45, (f35z2 n3), [(5003, q2bW_27 (l4 ++ [(r2.getD n3 0#16)])), (6001, q2bW_27 r2)], [], 0⟩) rfl rfl ⟨.refl _, .refl _, .refl _, trivial⟩ ⟨⟨_, rfl, (BLe.of (RL.app (RL.self _) (RL.lst (enc := eW) [(r2.getD n3 0#16)] rfl rfl (fun _ => rfl))))⟩, ⟨_, rfl, .refl _⟩, trivial⟩) (Le.trans (Le.trans (Le.ren (swapN 5003 43) (swapN_inv 5003 43) rfl) (Le.mk (s' := ⟨45, (f35z3 n3), [(43, q2bW_27 (l4 ++ [(r2.getD n3 0#16)])), (6001, q2bW_27 r2)], [], 0⟩) rfl rfl ⟨.refl _, .refl _, .refl _, trivial⟩ ⟨⟨_, rfl, .refl _⟩, ⟨_, rfl, .refl _⟩, trivial⟩)) (Le.mk rfl rfl ⟨.refl _, .refl _, .refl _, trivial⟩ ⟨⟨_, rfl, .refl _⟩, ⟨_, rfl, .refl _⟩, trivial⟩))) h
     ·
      replace h := ite_fb hc4 h
      refine AWp.skip ?_
      refine kN ?_
      exact jN (l4) (Le.trans (Le.trans (Le.ren (swapN 5003 43) (swapN_inv 5003 43) rfl) (Le.mk (s' := ⟨45, [(3, .own 43), (4, .own 6001), (5, .i (n3 : Int)), (36, .bool b9)], [(43, q2bW_27 l4), (6001, q2bW_27 r2)], [], 0⟩) rfl rfl ⟨.refl _, .refl _, .refl _, .refl _, trivial⟩ ⟨⟨_, rfl, .refl _⟩, ⟨_, rfl, .refl _⟩, trivial⟩)) (Le.mk rfl rfl ⟨.refl _, .refl _, .refl _, trivial⟩ ⟨⟨_, rfl, .refl _⟩, ⟨_, rfl, .refl _⟩, trivial⟩)) h
   ·
    rintro l10 h
    replace h := (congrFun hK2 _).symm.trans h
    obtain ⟨ob17p, h⟩ := chk_some h
    have ob17 : -9223372036854775808 ≤ ((n3 : Int) + (1 : Int)) ∧ ((n3 : Int) + (1 : Int)) ≤ 9223372036854775807 := ⟨by omega, ob17p⟩
    refine q2rr [] [] ⟨45, [(3, .own 43), (4, .own 6001), (5, .i (((n3 + 1) : Nat) : Int))], [(43, q2bW_27 l10), (6001, q2bW_27 r2)], [], 0⟩ (an1 ob17) ?_
    rw [hC0] at h
    exact lN (_, (n3 + 1), l10) (Le.trans (Le.trans (Le.ren (swapN 43 5003) (swapN_inv 43 5003) rfl) (Le.mk (s' := ⟨45, [(3, .own 5003), (4, .own 6001), (5, .i (((n3 + 1) : Nat) : Int))], [(5003, q2bW_27 l10), (6001, q2bW_27 r2)], [], 0⟩) rfl rfl ⟨.refl _, .refl _, .refl _, trivial⟩ ⟨⟨_, rfl, .refl _⟩, ⟨_, rfl, .refl _⟩, trivial⟩)) (Le.mk rfl rfl ⟨.refl _, .refl _, .refl _, trivial⟩ ⟨⟨_, rfl, .refl _⟩, ⟨_, rfl, .refl _⟩, trivial⟩)) h (Nat.lt_succ_self _)
  ·
   replace h := ite_fb hc1 h
   refine AWp.exit ?_
   refine tE ?_
   refine tE ?_
   refine kS ?_
   exact jN (l4) (Le.mk rfl rfl ⟨.refl _, trivial⟩ ⟨⟨_, rfl, .refl _⟩, trivial⟩) h
 ·
  rintro l11 h
  replace h := (congrFun hK1 _).symm.trans h
  refine q2rq [] [] ⟨45, [(2, .own 5003)], [(5003, q2bW_27 l11)], [], 0⟩ trivial ?_
  refine AWp.le (Le.trans (Le.ren (swapN 5003 3000) (swapN_inv 5003 3000) rfl) (Le.mk (s' := ⟨45, [(2, .own 3000)], [(3000, q2bW_27 l11)], [], 0⟩) rfl rfl ⟨.refl _, trivial⟩ ⟨⟨_, rfl, .refl _⟩, trivial⟩)) ?_
  have hret := oJ h
  subst hret
  refine AWp.le (Le.mk (s' := ⟨45, [(2, .own 3000)], [(3000, q2bW_27 l11)], [], 0⟩) rfl rfl ⟨.refl _, trivial⟩ ⟨⟨_, rfl, .refl _⟩, trivial⟩) ?_
  refine AWp.ret ?_
  exact bR _ rfl ⟨rfl, rfl⟩ rfl
def f16_L0 (x7 : List (BitVec 16)) (x8 : Int) (K2 : (List (BitVec 16)) → Option (List (BitVec 16))) : Nat → Tq1 → Option (List (BitVec 16))
 | 0, _ => none
 | k + 1, (n11, l12) =>
  if ((decide ((n11 : Int) < (((x7).length : Nat) : Int))) && (decide ((n11 : Int) < (6 : Int)))) then (
  jn (fun (l13 : List (BitVec 16)) =>
  chk (((n11 : Int) + (1 : Int)) ≤ 9223372036854775807) <|
  (f16_L0 x7 x8 K2 k) ((n11 + 1), l13)
  ) fun (K3 : (List (TB)) → Option (List (TB))) =>
  chk ((n11 : Int) < (((x7).length : Nat) : Int)) <|
  if (!(((x7.getD n11 0#16) &&& (((BitVec.ofInt 16 1) <<< ((x8).toNat)) - (BitVec.ofInt 16 1))) == (BitVec.ofInt 16 0))) then (
  chk (((l12).length + 1) * 2 ≤ 140737488355328) <|
  K3 (l12 ++ [((x7.getD n11 0#16) &&& (((BitVec.ofInt 16 1) <<< ((x8).toNat)) - (BitVec.ofInt 16 1)))])
  ) else (
  K3 l12
  )
  ) else (
  K2 l12
  )
abbrev f16z0 (x7 : List (TB)) (x8 : Int) (n11 : Nat) : List (Nat × V) := [(1, vL 1 eW 0#16 x7), (7, .b16 (((BitVec.ofInt 16 1) <<< ((x8).toNat)) - (BitVec.ofInt 16 1))), (9, .own 5009), (10, .int .i64 (n11 : Int))]
abbrev f16z1 (x7 : List (TB)) (x8 : Int) (n11 : Nat) : List (Nat × V) := [(1, vL 1 eW 0#16 x7), (7, .b16 (((BitVec.ofInt 16 1) <<< ((x8).toNat)) - (BitVec.ofInt 16 1))), (9, .own 54), (10, .int .i64 (n11 : Int))]
def f16 (x1 : Int) (x2 : Int) (x3 : Int) (x4 : List (BitVec 16)) (x5 : List (BitVec 16)) (x6 : List Tq0) (x7 : List (BitVec 16)) (x8 : Int) : Option (List (BitVec 16)) :=
 chk (0 ≤ x8) <|
 chk (0 ≤ x3 ∧ 1 ≤ (2 : Int)) <|
 if ((x3 % (2 : Int)) == (1 : Int)) then (
 jn (fun (i9 : Int) =>
 (f34 (((BitVec.ofInt 16 1) <<< ((x8).toNat)) - (BitVec.ofInt 16 1)) i9).bind fun (r10 : List (TB)) =>
 some r10
 ) fun (K1 : Int → Option (List (TB))) =>
 if (decide ((((x7).length : Nat) : Int) > (0 : Int))) then (
 chk ((0 : Int) < (((x7).length : Nat) : Int)) <|
 chk ((((x7.getD 0 0#16).toNat : Nat) : Int) ≤ 9223372036854775807) <|
 chk (1 ≤ x8) <|
 chk (-9223372036854775808 ≤ ((1 : Int) + ((((x7.getD 0 0#16).toNat : Nat) : Int) % x8)) ∧ ((1 : Int) + ((((x7.getD 0 0#16).toNat : Nat) : Int) % x8)) ≤ 9223372036854775807) <|
 K1 ((1 : Int) + ((((x7.getD 0 0#16).toNat : Nat) : Int) % x8))
 ) else (
 K1 x8
 )
 ) else (
 jn (fun (l14 : List (BitVec 16)) =>
 jn (fun (l15 : List (BitVec 16)) =>
 (f35 l15).bind fun (r16 : List (TB)) =>
 some r16
 ) fun (K4 : (List (TB)) → Option (List (TB))) =>
 if ((((l14).length : Nat) : Int) == (0 : Int)) then (
 chk (((l14).length + 1) * 2 ≤ 140737488355328) <|
 K4 (l14 ++ [(((BitVec.ofInt 16 1) <<< ((x8).toNat)) - (BitVec.ofInt 16 1))])
 ) else (
 K4 l14
 )
 ) fun (K2 : (List (TB)) → Option (List (TB))) =>
 f16_L0 x7 x8 K2 FUEL (0, [])
 )
theorem f16_ok  (x1 : Int) (x2 : Int) (x3 : Int) (x4 : List (TB)) (x5 : List (TB)) (x6 : List Tq0) (x7 : List (TB)) (x8 : Int) (r : List (TB)) (h : f16 x1 x2 x3 x4 x5 x6 x7 x8 = some r)  : Spec1 Tryz.prog 16 [] [] [] [.agg [.int .u8 x1, .int .u8 x2, .int .u8 x3, vL 1 eW 0#16 x4, vL 1 eW 0#16 x5, vL 2 eWW (default : Tq0) x6], vL 1 eW 0#16 x7, .int .i64 x8] (.own 3000) [(3000, bL 27 1 eW 0#16 r)] := by
 unfold f16 at h
 refine Spec1.body 0 _ _ Tryz.func16 rfl Tryz.ntmps16 rfl rfl ?_
 refine q2rq [] [] ⟨64, [(1, q2aW x7), (2, .i x8), (3, .ptr 3 0)], [(3, .cells 25 [.int .u8 x1, .int .u8 x2, .int .u8 x3, q2aW x4, q2aW x5, q2aWW x6])], [], 0⟩ trivial ?_
 refine AWp.seq ?_
 obtain ⟨ob0, h⟩ := chk_some h
 refine q2rr [] [] ⟨64, [(1, q2aW x7), (2, .i x8), (3, .ptr 3 0), (7, .b16 (((q2w16 1) <<< ((x8).toNat)) - (q2w16 1)))], [(3, .cells 25 [.int .u8 x1, .int .u8 x2, .int .u8 x3, q2aW x4, q2aW x5, q2aWW x6])], [], 0⟩ (an2 ob0 trivial) ?_
 refine tN ?_
 refine AWp.seq ?_
 refine AWp.seq ?_
 obtain ⟨ob1, h⟩ := chk_some h
 refine q2rr [] [] ⟨64, [(1, q2aW x7), (2, .i x8), (7, .b16 (((q2w16 1) <<< ((x8).toNat)) - (q2w16 1))), (18, .bool ((x3 % (2 : Int)) == (1 : Int)))], [], [], 0⟩ (an1 ob1) ?_
 refine tN ?_
 refine AWp.cond (b := ((x3 % (2 : Int)) == (1 : Int))) (by kernel_rfl) (fun hc1 => ?_) (fun hc1 => ?_)
 ·
  replace h := ite_tb hc1 h
  refine q2rq [] [] ⟨64, [(1, q2aW x7), (2, .i x8), (7, .b16 (((q2w16 1) <<< ((x8).toNat)) - (q2w16 1))), (8, .i x8)], [], [], 0⟩ trivial ?_
  obtain ⟨K1, hK1, h⟩ := jn_some h
  refine AWp.join (α := Int) (fun (i9 : Int) => ⟨64, [(7, .b16 (((q2w16 1) <<< ((x8).toNat)) - (q2w16 1))), (8, .i i9)], [], [], 0⟩) (fun x => K1 x = some r) ?_ ?_
  ·
   refine q2rq [] [] ⟨64, [(1, q2aW x7), (2, .i x8), (7, .b16 (((q2w16 1) <<< ((x8).toNat)) - (q2w16 1))), (8, .i x8), (22, .bool (decide ((lZ x7) > (0 : Int))))], [], [], 0⟩ trivial ?_
   refine AWp.cond (b := (decide ((lZ x7) > (0 : Int)))) (by kernel_rfl) (fun hc2 => ?_) (fun hc2 => ?_)
   ·
    replace h := ite_tb hc2 h
    obtain ⟨ob2p, h⟩ := chk_some h
    have ob2 : 0 ≤ (0 : Int) ∧ (0 : Int) < (((x7).length : Nat) : Int) := ⟨by omega, ob2p⟩
    obtain ⟨ob3p, h⟩ := chk_some h
    have ob3 : -9223372036854775808 ≤ (((x7.getD 0 0#16).toNat : Nat) : Int) ∧ (((x7.getD 0 0#16).toNat : Nat) : Int) ≤ 9223372036854775807 := ⟨by omega, ob3p⟩
    obtain ⟨ob4p, h⟩ := chk_some h
    have ob4 : 0 ≤ (((x7.getD 0 0#16).toNat : Nat) : Int) ∧ 1 ≤ x8 := ⟨by omega, ob4p⟩
    obtain ⟨ob5, h⟩ := chk_some h
    refine q2rr [] [] ⟨64, [(7, .b16 (((q2w16 1) <<< ((x8).toNat)) - (q2w16 1))), (8, .i ((1 : Int) + ((((x7.getD 0 0#16).toNat : Nat) : Int) % x8)))], [], [], 0⟩ (an4 ob2 ob3 ob4 ob5) ?_
    exact jN (((1 : Int) + ((((x7.getD 0 0#16).toNat : Nat) : Int) % x8))) (Le.mk rfl rfl ⟨.refl _, .refl _, trivial⟩ trivial) h
   ·
    replace h := ite_fb hc2 h
    refine AWp.skip ?_
    exact jN (x8) (Le.mk rfl rfl ⟨.refl _, .refl _, trivial⟩ trivial) h
  ·
   rintro i9 h
   replace h := (congrFun hK1 _).symm.trans h
   refine AWp.seq ?_
   obtain ⟨r10, hr10, h⟩ := bind_ok h
   refine q2rr [] [(2, ⟨[.b16 (((q2w16 1) <<< ((x8).toNat)) - (q2w16 1)), .i i9], [], [], [(6001, q2bW_27 r10)], .own 6001, [6001], [], []⟩)] ⟨64, [(6, .own 6001)], [(6001, q2bW_27 r10)], [], 0⟩ (an1 (cpT (Spec1.ren (swapN 3000 6001) (swapN_inv 3000 6001) rfl (f34_ok _ _ _ hr10)))) ?_
   refine tN ?_
   refine AWp.le (Le.trans (Le.ren (swapN 6001 3000) (swapN_inv 6001 3000) rfl) (Le.mk (s' := ⟨64, [(6, .own 3000)], [(3000, q2bW_27 r10)], [], 0⟩) rfl rfl ⟨.refl _, trivial⟩ ⟨⟨_, rfl, .refl _⟩, trivial⟩)) ?_
   have hret := oJ h
   subst hret
   refine AWp.le (Le.mk (s' := ⟨64, [(6, .own 3000)], [(3000, q2bW_27 r10)], [], 0⟩) rfl rfl ⟨.refl _, trivial⟩ ⟨⟨_, rfl, .refl _⟩, trivial⟩) ?_
   refine AWp.ret ?_
   refine tR ?_
   exact bR _ rfl ⟨rfl, rfl⟩ rfl
 ·
  replace h := ite_fb hc1 h
  refine AWp.skip ?_
  refine tN ?_
  refine q2rq [] [] ⟨64, [(1, q2aW x7), (7, .b16 (((q2w16 1) <<< ((x8).toNat)) - (q2w16 1))), (9, .nils)], [], [], 0⟩ trivial ?_
  obtain ⟨K2, hK2, h⟩ := jn_some h
  refine AWp.join (α := List (TB)) (fun (l14 : List (TB)) => ⟨64, [(7, .b16 (((q2w16 1) <<< ((x8).toNat)) - (q2w16 1))), (9, .own 5009)], [(5009, q2bW_27 l14)], [], 0⟩) (fun x => K2 x = some r) ?_ ?_
  ·
   refine q2rq [] [] ⟨64, [(1, q2aW x7), (7, .b16 (((q2w16 1) <<< ((x8).toNat)) - (q2w16 1))), (9, .nils), (10, .i (0 : Int))], [], [], 0⟩ trivial ?_
   refine AWp.block ?_
   refine AWp.loopL (α := Nat × Tq1) (fun x => match x with | (_, n11, l12) => ⟨64, (f16z0 x7 x8 n11), [(5009, q2bW_27 l12)], [], 0⟩) (fun x => f16_L0 x7 x8 K2 x.1 x.2 = some r) (fun x => x.1) (FUEL, 0, []) (Le.trans (Le.trans (Le.nilOwn 9 5009 27 1 (encF eW 0#16 []) rfl rfl (Nat.le_of_ble_eq_true rfl)) (Le.mk (s' := ⟨64, [(1, q2aW x7), (7, .b16 (((q2w16 1) <<< ((x8).toNat)) - (q2w16 1))), (9, .own 5009), (10, .i (0 : Int))], [(5009, q2bW_27 [])], [], 0⟩) rfl rfl ⟨.refl _, .refl _, .refl _, .refl _, trivial⟩ ⟨⟨_, rfl, .refl _⟩, trivial⟩)) (Le.mk (s' := ⟨64, [(1, q2aW x7), (7, .b16 (((q2w16 1) <<< ((x8).toNat)) - (q2w16 1))), (9, .own 5009), (10, .i (0 : Int))], [(5009, q2bW_27 [])], [], 0⟩) rfl rfl ⟨.refl _, .refl _, .refl _, .refl _, trivial⟩ ⟨⟨_, rfl, .refl _⟩, trivial⟩)) h ?_
   rintro ⟨k0, n11, l12⟩ h
   cases k0 with
   | zero => exact nomatch (show (none : Option (List (TB))) = some r from h)
   | succ k0 =>
   obtain ⟨C0, hC0⟩ : ∃ C, C = f16_L0 x7 x8 K2 k0 := ⟨_, rfl⟩
   replace h := (f16_L0.eq_2 ..).symm.trans h
   try rw [← hC0] at h
   refine AWp.seq ?_
   refine AWp.seq ?_
   have ob6 := idA (((decide ((n11 : Int) < (lZ x7))) == true) = true)
   have ob7 := bqA (decide ((n11 : Int) < (lZ x7))) true
   refine q2rr [] [] ⟨64, [(1, q2aW x7), (7, .b16 (((q2w16 1) <<< ((x8).toNat)) - (q2w16 1))), (9, .own 5009), (10, .i (n11 : Int)), (40, .bool ((decide ((n11 : Int) < (lZ x7))) && (decide ((n11 : Int) < (6 : Int)))))], [(5009, q2bW_27 l12)], [], 0⟩ (an2 (an1 ob6) ob7) ?_
   refine tN ?_
   refine AWp.cond (b := ((decide ((n11 : Int) < (lZ x7))) && (decide ((n11 : Int) < (6 : Int))))) (by kernel_rfl) (fun hc3 => ?_) (fun hc3 => ?_)
   ·
    replace h := ite_tb hc3 h
    refine AWp.skip ?_
    refine tN ?_
    obtain ⟨K3, hK3, h⟩ := jn_some h
    refine AWp.join (α := List (TB)) (fun (l13 : List (TB)) => ⟨64, (f16z1 x7 x8 n11), [(54, q2bW_27 l13)], [], 0⟩) (fun x => K3 x = some r) ?_ ?_
    ·
     refine AWp.block ?_
     refine AWp.seq ?_
     obtain ⟨ob8p, h⟩ := chk_some h
     have ob8 : 0 ≤ (n11 : Int) ∧ (n11 : Int) < (((x7).length : Nat) : Int) := ⟨by omega, ob8p⟩
     refine q2rr [] [] ⟨64, [(1, q2aW x7), (7, .b16 (((q2w16 1) <<< ((x8).toNat)) - (q2w16 1))), (9, .own 5009), (10, .i (n11 : Int)), (11, .b16 ((x7.getD n11 0#16) &&& (((q2w16 1) <<< ((x8).toNat)) - (q2w16 1))))], [(5009, q2bW_27 l12)], [], 0⟩ (an1 ob8) ?_
     refine tN ?_
     refine q2rq [] [] ⟨64, [(1, q2aW x7), (7, .b16 (((q2w16 1) <<< ((x8).toNat)) - (q2w16 1))), (9, .own 5009), (10, .i (n11 : Int)), (11, .b16 ((x7.getD n11 0#16) &&& (((q2w16 1) <<< ((x8).toNat)) - (q2w16 1)))), (50, .bool (!(((x7.getD n11 0#16) &&& (((q2w16 1) <<< ((x8).toNat)) - (q2w16 1))) == (q2w16 0))))], [(5009, q2bW_27 l12)], [], 0⟩ trivial ?_
     refine AWp.cond (b := (!(((x7.getD n11 0#16) &&& (((q2w16 1) <<< ((x8).toNat)) - (q2w16 1))) == (q2w16 0)))) (by kernel_rfl) (fun hc4 => ?_) (fun hc4 => ?_)
     ·
      replace h := ite_tb hc4 h
      obtain ⟨ob9, h⟩ := chk_some h
      refine q2rr [] [] ⟨64, (f16z0 x7 x8 n11), [(5009, .rows 27 1 ((l12).length + 1) (appF (l12).length (encF eW 0#16 l12) (lstF 1 [.b16 ((x7.getD n11 0#16) &&& (((q2w16 1) <<< ((x8).toNat)) - (q2w16 1)))])))], [], 0⟩ (an1 ob9) ?_
      refine kN ?_
      exact jN ((l12 ++ [((x7.getD n11 0#16) &&& (((q2w16 1) <<< ((x8).toNat)) - (q2w16 1)))])) (Le.trans (Le.mk (s' := ⟨64, (f16z0 x7 x8 n11), [(5009, q2bW_27 (l12 ++ [((x7.getD n11 0#16) &&& (((q2w16 1) <<< ((x8).toNat)) - (q2w16 1)))]))], [], 0⟩) rfl rfl ⟨.refl _, .refl _, .refl _, .refl _, trivial⟩ ⟨⟨_, rfl, (BLe.of (RL.app (RL.self _) (RL.lst (enc := eW) [((x7.getD n11 0#16) &&& (((q2w16 1) <<< ((x8).toNat)) - (q2w16 1)))] rfl rfl (fun _ => rfl))))⟩, trivial⟩) (Le.trans (Le.trans (Le.ren (swapN 5009 54) (swapN_inv 5009 54) rfl) (Le.mk (s' := ⟨64, (f16z1 x7 x8 n11), [(54, q2bW_27 (l12 ++ [((x7.getD n11 0#16) &&& (((q2w16 1) <<< ((x8).toNat)) - (q2w16 1)))]))], [], 0⟩) rfl rfl ⟨.refl _, .refl _, .refl _, .refl _, trivial⟩ ⟨⟨_, rfl, .refl _⟩, trivial⟩)) (Le.mk rfl rfl ⟨.refl _, .refl _, .refl _, .refl _, trivial⟩ ⟨⟨_, rfl, .refl _⟩, trivial⟩))) h
     ·
      replace h := ite_fb hc4 h
      refine AWp.skip ?_
      refine kN ?_
      exact jN (l12) (Le.trans (Le.trans (Le.ren (swapN 5009 54) (swapN_inv 5009 54) rfl) (Le.mk (s' := ⟨64, [(1, q2aW x7), (7, .b16 (((q2w16 1) <<< ((x8).toNat)) - (q2w16 1))), (9, .own 54), (10, .i (n11 : Int)), (11, .b16 ((x7.getD n11 0#16) &&& (((q2w16 1) <<< ((x8).toNat)) - (q2w16 1)))), (50, .bool (!(((x7.getD n11 0#16) &&& (((q2w16 1) <<< ((x8).toNat)) - (q2w16 1))) == (q2w16 0))))], [(54, q2bW_27 l12)], [], 0⟩) rfl rfl ⟨.refl _, .refl _, .refl _, .refl _, .refl _, .refl _, trivial⟩ ⟨⟨_, rfl, .refl _⟩, trivial⟩)) (Le.mk rfl rfl ⟨.refl _, .refl _, .refl _, .refl _, trivial⟩ ⟨⟨_, rfl, .refl _⟩, trivial⟩)) h
    ·
     rintro l13 h
     replace h := (congrFun hK3 _).symm.trans h
     obtain ⟨ob10p, h⟩ := chk_some h
     have ob10 : -9223372036854775808 ≤ ((n11 : Int) + (1 : Int)) ∧ ((n11 : Int) + (1 : Int)) ≤ 9223372036854775807 := ⟨by omega, ob10p⟩
     refine q2rr [] [] ⟨64, [(1, q2aW x7), (7, .b16 (((q2w16 1) <<< ((x8).toNat)) - (q2w16 1))), (9, .own 54), (10, .i (((n11 + 1) : Nat) : Int))], [(54, q2bW_27 l13)], [], 0⟩ (an1 ob10) ?_
     rw [hC0] at h
     exact lN (_, (n11 + 1), l13) (Le.trans (Le.trans (Le.ren (swapN 54 5009) (swapN_inv 54 5009) rfl) (Le.mk (s' := ⟨64, [(1, q2aW x7), (7, .b16 (((q2w16 1) <<< ((x8).toNat)) - (q2w16 1))), (9, .own 5009), (10, .i (((n11 + 1) : Nat) : Int))], [(5009, q2bW_27 l13)], [], 0⟩) rfl rfl ⟨.refl _, .refl _, .refl _, .refl _, trivial⟩ ⟨⟨_, rfl, .refl _⟩, trivial⟩)) (Le.mk rfl rfl ⟨.refl _, .refl _, .refl _, .refl _, trivial⟩ ⟨⟨_, rfl, .refl _⟩, trivial⟩)) h (Nat.lt_succ_self _)
   ·
    replace h := ite_fb hc3 h
    refine AWp.exit ?_
    refine tE ?_
    refine tE ?_
    refine kS ?_
    exact jN (l12) (Le.mk rfl rfl ⟨.refl _, .refl _, trivial⟩ ⟨⟨_, rfl, .refl _⟩, trivial⟩) h
  ·
   rintro l14 h
   replace h := (congrFun hK2 _).symm.trans h
   obtain ⟨K4, hK4, h⟩ := jn_some h
   refine AWp.join (α := List (TB)) (fun (l15 : List (TB)) => ⟨64, [(9, .own 5009)], [(5009, q2bW_27 l15)], [], 0⟩) (fun x => K4 x = some r) ?_ ?_
   ·
    refine q2rq [] [] ⟨64, [(7, .b16 (((q2w16 1) <<< ((x8).toNat)) - (q2w16 1))), (9, .own 5009), (57, .bool ((lZ l14) == (0 : Int)))], [(5009, q2bW_27 l14)], [], 0⟩ trivial ?_
    refine AWp.cond (b := ((lZ l14) == (0 : Int))) (by kernel_rfl) (fun hc5 => ?_) (fun hc5 => ?_)
    ·
     replace h := ite_tb hc5 h
     obtain ⟨ob11, h⟩ := chk_some h
     refine q2rr [] [] ⟨64, [(9, .own 5009)], [(5009, .rows 27 1 ((l14).length + 1) (appF (l14).length (encF eW 0#16 l14) (lstF 1 [.b16 (((q2w16 1) <<< ((x8).toNat)) - (q2w16 1))])))], [], 0⟩ (an1 ob11) ?_
     exact jN ((l14 ++ [(((q2w16 1) <<< ((x8).toNat)) - (q2w16 1))])) (Le.trans (Le.mk (s' := ⟨64, [(9, .own 5009)], [(5009, q2bW_27 (l14 ++ [(((q2w16 1) <<< ((x8).toNat)) - (q2w16 1))]))], [], 0⟩) rfl rfl ⟨.refl _, trivial⟩ ⟨⟨_, rfl, (BLe.of (RL.app (RL.self _) (RL.lst (enc := eW) [(((q2w16 1) <<< ((x8).toNat)) - (q2w16 1))] rfl rfl (fun _ => rfl))))⟩, trivial⟩) (Le.mk rfl rfl ⟨.refl _, trivial⟩ ⟨⟨_, rfl, .refl _⟩, trivial⟩)) h
    ·
     replace h := ite_fb hc5 h
     refine AWp.skip ?_
     exact jN (l14) (Le.mk rfl rfl ⟨.refl _, trivial⟩ ⟨⟨_, rfl, .refl _⟩, trivial⟩) h
   ·
    rintro l15 h
    replace h := (congrFun hK4 _).symm.trans h
    refine AWp.seq ?_
    obtain ⟨r16, hr16, h⟩ := bind_ok h
    refine q2rr [] [(1, ⟨[q2aW l15], [], [], [(6002, q2bW_27 r16)], .own 6002, [6002], [5009], []⟩)] ⟨64, [(6, .own 6002)], [(6002, q2bW_27 r16)], [], 0⟩ (an1 (cpL (c := true) [(5009, q2bW_27 l15)] [5009] [.own 5009] (fun _ => (Spec1.ren (swapN 3000 6002) (swapN_inv 3000 6002) rfl (f35_ok _ _ hr16))) (fun _ => ⟨.refl _, trivial⟩) (.inr ⟨rfl, ⟨(fun _ _ _ _ => eW_flat _ _), trivial⟩⟩))) ?_
    refine tN ?_
    refine AWp.le (Le.trans (Le.ren (swapN 6002 3000) (swapN_inv 6002 3000) rfl) (Le.mk (s' := ⟨64, [(6, .own 3000)], [(3000, q2bW_27 r16)], [], 0⟩) rfl rfl ⟨.refl _, trivial⟩ ⟨⟨_, rfl, .refl _⟩, trivial⟩)) ?_
    have hret := oJ h
    subst hret
    refine AWp.le (Le.mk (s' := ⟨64, [(6, .own 3000)], [(3000, q2bW_27 r16)], [], 0⟩) rfl rfl ⟨.refl _, trivial⟩ ⟨⟨_, rfl, .refl _⟩, trivial⟩) ?_
    refine AWp.ret ?_
    exact bR _ rfl ⟨rfl, rfl⟩ rfl
def f60 (x1 : BitVec 16) (x2 : BitVec 16) : Option (BitVec 16) :=
 some (x1 ||| x2)
theorem f60_ok  (x1 : TB) (x2 : TB) (r : TB) (h : f60 x1 x2 = some r)  : Spec1 Tryz.prog 60 [] [] [] [.agg [.b16 x1, .b16 x2]] (.b16 r) [] := by
 unfold f60 at h
 refine Spec1.body 0 _ _ Tryz.func60 rfl Tryz.ntmps60 rfl rfl ?_
 refine q2rq [] [] ⟨8, [(1, .ptr 1 0)], [(1, .cells 43 [.b16 x1, .b16 x2])], [], 0⟩ trivial ?_
 refine q2rq [] [] ⟨8, [(2, .b16 (x1 ||| x2))], [], [], 0⟩ trivial ?_
 have hret := oJ h
 subst hret
 refine AWp.le (Le.mk (s' := ⟨8, [(2, .b16 (x1 ||| x2))], [], [], 0⟩) rfl rfl ⟨.refl _, trivial⟩ trivial) ?_
 refine AWp.ret ?_
 exact bR _ rfl ⟨rfl, rfl⟩ rfl
def f36 (x1 : BitVec 16) (x2 : BitVec 16) (x3 : BitVec 16) (x4 : BitVec 16) : Option Bool :=
 (f58 x3 x1).bind fun (r5 : Bool) =>
 optc (r5 == true) (f60 x3 x4) fun (r6 : TB) =>
 optc (r5 == true) (f60 x1 x2) fun (r7 : TB) =>
 optc (r5 == true) (f58 r6 r7) fun (r8 : Bool) =>
 some (r5 && r8)
theorem f36_ok  (x1 : TB) (x2 : TB) (x3 : TB) (x4 : TB) (r : Bool) (h : f36 x1 x2 x3 x4 = some r)  : Spec1 Tryz.prog 36 [] [] [] [.agg [.b16 x1, .b16 x2], .agg [.b16 x3, .b16 x4]] (.bool r) [] := by
 unfold f36 at h
 refine Spec1.body 0 _ _ Tryz.func36 rfl Tryz.ntmps36 rfl rfl ?_
 refine q2rq [] [] ⟨17, [(2, .ptr 2 0), (3, .ptr 3 0)], [(2, .cells 43 [.b16 x1, .b16 x2]), (3, .cells 43 [.b16 x3, .b16 x4])], [], 0⟩ trivial ?_
 refine AWp.seq ?_
 obtain ⟨r5, hr5, h⟩ := bind_ok h
 obtain ⟨r6, hr6, h⟩ := optc_some h
 obtain ⟨r7, hr7, h⟩ := optc_some h
 obtain ⟨r8, hr8, h⟩ := optc_some h
 have ob0 := idA ((r5 == true) = true)
 have ob1 := idA ((r5 == true) = true)
 have ob2 := idA ((r5 == true) = true)
 have ob3 := idA ((r5 == true) = true)
 have ob4 := bqA r5 true
 refine q2rr [] [(4, ⟨[.b16 x3, .b16 x1], [], [], [], .bool r5, [], [], []⟩), (7, ⟨[.agg [.b16 x3, .b16 x4]], [], [], [], .b16 r6, [], [], []⟩), (9, ⟨[.agg [.b16 x1, .b16 x2]], [], [], [], .b16 r7, [], [], []⟩), (10, ⟨[.b16 r6, .b16 r7], [], [], [], .bool r8, [], [], []⟩)] ⟨17, [(4, .bool (r5 && r8))], [], [], 0⟩ (an5 (cpT (f58_ok _ _ _ hr5)) (And.intro (cpC fun hc => (f60_ok _ _ _ (hr6 hc))) (an1 ob0)) (And.intro (cpC fun hc => (f60_ok _ _ _ (hr7 hc))) (an1 ob1)) (And.intro (cpC fun hc => (f58_ok _ _ _ (hr8 hc))) (an2 ob2 ob3)) ob4) ?_
 refine tN ?_
 have hret := oJ h
 subst hret
 refine AWp.le (Le.mk (s' := ⟨17, [(4, .bool (r5 && r8))], [], [], 0⟩) rfl rfl ⟨.refl _, trivial⟩ trivial) ?_
 refine AWp.ret ?_
 exact bR _ rfl ⟨rfl, rfl⟩ rfl
abbrev f61z0 (r3 : Int) (r4 : Int) := ((decide (r3 < r4)) == false)
def f61 (x1 : BitVec 16) (x2 : BitVec 16) : Option Int :=
 if (x1 == x2) then (
 some (0 : Int)
 ) else (
 (f59 x1).bind fun (r3 : Int) =>
 (f59 x2).bind fun (r4 : Int) =>
 optc ((decide (r3 < r4)) == false) (f59 x1) fun (r5 : Int) =>
 optc ((decide (r3 < r4)) == false) (f59 x2) fun (r6 : Int) =>
 chk (((decide (r3 < r4)) == false) = true → ((decide (r3 < r4)) == false) = true → (r5 == r6) = true → (((decide (r3 < r4)) == false) && ((r5 == r6) == true)) = true) <|
 if ((decide (r3 < r4)) || ((r5 == r6) && (decide (x1.toNat < x2.toNat)))) then (
 some (-1 : Int)
 ) else (
 some (1 : Int)
 )
 )
theorem f61_ok  (x1 : TB) (x2 : TB) (r : Int) (h : f61 x1 x2 = some r)  : Spec1 Tryz.prog 61 [] [] [] [.b16 x1, .b16 x2] (.int .i64 r) [] := by
 unfold f61 at h
 refine Spec1.body 0 _ _ Tryz.func61 rfl Tryz.ntmps61 rfl rfl ?_
 refine q2rq [] [] ⟨25, [(0, .b16 x1), (1, .b16 x2)], [], [], 0⟩ trivial ?_
 refine AWp.seq ?_
 refine q2rq [] [] ⟨25, [(0, .b16 x1), (1, .b16 x2), (7, .bool (x1 == x2))], [], [], 0⟩ trivial ?_
 refine AWp.cond (b := (x1 == x2)) (by kernel_rfl) (fun hc1 => ?_) (fun hc1 => ?_)
 ·
  replace h := ite_tb hc1 h
  refine q2rq [] [] ⟨25, [(4, .i (0 : Int))], [], [], 0⟩ trivial ?_
  have hret := oJ h
  subst hret
  refine AWp.le (Le.mk (s' := ⟨25, [(4, .i (0 : Int))], [], [], 0⟩) rfl rfl ⟨.refl _, trivial⟩ trivial) ?_
  refine AWp.ret ?_
  refine tR ?_
  exact bR _ rfl ⟨rfl, rfl⟩ rfl
 ·
  replace h := ite_fb hc1 h
  refine AWp.skip ?_
  refine tN ?_
  refine AWp.seq ?_
  refine AWp.seq ?_
  obtain ⟨r3, hr3, h⟩ := bind_ok h
  obtain ⟨r4, hr4, h⟩ := bind_ok h
  obtain ⟨r5, hr5, h⟩ := optc_some h
  obtain ⟨r6, hr6, h⟩ := optc_some h
  have ob0 := idA ((f61z0 r3 r4) = true)
  have ob1 := idA ((f61z0 r3 r4) = true)
  have ob2 := idA ((f61z0 r3 r4) = true)
  have ob3 := idA ((f61z0 r3 r4) = true)
  have ob4 := idA ((f61z0 r3 r4) = true)
  have ob5 := idA (((f61z0 r3 r4) && ((r5 == r6) == true)) = true)
  have ob6 := idA (((f61z0 r3 r4) && ((r5 == r6) == true)) = true)
  obtain ⟨ob7, h⟩ := chk_some h
  have ob8 := idA ((f61z0 r3 r4) = true)
  have ob9 : true = true → (decide (r3 < r4)) = false → (f61z0 r3 r4) = true := fun _ h => beq_iff_eq.2 h
  refine q2rr [] [(1, ⟨[.b16 x1], [], [], [], .i r3, [], [], []⟩), (3, ⟨[.b16 x2], [], [], [], .i r4, [], [], []⟩), (7, ⟨[.b16 x1], [], [], [], .i r5, [], [], []⟩), (9, ⟨[.b16 x2], [], [], [], .i r6, [], [], []⟩)] ⟨25, [(24, .bool ((decide (r3 < r4)) || ((r5 == r6) && (decide (x1.toNat < x2.toNat)))))], [], [], 0⟩ (ac6 (cpT (f59_ok _ _ hr3)) (cpT (f59_ok _ _ hr4)) (And.intro (cpC fun hc => (f59_ok _ _ (hr5 hc))) (an1 ob0)) (And.intro (cpC fun hc => (f59_ok _ _ (hr6 hc))) (an1 ob1)) (an2 ob2 ob3) (an1 ob4) (an3 (an2 ob5 ob6) (And.intro ob7 (an1 ob8)) ob9)) ?_
  refine tN ?_
  refine AWp.cond (b := ((decide (r3 < r4)) || ((r5 == r6) && (decide (x1.toNat < x2.toNat))))) (by kernel_rfl) (fun hc2 => ?_) (fun hc2 => ?_)
  ·
   replace h := ite_tb hc2 h
   refine q2rq [] [] ⟨25, [(4, .i (-1 : Int))], [], [], 0⟩ trivial ?_
   have hret := oJ h
   subst hret
   refine AWp.le (Le.mk (s' := ⟨25, [(4, .i (-1 : Int))], [], [], 0⟩) rfl rfl ⟨.refl _, trivial⟩ trivial) ?_
   refine AWp.ret ?_
   refine tR ?_
   exact bR _ rfl ⟨rfl, rfl⟩ rfl
  ·
   replace h := ite_fb hc2 h
   refine AWp.skip ?_
   refine tN ?_
   refine q2rq [] [] ⟨25, [(4, .i (1 : Int))], [], [], 0⟩ trivial ?_
   have hret := oJ h
   subst hret
   refine AWp.le (Le.mk (s' := ⟨25, [(4, .i (1 : Int))], [], [], 0⟩) rfl rfl ⟨.refl _, trivial⟩ trivial) ?_
   refine AWp.ret ?_
   exact bR _ rfl ⟨rfl, rfl⟩ rfl
def f37 (x1 : BitVec 16) (x2 : BitVec 16) (x3 : BitVec 16) (x4 : BitVec 16) : Option Int :=
 (f61 x1 x3).bind fun (r5 : Int) =>
 if (r5 != (0 : Int)) then (
 some r5
 ) else (
 (f61 x2 x4).bind fun (r6 : Int) =>
 some r6
 )
theorem f37_ok  (x1 : TB) (x2 : TB) (x3 : TB) (x4 : TB) (r : Int) (h : f37 x1 x2 x3 x4 = some r)  : Spec1 Tryz.prog 37 [] [] [] [.agg [.b16 x1, .b16 x2], .agg [.b16 x3, .b16 x4]] (.int .i64 r) [] := by
 unfold f37 at h
 refine Spec1.body 0 _ _ Tryz.func37 rfl Tryz.ntmps37 rfl rfl ?_
 refine q2rq [] [] ⟨19, [(2, .ptr 2 0), (3, .ptr 3 0)], [(2, .cells 43 [.b16 x1, .b16 x2]), (3, .cells 43 [.b16 x3, .b16 x4])], [], 0⟩ trivial ?_
 refine AWp.seq ?_
 refine AWp.seq ?_
 obtain ⟨r5, hr5, h⟩ := bind_ok h
 refine q2rr [] [(4, ⟨[.b16 x1, .b16 x3], [], [], [], .i r5, [], [], []⟩)] ⟨19, [(2, .ptr 2 0), (3, .ptr 3 0), (5, .i r5)], [(2, .cells 43 [.b16 x1, .b16 x2]), (3, .cells 43 [.b16 x3, .b16 x4])], [], 0⟩ (an1 (cpT (f61_ok _ _ _ hr5))) ?_
 refine tN ?_
 refine q2rq [] [] ⟨19, [(2, .ptr 2 0), (3, .ptr 3 0), (5, .i r5), (12, .bool (r5 != (0 : Int)))], [(2, .cells 43 [.b16 x1, .b16 x2]), (3, .cells 43 [.b16 x3, .b16 x4])], [], 0⟩ trivial ?_
 refine AWp.cond (b := (r5 != (0 : Int))) (by kernel_rfl) (fun hc1 => ?_) (fun hc1 => ?_)
 ·
  replace h := ite_tb hc1 h
  refine q2rq [] [] ⟨19, [(4, .i r5)], [], [], 0⟩ trivial ?_
  have hret := oJ h
  subst hret
  refine AWp.le (Le.mk (s' := ⟨19, [(4, .i r5)], [], [], 0⟩) rfl rfl ⟨.refl _, trivial⟩ trivial) ?_
  refine AWp.ret ?_
  refine tR ?_
  exact bR _ rfl ⟨rfl, rfl⟩ rfl
 ·
  replace h := ite_fb hc1 h
  refine AWp.skip ?_
  refine tN ?_
  refine AWp.seq ?_
  obtain ⟨r6, hr6, h⟩ := bind_ok h
  refine q2rr [] [(4, ⟨[.b16 x2, .b16 x4], [], [], [], .i r6, [], [], []⟩)] ⟨19, [(4, .i r6)], [], [], 0⟩ (an1 (cpT (f61_ok _ _ _ hr6))) ?_
  refine tN ?_
  have hret := oJ h
  subst hret
  refine AWp.le (Le.mk (s' := ⟨19, [(4, .i r6)], [], [], 0⟩) rfl rfl ⟨.refl _, trivial⟩ trivial) ?_
  refine AWp.ret ?_
  exact bR _ rfl ⟨rfl, rfl⟩ rfl
def f17_L1 (x1 : List Tq0) (n2 : Nat) (K3 : Bool → Option (List Tq0)) : Nat → (Bool × Nat) → Option (List Tq0)
 | 0, _ => none
 | k + 1, (b4, n5) =>
  if (decide ((n5 : Int) < (((x1).length : Nat) : Int))) then (
  jn (fun (b7 : Bool) =>
  chk (((n5 : Int) + (1 : Int)) ≤ 9223372036854775807) <|
  (f17_L1 x1 n2 K3 k) (b7, (n5 + 1))
  ) fun (K4 : Bool → Option (List Tq0)) =>
  (f36 ((x1.getD n5 (default : Tq0)).1) ((x1.getD n5 (default : Tq0)).2) ((x1.getD n2 (default : Tq0)).1) ((x1.getD n2 (default : Tq0)).2)).bind fun (r6 : Bool) =>
  chk ((n5 : Int) < (((x1).length : Nat) : Int)) <|
  chk ((n2 : Int) < (((x1).length : Nat) : Int)) <|
  chk ((r6 == true) = true → 0 ≤ (n5 : Int) ∧ (n5 : Int) < (((x1).length : Nat) : Int)) <|
  chk ((r6 == true) = true → 0 ≤ (n2 : Int) ∧ (n2 : Int) < (((x1).length : Nat) : Int)) <|
  chk ((r6 == true) = true → (r6 == true) = true → (!((((x1.getD n5 (default : Tq0)).1) == ((x1.getD n2 (default : Tq0)).1)) && ((((x1.getD n5 (default : Tq0)).2) == ((x1.getD n2 (default : Tq0)).2)) && true))) = false → ((r6 == true) && ((!((((x1.getD n5 (default : Tq0)).1) == ((x1.getD n2 (default : Tq0)).1)) && ((((x1.getD n5 (default : Tq0)).2) == ((x1.getD n2 (default : Tq0)).2)) && true))) == false)) = true) <|
  if (r6 && ((!((((x1.getD n5 (default : Tq0)).1) == ((x1.getD n2 (default : Tq0)).1)) && ((((x1.getD n5 (default : Tq0)).2) == ((x1.getD n2 (default : Tq0)).2)) && true))) || (decide ((n5 : Int) < (n2 : Int))))) then (
  K4 false
  ) else (
  K4 b4
  )
  ) else (
  K3 b4
  )
def f17_L2 (x1 : List Tq0) (n2 : Nat) (K5 : (Nat × (List Tq0)) → Option (List Tq0)) : Nat → (Nat × (List Tq0)) → Option (List Tq0)
 | 0, _ => none
 | k + 1, (n10, l11) =>
  optc ((decide ((n10 : Int) < (((l11).length : Nat) : Int))) == true) (f37 ((l11.getD n10 (default : Tq0)).1) ((l11.getD n10 (default : Tq0)).2) ((x1.getD n2 (default : Tq0)).1) ((x1.getD n2 (default : Tq0)).2)) fun (r12 : Int) =>
  chk (((decide ((n10 : Int) < (((l11).length : Nat) : Int))) == true) = true → 0 ≤ (n10 : Int) ∧ (n10 : Int) < (((l11).length : Nat) : Int)) <|
  chk (((decide ((n10 : Int) < (((l11).length : Nat) : Int))) == true) = true → n10 < (l11).length) <|
  chk (((decide ((n10 : Int) < (((l11).length : Nat) : Int))) == true) = true → 0 ≤ (n2 : Int) ∧ (n2 : Int) < (((x1).length : Nat) : Int)) <|
  if ((decide ((n10 : Int) < (((l11).length : Nat) : Int))) && (decide (r12 < (0 : Int)))) then (
  chk (((n10 : Int) + (1 : Int)) ≤ 9223372036854775807) <|
  (f17_L2 x1 n2 K5 k) ((n10 + 1), l11)
  ) else (
  K5 (n10, l11)
  )
def f17_L0 (x1 : List Tq0) (K1 : (List Tq0) → Option (List Tq0)) : Nat → (Nat × (List Tq0)) → Option (List Tq0)
 | 0, _ => none
 | k + 1, (n2, l3) =>
  if (decide ((n2 : Int) < (((x1).length : Nat) : Int))) then (
  jn (fun (l9 : List Tq0) =>
  chk (((n2 : Int) + (1 : Int)) ≤ 9223372036854775807) <|
  (f17_L0 x1 K1 k) ((n2 + 1), l9)
  ) fun (K2 : (List Tq0) → Option (List Tq0)) =>
  jn (fun (b8 : Bool) =>
  if (!b8) then (
  K2 l3
  ) else (
  jn (fun ((n13, l14) : Nat × (List Tq0)) =>
  chk ((n13 : Int) ≤ (((l14).length : Nat) : Int)) <|
  chk ((0 + n13) * 4 ≤ 140737488355328) <|
  chk ((n2 : Int) < (((x1).length : Nat) : Int)) <|
  chk ((((l14.take n13)).length + 1) * 4 ≤ 140737488355328) <|
  chk ((n13 : Int) ≤ (((l14).length : Nat) : Int)) <|
  chk (((((l14.take n13) ++ [((x1.getD n2 (default : Tq0)).1, (x1.getD n2 (default : Tq0)).2)])).length + ((l14).length - n13)) * 4 ≤ 140737488355328) <|
  K2 (((l14.take n13) ++ [((x1.getD n2 (default : Tq0)).1, (x1.getD n2 (default : Tq0)).2)]) ++ (l14.drop n13))
  ) fun (K5 : (Nat × (List Tq0)) → Option (List Tq0)) =>
  f17_L2 x1 n2 K5 FUEL (0, l3)
  )
  ) fun (K3 : Bool → Option (List Tq0)) =>
  f17_L1 x1 n2 K3 FUEL (true, 0)
  ) else (
  K1 l3
  )
abbrev f17z0 (x1 : List Tq0) (n2 : Nat) := (x1.getD n2 (default : Tq0))
abbrev f17z1 (l3 : List Tq0) : Heap := [(5003, bL 43 2 eWW (default : Tq0) l3)]
abbrev f17z2 (x1 : List Tq0) (n5 : Nat) (n2 : Nat) := (!((((x1.getD n5 (default : Tq0)).1) == ((f17z0 x1 n2).1)) && ((((x1.getD n5 (default : Tq0)).2) == ((f17z0 x1 n2).2)) && true)))
abbrev f17z3 (x1 : List Tq0) (l14 : List Tq0) (n2 : Nat) (n13 : Nat) : List (Nat × V) := [(0, vL 2 eWW (default : Tq0) x1), (3, vL 2 eWW (default : Tq0) l14), (4, .int .i64 (n2 : Int)), (7, .int .i64 (n13 : Int)), (8, .own 70)]
abbrev f17z4 (x1 : List Tq0) (n2 : Nat) : List (Nat × V) := [(0, vL 2 eWW (default : Tq0) x1), (3, .own 5003), (4, .int .i64 (n2 : Int))]
abbrev f17z5 (l11 : List Tq0) : Heap := [(5003, bL 43 2 eWW (default : Tq0) l11)]
abbrev f17z6 (x1 : List Tq0) (n2 : Nat) : List (Nat × V) := [(0, vL 2 eWW (default : Tq0) x1), (3, .own 70), (4, .int .i64 (n2 : Int))]
abbrev f17z7 := Tq0
def f17 (x1 : List Tq0) : Option (List Tq0) :=
 jn (fun (l15 : List Tq0) =>
 some l15
 ) fun (K1 : (List Tq0) → Option (List Tq0)) =>
 f17_L0 x1 K1 FUEL (0, [])
theorem f17_ok  (x1 : List Tq0) (r : List Tq0) (h : f17 x1 = some r)  : Spec1 Tryz.prog 17 [] [] [] [vL 2 eWW (default : Tq0) x1] (.own 3000) [(3000, bL 43 2 eWW (default : Tq0) r)] := by
 unfold f17 at h
 refine Spec1.body 0 _ _ Tryz.func17 rfl Tryz.ntmps17 rfl rfl ?_
 refine q2rq [] [] ⟨84, [(0, q2aWW x1)], [], [], 0⟩ trivial ?_
 refine q2rq [] [] ⟨84, [(0, q2aWW x1), (3, .nils)], [], [], 0⟩ trivial ?_
 obtain ⟨K1, hK1, h⟩ := jn_some h
 refine AWp.join (α := List (f17z7)) (fun (l15 : List (f17z7)) => ⟨84, [(3, .own 5003)], [(5003, q2bWW_43 l15)], [], 0⟩) (fun x => K1 x = some r) ?_ ?_
 ·
  refine q2rq [] [] ⟨84, [(0, q2aWW x1), (3, .nils), (4, .i (0 : Int))], [], [], 0⟩ trivial ?_
  refine AWp.block ?_
  refine AWp.loopL (α := Nat × (Nat × (List (f17z7)))) (fun x => match x with | (_, n2, l3) => ⟨84, (f17z4 x1 n2), (f17z1 l3), [], 0⟩) (fun x => f17_L0 x1 K1 x.1 x.2 = some r) (fun x => x.1) (FUEL, 0, []) (Le.trans (Le.trans (Le.nilOwn 3 5003 43 2 (encF eWW q2dWW []) rfl rfl (Nat.le_of_ble_eq_true rfl)) (Le.mk (s' := ⟨84, [(0, q2aWW x1), (3, .own 5003), (4, .i (0 : Int))], [(5003, q2bWW_43 [])], [], 0⟩) rfl rfl ⟨.refl _, .refl _, .refl _, trivial⟩ ⟨⟨_, rfl, .refl _⟩, trivial⟩)) (Le.mk (s' := ⟨84, [(0, q2aWW x1), (3, .own 5003), (4, .i (0 : Int))], [(5003, q2bWW_43 [])], [], 0⟩) rfl rfl ⟨.refl _, .refl _, .refl _, trivial⟩ ⟨⟨_, rfl, .refl _⟩, trivial⟩)) h ?_
  rintro ⟨k0, n2, l3⟩ h
  cases k0 with
  | zero => exact nomatch (show (none : Option (List Tq0)) = some r from h)
  | succ k0 =>
  obtain ⟨C0, hC0⟩ : ∃ C, C = f17_L0 x1 K1 k0 := ⟨_, rfl⟩
  replace h := (f17_L0.eq_2 ..).symm.trans h
  try rw [← hC0] at h
  refine AWp.seq ?_
  refine q2rq [] [] ⟨84, [(0, q2aWW x1), (3, .own 5003), (4, .i (n2 : Int)), (12, .bool (decide ((n2 : Int) < (lZ x1))))], (f17z1 l3), [], 0⟩ trivial ?_
  refine AWp.cond (b := (decide ((n2 : Int) < (lZ x1)))) (by kernel_rfl) (fun hc1 => ?_) (fun hc1 => ?_)
  ·
   replace h := ite_tb hc1 h
   refine AWp.skip ?_
   refine tN ?_
   obtain ⟨K2, hK2, h⟩ := jn_some h
   refine AWp.join (α := List (f17z7)) (fun (l9 : List (f17z7)) => ⟨84, (f17z4 x1 n2), [(5003, q2bWW_43 l9)], [], 0⟩) (fun x => K2 x = some r) ?_ ?_
   ·
    refine AWp.block ?_
    refine q2rq [] [] ⟨84, [(0, q2aWW x1), (3, .own 5003), (4, .i (n2 : Int)), (5, .bool true)], (f17z1 l3), [], 0⟩ trivial ?_
    obtain ⟨K3, hK3, h⟩ := jn_some h
    refine AWp.join (α := Bool) (fun (b8 : Bool) => ⟨84, [(0, q2aWW x1), (3, .own 5003), (4, .i (n2 : Int)), (5, .bool b8)], (f17z1 l3), [], 0⟩) (fun x => K3 x = some r) ?_ ?_
    ·
     refine q2rq [] [] ⟨84, [(0, q2aWW x1), (3, .own 5003), (4, .i (n2 : Int)), (5, .bool true), (6, .i (0 : Int))], (f17z1 l3), [], 0⟩ trivial ?_
     refine AWp.block ?_
     refine AWp.loopL (α := Nat × (Bool × Nat)) (fun x => match x with | (_, b4, n5) => ⟨84, [(0, q2aWW x1), (3, .own 5003), (4, .i (n2 : Int)), (5, .bool b4), (6, .i (n5 : Int))], (f17z1 l3), [], 0⟩) (fun x => f17_L1 x1 n2 K3 x.1 x.2 = some r) (fun x => x.1) (FUEL, true, 0) (Le.mk (s' := ⟨84, [(0, q2aWW x1), (3, .own 5003), (4, .i (n2 : Int)), (5, .bool true), (6, .i (0 : Int))], (f17z1 l3), [], 0⟩) rfl rfl ⟨.refl _, .refl _, .refl _, .refl _, .refl _, trivial⟩ ⟨⟨_, rfl, .refl _⟩, trivial⟩) h ?_
     rintro ⟨k1, b4, n5⟩ h
     cases k1 with
     | zero => exact nomatch (show (none : Option (List Tq0)) = some r from h)
     | succ k1 =>
     obtain ⟨C1, hC1⟩ : ∃ C, C = f17_L1 x1 n2 K3 k1 := ⟨_, rfl⟩
     replace h := (f17_L1.eq_2 ..).symm.trans h
     try rw [← hC1] at h
     refine AWp.seq ?_
     refine q2rq [] [] ⟨84, [(0, q2aWW x1), (3, .own 5003), (4, .i (n2 : Int)), (5, .bool b4), (6, .i (n5 : Int)), (18, .bool (decide ((n5 : Int) < (lZ x1))))], (f17z1 l3), [], 0⟩ trivial ?_
     refine AWp.cond (b := (decide ((n5 : Int) < (lZ x1)))) (by kernel_rfl) (fun hc2 => ?_) (fun hc2 => ?_)
     ·
      replace h := ite_tb hc2 h
      refine AWp.skip ?_
      refine tN ?_
      obtain ⟨K4, hK4, h⟩ := jn_some h
      refine AWp.join (α := Bool) (fun (b7 : Bool) => ⟨84, [(0, q2aWW x1), (3, .own 5003), (4, .i (n2 : Int)), (5, .bool b7), (6, .i (n5 : Int))], (f17z1 l3), [], 0⟩) (fun x => K4 x = some r) ?_ ?_
      ·
       refine AWp.block ?_
       refine AWp.seq ?_
       obtain ⟨r6, hr6, h⟩ := bind_ok h
       obtain ⟨ob0p, h⟩ := chk_some h
       have ob0 : 0 ≤ (n5 : Int) ∧ (n5 : Int) < (((x1).length : Nat) : Int) := ⟨by omega, ob0p⟩
       obtain ⟨ob1p, h⟩ := chk_some h
       have ob1 : 0 ≤ (n2 : Int) ∧ (n2 : Int) < (((x1).length : Nat) : Int) := ⟨by omega, ob1p⟩
       obtain ⟨ob2, h⟩ := chk_some h
       have ob3 := idA ((r6 == true) = true)
       have ob4 := idA ((r6 == true) = true)
       have ob5 := idA ((r6 == true) = true)
       obtain ⟨ob6, h⟩ := chk_some h
       have ob7 := idA ((r6 == true) = true)
       have ob8 := idA ((r6 == true) = true)
       have ob9 := idA ((r6 == true) = true)
       have ob10 := idA ((r6 == true) = true)
       have ob11 := idA ((r6 == true) = true)
       have ob12 := idA ((r6 == true) = true)
       have ob13 := idA (((r6 == true) && ((f17z2 x1 n5 n2) == false)) = true)
       have ob14 := idA (((r6 == true) && ((f17z2 x1 n5 n2) == false)) = true)
       obtain ⟨ob15, h⟩ := chk_some h
       have ob16 := idA ((r6 == true) = true)
       have ob17 := bqA r6 true
       refine q2rr [] [(8, ⟨[.agg [.b16 (x1.getD n5 q2dWW).1, .b16 (x1.getD n5 q2dWW).2], .agg [.b16 (f17z0 x1 n2).1, .b16 (f17z0 x1 n2).2]], [], [], [], .bool r6, [], [], []⟩)] ⟨84, [(0, q2aWW x1), (3, .own 5003), (4, .i (n2 : Int)), (5, .bool b4), (6, .i (n5 : Int)), (45, .bool (r6 && ((f17z2 x1 n5 n2) || (decide ((n5 : Int) < (n2 : Int))))))], (f17z1 l3), [], 0⟩ (ac6 ob0 ob1 (cpT (f36_ok _ _ _ _ _ hr6)) (And.intro ob2 (an2 ob3 ob4)) (an1 ob5) (And.intro ob6 (an2 ob7 ob8)) (an6 (an1 ob9) (an2 ob10 ob11) (an1 ob12) (an2 ob13 ob14) (And.intro ob15 (an1 ob16)) ob17)) ?_
       refine tN ?_
       refine AWp.cond (b := (r6 && ((f17z2 x1 n5 n2) || (decide ((n5 : Int) < (n2 : Int)))))) (by kernel_rfl) (fun hc3 => ?_) (fun hc3 => ?_)
       ·
        replace h := ite_tb hc3 h
        refine q2rr [] [] ⟨84, [(0, q2aWW x1), (3, .own 5003), (4, .i (n2 : Int)), (5, .bool false), (6, .i (n5 : Int))], (f17z1 l3), [], 0⟩ trivial ?_
        refine kN ?_
        exact jN (false) (Le.mk rfl rfl ⟨.refl _, .refl _, .refl _, .refl _, .refl _, trivial⟩ ⟨⟨_, rfl, .refl _⟩, trivial⟩) h
       ·
        replace h := ite_fb hc3 h
        refine AWp.skip ?_
        refine kN ?_
        exact jN (b4) (Le.mk rfl rfl ⟨.refl _, .refl _, .refl _, .refl _, .refl _, trivial⟩ ⟨⟨_, rfl, .refl _⟩, trivial⟩) h
      ·
       rintro b7 h
       replace h := (congrFun hK4 _).symm.trans h
       obtain ⟨ob18p, h⟩ := chk_some h
       have ob18 : -9223372036854775808 ≤ ((n5 : Int) + (1 : Int)) ∧ ((n5 : Int) + (1 : Int)) ≤ 9223372036854775807 := ⟨by omega, ob18p⟩
       refine q2rr [] [] ⟨84, [(0, q2aWW x1), (3, .own 5003), (4, .i (n2 : Int)), (5, .bool b7), (6, .i (((n5 + 1) : Nat) : Int))], (f17z1 l3), [], 0⟩ (an1 ob18) ?_
       rw [hC1] at h
       exact lN (_, b7, (n5 + 1)) (Le.mk rfl rfl ⟨.refl _, .refl _, .refl _, .refl _, .refl _, trivial⟩ ⟨⟨_, rfl, .refl _⟩, trivial⟩) h (Nat.lt_succ_self _)
     ·
      replace h := ite_fb hc2 h
      refine AWp.exit ?_
      refine tE ?_
      refine tE ?_
      refine kS ?_
      exact jN (b4) (Le.mk rfl rfl ⟨.refl _, .refl _, .refl _, .refl _, trivial⟩ ⟨⟨_, rfl, .refl _⟩, trivial⟩) h
    ·
     rintro b8 h
     replace h := (congrFun hK3 _).symm.trans h
     refine AWp.seq ?_
     refine q2rq [] [] ⟨84, [(0, q2aWW x1), (3, .own 5003), (4, .i (n2 : Int)), (47, .bool (!b8))], (f17z1 l3), [], 0⟩ trivial ?_
     refine AWp.cond (b := (!b8)) (by kernel_rfl) (fun hc4 => ?_) (fun hc4 => ?_)
     ·
      replace h := ite_tb hc4 h
      refine AWp.exit ?_
      refine tE ?_
      refine kS ?_
      exact jN (l3) (Le.mk rfl rfl ⟨.refl _, .refl _, .refl _, trivial⟩ ⟨⟨_, rfl, .refl _⟩, trivial⟩) h
     ·
      replace h := ite_fb hc4 h
      refine AWp.skip ?_
      refine tN ?_
      refine q2rq [] [] ⟨84, [(0, q2aWW x1), (3, .own 5003), (4, .i (n2 : Int)), (7, .i (0 : Int))], (f17z1 l3), [], 0⟩ trivial ?_
      obtain ⟨K5, hK5, h⟩ := jn_some h
      refine AWp.join (α := Nat × (List (f17z7))) (fun (x : Nat × (List (f17z7))) => match x with | (n13, l14) => ⟨84, [(0, q2aWW x1), (3, .own 5003), (4, .i (n2 : Int)), (7, .i (n13 : Int))], [(5003, q2bWW_43 l14)], [], 0⟩) (fun x => K5 x = some r) ?_ ?_
      ·
       refine AWp.block ?_
       refine AWp.loopL (α := Nat × (Nat × (List (f17z7)))) (fun x => match x with | (_, n10, l11) => ⟨84, [(0, q2aWW x1), (3, .own 5003), (4, .i (n2 : Int)), (7, .i (n10 : Int))], (f17z5 l11), [], 0⟩) (fun x => f17_L2 x1 n2 K5 x.1 x.2 = some r) (fun x => x.1) (FUEL, 0, l3) (Le.mk (s' := ⟨84, [(0, q2aWW x1), (3, .own 5003), (4, .i (n2 : Int)), (7, .i (0 : Int))], (f17z1 l3), [], 0⟩) rfl rfl ⟨.refl _, .refl _, .refl _, .refl _, trivial⟩ ⟨⟨_, rfl, .refl _⟩, trivial⟩) h ?_
       rintro ⟨k2, n10, l11⟩ h
       cases k2 with
       | zero => exact nomatch (show (none : Option (List Tq0)) = some r from h)
       | succ k2 =>
       obtain ⟨C2, hC2⟩ : ∃ C, C = f17_L2 x1 n2 K5 k2 := ⟨_, rfl⟩
       replace h := (f17_L2.eq_2 ..).symm.trans h
       try rw [← hC2] at h
       refine AWp.seq ?_
       refine AWp.seq ?_
       obtain ⟨r12, hr12, h⟩ := optc_some h
       obtain ⟨ob19, h⟩ := chk_some h
       have ob20 := idA (((decide ((n10 : Int) < (lZ l11))) == true) = true)
       have ob21 := idA (((decide ((n10 : Int) < (lZ l11))) == true) = true)
       obtain ⟨ob22, h⟩ := chk_some h
       have ob23 := idA (((decide ((n10 : Int) < (lZ l11))) == true) = true)
       obtain ⟨ob24, h⟩ := chk_some h
       have ob25 := idA (((decide ((n10 : Int) < (lZ l11))) == true) = true)
       have ob26 := idA (((decide ((n10 : Int) < (lZ l11))) == true) = true)
       have ob27 := idA (((decide ((n10 : Int) < (lZ l11))) == true) = true)
       have ob28 := idA (((decide ((n10 : Int) < (lZ l11))) == true) = true)
       have ob29 := idA (((decide ((n10 : Int) < (lZ l11))) == true) = true)
       have ob30 := idA (((decide ((n10 : Int) < (lZ l11))) == true) = true)
       have ob31 := bqA (decide ((n10 : Int) < (lZ l11))) true
       refine q2rr [] [(13, ⟨[.agg [.b16 (l11.getD n10 q2dWW).1, .b16 (l11.getD n10 q2dWW).2], .agg [.b16 (f17z0 x1 n2).1, .b16 (f17z0 x1 n2).2]], [], [], [], .i r12, [], [], []⟩)] ⟨84, [(0, q2aWW x1), (3, .own 5003), (4, .i (n2 : Int)), (7, .i (n10 : Int)), (63, .bool ((decide ((n10 : Int) < (lZ l11))) && (decide (r12 < (0 : Int)))))], (f17z5 l11), [], 0⟩ (ac6 (And.intro ob19 (an2 ob20 ob21)) (And.intro ob22 (an1 ob23)) (And.intro ob24 (an2 ob25 ob26)) (an1 ob27) (And.intro (cpC fun hc => (f37_ok _ _ _ _ _ (hr12 hc))) (an2 ob28 ob29)) (an1 ob30) (an1 ob31)) ?_
       refine tN ?_
       refine AWp.cond (b := ((decide ((n10 : Int) < (lZ l11))) && (decide (r12 < (0 : Int))))) (by kernel_rfl) (fun hc5 => ?_) (fun hc5 => ?_)
       ·
        replace h := ite_tb hc5 h
        refine AWp.skip ?_
        refine tN ?_
        refine AWp.block ?_
        obtain ⟨ob32p, h⟩ := chk_some h
        have ob32 : -9223372036854775808 ≤ ((n10 : Int) + (1 : Int)) ∧ ((n10 : Int) + (1 : Int)) ≤ 9223372036854775807 := ⟨by omega, ob32p⟩
        refine q2rr [] [] ⟨84, [(0, q2aWW x1), (3, .own 5003), (4, .i (n2 : Int)), (7, .i (((n10 + 1) : Nat) : Int))], (f17z5 l11), [], 0⟩ (an1 ob32) ?_
        refine kN ?_
        rw [hC2] at h
        exact lN (_, (n10 + 1), l11) (Le.mk rfl rfl ⟨.refl _, .refl _, .refl _, .refl _, trivial⟩ ⟨⟨_, rfl, .refl _⟩, trivial⟩) h (Nat.lt_succ_self _)
       ·
        replace h := ite_fb hc5 h
        refine AWp.exit ?_
        refine tE ?_
        refine tE ?_
        refine kS ?_
        exact jN (n10, l11) (Le.mk rfl rfl ⟨.refl _, .refl _, .refl _, .refl _, trivial⟩ ⟨⟨_, rfl, .refl _⟩, trivial⟩) h
      ·
       rintro ⟨n13, l14⟩ h
       replace h := (congrFun hK5 _).symm.trans h
       refine q2rq [] [] ⟨84, [(0, q2aWW x1), (3, .own 5003), (4, .i (n2 : Int)), (7, .i (n13 : Int)), (8, .nils)], [(5003, q2bWW_43 l14)], [], 0⟩ trivial ?_
       refine AWp.seq ?_
       refine AWp.le (Le.trans (Le.freeze 5003 rfl rfl) (Le.mk (s' := ⟨84, [(0, q2aWW x1), (3, q2aWW l14), (4, .i (n2 : Int)), (7, .i (n13 : Int)), (8, .nils)], [], [], 0⟩) rfl rfl ⟨.refl _, .refl _, .refl _, .refl _, .refl _, trivial⟩ trivial)) ?_
       obtain ⟨ob33p, h⟩ := chk_some h
       have ob33 : 0 ≤ (n13 : Int) ∧ (n13 : Int) ≤ (((l14).length : Nat) : Int) := ⟨by omega, ob33p⟩
       obtain ⟨ob34, h⟩ := chk_some h
       refine q2rr [] [] ⟨84, (f17z3 x1 l14 n2 n13), [(70, .rows 43 2 (0 + n13) (encF eWW q2dWW l14))], [], 0⟩ (an2 ob33 ob34) ?_
       refine tN ?_
       refine AWp.le (Le.mk (s' := ⟨84, (f17z3 x1 l14 n2 n13), [(70, q2bWW_43 (l14.take n13))], [], 0⟩) rfl rfl ⟨.refl _, .refl _, .refl _, .refl _, .refl _, trivial⟩ ⟨⟨_, rfl, (BLe.of (RL.app0 (RL.takeL (by first | omega | (simp only [List.length_append, List.length_cons, List.length_nil, List.length_take, List.length_drop] at *; omega) | (simp; done) | (simp_all; done) | (simp_all; omega) | rfl))))⟩, trivial⟩) ?_
       refine AWp.seq ?_
       obtain ⟨ob35p, h⟩ := chk_some h
       have ob35 : 0 ≤ (n2 : Int) ∧ (n2 : Int) < (((x1).length : Nat) : Int) := ⟨by omega, ob35p⟩
       obtain ⟨ob36, h⟩ := chk_some h
       refine q2rr [] [] ⟨84, (f17z3 x1 l14 n2 n13), [(70, .rows 43 2 (((l14.take n13)).length + 1) (appF ((l14.take n13)).length (encF eWW q2dWW (l14.take n13)) (lstF 2 [.b16 (f17z0 x1 n2).1, .b16 (f17z0 x1 n2).2])))], [], 0⟩ (an2 ob35 ob36) ?_
       refine tN ?_
       refine AWp.le (Le.mk (s' := ⟨84, (f17z3 x1 l14 n2 n13), [(70, q2bWW_43 ((l14.take n13) ++ [((f17z0 x1 n2).1, (f17z0 x1 n2).2)]))], [], 0⟩) rfl rfl ⟨.refl _, .refl _, .refl _, .refl _, .refl _, trivial⟩ ⟨⟨_, rfl, (BLe.of (RL.app (RL.self _) (RL.lst (enc := eWW) [((f17z0 x1 n2).1, (f17z0 x1 n2).2)] rfl rfl (fun _ => rfl))))⟩, trivial⟩) ?_
       obtain ⟨ob37p, h⟩ := chk_some h
       have ob37 : 0 ≤ (n13 : Int) ∧ (n13 : Int) ≤ (((l14).length : Nat) : Int) := ⟨by omega, ob37p⟩
       obtain ⟨ob38, h⟩ := chk_some h
       refine q2rr [] [] ⟨84, (f17z6 x1 n2), [(70, .rows 43 2 ((((l14.take n13) ++ [((f17z0 x1 n2).1, (f17z0 x1 n2).2)])).length + ((l14).length - n13)) (appF (((l14.take n13) ++ [((f17z0 x1 n2).1, (f17z0 x1 n2).2)])).length (encF eWW q2dWW ((l14.take n13) ++ [((f17z0 x1 n2).1, (f17z0 x1 n2).2)])) (fun i j => (encF eWW q2dWW l14) (i + n13) j)))], [], 0⟩ (an2 ob37 ob38) ?_
       refine kN ?_
       exact jN ((((l14.take n13) ++ [((f17z0 x1 n2).1, (f17z0 x1 n2).2)]) ++ (l14.drop n13))) (Le.trans (Le.mk (s' := ⟨84, (f17z6 x1 n2), [(70, q2bWW_43 (((l14.take n13) ++ [((f17z0 x1 n2).1, (f17z0 x1 n2).2)]) ++ (l14.drop n13)))], [], 0⟩) rfl rfl ⟨.refl _, .refl _, .refl _, trivial⟩ ⟨⟨_, rfl, (BLe.of (RL.app (RL.self _) RL.dropL))⟩, trivial⟩) (Le.trans (Le.trans (Le.ren (swapN 70 5003) (swapN_inv 70 5003) rfl) (Le.mk (s' := ⟨84, (f17z4 x1 n2), [(5003, q2bWW_43 (((l14.take n13) ++ [((f17z0 x1 n2).1, (f17z0 x1 n2).2)]) ++ (l14.drop n13)))], [], 0⟩) rfl rfl ⟨.refl _, .refl _, .refl _, trivial⟩ ⟨⟨_, rfl, .refl _⟩, trivial⟩)) (Le.mk rfl rfl ⟨.refl _, .refl _, .refl _, trivial⟩ ⟨⟨_, rfl, .refl _⟩, trivial⟩))) h
   ·
    rintro l9 h
    replace h := (congrFun hK2 _).symm.trans h
    obtain ⟨ob39p, h⟩ := chk_some h
    have ob39 : -9223372036854775808 ≤ ((n2 : Int) + (1 : Int)) ∧ ((n2 : Int) + (1 : Int)) ≤ 9223372036854775807 := ⟨by omega, ob39p⟩
    refine q2rr [] [] ⟨84, [(0, q2aWW x1), (3, .own 5003), (4, .i (((n2 + 1) : Nat) : Int))], [(5003, q2bWW_43 l9)], [], 0⟩ (an1 ob39) ?_
    rw [hC0] at h
    exact lN (_, (n2 + 1), l9) (Le.mk rfl rfl ⟨.refl _, .refl _, .refl _, trivial⟩ ⟨⟨_, rfl, .refl _⟩, trivial⟩) h (Nat.lt_succ_self _)
  ·
   replace h := ite_fb hc1 h
   refine AWp.exit ?_
   refine tE ?_
   refine tE ?_
   refine kS ?_
   exact jN (l3) (Le.mk rfl rfl ⟨.refl _, trivial⟩ ⟨⟨_, rfl, .refl _⟩, trivial⟩) h
 ·
  rintro l15 h
  replace h := (congrFun hK1 _).symm.trans h
  refine q2rq [] [] ⟨84, [(2, .own 5003)], [(5003, q2bWW_43 l15)], [], 0⟩ trivial ?_
  refine AWp.le (Le.trans (Le.ren (swapN 5003 3000) (swapN_inv 5003 3000) rfl) (Le.mk (s' := ⟨84, [(2, .own 3000)], [(3000, q2bWW_43 l15)], [], 0⟩) rfl rfl ⟨.refl _, trivial⟩ ⟨⟨_, rfl, .refl _⟩, trivial⟩)) ?_
  have hret := oJ h
  subst hret
  refine AWp.le (Le.mk (s' := ⟨84, [(2, .own 3000)], [(3000, q2bWW_43 l15)], [], 0⟩) rfl rfl ⟨.refl _, trivial⟩ ⟨⟨_, rfl, .refl _⟩, trivial⟩) ?_
  refine AWp.ret ?_
  exact bR _ rfl ⟨rfl, rfl⟩ rfl
def f6_L0 (x1 : Int) (x2 : List Tq0) (K1 : (List Tq0) → Option (List Tq0)) : Nat → (Nat × (List Tq0)) → Option (List Tq0)
 | 0, _ => none
 | k + 1, (n3, l4) =>
  if ((decide ((n3 : Int) < (((x2).length : Nat) : Int))) && (decide ((n3 : Int) < (6 : Int)))) then (
  chk ((n3 : Int) < (((x2).length : Nat) : Int)) <|
  chk ((n3 : Int) < (((x2).length : Nat) : Int)) <|
  chk ((n3 : Int) < (((x2).length : Nat) : Int)) <|
  chk (((l4).length + 1) * 4 ≤ 140737488355328) <|
  chk (((n3 : Int) + (1 : Int)) ≤ 9223372036854775807) <|
  (f6_L0 x1 x2 K1 k) ((n3 + 1), (l4 ++ [(((x2.getD n3 (default : Tq0)).1 &&& (((BitVec.ofInt 16 1) <<< ((x1).toNat)) - (BitVec.ofInt 16 1))), (((x2.getD n3 (default : Tq0)).2 &&& (((BitVec.ofInt 16 1) <<< ((x1).toNat)) - (BitVec.ofInt 16 1))) &&& ~~~(x2.getD n3 (default : Tq0)).1))]))
  ) else (
  K1 l4
  )
abbrev f6z0 (l4 : List Tq0) (x2 : List Tq0) (n3 : Nat) (x1 : Int) : Heap := [(12, bL 43 2 eWW (default : Tq0) (l4 ++ [(((x2.getD n3 (default : Tq0)).1 &&& (((BitVec.ofInt 16 1) <<< ((x1).toNat)) - (BitVec.ofInt 16 1))), (((x2.getD n3 (default : Tq0)).2 &&& (((BitVec.ofInt 16 1) <<< ((x1).toNat)) - (BitVec.ofInt 16 1))) &&& ~~~(x2.getD n3 (default : Tq0)).1))]))]
abbrev f6z1 (x2 : List Tq0) (x1 : Int) (n3 : Nat) : List (Nat × V) := [(1, vL 2 eWW (default : Tq0) x2), (5, .b16 (((BitVec.ofInt 16 1) <<< ((x1).toNat)) - (BitVec.ofInt 16 1))), (6, .own 12), (7, .int .i64 (n3 : Int))]
abbrev f6z2 (x2 : List Tq0) (n3 : Nat) := (x2.getD n3 (default : Tq0))
abbrev f6z3 : Heap := [(12, bL 43 2 eWW (default : Tq0) [((BitVec.ofInt 16 0), (BitVec.ofInt 16 0))])]
def f6 (x1 : Int) (x2 : List Tq0) : Option (List Tq0) :=
 chk (0 ≤ x1) <|
 jn (fun (l5 : List Tq0) =>
 (f17 l5).bind fun (r6 : List Tq0) =>
 some r6
 ) fun (K1 : (List Tq0) → Option (List Tq0)) =>
 f6_L0 x1 x2 K1 FUEL (0, [((BitVec.ofInt 16 0), (BitVec.ofInt 16 0))])
theorem f6_ok  (x1 : Int) (x2 : List Tq0) (r : List Tq0) (h : f6 x1 x2 = some r)  : Spec1 Tryz.prog 6 [] [] [] [.int .i64 x1, vL 2 eWW (default : Tq0) x2] (.own 3000) [(3000, bL 43 2 eWW (default : Tq0) r)] := by
 unfold f6 at h
 refine Spec1.body 0 _ _ Tryz.func6 rfl Tryz.ntmps6 rfl rfl ?_
 refine q2rq [] [] ⟨49, [(0, .i x1), (1, q2aWW x2)], [], [], 0⟩ trivial ?_
 refine AWp.seq ?_
 obtain ⟨ob0, h⟩ := chk_some h
 refine q2rr [] [] ⟨49, [(1, q2aWW x2), (5, .b16 (((q2w16 1) <<< ((x1).toNat)) - (q2w16 1)))], [], [], 0⟩ (an2 ob0 trivial) ?_
 refine tN ?_
 refine q2rq [] [] ⟨49, [(1, q2aWW x2), (5, .b16 (((q2w16 1) <<< ((x1).toNat)) - (q2w16 1))), (6, .own 12)], [(12, .rows 43 2 1 (lstF 2 [.b16 (q2w16 0), .b16 (q2w16 0)]))], [], 0⟩ trivial ?_
 refine AWp.le (Le.mk (s' := ⟨49, [(1, q2aWW x2), (5, .b16 (((q2w16 1) <<< ((x1).toNat)) - (q2w16 1))), (6, .own 12)], (f6z3), [], 0⟩) rfl rfl ⟨.refl _, .refl _, .refl _, trivial⟩ ⟨⟨_, rfl, (BLe.of (RL.lst (enc := eWW) [((q2w16 0), (q2w16 0))] rfl rfl (fun _ => rfl)))⟩, trivial⟩) ?_
 obtain ⟨K1, hK1, h⟩ := jn_some h
 refine AWp.join (α := List Tq0) (fun (l5 : List Tq0) => ⟨49, [(6, .own 12)], [(12, q2bWW_43 l5)], [], 0⟩) (fun x => K1 x = some r) ?_ ?_
 ·
  refine q2rq [] [] ⟨49, [(1, q2aWW x2), (5, .b16 (((q2w16 1) <<< ((x1).toNat)) - (q2w16 1))), (6, .own 12), (7, .i (0 : Int))], (f6z3), [], 0⟩ trivial ?_
  refine AWp.block ?_
  refine AWp.loopL (α := Nat × (Nat × (List Tq0))) (fun x => match x with | (_, n3, l4) => ⟨49, (f6z1 x2 x1 n3), [(12, q2bWW_43 l4)], [], 0⟩) (fun x => f6_L0 x1 x2 K1 x.1 x.2 = some r) (fun x => x.1) (FUEL, 0, [((q2w16 0), (q2w16 0))]) (Le.mk (s' := ⟨49, [(1, q2aWW x2), (5, .b16 (((q2w16 1) <<< ((x1).toNat)) - (q2w16 1))), (6, .own 12), (7, .i (0 : Int))], (f6z3), [], 0⟩) rfl rfl ⟨.refl _, .refl _, .refl _, .refl _, trivial⟩ ⟨⟨_, rfl, .refl _⟩, trivial⟩) h ?_
  rintro ⟨k0, n3, l4⟩ h
  cases k0 with
  | zero => exact nomatch (show (none : Option (List Tq0)) = some r from h)
  | succ k0 =>
  obtain ⟨C0, hC0⟩ : ∃ C, C = f6_L0 x1 x2 K1 k0 := ⟨_, rfl⟩
  replace h := (f6_L0.eq_2 ..).symm.trans h
  try rw [← hC0] at h
  refine AWp.seq ?_
  refine AWp.seq ?_
  have ob1 := idA (((decide ((n3 : Int) < (lZ x2))) == true) = true)
  have ob2 := bqA (decide ((n3 : Int) < (lZ x2))) true
  refine q2rr [] [] ⟨49, [(1, q2aWW x2), (5, .b16 (((q2w16 1) <<< ((x1).toNat)) - (q2w16 1))), (6, .own 12), (7, .i (n3 : Int)), (20, .bool ((decide ((n3 : Int) < (lZ x2))) && (decide ((n3 : Int) < (6 : Int)))))], [(12, q2bWW_43 l4)], [], 0⟩ (an2 (an1 ob1) ob2) ?_
  refine tN ?_
  refine AWp.cond (b := ((decide ((n3 : Int) < (lZ x2))) && (decide ((n3 : Int) < (6 : Int))))) (by kernel_rfl) (fun hc1 => ?_) (fun hc1 => ?_)
  ·
   replace h := ite_tb hc1 h
   refine AWp.skip ?_
   refine tN ?_
   refine AWp.seq ?_
   refine AWp.block ?_
   obtain ⟨ob3p, h⟩ := chk_some h
   have ob3 : 0 ≤ (n3 : Int) ∧ (n3 : Int) < (((x2).length : Nat) : Int) := ⟨by omega, ob3p⟩
   obtain ⟨ob4p, h⟩ := chk_some h
   have ob4 : 0 ≤ (n3 : Int) ∧ (n3 : Int) < (((x2).length : Nat) : Int) := ⟨by omega, ob4p⟩
   obtain ⟨ob5p, h⟩ := chk_some h
   have ob5 : 0 ≤ (n3 : Int) ∧ (n3 : Int) < (((x2).length : Nat) : Int) := ⟨by omega, ob5p⟩
   obtain ⟨ob6, h⟩ := chk_some h
   refine q2rr [] [] ⟨49, (f6z1 x2 x1 n3), [(12, .rows 43 2 ((l4).length + 1) (appF (l4).length (encF eWW q2dWW l4) (lstF 2 [.b16 ((f6z2 x2 n3).1 &&& (((q2w16 1) <<< ((x1).toNat)) - (q2w16 1))), .b16 (((f6z2 x2 n3).2 &&& (((q2w16 1) <<< ((x1).toNat)) - (q2w16 1))) &&& ~~~(f6z2 x2 n3).1)])))], [], 0⟩ (an4 ob3 ob4 ob5 ob6) ?_
   refine kN ?_
   refine tN ?_
   refine AWp.le (Le.mk (s' := ⟨49, (f6z1 x2 x1 n3), (f6z0 l4 x2 n3 x1), [], 0⟩) rfl rfl ⟨.refl _, .refl _, .refl _, .refl _, trivial⟩ ⟨⟨_, rfl, (BLe.of (RL.app (RL.self _) (RL.lst (enc := eWW) [(((f6z2 x2 n3).1 &&& (((q2w16 1) <<< ((x1).toNat)) - (q2w16 1))), (((f6z2 x2 n3).2 &&& (((q2w16 1) <<< ((x1).toNat)) - (q2w16 1))) &&& ~~~(f6z2 x2 n3).1))] rfl rfl (fun _ => rfl))))⟩, trivial⟩) ?_
   obtain ⟨ob7p, h⟩ := chk_some h
   have ob7 : -9223372036854775808 ≤ ((n3 : Int) + (1 : Int)) ∧ ((n3 : Int) + (1 : Int)) ≤ 9223372036854775807 := ⟨by omega, ob7p⟩
   refine q2rr [] [] ⟨49, [(1, q2aWW x2), (5, .b16 (((q2w16 1) <<< ((x1).toNat)) - (q2w16 1))), (6, .own 12), (7, .i (((n3 + 1) : Nat) : Int))], (f6z0 l4 x2 n3 x1), [], 0⟩ (an1 ob7) ?_
   rw [hC0] at h
   exact lN (_, (n3 + 1), (l4 ++ [(((f6z2 x2 n3).1 &&& (((q2w16 1) <<< ((x1).toNat)) - (q2w16 1))), (((f6z2 x2 n3).2 &&& (((q2w16 1) <<< ((x1).toNat)) - (q2w16 1))) &&& ~~~(f6z2 x2 n3).1))])) (Le.mk rfl rfl ⟨.refl _, .refl _, .refl _, .refl _, trivial⟩ ⟨⟨_, rfl, .refl _⟩, trivial⟩) h (Nat.lt_succ_self _)
  ·
   replace h := ite_fb hc1 h
   refine AWp.exit ?_
   refine tE ?_
   refine tE ?_
   refine kS ?_
   exact jN (l4) (Le.mk rfl rfl ⟨.refl _, trivial⟩ ⟨⟨_, rfl, .refl _⟩, trivial⟩) h
 ·
  rintro l5 h
  replace h := (congrFun hK1 _).symm.trans h
  refine AWp.seq ?_
  obtain ⟨r6, hr6, h⟩ := bind_ok h
  refine q2rr [] [(1, ⟨[q2aWW l5], [], [], [(6001, q2bWW_43 r6)], .own 6001, [6001], [12], []⟩)] ⟨49, [(4, .own 6001)], [(6001, q2bWW_43 r6)], [], 0⟩ (an1 (cpL (c := true) [(12, q2bWW_43 l5)] [12] [.own 12] (fun _ => (Spec1.ren (swapN 3000 6001) (swapN_inv 3000 6001) rfl (f17_ok _ _ hr6))) (fun _ => ⟨.refl _, trivial⟩) (.inr ⟨rfl, ⟨(fun _ _ _ _ => eWW_flat _ _), trivial⟩⟩))) ?_
  refine tN ?_
  refine AWp.le (Le.trans (Le.ren (swapN 6001 3000) (swapN_inv 6001 3000) rfl) (Le.mk (s' := ⟨49, [(4, .own 3000)], [(3000, q2bWW_43 r6)], [], 0⟩) rfl rfl ⟨.refl _, trivial⟩ ⟨⟨_, rfl, .refl _⟩, trivial⟩)) ?_
  have hret := oJ h
  subst hret
  refine AWp.le (Le.mk (s' := ⟨49, [(4, .own 3000)], [(3000, q2bWW_43 r6)], [], 0⟩) rfl rfl ⟨.refl _, trivial⟩ ⟨⟨_, rfl, .refl _⟩, trivial⟩) ?_
  refine AWp.ret ?_
  exact bR _ rfl ⟨rfl, rfl⟩ rfl
abbrev f5z0 (x7 : List UInt8) (x1 : Int) (x2 : Int) : List V := [.str x7, .int .i64 ((1 : Int) + (x1 % (2 : Int))), .b16 (((BitVec.ofInt 16 1) <<< ((((1 : Int) + (x2 % (5 : Int)))).toNat)) - (BitVec.ofInt 16 1)), .own 6001, .own 6002, .own 6003]
abbrev f5z1 (x1 : Int) (x2 : Int) (x3 : Int) (x4 : List (TB)) (x5 : List (TB)) (x6 : List Tq0) : List V := [.int .u8 x1, .int .u8 x2, .int .u8 x3, vL 1 eW 0#16 x4, vL 1 eW 0#16 x5, vL 2 eWW (default : Tq0) x6]
abbrev f5z2 : List V := [.str [], .int .i64 (0 : Int), .b16 (BitVec.ofInt 16 0), .nils, .nils, .nils]
def f5 (x1 : Int) (x2 : Int) (x3 : Int) (x4 : List (BitVec 16)) (x5 : List (BitVec 16)) (x6 : List Tq0) (x7 : List UInt8) : Option (List UInt8 × Int × BitVec 16 × List (BitVec 16) × List (BitVec 16) × (List Tq0)) :=
 chk (0 ≤ x2 ∧ 1 ≤ (5 : Int)) <|
 chk (-9223372036854775808 ≤ (x2 % (5 : Int)) ∧ (x2 % (5 : Int)) ≤ 9223372036854775807) <|
 chk (-9223372036854775808 ≤ ((1 : Int) + (x2 % (5 : Int))) ∧ ((1 : Int) + (x2 % (5 : Int))) ≤ 9223372036854775807) <|
 (f16 x1 x2 x3 x4 x5 x6 x4 ((1 : Int) + (x2 % (5 : Int)))).bind fun (r8 : List (TB)) =>
 (f16 x1 x2 x3 x4 x5 x6 x5 ((1 : Int) + (x2 % (5 : Int)))).bind fun (r9 : List (TB)) =>
 chk (0 ≤ x1 ∧ 1 ≤ (2 : Int)) <|
 chk (-9223372036854775808 ≤ (x1 % (2 : Int)) ∧ (x1 % (2 : Int)) ≤ 9223372036854775807) <|
 chk (-9223372036854775808 ≤ ((1 : Int) + (x1 % (2 : Int))) ∧ ((1 : Int) + (x1 % (2 : Int))) ≤ 9223372036854775807) <|
 chk (0 ≤ ((1 : Int) + (x2 % (5 : Int)))) <|
 (f6 ((1 : Int) + (x2 % (5 : Int))) x6).bind fun (r10 : List Tq0) =>
 some (x7, ((1 : Int) + (x1 % (2 : Int))), (((BitVec.ofInt 16 1) <<< ((((1 : Int) + (x2 % (5 : Int)))).toNat)) - (BitVec.ofInt 16 1)), r8, r9, r10)
theorem f5_ok  (x1 : Int) (x2 : Int) (x3 : Int) (x4 : List (TB)) (x5 : List (TB)) (x6 : List Tq0) (x7 : List UInt8) (r : List UInt8 × Int × TB × List (TB) × List (TB) × (List Tq0)) (h : f5 x1 x2 x3 x4 x5 x6 x7 = some r)  : Spec1 Tryz.prog 5 [] [] [] [.agg [.int .u8 x1, .int .u8 x2, .int .u8 x3, vL 1 eW 0#16 x4, vL 1 eW 0#16 x5, vL 2 eWW (default : Tq0) x6], .str x7] (.agg [.str r.1, .int .i64 r.2.1, .b16 r.2.2.1, .own 3000, .own 3001, .own 3002]) [(3000, bL 27 1 eW 0#16 r.2.2.2.1), (3001, bL 27 1 eW 0#16 r.2.2.2.2.1), (3002, bL 43 2 eWW (default : Tq0) r.2.2.2.2.2)] := by
 unfold f5 at h
 refine Spec1.bodyD [4] 0 _ _ Tryz.func5 rfl Tryz.ntmps5 rfl rfl ?_
 refine q2rq [] [] ⟨38, [(1, .str x7), (2, .ptr 2 0), (4, .ptr 4 0)], [(2, .cells 25 (f5z1 x1 x2 x3 x4 x5 x6)), (4, .cells 33 (f5z2))], [], 0⟩ trivial ?_
 refine AWp.seq ?_
 obtain ⟨ob0, ob1, ob2, h⟩ := ck3 h
 refine q2rr [] [] ⟨38, [(1, .str x7), (2, .ptr 2 0), (4, .ptr 4 0), (5, .i ((1 : Int) + (x2 % (5 : Int))))], [(2, .cells 25 (f5z1 x1 x2 x3 x4 x5 x6)), (4, .cells 33 (f5z2))], [], 0⟩ (an3 ob0 ob1 ob2) ?_
 refine tN ?_
 refine AWp.seq ?_
 obtain ⟨r8, hr8, h⟩ := bind_ok h
 obtain ⟨r9, hr9, h⟩ := bind_ok h
 obtain ⟨ob3, ob4, ob5, ob6, h⟩ := ck4 h
 refine q2rr [] [(13, ⟨[.agg (f5z1 x1 x2 x3 x4 x5 x6), q2aW x4, .i ((1 : Int) + (x2 % (5 : Int)))], [], [], [(6001, q2bW_27 r8)], .own 6001, [6001], [], []⟩), (18, ⟨[.agg (f5z1 x1 x2 x3 x4 x5 x6), q2aW x5, .i ((1 : Int) + (x2 % (5 : Int)))], [], [], [(6002, q2bW_27 r9)], .own 6002, [6002], [], []⟩)] ⟨38, [(2, .ptr 2 0), (4, .ptr 4 0), (5, .i ((1 : Int) + (x2 % (5 : Int)))), (6, .ptr 6 0)], [(2, .cells 25 (f5z1 x1 x2 x3 x4 x5 x6)), (4, .cells 33 (f5z2)), (6, .cells 33 [.str x7, .i ((1 : Int) + (x1 % (2 : Int))), .b16 (((q2w16 1) <<< ((((1 : Int) + (x2 % (5 : Int)))).toNat)) - (q2w16 1)), .own 6001, .own 6002, .nils]), (6001, q2bW_27 r8), (6002, q2bW_27 r9)], [], 0⟩ (ac6 ob3 ob4 ob5 ob6 trivial (cpT (Spec1.ren (swapN 3000 6001) (swapN_inv 3000 6001) rfl (f16_ok _ _ _ _ _ _ _ _ _ hr8))) (an2 (cpT (Spec1.ren (swapN 3000 6002) (swapN_inv 3000 6002) rfl (f16_ok _ _ _ _ _ _ _ _ _ hr9))) trivial)) ?_
 refine tN ?_
 refine AWp.seq ?_
 obtain ⟨r10, hr10, h⟩ := bind_ok h
 refine q2rr [] [(3, ⟨[.i ((1 : Int) + (x2 % (5 : Int))), q2aWW x6], [], [], [(6003, q2bWW_43 r10)], .own 6003, [6003], [], []⟩)] ⟨38, [(4, .ptr 4 0), (6, .ptr 6 0)], [(4, .cells 33 (f5z2)), (6, .cells 33 (f5z0 x7 x1 x2)), (6001, q2bW_27 r8), (6002, q2bW_27 r9), (6003, q2bWW_43 r10)], [], 0⟩ (an2 (cpT (Spec1.ren (swapN 3000 6003) (swapN_inv 3000 6003) rfl (f6_ok _ _ _ hr10))) trivial) ?_
 refine tN ?_
 refine q2rq [] [] ⟨38, [(4, .ptr 4 0)], [(4, .cells 33 (f5z0 x7 x1 x2)), (6001, q2bW_27 r8), (6002, q2bW_27 r9), (6003, q2bWW_43 r10)], [], 0⟩ (an1 trivial) ?_
 refine AWp.le (Le.trans (Le.ren (swapN 6001 3000) (swapN_inv 6001 3000) rfl) (Le.mk (s' := ⟨38, [(4, .ptr 4 0)], [(4, .cells 33 [.str x7, .i ((1 : Int) + (x1 % (2 : Int))), .b16 (((q2w16 1) <<< ((((1 : Int) + (x2 % (5 : Int)))).toNat)) - (q2w16 1)), .own 3000, .own 6002, .own 6003]), (3000, q2bW_27 r8), (6002, q2bW_27 r9), (6003, q2bWW_43 r10)], [], 0⟩) rfl rfl ⟨.refl _, trivial⟩ ⟨⟨_, rfl, .refl _⟩, ⟨_, rfl, .refl _⟩, ⟨_, rfl, .refl _⟩, ⟨_, rfl, .refl _⟩, trivial⟩)) ?_
 refine AWp.le (Le.trans (Le.ren (swapN 6002 3001) (swapN_inv 6002 3001) rfl) (Le.mk (s' := ⟨38, [(4, .ptr 4 0)], [(4, .cells 33 [.str x7, .i ((1 : Int) + (x1 % (2 : Int))), .b16 (((q2w16 1) <<< ((((1 : Int) + (x2 % (5 : Int)))).toNat)) - (q2w16 1)), .own 3000, .own 3001, .own 6003]), (3000, q2bW_27 r8), (3001, q2bW_27 r9), (6003, q2bWW_43 r10)], [], 0⟩) rfl rfl ⟨.refl _, trivial⟩ ⟨⟨_, rfl, .refl _⟩, ⟨_, rfl, .refl _⟩, ⟨_, rfl, .refl _⟩, ⟨_, rfl, .refl _⟩, trivial⟩)) ?_
 refine AWp.le (Le.trans (Le.ren (swapN 6003 3002) (swapN_inv 6003 3002) rfl) (Le.mk (s' := ⟨38, [(4, .ptr 4 0)], [(4, .cells 33 [.str x7, .i ((1 : Int) + (x1 % (2 : Int))), .b16 (((q2w16 1) <<< ((((1 : Int) + (x2 % (5 : Int)))).toNat)) - (q2w16 1)), .own 3000, .own 3001, .own 3002]), (3000, q2bW_27 r8), (3001, q2bW_27 r9), (3002, q2bWW_43 r10)], [], 0⟩) rfl rfl ⟨.refl _, trivial⟩ ⟨⟨_, rfl, .refl _⟩, ⟨_, rfl, .refl _⟩, ⟨_, rfl, .refl _⟩, ⟨_, rfl, .refl _⟩, trivial⟩)) ?_
 have hret := oJ h
 subst hret
 refine AWp.le (Le.mk (s' := ⟨38, [(4, .ptr 4 0)], [(3000, q2bW_27 r8), (3001, q2bW_27 r9), (3002, q2bWW_43 r10), (4, .cells 33 [.str x7, .i ((1 : Int) + (x1 % (2 : Int))), .b16 (((q2w16 1) <<< ((((1 : Int) + (x2 % (5 : Int)))).toNat)) - (q2w16 1)), .own 3000, .own 3001, .own 3002])], [], 0⟩) rfl rfl ⟨.refl _, trivial⟩ ⟨⟨_, rfl, .refl _⟩, ⟨_, rfl, .refl _⟩, ⟨_, rfl, .refl _⟩, ⟨_, rfl, .refl _⟩, trivial⟩) ?_
 refine AWp.ret ?_
 exact bR _ rfl ⟨rfl, rfl⟩ rfl
def f18_L1 (r2 : List (BitVec 16)) (n3 : Nat) (K3 : Bool → Option (List (BitVec 16))) : Nat → (Bool × Nat) → Option (List (BitVec 16))
 | 0, _ => none
 | k + 1, (b5, n6) =>
  if (decide ((n6 : Int) < (((r2).length : Nat) : Int))) then (
  jn (fun (b8 : Bool) =>
  chk (((n6 : Int) + (1 : Int)) ≤ 9223372036854775807) <|
  (f18_L1 r2 n3 K3 k) (b8, (n6 + 1))
  ) fun (K4 : Bool → Option (List (TB))) =>
  optc (((n3 : Int) != (n6 : Int)) == true) (f39 (r2.getD n6 0#16) (r2.getD n3 0#16)) fun (r7 : Bool) =>
  chk ((((n3 : Int) != (n6 : Int)) == true) = true → 0 ≤ (n6 : Int) ∧ (n6 : Int) < (((r2).length : Nat) : Int)) <|
  chk ((((n3 : Int) != (n6 : Int)) == true) = true → n6 < (r2).length) <|
  chk ((((n3 : Int) != (n6 : Int)) == true) = true → 0 ≤ (n3 : Int) ∧ (n3 : Int) < (((r2).length : Nat) : Int)) <|
  chk ((((n3 : Int) != (n6 : Int)) == true) = true → n3 < (r2).length) <|
  if (((n3 : Int) != (n6 : Int)) && r7) then (
  K4 false
  ) else (
  K4 b5
  )
  ) else (
  K3 b5
  )
def f18_L0 (r2 : List (BitVec 16)) (K1 : (List (BitVec 16)) → Option (List (BitVec 16))) : Nat → Tq1 → Option (List (BitVec 16))
 | 0, _ => none
 | k + 1, (n3, l4) =>
  if (decide ((n3 : Int) < (((r2).length : Nat) : Int))) then (
  jn (fun (l10 : List (BitVec 16)) =>
  chk (((n3 : Int) + (1 : Int)) ≤ 9223372036854775807) <|
  (f18_L0 r2 K1 k) ((n3 + 1), l10)
  ) fun (K2 : (List (TB)) → Option (List (TB))) =>
  jn (fun (b9 : Bool) =>
  if b9 then (
  chk ((n3 : Int) < (((r2).length : Nat) : Int)) <|
  chk (n3 < (r2).length) <|
  chk (((l4).length + 1) * 2 ≤ 140737488355328) <|
  K2 (l4 ++ [(r2.getD n3 0#16)])
  ) else (
  K2 l4
  )
  ) fun (K3 : Bool → Option (List (TB))) =>
  f18_L1 r2 n3 K3 FUEL (true, 0)
  ) else (
  K1 l4
  )
abbrev f18z0 (l4 : List (TB)) (r2 : List (TB)) : Heap := [(5003, bL 27 1 eW 0#16 l4), (6001, bL 27 1 eW 0#16 r2)]
abbrev f18z1 (n3 : Nat) (n6 : Nat) := (((n3 : Int) != (n6 : Int)) == true)
abbrev f18z2 (n3 : Nat) : List (Nat × V) := [(3, .own 5003), (4, .own 6001), (5, .int .i64 (n3 : Int))]
abbrev f18z3 (n3 : Nat) : List (Nat × V) := [(3, .own 43), (4, .own 6001), (5, .int .i64 (n3 : Int))]
def f18 (x1 : List (BitVec 16)) : Option (List (BitVec 16)) :=
 (f38 x1).bind fun (r2 : List (TB)) =>
 jn (fun (l11 : List (BitVec 16)) =>
 some l11
 ) fun (K1 : (List (TB)) → Option (List (TB))) =>
 f18_L0 r2 K1 FUEL (0, [])
end Go.Abs
