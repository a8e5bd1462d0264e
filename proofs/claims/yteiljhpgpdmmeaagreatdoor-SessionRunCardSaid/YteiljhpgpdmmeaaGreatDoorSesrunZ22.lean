/- Part 22 of the proof: X49z, Pl. -/
import Derived.Test.YteiljhpgpdmmeaaGreatDoorSesrunZ21
namespace Go.Abs
open Go Go.Proofs
set_option maxRecDepth 100000
set_option maxHeartbeats 4000000
theorem f126_ok  (x1 : List UInt8) (x2 : Int) (r : Bool) (h : f126 x1 x2 = some r)  : Spec1 Tryz.prog 126 [] [] [] [.str x1, .int .i64 x2] (.bool r) [] := by
 unfold f126 at h
 refine Spec1.body 0 _ _ Tryz.func126 rfl Tryz.ntmps126 rfl rfl ?_
 refine q1rq [] [] [0, 1] [] ⟨31, [(0, .str x1), (1, .int .i64 x2)], [], [], 0⟩ trivial ?_
 obtain ⟨K1, hK1, h⟩ := jn_some h
 refine AWp.join (α := Unit) (fun (x : Unit) => match x with | () => ⟨31, [(0, .str x1), (1, .int .i64 x2)], [], [], 0⟩) (fun x => K1 x = some r) ?_ ?_
 ·
  refine q1rq [] [] [0, 1, 5] [] ⟨31, [(0, .str x1), (1, .int .i64 x2), (5, .int .i64 (0 : Int))], [], [], 0⟩ trivial ?_
  refine AWp.block ?_
  refine AWp.loopL (α := Nat × Nat) (fun x => match x with | (_, n3) => ⟨31, [(0, .str x1), (1, .int .i64 x2), (5, .int .i64 (n3 : Int))], [], [], 0⟩) (fun x => f126_L0 x1 K1 x.1 x.2 = some r) (fun x => x.1) (FUEL, 0) (Le.mk (s' := ⟨31, [(0, .str x1), (1, .int .i64 x2), (5, .int .i64 (0 : Int))], [], [], 0⟩) rfl rfl ⟨.refl _, .refl _, .refl _, trivial⟩ trivial) h ?_
  rintro ⟨k0, n3⟩ h
  cases k0 with
  | zero => exact nomatch (show (none : Option Bool) = some r from h)
  | succ k0 =>
  obtain ⟨C0, hC0⟩ : ∃ C, C = f126_L0 x1 K1 k0 := ⟨_, rfl⟩
  replace h := (f126_L0_e2 ..).symm.trans h
  try rw [← hC0] at h
  refine AWp.seq ?_
  refine q1rq [] [] [0, 1, 5, 9] [] ⟨31, [(0, .str x1), (1, .int .i64 x2), (5, .int .i64 (n3 : Int)), (9, .bool (decide ((n3 : Int) < ((x1.length : Nat) : Int))))], [], [], 0⟩ trivial ?_
  refine AWp.cond (b := (decide ((n3 : Int) < ((x1.length : Nat) : Int)))) (by kernel_rfl) (fun hc1 => ?_) (fun hc1 => ?_)
  ·
   replace h := ite_tb hc1 h
   refine AWp.skip ?_
   refine tN ?_
   refine AWp.seq ?_
   refine AWp.block ?_
   refine AWp.seq ?_
   obtain ⟨ob0p, h⟩ := chk_some h
   have ob0 : 0 ≤ (n3 : Int) ∧ (n3 : Int) < ((x1.length : Nat) : Int) := ⟨by omega, ob0p⟩
   obtain ⟨ob1, h⟩ := chk_some h
   have ob2 := idA (((decide ((((x1.getD n3 0).toNat : Nat) : Int) < (33 : Int))) == false) = true)
   have ob3 := ob2
   have ob4 := ob2
   have ob5 := bqA (decide ((((x1.getD n3 0).toNat : Nat) : Int) < (33 : Int))) false
   refine q1rr [] [] [0, 1, 5, 21] [] ⟨31, [(0, .str x1), (1, .int .i64 x2), (5, .int .i64 (n3 : Int)), (21, .bool ((decide ((((x1.getD n3 0).toNat : Nat) : Int) < (33 : Int))) || (decide ((((x1.getD n3 0).toNat : Nat) : Int) > (126 : Int)))))], [], [], 0⟩ (an4 ob0 (And.intro ob1 (an2 ob2 ob3)) (an1 ob4) ob5) ?_
   refine tN ?_
   refine AWp.cond (b := ((decide ((((x1.getD n3 0).toNat : Nat) : Int) < (33 : Int))) || (decide ((((x1.getD n3 0).toNat : Nat) : Int) > (126 : Int))))) (by kernel_rfl) (fun hc2 => ?_) (fun hc2 => ?_)
   ·
    replace h := ite_tb hc2 h
    refine q1rq [] [] [4] [] ⟨31, [(4, .bool false)], [], [], 0⟩ trivial ?_
    have hret := Option.some.inj h
    subst hret
    refine AWp.le (Le.mk (s' := ⟨31, [(4, .bool false)], [], [], 0⟩) rfl rfl ⟨.refl _, trivial⟩ trivial) ?_
    refine AWp.ret ?_
    refine kR ?_
    refine tR ?_
    refine tR ?_
    refine kR ?_
    refine joinQ_ret ?_
    exact bR _ rfl ⟨rfl, rfl⟩ rfl
   ·
    replace h := ite_fb hc2 h
    refine AWp.skip ?_
    refine kN ?_
    refine tN ?_
    obtain ⟨ob6p, h⟩ := chk_some h
    have ob6 : -9223372036854775808 ≤ ((n3 : Int) + (1 : Int)) ∧ ((n3 : Int) + (1 : Int)) ≤ 9223372036854775807 := ⟨by omega, ob6p⟩
    refine q1rr [] [] [0, 1, 5] [] ⟨31, [(0, .str x1), (1, .int .i64 x2), (5, .int .i64 (((n3 + 1) : Nat) : Int))], [], [], 0⟩ (an1 ob6) ?_
    rw [hC0] at h
    exact lN (_, (n3 + 1)) (Le.mk rfl rfl ⟨.refl _, .refl _, .refl _, trivial⟩ trivial) h (Nat.lt_succ_self _)
  ·
   replace h := ite_fb hc1 h
   refine AWp.exit ?_
   refine tE ?_
   refine tE ?_
   refine kS ?_
   exact jN () (Le.mk rfl rfl ⟨.refl _, .refl _, trivial⟩ trivial) h
 ·
  rintro ⟨⟩ h
  replace h := (congrFun hK1 _).symm.trans h
  refine AWp.seq ?_
  have ob7 := idA (((decide (((x1.length : Nat) : Int) ≥ (1 : Int))) == true) = true)
  have ob8 := ob7
  have ob9 := ob7
  have ob10 := bqA (decide (((x1.length : Nat) : Int) ≥ (1 : Int))) true
  refine q1rr [] [] [4] [] ⟨31, [(4, .bool ((decide (((x1.length : Nat) : Int) ≥ (1 : Int))) && (decide (((x1.length : Nat) : Int) ≤ x2))))], [], [], 0⟩ (an3 (an1 ob7) (an2 ob8 ob9) ob10) ?_
  refine tN ?_
  have hret := Option.some.inj h
  subst hret
  refine AWp.le (Le.mk (s' := ⟨31, [(4, .bool ((decide (((x1.length : Nat) : Int) ≥ (1 : Int))) && (decide (((x1.length : Nat) : Int) ≤ x2))))], [], [], 0⟩) rfl rfl ⟨.refl _, trivial⟩ trivial) ?_
  refine AWp.ret ?_
  exact bR _ rfl ⟨rfl, rfl⟩ rfl
def f117 (x1 : List UInt8) : Option Bool :=
 (f126 x1 (64 : Int)).bind fun (r2 : Bool) =>
 some r2
theorem f117_ok  (x1 : List UInt8) (r : Bool) (h : f117 x1 = some r)  : Spec1 Tryz.prog 117 [] [] [] [.str x1] (.bool r) [] := by
 unfold f117 at h
 refine Spec1.body 0 _ _ Tryz.func117 rfl Tryz.ntmps117 rfl rfl ?_
 refine q1rq [] [] [0] [] ⟨5, [(0, .str x1)], [], [], 0⟩ trivial ?_
 refine AWp.seq ?_
 obtain ⟨r2, hr2, h⟩ := bind_ok h
 refine q1rr [] [(1, ⟨[.str x1, .int .i64 (64 : Int)], [], [], [], .bool r2, [], [], []⟩)] [2] [] ⟨5, [(2, .bool r2)], [], [], 0⟩ (an1 (cpT (f126_ok _ _ _ hr2))) ?_
 refine tN ?_
 have hret := Option.some.inj h
 subst hret
 refine AWp.le (Le.mk (s' := ⟨5, [(2, .bool r2)], [], [], 0⟩) rfl rfl ⟨.refl _, trivial⟩ trivial) ?_
 refine AWp.ret ?_
 exact bR _ rfl ⟨rfl, rfl⟩ rfl
def f77 (x1 : Int) (x2 : List UInt8) (x3 : List UInt8) (x4 : List UInt8) : Option (List UInt8 × Int) :=
 (f76 x1).bind fun (r5 : List UInt8) =>
 optc ((r5 == []) == false) (f117 x2) fun (r6 : Bool) =>
 optc ((((r5 == []) || (!((x1 != (6 : Int)) == r6))) || ((!(x1 != (6 : Int))) && (!(x2 == [])))) == false) (f117 x3) fun (r7 : Bool) =>
 optc ((((((r5 == []) || (!((x1 != (6 : Int)) == r6))) || ((!(x1 != (6 : Int))) && (!(x2 == [])))) || (!((x1 == (5 : Int)) == r7))) || ((!(x1 == (5 : Int))) && (!(x3 == [])))) == false) (f117 x4) fun (r8 : Bool) =>
 chk ((((r5 == []) || (!((x1 != (6 : Int)) == r6))) == false) = true → (((r5 == []) || (!((x1 != (6 : Int)) == r6))) == false) = true → (!(x1 != (6 : Int))) = true → ((((r5 == []) || (!((x1 != (6 : Int)) == r6))) == false) && ((!(x1 != (6 : Int))) == true)) = true) <|
 chk ((((((r5 == []) || (!((x1 != (6 : Int)) == r6))) || ((!(x1 != (6 : Int))) && (!(x2 == [])))) || (!((x1 == (5 : Int)) == r7))) == false) = true → (((((r5 == []) || (!((x1 != (6 : Int)) == r6))) || ((!(x1 != (6 : Int))) && (!(x2 == [])))) || (!((x1 == (5 : Int)) == r7))) == false) = true → (!(x1 == (5 : Int))) = true → ((((((r5 == []) || (!((x1 != (6 : Int)) == r6))) || ((!(x1 != (6 : Int))) && (!(x2 == [])))) || (!((x1 == (5 : Int)) == r7))) == false) && ((!(x1 == (5 : Int))) == true)) = true) <|
 chk ((((((((r5 == []) || (!((x1 != (6 : Int)) == r6))) || ((!(x1 != (6 : Int))) && (!(x2 == [])))) || (!((x1 == (5 : Int)) == r7))) || ((!(x1 == (5 : Int))) && (!(x3 == [])))) || (!((((x1 == (1 : Int)) || (x1 == (4 : Int))) || (x1 == (5 : Int))) == r8))) == false) = true → (((((((r5 == []) || (!((x1 != (6 : Int)) == r6))) || ((!(x1 != (6 : Int))) && (!(x2 == [])))) || (!((x1 == (5 : Int)) == r7))) || ((!(x1 == (5 : Int))) && (!(x3 == [])))) || (!((((x1 == (1 : Int)) || (x1 == (4 : Int))) || (x1 == (5 : Int))) == r8))) == false) = true → (!(((x1 == (1 : Int)) || (x1 == (4 : Int))) || (x1 == (5 : Int)))) = true → ((((((((r5 == []) || (!((x1 != (6 : Int)) == r6))) || ((!(x1 != (6 : Int))) && (!(x2 == [])))) || (!((x1 == (5 : Int)) == r7))) || ((!(x1 == (5 : Int))) && (!(x3 == [])))) || (!((((x1 == (1 : Int)) || (x1 == (4 : Int))) || (x1 == (5 : Int))) == r8))) == false) && ((!(((x1 == (1 : Int)) || (x1 == (4 : Int))) || (x1 == (5 : Int)))) == true)) = true) <|
 if (((((((r5 == []) || (!((x1 != (6 : Int)) == r6))) || ((!(x1 != (6 : Int))) && (!(x2 == [])))) || (!((x1 == (5 : Int)) == r7))) || ((!(x1 == (5 : Int))) && (!(x3 == [])))) || (!((((x1 == (1 : Int)) || (x1 == (4 : Int))) || (x1 == (5 : Int))) == r8))) || ((!(((x1 == (1 : Int)) || (x1 == (4 : Int))) || (x1 == (5 : Int)))) && (!(x4 == [])))) then (
 some ([], (1 : Int))
 ) else (
 (f76 x1).bind fun (r9 : List UInt8) =>
 jn (fun (s10 : List UInt8) =>
 jn (fun (s11 : List UInt8) =>
 jn (fun (s12 : List UInt8) =>
 some (s12, (0 : Int))
 ) fun (K3 : (List UInt8) → Option (List UInt8 × Int)) =>
 if (((x1 == (1 : Int)) || (x1 == (4 : Int))) || (x1 == (5 : Int))) then (
 chk (s11.length + ([32] : List UInt8).length ≤ 9223372036854775807) <|
 chk ((s11 ++ ([32] : List UInt8)).length + x4.length ≤ 9223372036854775807) <|
 K3 ((s11 ++ ([32] : List UInt8)) ++ x4)
 ) else (
 K3 s11
 )
 ) fun (K2 : (List UInt8) → Option (List UInt8 × Int)) =>
 if (x1 == (5 : Int)) then (
 chk (s10.length + ([32] : List UInt8).length ≤ 9223372036854775807) <|
 chk ((s10 ++ ([32] : List UInt8)).length + x3.length ≤ 9223372036854775807) <|
 K2 ((s10 ++ ([32] : List UInt8)) ++ x3)
 ) else (
 K2 s10
 )
 ) fun (K1 : (List UInt8) → Option (List UInt8 × Int)) =>
 if (x1 != (6 : Int)) then (
 chk (r9.length + ([32] : List UInt8).length ≤ 9223372036854775807) <|
 chk ((r9 ++ ([32] : List UInt8)).length + x2.length ≤ 9223372036854775807) <|
 K1 ((r9 ++ ([32] : List UInt8)) ++ x2)
 ) else (
 K1 r9
 )
 )
theorem f77_ok  (x1 : Int) (x2 : List UInt8) (x3 : List UInt8) (x4 : List UInt8) (r : List UInt8 × Int) (h : f77 x1 x2 x3 x4 = some r)  : Spec1 Tryz.prog 77 [] [] [] [.agg [.int .i64 x1, .str x2, .str x3, .str x4]] (.tup [.str r.1, .int .i64 r.2]) [] := by
 unfold f77 at h
 refine Spec1.body 0 _ _ Tryz.func77 rfl Tryz.ntmps77 rfl rfl ?_
 refine q1rq [] [] [1] [1] ⟨101, [(1, .ptr 1 0)], [(1, .cells 67 [.int .i64 x1, .str x2, .str x3, .str x4])], [], 0⟩ trivial ?_
 refine q1rq [] [] [1, 4] [1] ⟨101, [(1, .ptr 1 0), (4, .bool (x1 != (6 : Int)))], [(1, .cells 67 [.int .i64 x1, .str x2, .str x3, .str x4])], [], 0⟩ trivial ?_
 refine q1rq [] [] [1, 4, 5] [1] ⟨101, [(1, .ptr 1 0), (4, .bool (x1 != (6 : Int))), (5, .bool (x1 == (5 : Int)))], [(1, .cells 67 [.int .i64 x1, .str x2, .str x3, .str x4])], [], 0⟩ trivial ?_
 refine AWp.seq ?_
 have ob0 := idA (((x1 == (1 : Int)) == false) = true)
 have ob1 := ob0
 have ob2 := bqA (x1 == (1 : Int)) false
 have ob3 := idA ((((x1 == (1 : Int)) || (x1 == (4 : Int))) == false) = true)
 have ob4 := ob3
 have ob5 := bqA ((x1 == (1 : Int)) || (x1 == (4 : Int))) false
 refine q1rr [] [] [1, 4, 5, 6] [1] ⟨101, [(1, .ptr 1 0), (4, .bool (x1 != (6 : Int))), (5, .bool (x1 == (5 : Int))), (6, .bool (((x1 == (1 : Int)) || (x1 == (4 : Int))) || (x1 == (5 : Int))))], [(1, .cells 67 [.int .i64 x1, .str x2, .str x3, .str x4])], [], 0⟩ (an6 (an1 ob0) (an1 ob1) ob2 (an1 ob3) (an1 ob4) ob5) ?_
 refine tN ?_
 refine AWp.seq ?_
 refine AWp.seq ?_
 obtain ⟨r5, hr5, h⟩ := bind_ok h
 obtain ⟨r6, hr6, h⟩ := optc_some h
 obtain ⟨r7, hr7, h⟩ := optc_some h
 obtain ⟨r8, hr8, h⟩ := optc_some h
 have ob6 := idA (((r5 == []) == false) = true)
 have ob7 := ob6
 have ob8 := ob6
 have ob9 := ob6
 have ob10 := bqA (r5 == []) false
 have ob11 := idA ((((r5 == []) || (!((x1 != (6 : Int)) == r6))) == false) = true)
 have ob12 := ob11
 have ob13 := idA (((((r5 == []) || (!((x1 != (6 : Int)) == r6))) == false) && ((!(x1 != (6 : Int))) == true)) = true)
 have ob14 := ob13
 obtain ⟨ob15, h⟩ := chk_some h
 have ob16 := ob11
 have ob17 := bqA ((r5 == []) || (!((x1 != (6 : Int)) == r6))) false
 have ob18 := idA (((((r5 == []) || (!((x1 != (6 : Int)) == r6))) || ((!(x1 != (6 : Int))) && (!(x2 == [])))) == false) = true)
 have ob19 := ob18
 have ob20 := ob18
 have ob21 := ob18
 have ob22 := bqA (((r5 == []) || (!((x1 != (6 : Int)) == r6))) || ((!(x1 != (6 : Int))) && (!(x2 == [])))) false
 have ob23 := idA ((((((r5 == []) || (!((x1 != (6 : Int)) == r6))) || ((!(x1 != (6 : Int))) && (!(x2 == [])))) || (!((x1 == (5 : Int)) == r7))) == false) = true)
 have ob24 := ob23
 have ob25 := idA (((((((r5 == []) || (!((x1 != (6 : Int)) == r6))) || ((!(x1 != (6 : Int))) && (!(x2 == [])))) || (!((x1 == (5 : Int)) == r7))) == false) && ((!(x1 == (5 : Int))) == true)) = true)
 have ob26 := ob25
 obtain ⟨ob27, h⟩ := chk_some h
 have ob28 := ob23
 have ob29 := bqA ((((r5 == []) || (!((x1 != (6 : Int)) == r6))) || ((!(x1 != (6 : Int))) && (!(x2 == [])))) || (!((x1 == (5 : Int)) == r7))) false
 have ob30 := idA (((((((r5 == []) || (!((x1 != (6 : Int)) == r6))) || ((!(x1 != (6 : Int))) && (!(x2 == [])))) || (!((x1 == (5 : Int)) == r7))) || ((!(x1 == (5 : Int))) && (!(x3 == [])))) == false) = true)
 have ob31 := ob30
 have ob32 := ob30
 have ob33 := ob30
 have ob34 := bqA (((((r5 == []) || (!((x1 != (6 : Int)) == r6))) || ((!(x1 != (6 : Int))) && (!(x2 == [])))) || (!((x1 == (5 : Int)) == r7))) || ((!(x1 == (5 : Int))) && (!(x3 == [])))) false
 have ob35 := idA ((((((((r5 == []) || (!((x1 != (6 : Int)) == r6))) || ((!(x1 != (6 : Int))) && (!(x2 == [])))) || (!((x1 == (5 : Int)) == r7))) || ((!(x1 == (5 : Int))) && (!(x3 == [])))) || (!((((x1 == (1 : Int)) || (x1 == (4 : Int))) || (x1 == (5 : Int))) == r8))) == false) = true)
 have ob36 := ob35
 have ob37 := idA (((((((((r5 == []) || (!((x1 != (6 : Int)) == r6))) || ((!(x1 != (6 : Int))) && (!(x2 == [])))) || (!((x1 == (5 : Int)) == r7))) || ((!(x1 == (5 : Int))) && (!(x3 == [])))) || (!((((x1 == (1 : Int)) || (x1 == (4 : Int))) || (x1 == (5 : Int))) == r8))) == false) && ((!(((x1 == (1 : Int)) || (x1 == (4 : Int))) || (x1 == (5 : Int)))) == true)) = true)
 have ob38 := ob37
 obtain ⟨ob39, h⟩ := chk_some h
 have ob40 := ob35
 have ob41 := bqA ((((((r5 == []) || (!((x1 != (6 : Int)) == r6))) || ((!(x1 != (6 : Int))) && (!(x2 == [])))) || (!((x1 == (5 : Int)) == r7))) || ((!(x1 == (5 : Int))) && (!(x3 == [])))) || (!((((x1 == (1 : Int)) || (x1 == (4 : Int))) || (x1 == (5 : Int))) == r8))) false
 refine q1rr [] [(2, ⟨[.int .i64 x1], [], [], [], .str r5, [], [], []⟩), (8, ⟨[.str x2], [], [], [], .bool r6, [], [], []⟩), (24, ⟨[.str x3], [], [], [], .bool r7, [], [], []⟩), (40, ⟨[.str x4], [], [], [], .bool r8, [], [], []⟩)] [1, 4, 5, 6, 78] [1] ⟨101, [(1, .ptr 1 0), (4, .bool (x1 != (6 : Int))), (5, .bool (x1 == (5 : Int))), (6, .bool (((x1 == (1 : Int)) || (x1 == (4 : Int))) || (x1 == (5 : Int)))), (78, .bool (((((((r5 == []) || (!((x1 != (6 : Int)) == r6))) || ((!(x1 != (6 : Int))) && (!(x2 == [])))) || (!((x1 == (5 : Int)) == r7))) || ((!(x1 == (5 : Int))) && (!(x3 == [])))) || (!((((x1 == (1 : Int)) || (x1 == (4 : Int))) || (x1 == (5 : Int))) == r8))) || ((!(((x1 == (1 : Int)) || (x1 == (4 : Int))) || (x1 == (5 : Int)))) && (!(x4 == [])))))], [(1, .cells 67 [.int .i64 x1, .str x2, .str x3, .str x4])], [], 0⟩ (ac6 (cpT (f76_ok _ _ hr5)) (an1 ob6) (And.intro (cpC fun hc => (f117_ok _ _ (hr6 hc))) (an1 ob7)) (an2 ob8 ob9) ob10 (an1 ob11) (ac6 (an1 ob12) (an1 ob13) (an1 ob14) (And.intro ob15 (an1 ob16)) ob17 (an1 ob18) (ac6 (And.intro (cpC fun hc => (f117_ok _ _ (hr7 hc))) (an1 ob19)) (an2 ob20 ob21) ob22 (an1 ob23) (an1 ob24) (an1 ob25) (ac6 (an1 ob26) (And.intro ob27 (an1 ob28)) ob29 (an1 ob30) (And.intro (cpC fun hc => (f117_ok _ _ (hr8 hc))) (an1 ob31)) (an2 ob32 ob33) (ac6 ob34 (an1 ob35) (an1 ob36) (an1 ob37) (an1 ob38) (And.intro ob39 (an1 ob40)) (an1 ob41)))))) ?_
 refine tN ?_
 refine AWp.cond (b := (((((((r5 == []) || (!((x1 != (6 : Int)) == r6))) || ((!(x1 != (6 : Int))) && (!(x2 == [])))) || (!((x1 == (5 : Int)) == r7))) || ((!(x1 == (5 : Int))) && (!(x3 == [])))) || (!((((x1 == (1 : Int)) || (x1 == (4 : Int))) || (x1 == (5 : Int))) == r8))) || ((!(((x1 == (1 : Int)) || (x1 == (4 : Int))) || (x1 == (5 : Int)))) && (!(x4 == []))))) (by kernel_rfl) (fun hc1 => ?_) (fun hc1 => ?_)
 ·
  replace h := ite_tb hc1 h
  refine q1rq [] [] [2, 3] [] ⟨101, [(2, .str []), (3, .int .i64 (1 : Int))], [], [], 0⟩ trivial ?_
  have hret := Option.some.inj h
  subst hret
  refine AWp.le (Le.mk (s' := ⟨101, [(2, .str []), (3, .int .i64 (1 : Int))], [], [], 0⟩) rfl rfl ⟨.refl _, .refl _, trivial⟩ trivial) ?_
  refine AWp.ret ?_
  refine tR ?_
  exact bR _ rfl ⟨rfl, rfl⟩ rfl
 ·
  replace h := ite_fb hc1 h
  refine AWp.skip ?_
  refine tN ?_
  refine AWp.seq ?_
  obtain ⟨r9, hr9, h⟩ := bind_ok h
  refine q1rr [] [(2, ⟨[.int .i64 x1], [], [], [], .str r9, [], [], []⟩)] [1, 4, 5, 6, 7] [1] ⟨101, [(1, .ptr 1 0), (4, .bool (x1 != (6 : Int))), (5, .bool (x1 == (5 : Int))), (6, .bool (((x1 == (1 : Int)) || (x1 == (4 : Int))) || (x1 == (5 : Int)))), (7, .str r9)], [(1, .cells 67 [.int .i64 x1, .str x2, .str x3, .str x4])], [], 0⟩ (an1 (cpT (f76_ok _ _ hr9))) ?_
  refine tN ?_
  obtain ⟨K1, hK1, h⟩ := jn_some h
  refine AWp.join (α := List UInt8) (fun (s10 : List UInt8) => ⟨101, [(1, .ptr 1 0), (5, .bool (x1 == (5 : Int))), (6, .bool (((x1 == (1 : Int)) || (x1 == (4 : Int))) || (x1 == (5 : Int)))), (7, .str s10)], [(1, .cells 67 [.int .i64 x1, .str x2, .str x3, .str x4])], [], 0⟩) (fun x => K1 x = some r) ?_ ?_
  ·
   refine q1rq [] [] [1, 5, 6, 7, 82] [1] ⟨101, [(1, .ptr 1 0), (5, .bool (x1 == (5 : Int))), (6, .bool (((x1 == (1 : Int)) || (x1 == (4 : Int))) || (x1 == (5 : Int)))), (7, .str r9), (82, .bool (x1 != (6 : Int)))], [(1, .cells 67 [.int .i64 x1, .str x2, .str x3, .str x4])], [], 0⟩ trivial ?_
   refine AWp.cond (b := (x1 != (6 : Int))) (by kernel_rfl) (fun hc2 => ?_) (fun hc2 => ?_)
   ·
    replace h := ite_tb hc2 h
    obtain ⟨ob42, h⟩ := chk_some h
    obtain ⟨ob43, h⟩ := chk_some h
    refine q1rr [] [] [1, 5, 6, 7] [1] ⟨101, [(1, .ptr 1 0), (5, .bool (x1 == (5 : Int))), (6, .bool (((x1 == (1 : Int)) || (x1 == (4 : Int))) || (x1 == (5 : Int)))), (7, .str ((r9 ++ ([32] : List UInt8)) ++ x2))], [(1, .cells 67 [.int .i64 x1, .str x2, .str x3, .str x4])], [], 0⟩ (an2 ob42 ob43) ?_
    exact jN (((r9 ++ ([32] : List UInt8)) ++ x2)) (Le.mk rfl rfl ⟨.refl _, .refl _, .refl _, .refl _, trivial⟩ ⟨⟨_, rfl, .refl _⟩, trivial⟩) h
   ·
    replace h := ite_fb hc2 h
    refine AWp.skip ?_
    exact jN (r9) (Le.mk rfl rfl ⟨.refl _, .refl _, .refl _, .refl _, trivial⟩ ⟨⟨_, rfl, .refl _⟩, trivial⟩) h
  ·
   rintro s10 h
   replace h := (congrFun hK1 _).symm.trans h
   obtain ⟨K2, hK2, h⟩ := jn_some h
   refine AWp.join (α := List UInt8) (fun (s11 : List UInt8) => ⟨101, [(1, .ptr 1 0), (6, .bool (((x1 == (1 : Int)) || (x1 == (4 : Int))) || (x1 == (5 : Int)))), (7, .str s11)], [(1, .cells 67 [.int .i64 x1, .str x2, .str x3, .str x4])], [], 0⟩) (fun x => K2 x = some r) ?_ ?_
   ·
    refine q1rq [] [] [1, 6, 7, 88] [1] ⟨101, [(1, .ptr 1 0), (6, .bool (((x1 == (1 : Int)) || (x1 == (4 : Int))) || (x1 == (5 : Int)))), (7, .str s10), (88, .bool (x1 == (5 : Int)))], [(1, .cells 67 [.int .i64 x1, .str x2, .str x3, .str x4])], [], 0⟩ trivial ?_
    refine AWp.cond (b := (x1 == (5 : Int))) (by kernel_rfl) (fun hc3 => ?_) (fun hc3 => ?_)
    ·
     replace h := ite_tb hc3 h
     obtain ⟨ob44, h⟩ := chk_some h
     obtain ⟨ob45, h⟩ := chk_some h
     refine q1rr [] [] [1, 6, 7] [1] ⟨101, [(1, .ptr 1 0), (6, .bool (((x1 == (1 : Int)) || (x1 == (4 : Int))) || (x1 == (5 : Int)))), (7, .str ((s10 ++ ([32] : List UInt8)) ++ x3))], [(1, .cells 67 [.int .i64 x1, .str x2, .str x3, .str x4])], [], 0⟩ (an2 ob44 ob45) ?_
     exact jN (((s10 ++ ([32] : List UInt8)) ++ x3)) (Le.mk rfl rfl ⟨.refl _, .refl _, .refl _, trivial⟩ ⟨⟨_, rfl, .refl _⟩, trivial⟩) h
    ·
     replace h := ite_fb hc3 h
     refine AWp.skip ?_
     exact jN (s10) (Le.mk rfl rfl ⟨.refl _, .refl _, .refl _, trivial⟩ ⟨⟨_, rfl, .refl _⟩, trivial⟩) h
   ·
    rintro s11 h
    replace h := (congrFun hK2 _).symm.trans h
    obtain ⟨K3, hK3, h⟩ := jn_some h
    refine AWp.join (α := List UInt8) (fun (s12 : List UInt8) => ⟨101, [(7, .str s12)], [], [], 0⟩) (fun x => K3 x = some r) ?_ ?_
    ·
     refine q1rq [] [] [1, 7, 94] [1] ⟨101, [(1, .ptr 1 0), (7, .str s11), (94, .bool (((x1 == (1 : Int)) || (x1 == (4 : Int))) || (x1 == (5 : Int))))], [(1, .cells 67 [.int .i64 x1, .str x2, .str x3, .str x4])], [], 0⟩ trivial ?_
     refine AWp.cond (b := (((x1 == (1 : Int)) || (x1 == (4 : Int))) || (x1 == (5 : Int)))) (by kernel_rfl) (fun hc4 => ?_) (fun hc4 => ?_)
     ·
      replace h := ite_tb hc4 h
      obtain ⟨ob46, h⟩ := chk_some h
      obtain ⟨ob47, h⟩ := chk_some h
      refine q1rr [] [] [7] [] ⟨101, [(7, .str ((s11 ++ ([32] : List UInt8)) ++ x4))], [], [], 0⟩ (an2 ob46 ob47) ?_
      exact jN (((s11 ++ ([32] : List UInt8)) ++ x4)) (Le.mk rfl rfl ⟨.refl _, trivial⟩ trivial) h
     ·
      replace h := ite_fb hc4 h
      refine AWp.skip ?_
      exact jN (s11) (Le.mk rfl rfl ⟨.refl _, trivial⟩ trivial) h
    ·
     rintro s12 h
     replace h := (congrFun hK3 _).symm.trans h
     refine q1rq [] [] [2, 3] [] ⟨101, [(2, .str s12), (3, .int .i64 (0 : Int))], [], [], 0⟩ trivial ?_
     have hret := Option.some.inj h
     subst hret
     refine AWp.le (Le.mk (s' := ⟨101, [(2, .str s12), (3, .int .i64 (0 : Int))], [], [], 0⟩) rfl rfl ⟨.refl _, .refl _, trivial⟩ trivial) ?_
     refine AWp.ret ?_
     exact bR _ rfl ⟨rfl, rfl⟩ rfl
def f43_L0 (x1 : List UInt8) (r2 : List (List UInt8)) (K1 : Unit → Option Tq3) : Nat → Nat → Option Tq3
 | 0, _ => none
 | k + 1, n3 =>
  if (decide ((n3 : Int) ≤ (6 : Int))) then (
  jn (fun (_ : Unit) =>
  chk (((n3 : Int) + (1 : Int)) ≤ 9223372036854775807) <|
  (f43_L0 x1 r2 K1 k) (n3 + 1)
  ) fun (K2 : Unit → Option Tq3) =>
  (f76 (n3 : Int)).bind fun (r4 : List UInt8) =>
  chk ((0 : Int) < (((r2).length : Nat) : Int)) <|
  chk (0 < (r2).length) <|
  if (!((r2.getD 0 []) == r4)) then (
  K2 ()
  ) else (
  jn (fun (s5 : List UInt8) =>
  jn (fun (s6 : List UInt8) =>
  jn (fun (s7 : List UInt8) =>
  jn (fun (s8 : List UInt8) =>
  (f77 (n3 : Int) s5 s6 s8).bind fun (r9 : List UInt8 × Int) =>
  if ((r9.2 == (0 : Int)) && (r9.1 == x1)) then (
  some ((n3 : Int), s5, s6, s8, (0 : Int))
  ) else (
  K2 ()
  )
  ) fun (K6 : (List UInt8) → Option Tq3) =>
  if (((n3 : Int) == (5 : Int)) && (decide ((((r2).length : Nat) : Int) > (3 : Int)))) then (
  chk ((3 : Int) < (((r2).length : Nat) : Int)) <|
  chk (3 < (r2).length) <|
  K6 (r2.getD 3 [])
  ) else (
  K6 s7
  )
  ) fun (K5 : (List UInt8) → Option Tq3) =>
  if (((n3 : Int) != (5 : Int)) && (decide ((((r2).length : Nat) : Int) > (2 : Int)))) then (
  chk ((2 : Int) < (((r2).length : Nat) : Int)) <|
  chk (2 < (r2).length) <|
  K5 (r2.getD 2 [])
  ) else (
  K5 []
  )
  ) fun (K4 : (List UInt8) → Option Tq3) =>
  if (((n3 : Int) == (5 : Int)) && (decide ((((r2).length : Nat) : Int) > (2 : Int)))) then (
  chk ((2 : Int) < (((r2).length : Nat) : Int)) <|
  chk (2 < (r2).length) <|
  K4 (r2.getD 2 [])
  ) else (
  K4 []
  )
  ) fun (K3 : (List UInt8) → Option Tq3) =>
  if (decide ((((r2).length : Nat) : Int) > (1 : Int))) then (
  chk ((1 : Int) < (((r2).length : Nat) : Int)) <|
  chk (1 < (r2).length) <|
  K3 (r2.getD 1 [])
  ) else (
  K3 []
  )
  )
  ) else (
  K1 ()
  )
def f43 (x1 : List UInt8) : Option Tq3 :=
 (f75 x1).bind fun (r2 : List (List UInt8)) =>
 jn (fun (_ : Unit) =>
 some ((0 : Int), [], [], [], (2 : Int))
 ) fun (K1 : Unit → Option Tq3) =>
 f43_L0 x1 r2 K1 FUEL 1
theorem f43_ok  (x1 : List UInt8) (r : Tq3) (h : f43 x1 = some r)  : Spec1 Tryz.prog 43 [] [] [] [.str x1] (.tup [.agg [.int .i64 r.1, .str r.2.1, .str r.2.2.1, .str r.2.2.2.1], .int .i64 r.2.2.2.2]) [] := by
 unfold f43 at h
 refine Spec1.bodyD [2] 0 _ _ Tryz.func43 rfl Tryz.ntmps43 rfl rfl ?_
 refine q1rq [] [] [0, 2] [2] ⟨77, [(0, .str x1), (2, .ptr 2 0)], [(2, .cells 67 [.int .i64 (0 : Int), .str [], .str [], .str []])], [], 0⟩ trivial ?_
 refine AWp.seq ?_
 obtain ⟨r2, hr2, h⟩ := bind_ok h
 refine q1rr [] [(1, ⟨[.str x1], [], [], [(6001, q1bS_9 r2)], .own 6001, [6001], [], []⟩)] [0, 2, 4] [2, 6001] ⟨77, [(0, .str x1), (2, .ptr 2 0), (4, .own 6001)], [(2, .cells 67 [.int .i64 (0 : Int), .str [], .str [], .str []]), (6001, q1bS_9 r2)], [], 0⟩ (an1 (cpT (Spec1.ren (swapN 3000 6001) (swapN_inv 3000 6001) rfl (f75_ok _ _ hr2)))) ?_
 refine tN ?_
 obtain ⟨K1, hK1, h⟩ := jn_some h
 refine AWp.join (α := Unit) (fun (x : Unit) => match x with | () => ⟨77, [(2, .ptr 2 0)], [(2, .cells 67 [.int .i64 (0 : Int), .str [], .str [], .str []])], [], 0⟩) (fun x => K1 x = some r) ?_ ?_
 ·
  refine q1rq [] [] [0, 2, 4, 5] [2, 6001] ⟨77, [(0, .str x1), (2, .ptr 2 0), (4, .own 6001), (5, .int .i64 (1 : Int))], [(2, .cells 67 [.int .i64 (0 : Int), .str [], .str [], .str []]), (6001, q1bS_9 r2)], [], 0⟩ trivial ?_
  refine AWp.block ?_
  refine AWp.loopL (α := Nat × Nat) (fun x => match x with | (_, n3) => ⟨77, [(0, .str x1), (2, .ptr 2 0), (4, .own 6001), (5, .int .i64 (n3 : Int))], [(2, .cells 67 [.int .i64 (0 : Int), .str [], .str [], .str []]), (6001, q1bS_9 r2)], [], 0⟩) (fun x => f43_L0 x1 r2 K1 x.1 x.2 = some r) (fun x => x.1) (FUEL, 1) (Le.mk (s' := ⟨77, [(0, .str x1), (2, .ptr 2 0), (4, .own 6001), (5, .int .i64 (1 : Int))], [(2, .cells 67 [.int .i64 (0 : Int), .str [], .str [], .str []]), (6001, q1bS_9 r2)], [], 0⟩) rfl rfl ⟨.refl _, .refl _, .refl _, .refl _, trivial⟩ ⟨⟨_, rfl, .refl _⟩, ⟨_, rfl, .refl _⟩, trivial⟩) h ?_
  rintro ⟨k0, n3⟩ h
  cases k0 with
  | zero => exact nomatch (show (none : Option Tq3) = some r from h)
  | succ k0 =>
  obtain ⟨C0, hC0⟩ : ∃ C, C = f43_L0 x1 r2 K1 k0 := ⟨_, rfl⟩
  replace h := (f43_L0.eq_2 ..).symm.trans h
  try rw [← hC0] at h
  refine AWp.seq ?_
  refine q1rq [] [] [0, 2, 4, 5, 12] [2, 6001] ⟨77, [(0, .str x1), (2, .ptr 2 0), (4, .own 6001), (5, .int .i64 (n3 : Int)), (12, .bool (decide ((n3 : Int) ≤ (6 : Int))))], [(2, .cells 67 [.int .i64 (0 : Int), .str [], .str [], .str []]), (6001, q1bS_9 r2)], [], 0⟩ trivial ?_
  refine AWp.cond (b := (decide ((n3 : Int) ≤ (6 : Int)))) (by kernel_rfl) (fun hc1 => ?_) (fun hc1 => ?_)
  ·
   replace h := ite_tb hc1 h
   refine AWp.skip ?_
   refine tN ?_
   obtain ⟨K2, hK2, h⟩ := jn_some h
   refine AWp.join (α := Unit) (fun (x : Unit) => match x with | () => ⟨77, [(0, .str x1), (2, .ptr 2 0), (4, .own 6001), (5, .int .i64 (n3 : Int))], [(2, .cells 67 [.int .i64 (0 : Int), .str [], .str [], .str []]), (6001, q1bS_9 r2)], [], 0⟩) (fun x => K2 x = some r) ?_ ?_
   ·
    refine AWp.block ?_
    refine AWp.seq ?_
    refine AWp.seq ?_
    obtain ⟨r4, hr4, h⟩ := bind_ok h
    obtain ⟨ob0p, h⟩ := chk_some h
    have ob0 : 0 ≤ (0 : Int) ∧ (0 : Int) < (((r2).length : Nat) : Int) := ⟨by omega, ob0p⟩
    obtain ⟨ob1, h⟩ := chk_some h
    refine q1rr [] [(4, ⟨[.int .i64 (n3 : Int)], [], [], [], .str r4, [], [], []⟩)] [0, 2, 4, 5, 20] [2, 6001] ⟨77, [(0, .str x1), (2, .ptr 2 0), (4, .own 6001), (5, .int .i64 (n3 : Int)), (20, .bool (!((r2.getD 0 []) == r4)))], [(2, .cells 67 [.int .i64 (0 : Int), .str [], .str [], .str []]), (6001, q1bS_9 r2)], [], 0⟩ (an3 ob0 ob1 (cpT (f76_ok _ _ hr4))) ?_
    refine tN ?_
    refine AWp.cond (b := (!((r2.getD 0 []) == r4))) (by kernel_rfl) (fun hc2 => ?_) (fun hc2 => ?_)
    ·
     replace h := ite_tb hc2 h
     refine AWp.exit ?_
     refine tE ?_
     refine kS ?_
     exact jN () (Le.mk rfl rfl ⟨.refl _, .refl _, .refl _, .refl _, trivial⟩ ⟨⟨_, rfl, .refl _⟩, ⟨_, rfl, .refl _⟩, trivial⟩) h
    ·
     replace h := ite_fb hc2 h
     refine AWp.skip ?_
     refine tN ?_
     refine q1rq [] [] [0, 2, 4, 5, 6] [2, 6, 6001] ⟨77, [(0, .str x1), (2, .ptr 2 0), (4, .own 6001), (5, .int .i64 (n3 : Int)), (6, .ptr 6 0)], [(2, .cells 67 [.int .i64 (0 : Int), .str [], .str [], .str []]), (6, .cells 67 [.int .i64 (n3 : Int), .str [], .str [], .str []]), (6001, q1bS_9 r2)], [], 0⟩ (an1 trivial) ?_
     obtain ⟨K3, hK3, h⟩ := jn_some h
     refine AWp.join (α := List UInt8) (fun (s5 : List UInt8) => ⟨77, [(0, .str x1), (2, .ptr 2 0), (4, .own 6001), (5, .int .i64 (n3 : Int)), (6, .ptr 6 0)], [(2, .cells 67 [.int .i64 (0 : Int), .str [], .str [], .str []]), (6, .cells 67 [.int .i64 (n3 : Int), .str s5, .str [], .str []]), (6001, q1bS_9 r2)], [], 0⟩) (fun x => K3 x = some r) ?_ ?_
     ·
      refine q1rq [] [] [0, 2, 4, 5, 6, 25] [2, 6, 6001] ⟨77, [(0, .str x1), (2, .ptr 2 0), (4, .own 6001), (5, .int .i64 (n3 : Int)), (6, .ptr 6 0), (25, .bool (decide ((((r2).length : Nat) : Int) > (1 : Int))))], [(2, .cells 67 [.int .i64 (0 : Int), .str [], .str [], .str []]), (6, .cells 67 [.int .i64 (n3 : Int), .str [], .str [], .str []]), (6001, q1bS_9 r2)], [], 0⟩ trivial ?_
      refine AWp.cond (b := (decide ((((r2).length : Nat) : Int) > (1 : Int)))) (by kernel_rfl) (fun hc3 => ?_) (fun hc3 => ?_)
      ·
       replace h := ite_tb hc3 h
       obtain ⟨ob2p, h⟩ := chk_some h
       have ob2 : 0 ≤ (1 : Int) ∧ (1 : Int) < (((r2).length : Nat) : Int) := ⟨by omega, ob2p⟩
       obtain ⟨ob3, h⟩ := chk_some h
       refine q1rr [] [] [0, 2, 4, 5, 6] [2, 6, 6001] ⟨77, [(0, .str x1), (2, .ptr 2 0), (4, .own 6001), (5, .int .i64 (n3 : Int)), (6, .ptr 6 0)], [(2, .cells 67 [.int .i64 (0 : Int), .str [], .str [], .str []]), (6, .cells 67 [.int .i64 (n3 : Int), .str (r2.getD 1 []), .str [], .str []]), (6001, q1bS_9 r2)], [], 0⟩ (an3 ob2 ob3 trivial) ?_
       exact jN ((r2.getD 1 [])) (Le.mk rfl rfl ⟨.refl _, .refl _, .refl _, .refl _, .refl _, trivial⟩ ⟨⟨_, rfl, .refl _⟩, ⟨_, rfl, .refl _⟩, ⟨_, rfl, .refl _⟩, trivial⟩) h
      ·
       replace h := ite_fb hc3 h
       refine AWp.skip ?_
       exact jN ([]) (Le.mk rfl rfl ⟨.refl _, .refl _, .refl _, .refl _, .refl _, trivial⟩ ⟨⟨_, rfl, .refl _⟩, ⟨_, rfl, .refl _⟩, ⟨_, rfl, .refl _⟩, trivial⟩) h
     ·
      rintro s5 h
      replace h := (congrFun hK3 _).symm.trans h
      obtain ⟨K4, hK4, h⟩ := jn_some h
      refine AWp.join (α := List UInt8) (fun (s6 : List UInt8) => ⟨77, [(0, .str x1), (2, .ptr 2 0), (4, .own 6001), (5, .int .i64 (n3 : Int)), (6, .ptr 6 0)], [(2, .cells 67 [.int .i64 (0 : Int), .str [], .str [], .str []]), (6, .cells 67 [.int .i64 (n3 : Int), .str s5, .str s6, .str []]), (6001, q1bS_9 r2)], [], 0⟩) (fun x => K4 x = some r) ?_ ?_
      ·
       refine AWp.seq ?_
       have ob4 := idA ((((n3 : Int) == (5 : Int)) == true) = true)
       have ob5 := ob4
       have ob6 := bqA ((n3 : Int) == (5 : Int)) true
       refine q1rr [] [] [0, 2, 4, 5, 6, 36] [2, 6, 6001] ⟨77, [(0, .str x1), (2, .ptr 2 0), (4, .own 6001), (5, .int .i64 (n3 : Int)), (6, .ptr 6 0), (36, .bool (((n3 : Int) == (5 : Int)) && (decide ((((r2).length : Nat) : Int) > (2 : Int)))))], [(2, .cells 67 [.int .i64 (0 : Int), .str [], .str [], .str []]), (6, .cells 67 [.int .i64 (n3 : Int), .str s5, .str [], .str []]), (6001, q1bS_9 r2)], [], 0⟩ (an3 (an1 ob4) (an1 ob5) ob6) ?_
       refine tN ?_
       refine AWp.cond (b := (((n3 : Int) == (5 : Int)) && (decide ((((r2).length : Nat) : Int) > (2 : Int))))) (by kernel_rfl) (fun hc4 => ?_) (fun hc4 => ?_)
       ·
        replace h := ite_tb hc4 h
        obtain ⟨ob7p, h⟩ := chk_some h
        have ob7 : 0 ≤ (2 : Int) ∧ (2 : Int) < (((r2).length : Nat) : Int) := ⟨by omega, ob7p⟩
        obtain ⟨ob8, h⟩ := chk_some h
        refine q1rr [] [] [0, 2, 4, 5, 6] [2, 6, 6001] ⟨77, [(0, .str x1), (2, .ptr 2 0), (4, .own 6001), (5, .int .i64 (n3 : Int)), (6, .ptr 6 0)], [(2, .cells 67 [.int .i64 (0 : Int), .str [], .str [], .str []]), (6, .cells 67 [.int .i64 (n3 : Int), .str s5, .str (r2.getD 2 []), .str []]), (6001, q1bS_9 r2)], [], 0⟩ (an3 ob7 ob8 trivial) ?_
        exact jN ((r2.getD 2 [])) (Le.mk rfl rfl ⟨.refl _, .refl _, .refl _, .refl _, .refl _, trivial⟩ ⟨⟨_, rfl, .refl _⟩, ⟨_, rfl, .refl _⟩, ⟨_, rfl, .refl _⟩, trivial⟩) h
       ·
        replace h := ite_fb hc4 h
        refine AWp.skip ?_
        exact jN ([]) (Le.mk rfl rfl ⟨.refl _, .refl _, .refl _, .refl _, .refl _, trivial⟩ ⟨⟨_, rfl, .refl _⟩, ⟨_, rfl, .refl _⟩, ⟨_, rfl, .refl _⟩, trivial⟩) h
      ·
       rintro s6 h
       replace h := (congrFun hK4 _).symm.trans h
       obtain ⟨K5, hK5, h⟩ := jn_some h
       refine AWp.join (α := List UInt8) (fun (s7 : List UInt8) => ⟨77, [(0, .str x1), (2, .ptr 2 0), (4, .own 6001), (5, .int .i64 (n3 : Int)), (6, .ptr 6 0)], [(2, .cells 67 [.int .i64 (0 : Int), .str [], .str [], .str []]), (6, .cells 67 [.int .i64 (n3 : Int), .str s5, .str s6, .str s7]), (6001, q1bS_9 r2)], [], 0⟩) (fun x => K5 x = some r) ?_ ?_
       ·
        refine AWp.seq ?_
        have ob9 := idA ((((n3 : Int) != (5 : Int)) == true) = true)
        have ob10 := ob9
        have ob11 := bqA ((n3 : Int) != (5 : Int)) true
        refine q1rr [] [] [0, 2, 4, 5, 6, 47] [2, 6, 6001] ⟨77, [(0, .str x1), (2, .ptr 2 0), (4, .own 6001), (5, .int .i64 (n3 : Int)), (6, .ptr 6 0), (47, .bool (((n3 : Int) != (5 : Int)) && (decide ((((r2).length : Nat) : Int) > (2 : Int)))))], [(2, .cells 67 [.int .i64 (0 : Int), .str [], .str [], .str []]), (6, .cells 67 [.int .i64 (n3 : Int), .str s5, .str s6, .str []]), (6001, q1bS_9 r2)], [], 0⟩ (an3 (an1 ob9) (an1 ob10) ob11) ?_
        refine tN ?_
        refine AWp.cond (b := (((n3 : Int) != (5 : Int)) && (decide ((((r2).length : Nat) : Int) > (2 : Int))))) (by kernel_rfl) (fun hc5 => ?_) (fun hc5 => ?_)
        ·
         replace h := ite_tb hc5 h
         obtain ⟨ob12p, h⟩ := chk_some h
         have ob12 : 0 ≤ (2 : Int) ∧ (2 : Int) < (((r2).length : Nat) : Int) := ⟨by omega, ob12p⟩
         obtain ⟨ob13, h⟩ := chk_some h
         refine q1rr [] [] [0, 2, 4, 5, 6] [2, 6, 6001] ⟨77, [(0, .str x1), (2, .ptr 2 0), (4, .own 6001), (5, .int .i64 (n3 : Int)), (6, .ptr 6 0)], [(2, .cells 67 [.int .i64 (0 : Int), .str [], .str [], .str []]), (6, .cells 67 [.int .i64 (n3 : Int), .str s5, .str s6, .str (r2.getD 2 [])]), (6001, q1bS_9 r2)], [], 0⟩ (an3 ob12 ob13 trivial) ?_
         exact jN ((r2.getD 2 [])) (Le.mk rfl rfl ⟨.refl _, .refl _, .refl _, .refl _, .refl _, trivial⟩ ⟨⟨_, rfl, .refl _⟩, ⟨_, rfl, .refl _⟩, ⟨_, rfl, .refl _⟩, trivial⟩) h
        ·
         replace h := ite_fb hc5 h
         refine AWp.skip ?_
         exact jN ([]) (Le.mk rfl rfl ⟨.refl _, .refl _, .refl _, .refl _, .refl _, trivial⟩ ⟨⟨_, rfl, .refl _⟩, ⟨_, rfl, .refl _⟩, ⟨_, rfl, .refl _⟩, trivial⟩) h
       ·
        rintro s7 h
        replace h := (congrFun hK5 _).symm.trans h
        obtain ⟨K6, hK6, h⟩ := jn_some h
        refine AWp.join (α := List UInt8) (fun (s8 : List UInt8) => ⟨77, [(0, .str x1), (2, .ptr 2 0), (4, .own 6001), (5, .int .i64 (n3 : Int)), (6, .ptr 6 0)], [(2, .cells 67 [.int .i64 (0 : Int), .str [], .str [], .str []]), (6, .cells 67 [.int .i64 (n3 : Int), .str s5, .str s6, .str s8]), (6001, q1bS_9 r2)], [], 0⟩) (fun x => K6 x = some r) ?_ ?_
        ·
         refine AWp.seq ?_
         have ob14 := idA ((((n3 : Int) == (5 : Int)) == true) = true)
         have ob15 := ob14
         have ob16 := bqA ((n3 : Int) == (5 : Int)) true
         refine q1rr [] [] [0, 2, 4, 5, 6, 58] [2, 6, 6001] ⟨77, [(0, .str x1), (2, .ptr 2 0), (4, .own 6001), (5, .int .i64 (n3 : Int)), (6, .ptr 6 0), (58, .bool (((n3 : Int) == (5 : Int)) && (decide ((((r2).length : Nat) : Int) > (3 : Int)))))], [(2, .cells 67 [.int .i64 (0 : Int), .str [], .str [], .str []]), (6, .cells 67 [.int .i64 (n3 : Int), .str s5, .str s6, .str s7]), (6001, q1bS_9 r2)], [], 0⟩ (an3 (an1 ob14) (an1 ob15) ob16) ?_
         refine tN ?_
         refine AWp.cond (b := (((n3 : Int) == (5 : Int)) && (decide ((((r2).length : Nat) : Int) > (3 : Int))))) (by kernel_rfl) (fun hc6 => ?_) (fun hc6 => ?_)
         ·
          replace h := ite_tb hc6 h
          obtain ⟨ob17p, h⟩ := chk_some h
          have ob17 : 0 ≤ (3 : Int) ∧ (3 : Int) < (((r2).length : Nat) : Int) := ⟨by omega, ob17p⟩
          obtain ⟨ob18, h⟩ := chk_some h
          refine q1rr [] [] [0, 2, 4, 5, 6] [2, 6, 6001] ⟨77, [(0, .str x1), (2, .ptr 2 0), (4, .own 6001), (5, .int .i64 (n3 : Int)), (6, .ptr 6 0)], [(2, .cells 67 [.int .i64 (0 : Int), .str [], .str [], .str []]), (6, .cells 67 [.int .i64 (n3 : Int), .str s5, .str s6, .str (r2.getD 3 [])]), (6001, q1bS_9 r2)], [], 0⟩ (an3 ob17 ob18 trivial) ?_
          exact jN ((r2.getD 3 [])) (Le.mk rfl rfl ⟨.refl _, .refl _, .refl _, .refl _, .refl _, trivial⟩ ⟨⟨_, rfl, .refl _⟩, ⟨_, rfl, .refl _⟩, ⟨_, rfl, .refl _⟩, trivial⟩) h
         ·
          replace h := ite_fb hc6 h
          refine AWp.skip ?_
          exact jN (s7) (Le.mk rfl rfl ⟨.refl _, .refl _, .refl _, .refl _, .refl _, trivial⟩ ⟨⟨_, rfl, .refl _⟩, ⟨_, rfl, .refl _⟩, ⟨_, rfl, .refl _⟩, trivial⟩) h
        ·
         rintro s8 h
         replace h := (congrFun hK6 _).symm.trans h
         refine AWp.seq ?_
         obtain ⟨r9, hr9, h⟩ := bind_ok h
         refine q1rr [] [(1, ⟨[.agg [.int .i64 (n3 : Int), .str s5, .str s6, .str s8]], [], [], [], .tup [.str r9.1, .int .i64 r9.2], [], [], []⟩)] [0, 2, 4, 5, 6, 7, 8] [2, 6, 6001] ⟨77, [(0, .str x1), (2, .ptr 2 0), (4, .own 6001), (5, .int .i64 (n3 : Int)), (6, .ptr 6 0), (7, .str r9.1), (8, .int .i64 r9.2)], [(2, .cells 67 [.int .i64 (0 : Int), .str [], .str [], .str []]), (6, .cells 67 [.int .i64 (n3 : Int), .str s5, .str s6, .str s8]), (6001, q1bS_9 r2)], [], 0⟩ (an1 (cpT (f77_ok _ _ _ _ _ hr9))) ?_
         refine tN ?_
         refine AWp.seq ?_
         have ob19 := idA (((r9.2 == (0 : Int)) == true) = true)
         have ob20 := ob19
         have ob21 := bqA (r9.2 == (0 : Int)) true
         refine q1rr [] [] [0, 2, 4, 5, 6, 74] [2, 6, 6001] ⟨77, [(0, .str x1), (2, .ptr 2 0), (4, .own 6001), (5, .int .i64 (n3 : Int)), (6, .ptr 6 0), (74, .bool ((r9.2 == (0 : Int)) && (r9.1 == x1)))], [(2, .cells 67 [.int .i64 (0 : Int), .str [], .str [], .str []]), (6, .cells 67 [.int .i64 (n3 : Int), .str s5, .str s6, .str s8]), (6001, q1bS_9 r2)], [], 0⟩ (an2 (an2 ob19 ob20) ob21) ?_
         refine tN ?_
         refine AWp.cond (b := ((r9.2 == (0 : Int)) && (r9.1 == x1))) (by kernel_rfl) (fun hc7 => ?_) (fun hc7 => ?_)
         ·
          replace h := ite_tb hc7 h
          refine q1rq [] [] [2, 3] [2] ⟨77, [(2, .ptr 2 0), (3, .int .i64 (0 : Int))], [(2, .cells 67 [.int .i64 (n3 : Int), .str s5, .str s6, .str s8])], [], 0⟩ (an1 trivial) ?_
          have hret := Option.some.inj h
          subst hret
          refine AWp.le (Le.mk (s' := ⟨77, [(2, .ptr 2 0), (3, .int .i64 (0 : Int))], [(2, .cells 67 [.int .i64 (n3 : Int), .str s5, .str s6, .str s8])], [], 0⟩) rfl rfl ⟨.refl _, .refl _, trivial⟩ ⟨⟨_, rfl, .refl _⟩, trivial⟩) ?_
          refine AWp.ret ?_
          refine kR ?_
          refine joinQ_ret ?_
          refine tR ?_
          refine kR ?_
          refine joinQ_ret ?_
          exact bR _ rfl ⟨rfl, rfl⟩ rfl
         ·
          replace h := ite_fb hc7 h
          refine AWp.skip ?_
          refine kN ?_
          exact jN () (Le.mk rfl rfl ⟨.refl _, .refl _, .refl _, .refl _, trivial⟩ ⟨⟨_, rfl, .refl _⟩, ⟨_, rfl, .refl _⟩, trivial⟩) h
   ·
    rintro ⟨⟩ h
    replace h := (congrFun hK2 _).symm.trans h
    obtain ⟨ob22p, h⟩ := chk_some h
    have ob22 : -9223372036854775808 ≤ ((n3 : Int) + (1 : Int)) ∧ ((n3 : Int) + (1 : Int)) ≤ 9223372036854775807 := ⟨by omega, ob22p⟩
    refine q1rr [] [] [0, 2, 4, 5] [2, 6001] ⟨77, [(0, .str x1), (2, .ptr 2 0), (4, .own 6001), (5, .int .i64 (((n3 + 1) : Nat) : Int))], [(2, .cells 67 [.int .i64 (0 : Int), .str [], .str [], .str []]), (6001, q1bS_9 r2)], [], 0⟩ (an1 ob22) ?_
    rw [hC0] at h
    exact lN (_, (n3 + 1)) (Le.mk rfl rfl ⟨.refl _, .refl _, .refl _, .refl _, trivial⟩ ⟨⟨_, rfl, .refl _⟩, ⟨_, rfl, .refl _⟩, trivial⟩) h (Nat.lt_succ_self _)
  ·
   replace h := ite_fb hc1 h
   refine AWp.exit ?_
   refine tE ?_
   refine tE ?_
   refine kS ?_
   exact jN () (Le.mk rfl rfl ⟨.refl _, trivial⟩ ⟨⟨_, rfl, .refl _⟩, trivial⟩) h
 ·
  rintro ⟨⟩ h
  replace h := (congrFun hK1 _).symm.trans h
  refine q1rq [] [] [2, 3] [2] ⟨77, [(2, .ptr 2 0), (3, .int .i64 (2 : Int))], [(2, .cells 67 [.int .i64 (0 : Int), .str [], .str [], .str []])], [], 0⟩ (an1 trivial) ?_
  have hret := Option.some.inj h
  subst hret
  refine AWp.le (Le.mk (s' := ⟨77, [(2, .ptr 2 0), (3, .int .i64 (2 : Int))], [(2, .cells 67 [.int .i64 (0 : Int), .str [], .str [], .str []])], [], 0⟩) rfl rfl ⟨.refl _, .refl _, trivial⟩ ⟨⟨_, rfl, .refl _⟩, trivial⟩) ?_
  refine AWp.ret ?_
  exact bR _ rfl ⟨rfl, rfl⟩ rfl
def f78_L0 (x1 : List Tq0) (x2 : List UInt8) (K1 : Unit → Option Int) : Nat → Nat → Option Int
 | 0, _ => none
 | k + 1, n3 =>
  if (decide ((n3 : Int) < (((x1).length : Nat) : Int))) then (
  chk ((n3 : Int) < (((x1).length : Nat) : Int)) <|
  if (((x1.getD n3 (default : Tq0)).1) == x2) then (
  some (n3 : Int)
  ) else (
  chk (((n3 : Int) + (1 : Int)) ≤ 9223372036854775807) <|
  (f78_L0 x1 x2 K1 k) (n3 + 1)
  )
  ) else (
  K1 ()
  )
def f78 (x1 : List Tq0) (x2 : List UInt8) : Option Int :=
 jn (fun (_ : Unit) =>
 some (-1 : Int)
 ) fun (K1 : Unit → Option Int) =>
 f78_L0 x1 x2 K1 FUEL 0
theorem f78_ok  (x1 : List Tq0) (x2 : List UInt8) (r : Int) (h : f78 x1 x2 = some r)  : Spec1 Tryz.prog 78 [] [] [] [vL 3 eSSI (default : Tq0) x1, .str x2] (.int .i64 r) [] := by
 unfold f78 at h
 refine Spec1.body 0 _ _ Tryz.func78 rfl Tryz.ntmps78 rfl rfl ?_
 refine q1rq [] [] [0, 1] [] ⟨20, [(0, q1aSSI x1), (1, .str x2)], [], [], 0⟩ trivial ?_
 obtain ⟨K1, hK1, h⟩ := jn_some h
 refine AWp.join (α := Unit) (fun (x : Unit) => match x with | () => ⟨20, [], [], [], 0⟩) (fun x => K1 x = some r) ?_ ?_
 ·
  refine q1rq [] [] [0, 1, 5] [] ⟨20, [(0, q1aSSI x1), (1, .str x2), (5, .int .i64 (0 : Int))], [], [], 0⟩ trivial ?_
  refine AWp.block ?_
  refine AWp.loopL (α := Nat × Nat) (fun x => match x with | (_, n3) => ⟨20, [(0, q1aSSI x1), (1, .str x2), (5, .int .i64 (n3 : Int))], [], [], 0⟩) (fun x => f78_L0 x1 x2 K1 x.1 x.2 = some r) (fun x => x.1) (FUEL, 0) (Le.mk (s' := ⟨20, [(0, q1aSSI x1), (1, .str x2), (5, .int .i64 (0 : Int))], [], [], 0⟩) rfl rfl ⟨.refl _, .refl _, .refl _, trivial⟩ trivial) h ?_
  rintro ⟨k0, n3⟩ h
  cases k0 with
  | zero => exact nomatch (show (none : Option Int) = some r from h)
  | succ k0 =>
  obtain ⟨C0, hC0⟩ : ∃ C, C = f78_L0 x1 x2 K1 k0 := ⟨_, rfl⟩
  replace h := (f78_L0.eq_2 ..).symm.trans h
  try rw [← hC0] at h
  refine AWp.seq ?_
  refine q1rq [] [] [0, 1, 5, 9] [] ⟨20, [(0, q1aSSI x1), (1, .str x2), (5, .int .i64 (n3 : Int)), (9, .bool (decide ((n3 : Int) < (((x1).length : Nat) : Int))))], [], [], 0⟩ trivial ?_
  refine AWp.cond (b := (decide ((n3 : Int) < (((x1).length : Nat) : Int)))) (by kernel_rfl) (fun hc1 => ?_) (fun hc1 => ?_)
  ·
   replace h := ite_tb hc1 h
   refine AWp.skip ?_
   refine tN ?_
   refine AWp.seq ?_
   refine AWp.block ?_
   refine AWp.seq ?_
   obtain ⟨ob0p, h⟩ := chk_some h
   have ob0 : 0 ≤ (n3 : Int) ∧ (n3 : Int) < (((x1).length : Nat) : Int) := ⟨by omega, ob0p⟩
   refine q1rr [] [] [0, 1, 5, 18] [] ⟨20, [(0, q1aSSI x1), (1, .str x2), (5, .int .i64 (n3 : Int)), (18, .bool (((x1.getD n3 q1dSSI).1) == x2))], [], [], 0⟩ (an1 ob0) ?_
   refine tN ?_
   refine AWp.cond (b := (((x1.getD n3 q1dSSI).1) == x2)) (by kernel_rfl) (fun hc2 => ?_) (fun hc2 => ?_)
   ·
    replace h := ite_tb hc2 h
    refine q1rq [] [] [4] [] ⟨20, [(4, .int .i64 (n3 : Int))], [], [], 0⟩ trivial ?_
    have hret := Option.some.inj h
    subst hret
    refine AWp.le (Le.mk (s' := ⟨20, [(4, .int .i64 (n3 : Int))], [], [], 0⟩) rfl rfl ⟨.refl _, trivial⟩ trivial) ?_
    refine AWp.ret ?_
    refine kR ?_
    refine tR ?_
    refine tR ?_
    refine kR ?_
    refine joinQ_ret ?_
    exact bR _ rfl ⟨rfl, rfl⟩ rfl
   ·
    replace h := ite_fb hc2 h
    refine AWp.skip ?_
    refine kN ?_
    refine tN ?_
    obtain ⟨ob1p, h⟩ := chk_some h
    have ob1 : -9223372036854775808 ≤ ((n3 : Int) + (1 : Int)) ∧ ((n3 : Int) + (1 : Int)) ≤ 9223372036854775807 := ⟨by omega, ob1p⟩
    refine q1rr [] [] [0, 1, 5] [] ⟨20, [(0, q1aSSI x1), (1, .str x2), (5, .int .i64 (((n3 + 1) : Nat) : Int))], [], [], 0⟩ (an1 ob1) ?_
    rw [hC0] at h
    exact lN (_, (n3 + 1)) (Le.mk rfl rfl ⟨.refl _, .refl _, .refl _, trivial⟩ trivial) h (Nat.lt_succ_self _)
  ·
   replace h := ite_fb hc1 h
   refine AWp.exit ?_
   refine tE ?_
   refine tE ?_
   refine kS ?_
   exact jN () (Le.mk rfl rfl trivial trivial) h
 ·
  rintro ⟨⟩ h
  replace h := (congrFun hK1 _).symm.trans h
  refine q1rq [] [] [4] [] ⟨20, [(4, .int .i64 (-1 : Int))], [], [], 0⟩ trivial ?_
  have hret := Option.some.inj h
  subst hret
  refine AWp.le (Le.mk (s' := ⟨20, [(4, .int .i64 (-1 : Int))], [], [], 0⟩) rfl rfl ⟨.refl _, trivial⟩ trivial) ?_
  refine AWp.ret ?_
  exact bR _ rfl ⟨rfl, rfl⟩ rfl
def f79 : Nat → Int → Option (List UInt8)
 | 0, _ => none
 | k + 1, x1 =>
  if (decide (x1 < (10 : Int))) then (
  chk (-9223372036854775808 ≤ ((48 : Int) + x1) ∧ ((48 : Int) + x1) ≤ 9223372036854775807) <|
  chk (0 ≤ ((48 : Int) + x1) ∧ ((48 : Int) + x1) ≤ 255) <|
  some [UInt8.ofNat ((((48 : Int) + x1)).toNat)]
  ) else (
  ((f79 k) (x1 / (10 : Int))).bind fun (r2 : List UInt8) =>
  chk (0 ≤ x1 ∧ 1 ≤ (10 : Int) ∧ -9223372036854775808 ≤ (x1 / (10 : Int)) ∧ (x1 / (10 : Int)) ≤ 9223372036854775807) <|
  chk (0 ≤ x1 ∧ 1 ≤ (10 : Int)) <|
  chk (-9223372036854775808 ≤ ((48 : Int) + (x1 % (10 : Int))) ∧ ((48 : Int) + (x1 % (10 : Int))) ≤ 9223372036854775807) <|
  chk (0 ≤ ((48 : Int) + (x1 % (10 : Int))) ∧ ((48 : Int) + (x1 % (10 : Int))) ≤ 255) <|
  chk (r2.length + [UInt8.ofNat ((((48 : Int) + (x1 % (10 : Int)))).toNat)].length ≤ 9223372036854775807) <|
  some (r2 ++ [UInt8.ofNat ((((48 : Int) + (x1 % (10 : Int)))).toNat)])
  )
theorem f79_ok : ∀ (k : Nat) (x1 : Int) (r : List UInt8), f79 k x1 = some r → Spec1 Tryz.prog 79 [] [] [] [.int .i64 x1] (.str r) [] := by
 intro k
 induction k with
 | zero => intro x1 r h; exact nomatch (show (none : Option (List UInt8)) = some r from h)
 | succ k ih =>
 intro x1 r h
 obtain ⟨Frec, hFrec⟩ : ∃ C, C = f79 k := ⟨_, rfl⟩
 rw [f79.eq_2] at h
 rw [← hFrec] at h ih
 refine Spec1.body 0 _ _ Tryz.func79 rfl Tryz.ntmps79 rfl rfl ?_
 refine q1rq [] [] [0] [] ⟨20, [(0, .int .i64 x1)], [], [], 0⟩ trivial ?_
 refine AWp.seq ?_
 refine q1rq [] [] [0, 4] [] ⟨20, [(0, .int .i64 x1), (4, .bool (decide (x1 < (10 : Int))))], [], [], 0⟩ trivial ?_
 refine AWp.cond (b := (decide (x1 < (10 : Int)))) (by kernel_rfl) (fun hc1 => ?_) (fun hc1 => ?_)
 ·
  replace h := ite_tb hc1 h
  refine AWp.seq ?_
  obtain ⟨ob0, h⟩ := chk_some h
  obtain ⟨ob1, h⟩ := chk_some h
  have ob2 : ∀ i, i < 1 → isByte ((lstF 1 [.int .u8 ((48 : Int) + x1)]) i 0) := fun i hi => match i, hi with | 0, _ => trivial
  refine q1rr [] [] [2] [] ⟨20, [(2, .str [UInt8.ofNat ((((48 : Int) + x1)).toNat)])], [], [], 0⟩ (an3 ob0 ob1 ob2) ?_
  refine tN ?_
  have hret := Option.some.inj h
  subst hret
  refine AWp.le (Le.mk (s' := ⟨20, [(2, .str [UInt8.ofNat ((((48 : Int) + x1)).toNat)])], [], [], 0⟩) rfl rfl ⟨.refl _, trivial⟩ trivial) ?_
  refine AWp.ret ?_
  refine tR ?_
  exact bR _ rfl ⟨rfl, rfl⟩ rfl
 ·
  replace h := ite_fb hc1 h
  refine AWp.skip ?_
  refine tN ?_
  refine AWp.seq ?_
  obtain ⟨r2, hr2, h⟩ := bind_ok h
  obtain ⟨ob3, h⟩ := chk_some h
  obtain ⟨ob4, h⟩ := chk_some h
  obtain ⟨ob5, h⟩ := chk_some h
  obtain ⟨ob6, h⟩ := chk_some h
  have ob7 : ∀ i, i < 1 → isByte ((lstF 1 [.int .u8 ((48 : Int) + (x1 % (10 : Int)))]) i 0) := fun i hi => match i, hi with | 0, _ => trivial
  obtain ⟨ob8, h⟩ := chk_some h
  refine q1rr [] [(2, ⟨[.int .i64 (x1 / (10 : Int))], [], [], [], .str r2, [], [], []⟩)] [2] [] ⟨20, [(2, .str (r2 ++ [UInt8.ofNat ((((48 : Int) + (x1 % (10 : Int)))).toNat)]))], [], [], 0⟩ (ac6 ob3 (cpT (ih _ _ hr2)) ob4 ob5 ob6 ob7 (an1 ob8)) ?_
  refine tN ?_
  have hret := Option.some.inj h
  subst hret
  refine AWp.le (Le.mk (s' := ⟨20, [(2, .str (r2 ++ [UInt8.ofNat ((((48 : Int) + (x1 % (10 : Int)))).toNat)]))], [], [], 0⟩) rfl rfl ⟨.refl _, trivial⟩ trivial) ?_
  refine AWp.ret ?_
  exact bR _ rfl ⟨rfl, rfl⟩ rfl
def f80_L0 (x1 : List Tq0) (x2 : List UInt8) (x3 : List UInt8) (K1 : (Bool × (List Tq0)) → Option (List Tq0)) : Nat → (Bool × Nat × (List Tq0)) → Option (List Tq0)
 | 0, _ => none
 | k + 1, (b4, n5, l6) =>
  if (decide ((n5 : Int) < (((x1).length : Nat) : Int))) then (
  jn (fun ((b7, l8) : Bool × (List Tq0)) =>
  chk (((n5 : Int) + (1 : Int)) ≤ 9223372036854775807) <|
  (f80_L0 x1 x2 x3 K1 k) (b7, (n5 + 1), l8)
  ) fun (K2 : (Bool × (List Tq0)) → Option (List Tq0)) =>
  chk ((n5 : Int) < (((x1).length : Nat) : Int)) <|
  if (((x1.getD n5 (default : Tq0)).1) == x2) then (
  chk ((n5 : Int) < (((x1).length : Nat) : Int)) <|
  chk (-9223372036854775808 ≤ ((x1.getD n5 (default : Tq0)).2.2 + (1 : Int)) ∧ ((x1.getD n5 (default : Tq0)).2.2 + (1 : Int)) ≤ 9223372036854775807) <|
  chk (((l6).length + 1) * 40 ≤ 140737488355328) <|
  K2 (true, (l6 ++ [(x2, x3, (min ((x1.getD n5 (default : Tq0)).2.2 + (1 : Int)) (1000000000000 : Int)))]))
  ) else (
  jn (fun ((b9, l10) : Bool × (List Tq0)) =>
  chk ((n5 : Int) < (((x1).length : Nat) : Int)) <|
  chk (((l10).length + 1) * 40 ≤ 140737488355328) <|
  K2 (b9, (l10 ++ [((x1.getD n5 (default : Tq0)).1, (x1.getD n5 (default : Tq0)).2.1, (x1.getD n5 (default : Tq0)).2.2)]))
  ) fun (K3 : (Bool × (List Tq0)) → Option (List Tq0)) =>
  chk ((n5 : Int) < (((x1).length : Nat) : Int)) <|
  if ((!((Op.bytesLess ((x1.getD n5 (default : Tq0)).1) x2) || (((x1.getD n5 (default : Tq0)).1) == x2))) && (!b4)) then (
  chk (((l6).length + 1) * 40 ≤ 140737488355328) <|
  K3 (true, (l6 ++ [(x2, x3, (1 : Int))]))
  ) else (
  K3 (b4, l6)
  )
  )
  ) else (
  K1 (b4, l6)
  )
def f80 (x1 : List Tq0) (x2 : List UInt8) (x3 : List UInt8) : Option (List Tq0) :=
 jn (fun ((b11, l12) : Bool × (List Tq0)) =>
 jn (fun (l13 : List Tq0) =>
 some l13
 ) fun (K4 : (List Tq0) → Option (List Tq0)) =>
 if (!b11) then (
 chk (((l12).length + 1) * 40 ≤ 140737488355328) <|
 K4 (l12 ++ [(x2, x3, (1 : Int))])
 ) else (
 K4 l12
 )
 ) fun (K1 : (Bool × (List Tq0)) → Option (List Tq0)) =>
 f80_L0 x1 x2 x3 K1 FUEL (false, 0, [])
theorem f80_ok  (x1 : List Tq0) (x2 : List UInt8) (x3 : List UInt8) (r : List Tq0) (h : f80 x1 x2 x3 = some r)  : Spec1 Tryz.prog 80 [] [] [] [vL 3 eSSI (default : Tq0) x1, .str x2, .str x3] (.own 3000) [(3000, bL 76 3 eSSI (default : Tq0) r)] := by
 unfold f80 at h
 refine Spec1.body 0 _ _ Tryz.func80 rfl Tryz.ntmps80 rfl rfl ?_
 refine q1rq [] [] [0, 1, 2] [] ⟨69, [(0, q1aSSI x1), (1, .str x2), (2, .str x3)], [], [], 0⟩ trivial ?_
 refine q1rq [] [] [0, 1, 2, 7] [] ⟨69, [(0, q1aSSI x1), (1, .str x2), (2, .str x3), (7, .nils)], [], [], 0⟩ trivial ?_
 refine q1rq [] [] [0, 1, 2, 7, 8] [] ⟨69, [(0, q1aSSI x1), (1, .str x2), (2, .str x3), (7, .nils), (8, .bool false)], [], [], 0⟩ trivial ?_
 obtain ⟨K1, hK1, h⟩ := jn_some h
 refine AWp.join (α := Bool × (List Tq0)) (fun (x : Bool × (List Tq0)) => match x with | (b11, l12) => ⟨69, [(1, .str x2), (2, .str x3), (7, .own 5007), (8, .bool b11)], [(5007, q1bSSI_76 l12)], [], 0⟩) (fun x => K1 x = some r) ?_ ?_
 ·
  refine q1rq [] [] [0, 1, 2, 7, 8, 9] [] ⟨69, [(0, q1aSSI x1), (1, .str x2), (2, .str x3), (7, .nils), (8, .bool false), (9, .int .i64 (0 : Int))], [], [], 0⟩ trivial ?_
  refine AWp.block ?_
  refine AWp.loopL (α := Nat × (Bool × Nat × (List Tq0))) (fun x => match x with | (_, b4, n5, l6) => ⟨69, [(0, q1aSSI x1), (1, .str x2), (2, .str x3), (7, .own 5007), (8, .bool b4), (9, .int .i64 (n5 : Int))], [(5007, q1bSSI_76 l6)], [], 0⟩) (fun x => f80_L0 x1 x2 x3 K1 x.1 x.2 = some r) (fun x => x.1) (FUEL, false, 0, []) (Le.trans (Le.trans (Le.nilOwn 7 5007 76 3 (encF eSSI q1dSSI []) rfl rfl (Nat.le_of_ble_eq_true rfl)) (Le.mk (s' := ⟨69, [(0, q1aSSI x1), (1, .str x2), (2, .str x3), (7, .own 5007), (8, .bool false), (9, .int .i64 (0 : Int))], [(5007, q1bSSI_76 [])], [], 0⟩) rfl rfl ⟨.refl _, .refl _, .refl _, .refl _, .refl _, .refl _, trivial⟩ ⟨⟨_, rfl, .refl _⟩, trivial⟩)) (Le.mk (s' := ⟨69, [(0, q1aSSI x1), (1, .str x2), (2, .str x3), (7, .own 5007), (8, .bool false), (9, .int .i64 (0 : Int))], [(5007, q1bSSI_76 [])], [], 0⟩) rfl rfl ⟨.refl _, .refl _, .refl _, .refl _, .refl _, .refl _, trivial⟩ ⟨⟨_, rfl, .refl _⟩, trivial⟩)) h ?_
  rintro ⟨k0, b4, n5, l6⟩ h
  cases k0 with
  | zero => exact nomatch (show (none : Option (List Tq0)) = some r from h)
  | succ k0 =>
  obtain ⟨C0, hC0⟩ : ∃ C, C = f80_L0 x1 x2 x3 K1 k0 := ⟨_, rfl⟩
  replace h := (f80_L0.eq_2 ..).symm.trans h
  try rw [← hC0] at h
  refine AWp.seq ?_
  refine q1rq [] [] [0, 1, 2, 7, 8, 9, 13] [5007] ⟨69, [(0, q1aSSI x1), (1, .str x2), (2, .str x3), (7, .own 5007), (8, .bool b4), (9, .int .i64 (n5 : Int)), (13, .bool (decide ((n5 : Int) < (((x1).length : Nat) : Int))))], [(5007, q1bSSI_76 l6)], [], 0⟩ trivial ?_
  refine AWp.cond (b := (decide ((n5 : Int) < (((x1).length : Nat) : Int)))) (by kernel_rfl) (fun hc1 => ?_) (fun hc1 => ?_)
  ·
   replace h := ite_tb hc1 h
   refine AWp.skip ?_
   refine tN ?_
   obtain ⟨K2, hK2, h⟩ := jn_some h
   refine AWp.join (α := Bool × (List Tq0)) (fun (x : Bool × (List Tq0)) => match x with | (b7, l8) => ⟨69, [(0, q1aSSI x1), (1, .str x2), (2, .str x3), (7, .own 35), (8, .bool b7), (9, .int .i64 (n5 : Int))], [(35, q1bSSI_76 l8)], [], 0⟩) (fun x => K2 x = some r) ?_ ?_
   ·
    refine AWp.block ?_
    refine AWp.seq ?_
    refine AWp.seq ?_
    obtain ⟨ob0p, h⟩ := chk_some h
    have ob0 : 0 ≤ (n5 : Int) ∧ (n5 : Int) < (((x1).length : Nat) : Int) := ⟨by omega, ob0p⟩
    refine q1rr [] [] [0, 1, 2, 7, 8, 9, 22] [5007] ⟨69, [(0, q1aSSI x1), (1, .str x2), (2, .str x3), (7, .own 5007), (8, .bool b4), (9, .int .i64 (n5 : Int)), (22, .bool (((x1.getD n5 q1dSSI).1) == x2))], [(5007, q1bSSI_76 l6)], [], 0⟩ (an1 ob0) ?_
    refine tN ?_
    refine AWp.cond (b := (((x1.getD n5 q1dSSI).1) == x2)) (by kernel_rfl) (fun hc2 => ?_) (fun hc2 => ?_)
    ·
     replace h := ite_tb hc2 h
     refine AWp.seq ?_
     obtain ⟨ob1p, h⟩ := chk_some h
     have ob1 : 0 ≤ (n5 : Int) ∧ (n5 : Int) < (((x1).length : Nat) : Int) := ⟨by omega, ob1p⟩
     obtain ⟨ob2, h⟩ := chk_some h
     obtain ⟨ob3, h⟩ := chk_some h
     refine q1rr [] [] [0, 1, 2, 7, 9] [5007] ⟨69, [(0, q1aSSI x1), (1, .str x2), (2, .str x3), (7, .own 5007), (9, .int .i64 (n5 : Int))], [(5007, .rows 76 3 ((l6).length + 1) (appF (l6).length (encF eSSI q1dSSI l6) (lstF 3 [.str x2, .str x3, .int .i64 (min ((x1.getD n5 q1dSSI).2.2 + (1 : Int)) (1000000000000 : Int))])))], [], 0⟩ (an3 ob1 ob2 ob3) ?_
     refine tN ?_
     refine AWp.le (Le.mk (s' := ⟨69, [(0, q1aSSI x1), (1, .str x2), (2, .str x3), (7, .own 5007), (9, .int .i64 (n5 : Int))], [(5007, q1bSSI_76 (l6 ++ [(x2, x3, (min ((x1.getD n5 q1dSSI).2.2 + (1 : Int)) (1000000000000 : Int)))]))], [], 0⟩) rfl rfl ⟨.refl _, .refl _, .refl _, .refl _, .refl _, trivial⟩ ⟨⟨_, rfl, (BLe.of (RL.app (RL.self _) (RL.lst (enc := eSSI) [(x2, x3, (min ((x1.getD n5 q1dSSI).2.2 + (1 : Int)) (1000000000000 : Int)))] rfl rfl (fun _ => rfl))))⟩, trivial⟩) ?_
     refine q1rq [] [] [0, 1, 2, 7, 8, 9] [5007] ⟨69, [(0, q1aSSI x1), (1, .str x2), (2, .str x3), (7, .own 5007), (8, .bool true), (9, .int .i64 (n5 : Int))], [(5007, q1bSSI_76 (l6 ++ [(x2, x3, (min ((x1.getD n5 q1dSSI).2.2 + (1 : Int)) (1000000000000 : Int)))]))], [], 0⟩ trivial ?_
     refine AWp.exit ?_
     refine tE ?_
     refine kS ?_
     exact jN (true, (l6 ++ [(x2, x3, (min ((x1.getD n5 q1dSSI).2.2 + (1 : Int)) (1000000000000 : Int)))])) (Le.trans (Le.trans (Le.ren (swapN 5007 35) (swapN_inv 5007 35) rfl) (Le.mk (s' := ⟨69, [(0, q1aSSI x1), (1, .str x2), (2, .str x3), (7, .own 35), (8, .bool true), (9, .int .i64 (n5 : Int))], [(35, q1bSSI_76 (l6 ++ [(x2, x3, (min ((x1.getD n5 q1dSSI).2.2 + (1 : Int)) (1000000000000 : Int)))]))], [], 0⟩) rfl rfl ⟨.refl _, .refl _, .refl _, .refl _, .refl _, .refl _, trivial⟩ ⟨⟨_, rfl, .refl _⟩, trivial⟩)) (Le.mk rfl rfl ⟨.refl _, .refl _, .refl _, .refl _, .refl _, .refl _, trivial⟩ ⟨⟨_, rfl, .refl _⟩, trivial⟩)) h
    ·
     replace h := ite_fb hc2 h
     refine AWp.skip ?_
     refine tN ?_
     obtain ⟨K3, hK3, h⟩ := jn_some h
     refine AWp.join (α := Bool × (List Tq0)) (fun (x : Bool × (List Tq0)) => match x with | (b9, l10) => ⟨69, [(0, q1aSSI x1), (1, .str x2), (2, .str x3), (7, .own 52), (8, .bool b9), (9, .int .i64 (n5 : Int))], [(52, q1bSSI_76 l10)], [], 0⟩) (fun x => K3 x = some r) ?_ ?_
     ·
      refine AWp.seq ?_
      obtain ⟨ob4p, h⟩ := chk_some h
      have ob4 : 0 ≤ (n5 : Int) ∧ (n5 : Int) < (((x1).length : Nat) : Int) := ⟨by omega, ob4p⟩
      have ob5 := idA (((!((Op.bytesLess ((x1.getD n5 q1dSSI).1) x2) || (((x1.getD n5 q1dSSI).1) == x2))) == true) = true)
      have ob6 := bqA (!((Op.bytesLess ((x1.getD n5 q1dSSI).1) x2) || (((x1.getD n5 q1dSSI).1) == x2))) true
      refine q1rr [] [] [0, 1, 2, 7, 8, 9, 46] [5007] ⟨69, [(0, q1aSSI x1), (1, .str x2), (2, .str x3), (7, .own 5007), (8, .bool b4), (9, .int .i64 (n5 : Int)), (46, .bool ((!((Op.bytesLess ((x1.getD n5 q1dSSI).1) x2) || (((x1.getD n5 q1dSSI).1) == x2))) && (!b4)))], [(5007, q1bSSI_76 l6)], [], 0⟩ (an3 ob4 (an1 ob5) ob6) ?_
      refine tN ?_
      refine AWp.cond (b := ((!((Op.bytesLess ((x1.getD n5 q1dSSI).1) x2) || (((x1.getD n5 q1dSSI).1) == x2))) && (!b4))) (by kernel_rfl) (fun hc3 => ?_) (fun hc3 => ?_)
      ·
       replace h := ite_tb hc3 h
       refine AWp.seq ?_
       obtain ⟨ob7, h⟩ := chk_some h
       refine q1rr [] [] [0, 1, 2, 7, 9] [5007] ⟨69, [(0, q1aSSI x1), (1, .str x2), (2, .str x3), (7, .own 5007), (9, .int .i64 (n5 : Int))], [(5007, .rows 76 3 ((l6).length + 1) (appF (l6).length (encF eSSI q1dSSI l6) (lstF 3 [.str x2, .str x3, .int .i64 (1 : Int)])))], [], 0⟩ (an1 ob7) ?_
       refine tN ?_
       refine AWp.le (Le.mk (s' := ⟨69, [(0, q1aSSI x1), (1, .str x2), (2, .str x3), (7, .own 5007), (9, .int .i64 (n5 : Int))], [(5007, q1bSSI_76 (l6 ++ [(x2, x3, (1 : Int))]))], [], 0⟩) rfl rfl ⟨.refl _, .refl _, .refl _, .refl _, .refl _, trivial⟩ ⟨⟨_, rfl, (BLe.of (RL.app (RL.self _) (RL.lst (enc := eSSI) [(x2, x3, (1 : Int))] rfl rfl (fun _ => rfl))))⟩, trivial⟩) ?_
       refine q1rr [] [] [0, 1, 2, 7, 8, 9] [5007] ⟨69, [(0, q1aSSI x1), (1, .str x2), (2, .str x3), (7, .own 5007), (8, .bool true), (9, .int .i64 (n5 : Int))], [(5007, q1bSSI_76 (l6 ++ [(x2, x3, (1 : Int))]))], [], 0⟩ trivial ?_
       exact jN (true, (l6 ++ [(x2, x3, (1 : Int))])) (Le.trans (Le.trans (Le.ren (swapN 5007 52) (swapN_inv 5007 52) rfl) (Le.mk (s' := ⟨69, [(0, q1aSSI x1), (1, .str x2), (2, .str x3), (7, .own 52), (8, .bool true), (9, .int .i64 (n5 : Int))], [(52, q1bSSI_76 (l6 ++ [(x2, x3, (1 : Int))]))], [], 0⟩) rfl rfl ⟨.refl _, .refl _, .refl _, .refl _, .refl _, .refl _, trivial⟩ ⟨⟨_, rfl, .refl _⟩, trivial⟩)) (Le.mk rfl rfl ⟨.refl _, .refl _, .refl _, .refl _, .refl _, .refl _, trivial⟩ ⟨⟨_, rfl, .refl _⟩, trivial⟩)) h
      ·
       replace h := ite_fb hc3 h
       refine AWp.skip ?_
       exact jN (b4, l6) (Le.trans (Le.trans (Le.ren (swapN 5007 52) (swapN_inv 5007 52) rfl) (Le.mk (s' := ⟨69, [(0, q1aSSI x1), (1, .str x2), (2, .str x3), (7, .own 52), (8, .bool b4), (9, .int .i64 (n5 : Int)), (46, .bool ((!((Op.bytesLess ((x1.getD n5 q1dSSI).1) x2) || (((x1.getD n5 q1dSSI).1) == x2))) && (!b4)))], [(52, q1bSSI_76 l6)], [], 0⟩) rfl rfl ⟨.refl _, .refl _, .refl _, .refl _, .refl _, .refl _, .refl _, trivial⟩ ⟨⟨_, rfl, .refl _⟩, trivial⟩)) (Le.mk rfl rfl ⟨.refl _, .refl _, .refl _, .refl _, .refl _, .refl _, trivial⟩ ⟨⟨_, rfl, .refl _⟩, trivial⟩)) h
     ·
      rintro ⟨b9, l10⟩ h
      replace h := (congrFun hK3 _).symm.trans h
      obtain ⟨ob8p, h⟩ := chk_some h
      have ob8 : 0 ≤ (n5 : Int) ∧ (n5 : Int) < (((x1).length : Nat) : Int) := ⟨by omega, ob8p⟩
      obtain ⟨ob9, h⟩ := chk_some h
      refine q1rr [] [] [0, 1, 2, 7, 8, 9] [52] ⟨69, [(0, q1aSSI x1), (1, .str x2), (2, .str x3), (7, .own 52), (8, .bool b9), (9, .int .i64 (n5 : Int))], [(52, .rows 76 3 ((l10).length + 1) (appF (l10).length (encF eSSI q1dSSI l10) (lstF 3 [.str (x1.getD n5 q1dSSI).1, .str (x1.getD n5 q1dSSI).2.1, .int .i64 (x1.getD n5 q1dSSI).2.2])))], [], 0⟩ (an2 ob8 ob9) ?_
      refine kN ?_
      exact jN (b9, (l10 ++ [((x1.getD n5 q1dSSI).1, (x1.getD n5 q1dSSI).2.1, (x1.getD n5 q1dSSI).2.2)])) (Le.trans (Le.mk (s' := ⟨69, [(0, q1aSSI x1), (1, .str x2), (2, .str x3), (7, .own 52), (8, .bool b9), (9, .int .i64 (n5 : Int))], [(52, q1bSSI_76 (l10 ++ [((x1.getD n5 q1dSSI).1, (x1.getD n5 q1dSSI).2.1, (x1.getD n5 q1dSSI).2.2)]))], [], 0⟩) rfl rfl ⟨.refl _, .refl _, .refl _, .refl _, .refl _, .refl _, trivial⟩ ⟨⟨_, rfl, (BLe.of (RL.app (RL.self _) (RL.lst (enc := eSSI) [((x1.getD n5 q1dSSI).1, (x1.getD n5 q1dSSI).2.1, (x1.getD n5 q1dSSI).2.2)] rfl rfl (fun _ => rfl))))⟩, trivial⟩) (Le.trans (Le.trans (Le.ren (swapN 52 35) (swapN_inv 52 35) rfl) (Le.mk (s' := ⟨69, [(0, q1aSSI x1), (1, .str x2), (2, .str x3), (7, .own 35), (8, .bool b9), (9, .int .i64 (n5 : Int))], [(35, q1bSSI_76 (l10 ++ [((x1.getD n5 q1dSSI).1, (x1.getD n5 q1dSSI).2.1, (x1.getD n5 q1dSSI).2.2)]))], [], 0⟩) rfl rfl ⟨.refl _, .refl _, .refl _, .refl _, .refl _, .refl _, trivial⟩ ⟨⟨_, rfl, .refl _⟩, trivial⟩)) (Le.mk rfl rfl ⟨.refl _, .refl _, .refl _, .refl _, .refl _, .refl _, trivial⟩ ⟨⟨_, rfl, .refl _⟩, trivial⟩))) h
   ·
    rintro ⟨b7, l8⟩ h
    replace h := (congrFun hK2 _).symm.trans h
    obtain ⟨ob10p, h⟩ := chk_some h
    have ob10 : -9223372036854775808 ≤ ((n5 : Int) + (1 : Int)) ∧ ((n5 : Int) + (1 : Int)) ≤ 9223372036854775807 := ⟨by omega, ob10p⟩
    refine q1rr [] [] [0, 1, 2, 7, 8, 9] [35] ⟨69, [(0, q1aSSI x1), (1, .str x2), (2, .str x3), (7, .own 35), (8, .bool b7), (9, .int .i64 (((n5 + 1) : Nat) : Int))], [(35, q1bSSI_76 l8)], [], 0⟩ (an1 ob10) ?_
    rw [hC0] at h
    exact lN (_, b7, (n5 + 1), l8) (Le.trans (Le.trans (Le.ren (swapN 35 5007) (swapN_inv 35 5007) rfl) (Le.mk (s' := ⟨69, [(0, q1aSSI x1), (1, .str x2), (2, .str x3), (7, .own 5007), (8, .bool b7), (9, .int .i64 (((n5 + 1) : Nat) : Int))], [(5007, q1bSSI_76 l8)], [], 0⟩) rfl rfl ⟨.refl _, .refl _, .refl _, .refl _, .refl _, .refl _, trivial⟩ ⟨⟨_, rfl, .refl _⟩, trivial⟩)) (Le.mk rfl rfl ⟨.refl _, .refl _, .refl _, .refl _, .refl _, .refl _, trivial⟩ ⟨⟨_, rfl, .refl _⟩, trivial⟩)) h (Nat.lt_succ_self _)
  ·
   replace h := ite_fb hc1 h
   refine AWp.exit ?_
   refine tE ?_
   refine tE ?_
   refine kS ?_
   exact jN (b4, l6) (Le.mk rfl rfl ⟨.refl _, .refl _, .refl _, .refl _, trivial⟩ ⟨⟨_, rfl, .refl _⟩, trivial⟩) h
 ·
  rintro ⟨b11, l12⟩ h
  replace h := (congrFun hK1 _).symm.trans h
  obtain ⟨K4, hK4, h⟩ := jn_some h
  refine AWp.join (α := List Tq0) (fun (l13 : List Tq0) => ⟨69, [(7, .own 5007)], [(5007, q1bSSI_76 l13)], [], 0⟩) (fun x => K4 x = some r) ?_ ?_
  ·
   refine q1rq [] [] [1, 2, 7, 61] [5007] ⟨69, [(1, .str x2), (2, .str x3), (7, .own 5007), (61, .bool (!b11))], [(5007, q1bSSI_76 l12)], [], 0⟩ trivial ?_
   refine AWp.cond (b := (!b11)) (by kernel_rfl) (fun hc4 => ?_) (fun hc4 => ?_)
   ·
    replace h := ite_tb hc4 h
    obtain ⟨ob11, h⟩ := chk_some h
    refine q1rr [] [] [7] [5007] ⟨69, [(7, .own 5007)], [(5007, .rows 76 3 ((l12).length + 1) (appF (l12).length (encF eSSI q1dSSI l12) (lstF 3 [.str x2, .str x3, .int .i64 (1 : Int)])))], [], 0⟩ (an1 ob11) ?_
    exact jN ((l12 ++ [(x2, x3, (1 : Int))])) (Le.trans (Le.mk (s' := ⟨69, [(7, .own 5007)], [(5007, q1bSSI_76 (l12 ++ [(x2, x3, (1 : Int))]))], [], 0⟩) rfl rfl ⟨.refl _, trivial⟩ ⟨⟨_, rfl, (BLe.of (RL.app (RL.self _) (RL.lst (enc := eSSI) [(x2, x3, (1 : Int))] rfl rfl (fun _ => rfl))))⟩, trivial⟩) (Le.mk rfl rfl ⟨.refl _, trivial⟩ ⟨⟨_, rfl, .refl _⟩, trivial⟩)) h
   ·
    replace h := ite_fb hc4 h
    refine AWp.skip ?_
    exact jN (l12) (Le.mk rfl rfl ⟨.refl _, trivial⟩ ⟨⟨_, rfl, .refl _⟩, trivial⟩) h
  ·
   rintro l13 h
   replace h := (congrFun hK4 _).symm.trans h
   refine q1rq [] [] [6] [5007] ⟨69, [(6, .own 5007)], [(5007, q1bSSI_76 l13)], [], 0⟩ trivial ?_
   refine AWp.le (Le.trans (Le.ren (swapN 5007 3000) (swapN_inv 5007 3000) rfl) (Le.mk (s' := ⟨69, [(6, .own 3000)], [(3000, q1bSSI_76 l13)], [], 0⟩) rfl rfl ⟨.refl _, trivial⟩ ⟨⟨_, rfl, .refl _⟩, trivial⟩)) ?_
   have hret := Option.some.inj h
   subst hret
   refine AWp.le (Le.mk (s' := ⟨69, [(6, .own 3000)], [(3000, q1bSSI_76 l13)], [], 0⟩) rfl rfl ⟨.refl _, trivial⟩ ⟨⟨_, rfl, .refl _⟩, trivial⟩) ?_
   refine AWp.ret ?_
   exact bR _ rfl ⟨rfl, rfl⟩ rfl
def f44 (x1 : List Tq0) (x2 : Int) (x3 : List UInt8) (x4 : List UInt8) (x5 : List UInt8) : Option (List UInt8 × (List Tq0)) :=
 chk ((0 + (x1).length) * 40 ≤ 140737488355328) <|
 (f77 x2 x3 x4 x5).bind fun (r6 : List UInt8 × Int) =>
 if (r6.2 != (0 : Int)) then (
 some (cs1, ([] ++ x1))
 ) else (
 (f78 x1 x3).bind fun (r7 : Int) =>
 jn (fun (s10 : List UInt8) =>
 if ((decide (r7 < (0 : Int))) && (decide ((((x1).length : Nat) : Int) ≥ (64 : Int)))) then (
 some (([102, 117, 108, 108] : List UInt8), ([] ++ x1))
 ) else (
 (f80 x1 x3 s10).bind fun (r12 : List Tq0) =>
 (f78 r12 x3).bind fun (r13 : Int) =>
 (f79 FUEL ((r12.getD ((r13).toNat) (default : Tq0)).2.2)).bind fun (r14 : List UInt8) =>
 chk (0 ≤ r13 ∧ r13 < (((r12).length : Nat) : Int)) <|
 chk (((r13).toNat) < (r12).length) <|
 chk (([111, 107, 32] : List UInt8).length + r14.length ≤ 9223372036854775807) <|
 some ((([111, 107, 32] : List UInt8) ++ r14), r12)
 )
 ) fun (K1 : (List UInt8) → Option (List UInt8 × (List Tq0))) =>
 if (x2 == (6 : Int)) then (
 (f79 FUEL (((x1).length : Nat) : Int)).bind fun (r8 : List UInt8) =>
 chk (cs7.length + r8.length ≤ 9223372036854775807) <|
 some ((cs7 ++ r8), ([] ++ x1))
 ) else (
 if (x2 == (2 : Int)) then (
 if (decide (r7 < (0 : Int))) then (
 some (([110, 111, 110, 101] : List UInt8), ([] ++ x1))
 ) else (
 (f79 FUEL ((x1.getD ((r7).toNat) (default : Tq0)).2.2)).bind fun (r9 : List UInt8) =>
 chk (0 ≤ r7 ∧ r7 < (((x1).length : Nat) : Int)) <|
 chk (cs8.length + ((x1.getD ((r7).toNat) (default : Tq0)).2.1).length ≤ 9223372036854775807) <|
 chk ((cs8 ++ ((x1.getD ((r7).toNat) (default : Tq0)).2.1)).length + ([32] : List UInt8).length ≤ 9223372036854775807) <|
 chk (0 ≤ r7 ∧ r7 < (((x1).length : Nat) : Int)) <|
 chk (((cs8 ++ ((x1.getD ((r7).toNat) (default : Tq0)).2.1)) ++ ([32] : List UInt8)).length + r9.length ≤ 9223372036854775807) <|
 some ((((cs8 ++ ((x1.getD ((r7).toNat) (default : Tq0)).2.1)) ++ ([32] : List UInt8)) ++ r9), ([] ++ x1))
 )
 ) else (
 if (x2 == (3 : Int)) then (
 if (decide (r7 < (0 : Int))) then (
 some (([110, 111, 110, 101] : List UInt8), ([] ++ x1))
 ) else (
 chk (0 ≤ r7 ∧ r7 ≤ (((x1).length : Nat) : Int)) <|
 chk ((0 + ((r7).toNat)) * 40 ≤ 140737488355328) <|
 chk (-9223372036854775808 ≤ (r7 + (1 : Int)) ∧ (r7 + (1 : Int)) ≤ 9223372036854775807) <|
 chk (0 ≤ (r7 + (1 : Int)) ∧ (r7 + (1 : Int)) ≤ (((x1).length : Nat) : Int)) <|
 chk (((0 + ((r7).toNat)) + ((x1).length - ((r7 + (1 : Int))).toNat)) * 40 ≤ 140737488355328) <|
 some (([111, 107] : List UInt8), (([] ++ (x1.take ((r7).toNat))) ++ (x1.drop (((r7 + (1 : Int))).toNat))))
 )
 ) else (
 if (x2 == (5 : Int)) then (
 if (decide (r7 < (0 : Int))) then (
 some (([110, 111, 110, 101] : List UInt8), ([] ++ x1))
 ) else (
 chk (0 ≤ r7 ∧ r7 < (((x1).length : Nat) : Int)) <|
 if (!(((x1.getD ((r7).toNat) (default : Tq0)).2.1) == x4)) then (
 chk (0 ≤ r7 ∧ r7 < (((x1).length : Nat) : Int)) <|
 chk (([110, 111, 32] : List UInt8).length + ((x1.getD ((r7).toNat) (default : Tq0)).2.1).length ≤ 9223372036854775807) <|
 some ((([110, 111, 32] : List UInt8) ++ ((x1.getD ((r7).toNat) (default : Tq0)).2.1)), ([] ++ x1))
 ) else (
 K1 x5
 )
 )
 ) else (
 if (x2 == (4 : Int)) then (
 jn (fun (s11 : List UInt8) =>
 if (decide (((s11.length : Nat) : Int) > (256 : Int))) then (
 some (([108, 111, 110, 103] : List UInt8), ([] ++ x1))
 ) else (
 K1 s11
 )
 ) fun (K2 : (List UInt8) → Option (List UInt8 × (List Tq0))) =>
 if (decide (r7 ≥ (0 : Int))) then (
 chk (0 ≤ r7 ∧ r7 < (((x1).length : Nat) : Int)) <|
 chk (((x1.getD ((r7).toNat) (default : Tq0)).2.1).length + x5.length ≤ 9223372036854775807) <|
 K2 (((x1.getD ((r7).toNat) (default : Tq0)).2.1) ++ x5)
 ) else (
 K2 x5
 )
 ) else (
 K1 x5
 )
 )
 )
 )
 )
 )
theorem f44_ok  (x1 : List Tq0) (x2 : Int) (x3 : List UInt8) (x4 : List UInt8) (x5 : List UInt8) (r : List UInt8 × (List Tq0)) (h : f44 x1 x2 x3 x4 x5 = some r)  : Spec1 Tryz.prog 44 [] [] [] [vL 3 eSSI (default : Tq0) x1, .agg [.int .i64 x2, .str x3, .str x4, .str x5]] (.tup [.own 3000, .str r.1]) [(3000, bL 76 3 eSSI (default : Tq0) r.2)] := by
 unfold f44 at h
 refine Spec1.body 0 _ _ Tryz.func44 rfl Tryz.ntmps44 rfl rfl ?_
 refine q1rq [] [] [0, 3] [3] ⟨133, [(0, q1aSSI x1), (3, .ptr 3 0)], [(3, .cells 67 [.int .i64 x2, .str x3, .str x4, .str x5])], [], 0⟩ trivial ?_
 refine AWp.seq ?_
 obtain ⟨ob0, h⟩ := chk_some h
 refine q1rr [] [] [0, 3, 6] [3, 12] ⟨133, [(0, q1aSSI x1), (3, .ptr 3 0), (6, .own 12)], [(3, .cells 67 [.int .i64 x2, .str x3, .str x4, .str x5]), (12, .rows 76 3 (0 + (x1).length) (appF 0 (lstF 3 []) (encF eSSI q1dSSI x1)))], [], 0⟩ (an1 ob0) ?_
 refine tN ?_
 refine AWp.le (Le.mk (s' := ⟨133, [(0, q1aSSI x1), (3, .ptr 3 0), (6, .own 12)], [(3, .cells 67 [.int .i64 x2, .str x3, .str x4, .str x5]), (12, q1bSSI_76 ([] ++ x1))], [], 0⟩) rfl rfl ⟨.refl _, .refl _, .refl _, trivial⟩ ⟨⟨_, rfl, .refl _⟩, ⟨_, rfl, (BLe.of (RL.app (RL.lst (enc := eSSI) [] rfl rfl (fun _ => rfl)) (RL.self _)))⟩, trivial⟩) ?_
 refine AWp.seq ?_
 refine AWp.seq ?_
 obtain ⟨r6, hr6, h⟩ := bind_ok h
 refine q1rr [] [(1, ⟨[.agg [.int .i64 x2, .str x3, .str x4, .str x5]], [], [], [], .tup [.str r6.1, .int .i64 r6.2], [], [], []⟩)] [0, 3, 6, 8] [3, 12] ⟨133, [(0, q1aSSI x1), (3, .ptr 3 0), (6, .own 12), (8, .int .i64 r6.2)], [(3, .cells 67 [.int .i64 x2, .str x3, .str x4, .str x5]), (12, q1bSSI_76 ([] ++ x1))], [], 0⟩ (an1 (cpT (f77_ok _ _ _ _ _ hr6))) ?_
 refine tN ?_
 refine q1rq [] [] [0, 3, 6, 21] [3, 12] ⟨133, [(0, q1aSSI x1), (3, .ptr 3 0), (6, .own 12), (21, .bool (r6.2 != (0 : Int)))], [(3, .cells 67 [.int .i64 x2, .str x3, .str x4, .str x5]), (12, q1bSSI_76 ([] ++ x1))], [], 0⟩ trivial ?_
 refine AWp.cond (b := (r6.2 != (0 : Int))) (by kernel_rfl) (fun hc1 => ?_) (fun hc1 => ?_)
 ·
  replace h := ite_tb hc1 h
  refine q1rq [] [] [4, 5] [12] ⟨133, [(4, .own 12), (5, .str cs1)], [(12, q1bSSI_76 ([] ++ x1))], [], 0⟩ trivial ?_
  refine AWp.le (Le.trans (Le.ren (swapN 12 3000) (swapN_inv 12 3000) rfl) (Le.mk (s' := ⟨133, [(4, .own 3000), (5, .str cs1)], [(3000, q1bSSI_76 ([] ++ x1))], [], 0⟩) rfl rfl ⟨.refl _, .refl _, trivial⟩ ⟨⟨_, rfl, .refl _⟩, trivial⟩)) ?_
  have hret := Option.some.inj h
  subst hret
  refine AWp.le (Le.mk (s' := ⟨133, [(4, .own 3000), (5, .str cs1)], [(3000, q1bSSI_76 ([] ++ x1))], [], 0⟩) rfl rfl ⟨.refl _, .refl _, trivial⟩ ⟨⟨_, rfl, .refl _⟩, trivial⟩) ?_
  refine AWp.ret ?_
  refine tR ?_
  exact bR _ rfl ⟨rfl, rfl⟩ rfl
 ·
  replace h := ite_fb hc1 h
  refine AWp.skip ?_
  refine tN ?_
  refine AWp.seq ?_
  obtain ⟨r7, hr7, h⟩ := bind_ok h
  refine q1rr [] [(3, ⟨[q1aSSI x1, .str x3], [], [], [], .int .i64 r7, [], [], []⟩)] [0, 3, 6, 9] [3, 12] ⟨133, [(0, q1aSSI x1), (3, .ptr 3 0), (6, .own 12), (9, .int .i64 r7)], [(3, .cells 67 [.int .i64 x2, .str x3, .str x4, .str x5]), (12, q1bSSI_76 ([] ++ x1))], [], 0⟩ (an1 (cpT (f78_ok _ _ _ hr7))) ?_
  refine tN ?_
  refine q1rq [] [] [0, 3, 6, 9, 10] [3, 12] ⟨133, [(0, q1aSSI x1), (3, .ptr 3 0), (6, .own 12), (9, .int .i64 r7), (10, .str x5)], [(3, .cells 67 [.int .i64 x2, .str x3, .str x4, .str x5]), (12, q1bSSI_76 ([] ++ x1))], [], 0⟩ trivial ?_
  obtain ⟨K1, hK1, h⟩ := jn_some h
  refine AWp.join (α := List UInt8) (fun (s10 : List UInt8) => ⟨133, [(0, q1aSSI x1), (3, .ptr 3 0), (6, .own 12), (9, .int .i64 r7), (10, .str s10)], [(3, .cells 67 [.int .i64 x2, .str x3, .str x4, .str x5]), (12, q1bSSI_76 ([] ++ x1))], [], 0⟩) (fun x => K1 x = some r) ?_ ?_
  ·
   refine q1rq [] [] [0, 3, 6, 9, 10, 30] [3, 12] ⟨133, [(0, q1aSSI x1), (3, .ptr 3 0), (6, .own 12), (9, .int .i64 r7), (10, .str x5), (30, .int .i64 x2)], [(3, .cells 67 [.int .i64 x2, .str x3, .str x4, .str x5]), (12, q1bSSI_76 ([] ++ x1))], [], 0⟩ trivial ?_
   refine AWp.block ?_
   refine q1rq [] [] [0, 3, 6, 9, 10, 30, 31] [3, 12] ⟨133, [(0, q1aSSI x1), (3, .ptr 3 0), (6, .own 12), (9, .int .i64 r7), (10, .str x5), (30, .int .i64 x2), (31, .bool (x2 == (6 : Int)))], [(3, .cells 67 [.int .i64 x2, .str x3, .str x4, .str x5]), (12, q1bSSI_76 ([] ++ x1))], [], 0⟩ trivial ?_
   refine AWp.cond (b := (x2 == (6 : Int))) (by kernel_rfl) (fun hc2 => ?_) (fun hc2 => ?_)
   ·
    replace h := ite_tb hc2 h
    refine AWp.seq ?_
    obtain ⟨r8, hr8, h⟩ := bind_ok h
    obtain ⟨ob1, h⟩ := chk_some h
    refine q1rr [] [(3, ⟨[.int .i64 (((x1).length : Nat) : Int)], [], [], [], .str r8, [], [], []⟩)] [4, 5] [12] ⟨133, [(4, .own 12), (5, .str (cs7 ++ r8))], [(12, q1bSSI_76 ([] ++ x1))], [], 0⟩ (an2 (cpT (f79_ok FUEL _ _ hr8)) ob1) ?_
    refine tN ?_
    refine AWp.le (Le.trans (Le.ren (swapN 12 3000) (swapN_inv 12 3000) rfl) (Le.mk (s' := ⟨133, [(4, .own 3000), (5, .str (cs7 ++ r8))], [(3000, q1bSSI_76 ([] ++ x1))], [], 0⟩) rfl rfl ⟨.refl _, .refl _, trivial⟩ ⟨⟨_, rfl, .refl _⟩, trivial⟩)) ?_
    have hret := Option.some.inj h
    subst hret
    refine AWp.le (Le.mk (s' := ⟨133, [(4, .own 3000), (5, .str (cs7 ++ r8))], [(3000, q1bSSI_76 ([] ++ x1))], [], 0⟩) rfl rfl ⟨.refl _, .refl _, trivial⟩ ⟨⟨_, rfl, .refl _⟩, trivial⟩) ?_
    refine AWp.ret ?_
    refine kR ?_
    refine joinQ_ret ?_
    exact bR _ rfl ⟨rfl, rfl⟩ rfl
   ·
    replace h := ite_fb hc2 h
    refine q1rq [] [] [0, 3, 6, 9, 10, 30, 38] [3, 12] ⟨133, [(0, q1aSSI x1), (3, .ptr 3 0), (6, .own 12), (9, .int .i64 r7), (10, .str x5), (30, .int .i64 x2), (38, .bool (x2 == (2 : Int)))], [(3, .cells 67 [.int .i64 x2, .str x3, .str x4, .str x5]), (12, q1bSSI_76 ([] ++ x1))], [], 0⟩ trivial ?_
    refine AWp.cond (b := (x2 == (2 : Int))) (by kernel_rfl) (fun hc3 => ?_) (fun hc3 => ?_)
    ·
     replace h := ite_tb hc3 h
     refine AWp.seq ?_
     refine q1rq [] [] [0, 6, 9, 41] [12] ⟨133, [(0, q1aSSI x1), (6, .own 12), (9, .int .i64 r7), (41, .bool (decide (r7 < (0 : Int))))], [(12, q1bSSI_76 ([] ++ x1))], [], 0⟩ trivial ?_
     refine AWp.cond (b := (decide (r7 < (0 : Int)))) (by kernel_rfl) (fun hc4 => ?_) (fun hc4 => ?_)
     ·
      replace h := ite_tb hc4 h
      refine q1rq [] [] [4, 5] [12] ⟨133, [(4, .own 12), (5, .str ([110, 111, 110, 101] : List UInt8))], [(12, q1bSSI_76 ([] ++ x1))], [], 0⟩ trivial ?_
      refine AWp.le (Le.trans (Le.ren (swapN 12 3000) (swapN_inv 12 3000) rfl) (Le.mk (s' := ⟨133, [(4, .own 3000), (5, .str ([110, 111, 110, 101] : List UInt8))], [(3000, q1bSSI_76 ([] ++ x1))], [], 0⟩) rfl rfl ⟨.refl _, .refl _, trivial⟩ ⟨⟨_, rfl, .refl _⟩, trivial⟩)) ?_
      have hret := Option.some.inj h
      subst hret
      refine AWp.le (Le.mk (s' := ⟨133, [(4, .own 3000), (5, .str ([110, 111, 110, 101] : List UInt8))], [(3000, q1bSSI_76 ([] ++ x1))], [], 0⟩) rfl rfl ⟨.refl _, .refl _, trivial⟩ ⟨⟨_, rfl, .refl _⟩, trivial⟩) ?_
      refine AWp.ret ?_
      refine tR ?_
      refine kR ?_
      refine joinQ_ret ?_
      exact bR _ rfl ⟨rfl, rfl⟩ rfl
     ·
      replace h := ite_fb hc4 h
      refine AWp.skip ?_
      refine tN ?_
      refine AWp.seq ?_
      obtain ⟨r9, hr9, h⟩ := bind_ok h
      obtain ⟨ob2, h⟩ := chk_some h
      obtain ⟨ob3, h⟩ := chk_some h
      obtain ⟨ob4, h⟩ := chk_some h
      obtain ⟨ob5, h⟩ := chk_some h
      obtain ⟨ob6, h⟩ := chk_some h
      refine q1rr [] [(13, ⟨[.int .i64 (x1.getD ((r7).toNat) q1dSSI).2.2], [], [], [], .str r9, [], [], []⟩)] [4, 5] [12] ⟨133, [(4, .own 12), (5, .str (((cs8 ++ ((x1.getD ((r7).toNat) q1dSSI).2.1)) ++ ([32] : List UInt8)) ++ r9))], [(12, q1bSSI_76 ([] ++ x1))], [], 0⟩ (an6 ob2 ob3 ob4 ob5 (cpT (f79_ok FUEL _ _ hr9)) ob6) ?_
      refine tN ?_
      refine AWp.le (Le.trans (Le.ren (swapN 12 3000) (swapN_inv 12 3000) rfl) (Le.mk (s' := ⟨133, [(4, .own 3000), (5, .str (((cs8 ++ ((x1.getD ((r7).toNat) q1dSSI).2.1)) ++ ([32] : List UInt8)) ++ r9))], [(3000, q1bSSI_76 ([] ++ x1))], [], 0⟩) rfl rfl ⟨.refl _, .refl _, trivial⟩ ⟨⟨_, rfl, .refl _⟩, trivial⟩)) ?_
      have hret := Option.some.inj h
      subst hret
      refine AWp.le (Le.mk (s' := ⟨133, [(4, .own 3000), (5, .str (((cs8 ++ ((x1.getD ((r7).toNat) q1dSSI).2.1)) ++ ([32] : List UInt8)) ++ r9))], [(3000, q1bSSI_76 ([] ++ x1))], [], 0⟩) rfl rfl ⟨.refl _, .refl _, trivial⟩ ⟨⟨_, rfl, .refl _⟩, trivial⟩) ?_
      refine AWp.ret ?_
      refine kR ?_
      refine joinQ_ret ?_
      exact bR _ rfl ⟨rfl, rfl⟩ rfl
    ·
     replace h := ite_fb hc3 h
     refine q1rq [] [] [0, 3, 6, 9, 10, 30, 58] [3, 12] ⟨133, [(0, q1aSSI x1), (3, .ptr 3 0), (6, .own 12), (9, .int .i64 r7), (10, .str x5), (30, .int .i64 x2), (58, .bool (x2 == (3 : Int)))], [(3, .cells 67 [.int .i64 x2, .str x3, .str x4, .str x5]), (12, q1bSSI_76 ([] ++ x1))], [], 0⟩ trivial ?_
     refine AWp.cond (b := (x2 == (3 : Int))) (by kernel_rfl) (fun hc5 => ?_) (fun hc5 => ?_)
     ·
      replace h := ite_tb hc5 h
      refine AWp.seq ?_
      refine q1rq [] [] [0, 6, 9, 61] [12] ⟨133, [(0, q1aSSI x1), (6, .own 12), (9, .int .i64 r7), (61, .bool (decide (r7 < (0 : Int))))], [(12, q1bSSI_76 ([] ++ x1))], [], 0⟩ trivial ?_
      refine AWp.cond (b := (decide (r7 < (0 : Int)))) (by kernel_rfl) (fun hc6 => ?_) (fun hc6 => ?_)
      ·
       replace h := ite_tb hc6 h
       refine q1rq [] [] [4, 5] [12] ⟨133, [(4, .own 12), (5, .str ([110, 111, 110, 101] : List UInt8))], [(12, q1bSSI_76 ([] ++ x1))], [], 0⟩ trivial ?_
       refine AWp.le (Le.trans (Le.ren (swapN 12 3000) (swapN_inv 12 3000) rfl) (Le.mk (s' := ⟨133, [(4, .own 3000), (5, .str ([110, 111, 110, 101] : List UInt8))], [(3000, q1bSSI_76 ([] ++ x1))], [], 0⟩) rfl rfl ⟨.refl _, .refl _, trivial⟩ ⟨⟨_, rfl, .refl _⟩, trivial⟩)) ?_
       have hret := Option.some.inj h
       subst hret
       refine AWp.le (Le.mk (s' := ⟨133, [(4, .own 3000), (5, .str ([110, 111, 110, 101] : List UInt8))], [(3000, q1bSSI_76 ([] ++ x1))], [], 0⟩) rfl rfl ⟨.refl _, .refl _, trivial⟩ ⟨⟨_, rfl, .refl _⟩, trivial⟩) ?_
       refine AWp.ret ?_
       refine tR ?_
       refine kR ?_
       refine joinQ_ret ?_
       exact bR _ rfl ⟨rfl, rfl⟩ rfl
      ·
       replace h := ite_fb hc6 h
       refine AWp.skip ?_
       refine tN ?_
       refine AWp.seq ?_
       obtain ⟨ob7, h⟩ := chk_some h
       obtain ⟨ob8, h⟩ := chk_some h
       obtain ⟨ob9, h⟩ := chk_some h
       obtain ⟨ob10, h⟩ := chk_some h
       obtain ⟨ob11, h⟩ := chk_some h
       refine q1rr [] [] [4, 5] [63] ⟨133, [(4, .own 63), (5, .str ([111, 107] : List UInt8))], [(63, .rows 76 3 ((0 + ((r7).toNat)) + ((x1).length - ((r7 + (1 : Int))).toNat)) (appF (0 + ((r7).toNat)) (appF 0 (lstF 3 []) (encF eSSI q1dSSI x1)) (fun i j => (encF eSSI q1dSSI x1) (i + (((r7 + (1 : Int))).toNat)) j)))], [], 0⟩ (an5 ob7 ob8 ob9 ob10 ob11) ?_
       refine tN ?_
       refine AWp.le (Le.mk (s' := ⟨133, [(4, .own 63), (5, .str ([111, 107] : List UInt8))], [(63, q1bSSI_76 (([] ++ (x1.take ((r7).toNat))) ++ (x1.drop (((r7 + (1 : Int))).toNat))))], [], 0⟩) rfl rfl ⟨.refl _, .refl _, trivial⟩ ⟨⟨_, rfl, (BLe.of (RL.app (RL.app (RL.lst (enc := eSSI) [] rfl rfl (fun _ => rfl)) (RL.takeL (by first | omega | (simp only [List.length_append, List.length_cons, List.length_nil, List.length_take, List.length_drop] at *; omega) | (simp; done) | (simp_all; done) | (simp_all; omega) | rfl))) RL.dropL))⟩, trivial⟩) ?_
       refine AWp.le (Le.trans (Le.ren (swapN 63 3000) (swapN_inv 63 3000) rfl) (Le.mk (s' := ⟨133, [(4, .own 3000), (5, .str ([111, 107] : List UInt8))], [(3000, q1bSSI_76 (([] ++ (x1.take ((r7).toNat))) ++ (x1.drop (((r7 + (1 : Int))).toNat))))], [], 0⟩) rfl rfl ⟨.refl _, .refl _, trivial⟩ ⟨⟨_, rfl, .refl _⟩, trivial⟩)) ?_
       have hret := Option.some.inj h
       subst hret
       refine AWp.le (Le.mk (s' := ⟨133, [(4, .own 3000), (5, .str ([111, 107] : List UInt8))], [(3000, q1bSSI_76 (([] ++ (x1.take ((r7).toNat))) ++ (x1.drop (((r7 + (1 : Int))).toNat))))], [], 0⟩) rfl rfl ⟨.refl _, .refl _, trivial⟩ ⟨⟨_, rfl, .refl _⟩, trivial⟩) ?_
       refine AWp.ret ?_
       refine kR ?_
       refine joinQ_ret ?_
       exact bR _ rfl ⟨rfl, rfl⟩ rfl
     ·
      replace h := ite_fb hc5 h
      refine q1rq [] [] [0, 3, 6, 9, 10, 30, 73] [3, 12] ⟨133, [(0, q1aSSI x1), (3, .ptr 3 0), (6, .own 12), (9, .int .i64 r7), (10, .str x5), (30, .int .i64 x2), (73, .bool (x2 == (5 : Int)))], [(3, .cells 67 [.int .i64 x2, .str x3, .str x4, .str x5]), (12, q1bSSI_76 ([] ++ x1))], [], 0⟩ trivial ?_
      refine AWp.cond (b := (x2 == (5 : Int))) (by kernel_rfl) (fun hc7 => ?_) (fun hc7 => ?_)
      ·
       replace h := ite_tb hc7 h
       refine AWp.seq ?_
       refine q1rq [] [] [0, 3, 6, 9, 10, 76] [3, 12] ⟨133, [(0, q1aSSI x1), (3, .ptr 3 0), (6, .own 12), (9, .int .i64 r7), (10, .str x5), (76, .bool (decide (r7 < (0 : Int))))], [(3, .cells 67 [.int .i64 x2, .str x3, .str x4, .str x5]), (12, q1bSSI_76 ([] ++ x1))], [], 0⟩ trivial ?_
       refine AWp.cond (b := (decide (r7 < (0 : Int)))) (by kernel_rfl) (fun hc8 => ?_) (fun hc8 => ?_)
       ·
        replace h := ite_tb hc8 h
        refine q1rq [] [] [4, 5] [12] ⟨133, [(4, .own 12), (5, .str ([110, 111, 110, 101] : List UInt8))], [(12, q1bSSI_76 ([] ++ x1))], [], 0⟩ trivial ?_
        refine AWp.le (Le.trans (Le.ren (swapN 12 3000) (swapN_inv 12 3000) rfl) (Le.mk (s' := ⟨133, [(4, .own 3000), (5, .str ([110, 111, 110, 101] : List UInt8))], [(3000, q1bSSI_76 ([] ++ x1))], [], 0⟩) rfl rfl ⟨.refl _, .refl _, trivial⟩ ⟨⟨_, rfl, .refl _⟩, trivial⟩)) ?_
        have hret := Option.some.inj h
        subst hret
        refine AWp.le (Le.mk (s' := ⟨133, [(4, .own 3000), (5, .str ([110, 111, 110, 101] : List UInt8))], [(3000, q1bSSI_76 ([] ++ x1))], [], 0⟩) rfl rfl ⟨.refl _, .refl _, trivial⟩ ⟨⟨_, rfl, .refl _⟩, trivial⟩) ?_
        refine AWp.ret ?_
        refine tR ?_
        refine kR ?_
        refine joinQ_ret ?_
        exact bR _ rfl ⟨rfl, rfl⟩ rfl
       ·
        replace h := ite_fb hc8 h
        refine AWp.skip ?_
        refine tN ?_
        refine AWp.seq ?_
        obtain ⟨ob12, h⟩ := chk_some h
        refine q1rr [] [] [0, 3, 6, 9, 10, 85] [3, 12] ⟨133, [(0, q1aSSI x1), (3, .ptr 3 0), (6, .own 12), (9, .int .i64 r7), (10, .str x5), (85, .bool (!(((x1.getD ((r7).toNat) q1dSSI).2.1) == x4)))], [(3, .cells 67 [.int .i64 x2, .str x3, .str x4, .str x5]), (12, q1bSSI_76 ([] ++ x1))], [], 0⟩ (an1 ob12) ?_
        refine tN ?_
        refine AWp.cond (b := (!(((x1.getD ((r7).toNat) q1dSSI).2.1) == x4))) (by kernel_rfl) (fun hc9 => ?_) (fun hc9 => ?_)
        ·
         replace h := ite_tb hc9 h
         refine AWp.seq ?_
         obtain ⟨ob13, h⟩ := chk_some h
         obtain ⟨ob14, h⟩ := chk_some h
         refine q1rr [] [] [4, 5] [12] ⟨133, [(4, .own 12), (5, .str (([110, 111, 32] : List UInt8) ++ ((x1.getD ((r7).toNat) q1dSSI).2.1)))], [(12, q1bSSI_76 ([] ++ x1))], [], 0⟩ (an2 ob13 ob14) ?_
         refine tN ?_
         refine AWp.le (Le.trans (Le.ren (swapN 12 3000) (swapN_inv 12 3000) rfl) (Le.mk (s' := ⟨133, [(4, .own 3000), (5, .str (([110, 111, 32] : List UInt8) ++ ((x1.getD ((r7).toNat) q1dSSI).2.1)))], [(3000, q1bSSI_76 ([] ++ x1))], [], 0⟩) rfl rfl ⟨.refl _, .refl _, trivial⟩ ⟨⟨_, rfl, .refl _⟩, trivial⟩)) ?_
         have hret := Option.some.inj h
         subst hret
         refine AWp.le (Le.mk (s' := ⟨133, [(4, .own 3000), (5, .str (([110, 111, 32] : List UInt8) ++ ((x1.getD ((r7).toNat) q1dSSI).2.1)))], [(3000, q1bSSI_76 ([] ++ x1))], [], 0⟩) rfl rfl ⟨.refl _, .refl _, trivial⟩ ⟨⟨_, rfl, .refl _⟩, trivial⟩) ?_
         refine AWp.ret ?_
         refine kR ?_
         refine joinQ_ret ?_
         exact bR _ rfl ⟨rfl, rfl⟩ rfl
        ·
         replace h := ite_fb hc9 h
         refine AWp.skip ?_
         refine kN ?_
         exact jN (x5) (Le.mk rfl rfl ⟨.refl _, .refl _, .refl _, .refl _, .refl _, trivial⟩ ⟨⟨_, rfl, .refl _⟩, ⟨_, rfl, .refl _⟩, trivial⟩) h
      ·
       replace h := ite_fb hc7 h
       refine q1rq [] [] [0, 3, 6, 9, 10, 93] [3, 12] ⟨133, [(0, q1aSSI x1), (3, .ptr 3 0), (6, .own 12), (9, .int .i64 r7), (10, .str x5), (93, .bool (x2 == (4 : Int)))], [(3, .cells 67 [.int .i64 x2, .str x3, .str x4, .str x5]), (12, q1bSSI_76 ([] ++ x1))], [], 0⟩ trivial ?_
       refine AWp.cond (b := (x2 == (4 : Int))) (by kernel_rfl) (fun hc10 => ?_) (fun hc10 => ?_)
       ·
        replace h := ite_tb hc10 h
        obtain ⟨K2, hK2, h⟩ := jn_some h
        refine AWp.join (α := List UInt8) (fun (s11 : List UInt8) => ⟨133, [(0, q1aSSI x1), (3, .ptr 3 0), (6, .own 12), (9, .int .i64 r7), (10, .str s11)], [(3, .cells 67 [.int .i64 x2, .str x3, .str x4, .str x5]), (12, q1bSSI_76 ([] ++ x1))], [], 0⟩) (fun x => K2 x = some r) ?_ ?_
        ·
         refine q1rq [] [] [0, 3, 6, 9, 10, 96] [3, 12] ⟨133, [(0, q1aSSI x1), (3, .ptr 3 0), (6, .own 12), (9, .int .i64 r7), (10, .str x5), (96, .bool (decide (r7 ≥ (0 : Int))))], [(3, .cells 67 [.int .i64 x2, .str x3, .str x4, .str x5]), (12, q1bSSI_76 ([] ++ x1))], [], 0⟩ trivial ?_
         refine AWp.cond (b := (decide (r7 ≥ (0 : Int)))) (by kernel_rfl) (fun hc11 => ?_) (fun hc11 => ?_)
         ·
          replace h := ite_tb hc11 h
          obtain ⟨ob15, h⟩ := chk_some h
          obtain ⟨ob16, h⟩ := chk_some h
          refine q1rr [] [] [0, 3, 6, 9, 10] [3, 12] ⟨133, [(0, q1aSSI x1), (3, .ptr 3 0), (6, .own 12), (9, .int .i64 r7), (10, .str (((x1.getD ((r7).toNat) q1dSSI).2.1) ++ x5))], [(3, .cells 67 [.int .i64 x2, .str x3, .str x4, .str x5]), (12, q1bSSI_76 ([] ++ x1))], [], 0⟩ (an2 ob15 ob16) ?_
          exact jN ((((x1.getD ((r7).toNat) q1dSSI).2.1) ++ x5)) (Le.mk rfl rfl ⟨.refl _, .refl _, .refl _, .refl _, .refl _, trivial⟩ ⟨⟨_, rfl, .refl _⟩, ⟨_, rfl, .refl _⟩, trivial⟩) h
         ·
          replace h := ite_fb hc11 h
          refine AWp.skip ?_
          exact jN (x5) (Le.mk rfl rfl ⟨.refl _, .refl _, .refl _, .refl _, .refl _, trivial⟩ ⟨⟨_, rfl, .refl _⟩, ⟨_, rfl, .refl _⟩, trivial⟩) h
        ·
         rintro s11 h
         replace h := (congrFun hK2 _).symm.trans h
         refine q1rq [] [] [0, 3, 6, 9, 10, 107] [3, 12] ⟨133, [(0, q1aSSI x1), (3, .ptr 3 0), (6, .own 12), (9, .int .i64 r7), (10, .str s11), (107, .bool (decide (((s11.length : Nat) : Int) > (256 : Int))))], [(3, .cells 67 [.int .i64 x2, .str x3, .str x4, .str x5]), (12, q1bSSI_76 ([] ++ x1))], [], 0⟩ trivial ?_
         refine AWp.cond (b := (decide (((s11.length : Nat) : Int) > (256 : Int)))) (by kernel_rfl) (fun hc12 => ?_) (fun hc12 => ?_)
         ·
          replace h := ite_tb hc12 h
          refine q1rq [] [] [4, 5] [12] ⟨133, [(4, .own 12), (5, .str ([108, 111, 110, 103] : List UInt8))], [(12, q1bSSI_76 ([] ++ x1))], [], 0⟩ trivial ?_
          refine AWp.le (Le.trans (Le.ren (swapN 12 3000) (swapN_inv 12 3000) rfl) (Le.mk (s' := ⟨133, [(4, .own 3000), (5, .str ([108, 111, 110, 103] : List UInt8))], [(3000, q1bSSI_76 ([] ++ x1))], [], 0⟩) rfl rfl ⟨.refl _, .refl _, trivial⟩ ⟨⟨_, rfl, .refl _⟩, trivial⟩)) ?_
          have hret := Option.some.inj h
          subst hret
          refine AWp.le (Le.mk (s' := ⟨133, [(4, .own 3000), (5, .str ([108, 111, 110, 103] : List UInt8))], [(3000, q1bSSI_76 ([] ++ x1))], [], 0⟩) rfl rfl ⟨.refl _, .refl _, trivial⟩ ⟨⟨_, rfl, .refl _⟩, trivial⟩) ?_
          refine AWp.ret ?_
          refine kR ?_
          refine joinQ_ret ?_
          exact bR _ rfl ⟨rfl, rfl⟩ rfl
         ·
          replace h := ite_fb hc12 h
          refine AWp.skip ?_
          refine kN ?_
          exact jN (s11) (Le.mk rfl rfl ⟨.refl _, .refl _, .refl _, .refl _, .refl _, trivial⟩ ⟨⟨_, rfl, .refl _⟩, ⟨_, rfl, .refl _⟩, trivial⟩) h
       ·
        replace h := ite_fb hc10 h
        refine AWp.skip ?_
        refine kN ?_
        exact jN (x5) (Le.mk rfl rfl ⟨.refl _, .refl _, .refl _, .refl _, .refl _, trivial⟩ ⟨⟨_, rfl, .refl _⟩, ⟨_, rfl, .refl _⟩, trivial⟩) h
  ·
   rintro s10 h
   replace h := (congrFun hK1 _).symm.trans h
   refine AWp.seq ?_
   refine AWp.seq ?_
   have ob17 := idA (((decide (r7 < (0 : Int))) == true) = true)
   have ob18 := ob17
   have ob19 := bqA (decide (r7 < (0 : Int))) true
   refine q1rr [] [] [0, 3, 6, 10, 115] [3, 12] ⟨133, [(0, q1aSSI x1), (3, .ptr 3 0), (6, .own 12), (10, .str s10), (115, .bool ((decide (r7 < (0 : Int))) && (decide ((((x1).length : Nat) : Int) ≥ (64 : Int)))))], [(3, .cells 67 [.int .i64 x2, .str x3, .str x4, .str x5]), (12, q1bSSI_76 ([] ++ x1))], [], 0⟩ (an3 (an1 ob17) (an1 ob18) ob19) ?_
   refine tN ?_
   refine AWp.cond (b := ((decide (r7 < (0 : Int))) && (decide ((((x1).length : Nat) : Int) ≥ (64 : Int))))) (by kernel_rfl) (fun hc13 => ?_) (fun hc13 => ?_)
   ·
    replace h := ite_tb hc13 h
    refine q1rq [] [] [4, 5] [12] ⟨133, [(4, .own 12), (5, .str ([102, 117, 108, 108] : List UInt8))], [(12, q1bSSI_76 ([] ++ x1))], [], 0⟩ trivial ?_
    refine AWp.le (Le.trans (Le.ren (swapN 12 3000) (swapN_inv 12 3000) rfl) (Le.mk (s' := ⟨133, [(4, .own 3000), (5, .str ([102, 117, 108, 108] : List UInt8))], [(3000, q1bSSI_76 ([] ++ x1))], [], 0⟩) rfl rfl ⟨.refl _, .refl _, trivial⟩ ⟨⟨_, rfl, .refl _⟩, trivial⟩)) ?_
    have hret := Option.some.inj h
    subst hret
    refine AWp.le (Le.mk (s' := ⟨133, [(4, .own 3000), (5, .str ([102, 117, 108, 108] : List UInt8))], [(3000, q1bSSI_76 ([] ++ x1))], [], 0⟩) rfl rfl ⟨.refl _, .refl _, trivial⟩ ⟨⟨_, rfl, .refl _⟩, trivial⟩) ?_
    refine AWp.ret ?_
    refine tR ?_
    exact bR _ rfl ⟨rfl, rfl⟩ rfl
   ·
    replace h := ite_fb hc13 h
    refine AWp.skip ?_
    refine tN ?_
    refine AWp.seq ?_
    obtain ⟨r12, hr12, h⟩ := bind_ok h
    refine q1rr [] [(4, ⟨[q1aSSI x1, .str x3, .str s10], [], [], [(6001, q1bSSI_76 r12)], .own 6001, [6001], [], []⟩)] [3, 11] [3, 6001] ⟨133, [(3, .ptr 3 0), (11, .own 6001)], [(3, .cells 67 [.int .i64 x2, .str x3, .str x4, .str x5]), (6001, q1bSSI_76 r12)], [], 0⟩ (an1 (cpT (Spec1.ren (swapN 3000 6001) (swapN_inv 3000 6001) rfl (f80_ok _ _ _ _ hr12)))) ?_
    refine tN ?_
    refine AWp.seq ?_
    obtain ⟨r13, hr13, h⟩ := bind_ok h
    obtain ⟨r14, hr14, h⟩ := bind_ok h
    obtain ⟨ob20, h⟩ := chk_some h
    obtain ⟨ob21, h⟩ := chk_some h
    obtain ⟨ob22, h⟩ := chk_some h
    refine q1rr [] [(5, ⟨[q1aSSI r12, .str x3], [], [], [], .int .i64 r13, [], [6001], []⟩), (9, ⟨[.int .i64 (r12.getD ((r13).toNat) q1dSSI).2.2], [], [], [], .str r14, [], [], []⟩)] [4, 5] [6001] ⟨133, [(4, .own 6001), (5, .str (([111, 107, 32] : List UInt8) ++ r14))], [(6001, q1bSSI_76 r12)], [], 0⟩ (an5 (cpL (c := true) [(6001, q1bSSI_76 r12)] [6001] [.own 6001, .str x3] (fun _ => (f78_ok _ _ _ hr13)) (fun _ => ⟨.refl _, .refl _, trivial⟩) (.inr ⟨rfl, trivial⟩)) ob20 ob21 (cpT (f79_ok FUEL _ _ hr14)) ob22) ?_
    refine tN ?_
    refine AWp.le (Le.trans (Le.ren (swapN 6001 3000) (swapN_inv 6001 3000) rfl) (Le.mk (s' := ⟨133, [(4, .own 3000), (5, .str (([111, 107, 32] : List UInt8) ++ r14))], [(3000, q1bSSI_76 r12)], [], 0⟩) rfl rfl ⟨.refl _, .refl _, trivial⟩ ⟨⟨_, rfl, .refl _⟩, trivial⟩)) ?_
    have hret := Option.some.inj h
    subst hret
    refine AWp.le (Le.mk (s' := ⟨133, [(4, .own 3000), (5, .str (([111, 107, 32] : List UInt8) ++ r14))], [(3000, q1bSSI_76 r12)], [], 0⟩) rfl rfl ⟨.refl _, .refl _, trivial⟩ ⟨⟨_, rfl, .refl _⟩, trivial⟩) ?_
    refine AWp.ret ?_
    exact bR _ rfl ⟨rfl, rfl⟩ rfl
def f15_L0 (x2 : List Tq1) (x3 : Int) (K2 : (List Tq1) → Option ((List Tq0) × (List Tq1) × List UInt8)) : Nat → (Nat × (List Tq1)) → Option ((List Tq0) × (List Tq1) × List UInt8)
 | 0, _ => none
 | k + 1, (n12, l13) =>
  if (decide ((n12 : Int) < (((x2).length : Nat) : Int))) then (
  jn (fun (l14 : List Tq1) =>
  chk (((n12 : Int) + (1 : Int)) ≤ 9223372036854775807) <|
  (f15_L0 x2 x3 K2 k) ((n12 + 1), l14)
  ) fun (K3 : (List Tq1) → Option ((List Tq0) × (List Tq1) × List UInt8)) =>
  chk ((n12 : Int) < (((x2).length : Nat) : Int)) <|
  if (decide ((x2.getD n12 (default : Tq1)).1 < x3)) then (
  chk ((n12 : Int) < (((x2).length : Nat) : Int)) <|
  chk (((l13).length + 1) * 32 ≤ 140737488355328) <|
  K3 (l13 ++ [((x2.getD n12 (default : Tq1)).1, (x2.getD n12 (default : Tq1)).2.1, (x2.getD n12 (default : Tq1)).2.2)])
  ) else (
  K3 l13
  )
  ) else (
  K2 l13
  )
def f15_L1 (x2 : List Tq1) (x3 : Int) (K4 : (List Tq1) → Option ((List Tq0) × (List Tq1) × List UInt8)) : Nat → (Nat × (List Tq1)) → Option ((List Tq0) × (List Tq1) × List UInt8)
 | 0, _ => none
 | k + 1, (n16, l17) =>
  if (decide ((n16 : Int) < (((x2).length : Nat) : Int))) then (
  jn (fun (l18 : List Tq1) =>
  chk (((n16 : Int) + (1 : Int)) ≤ 9223372036854775807) <|
  (f15_L1 x2 x3 K4 k) ((n16 + 1), l18)
  ) fun (K5 : (List Tq1) → Option ((List Tq0) × (List Tq1) × List UInt8)) =>
  chk ((n16 : Int) < (((x2).length : Nat) : Int)) <|
  if (decide ((x2.getD n16 (default : Tq1)).1 > x3)) then (
  chk ((n16 : Int) < (((x2).length : Nat) : Int)) <|
  chk (((l17).length + 1) * 32 ≤ 140737488355328) <|
  K5 (l17 ++ [((x2.getD n16 (default : Tq1)).1, (x2.getD n16 (default : Tq1)).2.1, (x2.getD n16 (default : Tq1)).2.2)])
  ) else (
  K5 l17
  )
  ) else (
  K4 l17
  )
def f15 (x1 : List Tq0) (x2 : List Tq1) (x3 : Int) (x4 : Int) (x5 : List UInt8) : Option ((List Tq0) × (List Tq1) × List UInt8) :=
 (f41 (1 : Int) (0 : Int) [(x3, x4, x5)]).bind fun (r6 : Int) =>
 if (r6 != (0 : Int)) then (
 some (x1, x2, cs1)
 ) else (
 (f42 x1 x2 x3).bind fun (r7 : Int × Int × List UInt8 × Bool) =>
 if (r7.2.2.2 && (decide (r7.2.1 > x4))) then (
 some (x1, x2, cs2)
 ) else (
 if (r7.2.2.2 && (r7.2.1 == x4)) then (
 some (x1, x2, r7.2.2.1)
 ) else (
 (f43 x5).bind fun (r8 : Tq3) =>
 jn (fun ((s10, l11) : List UInt8 × (List Tq0)) =>
 jn (fun (l15 : List Tq1) =>
 chk (((l15).length + 1) * 32 ≤ 140737488355328) <|
 jn (fun (l19 : List Tq1) =>
 some (l11, l19, s10)
 ) fun (K4 : (List Tq1) → Option ((List Tq0) × (List Tq1) × List UInt8)) =>
 f15_L1 x2 x3 K4 FUEL (0, (l15 ++ [(x3, x4, s10)]))
 ) fun (K2 : (List Tq1) → Option ((List Tq0) × (List Tq1) × List UInt8)) =>
 f15_L0 x2 x3 K2 FUEL (0, [])
 ) fun (K1 : (List UInt8 × (List Tq0)) → Option ((List Tq0) × (List Tq1) × List UInt8)) =>
 if (r8.2.2.2.2 == (0 : Int)) then (
 (f44 x1 r8.1 r8.2.1 r8.2.2.1 r8.2.2.2.1).bind fun (r9 : List UInt8 × (List Tq0)) =>
 K1 (r9.1, r9.2)
 ) else (
 K1 (cs3, x1)
 )
 )
 )
 )
theorem f15_ok  (x1 : List Tq0) (x2 : List Tq1) (x3 : Int) (x4 : Int) (x5 : List UInt8) (r : (List Tq0) × (List Tq1) × List UInt8) (h : f15 x1 x2 x3 x4 x5 = some r)  : Spec1 Tryz.prog 15 [] [] [] [.agg [vL 3 eSSI (default : Tq0) x1, vL 3 eIIS (default : Tq1) x2], .agg [.int .i64 x3, .int .i64 x4, .str x5]] (.tup [.agg [vL 3 eSSI (default : Tq0) r.1, vL 3 eIIS (default : Tq1) r.2.1], .str r.2.2]) [] := by
 unfold f15 at h
 refine Spec1.bodyD [4] 0 _ _ Tryz.func15 rfl Tryz.ntmps15 rfl rfl ?_
 refine q1rq [] [] [2, 3, 4] [2, 3, 4] ⟨131, [(2, .ptr 2 0), (3, .ptr 3 0), (4, .ptr 4 0)], [(2, .cells 30 [q1aSSI x1, q1aIIS x2]), (3, .cells 24 [.int .i64 x3, .int .i64 x4, .str x5]), (4, .cells 30 [.nils, .nils])], [], 0⟩ trivial ?_
 refine AWp.seq ?_
 refine AWp.seq ?_
 obtain ⟨r6, hr6, h⟩ := bind_ok h
 refine q1rr [] [(3, ⟨[.agg [.int .i64 (1 : Int), .int .i64 (0 : Int), q1aIIS [(x3, x4, x5)]]], [], [], [], .int .i64 r6, [], [15], []⟩)] [2, 3, 4, 18] [2, 3, 4] ⟨131, [(2, .ptr 2 0), (3, .ptr 3 0), (4, .ptr 4 0), (18, .bool (r6 != (0 : Int)))], [(2, .cells 30 [q1aSSI x1, q1aIIS x2]), (3, .cells 24 [.int .i64 x3, .int .i64 x4, .str x5]), (4, .cells 30 [.nils, .nils])], [], 0⟩ (an1 (cpL (c := true) [(15, .rows 24 3 1 (lstF 3 [.int .i64 x3, .int .i64 x4, .str x5]))] [15] [.agg [.int .i64 (1 : Int), .int .i64 (0 : Int), .own 15]] (fun _ => (f41_ok _ _ _ _ hr6)) (fun _ => ⟨(.aggs ⟨.refl _, .refl _, (VLe.of (RL.lst (enc := eIIS) [(x3, x4, x5)] rfl rfl (fun _ => rfl))), trivial⟩), trivial⟩) (.inr ⟨rfl, trivial⟩))) ?_
 refine tN ?_
 refine AWp.cond (b := (r6 != (0 : Int))) (by kernel_rfl) (fun hc1 => ?_) (fun hc1 => ?_)
 ·
  replace h := ite_tb hc1 h
  refine q1rq [] [] [4, 5] [4] ⟨131, [(4, .ptr 4 0), (5, .str cs1)], [(4, .cells 30 [q1aSSI x1, q1aIIS x2])], [], 0⟩ (an1 trivial) ?_
  have hret := Option.some.inj h
  subst hret
  refine AWp.le (Le.mk (s' := ⟨131, [(4, .ptr 4 0), (5, .str cs1)], [(4, .cells 30 [q1aSSI x1, q1aIIS x2])], [], 0⟩) rfl rfl ⟨.refl _, .refl _, trivial⟩ ⟨⟨_, rfl, .refl _⟩, trivial⟩) ?_
  refine AWp.ret ?_
  refine tR ?_
  exact bR _ rfl ⟨rfl, rfl⟩ rfl
 ·
  replace h := ite_fb hc1 h
  refine AWp.skip ?_
  refine tN ?_
  refine AWp.seq ?_
  obtain ⟨r7, hr7, h⟩ := bind_ok h
  refine q1rr [] [(3, ⟨[.agg [q1aSSI x1, q1aIIS x2], .int .i64 x3], [], [], [], .tup [.agg [.int .i64 r7.1, .int .i64 r7.2.1, .str r7.2.2.1], .bool r7.2.2.2], [], [], []⟩)] [2, 3, 4, 6, 7] [2, 3, 4, 6] ⟨131, [(2, .ptr 2 0), (3, .ptr 3 0), (4, .ptr 4 0), (6, .ptr 6 0), (7, .bool r7.2.2.2)], [(2, .cells 30 [q1aSSI x1, q1aIIS x2]), (3, .cells 24 [.int .i64 x3, .int .i64 x4, .str x5]), (4, .cells 30 [.nils, .nils]), (6, .cells 45 [.int .i64 r7.1, .int .i64 r7.2.1, .str r7.2.2.1])], [], 0⟩ (an2 (cpT (f42_ok _ _ _ _ hr7)) trivial) ?_
  refine tN ?_
  refine AWp.seq ?_
  refine AWp.seq ?_
  have ob0 := idA ((r7.2.2.2 == true) = true)
  have ob1 := ob0
  have ob2 := ob0
  have ob3 := ob0
  have ob4 := bqA (r7.2.2.2) true
  refine q1rr [] [] [2, 3, 4, 6, 7, 34] [2, 3, 4, 6] ⟨131, [(2, .ptr 2 0), (3, .ptr 3 0), (4, .ptr 4 0), (6, .ptr 6 0), (7, .bool r7.2.2.2), (34, .bool (r7.2.2.2 && (decide (r7.2.1 > x4))))], [(2, .cells 30 [q1aSSI x1, q1aIIS x2]), (3, .cells 24 [.int .i64 x3, .int .i64 x4, .str x5]), (4, .cells 30 [.nils, .nils]), (6, .cells 45 [.int .i64 r7.1, .int .i64 r7.2.1, .str r7.2.2.1])], [], 0⟩ (an4 (an1 ob0) (an1 ob1) (an2 ob2 ob3) ob4) ?_
  refine tN ?_
  refine AWp.cond (b := (r7.2.2.2 && (decide (r7.2.1 > x4)))) (by kernel_rfl) (fun hc2 => ?_) (fun hc2 => ?_)
  ·
   replace h := ite_tb hc2 h
   refine q1rq [] [] [4, 5] [4] ⟨131, [(4, .ptr 4 0), (5, .str cs2)], [(4, .cells 30 [q1aSSI x1, q1aIIS x2])], [], 0⟩ (an1 trivial) ?_
   have hret := Option.some.inj h
   subst hret
   refine AWp.le (Le.mk (s' := ⟨131, [(4, .ptr 4 0), (5, .str cs2)], [(4, .cells 30 [q1aSSI x1, q1aIIS x2])], [], 0⟩) rfl rfl ⟨.refl _, .refl _, trivial⟩ ⟨⟨_, rfl, .refl _⟩, trivial⟩) ?_
   refine AWp.ret ?_
   refine tR ?_
   exact bR _ rfl ⟨rfl, rfl⟩ rfl
  ·
   replace h := ite_fb hc2 h
   refine AWp.skip ?_
   refine tN ?_
   refine AWp.seq ?_
   refine AWp.seq ?_
   have ob5 := idA ((r7.2.2.2 == true) = true)
   have ob6 := ob5
   have ob7 := ob5
   have ob8 := ob5
   have ob9 := bqA (r7.2.2.2) true
   refine q1rr [] [] [2, 3, 4, 6, 43] [2, 3, 4, 6] ⟨131, [(2, .ptr 2 0), (3, .ptr 3 0), (4, .ptr 4 0), (6, .ptr 6 0), (43, .bool (r7.2.2.2 && (r7.2.1 == x4)))], [(2, .cells 30 [q1aSSI x1, q1aIIS x2]), (3, .cells 24 [.int .i64 x3, .int .i64 x4, .str x5]), (4, .cells 30 [.nils, .nils]), (6, .cells 45 [.int .i64 r7.1, .int .i64 r7.2.1, .str r7.2.2.1])], [], 0⟩ (an4 (an1 ob5) (an1 ob6) (an2 ob7 ob8) ob9) ?_
   refine tN ?_
   refine AWp.cond (b := (r7.2.2.2 && (r7.2.1 == x4))) (by kernel_rfl) (fun hc3 => ?_) (fun hc3 => ?_)
   ·
    replace h := ite_tb hc3 h
    refine q1rq [] [] [4, 5] [4] ⟨131, [(4, .ptr 4 0), (5, .str r7.2.2.1)], [(4, .cells 30 [q1aSSI x1, q1aIIS x2])], [], 0⟩ (an1 trivial) ?_
    have hret := Option.some.inj h
    subst hret
    refine AWp.le (Le.mk (s' := ⟨131, [(4, .ptr 4 0), (5, .str r7.2.2.1)], [(4, .cells 30 [q1aSSI x1, q1aIIS x2])], [], 0⟩) rfl rfl ⟨.refl _, .refl _, trivial⟩ ⟨⟨_, rfl, .refl _⟩, trivial⟩) ?_
    refine AWp.ret ?_
    refine tR ?_
    exact bR _ rfl ⟨rfl, rfl⟩ rfl
   ·
    replace h := ite_fb hc3 h
    refine AWp.skip ?_
    refine tN ?_
    refine q1rq [] [] [2, 3, 4, 8] [2, 3, 4, 8] ⟨131, [(2, .ptr 2 0), (3, .ptr 3 0), (4, .ptr 4 0), (8, .ptr 8 0)], [(2, .cells 30 [q1aSSI x1, q1aIIS x2]), (3, .cells 24 [.int .i64 x3, .int .i64 x4, .str x5]), (4, .cells 30 [.nils, .nils]), (8, .cells 30 [q1aSSI x1, .nils])], [], 0⟩ (an1 trivial) ?_
    refine q1rq [] [] [2, 3, 4, 8, 9] [2, 3, 4, 8] ⟨131, [(2, .ptr 2 0), (3, .ptr 3 0), (4, .ptr 4 0), (8, .ptr 8 0), (9, .str cs3)], [(2, .cells 30 [q1aSSI x1, q1aIIS x2]), (3, .cells 24 [.int .i64 x3, .int .i64 x4, .str x5]), (4, .cells 30 [.nils, .nils]), (8, .cells 30 [q1aSSI x1, .nils])], [], 0⟩ trivial ?_
    refine AWp.seq ?_
    obtain ⟨r8, hr8, h⟩ := bind_ok h
    refine q1rr [] [(2, ⟨[.str x5], [], [], [], .tup [.agg [.int .i64 r8.1, .str r8.2.1, .str r8.2.2.1, .str r8.2.2.2.1], .int .i64 r8.2.2.2.2], [], [], []⟩)] [2, 3, 4, 8, 9, 10, 11] [2, 3, 4, 8, 10] ⟨131, [(2, .ptr 2 0), (3, .ptr 3 0), (4, .ptr 4 0), (8, .ptr 8 0), (9, .str cs3), (10, .ptr 10 0), (11, .int .i64 r8.2.2.2.2)], [(2, .cells 30 [q1aSSI x1, q1aIIS x2]), (3, .cells 24 [.int .i64 x3, .int .i64 x4, .str x5]), (4, .cells 30 [.nils, .nils]), (8, .cells 30 [q1aSSI x1, .nils]), (10, .cells 67 [.int .i64 r8.1, .str r8.2.1, .str r8.2.2.1, .str r8.2.2.2.1])], [], 0⟩ (an2 (cpT (f43_ok _ _ hr8)) trivial) ?_
    refine tN ?_
    obtain ⟨K1, hK1, h⟩ := jn_some h
    refine AWp.join (α := List UInt8 × (List Tq0)) (fun (x : List UInt8 × (List Tq0)) => match x with | (s10, l11) => ⟨131, [(2, .ptr 2 0), (3, .ptr 3 0), (4, .ptr 4 0), (8, .ptr 8 0), (9, .str s10)], [(2, .cells 30 [q1aSSI x1, q1aIIS x2]), (3, .cells 24 [.int .i64 x3, .int .i64 x4, .str x5]), (4, .cells 30 [.nils, .nils]), (8, .cells 30 [q1aSSI l11, .nils])], [], 0⟩) (fun x => K1 x = some r) ?_ ?_
    ·
     refine q1rq [] [] [2, 3, 4, 8, 9, 10, 57] [2, 3, 4, 8, 10] ⟨131, [(2, .ptr 2 0), (3, .ptr 3 0), (4, .ptr 4 0), (8, .ptr 8 0), (9, .str cs3), (10, .ptr 10 0), (57, .bool (r8.2.2.2.2 == (0 : Int)))], [(2, .cells 30 [q1aSSI x1, q1aIIS x2]), (3, .cells 24 [.int .i64 x3, .int .i64 x4, .str x5]), (4, .cells 30 [.nils, .nils]), (8, .cells 30 [q1aSSI x1, .nils]), (10, .cells 67 [.int .i64 r8.1, .str r8.2.1, .str r8.2.2.1, .str r8.2.2.2.1])], [], 0⟩ trivial ?_
     refine AWp.cond (b := (r8.2.2.2.2 == (0 : Int))) (by kernel_rfl) (fun hc4 => ?_) (fun hc4 => ?_)
     ·
      replace h := ite_tb hc4 h
      obtain ⟨r9, hr9, h⟩ := bind_ok h
      refine q1rr [] [(3, ⟨[q1aSSI x1, .agg [.int .i64 r8.1, .str r8.2.1, .str r8.2.2.1, .str r8.2.2.2.1]], [], [], [(6001, q1bSSI_76 r9.2)], .tup [.own 6001, .str r9.1], [6001], [], []⟩)] [2, 3, 4, 8, 9] [2, 3, 4, 8, 6001] ⟨131, [(2, .ptr 2 0), (3, .ptr 3 0), (4, .ptr 4 0), (8, .ptr 8 0), (9, .str r9.1)], [(2, .cells 30 [q1aSSI x1, q1aIIS x2]), (3, .cells 24 [.int .i64 x3, .int .i64 x4, .str x5]), (4, .cells 30 [.nils, .nils]), (8, .cells 30 [.own 6001, .nils]), (6001, q1bSSI_76 r9.2)], [], 0⟩ (an2 (cpT (Spec1.ren (swapN 3000 6001) (swapN_inv 3000 6001) rfl (f44_ok _ _ _ _ _ _ hr9))) trivial) ?_
      exact jN (r9.1, r9.2) (Le.trans (Le.trans (Le.freeze 6001 rfl rfl) (Le.mk (s' := ⟨131, [(2, .ptr 2 0), (3, .ptr 3 0), (4, .ptr 4 0), (8, .ptr 8 0), (9, .str r9.1)], [(2, .cells 30 [q1aSSI x1, q1aIIS x2]), (3, .cells 24 [.int .i64 x3, .int .i64 x4, .str x5]), (4, .cells 30 [.nils, .nils]), (8, .cells 30 [q1aSSI r9.2, .nils])], [], 0⟩) rfl rfl ⟨.refl _, .refl _, .refl _, .refl _, .refl _, trivial⟩ ⟨⟨_, rfl, .refl _⟩, ⟨_, rfl, .refl _⟩, ⟨_, rfl, .refl _⟩, ⟨_, rfl, .refl _⟩, trivial⟩)) (Le.mk rfl rfl ⟨.refl _, .refl _, .refl _, .refl _, .refl _, trivial⟩ ⟨⟨_, rfl, .refl _⟩, ⟨_, rfl, .refl _⟩, ⟨_, rfl, .refl _⟩, ⟨_, rfl, .refl _⟩, trivial⟩)) h
     ·
      replace h := ite_fb hc4 h
      refine AWp.skip ?_
      exact jN (cs3, x1) (Le.mk rfl rfl ⟨.refl _, .refl _, .refl _, .refl _, .refl _, trivial⟩ ⟨⟨_, rfl, .refl _⟩, ⟨_, rfl, .refl _⟩, ⟨_, rfl, .refl _⟩, ⟨_, rfl, .refl _⟩, trivial⟩) h
    ·
     rintro ⟨s10, l11⟩ h
     replace h := (congrFun hK1 _).symm.trans h
     obtain ⟨K2, hK2, h⟩ := jn_some h
     refine AWp.join (α := List Tq1) (fun (l15 : List Tq1) => ⟨131, [(2, .ptr 2 0), (3, .ptr 3 0), (4, .ptr 4 0), (8, .ptr 8 0), (9, .str s10)], [(2, .cells 30 [q1aSSI x1, q1aIIS x2]), (3, .cells 24 [.int .i64 x3, .int .i64 x4, .str x5]), (4, .cells 30 [.nils, .nils]), (8, .cells 30 [q1aSSI l11, .own 6301]), (6301, q1bIIS_45 l15)], [], 0⟩) (fun x => K2 x = some r) ?_ ?_
     ·
      refine q1rq [] [] [2, 3, 4, 8, 9, 12] [2, 3, 4, 8] ⟨131, [(2, .ptr 2 0), (3, .ptr 3 0), (4, .ptr 4 0), (8, .ptr 8 0), (9, .str s10), (12, .int .i64 (0 : Int))], [(2, .cells 30 [q1aSSI x1, q1aIIS x2]), (3, .cells 24 [.int .i64 x3, .int .i64 x4, .str x5]), (4, .cells 30 [.nils, .nils]), (8, .cells 30 [q1aSSI l11, .nils])], [], 0⟩ trivial ?_
      refine AWp.block ?_
      refine AWp.loopL (α := Nat × (Nat × (List Tq1))) (fun x => match x with | (_, n12, l13) => ⟨131, [(2, .ptr 2 0), (3, .ptr 3 0), (4, .ptr 4 0), (8, .ptr 8 0), (9, .str s10), (12, .int .i64 (n12 : Int))], [(2, .cells 30 [q1aSSI x1, q1aIIS x2]), (3, .cells 24 [.int .i64 x3, .int .i64 x4, .str x5]), (4, .cells 30 [.nils, .nils]), (8, .cells 30 [q1aSSI l11, .own 6301]), (6301, q1bIIS_45 l13)], [], 0⟩) (fun x => f15_L0 x2 x3 K2 x.1 x.2 = some r) (fun x => x.1) (FUEL, 0, []) (Le.trans (Le.trans (Le.nilOwnC 8 1 6301 45 3 (encF eIIS q1dIIS []) rfl rfl rfl) (Le.mk (s' := ⟨131, [(2, .ptr 2 0), (3, .ptr 3 0), (4, .ptr 4 0), (8, .ptr 8 0), (9, .str s10), (12, .int .i64 (0 : Int))], [(2, .cells 30 [q1aSSI x1, q1aIIS x2]), (3, .cells 24 [.int .i64 x3, .int .i64 x4, .str x5]), (4, .cells 30 [.nils, .nils]), (8, .cells 30 [q1aSSI l11, .own 6301]), (6301, q1bIIS_45 [])], [], 0⟩) rfl rfl ⟨.refl _, .refl _, .refl _, .refl _, .refl _, .refl _, trivial⟩ ⟨⟨_, rfl, .refl _⟩, ⟨_, rfl, .refl _⟩, ⟨_, rfl, .refl _⟩, ⟨_, rfl, .refl _⟩, ⟨_, rfl, .refl _⟩, trivial⟩)) (Le.mk (s' := ⟨131, [(2, .ptr 2 0), (3, .ptr 3 0), (4, .ptr 4 0), (8, .ptr 8 0), (9, .str s10), (12, .int .i64 (0 : Int))], [(2, .cells 30 [q1aSSI x1, q1aIIS x2]), (3, .cells 24 [.int .i64 x3, .int .i64 x4, .str x5]), (4, .cells 30 [.nils, .nils]), (8, .cells 30 [q1aSSI l11, .own 6301]), (6301, q1bIIS_45 [])], [], 0⟩) rfl rfl ⟨.refl _, .refl _, .refl _, .refl _, .refl _, .refl _, trivial⟩ ⟨⟨_, rfl, .refl _⟩, ⟨_, rfl, .refl _⟩, ⟨_, rfl, .refl _⟩, ⟨_, rfl, .refl _⟩, ⟨_, rfl, .refl _⟩, trivial⟩)) h ?_
      rintro ⟨k0, n12, l13⟩ h
      cases k0 with
      | zero => exact nomatch (show (none : Option ((List Tq0) × (List Tq1) × List UInt8)) = some r from h)
      | succ k0 =>
      obtain ⟨C0, hC0⟩ : ∃ C, C = f15_L0 x2 x3 K2 k0 := ⟨_, rfl⟩
      replace h := (f15_L0.eq_2 ..).symm.trans h
      try rw [← hC0] at h
      refine AWp.seq ?_
      refine q1rq [] [] [2, 3, 4, 8, 9, 12, 70] [2, 3, 4, 8, 6301] ⟨131, [(2, .ptr 2 0), (3, .ptr 3 0), (4, .ptr 4 0), (8, .ptr 8 0), (9, .str s10), (12, .int .i64 (n12 : Int)), (70, .bool (decide ((n12 : Int) < (((x2).length : Nat) : Int))))], [(2, .cells 30 [q1aSSI x1, q1aIIS x2]), (3, .cells 24 [.int .i64 x3, .int .i64 x4, .str x5]), (4, .cells 30 [.nils, .nils]), (8, .cells 30 [q1aSSI l11, .own 6301]), (6301, q1bIIS_45 l13)], [], 0⟩ trivial ?_
      refine AWp.cond (b := (decide ((n12 : Int) < (((x2).length : Nat) : Int)))) (by kernel_rfl) (fun hc5 => ?_) (fun hc5 => ?_)
      ·
       replace h := ite_tb hc5 h
       refine AWp.skip ?_
       refine tN ?_
       obtain ⟨K3, hK3, h⟩ := jn_some h
       refine AWp.join (α := List Tq1) (fun (l14 : List Tq1) => ⟨131, [(2, .ptr 2 0), (3, .ptr 3 0), (4, .ptr 4 0), (8, .ptr 8 0), (9, .str s10), (12, .int .i64 (n12 : Int))], [(2, .cells 30 [q1aSSI x1, q1aIIS x2]), (3, .cells 24 [.int .i64 x3, .int .i64 x4, .str x5]), (4, .cells 30 [.nils, .nils]), (8, .cells 30 [q1aSSI l11, .own 90]), (90, q1bIIS_45 l14)], [], 0⟩) (fun x => K3 x = some r) ?_ ?_
       ·
        refine AWp.block ?_
        refine AWp.seq ?_
        obtain ⟨ob10p, h⟩ := chk_some h
        have ob10 : 0 ≤ (n12 : Int) ∧ (n12 : Int) < (((x2).length : Nat) : Int) := ⟨by omega, ob10p⟩
        refine q1rr [] [] [2, 3, 4, 8, 9, 12, 81] [2, 3, 4, 8, 6301] ⟨131, [(2, .ptr 2 0), (3, .ptr 3 0), (4, .ptr 4 0), (8, .ptr 8 0), (9, .str s10), (12, .int .i64 (n12 : Int)), (81, .bool (decide ((x2.getD n12 q1dIIS).1 < x3)))], [(2, .cells 30 [q1aSSI x1, q1aIIS x2]), (3, .cells 24 [.int .i64 x3, .int .i64 x4, .str x5]), (4, .cells 30 [.nils, .nils]), (8, .cells 30 [q1aSSI l11, .own 6301]), (6301, q1bIIS_45 l13)], [], 0⟩ (an1 ob10) ?_
        refine tN ?_
        refine AWp.cond (b := (decide ((x2.getD n12 q1dIIS).1 < x3))) (by kernel_rfl) (fun hc6 => ?_) (fun hc6 => ?_)
        ·
         replace h := ite_tb hc6 h
         obtain ⟨ob11p, h⟩ := chk_some h
         have ob11 : 0 ≤ (n12 : Int) ∧ (n12 : Int) < (((x2).length : Nat) : Int) := ⟨by omega, ob11p⟩
         obtain ⟨ob12, h⟩ := chk_some h
         refine q1rr [] [] [2, 3, 4, 8, 9, 12] [2, 3, 4, 8, 6301] ⟨131, [(2, .ptr 2 0), (3, .ptr 3 0), (4, .ptr 4 0), (8, .ptr 8 0), (9, .str s10), (12, .int .i64 (n12 : Int))], [(2, .cells 30 [q1aSSI x1, q1aIIS x2]), (3, .cells 24 [.int .i64 x3, .int .i64 x4, .str x5]), (4, .cells 30 [.nils, .nils]), (8, .cells 30 [q1aSSI l11, .own 6301]), (6301, .rows 45 3 ((l13).length + 1) (appF (l13).length (encF eIIS q1dIIS l13) (lstF 3 [.int .i64 (x2.getD n12 q1dIIS).1, .int .i64 (x2.getD n12 q1dIIS).2.1, .str (x2.getD n12 q1dIIS).2.2])))], [], 0⟩ (an3 ob11 ob12 trivial) ?_
         refine kN ?_
         exact jN ((l13 ++ [((x2.getD n12 q1dIIS).1, (x2.getD n12 q1dIIS).2.1, (x2.getD n12 q1dIIS).2.2)])) (Le.trans (Le.mk (s' := ⟨131, [(2, .ptr 2 0), (3, .ptr 3 0), (4, .ptr 4 0), (8, .ptr 8 0), (9, .str s10), (12, .int .i64 (n12 : Int))], [(2, .cells 30 [q1aSSI x1, q1aIIS x2]), (3, .cells 24 [.int .i64 x3, .int .i64 x4, .str x5]), (4, .cells 30 [.nils, .nils]), (8, .cells 30 [q1aSSI l11, .own 6301]), (6301, q1bIIS_45 (l13 ++ [((x2.getD n12 q1dIIS).1, (x2.getD n12 q1dIIS).2.1, (x2.getD n12 q1dIIS).2.2)]))], [], 0⟩) rfl rfl ⟨.refl _, .refl _, .refl _, .refl _, .refl _, .refl _, trivial⟩ ⟨⟨_, rfl, .refl _⟩, ⟨_, rfl, .refl _⟩, ⟨_, rfl, .refl _⟩, ⟨_, rfl, .refl _⟩, ⟨_, rfl, (BLe.of (RL.app (RL.self _) (RL.lst (enc := eIIS) [((x2.getD n12 q1dIIS).1, (x2.getD n12 q1dIIS).2.1, (x2.getD n12 q1dIIS).2.2)] rfl rfl (fun _ => rfl))))⟩, trivial⟩) (Le.trans (Le.trans (Le.ren (swapN 6301 90) (swapN_inv 6301 90) rfl) (Le.mk (s' := ⟨131, [(2, .ptr 2 0), (3, .ptr 3 0), (4, .ptr 4 0), (8, .ptr 8 0), (9, .str s10), (12, .int .i64 (n12 : Int))], [(2, .cells 30 [q1aSSI x1, q1aIIS x2]), (3, .cells 24 [.int .i64 x3, .int .i64 x4, .str x5]), (4, .cells 30 [.nils, .nils]), (8, .cells 30 [q1aSSI l11, .own 90]), (90, q1bIIS_45 (l13 ++ [((x2.getD n12 q1dIIS).1, (x2.getD n12 q1dIIS).2.1, (x2.getD n12 q1dIIS).2.2)]))], [], 0⟩) rfl rfl ⟨.refl _, .refl _, .refl _, .refl _, .refl _, .refl _, trivial⟩ ⟨⟨_, rfl, .refl _⟩, ⟨_, rfl, .refl _⟩, ⟨_, rfl, .refl _⟩, ⟨_, rfl, .refl _⟩, ⟨_, rfl, .refl _⟩, trivial⟩)) (Le.mk rfl rfl ⟨.refl _, .refl _, .refl _, .refl _, .refl _, .refl _, trivial⟩ ⟨⟨_, rfl, .refl _⟩, ⟨_, rfl, .refl _⟩, ⟨_, rfl, .refl _⟩, ⟨_, rfl, .refl _⟩, ⟨_, rfl, .refl _⟩, trivial⟩))) h
        ·
         replace h := ite_fb hc6 h
         refine AWp.skip ?_
         refine kN ?_
         exact jN (l13) (Le.trans (Le.trans (Le.ren (swapN 6301 90) (swapN_inv 6301 90) rfl) (Le.mk (s' := ⟨131, [(2, .ptr 2 0), (3, .ptr 3 0), (4, .ptr 4 0), (8, .ptr 8 0), (9, .str s10), (12, .int .i64 (n12 : Int)), (81, .bool (decide ((x2.getD n12 q1dIIS).1 < x3)))], [(2, .cells 30 [q1aSSI x1, q1aIIS x2]), (3, .cells 24 [.int .i64 x3, .int .i64 x4, .str x5]), (4, .cells 30 [.nils, .nils]), (8, .cells 30 [q1aSSI l11, .own 90]), (90, q1bIIS_45 l13)], [], 0⟩) rfl rfl ⟨.refl _, .refl _, .refl _, .refl _, .refl _, .refl _, .refl _, trivial⟩ ⟨⟨_, rfl, .refl _⟩, ⟨_, rfl, .refl _⟩, ⟨_, rfl, .refl _⟩, ⟨_, rfl, .refl _⟩, ⟨_, rfl, .refl _⟩, trivial⟩)) (Le.mk rfl rfl ⟨.refl _, .refl _, .refl _, .refl _, .refl _, .refl _, trivial⟩ ⟨⟨_, rfl, .refl _⟩, ⟨_, rfl, .refl _⟩, ⟨_, rfl, .refl _⟩, ⟨_, rfl, .refl _⟩, ⟨_, rfl, .refl _⟩, trivial⟩)) h
       ·
        rintro l14 h
        replace h := (congrFun hK3 _).symm.trans h
        obtain ⟨ob13p, h⟩ := chk_some h
        have ob13 : -9223372036854775808 ≤ ((n12 : Int) + (1 : Int)) ∧ ((n12 : Int) + (1 : Int)) ≤ 9223372036854775807 := ⟨by omega, ob13p⟩
        refine q1rr [] [] [2, 3, 4, 8, 9, 12] [2, 3, 4, 8, 90] ⟨131, [(2, .ptr 2 0), (3, .ptr 3 0), (4, .ptr 4 0), (8, .ptr 8 0), (9, .str s10), (12, .int .i64 (((n12 + 1) : Nat) : Int))], [(2, .cells 30 [q1aSSI x1, q1aIIS x2]), (3, .cells 24 [.int .i64 x3, .int .i64 x4, .str x5]), (4, .cells 30 [.nils, .nils]), (8, .cells 30 [q1aSSI l11, .own 90]), (90, q1bIIS_45 l14)], [], 0⟩ (an1 ob13) ?_
        rw [hC0] at h
        exact lN (_, (n12 + 1), l14) (Le.trans (Le.trans (Le.ren (swapN 90 6301) (swapN_inv 90 6301) rfl) (Le.mk (s' := ⟨131, [(2, .ptr 2 0), (3, .ptr 3 0), (4, .ptr 4 0), (8, .ptr 8 0), (9, .str s10), (12, .int .i64 (((n12 + 1) : Nat) : Int))], [(2, .cells 30 [q1aSSI x1, q1aIIS x2]), (3, .cells 24 [.int .i64 x3, .int .i64 x4, .str x5]), (4, .cells 30 [.nils, .nils]), (8, .cells 30 [q1aSSI l11, .own 6301]), (6301, q1bIIS_45 l14)], [], 0⟩) rfl rfl ⟨.refl _, .refl _, .refl _, .refl _, .refl _, .refl _, trivial⟩ ⟨⟨_, rfl, .refl _⟩, ⟨_, rfl, .refl _⟩, ⟨_, rfl, .refl _⟩, ⟨_, rfl, .refl _⟩, ⟨_, rfl, .refl _⟩, trivial⟩)) (Le.mk rfl rfl ⟨.refl _, .refl _, .refl _, .refl _, .refl _, .refl _, trivial⟩ ⟨⟨_, rfl, .refl _⟩, ⟨_, rfl, .refl _⟩, ⟨_, rfl, .refl _⟩, ⟨_, rfl, .refl _⟩, ⟨_, rfl, .refl _⟩, trivial⟩)) h (Nat.lt_succ_self _)
      ·
       replace h := ite_fb hc5 h
       refine AWp.exit ?_
       refine tE ?_
       refine tE ?_
       refine kS ?_
       exact jN (l13) (Le.mk rfl rfl ⟨.refl _, .refl _, .refl _, .refl _, .refl _, trivial⟩ ⟨⟨_, rfl, .refl _⟩, ⟨_, rfl, .refl _⟩, ⟨_, rfl, .refl _⟩, ⟨_, rfl, .refl _⟩, ⟨_, rfl, .refl _⟩, trivial⟩) h
     ·
      rintro l15 h
      replace h := (congrFun hK2 _).symm.trans h
      refine AWp.seq ?_
      obtain ⟨ob14, h⟩ := chk_some h
      refine q1rr [] [] [2, 3, 4, 8, 9] [2, 3, 4, 8, 6301] ⟨131, [(2, .ptr 2 0), (3, .ptr 3 0), (4, .ptr 4 0), (8, .ptr 8 0), (9, .str s10)], [(2, .cells 30 [q1aSSI x1, q1aIIS x2]), (3, .cells 24 [.int .i64 x3, .int .i64 x4, .str x5]), (4, .cells 30 [.nils, .nils]), (8, .cells 30 [q1aSSI l11, .own 6301]), (6301, .rows 45 3 ((l15).length + 1) (appF (l15).length (encF eIIS q1dIIS l15) (lstF 3 [.int .i64 x3, .int .i64 x4, .str s10])))], [], 0⟩ (an2 ob14 trivial) ?_
      refine tN ?_
      refine AWp.le (Le.mk (s' := ⟨131, [(2, .ptr 2 0), (3, .ptr 3 0), (4, .ptr 4 0), (8, .ptr 8 0), (9, .str s10)], [(2, .cells 30 [q1aSSI x1, q1aIIS x2]), (3, .cells 24 [.int .i64 x3, .int .i64 x4, .str x5]), (4, .cells 30 [.nils, .nils]), (8, .cells 30 [q1aSSI l11, .own 6301]), (6301, q1bIIS_45 (l15 ++ [(x3, x4, s10)]))], [], 0⟩) rfl rfl ⟨.refl _, .refl _, .refl _, .refl _, .refl _, trivial⟩ ⟨⟨_, rfl, .refl _⟩, ⟨_, rfl, .refl _⟩, ⟨_, rfl, .refl _⟩, ⟨_, rfl, .refl _⟩, ⟨_, rfl, (BLe.of (RL.app (RL.self _) (RL.lst (enc := eIIS) [(x3, x4, s10)] rfl rfl (fun _ => rfl))))⟩, trivial⟩) ?_
      obtain ⟨K4, hK4, h⟩ := jn_some h
      refine AWp.join (α := List Tq1) (fun (l19 : List Tq1) => ⟨131, [(4, .ptr 4 0), (8, .ptr 8 0), (9, .str s10)], [(4, .cells 30 [.nils, .nils]), (8, .cells 30 [q1aSSI l11, .own 6301]), (6301, q1bIIS_45 l19)], [], 0⟩) (fun x => K4 x = some r) ?_ ?_
      ·
       refine q1rq [] [] [2, 3, 4, 8, 9, 13] [2, 3, 4, 8, 6301] ⟨131, [(2, .ptr 2 0), (3, .ptr 3 0), (4, .ptr 4 0), (8, .ptr 8 0), (9, .str s10), (13, .int .i64 (0 : Int))], [(2, .cells 30 [q1aSSI x1, q1aIIS x2]), (3, .cells 24 [.int .i64 x3, .int .i64 x4, .str x5]), (4, .cells 30 [.nils, .nils]), (8, .cells 30 [q1aSSI l11, .own 6301]), (6301, q1bIIS_45 (l15 ++ [(x3, x4, s10)]))], [], 0⟩ trivial ?_
       refine AWp.block ?_
       refine AWp.loopL (α := Nat × (Nat × (List Tq1))) (fun x => match x with | (_, n16, l17) => ⟨131, [(2, .ptr 2 0), (3, .ptr 3 0), (4, .ptr 4 0), (8, .ptr 8 0), (9, .str s10), (13, .int .i64 (n16 : Int))], [(2, .cells 30 [q1aSSI x1, q1aIIS x2]), (3, .cells 24 [.int .i64 x3, .int .i64 x4, .str x5]), (4, .cells 30 [.nils, .nils]), (8, .cells 30 [q1aSSI l11, .own 6301]), (6301, q1bIIS_45 l17)], [], 0⟩) (fun x => f15_L1 x2 x3 K4 x.1 x.2 = some r) (fun x => x.1) (FUEL, 0, (l15 ++ [(x3, x4, s10)])) (Le.mk (s' := ⟨131, [(2, .ptr 2 0), (3, .ptr 3 0), (4, .ptr 4 0), (8, .ptr 8 0), (9, .str s10), (13, .int .i64 (0 : Int))], [(2, .cells 30 [q1aSSI x1, q1aIIS x2]), (3, .cells 24 [.int .i64 x3, .int .i64 x4, .str x5]), (4, .cells 30 [.nils, .nils]), (8, .cells 30 [q1aSSI l11, .own 6301]), (6301, q1bIIS_45 (l15 ++ [(x3, x4, s10)]))], [], 0⟩) rfl rfl ⟨.refl _, .refl _, .refl _, .refl _, .refl _, .refl _, trivial⟩ ⟨⟨_, rfl, .refl _⟩, ⟨_, rfl, .refl _⟩, ⟨_, rfl, .refl _⟩, ⟨_, rfl, .refl _⟩, ⟨_, rfl, .refl _⟩, trivial⟩) h ?_
       rintro ⟨k1, n16, l17⟩ h
       cases k1 with
       | zero => exact nomatch (show (none : Option ((List Tq0) × (List Tq1) × List UInt8)) = some r from h)
       | succ k1 =>
       obtain ⟨C1, hC1⟩ : ∃ C, C = f15_L1 x2 x3 K4 k1 := ⟨_, rfl⟩
       replace h := (f15_L1.eq_2 ..).symm.trans h
       try rw [← hC1] at h
       refine AWp.seq ?_
       refine q1rq [] [] [2, 3, 4, 8, 9, 13, 107] [2, 3, 4, 8, 6301] ⟨131, [(2, .ptr 2 0), (3, .ptr 3 0), (4, .ptr 4 0), (8, .ptr 8 0), (9, .str s10), (13, .int .i64 (n16 : Int)), (107, .bool (decide ((n16 : Int) < (((x2).length : Nat) : Int))))], [(2, .cells 30 [q1aSSI x1, q1aIIS x2]), (3, .cells 24 [.int .i64 x3, .int .i64 x4, .str x5]), (4, .cells 30 [.nils, .nils]), (8, .cells 30 [q1aSSI l11, .own 6301]), (6301, q1bIIS_45 l17)], [], 0⟩ trivial ?_
       refine AWp.cond (b := (decide ((n16 : Int) < (((x2).length : Nat) : Int)))) (by kernel_rfl) (fun hc7 => ?_) (fun hc7 => ?_)
       ·
        replace h := ite_tb hc7 h
        refine AWp.skip ?_
        refine tN ?_
        obtain ⟨K5, hK5, h⟩ := jn_some h
        refine AWp.join (α := List Tq1) (fun (l18 : List Tq1) => ⟨131, [(2, .ptr 2 0), (3, .ptr 3 0), (4, .ptr 4 0), (8, .ptr 8 0), (9, .str s10), (13, .int .i64 (n16 : Int))], [(2, .cells 30 [q1aSSI x1, q1aIIS x2]), (3, .cells 24 [.int .i64 x3, .int .i64 x4, .str x5]), (4, .cells 30 [.nils, .nils]), (8, .cells 30 [q1aSSI l11, .own 6301]), (6301, q1bIIS_45 l18)], [], 0⟩) (fun x => K5 x = some r) ?_ ?_
        ·
         refine AWp.block ?_
         refine AWp.seq ?_
         obtain ⟨ob15p, h⟩ := chk_some h
         have ob15 : 0 ≤ (n16 : Int) ∧ (n16 : Int) < (((x2).length : Nat) : Int) := ⟨by omega, ob15p⟩
         refine q1rr [] [] [2, 3, 4, 8, 9, 13, 118] [2, 3, 4, 8, 6301] ⟨131, [(2, .ptr 2 0), (3, .ptr 3 0), (4, .ptr 4 0), (8, .ptr 8 0), (9, .str s10), (13, .int .i64 (n16 : Int)), (118, .bool (decide ((x2.getD n16 q1dIIS).1 > x3)))], [(2, .cells 30 [q1aSSI x1, q1aIIS x2]), (3, .cells 24 [.int .i64 x3, .int .i64 x4, .str x5]), (4, .cells 30 [.nils, .nils]), (8, .cells 30 [q1aSSI l11, .own 6301]), (6301, q1bIIS_45 l17)], [], 0⟩ (an1 ob15) ?_
         refine tN ?_
         refine AWp.cond (b := (decide ((x2.getD n16 q1dIIS).1 > x3))) (by kernel_rfl) (fun hc8 => ?_) (fun hc8 => ?_)
         ·
          replace h := ite_tb hc8 h
          obtain ⟨ob16p, h⟩ := chk_some h
          have ob16 : 0 ≤ (n16 : Int) ∧ (n16 : Int) < (((x2).length : Nat) : Int) := ⟨by omega, ob16p⟩
          obtain ⟨ob17, h⟩ := chk_some h
          refine q1rr [] [] [2, 3, 4, 8, 9, 13] [2, 3, 4, 8, 6301] ⟨131, [(2, .ptr 2 0), (3, .ptr 3 0), (4, .ptr 4 0), (8, .ptr 8 0), (9, .str s10), (13, .int .i64 (n16 : Int))], [(2, .cells 30 [q1aSSI x1, q1aIIS x2]), (3, .cells 24 [.int .i64 x3, .int .i64 x4, .str x5]), (4, .cells 30 [.nils, .nils]), (8, .cells 30 [q1aSSI l11, .own 6301]), (6301, .rows 45 3 ((l17).length + 1) (appF (l17).length (encF eIIS q1dIIS l17) (lstF 3 [.int .i64 (x2.getD n16 q1dIIS).1, .int .i64 (x2.getD n16 q1dIIS).2.1, .str (x2.getD n16 q1dIIS).2.2])))], [], 0⟩ (an3 ob16 ob17 trivial) ?_
          refine kN ?_
          exact jN ((l17 ++ [((x2.getD n16 q1dIIS).1, (x2.getD n16 q1dIIS).2.1, (x2.getD n16 q1dIIS).2.2)])) (Le.trans (Le.mk (s' := ⟨131, [(2, .ptr 2 0), (3, .ptr 3 0), (4, .ptr 4 0), (8, .ptr 8 0), (9, .str s10), (13, .int .i64 (n16 : Int))], [(2, .cells 30 [q1aSSI x1, q1aIIS x2]), (3, .cells 24 [.int .i64 x3, .int .i64 x4, .str x5]), (4, .cells 30 [.nils, .nils]), (8, .cells 30 [q1aSSI l11, .own 6301]), (6301, q1bIIS_45 (l17 ++ [((x2.getD n16 q1dIIS).1, (x2.getD n16 q1dIIS).2.1, (x2.getD n16 q1dIIS).2.2)]))], [], 0⟩) rfl rfl ⟨.refl _, .refl _, .refl _, .refl _, .refl _, .refl _, trivial⟩ ⟨⟨_, rfl, .refl _⟩, ⟨_, rfl, .refl _⟩, ⟨_, rfl, .refl _⟩, ⟨_, rfl, .refl _⟩, ⟨_, rfl, (BLe.of (RL.app (RL.self _) (RL.lst (enc := eIIS) [((x2.getD n16 q1dIIS).1, (x2.getD n16 q1dIIS).2.1, (x2.getD n16 q1dIIS).2.2)] rfl rfl (fun _ => rfl))))⟩, trivial⟩) (Le.mk rfl rfl ⟨.refl _, .refl _, .refl _, .refl _, .refl _, .refl _, trivial⟩ ⟨⟨_, rfl, .refl _⟩, ⟨_, rfl, .refl _⟩, ⟨_, rfl, .refl _⟩, ⟨_, rfl, .refl _⟩, ⟨_, rfl, .refl _⟩, trivial⟩)) h
         ·
          replace h := ite_fb hc8 h
          refine AWp.skip ?_
          refine kN ?_
          exact jN (l17) (Le.mk rfl rfl ⟨.refl _, .refl _, .refl _, .refl _, .refl _, .refl _, trivial⟩ ⟨⟨_, rfl, .refl _⟩, ⟨_, rfl, .refl _⟩, ⟨_, rfl, .refl _⟩, ⟨_, rfl, .refl _⟩, ⟨_, rfl, .refl _⟩, trivial⟩) h
        ·
         rintro l18 h
         replace h := (congrFun hK5 _).symm.trans h
         obtain ⟨ob18p, h⟩ := chk_some h
         have ob18 : -9223372036854775808 ≤ ((n16 : Int) + (1 : Int)) ∧ ((n16 : Int) + (1 : Int)) ≤ 9223372036854775807 := ⟨by omega, ob18p⟩
         refine q1rr [] [] [2, 3, 4, 8, 9, 13] [2, 3, 4, 8, 6301] ⟨131, [(2, .ptr 2 0), (3, .ptr 3 0), (4, .ptr 4 0), (8, .ptr 8 0), (9, .str s10), (13, .int .i64 (((n16 + 1) : Nat) : Int))], [(2, .cells 30 [q1aSSI x1, q1aIIS x2]), (3, .cells 24 [.int .i64 x3, .int .i64 x4, .str x5]), (4, .cells 30 [.nils, .nils]), (8, .cells 30 [q1aSSI l11, .own 6301]), (6301, q1bIIS_45 l18)], [], 0⟩ (an1 ob18) ?_
         rw [hC1] at h
         exact lN (_, (n16 + 1), l18) (Le.mk rfl rfl ⟨.refl _, .refl _, .refl _, .refl _, .refl _, .refl _, trivial⟩ ⟨⟨_, rfl, .refl _⟩, ⟨_, rfl, .refl _⟩, ⟨_, rfl, .refl _⟩, ⟨_, rfl, .refl _⟩, ⟨_, rfl, .refl _⟩, trivial⟩) h (Nat.lt_succ_self _)
       ·
        replace h := ite_fb hc7 h
        refine AWp.exit ?_
        refine tE ?_
        refine tE ?_
        refine kS ?_
        exact jN (l17) (Le.mk rfl rfl ⟨.refl _, .refl _, .refl _, trivial⟩ ⟨⟨_, rfl, .refl _⟩, ⟨_, rfl, .refl _⟩, ⟨_, rfl, .refl _⟩, trivial⟩) h
      ·
       rintro l19 h
       replace h := (congrFun hK4 _).symm.trans h
       refine q1rq [] [] [4, 5] [4, 6301] ⟨131, [(4, .ptr 4 0), (5, .str s10)], [(4, .cells 30 [q1aSSI l11, .own 6301]), (6301, q1bIIS_45 l19)], [], 0⟩ (an1 trivial) ?_
       refine AWp.le (Le.trans (Le.freeze 6301 rfl rfl) (Le.mk (s' := ⟨131, [(4, .ptr 4 0), (5, .str s10)], [(4, .cells 30 [q1aSSI l11, q1aIIS l19])], [], 0⟩) rfl rfl ⟨.refl _, .refl _, trivial⟩ ⟨⟨_, rfl, .refl _⟩, trivial⟩)) ?_
       have hret := Option.some.inj h
       subst hret
       refine AWp.le (Le.mk (s' := ⟨131, [(4, .ptr 4 0), (5, .str s10)], [(4, .cells 30 [q1aSSI l11, q1aIIS l19])], [], 0⟩) rfl rfl ⟨.refl _, .refl _, trivial⟩ ⟨⟨_, rfl, .refl _⟩, trivial⟩) ?_
       refine AWp.ret ?_
       exact bR _ rfl ⟨rfl, rfl⟩ rfl
def f13_L0 (x1 : List Tq1) (K1 : ((List Tq0) × (List Tq1)) → Option ((List Tq0) × (List Tq1))) : Nat → (Nat × (List Tq0) × (List Tq1)) → Option ((List Tq0) × (List Tq1))
 | 0, _ => none
 | k + 1, (n2, l3, l4) =>
  if (decide ((n2 : Int) < (((x1).length : Nat) : Int))) then (
  (f15 l3 l4 ((x1.getD n2 (default : Tq1)).1) ((x1.getD n2 (default : Tq1)).2.1) ((x1.getD n2 (default : Tq1)).2.2)).bind fun (r5 : (List Tq0) × (List Tq1) × List UInt8) =>
  chk ((n2 : Int) < (((x1).length : Nat) : Int)) <|
  chk (((n2 : Int) + (1 : Int)) ≤ 9223372036854775807) <|
  (f13_L0 x1 K1 k) ((n2 + 1), r5.1, r5.2.1)
  ) else (
  K1 (l3, l4)
  )
def f13 (x1 : List Tq1) : Option ((List Tq0) × (List Tq1)) :=
 jn (fun ((l6, l7) : (List Tq0) × (List Tq1)) =>
 some (l6, l7)
 ) fun (K1 : ((List Tq0) × (List Tq1)) → Option ((List Tq0) × (List Tq1))) =>
 f13_L0 x1 K1 FUEL (0, [], [])
def f12 (x1 : List Tq0) (x2 : List Tq1) : Option ((List Tq0) × (List Tq1)) :=
 (f40 x1).bind fun (r3 : List Tq0) =>
 (f38 x2).bind fun (r4 : List Tq1) =>
 some (r3, r4)
def f20_L0 (x1 : List Tq0) (x2 : List Tq0) (K1 : Unit → Option Bool) : Nat → Nat → Option Bool
 | 0, _ => none
 | k + 1, n3 =>
  if (decide ((n3 : Int) < (((x1).length : Nat) : Int))) then (
  chk ((n3 : Int) < (((x1).length : Nat) : Int)) <|
  chk ((n3 : Int) < (((x2).length : Nat) : Int)) <|
  if (!((((x1.getD n3 (default : Tq0)).1) == ((x2.getD n3 (default : Tq0)).1)) && ((((x1.getD n3 (default : Tq0)).2.1) == ((x2.getD n3 (default : Tq0)).2.1)) && (((x1.getD n3 (default : Tq0)).2.2 == (x2.getD n3 (default : Tq0)).2.2) && true)))) then (
  some false
  ) else (
  chk (((n3 : Int) + (1 : Int)) ≤ 9223372036854775807) <|
  (f20_L0 x1 x2 K1 k) (n3 + 1)
  )
  ) else (
  K1 ()
  )
def f20 (x1 : List Tq0) (x2 : List Tq0) : Option Bool :=
 if ((((x1).length : Nat) : Int) != (((x2).length : Nat) : Int)) then (
 some false
 ) else (
 jn (fun (_ : Unit) =>
 some true
 ) fun (K1 : Unit → Option Bool) =>
 f20_L0 x1 x2 K1 FUEL 0
 )
theorem f20_ok  (x1 : List Tq0) (x2 : List Tq0) (r : Bool) (h : f20 x1 x2 = some r)  : Spec1 Tryz.prog 20 [] [] [] [vL 3 eSSI (default : Tq0) x1, vL 3 eSSI (default : Tq0) x2] (.bool r) [] := by
 unfold f20 at h
 refine Spec1.body 0 _ _ Tryz.func20 rfl Tryz.ntmps20 rfl rfl ?_
 refine q1rq [] [] [0, 1] [] ⟨26, [(0, q1aSSI x1), (1, q1aSSI x2)], [], [], 0⟩ trivial ?_
 refine AWp.seq ?_
 refine q1rq [] [] [0, 1, 10] [] ⟨26, [(0, q1aSSI x1), (1, q1aSSI x2), (10, .bool ((((x1).length : Nat) : Int) != (((x2).length : Nat) : Int)))], [], [], 0⟩ trivial ?_
 refine AWp.cond (b := ((((x1).length : Nat) : Int) != (((x2).length : Nat) : Int))) (by kernel_rfl) (fun hc1 => ?_) (fun hc1 => ?_)
 ·
  replace h := ite_tb hc1 h
  refine q1rq [] [] [4] [] ⟨26, [(4, .bool false)], [], [], 0⟩ trivial ?_
  have hret := Option.some.inj h
  subst hret
  refine AWp.le (Le.mk (s' := ⟨26, [(4, .bool false)], [], [], 0⟩) rfl rfl ⟨.refl _, trivial⟩ trivial) ?_
  refine AWp.ret ?_
  refine tR ?_
  exact bR _ rfl ⟨rfl, rfl⟩ rfl
 ·
  replace h := ite_fb hc1 h
  refine AWp.skip ?_
  refine tN ?_
  obtain ⟨K1, hK1, h⟩ := jn_some h
  refine AWp.join (α := Unit) (fun (x : Unit) => match x with | () => ⟨26, [], [], [], 0⟩) (fun x => K1 x = some r) ?_ ?_
  ·
   refine q1rq [] [] [0, 1, 5] [] ⟨26, [(0, q1aSSI x1), (1, q1aSSI x2), (5, .int .i64 (0 : Int))], [], [], 0⟩ trivial ?_
   refine AWp.block ?_
   refine AWp.loopL (α := Nat × Nat) (fun x => match x with | (_, n3) => ⟨26, [(0, q1aSSI x1), (1, q1aSSI x2), (5, .int .i64 (n3 : Int))], [], [], 0⟩) (fun x => f20_L0 x1 x2 K1 x.1 x.2 = some r) (fun x => x.1) (FUEL, 0) (Le.mk (s' := ⟨26, [(0, q1aSSI x1), (1, q1aSSI x2), (5, .int .i64 (0 : Int))], [], [], 0⟩) rfl rfl ⟨.refl _, .refl _, .refl _, trivial⟩ trivial) h ?_
   rintro ⟨k0, n3⟩ h
   cases k0 with
   | zero => exact nomatch (show (none : Option Bool) = some r from h)
   | succ k0 =>
   obtain ⟨C0, hC0⟩ : ∃ C, C = f20_L0 x1 x2 K1 k0 := ⟨_, rfl⟩
   replace h := (f20_L0.eq_2 ..).symm.trans h
   try rw [← hC0] at h
   refine AWp.seq ?_
   refine q1rq [] [] [0, 1, 5, 14] [] ⟨26, [(0, q1aSSI x1), (1, q1aSSI x2), (5, .int .i64 (n3 : Int)), (14, .bool (decide ((n3 : Int) < (((x1).length : Nat) : Int))))], [], [], 0⟩ trivial ?_
   refine AWp.cond (b := (decide ((n3 : Int) < (((x1).length : Nat) : Int)))) (by kernel_rfl) (fun hc2 => ?_) (fun hc2 => ?_)
   ·
    replace h := ite_tb hc2 h
    refine AWp.skip ?_
    refine tN ?_
    refine AWp.seq ?_
    refine AWp.block ?_
    refine AWp.seq ?_
    obtain ⟨ob0p, h⟩ := chk_some h
    have ob0 : 0 ≤ (n3 : Int) ∧ (n3 : Int) < (((x1).length : Nat) : Int) := ⟨by omega, ob0p⟩
    obtain ⟨ob1p, h⟩ := chk_some h
    have ob1 : 0 ≤ (n3 : Int) ∧ (n3 : Int) < (((x2).length : Nat) : Int) := ⟨by omega, ob1p⟩
    refine q1rr [] [] [0, 1, 5, 25] [] ⟨26, [(0, q1aSSI x1), (1, q1aSSI x2), (5, .int .i64 (n3 : Int)), (25, .bool (!((((x1.getD n3 q1dSSI).1) == ((x2.getD n3 q1dSSI).1)) && ((((x1.getD n3 q1dSSI).2.1) == ((x2.getD n3 q1dSSI).2.1)) && (((x1.getD n3 q1dSSI).2.2 == (x2.getD n3 q1dSSI).2.2) && true)))))], [], [], 0⟩ (an2 ob0 ob1) ?_
    refine tN ?_
    refine AWp.cond (b := (!((((x1.getD n3 q1dSSI).1) == ((x2.getD n3 q1dSSI).1)) && ((((x1.getD n3 q1dSSI).2.1) == ((x2.getD n3 q1dSSI).2.1)) && (((x1.getD n3 q1dSSI).2.2 == (x2.getD n3 q1dSSI).2.2) && true))))) (by kernel_rfl) (fun hc3 => ?_) (fun hc3 => ?_)
    ·
     replace h := ite_tb hc3 h
     refine q1rq [] [] [4] [] ⟨26, [(4, .bool false)], [], [], 0⟩ trivial ?_
     have hret := Option.some.inj h
     subst hret
     refine AWp.le (Le.mk (s' := ⟨26, [(4, .bool false)], [], [], 0⟩) rfl rfl ⟨.refl _, trivial⟩ trivial) ?_
     refine AWp.ret ?_
     refine kR ?_
     refine tR ?_
     refine tR ?_
     refine kR ?_
     refine joinQ_ret ?_
     exact bR _ rfl ⟨rfl, rfl⟩ rfl
    ·
     replace h := ite_fb hc3 h
     refine AWp.skip ?_
     refine kN ?_
     refine tN ?_
     obtain ⟨ob2p, h⟩ := chk_some h
     have ob2 : -9223372036854775808 ≤ ((n3 : Int) + (1 : Int)) ∧ ((n3 : Int) + (1 : Int)) ≤ 9223372036854775807 := ⟨by omega, ob2p⟩
     refine q1rr [] [] [0, 1, 5] [] ⟨26, [(0, q1aSSI x1), (1, q1aSSI x2), (5, .int .i64 (((n3 + 1) : Nat) : Int))], [], [], 0⟩ (an1 ob2) ?_
     rw [hC0] at h
     exact lN (_, (n3 + 1)) (Le.mk rfl rfl ⟨.refl _, .refl _, .refl _, trivial⟩ trivial) h (Nat.lt_succ_self _)
   ·
    replace h := ite_fb hc2 h
    refine AWp.exit ?_
    refine tE ?_
    refine tE ?_
    refine kS ?_
    exact jN () (Le.mk rfl rfl trivial trivial) h
  ·
   rintro ⟨⟩ h
   replace h := (congrFun hK1 _).symm.trans h
   refine q1rq [] [] [4] [] ⟨26, [(4, .bool true)], [], [], 0⟩ trivial ?_
   have hret := Option.some.inj h
   subst hret
   refine AWp.le (Le.mk (s' := ⟨26, [(4, .bool true)], [], [], 0⟩) rfl rfl ⟨.refl _, trivial⟩ trivial) ?_
   refine AWp.ret ?_
   exact bR _ rfl ⟨rfl, rfl⟩ rfl
def f14_L0 (x2 : List Tq1) (x4 : List Tq1) (K1 : Unit → Option Bool) : Nat → Nat → Option Bool
 | 0, _ => none
 | k + 1, n5 =>
  if (decide ((n5 : Int) < (((x2).length : Nat) : Int))) then (
  chk ((n5 : Int) < (((x2).length : Nat) : Int)) <|
  chk ((n5 : Int) < (((x4).length : Nat) : Int)) <|
  if (!(((x2.getD n5 (default : Tq1)).1 == (x4.getD n5 (default : Tq1)).1) && (((x2.getD n5 (default : Tq1)).2.1 == (x4.getD n5 (default : Tq1)).2.1) && ((((x2.getD n5 (default : Tq1)).2.2) == ((x4.getD n5 (default : Tq1)).2.2)) && true)))) then (
  some false
  ) else (
  chk (((n5 : Int) + (1 : Int)) ≤ 9223372036854775807) <|
  (f14_L0 x2 x4 K1 k) (n5 + 1)
  )
  ) else (
  K1 ()
  )
def f14 (x1 : List Tq0) (x2 : List Tq1) (x3 : List Tq0) (x4 : List Tq1) : Option Bool :=
 if ((((x2).length : Nat) : Int) != (((x4).length : Nat) : Int)) then (
 some false
 ) else (
 jn (fun (_ : Unit) =>
 (f20 x1 x3).bind fun (r6 : Bool) =>
 some r6
 ) fun (K1 : Unit → Option Bool) =>
 f14_L0 x2 x4 K1 FUEL 0
 )
theorem f14_ok  (x1 : List Tq0) (x2 : List Tq1) (x3 : List Tq0) (x4 : List Tq1) (r : Bool) (h : f14 x1 x2 x3 x4 = some r)  : Spec1 Tryz.prog 14 [] [] [] [.agg [vL 3 eSSI (default : Tq0) x1, vL 3 eIIS (default : Tq1) x2], .agg [vL 3 eSSI (default : Tq0) x3, vL 3 eIIS (default : Tq1) x4]] (.bool r) [] := by
 unfold f14 at h
 refine Spec1.body 0 _ _ Tryz.func14 rfl Tryz.ntmps14 rfl rfl ?_
 refine q1rq [] [] [2, 3] [2, 3] ⟨36, [(2, .ptr 2 0), (3, .ptr 3 0)], [(2, .cells 30 [q1aSSI x1, q1aIIS x2]), (3, .cells 30 [q1aSSI x3, q1aIIS x4])], [], 0⟩ trivial ?_
 refine AWp.seq ?_
 refine q1rq [] [] [2, 3, 12] [2, 3] ⟨36, [(2, .ptr 2 0), (3, .ptr 3 0), (12, .bool ((((x2).length : Nat) : Int) != (((x4).length : Nat) : Int)))], [(2, .cells 30 [q1aSSI x1, q1aIIS x2]), (3, .cells 30 [q1aSSI x3, q1aIIS x4])], [], 0⟩ trivial ?_
 refine AWp.cond (b := ((((x2).length : Nat) : Int) != (((x4).length : Nat) : Int))) (by kernel_rfl) (fun hc1 => ?_) (fun hc1 => ?_)
 ·
  replace h := ite_tb hc1 h
  refine q1rq [] [] [4] [] ⟨36, [(4, .bool false)], [], [], 0⟩ trivial ?_
  have hret := Option.some.inj h
  subst hret
  refine AWp.le (Le.mk (s' := ⟨36, [(4, .bool false)], [], [], 0⟩) rfl rfl ⟨.refl _, trivial⟩ trivial) ?_
  refine AWp.ret ?_
  refine tR ?_
  exact bR _ rfl ⟨rfl, rfl⟩ rfl
 ·
  replace h := ite_fb hc1 h
  refine AWp.skip ?_
  refine tN ?_
  obtain ⟨K1, hK1, h⟩ := jn_some h
  refine AWp.join (α := Unit) (fun (x : Unit) => match x with | () => ⟨36, [(2, .ptr 2 0), (3, .ptr 3 0)], [(2, .cells 30 [q1aSSI x1, q1aIIS x2]), (3, .cells 30 [q1aSSI x3, q1aIIS x4])], [], 0⟩) (fun x => K1 x = some r) ?_ ?_
  ·
   refine q1rq [] [] [2, 3, 5] [2, 3] ⟨36, [(2, .ptr 2 0), (3, .ptr 3 0), (5, .int .i64 (0 : Int))], [(2, .cells 30 [q1aSSI x1, q1aIIS x2]), (3, .cells 30 [q1aSSI x3, q1aIIS x4])], [], 0⟩ trivial ?_
   refine AWp.block ?_
   refine AWp.loopL (α := Nat × Nat) (fun x => match x with | (_, n5) => ⟨36, [(2, .ptr 2 0), (3, .ptr 3 0), (5, .int .i64 (n5 : Int))], [(2, .cells 30 [q1aSSI x1, q1aIIS x2]), (3, .cells 30 [q1aSSI x3, q1aIIS x4])], [], 0⟩) (fun x => f14_L0 x2 x4 K1 x.1 x.2 = some r) (fun x => x.1) (FUEL, 0) (Le.mk (s' := ⟨36, [(2, .ptr 2 0), (3, .ptr 3 0), (5, .int .i64 (0 : Int))], [(2, .cells 30 [q1aSSI x1, q1aIIS x2]), (3, .cells 30 [q1aSSI x3, q1aIIS x4])], [], 0⟩) rfl rfl ⟨.refl _, .refl _, .refl _, trivial⟩ ⟨⟨_, rfl, .refl _⟩, ⟨_, rfl, .refl _⟩, trivial⟩) h ?_
   rintro ⟨k0, n5⟩ h
   cases k0 with
   | zero => exact nomatch (show (none : Option Bool) = some r from h)
   | succ k0 =>
   obtain ⟨C0, hC0⟩ : ∃ C, C = f14_L0 x2 x4 K1 k0 := ⟨_, rfl⟩
   replace h := (f14_L0.eq_2 ..).symm.trans h
   try rw [← hC0] at h
   refine AWp.seq ?_
   refine q1rq [] [] [2, 3, 5, 17] [2, 3] ⟨36, [(2, .ptr 2 0), (3, .ptr 3 0), (5, .int .i64 (n5 : Int)), (17, .bool (decide ((n5 : Int) < (((x2).length : Nat) : Int))))], [(2, .cells 30 [q1aSSI x1, q1aIIS x2]), (3, .cells 30 [q1aSSI x3, q1aIIS x4])], [], 0⟩ trivial ?_
   refine AWp.cond (b := (decide ((n5 : Int) < (((x2).length : Nat) : Int)))) (by kernel_rfl) (fun hc2 => ?_) (fun hc2 => ?_)
   ·
    replace h := ite_tb hc2 h
    refine AWp.skip ?_
    refine tN ?_
    refine AWp.seq ?_
    refine AWp.block ?_
    refine AWp.seq ?_
    obtain ⟨ob0p, h⟩ := chk_some h
    have ob0 : 0 ≤ (n5 : Int) ∧ (n5 : Int) < (((x2).length : Nat) : Int) := ⟨by omega, ob0p⟩
    obtain ⟨ob1p, h⟩ := chk_some h
    have ob1 : 0 ≤ (n5 : Int) ∧ (n5 : Int) < (((x4).length : Nat) : Int) := ⟨by omega, ob1p⟩
    refine q1rr [] [] [2, 3, 5, 30] [2, 3] ⟨36, [(2, .ptr 2 0), (3, .ptr 3 0), (5, .int .i64 (n5 : Int)), (30, .bool (!(((x2.getD n5 q1dIIS).1 == (x4.getD n5 q1dIIS).1) && (((x2.getD n5 q1dIIS).2.1 == (x4.getD n5 q1dIIS).2.1) && ((((x2.getD n5 q1dIIS).2.2) == ((x4.getD n5 q1dIIS).2.2)) && true)))))], [(2, .cells 30 [q1aSSI x1, q1aIIS x2]), (3, .cells 30 [q1aSSI x3, q1aIIS x4])], [], 0⟩ (an2 ob0 ob1) ?_
    refine tN ?_
    refine AWp.cond (b := (!(((x2.getD n5 q1dIIS).1 == (x4.getD n5 q1dIIS).1) && (((x2.getD n5 q1dIIS).2.1 == (x4.getD n5 q1dIIS).2.1) && ((((x2.getD n5 q1dIIS).2.2) == ((x4.getD n5 q1dIIS).2.2)) && true))))) (by kernel_rfl) (fun hc3 => ?_) (fun hc3 => ?_)
    ·
     replace h := ite_tb hc3 h
     refine q1rq [] [] [4] [] ⟨36, [(4, .bool false)], [], [], 0⟩ trivial ?_
     have hret := Option.some.inj h
     subst hret
     refine AWp.le (Le.mk (s' := ⟨36, [(4, .bool false)], [], [], 0⟩) rfl rfl ⟨.refl _, trivial⟩ trivial) ?_
     refine AWp.ret ?_
     refine kR ?_
     refine tR ?_
     refine tR ?_
     refine kR ?_
     refine joinQ_ret ?_
     exact bR _ rfl ⟨rfl, rfl⟩ rfl
    ·
     replace h := ite_fb hc3 h
     refine AWp.skip ?_
     refine kN ?_
     refine tN ?_
     obtain ⟨ob2p, h⟩ := chk_some h
     have ob2 : -9223372036854775808 ≤ ((n5 : Int) + (1 : Int)) ∧ ((n5 : Int) + (1 : Int)) ≤ 9223372036854775807 := ⟨by omega, ob2p⟩
     refine q1rr [] [] [2, 3, 5] [2, 3] ⟨36, [(2, .ptr 2 0), (3, .ptr 3 0), (5, .int .i64 (((n5 + 1) : Nat) : Int))], [(2, .cells 30 [q1aSSI x1, q1aIIS x2]), (3, .cells 30 [q1aSSI x3, q1aIIS x4])], [], 0⟩ (an1 ob2) ?_
     rw [hC0] at h
     exact lN (_, (n5 + 1)) (Le.mk rfl rfl ⟨.refl _, .refl _, .refl _, trivial⟩ ⟨⟨_, rfl, .refl _⟩, ⟨_, rfl, .refl _⟩, trivial⟩) h (Nat.lt_succ_self _)
   ·
    replace h := ite_fb hc2 h
    refine AWp.exit ?_
    refine tE ?_
    refine tE ?_
    refine kS ?_
    exact jN () (Le.mk rfl rfl ⟨.refl _, .refl _, trivial⟩ ⟨⟨_, rfl, .refl _⟩, ⟨_, rfl, .refl _⟩, trivial⟩) h
  ·
   rintro ⟨⟩ h
   replace h := (congrFun hK1 _).symm.trans h
   refine AWp.seq ?_
   obtain ⟨r6, hr6, h⟩ := bind_ok h
   refine q1rr [] [(4, ⟨[q1aSSI x1, q1aSSI x3], [], [], [], .bool r6, [], [], []⟩)] [4] [] ⟨36, [(4, .bool r6)], [], [], 0⟩ (an1 (cpT (f20_ok _ _ _ hr6))) ?_
   refine tN ?_
   have hret := Option.some.inj h
   subst hret
   refine AWp.le (Le.mk (s' := ⟨36, [(4, .bool r6)], [], [], 0⟩) rfl rfl ⟨.refl _, trivial⟩ trivial) ?_
   refine AWp.ret ?_
   exact bR _ rfl ⟨rfl, rfl⟩ rfl
def f3_L0 (x2 : List Tq1) (x3 : Int) (x4 : Int) (K1 : (Bool × (List Tq0) × (List Tq1)) → Option Bool) : Nat → (Bool × Nat × (List Tq0) × (List Tq1)) → Option Bool
 | 0, _ => none
 | k + 1, (b13, n14, l15, l16) =>
  if (decide ((n14 : Int) < (((x2).length : Nat) : Int))) then (
  chk ((n14 : Int) < (((x2).length : Nat) : Int)) <|
  (f11 l15 l16 ((x2.getD n14 (default : Tq1)).1) ((x2.getD n14 (default : Tq1)).2.1) ((x2.getD n14 (default : Tq1)).2.2)).bind fun (r17 : (List Tq0) × (List Tq1) × List UInt8) =>
  chk ((b13 == true) = true → (b13 == true) = true → ((x2.getD n14 (default : Tq1)).1 != x3) = false → ((b13 == true) && (((x2.getD n14 (default : Tq1)).1 != x3) == false)) = true) <|
  chk ((b13 == true) = true → (b13 == true) = true → (((x2.getD n14 (default : Tq1)).1 != x3) || (r17.2.2 == cs2)) = false → ((b13 == true) && ((((x2.getD n14 (default : Tq1)).1 != x3) || (r17.2.2 == cs2)) == false)) = true) <|
  chk ((b13 == true) = true → (b13 == true) = true → ((((x2.getD n14 (default : Tq1)).1 != x3) || (r17.2.2 == cs2)) || (r17.2.2 == cs1)) = false → ((b13 == true) && (((((x2.getD n14 (default : Tq1)).1 != x3) || (r17.2.2 == cs2)) || (r17.2.2 == cs1)) == false)) = true) <|
  chk (((n14 : Int) + (1 : Int)) ≤ 9223372036854775807) <|
  (f3_L0 x2 x3 x4 K1 k) ((b13 && (((((x2.getD n14 (default : Tq1)).1 != x3) || (r17.2.2 == cs2)) || (r17.2.2 == cs1)) || ((x2.getD n14 (default : Tq1)).2.1 == x4))), (n14 + 1), r17.1, r17.2.1)
  ) else (
  K1 (b13, l15, l16)
  )
def f3 (x1 : List Tq1) (x2 : List Tq1) (x3 : Int) (x4 : Int) (x5 : List UInt8) : Option Bool :=
 (f9 ).bind fun (r6 : Bool) =>
 optc ((!r6) == false) (f10 x1) fun (r7 : Bool) =>
 optc (((!r6) || (!r7)) == false) (f10 x2) fun (r8 : Bool) =>
 if ((((!r6) || (!r7)) || (!r8)) || (decide (((x5.length : Nat) : Int) > (300 : Int)))) then (
 (f9 ).bind fun (r9 : Bool) =>
 some r9
 ) else (
 (f13 x1).bind fun (r10 : (List Tq0) × (List Tq1)) =>
 (f12 r10.1 r10.2).bind fun (r11 : (List Tq0) × (List Tq1)) =>
 (f11 r11.1 r11.2 x3 x4 x5).bind fun (r12 : (List Tq0) × (List Tq1) × List UInt8) =>
 if ((r12.2.2 == cs1) || (r12.2.2 == cs2)) then (
 some true
 ) else (
 jn (fun ((b18, l19, l20) : Bool × (List Tq0) × (List Tq1)) =>
 (f12 l19 l20).bind fun (r21 : (List Tq0) × (List Tq1)) =>
 (f11 r21.1 r21.2 x3 x4 x5).bind fun (r22 : (List Tq0) × (List Tq1) × List UInt8) =>
 (f14 r22.1 r22.2.1 l19 l20).bind fun (r23 : Bool) =>
 chk ((r23 == true) = true → (r23 == true) = true → (!b18) = false → ((r23 == true) && ((!b18) == false)) = true) <|
 some (r23 && ((!b18) || (r12.2.2 == r22.2.2)))
 ) fun (K1 : (Bool × (List Tq0) × (List Tq1)) → Option Bool) =>
 f3_L0 x2 x3 x4 K1 FUEL (true, 0, r12.1, r12.2.1)
 )
 )
end Go.Abs
namespace Go.Abs
theorem chk_pos {p : Prop} [Decidable p] {α : Type} {x : Option α} (h : p) : chk p x = x := if_pos h
theorem ifd_pos {p : Prop} [Decidable p] {α : Type} {x y : α} (h : p) : (if decide p = true then x else y) = x := if_pos (decide_eq_true h)
theorem ifd_neg {p : Prop} [Decidable p] {α : Type} {x y : α} (h : ¬ p) : (if decide p = true then x else y) = y := if_neg (by simpa using h)
theorem jn_eq {α β : Type} (K : α → Option β) (x : (α → Option β) → Option β) : jn K x = x K := rfl
theorem optc_t {α β : Type} [Inhabited α] {x : Option α} {k : α → Option β} : optc true x k = x.bind k := rfl
theorem optc_f {α β : Type} [Inhabited α] {x : Option α} {k : α → Option β} : optc false x k = k default := rfl
theorem some_bind {α β : Type} (a : α) (f : α → Option β) : (some a).bind f = f a := rfl
theorem abc_eq {α : Type} [DecidableEq α] {q : Prop} [Decidable q] {x y : Option α} (h : q → x = y) : abc q x y = y := by
 unfold abc both
 split
 ·rename_i hq; rw [h hq]; simp
 ·rfl
theorem fuel_lt {n : Nat} (h : n ≤ 18446744073709551615) : n < FUEL := by unfold FUEL; omega
theorem getD_drop {α : Type} (x : List α) (n : Nat) (d : α) (h : n < x.length) : x.drop n = x.getD n d :: x.drop (n + 1) := by
 rw [List.drop_eq_getElem_cons h]
 simp [List.getD_eq_getElem?_getD, h]
theorem fold_up {α S R : Type} (L : Nat → Nat × S → Option R) (x : List α) (d : α) (Inv : Nat → S → Prop) (g : S → α → S) (K : S → Option R)
  (h : ∀ k n s, n < x.length → Inv n s → L (k + 1) (n, s) = L k (n + 1, g s (x.getD n d)))
  (hI : ∀ n s, n < x.length → Inv n s → Inv (n + 1) (g s (x.getD n d)))
  (he : ∀ k s, Inv x.length s → L (k + 1) (x.length, s) = K s) : ∀ c k n s, n + c = x.length → c < k → Inv n s → L k (n, s) = K ((x.drop n).foldl g s)
 | 0, k, n, s, hn, hk, hi => by
  obtain ⟨k, rfl⟩ : ∃ q, k = q + 1 := ⟨k - 1, by omega⟩
  obtain rfl : n = x.length := by omega
  rw [he k s hi, List.drop_eq_nil_of_le (Nat.le_refl _)]; rfl
 | c + 1, k, n, s, hn, hk, hi => by
  obtain ⟨k, rfl⟩ : ∃ q, k = q + 1 := ⟨k - 1, by omega⟩
  have hlt : n < x.length := by omega
  rw [h k n s hlt hi, getD_drop x n d hlt]
  exact fold_up L x d Inv g K h hI he c k (n + 1) _ (by omega) (by omega) (hI n s hlt hi)
theorem foldl_inv {α S : Type} (Inv : Nat → S → Prop) (g : S → α → S) (d : α) (x : List α) (hI : ∀ n s, n < x.length → Inv n s → Inv (n + 1) (g s (x.getD n d))) (s : S) (h0 : Inv 0 s) : Inv x.length (x.foldl g s) := by
 suffices H : ∀ c n s, n + c = x.length → Inv n s → Inv x.length ((x.drop n).foldl g s) by simpa using H x.length 0 s (by omega) h0
 intro c
 induction c with
 | zero =>
  intro n s hn hi
  obtain rfl : n = x.length := by omega
  rw [List.drop_eq_nil_of_le (Nat.le_refl _)]; exact hi
 | succ c ih =>
  intro n s hn hi
  have hlt : n < x.length := by omega
  rw [getD_drop x n d hlt]
  exact ih (n + 1) _ (by omega) (hI n s hlt hi)
theorem find_up {α R : Type} (L : Nat → Nat → Option R) (x : List α) (d : α) (p : α → Bool) (r : Nat → Option R) (K : Option R)
  (h : ∀ k n, n < x.length → L (k + 1) n = if p (x.getD n d) = true then r n else L k (n + 1))
  (he : ∀ k, L (k + 1) x.length = K) : ∀ c k n, n + c = x.length → c < k →
   (∃ m, n ≤ m ∧ m < x.length ∧ p (x.getD m d) = true ∧ L k n = r m ∧ (x.drop n).any p = true) ∨ (L k n = K ∧ (x.drop n).any p = false)
 | 0, k, n, hn, hk => by
  obtain ⟨k, rfl⟩ : ∃ q, k = q + 1 := ⟨k - 1, by omega⟩
  obtain rfl : n = x.length := by omega
  exact .inr ⟨he k, by rw [List.drop_eq_nil_of_le (Nat.le_refl _)]; rfl⟩
 | c + 1, k, n, hn, hk => by
  obtain ⟨k, rfl⟩ : ∃ q, k = q + 1 := ⟨k - 1, by omega⟩
  have hlt : n < x.length := by omega
  rw [h k n hlt, getD_drop x n d hlt]
  by_cases hp : p (x.getD n d) = true
  ·rw [if_pos hp]; exact .inl ⟨n, Nat.le_refl _, hlt, hp, rfl, by rw [List.any_cons, hp]; rfl⟩
  ·rw [if_neg hp]
   have hp' : p (x.getD n d) = false := by simpa using hp
   rw [List.any_cons, hp', Bool.false_or]
   rcases find_up L x d p r K h he c k (n + 1) (by omega) (by omega) with ⟨m, h1, h2⟩ | h2
   ·exact .inl ⟨m, by omega, h2⟩
   ·exact .inr h2
theorem any_up {α R : Type} (L : Nat → Nat → Option R) (x : List α) (d : α) (p : α → Bool) (r : Option R) (K : Option R)
  (h : ∀ k n, n < x.length → L (k + 1) n = if p (x.getD n d) = true then r else L k (n + 1))
  (he : ∀ k, L (k + 1) x.length = K) (k : Nat) (hk : x.length < k) : L k 0 = if x.any p = true then r else K := by
 rcases find_up L x d p (fun _ => r) K h he x.length k 0 (by omega) hk with ⟨m, _, _, _, h1, h2⟩ | ⟨h1, h2⟩
 ·rw [h1, if_pos (by simpa using h2)]
 ·rw [h1, if_neg (by simpa using h2)]
end Go.Abs
