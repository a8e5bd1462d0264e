/- Part 15 of the proof: XCtz, Pure1, Srt2, Fam, Fam2, FamF, PlCtz. -/
import Derived.Test.YtjgboohpholnbaaGreatDoorTpcomZ14
import Derived.Test.YtjgboohpholnbaaGreatDoorProg
namespace Go.Abs
open Go Go.Proofs
set_option maxRecDepth 100000
set_option maxHeartbeats 4000000
abbrev tR := @thenQ_ret
abbrev bR := @bodyQ_ret
abbrev tN := @thenQ_normal
theorem Tryz_mixed : Tryz.prog.follows .mixedOrders = true := by kernel_rfl
def T0 : List Nat := [0, 1, 28, 2, 29, 14, 24, 3, 30, 22, 20, 15, 25, 17, 4, 8, 31, 27, 13, 23, 21, 19, 16, 7, 26, 12, 18, 6, 11, 5, 10, 9]
def T0F : Nat → Nat → V := fun _ j => .int .u8 ((T0.getD j 0 : Nat) : Int)
def cs0 : List UInt8 := [0, 1, 1, 2, 1, 2, 2, 3, 1, 2, 2, 3, 2, 3, 3, 4, 1, 2, 2, 3, 2, 3, 3, 4, 2, 3, 3, 4, 3, 4, 4, 5, 1, 2, 2, 3, 2, 3, 3, 4, 2, 3, 3, 4, 3, 4, 4, 5, 2, 3, 3, 4, 3, 4, 4, 5, 3, 4, 4, 5, 4, 5, 5, 6, 1, 2, 2, 3, 2, 3, 3, 4, 2, 3, 3, 4, 3, 4, 4, 5, 2, 3, 3, 4, 3, 4, 4, 5, 3, 4, 4, 5, 4, 5, 5, 6, 2, 3, 3, 4, 3, 4, 4, 5, 3, 4, 4, 5, 4, 5, 5, 6, 3, 4, 4, 5, 4, 5, 5, 6, 4, 5, 5, 6, 5, 6, 6, 7, 1, 2, 2, 3, 2, 3, 3, 4, 2, 3, 3, 4, 3, 4, 4, 5, 2, 3, 3, 4, 3, 4, 4, 5, 3, 4, 4, 5, 4, 5, 5, 6, 2, 3, 3, 4, 3, 4, 4, 5, 3, 4, 4, 5, 4, 5, 5, 6, 3, 4, 4, 5, 4, 5, 5, 6, 4, 5, 5, 6, 5, 6, 6, 7, 2, 3, 3, 4, 3, 4, 4, 5, 3, 4, 4, 5, 4, 5, 5, 6, 3, 4, 4, 5, 4, 5, 5, 6, 4, 5, 5, 6, 5, 6, 6, 7, 3, 4, 4, 5, 4, 5, 5, 6, 4, 5, 5, 6, 5, 6, 6, 7, 4, 5, 5, 6, 5, 6, 6, 7, 5, 6, 6, 7, 6, 7, 7, 8]
def eI (x : Int) : List V := [.int .i64 x]
abbrev q1aI (l : List (Int)) : V := vL 1 eI 0 l
abbrev q1w16 (i : Int) : BitVec 16 := BitVec.ofInt 16 i
theorem q1rq {Q : Exit → S → Prop} {id : Nat} {draw : Bool} {y : Code} (W : List Nat) (calls : List (Nat × CC)) {l : List Oper} {s : S} (s' : S) {φ : Prop} (hφ : φ) (hQ : AWp Tryz.prog y Q s') (h : Abs.regC Tryz.prog W draw calls (s'.t.map (·.1)) (s'.h.map (·.1)) l s = some (s', φ) := by kernel_rfl) : AWp Tryz.prog (.seq (.region id l.toArray draw) y) Q s := AWp.sq W calls _ _ s' φ Tryz_mixed h hφ hQ
theorem q1rr {Q : Exit → S → Prop} {id : Nat} {draw : Bool} (W : List Nat) (calls : List (Nat × CC)) {l : List Oper} {s : S} (s' : S) {φ : Prop} (hφ : φ) (hQ : Q .normal s') (h : Abs.regC Tryz.prog W draw calls (s'.t.map (·.1)) (s'.h.map (·.1)) l s = some (s', φ) := by kernel_rfl) : AWp Tryz.prog (.region id l.toArray draw) Q s := AWp.regC W calls _ _ s' φ Tryz_mixed h hφ hQ
def f69 (x1 : BitVec 16) : Option Int :=
 chk ((((x1 >>> 8).toNat : Nat) : Int) < ((cs0.length : Nat) : Int)) <|
 chk ((((x1 &&& (BitVec.ofInt 16 255)).toNat : Nat) : Int) < ((cs0.length : Nat) : Int)) <|
 chk (((((cs0.getD ((x1 >>> 8).toNat) 0).toNat : Nat) : Int) + (((cs0.getD ((x1 &&& (BitVec.ofInt 16 255)).toNat) 0).toNat : Nat) : Int)) ≤ 255) <|
 chk (((((cs0.getD ((x1 >>> 8).toNat) 0).toNat + (cs0.getD ((x1 &&& (BitVec.ofInt 16 255)).toNat) 0).toNat) : Nat) : Int) ≤ 9223372036854775807) <|
 some ((((cs0.getD ((x1 >>> 8).toNat) 0).toNat + (cs0.getD ((x1 &&& (BitVec.ofInt 16 255)).toNat) 0).toNat) : Nat) : Int)
theorem f69_ok  (x1 : TB) (r : Int) (h : f69 x1 = some r)  : Spec1 Tryz.prog 69 [] [] [] [.b16 x1] (.int .i64 r) [] := by
 unfold f69 at h
 refine Spec1.body 0 _ _ Tryz.func69 rfl Tryz.ntmps69 rfl rfl ?_
 refine q1rq [] [] ⟨11, [(0, .b16 x1)], [], [], 0⟩ trivial ?_
 refine AWp.seq ?_
 have ob0 : 0 ≤ (8 : Int) := by first | decide | omega | simp | (intro h; cases h)
 obtain ⟨ob1p, h⟩ := chk_some h
 have ob1 : 0 ≤ (((x1 >>> 8).toNat : Nat) : Int) ∧ (((x1 >>> 8).toNat : Nat) : Int) < ((cs0.length : Nat) : Int) := ⟨by omega, ob1p⟩
 obtain ⟨ob2p, h⟩ := chk_some h
 have ob2 : 0 ≤ (((x1 &&& (q1w16 255)).toNat : Nat) : Int) ∧ (((x1 &&& (q1w16 255)).toNat : Nat) : Int) < ((cs0.length : Nat) : Int) := ⟨by omega, ob2p⟩
 obtain ⟨ob3p, h⟩ := chk_some h
 have ob3 : 0 ≤ ((((cs0.getD ((x1 >>> 8).toNat) 0).toNat : Nat) : Int) + (((cs0.getD ((x1 &&& (q1w16 255)).toNat) 0).toNat : Nat) : Int)) ∧ ((((cs0.getD ((x1 >>> 8).toNat) 0).toNat : Nat) : Int) + (((cs0.getD ((x1 &&& (q1w16 255)).toNat) 0).toNat : Nat) : Int)) ≤ 255 := ⟨by omega, ob3p⟩
 obtain ⟨ob4p, h⟩ := chk_some h
 have ob4 : -9223372036854775808 ≤ ((((cs0.getD ((x1 >>> 8).toNat) 0).toNat + (cs0.getD ((x1 &&& (q1w16 255)).toNat) 0).toNat) : Nat) : Int) ∧ ((((cs0.getD ((x1 >>> 8).toNat) 0).toNat + (cs0.getD ((x1 &&& (q1w16 255)).toNat) 0).toNat) : Nat) : Int) ≤ 9223372036854775807 := ⟨by omega, ob4p⟩
 refine q1rr [] [] ⟨11, [(2, .i ((((cs0.getD ((x1 >>> 8).toNat) 0).toNat + (cs0.getD ((x1 &&& (q1w16 255)).toNat) 0).toNat) : Nat) : Int))], [], [], 0⟩ (an5 ob0 ob1 ob2 ob3 ob4) ?_
 refine tN ?_
 have hret := oJ h
 subst hret
 refine AWp.le (Le.mk (s' := ⟨11, [(2, .i ((((cs0.getD ((x1 >>> 8).toNat) 0).toNat + (cs0.getD ((x1 &&& (q1w16 255)).toNat) 0).toNat) : Nat) : Int))], [], [], 0⟩) rfl rfl ⟨.refl _, trivial⟩ trivial) ?_
 refine AWp.ret ?_
 exact bR _ rfl ⟨rfl, rfl⟩ rfl
def f45 (x1 : BitVec 16) : Option Int :=
 (f69 x1).bind fun (r2 : Int) =>
 some r2
theorem f45_ok  (x1 : TB) (r : Int) (h : f45 x1 = some r)  : Spec1 Tryz.prog 45 [] [] [] [.b16 x1] (.int .i64 r) [] := by
 unfold f45 at h
 refine Spec1.body 0 _ _ Tryz.func45 rfl Tryz.ntmps45 rfl rfl ?_
 refine q1rq [] [] ⟨5, [(0, .b16 x1)], [], [], 0⟩ trivial ?_
 refine AWp.seq ?_
 obtain ⟨r2, hr2, h⟩ := bind_ok h
 refine q1rr [] [(1, ⟨[.b16 x1], [], [], [], .i r2, [], [], []⟩)] ⟨5, [(2, .i r2)], [], [], 0⟩ (an1 (cpT (f69_ok _ _ hr2))) ?_
 refine tN ?_
 have hret := oJ h
 subst hret
 refine AWp.le (Le.mk (s' := ⟨5, [(2, .i r2)], [], [], 0⟩) rfl rfl ⟨.refl _, trivial⟩ trivial) ?_
 refine AWp.ret ?_
 exact bR _ rfl ⟨rfl, rfl⟩ rfl
def f84 (x1 : Int) : Option Bool :=
 some (x1 != x1)
theorem f84_ok  (x1 : Int) (r : Bool) (h : f84 x1 = some r)  : Spec1 Tryz.prog 84 [] [] [] [.int .i64 x1] (.bool r) [] := by
 unfold f84 at h
 refine Spec1.body 0 _ _ Tryz.func84 rfl Tryz.ntmps84 rfl rfl ?_
 refine q1rq [] [] ⟨6, [(0, .i x1)], [], [], 0⟩ trivial ?_
 refine q1rq [] [] ⟨6, [(2, .bool (x1 != x1))], [], [], 0⟩ trivial ?_
 have hret := oJ h
 subst hret
 refine AWp.le (Le.mk (s' := ⟨6, [(2, .bool (x1 != x1))], [], [], 0⟩) rfl rfl ⟨.refl _, trivial⟩ trivial) ?_
 refine AWp.ret ?_
 exact bR _ rfl ⟨rfl, rfl⟩ rfl
def f67 (x1 : Int) (x2 : Int) : Option Int :=
 (f84 x1).bind fun (r3 : Bool) =>
 (f84 x2).bind fun (r4 : Bool) =>
 if r3 then (
 if r4 then (
 some (0 : Int)
 ) else (
 some (-1 : Int)
 )
 ) else (
 if r4 then (
 some (1 : Int)
 ) else (
 if (decide (x1 < x2)) then (
 some (-1 : Int)
 ) else (
 if (decide (x1 > x2)) then (
 some (1 : Int)
 ) else (
 some (0 : Int)
 )
 )
 )
 )
theorem f67_ok  (x1 : Int) (x2 : Int) (r : Int) (h : f67 x1 x2 = some r)  : Spec1 Tryz.prog 67 [] [] [] [.int .i64 x1, .int .i64 x2] (.int .i64 r) [] := by
 unfold f67 at h
 refine Spec1.body 0 _ _ Tryz.func67 rfl Tryz.ntmps67 rfl rfl ?_
 refine q1rq [] [] ⟨20, [(0, .i x1), (1, .i x2)], [], [], 0⟩ trivial ?_
 refine AWp.seq ?_
 obtain ⟨r3, hr3, h⟩ := bind_ok h
 refine q1rr [] [(1, ⟨[.i x1], [], [], [], .bool r3, [], [], []⟩)] ⟨20, [(0, .i x1), (1, .i x2), (5, .bool r3)], [], [], 0⟩ (an1 (cpT (f84_ok _ _ hr3))) ?_
 refine tN ?_
 refine AWp.seq ?_
 obtain ⟨r4, hr4, h⟩ := bind_ok h
 refine q1rr [] [(1, ⟨[.i x2], [], [], [], .bool r4, [], [], []⟩)] ⟨20, [(0, .i x1), (1, .i x2), (5, .bool r3), (6, .bool r4)], [], [], 0⟩ (an1 (cpT (f84_ok _ _ hr4))) ?_
 refine tN ?_
 refine AWp.seq ?_
 refine q1rq [] [] ⟨20, [(0, .i x1), (1, .i x2), (6, .bool r4), (11, .bool r3)], [], [], 0⟩ trivial ?_
 refine AWp.cond (b := r3) (by kernel_rfl) (fun hc1 => ?_) (fun hc1 => ?_)
 ·
  replace h := ite_tb hc1 h
  refine AWp.seq ?_
  refine q1rq [] [] ⟨20, [(12, .bool r4)], [], [], 0⟩ trivial ?_
  refine AWp.cond (b := r4) (by kernel_rfl) (fun hc2 => ?_) (fun hc2 => ?_)
  ·
   replace h := ite_tb hc2 h
   refine q1rq [] [] ⟨20, [(4, .i (0 : Int))], [], [], 0⟩ trivial ?_
   have hret := oJ h
   subst hret
   refine AWp.le (Le.mk (s' := ⟨20, [(4, .i (0 : Int))], [], [], 0⟩) rfl rfl ⟨.refl _, trivial⟩ trivial) ?_
   refine AWp.ret ?_
   refine tR ?_
   refine tR ?_
   exact bR _ rfl ⟨rfl, rfl⟩ rfl
  ·
   replace h := ite_fb hc2 h
   refine AWp.skip ?_
   refine tN ?_
   refine q1rq [] [] ⟨20, [(4, .i (-1 : Int))], [], [], 0⟩ trivial ?_
   have hret := oJ h
   subst hret
   refine AWp.le (Le.mk (s' := ⟨20, [(4, .i (-1 : Int))], [], [], 0⟩) rfl rfl ⟨.refl _, trivial⟩ trivial) ?_
   refine AWp.ret ?_
   refine tR ?_
   exact bR _ rfl ⟨rfl, rfl⟩ rfl
 ·
  replace h := ite_fb hc1 h
  refine AWp.skip ?_
  refine tN ?_
  refine AWp.seq ?_
  refine q1rq [] [] ⟨20, [(0, .i x1), (1, .i x2), (13, .bool r4)], [], [], 0⟩ trivial ?_
  refine AWp.cond (b := r4) (by kernel_rfl) (fun hc3 => ?_) (fun hc3 => ?_)
  ·
   replace h := ite_tb hc3 h
   refine q1rq [] [] ⟨20, [(4, .i (1 : Int))], [], [], 0⟩ trivial ?_
   have hret := oJ h
   subst hret
   refine AWp.le (Le.mk (s' := ⟨20, [(4, .i (1 : Int))], [], [], 0⟩) rfl rfl ⟨.refl _, trivial⟩ trivial) ?_
   refine AWp.ret ?_
   refine tR ?_
   exact bR _ rfl ⟨rfl, rfl⟩ rfl
  ·
   replace h := ite_fb hc3 h
   refine AWp.skip ?_
   refine tN ?_
   refine AWp.seq ?_
   refine q1rq [] [] ⟨20, [(0, .i x1), (1, .i x2), (16, .bool (decide (x1 < x2)))], [], [], 0⟩ trivial ?_
   refine AWp.cond (b := (decide (x1 < x2))) (by kernel_rfl) (fun hc4 => ?_) (fun hc4 => ?_)
   ·
    replace h := ite_tb hc4 h
    refine q1rq [] [] ⟨20, [(4, .i (-1 : Int))], [], [], 0⟩ trivial ?_
    have hret := oJ h
    subst hret
    refine AWp.le (Le.mk (s' := ⟨20, [(4, .i (-1 : Int))], [], [], 0⟩) rfl rfl ⟨.refl _, trivial⟩ trivial) ?_
    refine AWp.ret ?_
    refine tR ?_
    exact bR _ rfl ⟨rfl, rfl⟩ rfl
   ·
    replace h := ite_fb hc4 h
    refine AWp.skip ?_
    refine tN ?_
    refine AWp.seq ?_
    refine q1rq [] [] ⟨20, [(19, .bool (decide (x1 > x2)))], [], [], 0⟩ trivial ?_
    refine AWp.cond (b := (decide (x1 > x2))) (by kernel_rfl) (fun hc5 => ?_) (fun hc5 => ?_)
    ·
     replace h := ite_tb hc5 h
     refine q1rq [] [] ⟨20, [(4, .i (1 : Int))], [], [], 0⟩ trivial ?_
     have hret := oJ h
     subst hret
     refine AWp.le (Le.mk (s' := ⟨20, [(4, .i (1 : Int))], [], [], 0⟩) rfl rfl ⟨.refl _, trivial⟩ trivial) ?_
     refine AWp.ret ?_
     refine tR ?_
     exact bR _ rfl ⟨rfl, rfl⟩ rfl
    ·
     replace h := ite_fb hc5 h
     refine AWp.skip ?_
     refine tN ?_
     refine q1rq [] [] ⟨20, [(4, .i (0 : Int))], [], [], 0⟩ trivial ?_
     have hret := oJ h
     subst hret
     refine AWp.le (Le.mk (s' := ⟨20, [(4, .i (0 : Int))], [], [], 0⟩) rfl rfl ⟨.refl _, trivial⟩ trivial) ?_
     refine AWp.ret ?_
     exact bR _ rfl ⟨rfl, rfl⟩ rfl
def f85 (x1 : BitVec 16) : Option Bool :=
 some (!(x1 == x1))
theorem f85_ok  (x1 : TB) (r : Bool) (h : f85 x1 = some r)  : Spec1 Tryz.prog 85 [] [] [] [.b16 x1] (.bool r) [] := by
 unfold f85 at h
 refine Spec1.body 0 _ _ Tryz.func85 rfl Tryz.ntmps85 rfl rfl ?_
 refine q1rq [] [] ⟨6, [(0, .b16 x1)], [], [], 0⟩ trivial ?_
 refine q1rq [] [] ⟨6, [(2, .bool (!(x1 == x1)))], [], [], 0⟩ trivial ?_
 have hret := oJ h
 subst hret
 refine AWp.le (Le.mk (s' := ⟨6, [(2, .bool (!(x1 == x1)))], [], [], 0⟩) rfl rfl ⟨.refl _, trivial⟩ trivial) ?_
 refine AWp.ret ?_
 exact bR _ rfl ⟨rfl, rfl⟩ rfl
def f68 (x1 : BitVec 16) (x2 : BitVec 16) : Option Int :=
 (f85 x1).bind fun (r3 : Bool) =>
 (f85 x2).bind fun (r4 : Bool) =>
 if r3 then (
 if r4 then (
 some (0 : Int)
 ) else (
 some (-1 : Int)
 )
 ) else (
 if r4 then (
 some (1 : Int)
 ) else (
 if (decide (x1.toNat < x2.toNat)) then (
 some (-1 : Int)
 ) else (
 if (decide (x1.toNat > x2.toNat)) then (
 some (1 : Int)
 ) else (
 some (0 : Int)
 )
 )
 )
 )
theorem f68_ok  (x1 : TB) (x2 : TB) (r : Int) (h : f68 x1 x2 = some r)  : Spec1 Tryz.prog 68 [] [] [] [.b16 x1, .b16 x2] (.int .i64 r) [] := by
 unfold f68 at h
 refine Spec1.body 0 _ _ Tryz.func68 rfl Tryz.ntmps68 rfl rfl ?_
 refine q1rq [] [] ⟨20, [(0, .b16 x1), (1, .b16 x2)], [], [], 0⟩ trivial ?_
 refine AWp.seq ?_
 obtain ⟨r3, hr3, h⟩ := bind_ok h
 refine q1rr [] [(1, ⟨[.b16 x1], [], [], [], .bool r3, [], [], []⟩)] ⟨20, [(0, .b16 x1), (1, .b16 x2), (5, .bool r3)], [], [], 0⟩ (an1 (cpT (f85_ok _ _ hr3))) ?_
 refine tN ?_
 refine AWp.seq ?_
 obtain ⟨r4, hr4, h⟩ := bind_ok h
 refine q1rr [] [(1, ⟨[.b16 x2], [], [], [], .bool r4, [], [], []⟩)] ⟨20, [(0, .b16 x1), (1, .b16 x2), (5, .bool r3), (6, .bool r4)], [], [], 0⟩ (an1 (cpT (f85_ok _ _ hr4))) ?_
 refine tN ?_
 refine AWp.seq ?_
 refine q1rq [] [] ⟨20, [(0, .b16 x1), (1, .b16 x2), (6, .bool r4), (11, .bool r3)], [], [], 0⟩ trivial ?_
 refine AWp.cond (b := r3) (by kernel_rfl) (fun hc1 => ?_) (fun hc1 => ?_)
 ·
  replace h := ite_tb hc1 h
  refine AWp.seq ?_
  refine q1rq [] [] ⟨20, [(12, .bool r4)], [], [], 0⟩ trivial ?_
  refine AWp.cond (b := r4) (by kernel_rfl) (fun hc2 => ?_) (fun hc2 => ?_)
  ·
   replace h := ite_tb hc2 h
   refine q1rq [] [] ⟨20, [(4, .i (0 : Int))], [], [], 0⟩ trivial ?_
   have hret := oJ h
   subst hret
   refine AWp.le (Le.mk (s' := ⟨20, [(4, .i (0 : Int))], [], [], 0⟩) rfl rfl ⟨.refl _, trivial⟩ trivial) ?_
   refine AWp.ret ?_
   refine tR ?_
   refine tR ?_
   exact bR _ rfl ⟨rfl, rfl⟩ rfl
  ·
   replace h := ite_fb hc2 h
   refine AWp.skip ?_
   refine tN ?_
   refine q1rq [] [] ⟨20, [(4, .i (-1 : Int))], [], [], 0⟩ trivial ?_
   have hret := oJ h
   subst hret
   refine AWp.le (Le.mk (s' := ⟨20, [(4, .i (-1 : Int))], [], [], 0⟩) rfl rfl ⟨.refl _, trivial⟩ trivial) ?_
   refine AWp.ret ?_
   refine tR ?_
   exact bR _ rfl ⟨rfl, rfl⟩ rfl
 ·
  replace h := ite_fb hc1 h
  refine AWp.skip ?_
  refine tN ?_
  refine AWp.seq ?_
  refine q1rq [] [] ⟨20, [(0, .b16 x1), (1, .b16 x2), (13, .bool r4)], [], [], 0⟩ trivial ?_
  refine AWp.cond (b := r4) (by kernel_rfl) (fun hc3 => ?_) (fun hc3 => ?_)
  ·
   replace h := ite_tb hc3 h
   refine q1rq [] [] ⟨20, [(4, .i (1 : Int))], [], [], 0⟩ trivial ?_
   have hret := oJ h
   subst hret
   refine AWp.le (Le.mk (s' := ⟨20, [(4, .i (1 : Int))], [], [], 0⟩) rfl rfl ⟨.refl _, trivial⟩ trivial) ?_
   refine AWp.ret ?_
   refine tR ?_
   exact bR _ rfl ⟨rfl, rfl⟩ rfl
  ·
   replace h := ite_fb hc3 h
   refine AWp.skip ?_
   refine tN ?_
   refine AWp.seq ?_
   refine q1rq [] [] ⟨20, [(0, .b16 x1), (1, .b16 x2), (16, .bool (decide (x1.toNat < x2.toNat)))], [], [], 0⟩ trivial ?_
   refine AWp.cond (b := (decide (x1.toNat < x2.toNat))) (by kernel_rfl) (fun hc4 => ?_) (fun hc4 => ?_)
   ·
    replace h := ite_tb hc4 h
    refine q1rq [] [] ⟨20, [(4, .i (-1 : Int))], [], [], 0⟩ trivial ?_
    have hret := oJ h
    subst hret
    refine AWp.le (Le.mk (s' := ⟨20, [(4, .i (-1 : Int))], [], [], 0⟩) rfl rfl ⟨.refl _, trivial⟩ trivial) ?_
    refine AWp.ret ?_
    refine tR ?_
    exact bR _ rfl ⟨rfl, rfl⟩ rfl
   ·
    replace h := ite_fb hc4 h
    refine AWp.skip ?_
    refine tN ?_
    refine AWp.seq ?_
    refine q1rq [] [] ⟨20, [(19, .bool (decide (x1.toNat > x2.toNat)))], [], [], 0⟩ trivial ?_
    refine AWp.cond (b := (decide (x1.toNat > x2.toNat))) (by kernel_rfl) (fun hc5 => ?_) (fun hc5 => ?_)
    ·
     replace h := ite_tb hc5 h
     refine q1rq [] [] ⟨20, [(4, .i (1 : Int))], [], [], 0⟩ trivial ?_
     have hret := oJ h
     subst hret
     refine AWp.le (Le.mk (s' := ⟨20, [(4, .i (1 : Int))], [], [], 0⟩) rfl rfl ⟨.refl _, trivial⟩ trivial) ?_
     refine AWp.ret ?_
     refine tR ?_
     exact bR _ rfl ⟨rfl, rfl⟩ rfl
    ·
     replace h := ite_fb hc5 h
     refine AWp.skip ?_
     refine tN ?_
     refine q1rq [] [] ⟨20, [(4, .i (0 : Int))], [], [], 0⟩ trivial ?_
     have hret := oJ h
     subst hret
     refine AWp.le (Le.mk (s' := ⟨20, [(4, .i (0 : Int))], [], [], 0⟩) rfl rfl ⟨.refl _, trivial⟩ trivial) ?_
     refine AWp.ret ?_
     exact bR _ rfl ⟨rfl, rfl⟩ rfl
def f66_L0 (x1 : List Int) (K1 : Unit → Option Int) : Nat → Nat → Option Int
 | 0, _ => none
 | k + 1, n2 =>
  if (decide ((n2 : Int) < (((x1).length : Nat) : Int))) then (
  chk ((n2 : Int) < (((x1).length : Nat) : Int)) <|
  if ((x1.getD n2 0) != (0 : Int)) then (
  some (x1.getD n2 0)
  ) else (
  chk (((n2 : Int) + (1 : Int)) ≤ 9223372036854775807) <|
  (f66_L0 x1 K1 k) (n2 + 1)
  )
  ) else (
  K1 ()
  )
def f66 (x1 : List Int) : Option Int :=
 jn (fun (_ : Unit) =>
 some (0 : Int)
 ) fun (K1 : Unit → Option Int) =>
 f66_L0 x1 K1 FUEL 0
theorem f66_ok  (x1 : List Int) (r : Int) (h : f66 x1 = some r)  : Spec1 Tryz.prog 66 [] [] [] [vL 1 eI 0 x1] (.int .i64 r) [] := by
 unfold f66 at h
 refine Spec1.body 0 _ _ Tryz.func66 rfl Tryz.ntmps66 rfl rfl ?_
 refine q1rq [] [] ⟨18, [(0, q1aI x1)], [], [], 0⟩ trivial ?_
 refine q1rq [] [] ⟨18, [(0, q1aI x1), (3, .i (0 : Int))], [], [], 0⟩ trivial ?_
 obtain ⟨K1, hK1, h⟩ := jn_some h
 refine AWp.join (α := Unit) (fun (x : Unit) => match x with | () => ⟨18, [(3, .i (0 : Int))], [], [], 0⟩) (fun x => K1 x = some r) ?_ ?_
 ·
  refine q1rq [] [] ⟨18, [(3, .i (0 : Int)), (6, q1aI x1), (7, .i (lZ x1)), (8, .i (0 : Int))], [], [], 0⟩ trivial ?_
  refine AWp.block ?_
  refine AWp.loopL (α := Nat × Nat) (fun x => match x with | (_, n2) => ⟨18, [(3, .i (0 : Int)), (6, q1aI x1), (7, .i (lZ x1)), (8, .i (n2 : Int))], [], [], 0⟩) (fun x => f66_L0 x1 K1 x.1 x.2 = some r) (fun x => x.1) (FUEL, 0) (Le.mk (s' := ⟨18, [(3, .i (0 : Int)), (6, q1aI x1), (7, .i (lZ x1)), (8, .i (0 : Int))], [], [], 0⟩) rfl rfl ⟨.refl _, .refl _, .refl _, .refl _, trivial⟩ trivial) h ?_
  rintro ⟨k0, n2⟩ h
  cases k0 with
  | zero => exact nomatch (show (none : Option Int) = some r from h)
  | succ k0 =>
  obtain ⟨C0, hC0⟩ : ∃ C, C = f66_L0 x1 K1 k0 := ⟨_, rfl⟩
  replace h := (f66_L0.eq_2 ..).symm.trans h
  try rw [← hC0] at h
  refine q1rq [] [] ⟨18, [(3, .i (0 : Int)), (6, q1aI x1), (7, .i (lZ x1)), (8, .i (n2 : Int)), (9, .bool (decide ((n2 : Int) < (lZ x1))))], [], [], 0⟩ trivial ?_
  refine AWp.seq ?_
  refine AWp.cond (b := (decide ((n2 : Int) < (lZ x1)))) (by kernel_rfl) (fun hc1 => ?_) (fun hc1 => ?_)
  ·
   replace h := ite_tb hc1 h
   refine AWp.skip ?_
   refine tN ?_
   refine AWp.seq ?_
   refine AWp.block ?_
   refine AWp.seq ?_
   obtain ⟨ob0p, h⟩ := chk_some h
   have ob0 : 0 ≤ (n2 : Int) ∧ (n2 : Int) < (((x1).length : Nat) : Int) := ⟨by omega, ob0p⟩
   refine q1rr [] [] ⟨18, [(3, .i (0 : Int)), (5, .i (x1.getD n2 0)), (6, q1aI x1), (7, .i (lZ x1)), (8, .i (n2 : Int))], [], [], 0⟩ (an1 ob0) ?_
   refine tN ?_
   refine q1rq [] [] ⟨18, [(3, .i (0 : Int)), (5, .i (x1.getD n2 0)), (6, q1aI x1), (7, .i (lZ x1)), (8, .i (n2 : Int)), (14, .bool ((x1.getD n2 0) != (0 : Int)))], [], [], 0⟩ trivial ?_
   refine AWp.cond (b := ((x1.getD n2 0) != (0 : Int))) (by kernel_rfl) (fun hc2 => ?_) (fun hc2 => ?_)
   ·
    replace h := ite_tb hc2 h
    refine q1rq [] [] ⟨18, [(2, .i (x1.getD n2 0))], [], [], 0⟩ trivial ?_
    have hret := oJ h
    subst hret
    refine AWp.le (Le.mk (s' := ⟨18, [(2, .i (x1.getD n2 0))], [], [], 0⟩) rfl rfl ⟨.refl _, trivial⟩ trivial) ?_
    refine AWp.ret ?_
    refine blockQ_ret ?_
    refine tR ?_
    refine tR ?_
    refine blockQ_ret ?_
    refine joinQ_ret ?_
    exact bR _ rfl ⟨rfl, rfl⟩ rfl
   ·
    replace h := ite_fb hc2 h
    refine AWp.skip ?_
    refine blockQ_normal ?_
    refine tN ?_
    obtain ⟨ob1p, h⟩ := chk_some h
    have ob1 : -9223372036854775808 ≤ ((n2 : Int) + (1 : Int)) ∧ ((n2 : Int) + (1 : Int)) ≤ 9223372036854775807 := ⟨by omega, ob1p⟩
    refine q1rr [] [] ⟨18, [(3, .i (0 : Int)), (6, q1aI x1), (7, .i (lZ x1)), (8, .i (((n2 + 1) : Nat) : Int))], [], [], 0⟩ (an1 ob1) ?_
    rw [hC0] at h
    exact loopQ_normal (_, (n2 + 1)) (Le.mk rfl rfl ⟨.refl _, .refl _, .refl _, .refl _, trivial⟩ trivial) h (Nat.lt_succ_self _)
  ·
   replace h := ite_fb hc1 h
   refine AWp.exit ?_
   refine thenQ_exit ?_
   refine thenQ_exit ?_
   refine blockQ_same ?_
   exact joinQ_normal () (Le.mk rfl rfl ⟨.refl _, trivial⟩ trivial) h
 ·
  rintro ⟨⟩ h
  replace h := (congrFun hK1 _).symm.trans h
  refine q1rq [] [] ⟨18, [(2, .i (0 : Int))], [], [], 0⟩ trivial ?_
  have hret := oJ h
  subst hret
  refine AWp.le (Le.mk (s' := ⟨18, [(2, .i (0 : Int))], [], [], 0⟩) rfl rfl ⟨.refl _, trivial⟩ trivial) ?_
  refine AWp.ret ?_
  exact bR _ rfl ⟨rfl, rfl⟩ rfl
def f43 (x1 : BitVec 16) (x2 : BitVec 16) : Option Int :=
 (f45 x1).bind fun (r3 : Int) =>
 (f45 x2).bind fun (r4 : Int) =>
 (f67 r3 r4).bind fun (r5 : Int) =>
 (f68 x1 x2).bind fun (r6 : Int) =>
 (f66 [r5, r6]).bind fun (r7 : Int) =>
 some r7
theorem f43_ok  (x1 : TB) (x2 : TB) (r : Int) (h : f43 x1 x2 = some r)  : Spec1 Tryz.prog 43 [] [] [] [.b16 x1, .b16 x2] (.int .i64 r) [] := by
 unfold f43 at h
 refine Spec1.body 0 _ _ Tryz.func43 rfl Tryz.ntmps43 rfl rfl ?_
 refine q1rq [] [] ⟨15, [(0, .b16 x1), (1, .b16 x2)], [], [], 0⟩ trivial ?_
 refine AWp.seq ?_
 obtain ⟨r3, hr3, h⟩ := bind_ok h
 obtain ⟨r4, hr4, h⟩ := bind_ok h
 obtain ⟨r5, hr5, h⟩ := bind_ok h
 obtain ⟨r6, hr6, h⟩ := bind_ok h
 obtain ⟨r7, hr7, h⟩ := bind_ok h
 refine q1rr [] [(1, ⟨[.b16 x1], [], [], [], .i r3, [], [], []⟩), (3, ⟨[.b16 x2], [], [], [], .i r4, [], [], []⟩), (4, ⟨[.i r3, .i r4], [], [], [], .i r5, [], [], []⟩), (7, ⟨[.b16 x1, .b16 x2], [], [], [], .i r6, [], [], []⟩), (9, ⟨[q1aI [r5, r6]], [], [], [], .i r7, [], [13], []⟩)] ⟨15, [(4, .i r7)], [], [], 0⟩ (an5 (cpT (f45_ok _ _ hr3)) (cpT (f45_ok _ _ hr4)) (cpT (f67_ok _ _ _ hr5)) (cpT (f68_ok _ _ _ hr6)) (cpL (c := true) [(13, .rows 3 1 2 (lstF 1 [.i r5, .i r6]))] [13] [.own 13] (fun _ => (f66_ok _ _ hr7)) (fun _ => ⟨(VLe.of (RL.lst (enc := eI) [r5, r6] rfl rfl (fun _ => rfl))), trivial⟩) (.inr ⟨rfl, trivial⟩))) ?_
 refine tN ?_
 have hret := oJ h
 subst hret
 refine AWp.le (Le.mk (s' := ⟨15, [(4, .i r7)], [], [], 0⟩) rfl rfl ⟨.refl _, trivial⟩ trivial) ?_
 refine AWp.ret ?_
 exact bR _ rfl ⟨rfl, rfl⟩ rfl
end Go.Abs
namespace Go.Abs
def bsum (n : Nat) : Nat → Nat → Nat
 | _, 0 => 0
 | i, c + 1 => n / 2 ^ i % 2 + bsum n (i + 1) c
def sz (x : BitVec 16) : Nat := bsum x.toNat 0 16
theorem bsum_lo (n : Nat) : bsum (n % 256) 0 8 = bsum n 0 8 := by
 have h0 : n % 256 / 2 ^ 0 % 2 = n / 2 ^ 0 % 2 := by omega
 have h1 : n % 256 / 2 ^ 1 % 2 = n / 2 ^ 1 % 2 := by omega
 have h2 : n % 256 / 2 ^ 2 % 2 = n / 2 ^ 2 % 2 := by omega
 have h3 : n % 256 / 2 ^ 3 % 2 = n / 2 ^ 3 % 2 := by omega
 have h4 : n % 256 / 2 ^ 4 % 2 = n / 2 ^ 4 % 2 := by omega
 have h5 : n % 256 / 2 ^ 5 % 2 = n / 2 ^ 5 % 2 := by omega
 have h6 : n % 256 / 2 ^ 6 % 2 = n / 2 ^ 6 % 2 := by omega
 have h7 : n % 256 / 2 ^ 7 % 2 = n / 2 ^ 7 % 2 := by omega
 simp only [bsum, h0, h1, h2, h3, h4, h5, h6, h7]
theorem bsum_hi (n m : Nat) : ∀ c i, bsum (n / 2 ^ m) i c = bsum n (m + i) c
 | 0, i => rfl
 | c + 1, i => by
  simp only [bsum, bsum_hi n m c (i + 1)]
  rw [Nat.div_div_eq_div_mul, ← Nat.pow_add]
  rfl
theorem bsum_app (n : Nat) : ∀ c i d, bsum n i (c + d) = bsum n i c + bsum n (i + c) d
 | 0, i, d => by simp [bsum]
 | c + 1, i, d => by
  rw [show c + 1 + d = (c + d) + 1 by omega]
  simp only [bsum, bsum_app n c (i + 1) d]
  rw [show i + 1 + c = i + (c + 1) by omega]; omega
theorem bsum_split (n : Nat) : bsum (n / 256) 0 8 + bsum (n % 256) 0 8 = bsum n 0 16 := by
 have h := bsum_app n 8 0 8
 have h2 := bsum_hi n 8 8 0
 rw [bsum_lo]
 simp only [Nat.reducePow, Nat.reduceAdd] at h h2 ⊢
 omega
theorem bsum_le (n : Nat) : ∀ c i, bsum n i c ≤ c
 | 0, i => Nat.le_refl _
 | c + 1, i => by
  have := bsum_le n c (i + 1)
  have hb : n / 2 ^ i % 2 < 2 := Nat.mod_lt _ (by decide)
  simp only [bsum]; omega
def pop8 : List UInt8 := [0, 1, 1, 2, 1, 2, 2, 3, 1, 2, 2, 3, 2, 3, 3, 4, 1, 2, 2, 3, 2, 3, 3, 4, 2, 3, 3, 4, 3, 4, 4, 5, 1, 2, 2, 3, 2, 3, 3, 4, 2, 3, 3, 4, 3, 4, 4, 5, 2, 3, 3, 4, 3, 4, 4, 5, 3, 4, 4, 5, 4, 5, 5, 6, 1, 2, 2, 3, 2, 3, 3, 4, 2, 3, 3, 4, 3, 4, 4, 5, 2, 3, 3, 4, 3, 4, 4, 5, 3, 4, 4, 5, 4, 5, 5, 6, 2, 3, 3, 4, 3, 4, 4, 5, 3, 4, 4, 5, 4, 5, 5, 6, 3, 4, 4, 5, 4, 5, 5, 6, 4, 5, 5, 6, 5, 6, 6, 7, 1, 2, 2, 3, 2, 3, 3, 4, 2, 3, 3, 4, 3, 4, 4, 5, 2, 3, 3, 4, 3, 4, 4, 5, 3, 4, 4, 5, 4, 5, 5, 6, 2, 3, 3, 4, 3, 4, 4, 5, 3, 4, 4, 5, 4, 5, 5, 6, 3, 4, 4, 5, 4, 5, 5, 6, 4, 5, 5, 6, 5, 6, 6, 7, 2, 3, 3, 4, 3, 4, 4, 5, 3, 4, 4, 5, 4, 5, 5, 6, 3, 4, 4, 5, 4, 5, 5, 6, 4, 5, 5, 6, 5, 6, 6, 7, 3, 4, 4, 5, 4, 5, 5, 6, 4, 5, 5, 6, 5, 6, 6, 7, 4, 5, 5, 6, 5, 6, 6, 7, 5, 6, 6, 7, 6, 7, 7, 8]
theorem pop8_all : (List.range 256).all (fun b => (pop8.getD b 0).toNat == bsum b 0 8) = true := by decide +kernel
theorem pop8_at (b : Nat) (h : b < 256) : (pop8.getD b 0).toNat = bsum b 0 8 := by
 have := List.all_eq_true.1 pop8_all b (List.mem_range.2 h)
 simpa using this
def cmpI (a b : Int) : Int := if a < b then -1 else if a > b then 1 else 0
def ltS (a b : BitVec 16) : Bool := if sz a ≠ sz b then decide (sz a < sz b) else decide (a.toNat < b.toNat)
def key (x : BitVec 16) : Nat := sz x * 65536 + x.toNat
theorem ltS_key {a b : BitVec 16} : ltS a b = true ↔ key a < key b := by
 have ha := a.isLt
 have hb := b.isLt
 unfold ltS key
 by_cases h : sz a = sz b
 ·simp [h]
 ·simp only [ne_eq, h, not_false_eq_true, if_true, decide_eq_true_eq]
  omega
def cmpS (a b : BitVec 16) : Int := if cmpI (sz a) (sz b) ≠ 0 then cmpI (sz a) (sz b) else cmpI a.toNat b.toNat
theorem cmpS_lt (a b : BitVec 16) : decide (cmpS a b < 0) = ltS a b := by
 unfold cmpS cmpI ltS
 by_cases h : sz a = sz b
 ·simp [h]
  by_cases h2 : a.toNat < b.toNat
  ·simp [h2]
  ·simp [h2]; split <;> omega
 ·by_cases h1 : sz a < sz b
  ·simp [h, h1]
  ·have : sz b < sz a := by omega
   simp [h, h1, this]
end Go.Abs
namespace Go.Abs
section
variable {α : Type}
def insK (k : α → Nat) (a : α) : List α → List α
 | [] => [a]
 | b :: l => if k a ≤ k b then a :: b :: l else b :: insK k a l
def isortK (k : α → Nat) : List α → List α
 | [] => []
 | a :: l => insK k a (isortK k l)
variable {k : α → Nat}
theorem insK_perm (a : α) : ∀ l, (insK k a l).Perm (a :: l)
 | [] => .refl _
 | b :: l => by
  unfold insK
  split
  ·exact .refl _
  ·exact ((insK_perm a l).cons b).trans (.swap ..)
theorem isortK_perm : ∀ l, (isortK k l).Perm l
 | [] => .refl _
 | a :: l => (insK_perm a _).trans ((isortK_perm l).cons a)
theorem insK_sorted (a : α) : ∀ l, l.Pairwise (fun x y => k x ≤ k y) → (insK k a l).Pairwise fun x y => k x ≤ k y
 | [], _ => by simp [insK]
 | b :: l, h => by
  unfold insK
  rw [List.pairwise_cons] at h
  split
  ·rename_i hab
   refine List.pairwise_cons.2 ⟨fun x hx => ?_, List.pairwise_cons.2 h⟩
   rcases List.mem_cons.1 hx with rfl | hx
   ·exact hab
   ·exact Nat.le_trans hab (h.1 x hx)
  ·rename_i hab
   refine List.pairwise_cons.2 ⟨fun x hx => ?_, insK_sorted a l h.2⟩
   rcases List.mem_cons.1 ((insK_perm a l).mem_iff.1 hx) with rfl | hx
   ·omega
   ·exact h.1 x hx
theorem isortK_sorted : ∀ l, (isortK k l).Pairwise fun x y => k x ≤ k y
 | [] => .nil
 | a :: l => insK_sorted a _ (isortK_sorted l)
theorem sorted_uniq (inj : ∀ x y, k x = k y → x = y) : ∀ l1 l2 : List α, l1.Perm l2 → l1.Pairwise (fun x y => k x ≤ k y) → l2.Pairwise (fun x y => k x ≤ k y) → l1 = l2
 | [], l2, h, _, _ => (List.nil_perm.1 h).symm
 | a :: l1, [], h, _, _ => by have := h.length_eq; simp at this
 | a :: l1, b :: l2, h, h1, h2 => by
  rw [List.pairwise_cons] at h1 h2
  have e : a = b := by
   refine inj a b (Nat.le_antisymm ?_ ?_)
   ·rcases List.mem_cons.1 (h.mem_iff.2 (List.mem_cons_self (a := b) (l := l2))) with rfl | hb
    ·exact Nat.le_refl _
    ·exact h1.1 b hb
   ·rcases List.mem_cons.1 (h.mem_iff.1 (List.mem_cons_self (a := a) (l := l1))) with rfl | ha
    ·exact Nat.le_refl _
    ·exact h2.1 a ha
  subst e
  rw [sorted_uniq inj l1 l2 (List.Perm.cons_inv h) h1.2 h2.2]
theorem isortK_eq (inj : ∀ x y, k x = k y → x = y) {lt : α → α → Bool} (hlt : ∀ x y, lt x y = true ↔ k x < k y) (l : List α) : l.mergeSort (fun x y => !lt y x) = isortK k l := by
 have hle : ∀ x y, (!lt y x) = true ↔ k x ≤ k y := by
  intro x y
  have := hlt y x
  cases h : lt y x <;> simp [h] at this ⊢ <;> omega
 refine sorted_uniq inj _ _ ((List.mergeSort_perm l _).trans (isortK_perm l).symm) ?_ (isortK_sorted l)
 have := List.pairwise_mergeSort (le := fun x y => !lt y x) (fun a b c h1 h2 => (hle _ _).2 (Nat.le_trans ((hle _ _).1 h1) ((hle _ _).1 h2))) (fun a b => by
  rcases Nat.le_total (k a) (k b) with h | h
  ·rw [(hle a b).2 h]; rfl
  ·rw [(hle b a).2 h, Bool.or_true]) l
 exact this.imp fun h => (hle _ _).1 h
end
end Go.Abs
namespace Go.Abs
def sub (y x : BitVec 16) : Bool := (y &&& ~~~x) == 0#16
theorem bsum_mono {m n : Nat} : ∀ (c i : Nat), (∀ j, i ≤ j → j < i + c → m / 2 ^ j % 2 ≤ n / 2 ^ j % 2) → bsum m i c ≤ bsum n i c ∧ (bsum m i c = bsum n i c → ∀ j, i ≤ j → j < i + c → m / 2 ^ j % 2 = n / 2 ^ j % 2)
 | 0, i, _ => ⟨Nat.le_refl _, fun _ j h1 h2 => by omega⟩
 | c + 1, i, h => by
  obtain ⟨h1, h2⟩ := bsum_mono c (i + 1) fun j a b => h j (by omega) (by omega)
  have h3 := h i (Nat.le_refl _) (by omega)
  simp only [bsum]
  refine ⟨by omega, fun e j a b => ?_⟩
  by_cases hj : j = i
  ·subst hj; omega
  ·exact h2 (by omega) j (by omega) (by omega)
theorem sub_bits {x y : BitVec 16} (h : sub y x = true) (j : Nat) (hj : j < 16) : y.toNat / 2 ^ j % 2 ≤ x.toNat / 2 ^ j % 2 := by
 unfold sub at h
 rw [beq_iff_eq] at h
 have h1 := congrArg (fun z => z.getLsbD j) h
 simp [hj] at h1
 have hy : y[j] = y.toNat.testBit j := rfl
 have hx : x[j] = x.toNat.testBit j := rfl
 rw [hy, hx] at h1
 rw [Nat.testBit_eq_decide_div_mod_eq, Nat.testBit_eq_decide_div_mod_eq] at h1
 simp at h1
 have a := Nat.mod_lt (y.toNat / 2 ^ j) (show 0 < 2 by decide)
 have b := Nat.mod_lt (x.toNat / 2 ^ j) (show 0 < 2 by decide)
 omega
theorem sub_sz {x y : BitVec 16} (h : sub y x = true) : sz y ≤ sz x ∧ (sz y = sz x → y = x) := by
 obtain ⟨h1, h2⟩ := bsum_mono (m := y.toNat) (n := x.toNat) 16 0 fun j _ hj => sub_bits h j (by omega)
 refine ⟨h1, fun e => ?_⟩
 apply BitVec.eq_of_toNat_eq
 apply Nat.eq_of_testBit_eq
 intro i
 by_cases hi : i < 16
 ·rw [Nat.testBit_eq_decide_div_mod_eq, Nat.testBit_eq_decide_div_mod_eq, h2 e i (by omega) (by omega)]
 ·rw [Nat.testBit_lt_two_pow (Nat.lt_of_lt_of_le y.isLt (Nat.pow_le_pow_right (n := 2) (by decide) (by omega))), Nat.testBit_lt_two_pow (Nat.lt_of_lt_of_le x.isLt (Nat.pow_le_pow_right (n := 2) (by decide) (by omega)))]
theorem sub_iff {x y : BitVec 16} : sub y x = true ↔ ∀ i, i < 16 → y.getLsbD i = true → x.getLsbD i = true := by
 unfold sub
 rw [beq_iff_eq]
 constructor
 ·intro h i hi hy
  have h1 := congrArg (fun z => z.getLsbD i) h
  rw [BitVec.getLsbD_eq_getElem hi] at hy ⊢
  simp [hi] at h1
  exact h1 hy
 ·intro h
  apply BitVec.eq_of_getLsbD_eq
  intro i hi
  have := h i hi
  simp only [BitVec.getLsbD_eq_getElem hi] at this
  simp [hi]
  exact this
theorem sub_refl (x : BitVec 16) : sub x x = true := sub_iff.2 fun _ _ h => h
theorem sub_trans {x y z : BitVec 16} (h1 : sub x y = true) (h2 : sub y z = true) : sub x z = true := sub_iff.2 fun i hi h => sub_iff.1 h2 i hi (sub_iff.1 h1 i hi h)
theorem sub_key {x y : BitVec 16} (h : sub y x = true) (hne : y ≠ x) : key y < key x := by
 obtain ⟨h1, h2⟩ := sub_sz h
 have : sz y ≠ sz x := fun e => hne (h2 e)
 have hy := y.isLt
 unfold key; omega
theorem key_lt (x : BitVec 16) : key x < 2000000 := by
 have := bsum_le x.toNat 16 0
 have := x.isLt
 unfold key sz; omega
theorem key_inj' {x y : BitVec 16} (h : key x = key y) : x = y := by
 have h1 := x.isLt
 have h2 := y.isLt
 unfold key at h
 exact BitVec.eq_of_toNat_eq (by omega)
def ddS {α : Type} [DecidableEq α] (acc : List α) (a : α) : List α := if acc.getLast? = some a then acc else acc ++ [a]
def dd {α : Type} [DecidableEq α] (l : List α) : List α := l.foldl ddS []
section
variable {α : Type} [DecidableEq α]
theorem ddS_last (acc : List α) (a : α) : (ddS acc a).getLast? = some a := by
 unfold ddS; split
 ·assumption
 ·simp
theorem dd_snoc (l : List α) (a : α) : dd (l ++ [a]) = ddS (dd l) a := by simp [dd]
theorem dd_last (l : List α) : (dd l).getLast? = l.getLast? := by
 rcases List.eq_nil_or_concat l with rfl | ⟨l', a, rfl⟩
 ·rfl
 ·rw [List.concat_eq_append, dd_snoc, ddS_last]; simp
theorem dd_len (l : List α) : (dd l).length ≤ l.length := by
 suffices H : ∀ (l acc : List α), (l.foldl ddS acc).length ≤ acc.length + l.length by simpa [dd] using H l []
 intro l
 induction l with
 | nil => intro acc; simp
 | cons a l ih =>
  intro acc
  have := ih (ddS acc a)
  have h2 : (ddS acc a).length ≤ acc.length + 1 := by unfold ddS; split <;> simp
  simp only [List.foldl_cons, List.length_cons]; omega
theorem dd_mem (a : α) : ∀ l : List α, a ∈ dd l ↔ a ∈ l := by
 suffices H : ∀ (l acc : List α), a ∈ l.foldl ddS acc ↔ a ∈ acc ∨ a ∈ l by intro l; simpa [dd] using H l []
 intro l
 induction l with
 | nil => intro acc; simp
 | cons b l ih =>
  intro acc
  rw [List.foldl_cons, ih]
  have : a ∈ ddS acc b ↔ a ∈ acc ∨ a = b := by
   unfold ddS; split
   ·rename_i h
    have := List.mem_of_getLast? h
    constructor
    ·exact .inl
    ·rintro (h | rfl)
     ·exact h
     ·exact this
   ·simp
  rw [this, List.mem_cons]
  constructor
  ·rintro ((h | h) | h) <;> simp [h]
  ·rintro (h | h | h) <;> simp [h]
end
theorem pairwise_snoc {α : Type} {R : α → α → Prop} {l : List α} {a : α} : (l ++ [a]).Pairwise R ↔ l.Pairwise R ∧ ∀ b ∈ l, R b a := by
 rw [List.pairwise_append]
 simp
theorem dd_strict {α : Type} [DecidableEq α] {k : α → Nat} (inj : ∀ x y, k x = k y → x = y) : ∀ n (l : List α), l.length = n → l.Pairwise (fun x y => k x ≤ k y) → (dd l).Pairwise fun x y => k x < k y
 | 0, l, hn, _ => by rw [List.length_eq_zero_iff.1 hn]; exact .nil
 | n + 1, l, hn, h => by
  rcases List.eq_nil_or_concat l with rfl | ⟨l', a, rfl⟩
  ·exact .nil
  rw [List.concat_eq_append] at h hn ⊢
  rw [pairwise_snoc] at h
  have ih := dd_strict inj n l' (by simpa using hn) h.1
  rw [dd_snoc]
  unfold ddS
  split
  ·exact ih
  ·rename_i hne
   refine pairwise_snoc.2 ⟨ih, fun b hb => ?_⟩
   have hb' := (dd_mem b l').1 hb
   have hle := h.2 b hb'
   rcases Nat.lt_or_ge (k b) (k a) with h1 | h1
   ·exact h1
   ·exfalso
    have hba : b = a := inj _ _ (by omega)
    subst hba
    -- the last one is not less than b
    apply hne
    cases hl : (dd l').getLast? with
    | none => rw [List.getLast?_eq_none_iff.1 hl] at hb; cases hb
    | some c =>
     obtain ⟨p, hp⟩ := List.getLast?_eq_some_iff.1 hl
     rw [hp] at hb ih
     rcases List.mem_append.1 hb with h3 | h3
     ·have h4 := (pairwise_snoc.1 ih).2 b h3
      have h5 : c ∈ l' := (dd_mem c l').1 (by rw [hp]; simp)
      have := h.2 c h5
      omega
     ·simp at h3; rw [h3]
theorem strict_uniq {α : Type} {k : α → Nat} (inj : ∀ x y, k x = k y → x = y) : ∀ l1 l2 : List α, (∀ a, a ∈ l1 ↔ a ∈ l2) → l1.Pairwise (fun x y => k x < k y) → l2.Pairwise (fun x y => k x < k y) → l1 = l2
 | [], [], _, _, _ => rfl
 | [], b :: l2, h, _, _ => by have := (h b).2 (List.mem_cons_self ..); cases this
 | a :: l1, [], h, _, _ => by have := (h a).1 (List.mem_cons_self ..); cases this
 | a :: l1, b :: l2, h, h1, h2 => by
  rw [List.pairwise_cons] at h1 h2
  have e : a = b := by
   rcases List.mem_cons.1 ((h a).1 (List.mem_cons_self ..)) with e | ha
   ·exact e
   ·rcases List.mem_cons.1 ((h b).2 (List.mem_cons_self ..)) with e | hb
    ·exact e.symm
    ·have := h1.1 b hb; have := h2.1 a ha; omega
  subst e
  rw [strict_uniq inj l1 l2 (fun c => ?_) h1.2 h2.2]
  have := h c
  constructor
  ·intro hc
   rcases List.mem_cons.1 (this.1 (List.mem_cons_of_mem _ hc)) with rfl | h3
   ·have := h1.1 c hc; omega
   ·exact h3
  ·intro hc
   rcases List.mem_cons.1 (this.2 (List.mem_cons_of_mem _ hc)) with rfl | h3
   ·have := h2.1 c hc; omega
   ·exact h3
def srt (l : List (BitVec 16)) : List (BitVec 16) := dd (isortK key l)
theorem srt_sorted (l : List (BitVec 16)) : (srt l).Pairwise fun x y => key x < key y := dd_strict (fun _ _ => key_inj') _ _ rfl (isortK_sorted l)
theorem mem_srt (a : BitVec 16) (l : List (BitVec 16)) : a ∈ srt l ↔ a ∈ l := (dd_mem a _).trans (isortK_perm l).mem_iff
theorem srt_len (l : List (BitVec 16)) : (srt l).length ≤ l.length := Nat.le_trans (dd_len _) (Nat.le_of_eq (isortK_perm l).length_eq)
def greedy {α : Type} (T : α → α → Bool) (s : List α) : List α := s.foldl (fun out a => if out.any (fun y => T y a) then out else out ++ [a]) []
def undom {α : Type} [DecidableEq α] (T : α → α → Bool) (s : List α) (a : α) : Bool := !(s.any fun b => b != a && T b a)
theorem undom_iff {α : Type} [DecidableEq α] {T : α → α → Bool} {s : List α} {a : α} : undom T s a = true ↔ ∀ b, b ∈ s → b ≠ a → T b a = false := by
 simp [undom, List.any_eq_false]
theorem greedy_eq {α : Type} [DecidableEq α] (T : α → α → Bool) (ord : α → Nat) (tr : ∀ x y z, T x y = true → T y z = true → T x z = true) (hT : ∀ x y, T x y = true → x ≠ y → ord x < ord y) (s : List α) (hs : s.Pairwise fun x y => ord x < ord y) :
  greedy T s = s.filter (undom T s) := by
 have down : ∀ n a b, ord b ≤ n → b ∈ s → b ≠ a → T b a = true → ∃ c, c ∈ s ∧ c ≠ a ∧ T c a = true ∧ undom T s c = true := by
  intro n
  induction n with
  | zero =>
   intro a b hb hbs hba hT'
   refine ⟨b, hbs, hba, hT', undom_iff.2 fun c hc hcb => ?_⟩
   cases h : T c b with
   | false => rfl
   | true => have := hT c b h hcb; omega
  | succ n ih =>
   intro a b hb hbs hba hT'
   cases hu : undom T s b with
   | true => exact ⟨b, hbs, hba, hT', hu⟩
   | false =>
    have : ∃ c, c ∈ s ∧ c ≠ b ∧ T c b = true := by
     simp [undom] at hu
     exact hu
    obtain ⟨c, h1, h2, h3⟩ := this
    have h4 := hT c b h3 h2
    have h5 := hT b a hT' hba
    exact ih a c (by omega) h1 (fun e => by subst e; omega) (tr _ _ _ h3 hT')
 suffices H : ∀ p q : List α, s = p ++ q → greedy T p = p.filter (undom T s) by exact H s [] (by simp)
 intro p
 suffices H : ∀ n (p : List α), p.length = n → ∀ q, s = p ++ q → greedy T p = p.filter (undom T s) by exact H p.length p rfl
 intro n
 induction n with
 | zero => intro p hp q _; rw [List.length_eq_zero_iff.1 hp]; rfl
 | succ n ih =>
  intro p hp q hq
  rcases List.eq_nil_or_concat p with rfl | ⟨p', a, rfl⟩
  ·simp at hp
  rw [List.concat_eq_append] at hq hp ⊢
  have e := ih p' (by simpa using hp) ([a] ++ q) (by rw [hq]; simp)
  have hg : greedy T (p' ++ [a]) = if (greedy T p').any (fun y => T y a) then greedy T p' else greedy T p' ++ [a] := by simp [greedy]
  rw [hg, e, List.filter_append]
  have hpa : ∀ b, b ∈ p' → ord b < ord a := by
   rw [hq] at hs
   exact (pairwise_snoc.1 (List.pairwise_append.1 hs).1).2
  have has : a ∈ s := by rw [hq]; simp
  have hafter : ∀ b, b ∈ s → ord b < ord a → b ∈ p' := by
   intro b hb hlt
   rw [hq] at hb hs
   rcases List.mem_append.1 hb with h1 | h1
   ·rcases List.mem_append.1 h1 with h2 | h2
    ·exact h2
    ·simp at h2; subst h2; omega
   ·have := (List.pairwise_append.1 hs).2.2 a (by simp) b h1; omega
  have hkey : (p'.filter (undom T s)).any (fun y => T y a) = !(undom T s a) := by
   rw [Bool.eq_iff_iff]
   constructor
   ·intro h
    obtain ⟨b, hb, hTb⟩ := List.any_eq_true.1 h
    have hb' := (List.mem_filter.1 hb).1
    have hne : b ≠ a := fun e => by have := hpa b hb'; subst e; omega
    have hbs : b ∈ s := by rw [hq]; simp [hb']
    cases hu : undom T s a with
    | false => rfl
    | true => have := undom_iff.1 hu b hbs hne; rw [this] at hTb; cases hTb
   ·intro h
    have hu : undom T s a = false := by simpa using h
    have : ∃ c, c ∈ s ∧ c ≠ a ∧ T c a = true := by
     simp [undom] at hu
     exact hu
    obtain ⟨c, h1, h2, h3⟩ := this
    obtain ⟨b, h4, h5, h6, h7⟩ := down _ a c (Nat.le_refl _) h1 h2 h3
    exact List.any_eq_true.2 ⟨b, List.mem_filter.2 ⟨hafter b h4 (hT b a h6 h5), h7⟩, h6⟩
  rw [hkey]
  cases hu : undom T s a with
  | true => simp [hu]
  | false => simp [hu]
def leastP (l : List (BitVec 16)) : List (BitVec 16) := greedy (fun y a => sub y a) (srt l)
theorem leastP_eq (l : List (BitVec 16)) : leastP l = (srt l).filter (undom (fun y a => sub y a) (srt l)) :=
 greedy_eq (fun y a => sub y a) key (fun _ _ _ h1 h2 => sub_trans h1 h2) (fun _ _ h hne => sub_key h hne) _ (srt_sorted l)
def greatestP (l : List (BitVec 16)) : List (BitVec 16) := (greedy (fun y a => sub a y) (srt l).reverse).reverse
theorem greatestP_eq (l : List (BitVec 16)) : greatestP l = (srt l).filter (undom (fun y a => sub a y) (srt l)) := by
 unfold greatestP
 rw [greedy_eq (fun y a => sub a y) (fun x => 2000000 - key x) (fun _ _ _ h1 h2 => sub_trans h2 h1) (fun x y h hne => by
  have := sub_key h (Ne.symm hne)
  have := key_lt x
  have := key_lt y
  omega) _ (by
  rw [List.pairwise_reverse]
  exact (srt_sorted l).imp fun {a b} h => by have := key_lt a; have := key_lt b; omega)]
 rw [List.filter_reverse, List.reverse_reverse]
 congr 1
 funext a
 simp [undom]
end Go.Abs
namespace Go.Abs
def acc (l : List (BitVec 16)) (t : BitVec 16) : Bool := l.any fun y => sub y t
theorem acc_iff {l : List (BitVec 16)} {t : BitVec 16} : acc l t = true ↔ ∃ y, y ∈ l ∧ sub y t = true := List.any_eq_true
theorem mem_leastP0 (l : List (BitVec 16)) (a : BitVec 16) : a ∈ leastP l ↔ a ∈ l ∧ ∀ b, b ∈ l → b ≠ a → sub b a = false := by
 rw [leastP_eq, List.mem_filter, mem_srt, undom_iff]
 constructor
 ·rintro ⟨h1, h2⟩; exact ⟨h1, fun b hb hne => h2 b ((mem_srt b l).2 hb) hne⟩
 ·rintro ⟨h1, h2⟩; exact ⟨h1, fun b hb hne => h2 b ((mem_srt b l).1 hb) hne⟩
theorem least_below (l : List (BitVec 16)) (n : Nat) : ∀ a, key a ≤ n → a ∈ l → ∃ b, b ∈ leastP l ∧ sub b a = true := by
 induction n with
 | zero =>
  intro a hn ha
  refine ⟨a, (mem_leastP0 l a).2 ⟨ha, fun b _ hne => ?_⟩, sub_refl a⟩
  cases h : sub b a with
  | false => rfl
  | true => have := sub_key h hne; omega
 | succ n ih =>
  intro a hn ha
  by_cases h : ∃ b, b ∈ l ∧ b ≠ a ∧ sub b a = true
  ·obtain ⟨b, h1, h2, h3⟩ := h
   have := sub_key h3 h2
   obtain ⟨c, h4, h5⟩ := ih b (by omega) h1
   exact ⟨c, h4, sub_trans h5 h3⟩
  ·refine ⟨a, (mem_leastP0 l a).2 ⟨ha, fun b hb hne => ?_⟩, sub_refl a⟩
   cases h' : sub b a with
   | false => rfl
   | true => exact absurd ⟨b, hb, hne, h'⟩ h
theorem acc_least (l : List (BitVec 16)) (t : BitVec 16) : acc (leastP l) t = acc l t := by
 rw [Bool.eq_iff_iff, acc_iff, acc_iff]
 constructor
 ·rintro ⟨y, h1, h2⟩; exact ⟨y, ((mem_leastP0 l y).1 h1).1, h2⟩
 ·rintro ⟨y, h1, h2⟩
  obtain ⟨b, h3, h4⟩ := least_below l _ y (Nat.le_refl _) h1
  exact ⟨b, h3, sub_trans h4 h2⟩
theorem filter_strict {l : List (BitVec 16)} {p : BitVec 16 → Bool} (h : l.Pairwise fun x y => key x < key y) : (l.filter p).Pairwise fun x y => key x < key y := List.Pairwise.filter p h
theorem leastP_strict (l : List (BitVec 16)) : (leastP l).Pairwise fun x y => key x < key y := by
 rw [leastP_eq]; exact filter_strict (srt_sorted l)
theorem sub_or (x y t : BitVec 16) : sub (x ||| y) t = (sub x t && sub y t) := by
 rw [Bool.eq_iff_iff, Bool.and_eq_true, sub_iff, sub_iff, sub_iff]
 constructor
 ·intro h
  exact ⟨fun i hi hx => h i hi (by simp [hx]), fun i hi hx => h i hi (by simp [hx])⟩
 ·rintro ⟨h1, h2⟩ i hi h
  rw [BitVec.getLsbD_or, Bool.or_eq_true] at h
  rcases h with h | h
  ·exact h1 i hi h
  ·exact h2 i hi h
theorem bit_diff (x s : BitVec 16) (i : Nat) (hi : i < 16) : (x &&& ~~~s).getLsbD i = (x.getLsbD i && !s.getLsbD i) := by
 rw [BitVec.getLsbD_and, BitVec.getLsbD_not]; simp [hi]
end Go.Abs
namespace Go.Abs
theorem strict_insert {α : Type} {k : α → Nat} (inj : ∀ x y, k x = k y → x = y) (out : List α) (x d : α) (m : Nat) (hm : m ≤ out.length) (hs : out.Pairwise fun a b => k a < k b)
  (h1 : ∀ j, j < m → k (out.getD j d) < k x) (h2 : m < out.length → ¬ k (out.getD m d) < k x) (hx : x ∉ out) : (out.take m ++ x :: out.drop m).Pairwise fun a b => k a < k b := by
 rw [List.pairwise_append]
 have hp := hs
 rw [← List.take_append_drop m out, List.pairwise_append] at hp
 have hbefore : ∀ a, a ∈ out.take m → k a < k x := by
  intro a ha
  obtain ⟨j, hj, rfl⟩ := List.getElem_of_mem ha
  simp at hj
  have := h1 j (by omega)
  have h3 : j < out.length := by omega
  simpa [List.getD_eq_getElem?_getD, h3] using this
 have hafter : ∀ a, a ∈ out.drop m → k x < k a := by
  intro a ha
  have hal := List.mem_of_mem_drop ha
  obtain ⟨j, hj, rfl⟩ := List.getElem_of_mem ha
  have hj' : j < out.length - m := by simpa using hj
  rw [List.getElem_drop] at hal ⊢
  have h3 : m + j < out.length := by omega
  have hm' : m < out.length := by omega
  have e0 : out.getD m d = out[m] := by simp [List.getD_eq_getElem?_getD, hm']
  have hm2 := h2 hm'
  rw [e0] at hm2
  have hge : k out[m] ≤ k out[m + j] := by
   by_cases e : j = 0
   ·subst e; exact Nat.le_refl _
   ·exact Nat.le_of_lt (List.pairwise_iff_getElem.1 hs m (m + j) hm' h3 (by omega))
  rcases Nat.lt_or_ge (k x) (k out[m + j]) with h4 | h4
  ·exact h4
  ·have : k x = k out[m + j] := by omega
   rw [inj _ _ this] at hx
   exact absurd (List.getElem_mem h3) hx
 refine ⟨hp.1, List.pairwise_cons.2 ⟨hafter, hp.2.1⟩, fun a ha b hb => ?_⟩
 rcases List.mem_cons.1 hb with rfl | hb
 ·exact hbefore a ha
 ·exact hp.2.2 a ha b hb
theorem mem_insert_at {α : Type} (out : List α) (x a : α) (m : Nat) : a ∈ out.take m ++ x :: out.drop m ↔ a = x ∨ a ∈ out := by
 have hm' : a ∈ out ↔ a ∈ out.take m ∨ a ∈ out.drop m := by rw [← List.mem_append, List.take_append_drop]
 simp only [List.mem_append, List.mem_cons]
 rw [hm']
 constructor
 ·rintro (h | h | h) <;> simp [h]
 ·rintro (h | h | h) <;> simp [h]
abbrev Flt := BitVec 16 × BitVec 16
def ftyS (a : Flt) : BitVec 16 := a.1 ||| a.2
def cov (b a : Flt) : Bool := sub a.1 b.1 && sub (ftyS a) (ftyS b)
def keyF (a : Flt) : Nat := key a.1 * 2000000 + key a.2
theorem keyF_inj {a b : Flt} (h : keyF a = keyF b) : a = b := by
 have h1 := key_lt a.1
 have h2 := key_lt a.2
 have h3 := key_lt b.1
 have h4 := key_lt b.2
 unfold keyF at h
 have e1 : key a.1 = key b.1 := by omega
 have e2 : key a.2 = key b.2 := by omega
 exact Prod.ext (key_inj' e1) (key_inj' e2)
theorem cov_refl (a : Flt) : cov a a = true := by unfold cov; rw [sub_refl, sub_refl]; rfl
theorem cov_trans {a b c : Flt} (h1 : cov a b = true) (h2 : cov b c = true) : cov a c = true := by
 unfold cov at *
 rw [Bool.and_eq_true] at *
 exact ⟨sub_trans h2.1 h1.1, sub_trans h2.2 h1.2⟩
def disj (a : Flt) : Prop := a.1 &&& a.2 = 0#16
theorem sub_antisymm {x y : BitVec 16} (h1 : sub x y = true) (h2 : sub y x = true) : x = y := by
 have a := sub_sz h1
 have b := sub_sz h2
 exact a.2 (by omega)
theorem disj_diff {a : Flt} (h : disj a) : a.2 = ftyS a &&& ~~~a.1 := by
 unfold disj at h
 apply BitVec.eq_of_getLsbD_eq
 intro i hi
 have h3 := congrArg (fun z => z.getLsbD i) h
 simp only [BitVec.getLsbD_and] at h3
 unfold ftyS
 rw [bit_diff _ _ i hi, BitVec.getLsbD_or]
 cases h4 : a.1.getLsbD i with
 | false => simp
 | true => rw [h4, Bool.true_and] at h3; rw [h3]; simp
theorem cov_antisymm {a b : Flt} (ha : disj a) (hb : disj b) (h1 : cov a b = true) (h2 : cov b a = true) : a = b := by
 unfold cov at *
 rw [Bool.and_eq_true] at *
 have e1 := sub_antisymm h1.1 h2.1
 have e2 := sub_antisymm h1.2 h2.2
 refine Prod.ext e1.symm ?_
 rw [disj_diff ha, disj_diff hb, e1, e2]
def srtF (l : List Flt) : List Flt := dd (isortK keyF l)
theorem srtF_sorted (l : List Flt) : (srtF l).Pairwise fun x y => keyF x < keyF y := dd_strict (fun _ _ => keyF_inj) _ _ rfl (isortK_sorted l)
theorem mem_srtF (a : Flt) (l : List Flt) : a ∈ srtF l ↔ a ∈ l := (dd_mem a _).trans (isortK_perm l).mem_iff
theorem srtF_len (l : List Flt) : (srtF l).length ≤ l.length := Nat.le_trans (dd_len _) (Nat.le_of_eq (isortK_perm l).length_eq)
def undF (l : List Flt) (a : Flt) : Bool := !(l.any fun b => a != b && cov b a)
theorem undF_iff {l : List Flt} {a : Flt} : undF l a = true ↔ ∀ b, b ∈ l → a ≠ b → cov b a = false := by
 simp [undF, List.any_eq_false]
def normP (l : List Flt) : List Flt := (srtF l).filter (undF (srtF l))
theorem mem_normP (l : List Flt) (a : Flt) : a ∈ normP l ↔ a ∈ l ∧ ∀ b, b ∈ l → a ≠ b → cov b a = false := by
 unfold normP
 rw [List.mem_filter, mem_srtF, undF_iff]
 constructor
 ·rintro ⟨h1, h2⟩; exact ⟨h1, fun b hb => h2 b ((mem_srtF b l).2 hb)⟩
 ·rintro ⟨h1, h2⟩; exact ⟨h1, fun b hb => h2 b ((mem_srtF b l).1 hb)⟩
theorem normP_strict (l : List Flt) : (normP l).Pairwise fun x y => keyF x < keyF y := List.Pairwise.filter _ (srtF_sorted l)
theorem normP_len (l : List Flt) : (normP l).length ≤ l.length := Nat.le_trans (List.length_filter_le _ _) (srtF_len l)
end Go.Abs
namespace Go.Abs
theorem bit_toNat (x : BitVec 16) (i : Nat) : ((x >>> i) &&& (BitVec.ofInt 16 1)).toNat = x.toNat / 2 ^ i % 2 := by
 rw [BitVec.toNat_and, BitVec.toNat_ushiftRight, Nat.shiftRight_eq_div_pow]
 exact Nat.and_one_is_mod _
theorem cs0_at (b : Nat) (h : b < 256) : (cs0.getD b 0).toNat = bsum b 0 8 := pop8_at b h
theorem f69_eq (x : BitVec 16) : f69 x = some (sz x : Int) := by
 have h1 : (x >>> 8).toNat = x.toNat / 256 := by rw [BitVec.toNat_ushiftRight, Nat.shiftRight_eq_div_pow]
 have h2 : (x &&& (BitVec.ofInt 16 255)).toNat = x.toNat % 256 := by
  rw [BitVec.toNat_and]
  exact Nat.and_two_pow_sub_one_eq_mod x.toNat 8
 have hx := x.isLt
 have hl : cs0.length = 256 := by kernel_rfl
 have e1 := cs0_at (x.toNat / 256) (by omega)
 have e2 := cs0_at (x.toNat % 256) (by omega)
 have l1 := bsum_le (x.toNat / 256) 8 0
 have l2 := bsum_le (x.toNat % 256) 8 0
 unfold f69 chk
 rw [h1, h2, e1, e2, hl, if_pos (by omega), if_pos (by omega), if_pos (by omega), if_pos (by omega), bsum_split]
 rfl
theorem f45_eq (x : BitVec 16) : f45 x = some (sz x : Int) := by
 unfold f45; rw [f69_eq]; rfl
theorem f67_eq (a b : Int) : f67 a b = some (cmpI a b) := by
 unfold f67 f84 cmpI
 simp
 split
 ·rfl
 ·split <;> rfl
theorem f68_eq (a b : BitVec 16) : f68 a b = some (cmpI a.toNat b.toNat) := by
 unfold f68 f85 cmpI
 simp
 split
 ·rfl
 ·split <;> rfl
theorem f66_eq (a b : Int) : f66 [a, b] = some (if a ≠ 0 then a else b) := by
 unfold f66 jn
 dsimp only
 obtain ⟨k, hk⟩ : ∃ k, FUEL = k + 1 + 1 + 1 := ⟨FUEL - 3, by unfold FUEL; rfl⟩
 rw [hk, f66_L0.eq_2, if_pos (by simp)]
 unfold chk
 rw [if_pos (by simp)]
 by_cases ha : a = 0
 ·subst ha
  simp only [List.getD_cons_zero, bne_self_eq_false, Bool.false_eq_true, if_false]
  rw [if_pos (by omega), f66_L0.eq_2, if_pos (by simp)]
  unfold chk
  rw [if_pos (by simp)]
  by_cases hb : b = 0
  ·subst hb
   simp only [Nat.zero_add, List.getD_cons_succ, List.getD_cons_zero, bne_self_eq_false, Bool.false_eq_true, if_false]
   rw [if_pos (by omega), f66_L0.eq_2, if_neg (by simp)]
   simp
  ·simp [hb]
 ·simp [ha]
theorem f43_eq' (a b : BitVec 16) : f43 a b = some (cmpS a b) := by
 unfold f43
 rw [f45_eq, f45_eq]
 simp only [Option.bind_some, f67_eq, f68_eq, f66_eq]
 rfl
theorem f43_eq (a b : BitVec 16) : ∃ c, f43 a b = some c ∧ ((c ≥ 0) ↔ ltS a b = false) := by
 refine ⟨_, f43_eq' a b, ?_⟩
 have := cmpS_lt a b
 rw [← this]
 simp
end Go.Abs
