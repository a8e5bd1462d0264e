/- Part 20 of the proof: Cmp48c, X48c, Aw48c. -/
import Derived.Test.YtfhggldmfbjmeaaGreatDoorStchnkZ19
import Derived.Test.YtfhggldmfbjmeaaGreatDoorProg
import Derived.Lib.Strings
import Derived.Lib.Slices
import Derived.Lib.Walk
namespace Go.Abs
open Go Go.Proofs
set_option maxHeartbeats 1000000 in
set_option maxRecDepth 100000 in
theorem cmpString (a b : ByteArray) (w : World) :
    Calls Tryz.prog 57 #[.string a, .string b] w fun e w' => e = .returned (.int .i64 (Lib.compareBytes a.data.toList b.data.toList)) ∧ w' = w := by
  go_enter Tryz.func57, Tryz.ntmps57
  go_wp2
  rw [run_callFunc_extern Tryz.func74 (by kernel_rfl) (by kernel_rfl) (by kernel_rfl) (e := Extern.BytealgCompare.compare) (by kernel_rfl), Lib.run_compareString]
  simp only [Result.andThen]
  rw [Oper.upon_value]
  go_wp2
  go_ret
  exact ⟨rfl, rfl⟩
end Go.Abs
namespace Go.Abs
open Go Go.Proofs
set_option maxHeartbeats 4000000
theorem Tryz_mixed : Tryz.prog.follows .mixedOrders = true := by kernel_rfl
def T6 : List Nat := [0, 1, 28, 2, 29, 14, 24, 3, 30, 22, 20, 15, 25, 17, 4, 8, 31, 27, 13, 23, 21, 19, 16, 7, 26, 12, 18, 6, 11, 5, 10, 9]
def T7 : List Nat := [0, 1, 56, 2, 57, 49, 28, 3, 61, 58, 42, 50, 38, 29, 17, 4, 62, 47, 59, 36, 45, 43, 51, 22, 53, 39, 33, 30, 24, 18, 12, 5, 63, 55, 48, 27, 60, 41, 37, 16, 46, 35, 44, 21, 52, 32, 23, 11, 54, 26, 40, 15, 34, 20, 31, 10, 25, 14, 19, 9, 13, 8, 7, 6]
def T3 : List Nat := [1, 10, 100, 1000, 10000, 100000, 1000000, 10000000, 100000000, 1000000000, 10000000000, 100000000000, 1000000000000, 10000000000000, 100000000000000, 1000000000000000, 10000000000000000, 100000000000000000, 1000000000000000000, 10000000000000000000]
def T5 : List Nat := [128, 191, 160, 191, 128, 159, 144, 191, 128, 143, 0, 0, 0, 0, 0, 0, 0, 0, 0, 0, 0, 0, 0, 0, 0, 0, 0, 0, 0, 0, 0, 0]
def cs0 : List UInt8 := [112, 117, 116, 32, 97, 32, 120]
def cs1 : List UInt8 := [97, 112, 112, 101, 110, 100, 32, 97, 32, 121]
def cs2 : List UInt8 := [103, 101, 116, 32, 97]
def cs3 : List UInt8 := [118, 97, 108, 117, 101, 32, 120, 121, 32, 50]
def cs4 : List UInt8 := [99, 97, 115, 32, 97, 32, 120, 32, 122]
def cs5 : List UInt8 := [110, 111, 32, 120, 121]
def cs6 : List UInt8 := [99, 111, 117, 110, 116]
def cs7 : List UInt8 := [99, 111, 117, 110, 116, 32, 49]
def eSS (x : List UInt8 × List UInt8) : List V := [.str x.1, .str x.2]
def eS (x : List UInt8) : List V := [.str x]
theorem eS_flat (x : List UInt8) (j : Nat) : ((eS x).getD j .any).flat = true := by
  match j with
  | 0 => rfl
  | _ + 1 => rfl
def m56 (x : List UInt8 × Bool × Bool × Bool) : V := .agg [.str x.1, .bool x.2.1, .bool x.2.2.1, .bool x.2.2.2]
def cs8 : List UInt8 := [100, 101, 108, 101, 116, 101]
def cs9 : List UInt8 := [97, 112, 112, 101, 110, 100]
def mk22 : List (Int) := (((((([] ++ [(1 : Int)]) ++ [(2 : Int)]) ++ [(3 : Int)]) ++ [(4 : Int)]) ++ [(5 : Int)]) ++ [(6 : Int)])
def mv22 : List (List UInt8 × Bool × Bool × Bool) := (((((([] ++ [(([112, 117, 116] : List UInt8), true, false, true)]) ++ [(([103, 101, 116] : List UInt8), true, false, false)]) ++ [(cs8, true, false, false)]) ++ [(cs9, true, false, true)]) ++ [(([99, 97, 115] : List UInt8), true, true, true)]) ++ [(cs6, false, false, false)])
def eSSI (x : List UInt8 × List UInt8 × Int) : List V := [.str x.1, .str x.2.1, .int .i64 x.2.2]
def cs10 : List UInt8 := [105, 110, 118, 97, 108, 105, 100]
def cs11 : List UInt8 := [99, 111, 117, 110, 116, 32]
def cs12 : List UInt8 := [118, 97, 108, 117, 101, 32]
def cs13 : List UInt8 := [97, 32, 50, 32, 120, 121, 10]
abbrev q1bSS_37 (l : List (List UInt8 × List UInt8)) : Blk := bL 37 2 eSS (default : List UInt8 × List UInt8) l
abbrev q1dSS : List UInt8 × List UInt8 := default
abbrev q1aS (l : List (List UInt8)) : V := vL 1 eS [] l
abbrev q1bS_9 (l : List (List UInt8)) : Blk := bL 9 1 eS [] l
abbrev q1dSBBB : List UInt8 × Bool × Bool × Bool := default
abbrev q1aSSI (l : List (List UInt8 × List UInt8 × Int)) : V := vL 3 eSSI (default : List UInt8 × List UInt8 × Int) l
abbrev q1bSSI_31 (l : List (List UInt8 × List UInt8 × Int)) : Blk := bL 31 3 eSSI (default : List UInt8 × List UInt8 × Int) l
abbrev q1dSSI : List UInt8 × List UInt8 × Int := default
theorem q1rq {Q : Exit → S → Prop} {id : Nat} {draw : Bool} {y : Code} (W : List Nat) (calls : List (Nat × CC)) {l : List Oper} {s : S} (s' : S) {φ : Prop} (hφ : φ) (hQ : AWp Tryz.prog y Q s') (h : Abs.regC Tryz.prog W draw calls (s'.t.map (·.1)) (s'.h.map (·.1)) l s = some (s', φ) := by kernel_rfl) : AWp Tryz.prog (.seq (.region id l.toArray draw) y) Q s := AWp.sq W calls _ _ s' φ Tryz_mixed h hφ hQ
theorem q1rr {Q : Exit → S → Prop} {id : Nat} {draw : Bool} (W : List Nat) (calls : List (Nat × CC)) {l : List Oper} {s : S} (s' : S) {φ : Prop} (hφ : φ) (hQ : Q .normal s') (h : Abs.regC Tryz.prog W draw calls (s'.t.map (·.1)) (s'.h.map (·.1)) l s = some (s', φ) := by kernel_rfl) : AWp Tryz.prog (.region id l.toArray draw) Q s := AWp.regC W calls _ _ s' φ Tryz_mixed h hφ hQ
def f21 (x1 x2 : List UInt8) : Option (List (List UInt8)) := splitO x1 x2
theorem f21_ok (x1 x2 : List UInt8) (r : List (List UInt8)) (h : f21 x1 x2 = some r) : Spec1 Tryz.prog 21 [] [] [] [.str x1, .str x2] (.own 3000) [(3000, bL 9 1 eS [] r)] :=
  split_spec 9 (fun s c w hs => split_one Tryz.lays146 (by kernel_rfl) s c w hs) x1 x2 r h
abbrev f22z0 := ([112, 117, 116] : List UInt8)
abbrev f22z1 := ([103, 101, 116] : List UInt8)
abbrev f22z2 := ([99, 97, 115] : List UInt8)
def f22  : Option Unit :=
  some ()
set_option maxRecDepth 100000 in
theorem f22_ok   (r : Unit) (h : f22 = some r)  : Spec1 Tryz.prog 22 [] [] [] [] (vM (V.int .i64) 0 m56 (default : List UInt8 × Bool × Bool × Bool) mk22 mv22) [] := by
  unfold f22 at h
  refine Spec1.body 0 _ _ Tryz.func22 rfl Tryz.ntmps22 rfl rfl ?_
  refine q1rq [] [] ⟨9, [], [], [], 0⟩ trivial ?_
  refine q1rq [] [(0, ⟨[], [], [], [(1, bM (V.int .i64) 0 m56 q1dSBBB [] [])], .own 1, [1], [], []⟩), (2, ⟨[.own 1, .i (1 : Int), .agg [.str (f22z0), .bool true, .bool false, .bool true]], [1], [1], [(1, bM (V.int .i64) 0 m56 q1dSBBB ([] ++ [(1 : Int)]) ([] ++ [((f22z0), true, false, true)]))], .any, [], [], []⟩), (4, ⟨[.own 1, .i (2 : Int), .agg [.str (f22z1), .bool true, .bool false, .bool false]], [1], [1], [(1, bM (V.int .i64) 0 m56 q1dSBBB (([] ++ [(1 : Int)]) ++ [(2 : Int)]) (([] ++ [((f22z0), true, false, true)]) ++ [((f22z1), true, false, false)]))], .any, [], [], []⟩), (6, ⟨[.own 1, .i (3 : Int), .agg [.str cs8, .bool true, .bool false, .bool false]], [1], [1], [(1, bM (V.int .i64) 0 m56 q1dSBBB ((([] ++ [(1 : Int)]) ++ [(2 : Int)]) ++ [(3 : Int)]) ((([] ++ [((f22z0), true, false, true)]) ++ [((f22z1), true, false, false)]) ++ [(cs8, true, false, false)]))], .any, [], [], []⟩), (8, ⟨[.own 1, .i (4 : Int), .agg [.str cs9, .bool true, .bool false, .bool true]], [1], [1], [(1, bM (V.int .i64) 0 m56 q1dSBBB (((([] ++ [(1 : Int)]) ++ [(2 : Int)]) ++ [(3 : Int)]) ++ [(4 : Int)]) (((([] ++ [((f22z0), true, false, true)]) ++ [((f22z1), true, false, false)]) ++ [(cs8, true, false, false)]) ++ [(cs9, true, false, true)]))], .any, [], [], []⟩), (10, ⟨[.own 1, .i (5 : Int), .agg [.str (f22z2), .bool true, .bool true, .bool true]], [1], [1], [(1, bM (V.int .i64) 0 m56 q1dSBBB ((((([] ++ [(1 : Int)]) ++ [(2 : Int)]) ++ [(3 : Int)]) ++ [(4 : Int)]) ++ [(5 : Int)]) ((((([] ++ [((f22z0), true, false, true)]) ++ [((f22z1), true, false, false)]) ++ [(cs8, true, false, false)]) ++ [(cs9, true, false, true)]) ++ [((f22z2), true, true, true)]))], .any, [], [], []⟩), (12, ⟨[.own 1, .i (6 : Int), .agg [.str cs6, .bool false, .bool false, .bool false]], [1], [1], [(1, bM (V.int .i64) 0 m56 q1dSBBB (((((([] ++ [(1 : Int)]) ++ [(2 : Int)]) ++ [(3 : Int)]) ++ [(4 : Int)]) ++ [(5 : Int)]) ++ [(6 : Int)]) (((((([] ++ [((f22z0), true, false, true)]) ++ [((f22z1), true, false, false)]) ++ [(cs8, true, false, false)]) ++ [(cs9, true, false, true)]) ++ [((f22z2), true, true, true)]) ++ [(cs6, false, false, false)]))], .any, [], [], []⟩)] ⟨9, [(0, .own 1)], [(1, bM (V.int .i64) 0 m56 q1dSBBB (((((([] ++ [(1 : Int)]) ++ [(2 : Int)]) ++ [(3 : Int)]) ++ [(4 : Int)]) ++ [(5 : Int)]) ++ [(6 : Int)]) (((((([] ++ [((f22z0), true, false, true)]) ++ [((f22z1), true, false, false)]) ++ [(cs8, true, false, false)]) ++ [(cs9, true, false, true)]) ++ [((f22z2), true, true, true)]) ++ [(cs6, false, false, false)]))], [], 0⟩ (ac6 (And.intro (makeMapL_spec (P := Tryz.prog) (V.int .i64) 0 m56 q1dSBBB 56 1 56) (VLes.same [])) (And.intro (insertL_spec Tryz.underlying56 Tryz.underlying3 (.insert 56 (.tmp 1) (.const (.int .i64 1)) (.tmp 2)) (.tmp 1) (.const (.int .i64 1)) (.tmp 2) (.inl rfl) (V.int .i64) 0 m56 q1dSBBB (keyEq_int .i64) (fun _ => rfl) (fun _ => rfl) (fun _ => rfl) 0 1 [] [] (1 : Int) ((f22z0), true, false, true) rfl rfl) (VLes.same [.own 1, .i (1 : Int), .agg [.str (f22z0), .bool true, .bool false, .bool true]])) (And.intro (insertL_spec Tryz.underlying56 Tryz.underlying3 (.insert 56 (.tmp 1) (.const (.int .i64 2)) (.tmp 3)) (.tmp 1) (.const (.int .i64 2)) (.tmp 3) (.inl rfl) (V.int .i64) 0 m56 q1dSBBB (keyEq_int .i64) (fun _ => rfl) (fun _ => rfl) (fun _ => rfl) 0 1 ([] ++ [(1 : Int)]) ([] ++ [((f22z0), true, false, true)]) (2 : Int) ((f22z1), true, false, false) rfl rfl) (VLes.same [.own 1, .i (2 : Int), .agg [.str (f22z1), .bool true, .bool false, .bool false]])) (And.intro (insertL_spec Tryz.underlying56 Tryz.underlying3 (.insert 56 (.tmp 1) (.const (.int .i64 3)) (.tmp 4)) (.tmp 1) (.const (.int .i64 3)) (.tmp 4) (.inl rfl) (V.int .i64) 0 m56 q1dSBBB (keyEq_int .i64) (fun _ => rfl) (fun _ => rfl) (fun _ => rfl) 0 1 (([] ++ [(1 : Int)]) ++ [(2 : Int)]) (([] ++ [((f22z0), true, false, true)]) ++ [((f22z1), true, false, false)]) (3 : Int) (cs8, true, false, false) rfl rfl) (VLes.same [.own 1, .i (3 : Int), .agg [.str cs8, .bool true, .bool false, .bool false]])) (And.intro (insertL_spec Tryz.underlying56 Tryz.underlying3 (.insert 56 (.tmp 1) (.const (.int .i64 4)) (.tmp 5)) (.tmp 1) (.const (.int .i64 4)) (.tmp 5) (.inl rfl) (V.int .i64) 0 m56 q1dSBBB (keyEq_int .i64) (fun _ => rfl) (fun _ => rfl) (fun _ => rfl) 0 1 ((([] ++ [(1 : Int)]) ++ [(2 : Int)]) ++ [(3 : Int)]) ((([] ++ [((f22z0), true, false, true)]) ++ [((f22z1), true, false, false)]) ++ [(cs8, true, false, false)]) (4 : Int) (cs9, true, false, true) rfl rfl) (VLes.same [.own 1, .i (4 : Int), .agg [.str cs9, .bool true, .bool false, .bool true]])) (And.intro (insertL_spec Tryz.underlying56 Tryz.underlying3 (.insert 56 (.tmp 1) (.const (.int .i64 5)) (.tmp 6)) (.tmp 1) (.const (.int .i64 5)) (.tmp 6) (.inl rfl) (V.int .i64) 0 m56 q1dSBBB (keyEq_int .i64) (fun _ => rfl) (fun _ => rfl) (fun _ => rfl) 0 1 (((([] ++ [(1 : Int)]) ++ [(2 : Int)]) ++ [(3 : Int)]) ++ [(4 : Int)]) (((([] ++ [((f22z0), true, false, true)]) ++ [((f22z1), true, false, false)]) ++ [(cs8, true, false, false)]) ++ [(cs9, true, false, true)]) (5 : Int) ((f22z2), true, true, true) rfl rfl) (VLes.same [.own 1, .i (5 : Int), .agg [.str (f22z2), .bool true, .bool true, .bool true]])) (an1 (And.intro (insertL_spec Tryz.underlying56 Tryz.underlying3 (.insert 56 (.tmp 1) (.const (.int .i64 6)) (.tmp 7)) (.tmp 1) (.const (.int .i64 6)) (.tmp 7) (.inl rfl) (V.int .i64) 0 m56 q1dSBBB (keyEq_int .i64) (fun _ => rfl) (fun _ => rfl) (fun _ => rfl) 0 1 ((((([] ++ [(1 : Int)]) ++ [(2 : Int)]) ++ [(3 : Int)]) ++ [(4 : Int)]) ++ [(5 : Int)]) ((((([] ++ [((f22z0), true, false, true)]) ++ [((f22z1), true, false, false)]) ++ [(cs8, true, false, false)]) ++ [(cs9, true, false, true)]) ++ [((f22z2), true, true, true)]) (6 : Int) (cs6, false, false, false) rfl rfl) (VLes.same [.own 1, .i (6 : Int), .agg [.str cs6, .bool false, .bool false, .bool false]])))) ?_
  refine AWp.le (Le.trans (Le.freezeM 1 rfl rfl) (Le.mk (s' := ⟨9, [(0, vM (V.int .i64) 0 m56 q1dSBBB mk22 mv22)], [], [], 0⟩) rfl rfl ⟨.refl _, trivial⟩ trivial)) ?_
  have hret := Option.some.inj h
  subst hret
  refine AWp.le (Le.mk (s' := ⟨9, [(0, vM (V.int .i64) 0 m56 q1dSBBB mk22 mv22)], [], [], 0⟩) rfl rfl ⟨.refl _, trivial⟩ trivial) ?_
  refine AWp.ret ?_
  exact bodyQ_ret _ rfl ⟨rfl, rfl⟩ rfl
def f23 (x1 : Bool) (x2 : List (List UInt8)) : Option (List UInt8 × List (List UInt8)) :=
  if ((!x1) || ((((x2).length : Nat) : Int) == (0 : Int))) then (
  some ([], x2)
  ) else (
  chk ((0 : Int) < (((x2).length : Nat) : Int)) <|
  chk ((1 : Int) ≤ (((x2).length : Nat) : Int)) <|
  some ((x2.getD 0 []), (x2.drop 1))
  )
set_option maxRecDepth 100000 in
theorem f23_ok  (x1 : Bool) (x2 : List (List UInt8)) (r : List UInt8 × List (List UInt8)) (h : f23 x1 x2 = some r)  : Spec1 Tryz.prog 23 [] [2000] [(2000, .cells 25 [vL 1 eS [] x2])] [.bool x1, .ptr 2000 0] (.str r.1) [(2000, .cells 25 [vL 1 eS [] r.2])] := by
  unfold f23 at h
  refine Spec1.body 0 _ _ Tryz.func23 rfl Tryz.ntmps23 rfl rfl ?_
  refine q1rq [] [] ⟨18, [(0, .bool x1), (1, .ptr 2000 0)], [(2000, .cells 25 [q1aS x2])], [2000], 0⟩ trivial ?_
  refine AWp.seq ?_
  refine AWp.seq ?_
  have ob0 := idA (((!x1) == false) = true)
  have ob2 := bqA (!x1) false
  refine q1rr [] [] ⟨18, [(1, .ptr 2000 0), (11, .bool ((!x1) || ((lZ x2) == (0 : Int))))], [(2000, .cells 25 [q1aS x2])], [2000], 0⟩ (an3 (an1 ob0) (an1 ob0) ob2) ?_
  refine thenQ_normal ?_
  refine AWp.cond (b := ((!x1) || ((lZ x2) == (0 : Int)))) (by kernel_rfl) (fun hc1 => ?_) (fun hc1 => ?_)
  ·
    replace h := ite_tb hc1 h
    refine q1rq [] [] ⟨18, [(3, .str [])], [(2000, .cells 25 [q1aS x2])], [2000], 0⟩ trivial ?_
    have hret := Option.some.inj h
    subst hret
    refine AWp.ret ?_
    refine thenQ_ret ?_
    exact bodyQ_ret _ rfl ⟨rfl, rfl⟩ rfl
  ·
    replace h := ite_fb hc1 h
    refine AWp.skip ?_
    refine thenQ_normal ?_
    refine AWp.seq ?_
    obtain ⟨ob3p, h⟩ := chk_some h
    have ob3 : 0 ≤ (0 : Int) ∧ (0 : Int) < (((x2).length : Nat) : Int) := ⟨by omega, ob3p⟩
    refine q1rr [] [] ⟨18, [(1, .ptr 2000 0), (4, .str (x2.getD 0 []))], [(2000, .cells 25 [q1aS x2])], [2000], 0⟩ (an1 ob3) ?_
    refine thenQ_normal ?_
    refine AWp.seq ?_
    obtain ⟨ob4p, h⟩ := chk_some h
    have ob4 : 0 ≤ (1 : Int) ∧ (1 : Int) ≤ (((x2).length : Nat) : Int) := ⟨by omega, ob4p⟩
    refine q1rr [] [] ⟨18, [(4, .str (x2.getD 0 []))], [(2000, .cells 25 [.arr 1 ((x2).length - 1) (fun i j => (encF eS [] x2) (i + 1) j)])], [2000], 0⟩ (an2 ob4 trivial) ?_
    refine thenQ_normal ?_
    refine AWp.le (Le.mk (s' := ⟨18, [(4, .str (x2.getD 0 []))], [(2000, .cells 25 [q1aS (x2.drop 1)])], [2000], 0⟩) rfl rfl ⟨.refl _, trivial⟩ ⟨⟨_, rfl, (.cellsL ⟨VLe.dropL, trivial⟩)⟩, trivial⟩) ?_
    refine q1rq [] [] ⟨18, [(3, .str (x2.getD 0 []))], [(2000, .cells 25 [q1aS (x2.drop 1)])], [2000], 0⟩ trivial ?_
    have hret := Option.some.inj h
    subst hret
    refine AWp.ret ?_
    exact bodyQ_ret _ rfl ⟨rfl, rfl⟩ rfl
def f30_L0 (x1 : List UInt8) (K1 : Unit → Option Bool) : Nat → Nat → Option Bool
  | 0, _ => none
  | k + 1, n3 =>
    if (decide ((n3 : Int) < ((x1.length : Nat) : Int))) then (
    chk ((n3 : Int) < ((x1.length : Nat) : Int)) <|
    chk (((decide ((((x1.getD n3 0).toNat : Nat) : Int) < (33 : Int))) == false) = true → 0 ≤ (n3 : Int) ∧ (n3 : Int) < ((x1.length : Nat) : Int)) <|
    if ((decide ((((x1.getD n3 0).toNat : Nat) : Int) < (33 : Int))) || (decide ((((x1.getD n3 0).toNat : Nat) : Int) > (126 : Int)))) then (
    some false
    ) else (
    chk (((n3 : Int) + (1 : Int)) ≤ 9223372036854775807) <|
    (f30_L0 x1 K1 k) (n3 + 1)
    )
    ) else (
    K1 ()
    )
theorem f30_L0_e2 (x1 : List UInt8) (K1 : Unit → Option Bool) (k : Nat) (n3 : Nat) : f30_L0 x1 K1 (k + 1) n3 =
    if (decide ((n3 : Int) < ((x1.length : Nat) : Int))) then (
    chk ((n3 : Int) < ((x1.length : Nat) : Int)) <|
    chk (((decide ((((x1.getD n3 0).toNat : Nat) : Int) < (33 : Int))) == false) = true → 0 ≤ (n3 : Int) ∧ (n3 : Int) < ((x1.length : Nat) : Int)) <|
    if ((decide ((((x1.getD n3 0).toNat : Nat) : Int) < (33 : Int))) || (decide ((((x1.getD n3 0).toNat : Nat) : Int) > (126 : Int)))) then (
    some false
    ) else (
    chk (((n3 : Int) + (1 : Int)) ≤ 9223372036854775807) <|
    (f30_L0 x1 K1 k) (n3 + 1)
    )
    ) else (
    K1 ()
    ) := rfl
def f30 (x1 : List UInt8) (x2 : Int) : Option Bool :=
  jn (fun (_ : Unit) =>
  some ((!(x1 == [])) && (decide (((x1.length : Nat) : Int) ≤ x2)))
  ) fun (K1 : Unit → Option Bool) =>
  f30_L0 x1 K1 FUEL 0
set_option maxRecDepth 100000 in
theorem f30_ok  (x1 : List UInt8) (x2 : Int) (r : Bool) (h : f30 x1 x2 = some r)  : Spec1 Tryz.prog 30 [] [] [] [.str x1, .int .i64 x2] (.bool r) [] := by
  unfold f30 at h
  refine Spec1.body 0 _ _ Tryz.func30 rfl Tryz.ntmps30 rfl rfl ?_
  refine q1rq [] [] ⟨30, [(0, .str x1), (1, .i x2)], [], [], 0⟩ trivial ?_
  obtain ⟨K1, hK1, h⟩ := jn_some h
  refine AWp.join (α := Unit) (fun (x : Unit) => match x with | () => ⟨30, [(0, .str x1), (1, .i x2)], [], [], 0⟩) (fun x => K1 x = some r) ?_ ?_
  ·
    refine q1rq [] [] ⟨30, [(0, .str x1), (1, .i x2), (7, .i (lZ x1)), (8, .i (0 : Int))], [], [], 0⟩ trivial ?_
    refine AWp.block ?_
    refine AWp.loopL (α := Nat × Nat) (fun x => match x with | (_, n3) => ⟨30, [(0, .str x1), (1, .i x2), (7, .i (lZ x1)), (8, .i (n3 : Int))], [], [], 0⟩) (fun x => f30_L0 x1 K1 x.1 x.2 = some r) (fun x => x.1) (FUEL, 0) (Le.mk (s' := ⟨30, [(0, .str x1), (1, .i x2), (7, .i (lZ x1)), (8, .i (0 : Int))], [], [], 0⟩) rfl rfl ⟨.refl _, .refl _, .refl _, .refl _, trivial⟩ trivial) h ?_
    rintro ⟨k0, n3⟩ h
    cases k0 with
    | zero => exact nomatch (show (none : Option Bool) = some r from h)
    | succ k0 =>
    obtain ⟨C0, hC0⟩ : ∃ C, C = f30_L0 x1 K1 k0 := ⟨_, rfl⟩
    replace h := (f30_L0_e2 ..).symm.trans h
    try rw [← hC0] at h
    refine q1rq [] [] ⟨30, [(0, .str x1), (1, .i x2), (7, .i (lZ x1)), (8, .i (n3 : Int)), (9, .bool (decide ((n3 : Int) < (lZ x1))))], [], [], 0⟩ trivial ?_
    refine AWp.seq ?_
    refine AWp.cond (b := (decide ((n3 : Int) < (lZ x1)))) (by kernel_rfl) (fun hc1 => ?_) (fun hc1 => ?_)
    ·
      replace h := ite_tb hc1 h
      refine AWp.skip ?_
      refine thenQ_normal ?_
      refine AWp.seq ?_
      refine AWp.block ?_
      refine q1rq [] [] ⟨30, [(0, .str x1), (1, .i x2), (5, .i (n3 : Int)), (7, .i (lZ x1)), (8, .i (n3 : Int))], [], [], 0⟩ trivial ?_
      refine AWp.seq ?_
      obtain ⟨ob0p, h⟩ := chk_some h
      have ob0 : 0 ≤ (n3 : Int) ∧ (n3 : Int) < ((x1.length : Nat) : Int) := ⟨by omega, ob0p⟩
      obtain ⟨ob1, h⟩ := chk_some h
      have ob2 := idA (((decide ((((x1.getD n3 0).toNat : Nat) : Int) < (33 : Int))) == false) = true)
      have ob5 := bqA (decide ((((x1.getD n3 0).toNat : Nat) : Int) < (33 : Int))) false
      refine q1rr [] [] ⟨30, [(0, .str x1), (1, .i x2), (7, .i (lZ x1)), (8, .i (n3 : Int)), (20, .bool ((decide ((((x1.getD n3 0).toNat : Nat) : Int) < (33 : Int))) || (decide ((((x1.getD n3 0).toNat : Nat) : Int) > (126 : Int)))))], [], [], 0⟩ (an4 ob0 (And.intro ob1 (an2 ob2 ob2)) (an1 ob2) ob5) ?_
      refine thenQ_normal ?_
      refine AWp.cond (b := ((decide ((((x1.getD n3 0).toNat : Nat) : Int) < (33 : Int))) || (decide ((((x1.getD n3 0).toNat : Nat) : Int) > (126 : Int))))) (by kernel_rfl) (fun hc2 => ?_) (fun hc2 => ?_)
      ·
        replace h := ite_tb hc2 h
        refine q1rq [] [] ⟨30, [(4, .bool false)], [], [], 0⟩ trivial ?_
        have hret := Option.some.inj h
        subst hret
        refine AWp.ret ?_
        refine blockQ_ret ?_
        refine thenQ_ret ?_
        refine thenQ_ret ?_
        refine blockQ_ret ?_
        refine joinQ_ret ?_
        exact bodyQ_ret _ rfl ⟨rfl, rfl⟩ rfl
      ·
        replace h := ite_fb hc2 h
        refine AWp.skip ?_
        refine blockQ_normal ?_
        refine thenQ_normal ?_
        obtain ⟨ob6p, h⟩ := chk_some h
        have ob6 : -9223372036854775808 ≤ ((n3 : Int) + (1 : Int)) ∧ ((n3 : Int) + (1 : Int)) ≤ 9223372036854775807 := ⟨by omega, ob6p⟩
        refine q1rr [] [] ⟨30, [(0, .str x1), (1, .i x2), (7, .i (lZ x1)), (8, .i (((n3 + 1) : Nat) : Int))], [], [], 0⟩ (an1 ob6) ?_
        rw [hC0] at h
        exact loopQ_normal (_, (n3 + 1)) (Le.mk rfl rfl ⟨.refl _, .refl _, .refl _, .refl _, trivial⟩ trivial) h (Nat.lt_succ_self _)
    ·
      replace h := ite_fb hc1 h
      refine AWp.exit ?_
      refine thenQ_exit ?_
      refine thenQ_exit ?_
      refine blockQ_same ?_
      exact joinQ_normal () (Le.mk rfl rfl ⟨.refl _, .refl _, trivial⟩ trivial) h
  ·
    rintro ⟨⟩ h
    replace h := (congrFun hK1 _).symm.trans h
    refine AWp.seq ?_
    have ob7 := idA (((!(x1 == [])) == true) = true)
    have ob10 := bqA (!(x1 == [])) true
    refine q1rr [] [] ⟨30, [(4, .bool ((!(x1 == [])) && (decide ((lZ x1) ≤ x2))))], [], [], 0⟩ (an3 (an1 ob7) (an2 ob7 ob7) ob10) ?_
    refine thenQ_normal ?_
    have hret := Option.some.inj h
    subst hret
    refine AWp.ret ?_
    exact bodyQ_ret _ rfl ⟨rfl, rfl⟩ rfl
def f41 (x1 : List UInt8) (x2 : Bool) : Option Bool :=
  if (!x2) then (
  some (x1 == [])
  ) else (
  (f30 x1 (64 : Int)).bind fun (r3 : Bool) =>
  some r3
  )
set_option maxRecDepth 100000 in
theorem f41_ok  (x1 : List UInt8) (x2 : Bool) (r : Bool) (h : f41 x1 x2 = some r)  : Spec1 Tryz.prog 41 [] [] [] [.str x1, .bool x2] (.bool r) [] := by
  unfold f41 at h
  refine Spec1.body 0 _ _ Tryz.func41 rfl Tryz.ntmps41 rfl rfl ?_
  refine q1rq [] [] ⟨11, [(0, .str x1), (1, .bool x2)], [], [], 0⟩ trivial ?_
  refine AWp.seq ?_
  refine q1rq [] [] ⟨11, [(0, .str x1), (6, .bool (!x2))], [], [], 0⟩ trivial ?_
  refine AWp.cond (b := (!x2)) (by kernel_rfl) (fun hc1 => ?_) (fun hc1 => ?_)
  ·
    replace h := ite_tb hc1 h
    refine q1rq [] [] ⟨11, [(4, .bool (x1 == []))], [], [], 0⟩ trivial ?_
    have hret := Option.some.inj h
    subst hret
    refine AWp.ret ?_
    refine thenQ_ret ?_
    exact bodyQ_ret _ rfl ⟨rfl, rfl⟩ rfl
  ·
    replace h := ite_fb hc1 h
    refine AWp.skip ?_
    refine thenQ_normal ?_
    refine AWp.seq ?_
    obtain ⟨r3, hr3, h⟩ := bind_ok h
    refine q1rr [] [(1, ⟨[.str x1, .i (64 : Int)], [], [], [], .bool r3, [], [], []⟩)] ⟨11, [(4, .bool r3)], [], [], 0⟩ (an1 (cpT (f30_ok _ _ _ hr3))) ?_
    refine thenQ_normal ?_
    have hret := Option.some.inj h
    subst hret
    refine AWp.ret ?_
    exact bodyQ_ret _ rfl ⟨rfl, rfl⟩ rfl
abbrev f25z0 (x1 : Int) (r6 : Bool) := ((hasM mk22 x1) && r6)
abbrev f25z1 (x1 : Int) := ((hasM mk22 x1) == true)
def f25 (x1 : Int) (x2 : List UInt8) (x3 : List UInt8) (x4 : List UInt8) : Option (List UInt8 × Bool × Bool × Bool × Bool) :=
  (f22 ).bind fun (r5 : Unit) =>
  optc ((hasM mk22 x1) == true) (f41 x2 ((getM mk22 mv22 (default : List UInt8 × Bool × Bool × Bool) ([], false, false, false) x1).2.1)) fun (r6 : Bool) =>
  optc (((hasM mk22 x1) && r6) == true) (f41 x3 ((getM mk22 mv22 (default : List UInt8 × Bool × Bool × Bool) ([], false, false, false) x1).2.2.1)) fun (r7 : Bool) =>
  optc ((((hasM mk22 x1) && r6) && r7) == true) (f41 x4 ((getM mk22 mv22 (default : List UInt8 × Bool × Bool × Bool) ([], false, false, false) x1).2.2.2)) fun (r8 : Bool) =>
  some ((getM mk22 mv22 (default : List UInt8 × Bool × Bool × Bool) ([], false, false, false) x1).1, (getM mk22 mv22 (default : List UInt8 × Bool × Bool × Bool) ([], false, false, false) x1).2.1, (getM mk22 mv22 (default : List UInt8 × Bool × Bool × Bool) ([], false, false, false) x1).2.2.1, (getM mk22 mv22 (default : List UInt8 × Bool × Bool × Bool) ([], false, false, false) x1).2.2.2, ((((hasM mk22 x1) && r6) && r7) && r8))
set_option maxRecDepth 100000 in
theorem f25_ok  (x1 : Int) (x2 : List UInt8) (x3 : List UInt8) (x4 : List UInt8) (r : List UInt8 × Bool × Bool × Bool × Bool) (h : f25 x1 x2 x3 x4 = some r)  : Spec1 Tryz.prog 25 [] [] [] [.agg [.int .i64 x1, .str x2, .str x3, .str x4]] (.tup [.agg [.str r.1, .bool r.2.1, .bool r.2.2.1, .bool r.2.2.2.1], .bool r.2.2.2.2]) [] := by
  unfold f25 at h
  refine Spec1.bodyD [2] 0 _ _ Tryz.func25 rfl Tryz.ntmps25 rfl rfl ?_
  refine q1rq [] [] ⟨36, [(1, .ptr 1 0), (2, .ptr 2 0)], [(1, .cells 40 [.i x1, .str x2, .str x3, .str x4]), (2, .cells 59 [.str [], .bool false, .bool false, .bool false])], [], 0⟩ trivial ?_
  refine AWp.seq ?_
  obtain ⟨r5, hr5, h⟩ := bind_ok h
  refine q1rr [] [(0, ⟨[], [], [], [], vM (V.int .i64) 0 m56 q1dSBBB mk22 mv22, [], [], []⟩), (3, ⟨[vM (V.int .i64) 0 m56 q1dSBBB mk22 mv22, .i x1], [], [], [], .tup [.agg [.str (getM mk22 mv22 q1dSBBB ([], false, false, false) x1).1, .bool (getM mk22 mv22 q1dSBBB ([], false, false, false) x1).2.1, .bool (getM mk22 mv22 q1dSBBB ([], false, false, false) x1).2.2.1, .bool (getM mk22 mv22 q1dSBBB ([], false, false, false) x1).2.2.2], .bool (hasM mk22 x1)], [], [], []⟩)] ⟨36, [(1, .ptr 1 0), (2, .ptr 2 0), (4, .ptr 4 0), (5, .bool (hasM mk22 x1))], [(1, .cells 40 [.i x1, .str x2, .str x3, .str x4]), (2, .cells 59 [.str [], .bool false, .bool false, .bool false]), (4, .cells 59 [.str (getM mk22 mv22 q1dSBBB ([], false, false, false) x1).1, .bool (getM mk22 mv22 q1dSBBB ([], false, false, false) x1).2.1, .bool (getM mk22 mv22 q1dSBBB ([], false, false, false) x1).2.2.1, .bool (getM mk22 mv22 q1dSBBB ([], false, false, false) x1).2.2.2])], [], 0⟩ (an3 (cpT (f22_ok _ hr5)) (And.intro (lookupL_spec (P := Tryz.prog) Tryz.underlying56 Tryz.underlying3 (V.int .i64) 0 m56 q1dSBBB ([], false, false, false) (keyEq_int .i64) (fun _ => rfl) (by kernel_rfl) (.tmp 7) (.tmp 9) 63 mk22 mv22 x1) (VLes.same [vM (V.int .i64) 0 m56 q1dSBBB mk22 mv22, .i x1])) trivial) ?_
  refine thenQ_normal ?_
  refine AWp.seq ?_
  obtain ⟨r6, hr6, h⟩ := optc_some h
  obtain ⟨r7, hr7, h⟩ := optc_some h
  obtain ⟨r8, hr8, h⟩ := optc_some h
  have ob0 := idA ((f25z1 x1) = true)
  have ob4 : true = true → (hasM mk22 x1) = true → (f25z1 x1) = true := fun _ h => beq_iff_eq.2 h
  have ob5 := idA (((f25z0 x1 r6) == true) = true)
  have ob9 := bqA (f25z0 x1 r6) true
  have ob10 := idA ((((f25z0 x1 r6) && r7) == true) = true)
  have ob14 := bqA ((f25z0 x1 r6) && r7) true
  refine q1rr [] [(7, ⟨[.str x2, .bool (getM mk22 mv22 q1dSBBB ([], false, false, false) x1).2.1], [], [], [], .bool r6, [], [], []⟩), (14, ⟨[.str x3, .bool (getM mk22 mv22 q1dSBBB ([], false, false, false) x1).2.2.1], [], [], [], .bool r7, [], [], []⟩), (21, ⟨[.str x4, .bool (getM mk22 mv22 q1dSBBB ([], false, false, false) x1).2.2.2], [], [], [], .bool r8, [], [], []⟩)] ⟨36, [(2, .ptr 2 0), (3, .bool (((f25z0 x1 r6) && r7) && r8))], [(2, .cells 59 [.str (getM mk22 mv22 q1dSBBB ([], false, false, false) x1).1, .bool (getM mk22 mv22 q1dSBBB ([], false, false, false) x1).2.1, .bool (getM mk22 mv22 q1dSBBB ([], false, false, false) x1).2.2.1, .bool (getM mk22 mv22 q1dSBBB ([], false, false, false) x1).2.2.2])], [], 0⟩ (ac6 (an1 ob0) (an1 ob0) (And.intro (cpC fun hc => (f41_ok _ _ _ (hr6 hc))) (an2 ob0 ob0)) ob4 (an1 ob5) (an1 ob5) (ac6 (And.intro (cpC fun hc => (f41_ok _ _ _ (hr7 hc))) (an2 ob5 ob5)) ob9 (an1 ob10) (an1 ob10) (And.intro (cpC fun hc => (f41_ok _ _ _ (hr8 hc))) (an2 ob10 ob10)) ob14 (an1 trivial))) ?_
  refine thenQ_normal ?_
  have hret := Option.some.inj h
  subst hret
  refine AWp.ret ?_
  exact bodyQ_ret _ rfl ⟨rfl, rfl⟩ rfl
def f40 (x1 : List (List UInt8)) (x2 : List UInt8) : Option (List UInt8) := joinP x1 x2
theorem f40_ok (x1 : List (List UInt8)) (x2 : List UInt8) (r : List UInt8) (h : f40 x1 x2 = some r) : Spec1 Tryz.prog 40 [] [] [] [vL 1 eS [] x1, .str x2] (.str r) [] :=
  join_spec (fun a c sep w => Any.strings_Join_none Tryz.lays156 Tryz.Builder_Extra_156 a c sep w) (fun bk o c xs sep w h1 h2 h3 h4 h5 => Any.strings_Join Tryz.lays156 Tryz.Builder_Extra_156 bk o c xs sep w h1 h2 h3 h4 h5) x1 x2 r h
def f24_L0 (x2 : List UInt8) (x3 : List UInt8) (x4 : List UInt8) (K1 : (List (List UInt8)) → Option (List UInt8 × Int)) : Nat → (Nat × List (List UInt8)) → Option (List UInt8 × Int)
  | 0, _ => none
  | k + 1, (n6, l7) =>
    if (decide ((n6 : Int) < (3 : Int))) then (
    jn (fun (l8 : List (List UInt8)) =>
    chk (((n6 : Int) + (1 : Int)) ≤ 9223372036854775807) <|
    (f24_L0 x2 x3 x4 K1 k) ((n6 + 1), l8)
    ) fun (K2 : (List (List UInt8)) → Option (List UInt8 × Int)) =>
    chk ((n6 : Int) < ((([x2, x3, x4]).length : Nat) : Int)) <|
    chk (n6 < ([x2, x3, x4]).length) <|
    if (!(([x2, x3, x4].getD n6 []) == [])) then (
    chk (((l7).length + 1) * 16 ≤ 140737488355328) <|
    K2 (l7 ++ [([x2, x3, x4].getD n6 [])])
    ) else (
    K2 l7
    )
    ) else (
    K1 l7
    )
abbrev f24z0 (n6 : Nat) : List (Nat × V) := [(6, .own 18), (25, .own 25), (26, .int .i64 (3 : Int)), (27, .int .i64 (n6 : Int))]
abbrev f24z1 : List (Nat × V) := [(6, .own 18), (25, .own 25), (26, .int .i64 (3 : Int)), (27, .int .i64 (0 : Int))]
def f24 (x1 : Int) (x2 : List UInt8) (x3 : List UInt8) (x4 : List UInt8) : Option (List UInt8 × Int) :=
  (f25 x1 x2 x3 x4).bind fun (r5 : List UInt8 × Bool × Bool × Bool × Bool) =>
  if (!r5.2.2.2.2) then (
  some ([], (1 : Int))
  ) else (
  jn (fun (l9 : List (List UInt8)) =>
  (f40 l9 ([32] : List UInt8)).bind fun (r10 : List UInt8) =>
  some (r10, (0 : Int))
  ) fun (K1 : (List (List UInt8)) → Option (List UInt8 × Int)) =>
  f24_L0 x2 x3 x4 K1 FUEL (0, [r5.1])
  )
set_option maxRecDepth 100000 in
theorem f24_ok  (x1 : Int) (x2 : List UInt8) (x3 : List UInt8) (x4 : List UInt8) (r : List UInt8 × Int) (h : f24 x1 x2 x3 x4 = some r)  : Spec1 Tryz.prog 24 [] [] [] [.agg [.int .i64 x1, .str x2, .str x3, .str x4]] (.tup [.str r.1, .int .i64 r.2]) [] := by
  unfold f24 at h
  refine Spec1.body 0 _ _ Tryz.func24 rfl Tryz.ntmps24 rfl rfl ?_
  refine q1rq [] [] ⟨40, [(1, .ptr 1 0)], [(1, .cells 40 [.i x1, .str x2, .str x3, .str x4])], [], 0⟩ trivial ?_
  refine AWp.seq ?_
  obtain ⟨r5, hr5, h⟩ := bind_ok h
  refine q1rr [] [(1, ⟨[.agg [.i x1, .str x2, .str x3, .str x4]], [], [], [], .tup [.agg [.str r5.1, .bool r5.2.1, .bool r5.2.2.1, .bool r5.2.2.2.1], .bool r5.2.2.2.2], [], [], []⟩)] ⟨40, [(1, .ptr 1 0), (4, .ptr 4 0), (5, .bool r5.2.2.2.2)], [(1, .cells 40 [.i x1, .str x2, .str x3, .str x4]), (4, .cells 59 [.str r5.1, .bool r5.2.1, .bool r5.2.2.1, .bool r5.2.2.2.1])], [], 0⟩ (an2 (cpT (f25_ok _ _ _ _ _ hr5)) trivial) ?_
  refine thenQ_normal ?_
  refine AWp.seq ?_
  refine q1rq [] [] ⟨40, [(1, .ptr 1 0), (4, .ptr 4 0), (15, .bool (!r5.2.2.2.2))], [(1, .cells 40 [.i x1, .str x2, .str x3, .str x4]), (4, .cells 59 [.str r5.1, .bool r5.2.1, .bool r5.2.2.1, .bool r5.2.2.2.1])], [], 0⟩ trivial ?_
  refine AWp.cond (b := (!r5.2.2.2.2)) (by kernel_rfl) (fun hc1 => ?_) (fun hc1 => ?_)
  ·
    replace h := ite_tb hc1 h
    refine q1rq [] [] ⟨40, [(2, .str []), (3, .i (1 : Int))], [], [], 0⟩ trivial ?_
    have hret := Option.some.inj h
    subst hret
    refine AWp.ret ?_
    refine thenQ_ret ?_
    exact bodyQ_ret _ rfl ⟨rfl, rfl⟩ rfl
  ·
    replace h := ite_fb hc1 h
    refine AWp.skip ?_
    refine thenQ_normal ?_
    refine q1rq [] [] ⟨40, [(1, .ptr 1 0), (6, .own 18)], [(1, .cells 40 [.i x1, .str x2, .str x3, .str x4]), (18, .rows 9 1 1 (lstF 1 [.str r5.1]))], [], 0⟩ trivial ?_
    refine AWp.le (Le.mk (s' := ⟨40, [(1, .ptr 1 0), (6, .own 18)], [(1, .cells 40 [.i x1, .str x2, .str x3, .str x4]), (18, q1bS_9 [r5.1])], [], 0⟩) rfl rfl ⟨.refl _, .refl _, trivial⟩ ⟨⟨_, rfl, .refl _⟩, ⟨_, rfl, (BLe.of (RL.lst (enc := eS) [r5.1] rfl rfl (fun _ => rfl)))⟩, trivial⟩) ?_
    obtain ⟨K1, hK1, h⟩ := jn_some h
    refine AWp.join (α := List (List UInt8)) (fun (l9 : List (List UInt8)) => ⟨40, [(6, .own 18)], [(18, q1bS_9 l9)], [], 0⟩) (fun x => K1 x = some r) ?_ ?_
    ·
      refine q1rq [] [] ⟨40, (f24z1), [(18, q1bS_9 [r5.1]), (25, .rows 9 1 3 (lstF 1 [.str x2, .str x3, .str x4]))], [], 0⟩ trivial ?_
      refine AWp.le (Le.mk (s' := ⟨40, (f24z1), [(18, q1bS_9 [r5.1]), (25, q1bS_9 [x2, x3, x4])], [], 0⟩) rfl rfl ⟨.refl _, .refl _, .refl _, .refl _, trivial⟩ ⟨⟨_, rfl, .refl _⟩, ⟨_, rfl, (BLe.of (RL.lst (enc := eS) [x2, x3, x4] rfl rfl (fun _ => rfl)))⟩, trivial⟩) ?_
      refine AWp.block ?_
      refine AWp.loopL (α := Nat × (Nat × List (List UInt8))) (fun x => match x with | (_, n6, l7) => ⟨40, (f24z0 n6), [(18, q1bS_9 l7), (25, q1bS_9 [x2, x3, x4])], [], 0⟩) (fun x => f24_L0 x2 x3 x4 K1 x.1 x.2 = some r) (fun x => x.1) (FUEL, 0, [r5.1]) (Le.mk (s' := ⟨40, (f24z1), [(18, q1bS_9 [r5.1]), (25, q1bS_9 [x2, x3, x4])], [], 0⟩) rfl rfl ⟨.refl _, .refl _, .refl _, .refl _, trivial⟩ ⟨⟨_, rfl, .refl _⟩, ⟨_, rfl, .refl _⟩, trivial⟩) h ?_
      rintro ⟨k0, n6, l7⟩ h
      cases k0 with
      | zero => exact nomatch (show (none : Option (List UInt8 × Int)) = some r from h)
      | succ k0 =>
      obtain ⟨C0, hC0⟩ : ∃ C, C = f24_L0 x2 x3 x4 K1 k0 := ⟨_, rfl⟩
      replace h := (f24_L0.eq_2 ..).symm.trans h
      try rw [← hC0] at h
      refine q1rq [] [] ⟨40, [(6, .own 18), (25, .own 25), (26, .i (3 : Int)), (27, .i (n6 : Int)), (28, .bool (decide ((n6 : Int) < (3 : Int))))], [(18, q1bS_9 l7), (25, q1bS_9 [x2, x3, x4])], [], 0⟩ trivial ?_
      refine AWp.seq ?_
      refine AWp.cond (b := (decide ((n6 : Int) < (3 : Int)))) (by kernel_rfl) (fun hc2 => ?_) (fun hc2 => ?_)
      ·
        replace h := ite_tb hc2 h
        refine AWp.skip ?_
        refine thenQ_normal ?_
        obtain ⟨K2, hK2, h⟩ := jn_some h
        refine AWp.join (α := List (List UInt8)) (fun (l8 : List (List UInt8)) => ⟨40, (f24z0 n6), [(18, q1bS_9 l8), (25, q1bS_9 [x2, x3, x4])], [], 0⟩) (fun x => K2 x = some r) ?_ ?_
        ·
          refine AWp.block ?_
          refine AWp.seq ?_
          obtain ⟨ob0p, h⟩ := chk_some h
          have ob0 : 0 ≤ (n6 : Int) ∧ (n6 : Int) < ((([x2, x3, x4]).length : Nat) : Int) := ⟨by omega, ob0p⟩
          obtain ⟨ob1, h⟩ := chk_some h
          refine q1rr [] [] ⟨40, [(6, .own 18), (8, .str ([x2, x3, x4].getD n6 [])), (25, .own 25), (26, .i (3 : Int)), (27, .i (n6 : Int))], [(18, q1bS_9 l7), (25, q1bS_9 [x2, x3, x4])], [], 0⟩ (an2 ob0 ob1) ?_
          refine thenQ_normal ?_
          refine q1rq [] [] ⟨40, [(6, .own 18), (8, .str ([x2, x3, x4].getD n6 [])), (25, .own 25), (26, .i (3 : Int)), (27, .i (n6 : Int)), (32, .bool (!(([x2, x3, x4].getD n6 []) == [])))], [(18, q1bS_9 l7), (25, q1bS_9 [x2, x3, x4])], [], 0⟩ trivial ?_
          refine AWp.cond (b := (!(([x2, x3, x4].getD n6 []) == []))) (by kernel_rfl) (fun hc3 => ?_) (fun hc3 => ?_)
          ·
            replace h := ite_tb hc3 h
            obtain ⟨ob2, h⟩ := chk_some h
            refine q1rr [] [] ⟨40, (f24z0 n6), [(18, .rows 9 1 ((l7).length + 1) (appF (l7).length (encF eS [] l7) (lstF 1 [.str ([x2, x3, x4].getD n6 [])]))), (25, q1bS_9 [x2, x3, x4])], [], 0⟩ (an1 ob2) ?_
            refine blockQ_normal ?_
            exact joinQ_normal ((l7 ++ [([x2, x3, x4].getD n6 [])])) (Le.trans (Le.mk (s' := ⟨40, (f24z0 n6), [(18, q1bS_9 (l7 ++ [([x2, x3, x4].getD n6 [])])), (25, q1bS_9 [x2, x3, x4])], [], 0⟩) rfl rfl ⟨.refl _, .refl _, .refl _, .refl _, trivial⟩ ⟨⟨_, rfl, (BLe.of (RL.app (RL.self _) (RL.lst (enc := eS) [([x2, x3, x4].getD n6 [])] rfl rfl (fun _ => rfl))))⟩, ⟨_, rfl, .refl _⟩, trivial⟩) (Le.mk rfl rfl ⟨.refl _, .refl _, .refl _, .refl _, trivial⟩ ⟨⟨_, rfl, .refl _⟩, ⟨_, rfl, .refl _⟩, trivial⟩)) h
          ·
            replace h := ite_fb hc3 h
            refine AWp.skip ?_
            refine blockQ_normal ?_
            exact joinQ_normal (l7) (Le.mk rfl rfl ⟨.refl _, .refl _, .refl _, .refl _, trivial⟩ ⟨⟨_, rfl, .refl _⟩, ⟨_, rfl, .refl _⟩, trivial⟩) h
        ·
          rintro l8 h
          replace h := (congrFun hK2 _).symm.trans h
          obtain ⟨ob3p, h⟩ := chk_some h
          have ob3 : -9223372036854775808 ≤ ((n6 : Int) + (1 : Int)) ∧ ((n6 : Int) + (1 : Int)) ≤ 9223372036854775807 := ⟨by omega, ob3p⟩
          refine q1rr [] [] ⟨40, [(6, .own 18), (25, .own 25), (26, .i (3 : Int)), (27, .i (((n6 + 1) : Nat) : Int))], [(18, q1bS_9 l8), (25, q1bS_9 [x2, x3, x4])], [], 0⟩ (an1 ob3) ?_
          rw [hC0] at h
          exact loopQ_normal (_, (n6 + 1), l8) (Le.mk rfl rfl ⟨.refl _, .refl _, .refl _, .refl _, trivial⟩ ⟨⟨_, rfl, .refl _⟩, ⟨_, rfl, .refl _⟩, trivial⟩) h (Nat.lt_succ_self _)
      ·
        replace h := ite_fb hc2 h
        refine AWp.exit ?_
        refine thenQ_exit ?_
        refine thenQ_exit ?_
        refine blockQ_same ?_
        exact joinQ_normal (l7) (Le.mk rfl rfl ⟨.refl _, trivial⟩ ⟨⟨_, rfl, .refl _⟩, trivial⟩) h
    ·
      rintro l9 h
      replace h := (congrFun hK1 _).symm.trans h
      refine AWp.seq ?_
      obtain ⟨r10, hr10, h⟩ := bind_ok h
      refine q1rr [] [(1, ⟨[q1aS l9, .str ([32] : List UInt8)], [], [], [], .str r10, [], [18], []⟩)] ⟨40, [(2, .str r10), (3, .i (0 : Int))], [], [], 0⟩ (an1 (cpL (c := true) [(18, q1bS_9 l9)] [18] [.own 18, .str ([32] : List UInt8)] (fun _ => (f40_ok _ _ _ hr10)) (fun _ => ⟨.refl _, .refl _, trivial⟩) (.inr ⟨rfl, trivial⟩))) ?_
      refine thenQ_normal ?_
      have hret := Option.some.inj h
      subst hret
      refine AWp.ret ?_
      exact bodyQ_ret _ rfl ⟨rfl, rfl⟩ rfl
def f12_L0 (x1 : List UInt8) (K1 : Unit → Option (Int × List UInt8 × List UInt8 × List UInt8 × Int)) : Nat → (List (List UInt8) × List Nat) → Option (Int × List UInt8 × List UInt8 × List UInt8 × Int)
  | 0, _ => none
  | k + 1, (l4, l5) =>
    nextO mk22.length l5 (fun (j6 : Nat) =>
    chk ((0 : Int) < (((l4).length : Nat) : Int)) <|
    if (!(((mv22.getD j6 (default : List UInt8 × Bool × Bool × Bool)).1) == (l4.getD 0 []))) then (
    (f12_L0 x1 K1 k) (l4, (l5 ++ [j6]))
    ) else (
    chk ((1 : Int) ≤ (((l4).length : Nat) : Int)) <|
    (f23 ((mv22.getD j6 (default : List UInt8 × Bool × Bool × Bool)).2.1) (l4.drop 1)).bind fun (r7 : List UInt8 × List (List UInt8)) =>
    (f23 ((mv22.getD j6 (default : List UInt8 × Bool × Bool × Bool)).2.2.1) r7.2).bind fun (r8 : List UInt8 × List (List UInt8)) =>
    (f23 ((mv22.getD j6 (default : List UInt8 × Bool × Bool × Bool)).2.2.2) r8.2).bind fun (r9 : List UInt8 × List (List UInt8)) =>
    (f24 (mk22.getD j6 0) r7.1 r8.1 r9.1).bind fun (r10 : List UInt8 × Int) =>
    if ((r10.2 == (0 : Int)) && (r10.1 == x1)) then (
    some ((mk22.getD j6 0), r7.1, r8.1, r9.1, (0 : Int))
    ) else (
    (f12_L0 x1 K1 k) (l4, (l5 ++ [j6]))
    )
    )
    ) (
    K1 ()
    )
abbrev f12z0 : List V := [.int .i64 (0 : Int), .str [], .str [], .str []]
def f12 (x1 : List UInt8) : Option (Int × List UInt8 × List UInt8 × List UInt8 × Int) :=
  (f21 x1 ([32] : List UInt8)).bind fun (r2 : List (List UInt8)) =>
  jn (fun (_ : Unit) =>
  some ((0 : Int), [], [], [], (2 : Int))
  ) fun (K1 : Unit → Option (Int × List UInt8 × List UInt8 × List UInt8 × Int)) =>
  (f22 ).bind fun (r3 : Unit) =>
  f12_L0 x1 K1 FUEL (r2, [])
set_option maxRecDepth 100000 in
theorem f12_ok  (x1 : List UInt8) (r : Int × List UInt8 × List UInt8 × List UInt8 × Int) (h : f12 x1 = some r)  : Spec1 Tryz.prog 12 [] [] [] [.str x1] (.tup [.agg [.int .i64 r.1, .str r.2.1, .str r.2.2.1, .str r.2.2.2.1], .int .i64 r.2.2.2.2]) [] := by
  unfold f12 at h
  refine Spec1.bodyD [2] 0 _ _ Tryz.func12 rfl Tryz.ntmps12 rfl rfl ?_
  refine q1rq [] [] ⟨61, [(0, .str x1), (2, .ptr 2 0)], [(2, .cells 40 (f12z0))], [], 0⟩ trivial ?_
  refine AWp.seq ?_
  obtain ⟨r2, hr2, h⟩ := bind_ok h
  refine q1rr [] [(1, ⟨[.str x1, .str ([32] : List UInt8)], [], [], [(6001, q1bS_9 r2)], .own 6001, [6001], [], []⟩)] ⟨61, [(0, .str x1), (2, .ptr 2 0), (4, .own 6001)], [(2, .cells 40 (f12z0)), (6001, q1bS_9 r2)], [], 0⟩ (an1 (cpT (Spec1.ren (swapN 3000 6001) (swapN_inv 3000 6001) rfl (f21_ok _ _ _ hr2)))) ?_
  refine thenQ_normal ?_
  obtain ⟨K1, hK1, h⟩ := jn_some h
  refine AWp.join (α := Unit) (fun (x : Unit) => match x with | () => ⟨61, [(2, .ptr 2 0)], [(2, .cells 40 (f12z0))], [], 0⟩) (fun x => K1 x = some r) ?_ ?_
  ·
    refine AWp.seq ?_
    obtain ⟨r3, hr3, h⟩ := bind_ok h
    refine q1rr [] [(0, ⟨[], [], [], [], vM (V.int .i64) 0 m56 q1dSBBB mk22 mv22, [], [], []⟩), (1, ⟨[vM (V.int .i64) 0 m56 q1dSBBB mk22 mv22], [], [], [(15, iM (V.int .i64) 0 m56 q1dSBBB mk22 mv22 [])], .own 15, [15], [], []⟩)] ⟨61, [(0, .str x1), (2, .ptr 2 0), (4, .own 6001), (15, .own 15)], [(2, .cells 40 (f12z0)), (15, iM (V.int .i64) 0 m56 q1dSBBB mk22 mv22 []), (6001, q1bS_9 r2)], [], 0⟩ (an2 (cpT (f22_ok _ hr3)) (And.intro (rangeL_spec (P := Tryz.prog) Tryz.underlying56 (.tmp 14) 0 15 (V.int .i64) 0 m56 q1dSBBB mk22 mv22) (VLes.same [vM (V.int .i64) 0 m56 q1dSBBB mk22 mv22]))) ?_
    refine thenQ_normal ?_
    refine AWp.block ?_
    refine AWp.loopL (α := Nat × (List (List UInt8) × List Nat)) (fun x => match x with | (_, l4, l5) => ⟨61, [(0, .str x1), (2, .ptr 2 0), (4, q1aS l4), (15, .own 15)], [(2, .cells 40 (f12z0)), (15, iM (V.int .i64) 0 m56 q1dSBBB mk22 mv22 l5)], [], 0⟩) (fun x => f12_L0 x1 K1 x.1 x.2 = some r) (fun x => x.1) (FUEL, r2, []) (Le.trans (Le.trans (Le.freeze 6001 rfl rfl) (Le.mk (s' := ⟨61, [(0, .str x1), (2, .ptr 2 0), (4, q1aS r2), (15, .own 15)], [(2, .cells 40 (f12z0)), (15, iM (V.int .i64) 0 m56 q1dSBBB mk22 mv22 [])], [], 0⟩) rfl rfl ⟨.refl _, .refl _, .refl _, .refl _, trivial⟩ ⟨⟨_, rfl, .refl _⟩, ⟨_, rfl, .refl _⟩, trivial⟩)) (Le.mk (s' := ⟨61, [(0, .str x1), (2, .ptr 2 0), (4, q1aS r2), (15, .own 15)], [(2, .cells 40 (f12z0)), (15, iM (V.int .i64) 0 m56 q1dSBBB mk22 mv22 [])], [], 0⟩) rfl rfl ⟨.refl _, .refl _, .refl _, .refl _, trivial⟩ ⟨⟨_, rfl, .refl _⟩, ⟨_, rfl, .refl _⟩, trivial⟩)) h ?_
    rintro ⟨k0, l4, l5⟩ h
    cases k0 with
    | zero => exact nomatch (show (none : Option (Int × List UInt8 × List UInt8 × List UInt8 × Int)) = some r from h)
    | succ k0 =>
    obtain ⟨C0, hC0⟩ : ∃ C, C = f12_L0 x1 K1 k0 := ⟨_, rfl⟩
    replace h := (f12_L0.eq_2 ..).symm.trans h
    try rw [← hC0] at h
    refine AWp.seq ?_
    refine AWp.nextR 15 (V.int .i64) 0 m56 q1dSBBB mk22 mv22 l5 rfl rfl rfl rfl rfl (fun j6 hj6 hsj6 => ?_) (fun hall => ?_)
    ·
      replace h := (nextO_some h).1 j6 hj6 hsj6
      refine thenQ_normal ?_
      refine AWp.seq ?_
      refine AWp.cond (b := true) (by kernel_rfl) (fun hc => ?_) (fun hc => ?_)
      ·
        clear hc
        refine AWp.skip ?_
        refine thenQ_normal ?_
        refine AWp.block ?_
        refine q1rq [] [(0, ⟨[.own 15], [15], [15], [(15, iM (V.int .i64) 0 m56 q1dSBBB mk22 mv22 (l5 ++ [j6]))], .tup [.i (mk22.getD j6 0), .agg [.str (mv22.getD j6 q1dSBBB).1, .bool (mv22.getD j6 q1dSBBB).2.1, .bool (mv22.getD j6 q1dSBBB).2.2.1, .bool (mv22.getD j6 q1dSBBB).2.2.2]], [], [], []⟩)] ⟨61, [(0, .str x1), (2, .ptr 2 0), (4, q1aS l4), (5, .i (mk22.getD j6 0)), (6, .ptr 6 0), (15, .own 15)], [(2, .cells 40 (f12z0)), (6, .cells 59 [.str (mv22.getD j6 q1dSBBB).1, .bool (mv22.getD j6 q1dSBBB).2.1, .bool (mv22.getD j6 q1dSBBB).2.2.1, .bool (mv22.getD j6 q1dSBBB).2.2.2]), (15, iM (V.int .i64) 0 m56 q1dSBBB mk22 mv22 (l5 ++ [j6]))], [], 0⟩ (an2 (And.intro (entryL_spec (P := Tryz.prog) (.tmp 15) 0 15 (V.int .i64) 0 m56 q1dSBBB mk22 mv22 l5 j6 hj6) (VLes.same [.own 15])) trivial) ?_
        refine AWp.seq ?_
        refine AWp.seq ?_
        obtain ⟨ob0p, h⟩ := chk_some h
        have ob0 : 0 ≤ (0 : Int) ∧ (0 : Int) < (((l4).length : Nat) : Int) := ⟨by omega, ob0p⟩
        refine q1rr [] [] ⟨61, [(0, .str x1), (2, .ptr 2 0), (4, q1aS l4), (5, .i (mk22.getD j6 0)), (6, .ptr 6 0), (15, .own 15), (26, .bool (!(((mv22.getD j6 q1dSBBB).1) == (l4.getD 0 []))))], [(2, .cells 40 (f12z0)), (6, .cells 59 [.str (mv22.getD j6 q1dSBBB).1, .bool (mv22.getD j6 q1dSBBB).2.1, .bool (mv22.getD j6 q1dSBBB).2.2.1, .bool (mv22.getD j6 q1dSBBB).2.2.2]), (15, iM (V.int .i64) 0 m56 q1dSBBB mk22 mv22 (l5 ++ [j6]))], [], 0⟩ (an1 ob0) ?_
        refine thenQ_normal ?_
        refine AWp.cond (b := (!(((mv22.getD j6 q1dSBBB).1) == (l4.getD 0 [])))) (by kernel_rfl) (fun hc1 => ?_) (fun hc1 => ?_)
        ·
          replace h := ite_tb hc1 h
          refine AWp.exit ?_
          refine thenQ_exit ?_
          refine blockQ_same ?_
          rw [hC0] at h
          exact loopQ_normal (_, l4, (l5 ++ [j6])) (Le.mk rfl rfl ⟨.refl _, .refl _, .refl _, .refl _, trivial⟩ ⟨⟨_, rfl, .refl _⟩, ⟨_, rfl, .refl _⟩, trivial⟩) h (Nat.lt_succ_self _)
        ·
          replace h := ite_fb hc1 h
          refine AWp.skip ?_
          refine thenQ_normal ?_
          refine AWp.seq ?_
          obtain ⟨ob1p, h⟩ := chk_some h
          have ob1 : 0 ≤ (1 : Int) ∧ (1 : Int) ≤ (((l4).length : Nat) : Int) := ⟨by omega, ob1p⟩
          refine q1rr [] [] ⟨61, [(0, .str x1), (2, .ptr 2 0), (4, q1aS l4), (6, .ptr 6 0), (7, .ptr 7 0), (8, .ptr 8 0), (15, .own 15)], [(2, .cells 40 (f12z0)), (6, .cells 59 [.str (mv22.getD j6 q1dSBBB).1, .bool (mv22.getD j6 q1dSBBB).2.1, .bool (mv22.getD j6 q1dSBBB).2.2.1, .bool (mv22.getD j6 q1dSBBB).2.2.2]), (7, .cells 40 [.i (mk22.getD j6 0), .str [], .str [], .str []]), (8, .cells 25 [.arr 1 ((l4).length - 1) (fun i j => (encF eS [] l4) (i + 1) j)]), (15, iM (V.int .i64) 0 m56 q1dSBBB mk22 mv22 (l5 ++ [j6]))], [], 0⟩ (an3 ob1 trivial trivial) ?_
          refine thenQ_normal ?_
          refine AWp.le (Le.mk (s' := ⟨61, [(0, .str x1), (2, .ptr 2 0), (4, q1aS l4), (6, .ptr 6 0), (7, .ptr 7 0), (8, .ptr 8 0), (15, .own 15)], [(2, .cells 40 (f12z0)), (6, .cells 59 [.str (mv22.getD j6 q1dSBBB).1, .bool (mv22.getD j6 q1dSBBB).2.1, .bool (mv22.getD j6 q1dSBBB).2.2.1, .bool (mv22.getD j6 q1dSBBB).2.2.2]), (7, .cells 40 [.i (mk22.getD j6 0), .str [], .str [], .str []]), (8, .cells 25 [q1aS (l4.drop 1)]), (15, iM (V.int .i64) 0 m56 q1dSBBB mk22 mv22 (l5 ++ [j6]))], [], 0⟩) rfl rfl ⟨.refl _, .refl _, .refl _, .refl _, .refl _, .refl _, .refl _, trivial⟩ ⟨⟨_, rfl, .refl _⟩, ⟨_, rfl, .refl _⟩, ⟨_, rfl, .refl _⟩, ⟨_, rfl, (.cellsL ⟨VLe.dropL, trivial⟩)⟩, ⟨_, rfl, .refl _⟩, trivial⟩) ?_
          refine q1rq [] [] ⟨61, [(0, .str x1), (2, .ptr 2 0), (4, q1aS l4), (6, .ptr 6 0), (7, .ptr 7 0), (9, .fn (.func 23) [.ptr 8 0]), (15, .own 15)], [(2, .cells 40 (f12z0)), (6, .cells 59 [.str (mv22.getD j6 q1dSBBB).1, .bool (mv22.getD j6 q1dSBBB).2.1, .bool (mv22.getD j6 q1dSBBB).2.2.1, .bool (mv22.getD j6 q1dSBBB).2.2.2]), (7, .cells 40 [.i (mk22.getD j6 0), .str [], .str [], .str []]), (8, .cells 25 [q1aS (l4.drop 1)]), (15, iM (V.int .i64) 0 m56 q1dSBBB mk22 mv22 (l5 ++ [j6]))], [], 0⟩ trivial ?_
          refine AWp.seq ?_
          obtain ⟨r7, hr7, h⟩ := bind_ok h
          obtain ⟨r8, hr8, h⟩ := bind_ok h
          obtain ⟨r9, hr9, h⟩ := bind_ok h
          refine q1rr [] [(3, ⟨[.bool (mv22.getD j6 q1dSBBB).2.1, .ptr 8 0], [8], [8], [(8, .cells 25 [q1aS r7.2])], .str r7.1, [], [], []⟩), (7, ⟨[.bool (mv22.getD j6 q1dSBBB).2.2.1, .ptr 8 0], [8], [8], [(8, .cells 25 [q1aS r8.2])], .str r8.1, [], [], []⟩), (11, ⟨[.bool (mv22.getD j6 q1dSBBB).2.2.2, .ptr 8 0], [8], [8], [(8, .cells 25 [q1aS r9.2])], .str r9.1, [], [], []⟩)] ⟨61, [(0, .str x1), (2, .ptr 2 0), (4, q1aS l4), (7, .ptr 7 0), (15, .own 15)], [(2, .cells 40 (f12z0)), (7, .cells 40 [.i (mk22.getD j6 0), .str r7.1, .str r8.1, .str r9.1]), (15, iM (V.int .i64) 0 m56 q1dSBBB mk22 mv22 (l5 ++ [j6]))], [], 0⟩ (an6 (cpT (Spec1.ren (swapN 2000 8) (swapN_inv 2000 8) rfl (f23_ok _ _ _ hr7))) (cpT (Spec1.ren (swapN 2000 8) (swapN_inv 2000 8) rfl (f23_ok _ _ _ hr8))) (cpT (Spec1.ren (swapN 2000 8) (swapN_inv 2000 8) rfl (f23_ok _ _ _ hr9))) trivial trivial trivial) ?_
          refine thenQ_normal ?_
          refine AWp.seq ?_
          obtain ⟨r10, hr10, h⟩ := bind_ok h
          refine q1rr [] [(1, ⟨[.agg [.i (mk22.getD j6 0), .str r7.1, .str r8.1, .str r9.1]], [], [], [], .tup [.str r10.1, .i r10.2], [], [], []⟩)] ⟨61, [(0, .str x1), (2, .ptr 2 0), (4, q1aS l4), (7, .ptr 7 0), (10, .str r10.1), (11, .i r10.2), (15, .own 15)], [(2, .cells 40 (f12z0)), (7, .cells 40 [.i (mk22.getD j6 0), .str r7.1, .str r8.1, .str r9.1]), (15, iM (V.int .i64) 0 m56 q1dSBBB mk22 mv22 (l5 ++ [j6]))], [], 0⟩ (an1 (cpT (f24_ok _ _ _ _ _ hr10))) ?_
          refine thenQ_normal ?_
          refine AWp.seq ?_
          have ob2 := idA (((r10.2 == (0 : Int)) == true) = true)
          have ob4 := bqA (r10.2 == (0 : Int)) true
          refine q1rr [] [] ⟨61, [(0, .str x1), (2, .ptr 2 0), (4, q1aS l4), (7, .ptr 7 0), (15, .own 15), (58, .bool ((r10.2 == (0 : Int)) && (r10.1 == x1)))], [(2, .cells 40 (f12z0)), (7, .cells 40 [.i (mk22.getD j6 0), .str r7.1, .str r8.1, .str r9.1]), (15, iM (V.int .i64) 0 m56 q1dSBBB mk22 mv22 (l5 ++ [j6]))], [], 0⟩ (an2 (an2 ob2 ob2) ob4) ?_
          refine thenQ_normal ?_
          refine AWp.cond (b := ((r10.2 == (0 : Int)) && (r10.1 == x1))) (by kernel_rfl) (fun hc2 => ?_) (fun hc2 => ?_)
          ·
            replace h := ite_tb hc2 h
            refine q1rq [] [] ⟨61, [(2, .ptr 2 0), (3, .i (0 : Int))], [(2, .cells 40 [.i (mk22.getD j6 0), .str r7.1, .str r8.1, .str r9.1])], [], 0⟩ (an1 trivial) ?_
            have hret := Option.some.inj h
            subst hret
            refine AWp.ret ?_
            refine blockQ_ret ?_
            refine thenQ_ret ?_
            refine blockQ_ret ?_
            refine joinQ_ret ?_
            exact bodyQ_ret _ rfl ⟨rfl, rfl⟩ rfl
          ·
            replace h := ite_fb hc2 h
            refine AWp.skip ?_
            refine blockQ_normal ?_
            rw [hC0] at h
            exact loopQ_normal (_, l4, (l5 ++ [j6])) (Le.mk rfl rfl ⟨.refl _, .refl _, .refl _, .refl _, trivial⟩ ⟨⟨_, rfl, .refl _⟩, ⟨_, rfl, .refl _⟩, trivial⟩) h (Nat.lt_succ_self _)
      ·
        cases hc
    ·
      replace h := (nextO_some h).2 hall
      refine thenQ_normal ?_
      refine AWp.seq ?_
      refine AWp.cond (b := false) (by kernel_rfl) (fun hc => ?_) (fun hc => ?_)
      ·
        cases hc
      ·
        clear hc
        refine AWp.exit ?_
        refine thenQ_exit ?_
        refine thenQ_exit ?_
        refine blockQ_same ?_
        exact joinQ_normal () (Le.mk rfl rfl ⟨.refl _, trivial⟩ ⟨⟨_, rfl, .refl _⟩, trivial⟩) h
  ·
    rintro ⟨⟩ h
    replace h := (congrFun hK1 _).symm.trans h
    refine q1rq [] [] ⟨61, [(2, .ptr 2 0), (3, .i (2 : Int))], [(2, .cells 40 (f12z0))], [], 0⟩ (an1 trivial) ?_
    have hret := Option.some.inj h
    subst hret
    refine AWp.ret ?_
    exact bodyQ_ret _ rfl ⟨rfl, rfl⟩ rfl
def f57 (x1 x2 : List UInt8) : Option Int := some (Lib.compareBytes x1 x2)
theorem f57_ok (x1 x2 : List UInt8) (r : Int) (h : f57 x1 x2 = some r) : Spec1 Tryz.prog 57 [] [] [] [.str x1, .str x2] (.int .i64 r) [] := str2_spec Lib.compareBytes cmpString x1 x2 r h
def f44 (x1 : List UInt8) (x2 : List UInt8) : Option Int :=
  (f57 x1 x2).bind fun (r3 : Int) =>
  some r3
set_option maxRecDepth 100000 in
theorem f44_ok  (x1 : List UInt8) (x2 : List UInt8) (r : Int) (h : f44 x1 x2 = some r)  : Spec1 Tryz.prog 44 [] [] [] [.str x1, .str x2] (.int .i64 r) [] := by
  unfold f44 at h
  refine Spec1.body 0 _ _ Tryz.func44 rfl Tryz.ntmps44 rfl rfl ?_
  refine q1rq [] [] ⟨8, [(0, .str x1), (1, .str x2)], [], [], 0⟩ trivial ?_
  refine AWp.seq ?_
  obtain ⟨r3, hr3, h⟩ := bind_ok h
  refine q1rr [] [(2, ⟨[.str x1, .str x2], [], [], [], .i r3, [], [], []⟩)] ⟨8, [(4, .i r3)], [], [], 0⟩ (an1 (cpT (f57_ok _ _ _ hr3))) ?_
  refine thenQ_normal ?_
  have hret := Option.some.inj h
  subst hret
  refine AWp.ret ?_
  exact bodyQ_ret _ rfl ⟨rfl, rfl⟩ rfl
def f43 (x1 : List UInt8) (x2 : List UInt8) (x3 : Int) (x4 : List UInt8) : Option Int :=
  (f44 x1 x4).bind fun (r5 : Int) =>
  some r5
set_option maxRecDepth 100000 in
theorem f43_ok  (x1 : List UInt8) (x2 : List UInt8) (x3 : Int) (x4 : List UInt8) (r : Int) (h : f43 x1 x2 x3 x4 = some r)  : Spec1 Tryz.prog 43 [] [] [] [.agg [.str x1, .str x2, .int .i64 x3], .str x4] (.int .i64 r) [] := by
  unfold f43 at h
  refine Spec1.body 0 _ _ Tryz.func43 rfl Tryz.ntmps43 rfl rfl ?_
  refine q1rq [] [] ⟨9, [(1, .str x4), (2, .ptr 2 0)], [(2, .cells 31 [.str x1, .str x2, .i x3])], [], 0⟩ trivial ?_
  refine AWp.seq ?_
  obtain ⟨r5, hr5, h⟩ := bind_ok h
  refine q1rr [] [(3, ⟨[.str x1, .str x4], [], [], [], .i r5, [], [], []⟩)] ⟨9, [(4, .i r5)], [], [], 0⟩ (an1 (cpT (f44_ok _ _ _ hr5))) ?_
  refine thenQ_normal ?_
  have hret := Option.some.inj h
  subst hret
  refine AWp.ret ?_
  exact bodyQ_ret _ rfl ⟨rfl, rfl⟩ rfl
def f42_L0 (x1 : List (List UInt8 × List UInt8 × Int)) (x2 : List UInt8) (K1 : Int → Option (Int × Bool)) : Nat → (Int × Int) → Option (Int × Bool)
  | 0, _ => none
  | k + 1, (i3, i4) =>
    if (decide (i3 < i4)) then (
    chk (-9223372036854775808 ≤ (i3 + i4) ∧ (i3 + i4) ≤ 9223372036854775807) <|
    chk (0 ≤ (i3 + i4) ∧ (i3 + i4) ≤ 18446744073709551615) <|
    chk (1 ≤ IntKind.bits .u64) <|
    chk (-9223372036854775808 ≤ ((i3 + i4) / 2 ^ 1) ∧ ((i3 + i4) / 2 ^ 1) ≤ 9223372036854775807) <|
    (f43 ((x1.getD ((((i3 + i4) / 2 ^ 1)).toNat) (default : List UInt8 × List UInt8 × Int)).1) ((x1.getD ((((i3 + i4) / 2 ^ 1)).toNat) (default : List UInt8 × List UInt8 × Int)).2.1) ((x1.getD ((((i3 + i4) / 2 ^ 1)).toNat) (default : List UInt8 × List UInt8 × Int)).2.2) x2).bind fun (r5 : Int) =>
    chk (0 ≤ ((i3 + i4) / 2 ^ 1) ∧ ((i3 + i4) / 2 ^ 1) < (((x1).length : Nat) : Int)) <|
    if (decide (r5 < (0 : Int))) then (
    chk (-9223372036854775808 ≤ (((i3 + i4) / 2 ^ 1) + (1 : Int)) ∧ (((i3 + i4) / 2 ^ 1) + (1 : Int)) ≤ 9223372036854775807) <|
    (f42_L0 x1 x2 K1 k) ((((i3 + i4) / 2 ^ 1) + (1 : Int)), i4)
    ) else (
    (f42_L0 x1 x2 K1 k) (i3, ((i3 + i4) / 2 ^ 1))
    )
    ) else (
    K1 i3
    )
def f42 (x1 : List (List UInt8 × List UInt8 × Int)) (x2 : List UInt8) : Option (Int × Bool) :=
  jn (fun (i6 : Int) =>
  optc ((decide (i6 < (((x1).length : Nat) : Int))) == true) (f43 ((x1.getD ((i6).toNat) (default : List UInt8 × List UInt8 × Int)).1) ((x1.getD ((i6).toNat) (default : List UInt8 × List UInt8 × Int)).2.1) ((x1.getD ((i6).toNat) (default : List UInt8 × List UInt8 × Int)).2.2) x2) fun (r7 : Int) =>
  chk (((decide (i6 < (((x1).length : Nat) : Int))) == true) = true → 0 ≤ i6 ∧ i6 < (((x1).length : Nat) : Int)) <|
  some (i6, ((decide (i6 < (((x1).length : Nat) : Int))) && (r7 == (0 : Int))))
  ) fun (K1 : Int → Option (Int × Bool)) =>
  f42_L0 x1 x2 K1 FUEL ((0 : Int), (((x1).length : Nat) : Int))
set_option maxRecDepth 100000 in
theorem f42_ok  (x1 : List (List UInt8 × List UInt8 × Int)) (x2 : List UInt8) (r : Int × Bool) (h : f42 x1 x2 = some r)  : Spec1 Tryz.prog 42 [] [] [] [vL 3 eSSI (default : List UInt8 × List UInt8 × Int) x1, .str x2, .fn (.func 43) []] (.tup [.int .i64 r.1, .bool r.2]) [] := by
  unfold f42 at h
  refine Spec1.body 0 _ _ Tryz.func42 rfl Tryz.ntmps42 rfl rfl ?_
  refine q1rq [] [] ⟨49, [(0, q1aSSI x1), (1, .str x2), (2, .fn (.func 43) [])], [], [], 0⟩ trivial ?_
  refine q1rq [] [] ⟨49, [(0, q1aSSI x1), (1, .str x2), (2, .fn (.func 43) []), (8, .i (lZ x1))], [], [], 0⟩ trivial ?_
  refine q1rq [] [] ⟨49, [(0, q1aSSI x1), (1, .str x2), (2, .fn (.func 43) []), (8, .i (lZ x1)), (9, .i (0 : Int)), (10, .i (lZ x1))], [], [], 0⟩ trivial ?_
  obtain ⟨K1, hK1, h⟩ := jn_some h
  refine AWp.join (α := Int) (fun (i6 : Int) => ⟨49, [(0, q1aSSI x1), (1, .str x2), (2, .fn (.func 43) []), (8, .i (lZ x1)), (9, .i i6)], [], [], 0⟩) (fun x => K1 x = some r) ?_ ?_
  ·
    refine AWp.block ?_
    refine AWp.loopL (α := Nat × (Int × Int)) (fun x => match x with | (_, i3, i4) => ⟨49, [(0, q1aSSI x1), (1, .str x2), (2, .fn (.func 43) []), (8, .i (lZ x1)), (9, .i i3), (10, .i i4)], [], [], 0⟩) (fun x => f42_L0 x1 x2 K1 x.1 x.2 = some r) (fun x => x.1) (FUEL, (0 : Int), (lZ x1)) (Le.mk (s' := ⟨49, [(0, q1aSSI x1), (1, .str x2), (2, .fn (.func 43) []), (8, .i (lZ x1)), (9, .i (0 : Int)), (10, .i (lZ x1))], [], [], 0⟩) rfl rfl ⟨.refl _, .refl _, .refl _, .refl _, .refl _, .refl _, trivial⟩ trivial) h ?_
    rintro ⟨k0, i3, i4⟩ h
    cases k0 with
    | zero => exact nomatch (show (none : Option (Int × Bool)) = some r from h)
    | succ k0 =>
    obtain ⟨C0, hC0⟩ : ∃ C, C = f42_L0 x1 x2 K1 k0 := ⟨_, rfl⟩
    replace h := (f42_L0.eq_2 ..).symm.trans h
    try rw [← hC0] at h
    refine AWp.seq ?_
    refine q1rq [] [] ⟨49, [(0, q1aSSI x1), (1, .str x2), (2, .fn (.func 43) []), (8, .i (lZ x1)), (9, .i i3), (10, .i i4), (17, .bool (decide (i3 < i4)))], [], [], 0⟩ trivial ?_
    refine AWp.cond (b := (decide (i3 < i4))) (by kernel_rfl) (fun hc1 => ?_) (fun hc1 => ?_)
    ·
      replace h := ite_tb hc1 h
      refine AWp.skip ?_
      refine thenQ_normal ?_
      refine AWp.block ?_
      refine AWp.seq ?_
      obtain ⟨ob0, ob1, ob2p, h⟩ := ck3 h
      have ob2 : 0 ≤ (1 : Int) ∧ 1 ≤ IntKind.bits .u64 := ⟨by omega, ob2p⟩
      obtain ⟨ob3, h⟩ := chk_some h
      refine q1rr [] [] ⟨49, [(0, q1aSSI x1), (1, .str x2), (2, .fn (.func 43) []), (8, .i (lZ x1)), (9, .i i3), (10, .i i4), (11, .i ((i3 + i4) / 2 ^ 1))], [], [], 0⟩ (an4 ob0 ob1 ob2 ob3) ?_
      refine thenQ_normal ?_
      refine AWp.seq ?_
      obtain ⟨r5, hr5, h⟩ := bind_ok h
      obtain ⟨ob4, h⟩ := chk_some h
      refine q1rr [] [(6, ⟨[.agg [.str (x1.getD ((((i3 + i4) / 2 ^ 1)).toNat) q1dSSI).1, .str (x1.getD ((((i3 + i4) / 2 ^ 1)).toNat) q1dSSI).2.1, .i (x1.getD ((((i3 + i4) / 2 ^ 1)).toNat) q1dSSI).2.2], .str x2], [], [], [], .i r5, [], [], []⟩)] ⟨49, [(0, q1aSSI x1), (1, .str x2), (2, .fn (.func 43) []), (8, .i (lZ x1)), (9, .i i3), (10, .i i4), (11, .i ((i3 + i4) / 2 ^ 1)), (31, .bool (decide (r5 < (0 : Int))))], [], [], 0⟩ (an2 ob4 (cpT (f43_ok _ _ _ _ _ hr5))) ?_
      refine thenQ_normal ?_
      refine AWp.cond (b := (decide (r5 < (0 : Int)))) (by kernel_rfl) (fun hc2 => ?_) (fun hc2 => ?_)
      ·
        replace h := ite_tb hc2 h
        obtain ⟨ob5, h⟩ := chk_some h
        refine q1rr [] [] ⟨49, [(0, q1aSSI x1), (1, .str x2), (2, .fn (.func 43) []), (8, .i (lZ x1)), (9, .i (((i3 + i4) / 2 ^ 1) + (1 : Int))), (10, .i i4)], [], [], 0⟩ (an1 ob5) ?_
        refine blockQ_normal ?_
        rw [hC0] at h
        exact loopQ_normal (_, (((i3 + i4) / 2 ^ 1) + (1 : Int)), i4) (Le.mk rfl rfl ⟨.refl _, .refl _, .refl _, .refl _, .refl _, .refl _, trivial⟩ trivial) h (Nat.lt_succ_self _)
      ·
        replace h := ite_fb hc2 h
        refine q1rr [] [] ⟨49, [(0, q1aSSI x1), (1, .str x2), (2, .fn (.func 43) []), (8, .i (lZ x1)), (9, .i i3), (10, .i ((i3 + i4) / 2 ^ 1))], [], [], 0⟩ trivial ?_
        refine blockQ_normal ?_
        rw [hC0] at h
        exact loopQ_normal (_, i3, ((i3 + i4) / 2 ^ 1)) (Le.mk rfl rfl ⟨.refl _, .refl _, .refl _, .refl _, .refl _, .refl _, trivial⟩ trivial) h (Nat.lt_succ_self _)
    ·
      replace h := ite_fb hc1 h
      refine AWp.exit ?_
      refine thenQ_exit ?_
      refine thenQ_exit ?_
      refine blockQ_same ?_
      exact joinQ_normal (i3) (Le.mk rfl rfl ⟨.refl _, .refl _, .refl _, .refl _, .refl _, trivial⟩ trivial) h
  ·
    rintro i6 h
    replace h := (congrFun hK1 _).symm.trans h
    refine AWp.seq ?_
    obtain ⟨r7, hr7, h⟩ := optc_some h
    obtain ⟨ob6, h⟩ := chk_some h
    have ob7 := idA (((decide (i6 < (lZ x1))) == true) = true)
    have ob14 := bqA (decide (i6 < (lZ x1))) true
    refine q1rr [] [(11, ⟨[.agg [.str (x1.getD ((i6).toNat) q1dSSI).1, .str (x1.getD ((i6).toNat) q1dSSI).2.1, .i (x1.getD ((i6).toNat) q1dSSI).2.2], .str x2], [], [], [], .i r7, [], [], []⟩)] ⟨49, [(6, .i i6), (7, .bool ((decide (i6 < (lZ x1))) && (r7 == (0 : Int))))], [], [], 0⟩ (an5 (And.intro ob6 (an2 ob7 ob7)) (an1 ob7) (And.intro (cpC fun hc => (f43_ok _ _ _ _ _ (hr7 hc))) (an3 ob7 ob7 ob7)) (an1 ob7) ob14) ?_
    refine thenQ_normal ?_
    have hret := Option.some.inj h
    subst hret
    refine AWp.ret ?_
    exact bodyQ_ret _ rfl ⟨rfl, rfl⟩ rfl
def f26 (x1 : List (List UInt8 × List UInt8 × Int)) (x2 : List UInt8) : Option (Int × Bool) :=
  (f42 x1 x2).bind fun (r3 : Int × Bool) =>
  some (r3.1, r3.2)
set_option maxRecDepth 100000 in
theorem f26_ok  (x1 : List (List UInt8 × List UInt8 × Int)) (x2 : List UInt8) (r : Int × Bool) (h : f26 x1 x2 = some r)  : Spec1 Tryz.prog 26 [] [] [] [vL 3 eSSI (default : List UInt8 × List UInt8 × Int) x1, .str x2] (.tup [.int .i64 r.1, .bool r.2]) [] := by
  unfold f26 at h
  refine Spec1.body 0 _ _ Tryz.func26 rfl Tryz.ntmps26 rfl rfl ?_
  refine q1rq [] [] ⟨11, [(0, q1aSSI x1), (1, .str x2)], [], [], 0⟩ trivial ?_
  refine AWp.seq ?_
  obtain ⟨r3, hr3, h⟩ := bind_ok h
  refine q1rr [] [(2, ⟨[q1aSSI x1, .str x2, .fn (.func 43) []], [], [], [], .tup [.i r3.1, .bool r3.2], [], [], []⟩)] ⟨11, [(4, .i r3.1), (5, .bool r3.2)], [], [], 0⟩ (an1 (cpT (f42_ok _ _ _ hr3))) ?_
  refine thenQ_normal ?_
  have hret := Option.some.inj h
  subst hret
  refine AWp.ret ?_
  exact bodyQ_ret _ rfl ⟨rfl, rfl⟩ rfl
def f27 (x1 : Int) : Option (List UInt8) := itoaO x1
theorem f27_ok (x1 : Int) (r : List UInt8) (h : f27 x1 = some r) : Spec1 Tryz.prog 27 [(3, .tab .u64 Lib.pow10Tab)] [] [] [.int .i64 x1] (.str r) [] :=
  itoa_spec (by kernel_rfl) (fun n w h0 h1 ht => Any.strconv_Itoa Tryz.lays171 n h0 h1 w ht) x1 r h
def f7 (x1 : List (List UInt8 × List UInt8 × Int)) : Option (List (List UInt8 × List UInt8 × Int)) :=
  abc ((x1).length = 0) (
  some []
  ) (
  chk ((0 + (x1).length) * 40 ≤ 140737488355328) <|
  some ([] ++ x1)
  )
set_option maxRecDepth 100000 in
theorem f7_ok  (x1 : List (List UInt8 × List UInt8 × Int)) (r : List (List UInt8 × List UInt8 × Int)) (h : f7 x1 = some r)  : Spec1 Tryz.prog 7 [] [] [] [vL 3 eSSI (default : List UInt8 × List UInt8 × Int) x1] (.own 3000) [(3000, bL 31 3 eSSI (default : List UInt8 × List UInt8 × Int) r)] := by
  unfold f7 at h
  refine Spec1.body 0 _ _ Tryz.func7 rfl Tryz.ntmps7 rfl rfl ?_
  refine q1rq [] [] ⟨8, [(0, q1aSSI x1)], [], [], 0⟩ trivial ?_
  refine AWp.seq ?_
  refine q1rq [] [] ⟨8, [(0, q1aSSI x1), (4, .abool (fun b => b = true → (x1).length = 0))], [], [], 0⟩ trivial ?_
  obtain ⟨hA1, hB1⟩ := abc_some h
  refine AWp.condAb (fun b => b = true → (x1).length = 0) (by kernel_rfl) (fun hc1 => ?_) (fun hc1 => ?_)
  ·
    have h := hA1 (hc1 rfl)
    refine q1rq [] [] ⟨8, [(2, .nils)], [], [], 0⟩ trivial ?_
    refine AWp.le (Le.trans (Le.nilOwn 2 3000 31 3 (encF eSSI q1dSSI []) rfl rfl (Nat.le_of_ble_eq_true rfl)) (Le.mk (s' := ⟨8, [(2, .own 3000)], [(3000, q1bSSI_31 [])], [], 0⟩) rfl rfl ⟨.refl _, trivial⟩ ⟨⟨_, rfl, .refl _⟩, trivial⟩)) ?_
    have hret := Option.some.inj h
    subst hret
    refine AWp.le (Le.mk (s' := ⟨8, [(2, .own 3000)], [(3000, q1bSSI_31 [])], [], 0⟩) rfl rfl ⟨.refl _, trivial⟩ ⟨⟨_, rfl, .refl _⟩, trivial⟩) ?_
    refine AWp.ret ?_
    refine thenQ_ret ?_
    exact bodyQ_ret _ rfl ⟨rfl, rfl⟩ rfl
  ·
    have h := hB1
    refine AWp.skip ?_
    refine thenQ_normal ?_
    refine AWp.seq ?_
    obtain ⟨ob0, h⟩ := chk_some h
    refine q1rr [] [] ⟨8, [(2, .own 5)], [(5, .rows 31 3 (0 + (x1).length) (appF 0 (lstF 3 []) (encF eSSI q1dSSI x1)))], [], 0⟩ (an1 ob0) ?_
    refine thenQ_normal ?_
    refine AWp.le (Le.mk (s' := ⟨8, [(2, .own 5)], [(5, q1bSSI_31 ([] ++ x1))], [], 0⟩) rfl rfl ⟨.refl _, trivial⟩ ⟨⟨_, rfl, (BLe.of (RL.app (RL.lst (enc := eSSI) [] rfl rfl (fun _ => rfl)) (RL.self _)))⟩, trivial⟩) ?_
    refine AWp.le (Le.trans (Le.ren (swapN 5 3000) (swapN_inv 5 3000) rfl) (Le.mk (s' := ⟨8, [(2, .own 3000)], [(3000, q1bSSI_31 ([] ++ x1))], [], 0⟩) rfl rfl ⟨.refl _, trivial⟩ ⟨⟨_, rfl, .refl _⟩, trivial⟩)) ?_
    have hret := Option.some.inj h
    subst hret
    refine AWp.le (Le.mk (s' := ⟨8, [(2, .own 3000)], [(3000, q1bSSI_31 ([] ++ x1))], [], 0⟩) rfl rfl ⟨.refl _, trivial⟩ ⟨⟨_, rfl, .refl _⟩, trivial⟩) ?_
    refine AWp.ret ?_
    exact bodyQ_ret _ rfl ⟨rfl, rfl⟩ rfl
abbrev f46z0 (x2 : List (List UInt8 × List UInt8 × Int)) (x3 : List (List UInt8 × List UInt8 × Int)) : Heap := [(2000, bL 31 3 eSSI (default : List UInt8 × List UInt8 × Int) x2), (2001, bL 31 3 eSSI (default : List UInt8 × List UInt8 × Int) x3)]
def f46e (x1 : Int) (x2 : List (List UInt8 × List UInt8 × Int)) (x3 : List (List UInt8 × List UInt8 × Int)) : Option ((List (List UInt8 × List UInt8 × Int)) × (List (List UInt8 × List UInt8 × Int))) :=
  chk (0 ≤ x1 ∧ x1 ≤ (((x2).length : Nat) : Int)) <|
  if ((((x3).length : Nat) : Int) == (0 : Int)) then (
  some (x2, x3)
  ) else (
  if (x1 == (((x2).length : Nat) : Int)) then (
  chk (((x2).length + (x3).length) * 40 ≤ 140737488355328) <|
  some ((x2 ++ x3), x3)
  ) else (
  
  none
  )
  )
set_option maxRecDepth 100000 in
theorem f46e_ok  (x1 : Int) (x2 : List (List UInt8 × List UInt8 × Int)) (x3 : List (List UInt8 × List UInt8 × Int)) (r : (List (List UInt8 × List UInt8 × Int)) × (List (List UInt8 × List UInt8 × Int))) (h : f46e x1 x2 x3 = some r)  : Spec1 Tryz.prog 46 [] [2001] [(2000, bL 31 3 eSSI (default : List UInt8 × List UInt8 × Int) x2), (2001, bL 31 3 eSSI (default : List UInt8 × List UInt8 × Int) x3)] [.own 2000, .int .i64 x1, .own 2001] (.own 2000) [(2000, bL 31 3 eSSI (default : List UInt8 × List UInt8 × Int) r.1), (2001, bL 31 3 eSSI (default : List UInt8 × List UInt8 × Int) r.2)] := by
  unfold f46e at h
  refine Spec1.body 0 _ _ Tryz.func46 rfl Tryz.ntmps46 rfl rfl ?_
  refine q1rq [] [] ⟨95, [(0, .own 2000), (1, .i x1), (2, .own 2001)], (f46z0 x2 x3), [2001], 0⟩ trivial ?_
  refine AWp.seq ?_
  obtain ⟨ob0, h⟩ := chk_some h
  refine q1rr [] [] ⟨95, [(0, .own 2000), (1, .i x1), (2, .own 2001)], (f46z0 x2 x3), [2001], 0⟩ (an1 ob0) ?_
  refine thenQ_normal ?_
  refine q1rq [] [] ⟨95, [(0, .own 2000), (1, .i x1), (2, .own 2001), (7, .i (lZ x3))], (f46z0 x2 x3), [2001], 0⟩ trivial ?_
  refine AWp.seq ?_
  refine q1rq [] [] ⟨95, [(0, .own 2000), (1, .i x1), (2, .own 2001), (7, .i (lZ x3)), (16, .bool ((lZ x3) == (0 : Int)))], (f46z0 x2 x3), [2001], 0⟩ trivial ?_
  refine AWp.cond (b := ((lZ x3) == (0 : Int))) (by kernel_rfl) (fun hc1 => ?_) (fun hc1 => ?_)
  ·
    replace h := ite_tb hc1 h
    refine q1rq [] [] ⟨95, [(6, .own 2000)], (f46z0 x2 x3), [2001], 0⟩ trivial ?_
    have hret := Option.some.inj h
    subst hret
    refine AWp.ret ?_
    refine thenQ_ret ?_
    exact bodyQ_ret _ rfl ⟨rfl, rfl⟩ rfl
  ·
    replace h := ite_fb hc1 h
    refine AWp.skip ?_
    refine thenQ_normal ?_
    refine q1rq [] [] ⟨95, [(0, .own 2000), (1, .i x1), (2, .own 2001), (7, .i (lZ x3)), (8, .i (lZ x2))], (f46z0 x2 x3), [2001], 0⟩ trivial ?_
    refine AWp.seq ?_
    refine q1rq [] [] ⟨95, [(0, .own 2000), (1, .i x1), (2, .own 2001), (7, .i (lZ x3)), (8, .i (lZ x2)), (22, .bool (x1 == (lZ x2)))], (f46z0 x2 x3), [2001], 0⟩ trivial ?_
    refine AWp.cond (b := (x1 == (lZ x2))) (by kernel_rfl) (fun hc2 => ?_) (fun hc2 => ?_)
    ·
      replace h := ite_tb hc2 h
      refine AWp.seq ?_
      obtain ⟨ob1, h⟩ := chk_some h
      refine q1rr [] [] ⟨95, [(6, .own 2000)], [(2000, .rows 31 3 ((x2).length + (x3).length) (appF (x2).length (encF eSSI q1dSSI x2) (encF eSSI q1dSSI x3))), (2001, q1bSSI_31 x3)], [2001], 0⟩ (an1 ob1) ?_
      refine thenQ_normal ?_
      refine AWp.le (Le.mk (s' := ⟨95, [(6, .own 2000)], [(2000, q1bSSI_31 (x2 ++ x3)), (2001, q1bSSI_31 x3)], [2001], 0⟩) rfl rfl ⟨.refl _, trivial⟩ ⟨⟨_, rfl, (BLe.of (RL.app (RL.self _) (RL.self _)))⟩, ⟨_, rfl, .refl _⟩, trivial⟩) ?_
      have hret := Option.some.inj h
      subst hret
      refine AWp.ret ?_
      refine thenQ_ret ?_
      exact bodyQ_ret _ rfl ⟨rfl, rfl⟩ rfl
    ·
      replace h := ite_fb hc2 h
      refine AWp.skip ?_
      refine thenQ_normal ?_
      refine AWp.seq ?_
      refine AWp.seq ?_
      exact nomatch (show (none : Option ((List (List UInt8 × List UInt8 × Int)) × (List (List UInt8 × List UInt8 × Int)))) = some r from h)
def f46 (x2 : Int) (x1 : List (List UInt8 × List UInt8 × Int)) (x3 : List (List UInt8 × List UInt8 × Int)) : Option (List (List UInt8 × List UInt8 × Int) × List (List UInt8 × List UInt8 × Int)) :=
  if 0 ≤ x2 ∧ x2.toNat < x1.length ∧ 0 < x3.length ∧ (x1.length + x3.length) * 40 ≤ 140737488355328 then some (x1.take x2.toNat ++ x3 ++ x1.drop x2.toNat, x3) else f46e x2 x1 x3
theorem f46_ok (x2 : Int) (x1 : List (List UInt8 × List UInt8 × Int)) (x3 : List (List UInt8 × List UInt8 × Int)) (r : List (List UInt8 × List UInt8 × Int) × List (List UInt8 × List UInt8 × Int)) (h : f46 x2 x1 x3 = some r) : Spec1 Tryz.prog 46 [] [2001] [(2000, bL 31 3 eSSI (default : List UInt8 × List UInt8 × Int) x1), (2001, bL 31 3 eSSI (default : List UInt8 × List UInt8 × Int) x3)] [.own 2000, .int .i64 x2, .own 2001] (.own 2000) [(2000, bL 31 3 eSSI (default : List UInt8 × List UInt8 × Int) r.1), (2001, bL 31 3 eSSI (default : List UInt8 × List UInt8 × Int) r.2)] := by
  unfold f46 at h
  split at h
  · rename_i hc
    cases h
    have := insK_spec 3 (by decide) 31 40 eSSI q1dSSI insShift insGrow x1 x3 x2.toNat hc.2.1 hc.2.2.1 hc.2.2.2
    rw [Int.toNat_of_nonneg hc.1] at this
    exact this
  · exact f46e_ok x2 x1 x3 r h
abbrev f28z0 (x3 : List UInt8) (r4 : Int × Bool) : List (Nat × V) := [(0, .own 6001), (2, .str x3), (8, .int .i64 r4.1), (1000003, .tab .u64 Lib.pow10Tab)]
abbrev f28z1 (r4 : Int × Bool) : List (Nat × V) := [(0, .own 6001), (8, .int .i64 r4.1), (1000003, .tab .u64 Lib.pow10Tab)]
abbrev f28z2 (r5 : List (List UInt8 × List UInt8 × Int)) : Heap := [(6001, bL 31 3 eSSI (default : List UInt8 × List UInt8 × Int) r5)]
abbrev f28z3 := (1000000000000 : Int)
def f28 (x1 : List (List UInt8 × List UInt8 × Int)) (x2 : List UInt8) (x3 : List UInt8) : Option ((List (List UInt8 × List UInt8 × Int)) × List UInt8) :=
  (f26 x1 x2).bind fun (r4 : Int × Bool) =>
  if ((!r4.2) && (decide ((((x1).length : Nat) : Int) ≥ (64 : Int)))) then (
  some (x1, ([102, 117, 108, 108] : List UInt8))
  ) else (
  (f7 x1).bind fun (r5 : List (List UInt8 × List UInt8 × Int)) =>
  jn (fun (l7 : List (List UInt8 × List UInt8 × Int)) =>
  chk (0 ≤ r4.1 ∧ r4.1 < (((l7).length : Nat) : Int)) <|
  chk (((r4.1).toNat) < (l7).length) <|
  chk (0 ≤ r4.1 ∧ r4.1 < ((((l7.set ((r4.1).toNat) ((l7.getD ((r4.1).toNat) (default : List UInt8 × List UInt8 × Int)).1, x3, (l7.getD ((r4.1).toNat) (default : List UInt8 × List UInt8 × Int)).2.2))).length : Nat) : Int)) <|
  chk (((r4.1).toNat) < ((l7.set ((r4.1).toNat) ((l7.getD ((r4.1).toNat) (default : List UInt8 × List UInt8 × Int)).1, x3, (l7.getD ((r4.1).toNat) (default : List UInt8 × List UInt8 × Int)).2.2))).length) <|
  chk (-9223372036854775808 ≤ (((l7.set ((r4.1).toNat) ((l7.getD ((r4.1).toNat) (default : List UInt8 × List UInt8 × Int)).1, x3, (l7.getD ((r4.1).toNat) (default : List UInt8 × List UInt8 × Int)).2.2)).getD ((r4.1).toNat) (default : List UInt8 × List UInt8 × Int)).2.2 + (1 : Int)) ∧ (((l7.set ((r4.1).toNat) ((l7.getD ((r4.1).toNat) (default : List UInt8 × List UInt8 × Int)).1, x3, (l7.getD ((r4.1).toNat) (default : List UInt8 × List UInt8 × Int)).2.2)).getD ((r4.1).toNat) (default : List UInt8 × List UInt8 × Int)).2.2 + (1 : Int)) ≤ 9223372036854775807) <|
  chk (0 ≤ r4.1 ∧ r4.1 < ((((l7.set ((r4.1).toNat) ((l7.getD ((r4.1).toNat) (default : List UInt8 × List UInt8 × Int)).1, x3, (l7.getD ((r4.1).toNat) (default : List UInt8 × List UInt8 × Int)).2.2))).length : Nat) : Int)) <|
  chk (((r4.1).toNat) < ((l7.set ((r4.1).toNat) ((l7.getD ((r4.1).toNat) (default : List UInt8 × List UInt8 × Int)).1, x3, (l7.getD ((r4.1).toNat) (default : List UInt8 × List UInt8 × Int)).2.2))).length) <|
  (f27 ((((l7.set ((r4.1).toNat) ((l7.getD ((r4.1).toNat) (default : List UInt8 × List UInt8 × Int)).1, x3, (l7.getD ((r4.1).toNat) (default : List UInt8 × List UInt8 × Int)).2.2)).set ((r4.1).toNat) (((l7.set ((r4.1).toNat) ((l7.getD ((r4.1).toNat) (default : List UInt8 × List UInt8 × Int)).1, x3, (l7.getD ((r4.1).toNat) (default : List UInt8 × List UInt8 × Int)).2.2)).getD ((r4.1).toNat) (default : List UInt8 × List UInt8 × Int)).1, ((l7.set ((r4.1).toNat) ((l7.getD ((r4.1).toNat) (default : List UInt8 × List UInt8 × Int)).1, x3, (l7.getD ((r4.1).toNat) (default : List UInt8 × List UInt8 × Int)).2.2)).getD ((r4.1).toNat) (default : List UInt8 × List UInt8 × Int)).2.1, (min (((l7.set ((r4.1).toNat) ((l7.getD ((r4.1).toNat) (default : List UInt8 × List UInt8 × Int)).1, x3, (l7.getD ((r4.1).toNat) (default : List UInt8 × List UInt8 × Int)).2.2)).getD ((r4.1).toNat) (default : List UInt8 × List UInt8 × Int)).2.2 + (1 : Int)) (1000000000000 : Int)))).getD ((r4.1).toNat) (default : List UInt8 × List UInt8 × Int)).2.2)).bind fun (r8 : List UInt8) =>
  chk (0 ≤ r4.1 ∧ r4.1 < (((((l7.set ((r4.1).toNat) ((l7.getD ((r4.1).toNat) (default : List UInt8 × List UInt8 × Int)).1, x3, (l7.getD ((r4.1).toNat) (default : List UInt8 × List UInt8 × Int)).2.2)).set ((r4.1).toNat) (((l7.set ((r4.1).toNat) ((l7.getD ((r4.1).toNat) (default : List UInt8 × List UInt8 × Int)).1, x3, (l7.getD ((r4.1).toNat) (default : List UInt8 × List UInt8 × Int)).2.2)).getD ((r4.1).toNat) (default : List UInt8 × List UInt8 × Int)).1, ((l7.set ((r4.1).toNat) ((l7.getD ((r4.1).toNat) (default : List UInt8 × List UInt8 × Int)).1, x3, (l7.getD ((r4.1).toNat) (default : List UInt8 × List UInt8 × Int)).2.2)).getD ((r4.1).toNat) (default : List UInt8 × List UInt8 × Int)).2.1, (min (((l7.set ((r4.1).toNat) ((l7.getD ((r4.1).toNat) (default : List UInt8 × List UInt8 × Int)).1, x3, (l7.getD ((r4.1).toNat) (default : List UInt8 × List UInt8 × Int)).2.2)).getD ((r4.1).toNat) (default : List UInt8 × List UInt8 × Int)).2.2 + (1 : Int)) (1000000000000 : Int))))).length : Nat) : Int)) <|
  chk (((r4.1).toNat) < (((l7.set ((r4.1).toNat) ((l7.getD ((r4.1).toNat) (default : List UInt8 × List UInt8 × Int)).1, x3, (l7.getD ((r4.1).toNat) (default : List UInt8 × List UInt8 × Int)).2.2)).set ((r4.1).toNat) (((l7.set ((r4.1).toNat) ((l7.getD ((r4.1).toNat) (default : List UInt8 × List UInt8 × Int)).1, x3, (l7.getD ((r4.1).toNat) (default : List UInt8 × List UInt8 × Int)).2.2)).getD ((r4.1).toNat) (default : List UInt8 × List UInt8 × Int)).1, ((l7.set ((r4.1).toNat) ((l7.getD ((r4.1).toNat) (default : List UInt8 × List UInt8 × Int)).1, x3, (l7.getD ((r4.1).toNat) (default : List UInt8 × List UInt8 × Int)).2.2)).getD ((r4.1).toNat) (default : List UInt8 × List UInt8 × Int)).2.1, (min (((l7.set ((r4.1).toNat) ((l7.getD ((r4.1).toNat) (default : List UInt8 × List UInt8 × Int)).1, x3, (l7.getD ((r4.1).toNat) (default : List UInt8 × List UInt8 × Int)).2.2)).getD ((r4.1).toNat) (default : List UInt8 × List UInt8 × Int)).2.2 + (1 : Int)) (1000000000000 : Int))))).length) <|
  chk (([111, 107, 32] : List UInt8).length + r8.length ≤ 9223372036854775807) <|
  some (((l7.set ((r4.1).toNat) ((l7.getD ((r4.1).toNat) (default : List UInt8 × List UInt8 × Int)).1, x3, (l7.getD ((r4.1).toNat) (default : List UInt8 × List UInt8 × Int)).2.2)).set ((r4.1).toNat) (((l7.set ((r4.1).toNat) ((l7.getD ((r4.1).toNat) (default : List UInt8 × List UInt8 × Int)).1, x3, (l7.getD ((r4.1).toNat) (default : List UInt8 × List UInt8 × Int)).2.2)).getD ((r4.1).toNat) (default : List UInt8 × List UInt8 × Int)).1, ((l7.set ((r4.1).toNat) ((l7.getD ((r4.1).toNat) (default : List UInt8 × List UInt8 × Int)).1, x3, (l7.getD ((r4.1).toNat) (default : List UInt8 × List UInt8 × Int)).2.2)).getD ((r4.1).toNat) (default : List UInt8 × List UInt8 × Int)).2.1, (min (((l7.set ((r4.1).toNat) ((l7.getD ((r4.1).toNat) (default : List UInt8 × List UInt8 × Int)).1, x3, (l7.getD ((r4.1).toNat) (default : List UInt8 × List UInt8 × Int)).2.2)).getD ((r4.1).toNat) (default : List UInt8 × List UInt8 × Int)).2.2 + (1 : Int)) (1000000000000 : Int)))), (([111, 107, 32] : List UInt8) ++ r8))
  ) fun (K1 : (List (List UInt8 × List UInt8 × Int)) → Option ((List (List UInt8 × List UInt8 × Int)) × List UInt8)) =>
  if (!r4.2) then (
  (f46 r4.1 r5 ([(x2, [], (0 : Int))])).bind fun (r6 : (List (List UInt8 × List UInt8 × Int)) × (List (List UInt8 × List UInt8 × Int))) =>
  K1 r6.1
  ) else (
  K1 r5
  )
  )
set_option maxRecDepth 100000 in
theorem f28_ok  (x1 : List (List UInt8 × List UInt8 × Int)) (x2 : List UInt8) (x3 : List UInt8) (r : (List (List UInt8 × List UInt8 × Int)) × List UInt8) (h : f28 x1 x2 x3 = some r)  : Spec1 Tryz.prog 28 [(3, .tab .u64 Lib.pow10Tab)] [] [] [vL 3 eSSI (default : List UInt8 × List UInt8 × Int) x1, .str x2, .str x3] (.tup [vL 3 eSSI (default : List UInt8 × List UInt8 × Int) r.1, .str r.2]) [] := by
  unfold f28 at h
  refine Spec1.body 0 _ _ Tryz.func28 rfl Tryz.ntmps28 rfl rfl ?_
  refine q1rq [] [] ⟨58, [(0, q1aSSI x1), (1, .str x2), (2, .str x3), (1000003, .tab .u64 Lib.pow10Tab)], [], [], 0⟩ trivial ?_
  refine AWp.seq ?_
  obtain ⟨r4, hr4, h⟩ := bind_ok h
  refine q1rr [] [(2, ⟨[q1aSSI x1, .str x2], [], [], [], .tup [.i r4.1, .bool r4.2], [], [], []⟩)] ⟨58, [(0, q1aSSI x1), (1, .str x2), (2, .str x3), (8, .i r4.1), (9, .bool r4.2), (1000003, .tab .u64 Lib.pow10Tab)], [], [], 0⟩ (an1 (cpT (f26_ok _ _ _ hr4))) ?_
  refine thenQ_normal ?_
  refine AWp.seq ?_
  refine AWp.seq ?_
  have ob0 := idA (((!r4.2) == true) = true)
  have ob2 := bqA (!r4.2) true
  refine q1rr [] [] ⟨58, [(0, q1aSSI x1), (1, .str x2), (2, .str x3), (8, .i r4.1), (9, .bool r4.2), (22, .bool ((!r4.2) && (decide ((lZ x1) ≥ (64 : Int))))), (1000003, .tab .u64 Lib.pow10Tab)], [], [], 0⟩ (an3 (an1 ob0) (an1 ob0) ob2) ?_
  refine thenQ_normal ?_
  refine AWp.cond (b := ((!r4.2) && (decide ((lZ x1) ≥ (64 : Int))))) (by kernel_rfl) (fun hc1 => ?_) (fun hc1 => ?_)
  ·
    replace h := ite_tb hc1 h
    refine q1rq [] [] ⟨58, [(6, q1aSSI x1), (7, .str ([102, 117, 108, 108] : List UInt8)), (1000003, .tab .u64 Lib.pow10Tab)], [], [], 0⟩ trivial ?_
    have hret := Option.some.inj h
    subst hret
    refine AWp.le (Le.mk (s' := ⟨58, [(6, q1aSSI x1), (7, .str ([102, 117, 108, 108] : List UInt8))], [], [], 0⟩) rfl rfl ⟨.refl _, .refl _, trivial⟩ trivial) ?_
    refine AWp.ret ?_
    refine thenQ_ret ?_
    exact bodyQ_ret _ rfl ⟨rfl, rfl⟩ rfl
  ·
    replace h := ite_fb hc1 h
    refine AWp.skip ?_
    refine thenQ_normal ?_
    refine AWp.seq ?_
    obtain ⟨r5, hr5, h⟩ := bind_ok h
    refine q1rr [] [(1, ⟨[q1aSSI x1], [], [], (f28z2 r5), .own 6001, [6001], [], []⟩)] ⟨58, [(0, .own 6001), (1, .str x2), (2, .str x3), (8, .i r4.1), (9, .bool r4.2), (1000003, .tab .u64 Lib.pow10Tab)], (f28z2 r5), [], 0⟩ (an1 (cpT (Spec1.ren (swapN 3000 6001) (swapN_inv 3000 6001) rfl (f7_ok _ _ hr5)))) ?_
    refine thenQ_normal ?_
    obtain ⟨K1, hK1, h⟩ := jn_some h
    refine AWp.join (α := List (List UInt8 × List UInt8 × Int)) (fun (l7 : List (List UInt8 × List UInt8 × Int)) => ⟨58, (f28z0 x3 r4), [(6001, q1bSSI_31 l7)], [], 0⟩) (fun x => K1 x = some r) ?_ ?_
    ·
      refine q1rq [] [] ⟨58, [(0, .own 6001), (1, .str x2), (2, .str x3), (8, .i r4.1), (27, .bool (!r4.2)), (1000003, .tab .u64 Lib.pow10Tab)], (f28z2 r5), [], 0⟩ trivial ?_
      refine AWp.cond (b := (!r4.2)) (by kernel_rfl) (fun hc2 => ?_) (fun hc2 => ?_)
      ·
        replace h := ite_tb hc2 h
        obtain ⟨r6, hr6, h⟩ := bind_ok h
        refine q1rr [] [(5, ⟨[.own 6001, .i r4.1, .own 32], [6001, 32], [32], [(6001, q1bSSI_31 r6.1), (32, q1bSSI_31 r6.2)], .own 6001, [6001], [], []⟩)] ⟨58, (f28z0 x3 r4), [(6001, q1bSSI_31 r6.1)], [], 0⟩ (an1 (cpT (Spec.heap (h0 := [(6001, q1bSSI_31 r5), (32, .rows 31 3 1 (lstF 3 [.str x2, .str [], .i (0 : Int)]))]) (Spec1.ren (swapN 2001 32) (swapN_inv 2001 32) rfl (Spec1.ren (swapN 2000 6001) (swapN_inv 2000 6001) rfl (f46_ok _ _ _ _ hr6))) ⟨⟨_, rfl, .refl _⟩, ⟨_, rfl, (BLe.of (RL.lst (enc := eSSI) [(x2, [], (0 : Int))] rfl rfl (fun _ => rfl)))⟩, trivial⟩))) ?_
        exact joinQ_normal (r6.1) (Le.mk rfl rfl ⟨.refl _, .refl _, .refl _, .refl _, trivial⟩ ⟨⟨_, rfl, .refl _⟩, trivial⟩) h
      ·
        replace h := ite_fb hc2 h
        refine AWp.skip ?_
        exact joinQ_normal (r5) (Le.mk rfl rfl ⟨.refl _, .refl _, .refl _, .refl _, trivial⟩ ⟨⟨_, rfl, .refl _⟩, trivial⟩) h
    ·
      rintro l7 h
      replace h := (congrFun hK1 _).symm.trans h
      refine AWp.seq ?_
      obtain ⟨ob3, ob4, h⟩ := ck2 h
      refine q1rr [] [] ⟨58, (f28z1 r4), [(6001, .rows 31 3 (l7).length (updF (encF eSSI q1dSSI l7) ((r4.1).toNat) 1 [.str x3]))], [], 0⟩ (an2 ob3 ob4) ?_
      refine thenQ_normal ?_
      refine AWp.le (Le.mk (s' := ⟨58, (f28z1 r4), [(6001, q1bSSI_31 (l7.set ((r4.1).toNat) ((l7.getD ((r4.1).toNat) q1dSSI).1, x3, (l7.getD ((r4.1).toNat) q1dSSI).2.2)))], [], 0⟩) rfl rfl ⟨.refl _, .refl _, .refl _, trivial⟩ ⟨⟨_, rfl, (BLe.of (RL.set ((l7.getD ((r4.1).toNat) q1dSSI).1, x3, (l7.getD ((r4.1).toNat) q1dSSI).2.2) (RL.self _) (by intro j hj; match j, hj with | 0, _ => rfl | 1, _ => rfl | 2, _ => rfl)))⟩, trivial⟩) ?_
      refine AWp.seq ?_
      obtain ⟨ob5, ob6, ob7, ob8, ob9, h⟩ := ck5 h
      refine q1rr [] [] ⟨58, (f28z1 r4), [(6001, .rows 31 3 ((l7.set ((r4.1).toNat) ((l7.getD ((r4.1).toNat) q1dSSI).1, x3, (l7.getD ((r4.1).toNat) q1dSSI).2.2))).length (updF (encF eSSI q1dSSI (l7.set ((r4.1).toNat) ((l7.getD ((r4.1).toNat) q1dSSI).1, x3, (l7.getD ((r4.1).toNat) q1dSSI).2.2))) ((r4.1).toNat) 2 [.i (min (((l7.set ((r4.1).toNat) ((l7.getD ((r4.1).toNat) q1dSSI).1, x3, (l7.getD ((r4.1).toNat) q1dSSI).2.2)).getD ((r4.1).toNat) q1dSSI).2.2 + (1 : Int)) (f28z3))]))], [], 0⟩ (an5 ob5 ob6 ob7 ob8 ob9) ?_
      refine thenQ_normal ?_
      refine AWp.le (Le.mk (s' := ⟨58, (f28z1 r4), [(6001, q1bSSI_31 ((l7.set ((r4.1).toNat) ((l7.getD ((r4.1).toNat) q1dSSI).1, x3, (l7.getD ((r4.1).toNat) q1dSSI).2.2)).set ((r4.1).toNat) (((l7.set ((r4.1).toNat) ((l7.getD ((r4.1).toNat) q1dSSI).1, x3, (l7.getD ((r4.1).toNat) q1dSSI).2.2)).getD ((r4.1).toNat) q1dSSI).1, ((l7.set ((r4.1).toNat) ((l7.getD ((r4.1).toNat) q1dSSI).1, x3, (l7.getD ((r4.1).toNat) q1dSSI).2.2)).getD ((r4.1).toNat) q1dSSI).2.1, (min (((l7.set ((r4.1).toNat) ((l7.getD ((r4.1).toNat) q1dSSI).1, x3, (l7.getD ((r4.1).toNat) q1dSSI).2.2)).getD ((r4.1).toNat) q1dSSI).2.2 + (1 : Int)) (f28z3)))))], [], 0⟩) rfl rfl ⟨.refl _, .refl _, .refl _, trivial⟩ ⟨⟨_, rfl, (BLe.of (RL.set (((l7.set ((r4.1).toNat) ((l7.getD ((r4.1).toNat) q1dSSI).1, x3, (l7.getD ((r4.1).toNat) q1dSSI).2.2)).getD ((r4.1).toNat) q1dSSI).1, ((l7.set ((r4.1).toNat) ((l7.getD ((r4.1).toNat) q1dSSI).1, x3, (l7.getD ((r4.1).toNat) q1dSSI).2.2)).getD ((r4.1).toNat) q1dSSI).2.1, (min (((l7.set ((r4.1).toNat) ((l7.getD ((r4.1).toNat) q1dSSI).1, x3, (l7.getD ((r4.1).toNat) q1dSSI).2.2)).getD ((r4.1).toNat) q1dSSI).2.2 + (1 : Int)) (f28z3))) (RL.self _) (by intro j hj; match j, hj with | 0, _ => rfl | 1, _ => rfl | 2, _ => rfl)))⟩, trivial⟩) ?_
      refine AWp.seq ?_
      obtain ⟨r8, hr8, h⟩ := bind_ok h
      obtain ⟨ob10, ob11, ob12, h⟩ := ck3 h
      refine q1rr [] [(6, ⟨[.i (((l7.set ((r4.1).toNat) ((l7.getD ((r4.1).toNat) q1dSSI).1, x3, (l7.getD ((r4.1).toNat) q1dSSI).2.2)).set ((r4.1).toNat) (((l7.set ((r4.1).toNat) ((l7.getD ((r4.1).toNat) q1dSSI).1, x3, (l7.getD ((r4.1).toNat) q1dSSI).2.2)).getD ((r4.1).toNat) q1dSSI).1, ((l7.set ((r4.1).toNat) ((l7.getD ((r4.1).toNat) q1dSSI).1, x3, (l7.getD ((r4.1).toNat) q1dSSI).2.2)).getD ((r4.1).toNat) q1dSSI).2.1, (min (((l7.set ((r4.1).toNat) ((l7.getD ((r4.1).toNat) q1dSSI).1, x3, (l7.getD ((r4.1).toNat) q1dSSI).2.2)).getD ((r4.1).toNat) q1dSSI).2.2 + (1 : Int)) (f28z3)))).getD ((r4.1).toNat) q1dSSI).2.2], [], [], [], .str r8, [], [], [3]⟩)] ⟨58, [(6, .own 6001), (7, .str (([111, 107, 32] : List UInt8) ++ r8)), (1000003, .tab .u64 Lib.pow10Tab)], [(6001, q1bSSI_31 ((l7.set ((r4.1).toNat) ((l7.getD ((r4.1).toNat) q1dSSI).1, x3, (l7.getD ((r4.1).toNat) q1dSSI).2.2)).set ((r4.1).toNat) (((l7.set ((r4.1).toNat) ((l7.getD ((r4.1).toNat) q1dSSI).1, x3, (l7.getD ((r4.1).toNat) q1dSSI).2.2)).getD ((r4.1).toNat) q1dSSI).1, ((l7.set ((r4.1).toNat) ((l7.getD ((r4.1).toNat) q1dSSI).1, x3, (l7.getD ((r4.1).toNat) q1dSSI).2.2)).getD ((r4.1).toNat) q1dSSI).2.1, (min (((l7.set ((r4.1).toNat) ((l7.getD ((r4.1).toNat) q1dSSI).1, x3, (l7.getD ((r4.1).toNat) q1dSSI).2.2)).getD ((r4.1).toNat) q1dSSI).2.2 + (1 : Int)) (f28z3)))))], [], 0⟩ (an4 ob10 ob11 (cpT (f27_ok _ _ hr8)) ob12) ?_
      refine thenQ_normal ?_
      refine AWp.le (Le.trans (Le.freeze 6001 rfl rfl) (Le.mk (s' := ⟨58, [(6, q1aSSI ((l7.set ((r4.1).toNat) ((l7.getD ((r4.1).toNat) q1dSSI).1, x3, (l7.getD ((r4.1).toNat) q1dSSI).2.2)).set ((r4.1).toNat) (((l7.set ((r4.1).toNat) ((l7.getD ((r4.1).toNat) q1dSSI).1, x3, (l7.getD ((r4.1).toNat) q1dSSI).2.2)).getD ((r4.1).toNat) q1dSSI).1, ((l7.set ((r4.1).toNat) ((l7.getD ((r4.1).toNat) q1dSSI).1, x3, (l7.getD ((r4.1).toNat) q1dSSI).2.2)).getD ((r4.1).toNat) q1dSSI).2.1, (min (((l7.set ((r4.1).toNat) ((l7.getD ((r4.1).toNat) q1dSSI).1, x3, (l7.getD ((r4.1).toNat) q1dSSI).2.2)).getD ((r4.1).toNat) q1dSSI).2.2 + (1 : Int)) (f28z3))))), (7, .str (([111, 107, 32] : List UInt8) ++ r8)), (1000003, .tab .u64 Lib.pow10Tab)], [], [], 0⟩) rfl rfl ⟨.refl _, .refl _, .refl _, trivial⟩ trivial)) ?_
      have hret := Option.some.inj h
      subst hret
      refine AWp.le (Le.mk (s' := ⟨58, [(6, q1aSSI ((l7.set ((r4.1).toNat) ((l7.getD ((r4.1).toNat) q1dSSI).1, x3, (l7.getD ((r4.1).toNat) q1dSSI).2.2)).set ((r4.1).toNat) (((l7.set ((r4.1).toNat) ((l7.getD ((r4.1).toNat) q1dSSI).1, x3, (l7.getD ((r4.1).toNat) q1dSSI).2.2)).getD ((r4.1).toNat) q1dSSI).1, ((l7.set ((r4.1).toNat) ((l7.getD ((r4.1).toNat) q1dSSI).1, x3, (l7.getD ((r4.1).toNat) q1dSSI).2.2)).getD ((r4.1).toNat) q1dSSI).2.1, (min (((l7.set ((r4.1).toNat) ((l7.getD ((r4.1).toNat) q1dSSI).1, x3, (l7.getD ((r4.1).toNat) q1dSSI).2.2)).getD ((r4.1).toNat) q1dSSI).2.2 + (1 : Int)) (f28z3))))), (7, .str (([111, 107, 32] : List UInt8) ++ r8))], [], [], 0⟩) rfl rfl ⟨.refl _, .refl _, trivial⟩ trivial) ?_
      refine AWp.ret ?_
      exact bodyQ_ret _ rfl ⟨rfl, rfl⟩ rfl
def f29 (x2 : Int) (x3 : Int) (x1 : List (List UInt8 × List UInt8 × Int)) : Option (List (List UInt8 × List UInt8 × Int)) :=
  if 0 ≤ x2 ∧ x2 < x3 ∧ x3.toNat ≤ x1.length then some (x1.take x2.toNat ++ x1.drop x3.toNat) else none
theorem f29_ok (x2 : Int) (x3 : Int) (x1 : List (List UInt8 × List UInt8 × Int)) (r : List (List UInt8 × List UInt8 × Int)) (h : f29 x2 x3 x1 = some r) : Spec1 Tryz.prog 29 [] [] [(2000, bL 31 3 eSSI (default : List UInt8 × List UInt8 × Int) x1)] [.own 2000, .int .i64 x2, .int .i64 x3] (.own 2000) [(2000, bL 31 3 eSSI (default : List UInt8 × List UInt8 × Int) r)] := by
  unfold f29 at h
  split at h
  · rename_i hc
    cases h
    have := delK_spec 3 31 eSSI q1dSSI delW x1 x2.toNat x3.toNat (by omega) hc.2.2
    rw [Int.toNat_of_nonneg hc.1, Int.toNat_of_nonneg (by omega : 0 ≤ x3)] at this
    exact this
  · cases h
abbrev f13z0 (x2 : Int) (x3 : List UInt8) (x4 : List UInt8) (x5 : List UInt8) (x1 : List (List UInt8 × List UInt8 × Int)) (r7 : Int × Bool) : Heap := [(3, .cells 40 [.int .i64 x2, .str x3, .str x4, .str x5]), (10, .cells 31 [.str (x1.getD ((r7.1).toNat) (default : List UInt8 × List UInt8 × Int)).1, .str (x1.getD ((r7.1).toNat) (default : List UInt8 × List UInt8 × Int)).2.1, .int .i64 (x1.getD ((r7.1).toNat) (default : List UInt8 × List UInt8 × Int)).2.2])]
abbrev f13z1 (x2 : Int) (x3 : List UInt8) (x4 : List UInt8) (x5 : List UInt8) : Heap := [(3, .cells 40 [.int .i64 x2, .str x3, .str x4, .str x5])]
def f13 (x1 : List (List UInt8 × List UInt8 × Int)) (x2 : Int) (x3 : List UInt8) (x4 : List UInt8) (x5 : List UInt8) : Option ((List (List UInt8 × List UInt8 × Int)) × List UInt8) :=
  (f25 x2 x3 x4 x5).bind fun (r6 : List UInt8 × Bool × Bool × Bool × Bool) =>
  if (!r6.2.2.2.2) then (
  some (x1, cs10)
  ) else (
  (f26 x1 x3).bind fun (r7 : Int × Bool) =>
  if (x2 == (6 : Int)) then (
  (f27 (((x1).length : Nat) : Int)).bind fun (r8 : List UInt8) =>
  chk (cs11.length + r8.length ≤ 9223372036854775807) <|
  some (x1, (cs11 ++ r8))
  ) else (
  if (x2 == (1 : Int)) then (
  (f28 x1 x3 x5).bind fun (r9 : (List (List UInt8 × List UInt8 × Int)) × List UInt8) =>
  some (r9.1, r9.2)
  ) else (
  if ((x2 == (4 : Int)) && (!r7.2)) then (
  (f28 x1 x3 x5).bind fun (r10 : (List (List UInt8 × List UInt8 × Int)) × List UInt8) =>
  some (r10.1, r10.2)
  ) else (
  if (!r7.2) then (
  some (x1, ([110, 111, 110, 101] : List UInt8))
  ) else (
  chk (0 ≤ r7.1 ∧ r7.1 < (((x1).length : Nat) : Int)) <|
  if (x2 == (2 : Int)) then (
  (f27 ((x1.getD ((r7.1).toNat) (default : List UInt8 × List UInt8 × Int)).2.2)).bind fun (r11 : List UInt8) =>
  chk (cs12.length + ((x1.getD ((r7.1).toNat) (default : List UInt8 × List UInt8 × Int)).2.1).length ≤ 9223372036854775807) <|
  chk ((cs12 ++ ((x1.getD ((r7.1).toNat) (default : List UInt8 × List UInt8 × Int)).2.1)).length + ([32] : List UInt8).length ≤ 9223372036854775807) <|
  chk (((cs12 ++ ((x1.getD ((r7.1).toNat) (default : List UInt8 × List UInt8 × Int)).2.1)) ++ ([32] : List UInt8)).length + r11.length ≤ 9223372036854775807) <|
  some (x1, (((cs12 ++ ((x1.getD ((r7.1).toNat) (default : List UInt8 × List UInt8 × Int)).2.1)) ++ ([32] : List UInt8)) ++ r11))
  ) else (
  if (x2 == (3 : Int)) then (
  (f7 x1).bind fun (r12 : List (List UInt8 × List UInt8 × Int)) =>
  (f29 r7.1 (r7.1 + (1 : Int)) r12).bind fun (r13 : List (List UInt8 × List UInt8 × Int)) =>
  chk (-9223372036854775808 ≤ (r7.1 + (1 : Int)) ∧ (r7.1 + (1 : Int)) ≤ 9223372036854775807) <|
  some (r13, ([111, 107] : List UInt8))
  ) else (
  if (x2 == (4 : Int)) then (
  chk ((((((x1.getD ((r7.1).toNat) (default : List UInt8 × List UInt8 × Int)).2.1).length : Nat) : Int) + ((x5.length : Nat) : Int)) ≤ 9223372036854775807) <|
  if (decide ((((((x1.getD ((r7.1).toNat) (default : List UInt8 × List UInt8 × Int)).2.1).length + x5.length) : Nat) : Int) > (256 : Int))) then (
  some (x1, ([108, 111, 110, 103] : List UInt8))
  ) else (
  (f28 x1 x3 (((x1.getD ((r7.1).toNat) (default : List UInt8 × List UInt8 × Int)).2.1) ++ x5)).bind fun (r14 : (List (List UInt8 × List UInt8 × Int)) × List UInt8) =>
  chk (((x1.getD ((r7.1).toNat) (default : List UInt8 × List UInt8 × Int)).2.1).length + x5.length ≤ 9223372036854775807) <|
  some (r14.1, r14.2)
  )
  ) else (
  if (!(((x1.getD ((r7.1).toNat) (default : List UInt8 × List UInt8 × Int)).2.1) == x4)) then (
  chk (([110, 111, 32] : List UInt8).length + ((x1.getD ((r7.1).toNat) (default : List UInt8 × List UInt8 × Int)).2.1).length ≤ 9223372036854775807) <|
  some (x1, (([110, 111, 32] : List UInt8) ++ ((x1.getD ((r7.1).toNat) (default : List UInt8 × List UInt8 × Int)).2.1)))
  ) else (
  (f28 x1 x3 x5).bind fun (r15 : (List (List UInt8 × List UInt8 × Int)) × List UInt8) =>
  some (r15.1, r15.2)
  )
  )
  )
  )
  )
  )
  )
  )
  )
set_option maxRecDepth 100000 in
theorem f13_ok  (x1 : List (List UInt8 × List UInt8 × Int)) (x2 : Int) (x3 : List UInt8) (x4 : List UInt8) (x5 : List UInt8) (r : (List (List UInt8 × List UInt8 × Int)) × List UInt8) (h : f13 x1 x2 x3 x4 x5 = some r)  : Spec1 Tryz.prog 13 [(3, .tab .u64 Lib.pow10Tab)] [] [] [vL 3 eSSI (default : List UInt8 × List UInt8 × Int) x1, .agg [.int .i64 x2, .str x3, .str x4, .str x5]] (.tup [vL 3 eSSI (default : List UInt8 × List UInt8 × Int) r.1, .str r.2]) [] := by
  unfold f13 at h
  refine Spec1.body 0 _ _ Tryz.func13 rfl Tryz.ntmps13 rfl rfl ?_
  refine q1rq [] [] ⟨131, [(0, q1aSSI x1), (3, .ptr 3 0), (1000003, .tab .u64 Lib.pow10Tab)], (f13z1 x2 x3 x4 x5), [], 0⟩ trivial ?_
  refine AWp.seq ?_
  refine AWp.seq ?_
  obtain ⟨r6, hr6, h⟩ := bind_ok h
  refine q1rr [] [(1, ⟨[.agg [.i x2, .str x3, .str x4, .str x5]], [], [], [], .tup [.agg [.str r6.1, .bool r6.2.1, .bool r6.2.2.1, .bool r6.2.2.2.1], .bool r6.2.2.2.2], [], [], []⟩)] ⟨131, [(0, q1aSSI x1), (3, .ptr 3 0), (7, .bool r6.2.2.2.2), (1000003, .tab .u64 Lib.pow10Tab)], (f13z1 x2 x3 x4 x5), [], 0⟩ (an2 (cpT (f25_ok _ _ _ _ _ hr6)) trivial) ?_
  refine thenQ_normal ?_
  refine q1rq [] [] ⟨131, [(0, q1aSSI x1), (3, .ptr 3 0), (17, .bool (!r6.2.2.2.2)), (1000003, .tab .u64 Lib.pow10Tab)], (f13z1 x2 x3 x4 x5), [], 0⟩ trivial ?_
  refine AWp.cond (b := (!r6.2.2.2.2)) (by kernel_rfl) (fun hc1 => ?_) (fun hc1 => ?_)
  ·
    replace h := ite_tb hc1 h
    refine q1rq [] [] ⟨131, [(4, q1aSSI x1), (5, .str cs10), (1000003, .tab .u64 Lib.pow10Tab)], [], [], 0⟩ trivial ?_
    have hret := Option.some.inj h
    subst hret
    refine AWp.le (Le.mk (s' := ⟨131, [(4, q1aSSI x1), (5, .str cs10)], [], [], 0⟩) rfl rfl ⟨.refl _, .refl _, trivial⟩ trivial) ?_
    refine AWp.ret ?_
    refine thenQ_ret ?_
    exact bodyQ_ret _ rfl ⟨rfl, rfl⟩ rfl
  ·
    replace h := ite_fb hc1 h
    refine AWp.skip ?_
    refine thenQ_normal ?_
    refine AWp.seq ?_
    obtain ⟨r7, hr7, h⟩ := bind_ok h
    refine q1rr [] [(3, ⟨[q1aSSI x1, .str x3], [], [], [], .tup [.i r7.1, .bool r7.2], [], [], []⟩)] ⟨131, [(0, q1aSSI x1), (3, .ptr 3 0), (8, .i r7.1), (9, .bool r7.2), (1000003, .tab .u64 Lib.pow10Tab)], (f13z1 x2 x3 x4 x5), [], 0⟩ (an1 (cpT (f26_ok _ _ _ hr7))) ?_
    refine thenQ_normal ?_
    refine AWp.seq ?_
    refine AWp.block ?_
    refine q1rq [] [] ⟨131, [(0, q1aSSI x1), (3, .ptr 3 0), (8, .i r7.1), (9, .bool r7.2), (26, .bool (x2 == (6 : Int))), (1000003, .tab .u64 Lib.pow10Tab)], (f13z1 x2 x3 x4 x5), [], 0⟩ trivial ?_
    refine AWp.cond (b := (x2 == (6 : Int))) (by kernel_rfl) (fun hc2 => ?_) (fun hc2 => ?_)
    ·
      replace h := ite_tb hc2 h
      refine AWp.seq ?_
      obtain ⟨r8, hr8, h⟩ := bind_ok h
      obtain ⟨ob0, h⟩ := chk_some h
      refine q1rr [] [(3, ⟨[.i (lZ x1)], [], [], [], .str r8, [], [], [3]⟩)] ⟨131, [(4, q1aSSI x1), (5, .str (cs11 ++ r8)), (1000003, .tab .u64 Lib.pow10Tab)], [], [], 0⟩ (an2 (cpT (f27_ok _ _ hr8)) ob0) ?_
      refine thenQ_normal ?_
      have hret := Option.some.inj h
      subst hret
      refine AWp.le (Le.mk (s' := ⟨131, [(4, q1aSSI x1), (5, .str (cs11 ++ r8))], [], [], 0⟩) rfl rfl ⟨.refl _, .refl _, trivial⟩ trivial) ?_
      refine AWp.ret ?_
      refine blockQ_ret ?_
      refine thenQ_ret ?_
      exact bodyQ_ret _ rfl ⟨rfl, rfl⟩ rfl
    ·
      replace h := ite_fb hc2 h
      refine q1rq [] [] ⟨131, [(0, q1aSSI x1), (3, .ptr 3 0), (8, .i r7.1), (9, .bool r7.2), (35, .bool (x2 == (1 : Int))), (1000003, .tab .u64 Lib.pow10Tab)], (f13z1 x2 x3 x4 x5), [], 0⟩ trivial ?_
      refine AWp.cond (b := (x2 == (1 : Int))) (by kernel_rfl) (fun hc3 => ?_) (fun hc3 => ?_)
      ·
        replace h := ite_tb hc3 h
        refine AWp.seq ?_
        obtain ⟨r9, hr9, h⟩ := bind_ok h
        refine q1rr [] [(5, ⟨[q1aSSI x1, .str x3, .str x5], [], [], [], .tup [q1aSSI r9.1, .str r9.2], [], [], [3]⟩)] ⟨131, [(4, q1aSSI r9.1), (5, .str r9.2), (1000003, .tab .u64 Lib.pow10Tab)], [], [], 0⟩ (an1 (cpT (f28_ok _ _ _ _ hr9))) ?_
        refine thenQ_normal ?_
        have hret := Option.some.inj h
        subst hret
        refine AWp.le (Le.mk (s' := ⟨131, [(4, q1aSSI r9.1), (5, .str r9.2)], [], [], 0⟩) rfl rfl ⟨.refl _, .refl _, trivial⟩ trivial) ?_
        refine AWp.ret ?_
        refine blockQ_ret ?_
        refine thenQ_ret ?_
        exact bodyQ_ret _ rfl ⟨rfl, rfl⟩ rfl
      ·
        replace h := ite_fb hc3 h
        refine AWp.seq ?_
        have ob1 := idA (((x2 == (4 : Int)) == true) = true)
        have ob2 := bqA (x2 == (4 : Int)) true
        refine q1rr [] [] ⟨131, [(0, q1aSSI x1), (3, .ptr 3 0), (8, .i r7.1), (9, .bool r7.2), (47, .bool ((x2 == (4 : Int)) && (!r7.2))), (1000003, .tab .u64 Lib.pow10Tab)], (f13z1 x2 x3 x4 x5), [], 0⟩ (an2 (an1 ob1) ob2) ?_
        refine thenQ_normal ?_
        refine AWp.cond (b := ((x2 == (4 : Int)) && (!r7.2))) (by kernel_rfl) (fun hc4 => ?_) (fun hc4 => ?_)
        ·
          replace h := ite_tb hc4 h
          refine AWp.seq ?_
          obtain ⟨r10, hr10, h⟩ := bind_ok h
          refine q1rr [] [(5, ⟨[q1aSSI x1, .str x3, .str x5], [], [], [], .tup [q1aSSI r10.1, .str r10.2], [], [], [3]⟩)] ⟨131, [(4, q1aSSI r10.1), (5, .str r10.2), (1000003, .tab .u64 Lib.pow10Tab)], [], [], 0⟩ (an1 (cpT (f28_ok _ _ _ _ hr10))) ?_
          refine thenQ_normal ?_
          have hret := Option.some.inj h
          subst hret
          refine AWp.le (Le.mk (s' := ⟨131, [(4, q1aSSI r10.1), (5, .str r10.2)], [], [], 0⟩) rfl rfl ⟨.refl _, .refl _, trivial⟩ trivial) ?_
          refine AWp.ret ?_
          refine blockQ_ret ?_
          refine thenQ_ret ?_
          exact bodyQ_ret _ rfl ⟨rfl, rfl⟩ rfl
        ·
          replace h := ite_fb hc4 h
          refine q1rq [] [] ⟨131, [(0, q1aSSI x1), (3, .ptr 3 0), (8, .i r7.1), (63, .bool (!r7.2)), (1000003, .tab .u64 Lib.pow10Tab)], (f13z1 x2 x3 x4 x5), [], 0⟩ trivial ?_
          refine AWp.cond (b := (!r7.2)) (by kernel_rfl) (fun hc5 => ?_) (fun hc5 => ?_)
          ·
            replace h := ite_tb hc5 h
            refine q1rq [] [] ⟨131, [(4, q1aSSI x1), (5, .str ([110, 111, 110, 101] : List UInt8)), (1000003, .tab .u64 Lib.pow10Tab)], [], [], 0⟩ trivial ?_
            have hret := Option.some.inj h
            subst hret
            refine AWp.le (Le.mk (s' := ⟨131, [(4, q1aSSI x1), (5, .str ([110, 111, 110, 101] : List UInt8))], [], [], 0⟩) rfl rfl ⟨.refl _, .refl _, trivial⟩ trivial) ?_
            refine AWp.ret ?_
            refine blockQ_ret ?_
            refine thenQ_ret ?_
            exact bodyQ_ret _ rfl ⟨rfl, rfl⟩ rfl
          ·
            replace h := ite_fb hc5 h
            refine AWp.skip ?_
            refine blockQ_normal ?_
            refine thenQ_normal ?_
            refine AWp.seq ?_
            obtain ⟨ob3, h⟩ := chk_some h
            refine q1rr [] [] ⟨131, [(0, q1aSSI x1), (3, .ptr 3 0), (8, .i r7.1), (10, .ptr 10 0), (1000003, .tab .u64 Lib.pow10Tab)], (f13z0 x2 x3 x4 x5 x1 r7), [], 0⟩ (an2 ob3 trivial) ?_
            refine thenQ_normal ?_
            refine AWp.seq ?_
            refine q1rq [] [] ⟨131, [(0, q1aSSI x1), (3, .ptr 3 0), (8, .i r7.1), (10, .ptr 10 0), (72, .i x2), (1000003, .tab .u64 Lib.pow10Tab)], (f13z0 x2 x3 x4 x5 x1 r7), [], 0⟩ trivial ?_
            refine AWp.block ?_
            refine q1rq [] [] ⟨131, [(0, q1aSSI x1), (3, .ptr 3 0), (8, .i r7.1), (10, .ptr 10 0), (72, .i x2), (73, .bool (x2 == (2 : Int))), (1000003, .tab .u64 Lib.pow10Tab)], (f13z0 x2 x3 x4 x5 x1 r7), [], 0⟩ trivial ?_
            refine AWp.cond (b := (x2 == (2 : Int))) (by kernel_rfl) (fun hc6 => ?_) (fun hc6 => ?_)
            ·
              replace h := ite_tb hc6 h
              refine AWp.seq ?_
              obtain ⟨r11, hr11, h⟩ := bind_ok h
              obtain ⟨ob4, ob5, ob6, h⟩ := ck3 h
              refine q1rr [] [(7, ⟨[.i (x1.getD ((r7.1).toNat) q1dSSI).2.2], [], [], [], .str r11, [], [], [3]⟩)] ⟨131, [(4, q1aSSI x1), (5, .str (((cs12 ++ ((x1.getD ((r7.1).toNat) q1dSSI).2.1)) ++ ([32] : List UInt8)) ++ r11)), (1000003, .tab .u64 Lib.pow10Tab)], [], [], 0⟩ (an4 ob4 ob5 (cpT (f27_ok _ _ hr11)) ob6) ?_
              refine thenQ_normal ?_
              have hret := Option.some.inj h
              subst hret
              refine AWp.le (Le.mk (s' := ⟨131, [(4, q1aSSI x1), (5, .str (((cs12 ++ ((x1.getD ((r7.1).toNat) q1dSSI).2.1)) ++ ([32] : List UInt8)) ++ r11))], [], [], 0⟩) rfl rfl ⟨.refl _, .refl _, trivial⟩ trivial) ?_
              refine AWp.ret ?_
              refine blockQ_ret ?_
              refine thenQ_ret ?_
              exact bodyQ_ret _ rfl ⟨rfl, rfl⟩ rfl
            ·
              replace h := ite_fb hc6 h
              refine q1rq [] [] ⟨131, [(0, q1aSSI x1), (3, .ptr 3 0), (8, .i r7.1), (10, .ptr 10 0), (72, .i x2), (84, .bool (x2 == (3 : Int))), (1000003, .tab .u64 Lib.pow10Tab)], (f13z0 x2 x3 x4 x5 x1 r7), [], 0⟩ trivial ?_
              refine AWp.cond (b := (x2 == (3 : Int))) (by kernel_rfl) (fun hc7 => ?_) (fun hc7 => ?_)
              ·
                replace h := ite_tb hc7 h
                refine AWp.seq ?_
                obtain ⟨r12, hr12, h⟩ := bind_ok h
                obtain ⟨r13, hr13, h⟩ := bind_ok h
                obtain ⟨ob7, h⟩ := chk_some h
                refine q1rr [] [(1, ⟨[q1aSSI x1], [], [], [(6001, q1bSSI_31 r12)], .own 6001, [6001], [], []⟩), (5, ⟨[.own 6001, .i r7.1, .i (r7.1 + (1 : Int))], [6001], [], [(6001, q1bSSI_31 r13)], .own 6001, [6001], [], []⟩)] ⟨131, [(4, .own 6001), (5, .str ([111, 107] : List UInt8)), (1000003, .tab .u64 Lib.pow10Tab)], [(6001, q1bSSI_31 r13)], [], 0⟩ (an3 (cpT (Spec1.ren (swapN 3000 6001) (swapN_inv 3000 6001) rfl (f7_ok _ _ hr12))) ob7 (cpT (Spec1.ren (swapN 2000 6001) (swapN_inv 2000 6001) rfl (f29_ok _ _ _ _ hr13)))) ?_
                refine thenQ_normal ?_
                refine AWp.le (Le.trans (Le.freeze 6001 rfl rfl) (Le.mk (s' := ⟨131, [(4, q1aSSI r13), (5, .str ([111, 107] : List UInt8)), (1000003, .tab .u64 Lib.pow10Tab)], [], [], 0⟩) rfl rfl ⟨.refl _, .refl _, .refl _, trivial⟩ trivial)) ?_
                have hret := Option.some.inj h
                subst hret
                refine AWp.le (Le.mk (s' := ⟨131, [(4, q1aSSI r13), (5, .str ([111, 107] : List UInt8))], [], [], 0⟩) rfl rfl ⟨.refl _, .refl _, trivial⟩ trivial) ?_
                refine AWp.ret ?_
                refine blockQ_ret ?_
                refine thenQ_ret ?_
                exact bodyQ_ret _ rfl ⟨rfl, rfl⟩ rfl
              ·
                replace h := ite_fb hc7 h
                refine q1rq [] [] ⟨131, [(0, q1aSSI x1), (3, .ptr 3 0), (10, .ptr 10 0), (92, .bool (x2 == (4 : Int))), (1000003, .tab .u64 Lib.pow10Tab)], (f13z0 x2 x3 x4 x5 x1 r7), [], 0⟩ trivial ?_
                refine AWp.cond (b := (x2 == (4 : Int))) (by kernel_rfl) (fun hc8 => ?_) (fun hc8 => ?_)
                ·
                  replace h := ite_tb hc8 h
                  refine AWp.seq ?_
                  refine AWp.seq ?_
                  obtain ⟨ob8p, h⟩ := chk_some h
                  have ob8 : -9223372036854775808 ≤ (((((x1.getD ((r7.1).toNat) q1dSSI).2.1).length : Nat) : Int) + ((x5.length : Nat) : Int)) ∧ (((((x1.getD ((r7.1).toNat) q1dSSI).2.1).length : Nat) : Int) + ((x5.length : Nat) : Int)) ≤ 9223372036854775807 := ⟨by omega, ob8p⟩
                  refine q1rr [] [] ⟨131, [(0, q1aSSI x1), (3, .ptr 3 0), (10, .ptr 10 0), (101, .bool (decide ((((((x1.getD ((r7.1).toNat) q1dSSI).2.1).length + x5.length) : Nat) : Int) > (256 : Int)))), (1000003, .tab .u64 Lib.pow10Tab)], (f13z0 x2 x3 x4 x5 x1 r7), [], 0⟩ (an1 ob8) ?_
                  refine thenQ_normal ?_
                  refine AWp.cond (b := (decide ((((((x1.getD ((r7.1).toNat) q1dSSI).2.1).length + x5.length) : Nat) : Int) > (256 : Int)))) (by kernel_rfl) (fun hc9 => ?_) (fun hc9 => ?_)
                  ·
                    replace h := ite_tb hc9 h
                    refine q1rq [] [] ⟨131, [(4, q1aSSI x1), (5, .str ([108, 111, 110, 103] : List UInt8)), (1000003, .tab .u64 Lib.pow10Tab)], [], [], 0⟩ trivial ?_
                    have hret := Option.some.inj h
                    subst hret
                    refine AWp.le (Le.mk (s' := ⟨131, [(4, q1aSSI x1), (5, .str ([108, 111, 110, 103] : List UInt8))], [], [], 0⟩) rfl rfl ⟨.refl _, .refl _, trivial⟩ trivial) ?_
                    refine AWp.ret ?_
                    refine thenQ_ret ?_
                    refine blockQ_ret ?_
                    refine thenQ_ret ?_
                    exact bodyQ_ret _ rfl ⟨rfl, rfl⟩ rfl
                  ·
                    replace h := ite_fb hc9 h
                    refine AWp.skip ?_
                    refine thenQ_normal ?_
                    refine AWp.seq ?_
                    obtain ⟨r14, hr14, h⟩ := bind_ok h
                    obtain ⟨ob9, h⟩ := chk_some h
                    refine q1rr [] [(8, ⟨[q1aSSI x1, .str x3, .str (((x1.getD ((r7.1).toNat) q1dSSI).2.1) ++ x5)], [], [], [], .tup [q1aSSI r14.1, .str r14.2], [], [], [3]⟩)] ⟨131, [(4, q1aSSI r14.1), (5, .str r14.2), (1000003, .tab .u64 Lib.pow10Tab)], [], [], 0⟩ (an2 ob9 (cpT (f28_ok _ _ _ _ hr14))) ?_
                    refine thenQ_normal ?_
                    have hret := Option.some.inj h
                    subst hret
                    refine AWp.le (Le.mk (s' := ⟨131, [(4, q1aSSI r14.1), (5, .str r14.2)], [], [], 0⟩) rfl rfl ⟨.refl _, .refl _, trivial⟩ trivial) ?_
                    refine AWp.ret ?_
                    refine blockQ_ret ?_
                    refine thenQ_ret ?_
                    exact bodyQ_ret _ rfl ⟨rfl, rfl⟩ rfl
                ·
                  replace h := ite_fb hc8 h
                  refine AWp.skip ?_
                  refine blockQ_normal ?_
                  refine thenQ_normal ?_
                  refine AWp.seq ?_
                  refine q1rq [] [] ⟨131, [(0, q1aSSI x1), (3, .ptr 3 0), (10, .ptr 10 0), (118, .bool (!(((x1.getD ((r7.1).toNat) q1dSSI).2.1) == x4))), (1000003, .tab .u64 Lib.pow10Tab)], (f13z0 x2 x3 x4 x5 x1 r7), [], 0⟩ trivial ?_
                  refine AWp.cond (b := (!(((x1.getD ((r7.1).toNat) q1dSSI).2.1) == x4))) (by kernel_rfl) (fun hc10 => ?_) (fun hc10 => ?_)
                  ·
                    replace h := ite_tb hc10 h
                    refine AWp.seq ?_
                    obtain ⟨ob10, h⟩ := chk_some h
                    refine q1rr [] [] ⟨131, [(4, q1aSSI x1), (5, .str (([110, 111, 32] : List UInt8) ++ ((x1.getD ((r7.1).toNat) q1dSSI).2.1))), (1000003, .tab .u64 Lib.pow10Tab)], [], [], 0⟩ (an1 ob10) ?_
                    refine thenQ_normal ?_
                    have hret := Option.some.inj h
                    subst hret
                    refine AWp.le (Le.mk (s' := ⟨131, [(4, q1aSSI x1), (5, .str (([110, 111, 32] : List UInt8) ++ ((x1.getD ((r7.1).toNat) q1dSSI).2.1)))], [], [], 0⟩) rfl rfl ⟨.refl _, .refl _, trivial⟩ trivial) ?_
                    refine AWp.ret ?_
                    refine thenQ_ret ?_
                    exact bodyQ_ret _ rfl ⟨rfl, rfl⟩ rfl
                  ·
                    replace h := ite_fb hc10 h
                    refine AWp.skip ?_
                    refine thenQ_normal ?_
                    refine AWp.seq ?_
                    obtain ⟨r15, hr15, h⟩ := bind_ok h
                    refine q1rr [] [(5, ⟨[q1aSSI x1, .str x3, .str x5], [], [], [], .tup [q1aSSI r15.1, .str r15.2], [], [], [3]⟩)] ⟨131, [(4, q1aSSI r15.1), (5, .str r15.2), (1000003, .tab .u64 Lib.pow10Tab)], [], [], 0⟩ (an1 (cpT (f28_ok _ _ _ _ hr15))) ?_
                    refine thenQ_normal ?_
                    have hret := Option.some.inj h
                    subst hret
                    refine AWp.le (Le.mk (s' := ⟨131, [(4, q1aSSI r15.1), (5, .str r15.2)], [], [], 0⟩) rfl rfl ⟨.refl _, .refl _, trivial⟩ trivial) ?_
                    refine AWp.ret ?_
                    exact bodyQ_ret _ rfl ⟨rfl, rfl⟩ rfl
def f14_L0 (x1 : List (List UInt8 × List UInt8 × Int)) (K1 : Unit → Option Int) : Nat → Nat → Option Int
  | 0, _ => none
  | k + 1, n2 =>
    if (decide ((n2 : Int) < (((x1).length : Nat) : Int))) then (
    chk ((n2 : Int) < (((x1).length : Nat) : Int)) <|
    (f30 ((x1.getD n2 (default : List UInt8 × List UInt8 × Int)).1) (64 : Int)).bind fun (r3 : Bool) =>
    optc ((!r3) == false) (f30 ((x1.getD n2 (default : List UInt8 × List UInt8 × Int)).2.1) (256 : Int)) fun (r4 : Bool) =>
    chk (((((((!r3) || (!r4)) || (decide ((x1.getD n2 (default : List UInt8 × List UInt8 × Int)).2.2 < (1 : Int)))) || (decide ((x1.getD n2 (default : List UInt8 × List UInt8 × Int)).2.2 > (1000000000000 : Int)))) == false) && ((decide ((n2 : Int) > (0 : Int))) == true)) = true → -9223372036854775808 ≤ ((n2 : Int) - (1 : Int)) ∧ ((n2 : Int) - (1 : Int)) ≤ 9223372036854775807) <|
    chk (((((((!r3) || (!r4)) || (decide ((x1.getD n2 (default : List UInt8 × List UInt8 × Int)).2.2 < (1 : Int)))) || (decide ((x1.getD n2 (default : List UInt8 × List UInt8 × Int)).2.2 > (1000000000000 : Int)))) == false) && ((decide ((n2 : Int) > (0 : Int))) == true)) = true → 0 ≤ ((n2 : Int) - (1 : Int)) ∧ ((n2 : Int) - (1 : Int)) < (((x1).length : Nat) : Int)) <|
    chk ((((((!r3) || (!r4)) || (decide ((x1.getD n2 (default : List UInt8 × List UInt8 × Int)).2.2 < (1 : Int)))) || (decide ((x1.getD n2 (default : List UInt8 × List UInt8 × Int)).2.2 > (1000000000000 : Int)))) == false) = true → (((((!r3) || (!r4)) || (decide ((x1.getD n2 (default : List UInt8 × List UInt8 × Int)).2.2 < (1 : Int)))) || (decide ((x1.getD n2 (default : List UInt8 × List UInt8 × Int)).2.2 > (1000000000000 : Int)))) == false) = true → (decide ((n2 : Int) > (0 : Int))) = true → ((((((!r3) || (!r4)) || (decide ((x1.getD n2 (default : List UInt8 × List UInt8 × Int)).2.2 < (1 : Int)))) || (decide ((x1.getD n2 (default : List UInt8 × List UInt8 × Int)).2.2 > (1000000000000 : Int)))) == false) && ((decide ((n2 : Int) > (0 : Int))) == true)) = true) <|
    if (((((!r3) || (!r4)) || (decide ((x1.getD n2 (default : List UInt8 × List UInt8 × Int)).2.2 < (1 : Int)))) || (decide ((x1.getD n2 (default : List UInt8 × List UInt8 × Int)).2.2 > (1000000000000 : Int)))) || ((decide ((n2 : Int) > (0 : Int))) && (!(Op.bytesLess ((x1.getD ((((n2 : Int) - (1 : Int))).toNat) (default : List UInt8 × List UInt8 × Int)).1) ((x1.getD n2 (default : List UInt8 × List UInt8 × Int)).1))))) then (
    some (1 : Int)
    ) else (
    chk (((n2 : Int) + (1 : Int)) ≤ 9223372036854775807) <|
    (f14_L0 x1 K1 k) (n2 + 1)
    )
    ) else (
    K1 ()
    )
theorem f14_L0_e2 (x1 : List (List UInt8 × List UInt8 × Int)) (K1 : Unit → Option Int) (k : Nat) (n2 : Nat) : f14_L0 x1 K1 (k + 1) n2 =
    if (decide ((n2 : Int) < (((x1).length : Nat) : Int))) then (
    chk ((n2 : Int) < (((x1).length : Nat) : Int)) <|
    (f30 ((x1.getD n2 (default : List UInt8 × List UInt8 × Int)).1) (64 : Int)).bind fun (r3 : Bool) =>
    optc ((!r3) == false) (f30 ((x1.getD n2 (default : List UInt8 × List UInt8 × Int)).2.1) (256 : Int)) fun (r4 : Bool) =>
    chk (((((((!r3) || (!r4)) || (decide ((x1.getD n2 (default : List UInt8 × List UInt8 × Int)).2.2 < (1 : Int)))) || (decide ((x1.getD n2 (default : List UInt8 × List UInt8 × Int)).2.2 > (1000000000000 : Int)))) == false) && ((decide ((n2 : Int) > (0 : Int))) == true)) = true → -9223372036854775808 ≤ ((n2 : Int) - (1 : Int)) ∧ ((n2 : Int) - (1 : Int)) ≤ 9223372036854775807) <|
    chk (((((((!r3) || (!r4)) || (decide ((x1.getD n2 (default : List UInt8 × List UInt8 × Int)).2.2 < (1 : Int)))) || (decide ((x1.getD n2 (default : List UInt8 × List UInt8 × Int)).2.2 > (1000000000000 : Int)))) == false) && ((decide ((n2 : Int) > (0 : Int))) == true)) = true → 0 ≤ ((n2 : Int) - (1 : Int)) ∧ ((n2 : Int) - (1 : Int)) < (((x1).length : Nat) : Int)) <|
    chk ((((((!r3) || (!r4)) || (decide ((x1.getD n2 (default : List UInt8 × List UInt8 × Int)).2.2 < (1 : Int)))) || (decide ((x1.getD n2 (default : List UInt8 × List UInt8 × Int)).2.2 > (1000000000000 : Int)))) == false) = true → (((((!r3) || (!r4)) || (decide ((x1.getD n2 (default : List UInt8 × List UInt8 × Int)).2.2 < (1 : Int)))) || (decide ((x1.getD n2 (default : List UInt8 × List UInt8 × Int)).2.2 > (1000000000000 : Int)))) == false) = true → (decide ((n2 : Int) > (0 : Int))) = true → ((((((!r3) || (!r4)) || (decide ((x1.getD n2 (default : List UInt8 × List UInt8 × Int)).2.2 < (1 : Int)))) || (decide ((x1.getD n2 (default : List UInt8 × List UInt8 × Int)).2.2 > (1000000000000 : Int)))) == false) && ((decide ((n2 : Int) > (0 : Int))) == true)) = true) <|
    if (((((!r3) || (!r4)) || (decide ((x1.getD n2 (default : List UInt8 × List UInt8 × Int)).2.2 < (1 : Int)))) || (decide ((x1.getD n2 (default : List UInt8 × List UInt8 × Int)).2.2 > (1000000000000 : Int)))) || ((decide ((n2 : Int) > (0 : Int))) && (!(Op.bytesLess ((x1.getD ((((n2 : Int) - (1 : Int))).toNat) (default : List UInt8 × List UInt8 × Int)).1) ((x1.getD n2 (default : List UInt8 × List UInt8 × Int)).1))))) then (
    some (1 : Int)
    ) else (
    chk (((n2 : Int) + (1 : Int)) ≤ 9223372036854775807) <|
    (f14_L0 x1 K1 k) (n2 + 1)
    )
    ) else (
    K1 ()
    ) := rfl
abbrev f14z0 (r3 : Bool) (r4 : Bool) (x1 : List (List UInt8 × List UInt8 × Int)) (n2 : Nat) := ((((!r3) || (!r4)) || (decide ((x1.getD n2 (default : List UInt8 × List UInt8 × Int)).2.2 < (1 : Int)))) || (decide ((x1.getD n2 (default : List UInt8 × List UInt8 × Int)).2.2 > (1000000000000 : Int))))
abbrev f14z1 (r3 : Bool) (r4 : Bool) (x1 : List (List UInt8 × List UInt8 × Int)) (n2 : Nat) := (((f14z0 r3 r4 x1 n2) == false) && ((decide ((n2 : Int) > (0 : Int))) == true))
abbrev f14z2 (x1 : List (List UInt8 × List UInt8 × Int)) (n2 : Nat) := (x1.getD n2 (default : List UInt8 × List UInt8 × Int))
abbrev f14z3 (r3 : Bool) (r4 : Bool) (x1 : List (List UInt8 × List UInt8 × Int)) (n2 : Nat) := ((((!r3) || (!r4)) || (decide ((f14z2 x1 n2).2.2 < (1 : Int)))) == false)
def f14 (x1 : List (List UInt8 × List UInt8 × Int)) : Option Int :=
  if (decide ((((x1).length : Nat) : Int) > (64 : Int))) then (
  some (3 : Int)
  ) else (
  jn (fun (_ : Unit) =>
  some (0 : Int)
  ) fun (K1 : Unit → Option Int) =>
  f14_L0 x1 K1 FUEL 0
  )
set_option maxRecDepth 100000 in
theorem f14_ok  (x1 : List (List UInt8 × List UInt8 × Int)) (r : Int) (h : f14 x1 = some r)  : Spec1 Tryz.prog 14 [] [] [] [vL 3 eSSI (default : List UInt8 × List UInt8 × Int) x1] (.int .i64 r) [] := by
  unfold f14 at h
  refine Spec1.body 0 _ _ Tryz.func14 rfl Tryz.ntmps14 rfl rfl ?_
  refine q1rq [] [] ⟨51, [(0, q1aSSI x1)], [], [], 0⟩ trivial ?_
  refine AWp.seq ?_
  refine q1rq [] [] ⟨51, [(0, q1aSSI x1), (7, .bool (decide ((lZ x1) > (64 : Int))))], [], [], 0⟩ trivial ?_
  refine AWp.cond (b := (decide ((lZ x1) > (64 : Int)))) (by kernel_rfl) (fun hc1 => ?_) (fun hc1 => ?_)
  ·
    replace h := ite_tb hc1 h
    refine q1rq [] [] ⟨51, [(2, .i (3 : Int))], [], [], 0⟩ trivial ?_
    have hret := Option.some.inj h
    subst hret
    refine AWp.ret ?_
    refine thenQ_ret ?_
    exact bodyQ_ret _ rfl ⟨rfl, rfl⟩ rfl
  ·
    replace h := ite_fb hc1 h
    refine AWp.skip ?_
    refine thenQ_normal ?_
    obtain ⟨K1, hK1, h⟩ := jn_some h
    refine AWp.join (α := Unit) (fun (x : Unit) => match x with | () => ⟨51, [], [], [], 0⟩) (fun x => K1 x = some r) ?_ ?_
    ·
      refine q1rq [] [] ⟨51, [(0, q1aSSI x1), (8, q1aSSI x1), (9, .i (lZ x1)), (10, .i (0 : Int))], [], [], 0⟩ trivial ?_
      refine AWp.block ?_
      refine AWp.loopL (α := Nat × Nat) (fun x => match x with | (_, n2) => ⟨51, [(0, q1aSSI x1), (8, q1aSSI x1), (9, .i (lZ x1)), (10, .i (n2 : Int))], [], [], 0⟩) (fun x => f14_L0 x1 K1 x.1 x.2 = some r) (fun x => x.1) (FUEL, 0) (Le.mk (s' := ⟨51, [(0, q1aSSI x1), (8, q1aSSI x1), (9, .i (lZ x1)), (10, .i (0 : Int))], [], [], 0⟩) rfl rfl ⟨.refl _, .refl _, .refl _, .refl _, trivial⟩ trivial) h ?_
      rintro ⟨k0, n2⟩ h
      cases k0 with
      | zero => exact nomatch (show (none : Option Int) = some r from h)
      | succ k0 =>
      obtain ⟨C0, hC0⟩ : ∃ C, C = f14_L0 x1 K1 k0 := ⟨_, rfl⟩
      replace h := (f14_L0_e2 ..).symm.trans h
      try rw [← hC0] at h
      refine q1rq [] [] ⟨51, [(0, q1aSSI x1), (8, q1aSSI x1), (9, .i (lZ x1)), (10, .i (n2 : Int)), (11, .bool (decide ((n2 : Int) < (lZ x1))))], [], [], 0⟩ trivial ?_
      refine AWp.seq ?_
      refine AWp.cond (b := (decide ((n2 : Int) < (lZ x1)))) (by kernel_rfl) (fun hc2 => ?_) (fun hc2 => ?_)
      ·
        replace h := ite_tb hc2 h
        refine AWp.skip ?_
        refine thenQ_normal ?_
        refine AWp.seq ?_
        refine AWp.block ?_
        refine AWp.seq ?_
        obtain ⟨ob0p, h⟩ := chk_some h
        have ob0 : 0 ≤ (n2 : Int) ∧ (n2 : Int) < (((x1).length : Nat) : Int) := ⟨by omega, ob0p⟩
        refine q1rr [] [] ⟨51, [(0, q1aSSI x1), (3, .i (n2 : Int)), (4, .ptr 4 0), (8, q1aSSI x1), (9, .i (lZ x1)), (10, .i (n2 : Int))], [(4, .cells 31 [.str (f14z2 x1 n2).1, .str (f14z2 x1 n2).2.1, .i (f14z2 x1 n2).2.2])], [], 0⟩ (an2 ob0 trivial) ?_
        refine thenQ_normal ?_
        refine AWp.seq ?_
        obtain ⟨r3, hr3, h⟩ := bind_ok h
        obtain ⟨r4, hr4, h⟩ := optc_some h
        have ob1 := idA (((!r3) == false) = true)
        have ob4 := bqA (!r3) false
        have ob5 := idA ((((!r3) || (!r4)) == false) = true)
        have ob7 := bqA ((!r3) || (!r4)) false
        have ob8 := idA ((f14z3 r3 r4 x1 n2) = true)
        have ob10 : true = true → (((!r3) || (!r4)) || (decide ((f14z2 x1 n2).2.2 < (1 : Int)))) = false → (f14z3 r3 r4 x1 n2) = true := fun _ h => beq_iff_eq.2 h
        have ob11 := idA (((f14z0 r3 r4 x1 n2) == false) = true)
        obtain ⟨ob13, h⟩ := chk_some h
        have ob14 := idA ((f14z1 r3 r4 x1 n2) = true)
        obtain ⟨ob15, h⟩ := chk_some h
        obtain ⟨ob23, h⟩ := chk_some h
        have ob25 := bqA (f14z0 r3 r4 x1 n2) false
        refine q1rr [] [(2, ⟨[.str (f14z2 x1 n2).1, .i (64 : Int)], [], [], [], .bool r3, [], [], []⟩), (7, ⟨[.str (f14z2 x1 n2).2.1, .i (256 : Int)], [], [], [], .bool r4, [], [], []⟩)] ⟨51, [(0, q1aSSI x1), (8, q1aSSI x1), (9, .i (lZ x1)), (10, .i (n2 : Int)), (49, .bool ((f14z0 r3 r4 x1 n2) || ((decide ((n2 : Int) > (0 : Int))) && (!(Op.bytesLess ((x1.getD ((((n2 : Int) - (1 : Int))).toNat) q1dSSI).1) ((f14z2 x1 n2).1))))))], [], [], 0⟩ (ac6 (cpT (f30_ok _ _ _ hr3)) (an1 ob1) (And.intro (cpC fun hc => (f30_ok _ _ _ (hr4 hc))) (an1 ob1)) (an1 ob1) ob4 (an1 ob5) (ac6 (an1 ob5) ob7 (an1 ob8) (an1 ob8) ob10 (an1 ob11) (ac6 (an1 ob11) (And.intro ob13 (an1 ob14)) (And.intro ob15 (an2 ob14 ob14)) (an1 ob14) (an1 ob14) (an1 ob14) (an3 (an2 ob14 ob14) (And.intro ob23 (an1 ob11)) ob25)))) ?_
        refine thenQ_normal ?_
        refine AWp.cond (b := ((f14z0 r3 r4 x1 n2) || ((decide ((n2 : Int) > (0 : Int))) && (!(Op.bytesLess ((x1.getD ((((n2 : Int) - (1 : Int))).toNat) q1dSSI).1) ((f14z2 x1 n2).1)))))) (by kernel_rfl) (fun hc3 => ?_) (fun hc3 => ?_)
        ·
          replace h := ite_tb hc3 h
          refine q1rq [] [] ⟨51, [(2, .i (1 : Int))], [], [], 0⟩ trivial ?_
          have hret := Option.some.inj h
          subst hret
          refine AWp.ret ?_
          refine blockQ_ret ?_
          refine thenQ_ret ?_
          refine thenQ_ret ?_
          refine blockQ_ret ?_
          refine joinQ_ret ?_
          exact bodyQ_ret _ rfl ⟨rfl, rfl⟩ rfl
        ·
          replace h := ite_fb hc3 h
          refine AWp.skip ?_
          refine blockQ_normal ?_
          refine thenQ_normal ?_
          obtain ⟨ob26p, h⟩ := chk_some h
          have ob26 : -9223372036854775808 ≤ ((n2 : Int) + (1 : Int)) ∧ ((n2 : Int) + (1 : Int)) ≤ 9223372036854775807 := ⟨by omega, ob26p⟩
          refine q1rr [] [] ⟨51, [(0, q1aSSI x1), (8, q1aSSI x1), (9, .i (lZ x1)), (10, .i (((n2 + 1) : Nat) : Int))], [], [], 0⟩ (an1 ob26) ?_
          rw [hC0] at h
          exact loopQ_normal (_, (n2 + 1)) (Le.mk rfl rfl ⟨.refl _, .refl _, .refl _, .refl _, trivial⟩ trivial) h (Nat.lt_succ_self _)
      ·
        replace h := ite_fb hc2 h
        refine AWp.exit ?_
        refine thenQ_exit ?_
        refine thenQ_exit ?_
        refine blockQ_same ?_
        exact joinQ_normal () (Le.mk rfl rfl trivial trivial) h
    ·
      rintro ⟨⟩ h
      replace h := (congrFun hK1 _).symm.trans h
      refine q1rq [] [] ⟨51, [(2, .i (0 : Int))], [], [], 0⟩ trivial ?_
      have hret := Option.some.inj h
      subst hret
      refine AWp.ret ?_
      exact bodyQ_ret _ rfl ⟨rfl, rfl⟩ rfl
abbrev f15z0 (x1 : List (List UInt8 × List UInt8 × Int)) : List V := [vL 3 eSSI (default : List UInt8 × List UInt8 × Int) x1]
def f15 (x1 : List (List UInt8 × List UInt8 × Int)) (x2 : Int) : Option ((List (List UInt8 × List UInt8 × Int)) × Int) :=
  if (decide (x2 < (1 : Int))) then (
  none
  ) else (
  some (x1, x2)
  )
set_option maxRecDepth 100000 in
theorem f15_ok  (x1 : List (List UInt8 × List UInt8 × Int)) (x2 : Int) (r : (List (List UInt8 × List UInt8 × Int)) × Int) (h : f15 x1 x2 = some r)  : Spec1 Tryz.prog 15 [] [] [] [vL 3 eSSI (default : List UInt8 × List UInt8 × Int) x1, .int .i64 x2] (.fn (.func 31) [.ptr 3500 0, .ptr 3501 0]) [(3500, .cells 22 [vL 3 eSSI (default : List UInt8 × List UInt8 × Int) r.1]), (3501, .cells 3 [.int .i64 r.2])] := by
  unfold f15 at h
  refine Spec1.body 0 _ _ Tryz.func15 rfl Tryz.ntmps15 rfl rfl ?_
  refine q1rq [] [] ⟨9, [(2, .ptr 2 0), (3, .ptr 3 0)], [(2, .cells 22 (f15z0 x1)), (3, .cells 3 [.i x2])], [], 0⟩ trivial ?_
  refine AWp.seq ?_
  refine q1rq [] [] ⟨9, [(2, .ptr 2 0), (3, .ptr 3 0), (6, .bool (decide (x2 < (1 : Int))))], [(2, .cells 22 (f15z0 x1)), (3, .cells 3 [.i x2])], [], 0⟩ trivial ?_
  refine AWp.cond (b := (decide (x2 < (1 : Int)))) (by kernel_rfl) (fun hc1 => ?_) (fun hc1 => ?_)
  ·
    replace h := ite_tb hc1 h
    exact nomatch (show (none : Option ((List (List UInt8 × List UInt8 × Int)) × Int)) = some r from h)
  ·
    replace h := ite_fb hc1 h
    refine AWp.skip ?_
    refine thenQ_normal ?_
    refine q1rq [] [] ⟨9, [(4, .fn (.func 31) [.ptr 2 0, .ptr 3 0])], [(2, .cells 22 (f15z0 x1)), (3, .cells 3 [.i x2])], [], 0⟩ trivial ?_
    refine AWp.le (Le.trans (Le.ren (swapN 2 3500) (swapN_inv 2 3500) rfl) (Le.mk (s' := ⟨9, [(4, .fn (.func 31) [.ptr 3500 0, .ptr 3 0])], [(3500, .cells 22 (f15z0 x1)), (3, .cells 3 [.i x2])], [], 0⟩) rfl rfl ⟨.refl _, trivial⟩ ⟨⟨_, rfl, .refl _⟩, ⟨_, rfl, .refl _⟩, trivial⟩)) ?_
    refine AWp.le (Le.trans (Le.ren (swapN 3 3501) (swapN_inv 3 3501) rfl) (Le.mk (s' := ⟨9, [(4, .fn (.func 31) [.ptr 3500 0, .ptr 3501 0])], [(3500, .cells 22 (f15z0 x1)), (3501, .cells 3 [.i x2])], [], 0⟩) rfl rfl ⟨.refl _, trivial⟩ ⟨⟨_, rfl, .refl _⟩, ⟨_, rfl, .refl _⟩, trivial⟩)) ?_
    have hret := Option.some.inj h
    subst hret
    refine AWp.le (Le.mk (s' := ⟨9, [(4, .fn (.func 31) [.ptr 3500 0, .ptr 3501 0])], [(3500, .cells 22 (f15z0 x1)), (3501, .cells 3 [.i x2])], [], 0⟩) rfl rfl ⟨.refl _, trivial⟩ ⟨⟨_, rfl, .refl _⟩, ⟨_, rfl, .refl _⟩, trivial⟩) ?_
    refine AWp.ret ?_
    exact bodyQ_ret _ rfl ⟨rfl, rfl⟩ rfl
def f16 (x1 : List UInt8) (x2 : List UInt8) (x3 : Int) : Option (List UInt8) :=
  (f27 x3).bind fun (r4 : List UInt8) =>
  chk (x1.length + ([32] : List UInt8).length ≤ 9223372036854775807) <|
  chk ((x1 ++ ([32] : List UInt8)).length + r4.length ≤ 9223372036854775807) <|
  chk (((x1 ++ ([32] : List UInt8)) ++ r4).length + ([32] : List UInt8).length ≤ 9223372036854775807) <|
  chk ((((x1 ++ ([32] : List UInt8)) ++ r4) ++ ([32] : List UInt8)).length + x2.length ≤ 9223372036854775807) <|
  chk (((((x1 ++ ([32] : List UInt8)) ++ r4) ++ ([32] : List UInt8)) ++ x2).length + ([10] : List UInt8).length ≤ 9223372036854775807) <|
  some (((((x1 ++ ([32] : List UInt8)) ++ r4) ++ ([32] : List UInt8)) ++ x2) ++ ([10] : List UInt8))
set_option maxRecDepth 100000 in
theorem f16_ok  (x1 : List UInt8) (x2 : List UInt8) (x3 : Int) (r : List UInt8) (h : f16 x1 x2 x3 = some r)  : Spec1 Tryz.prog 16 [(3, .tab .u64 Lib.pow10Tab)] [] [] [.agg [.str x1, .str x2, .int .i64 x3]] (.str r) [] := by
  unfold f16 at h
  refine Spec1.body 0 _ _ Tryz.func16 rfl Tryz.ntmps16 rfl rfl ?_
  refine q1rq [] [] ⟨15, [(1, .ptr 1 0), (1000003, .tab .u64 Lib.pow10Tab)], [(1, .cells 31 [.str x1, .str x2, .i x3])], [], 0⟩ trivial ?_
  refine AWp.seq ?_
  obtain ⟨r4, hr4, h⟩ := bind_ok h
  obtain ⟨ob0, ob1, ob2, ob3, ob4, h⟩ := ck5 h
  refine q1rr [] [(5, ⟨[.i x3], [], [], [], .str r4, [], [], [3]⟩)] ⟨15, [(2, .str (((((x1 ++ ([32] : List UInt8)) ++ r4) ++ ([32] : List UInt8)) ++ x2) ++ ([10] : List UInt8))), (1000003, .tab .u64 Lib.pow10Tab)], [], [], 0⟩ (an6 ob0 (cpT (f27_ok _ _ hr4)) ob1 ob2 ob3 ob4) ?_
  refine thenQ_normal ?_
  have hret := Option.some.inj h
  subst hret
  refine AWp.le (Le.mk (s' := ⟨15, [(2, .str (((((x1 ++ ([32] : List UInt8)) ++ r4) ++ ([32] : List UInt8)) ++ x2) ++ ([10] : List UInt8)))], [], [], 0⟩) rfl rfl ⟨.refl _, trivial⟩ trivial) ?_
  refine AWp.ret ?_
  exact bodyQ_ret _ rfl ⟨rfl, rfl⟩ rfl
def f31_L0 (Y70001 : ((List (List UInt8 × List UInt8 × Int)) × Int × List (List UInt8)) → (List (List UInt8 × List UInt8 × Int)) → Option (Nat × ((List (List UInt8 × List UInt8 × Int)) × Int × List (List UInt8)))) : Nat → (Int × Int × (List (List UInt8 × List UInt8 × Int)) × List (List UInt8) × Nat) → Option (Nat × (List (List UInt8 × List UInt8 × Int)) × Int × List (List UInt8))
  | 0, _ => none
  | k + 1, (i4, i5, l6, l7, n8) =>
    if (decide (i4 < (((l6).length : Nat) : Int))) then (
    jn (fun ((i10, l11, l12, n13) : Int × (List (List UInt8 × List UInt8 × Int)) × List (List UInt8) × Nat) =>
    chk (-9223372036854775808 ≤ (i4 + i10) ∧ (i4 + i10) ≤ 9223372036854775807) <|
    (f31_L0 Y70001 k) ((i4 + i10), i10, l11, l12, n13)
    ) fun (K1 : (Int × (List (List UInt8 × List UInt8 × Int)) × List (List UInt8) × Nat) → Option (Nat × (List (List UInt8 × List UInt8 × Int)) × Int × List (List UInt8))) =>
    chk (0 ≤ i4 ∧ i4 ≤ (((l6).length : Nat) : Int)) <|
    chk (n8 = 0) <|
    (Y70001 (l6, i5, l7) ((l6.take (((i4 + (min i5 ((((l6).length - (i4).toNat) : Nat) : Int)))).toNat)).drop ((i4).toNat))).bind fun (r9 : Nat × ((List (List UInt8 × List UInt8 × Int)) × Int × List (List UInt8))) =>
    if r9.1 = 0 then (
    chk (-9223372036854775808 ≤ (i4 + (min i5 ((((l6).length - (i4).toNat) : Nat) : Int))) ∧ (i4 + (min i5 ((((l6).length - (i4).toNat) : Nat) : Int))) ≤ 9223372036854775807) <|
    chk (-9223372036854775808 ≤ (i4 + (min i5 ((((l6).length - (i4).toNat) : Nat) : Int))) ∧ (i4 + (min i5 ((((l6).length - (i4).toNat) : Nat) : Int))) ≤ 9223372036854775807) <|
    chk (0 ≤ i4 ∧ i4 ≤ (i4 + (min i5 ((((l6).length - (i4).toNat) : Nat) : Int))) ∧ (i4 + (min i5 ((((l6).length - (i4).toNat) : Nat) : Int))) ≤ (i4 + (min i5 ((((l6).length - (i4).toNat) : Nat) : Int))) ∧ (i4 + (min i5 ((((l6).length - (i4).toNat) : Nat) : Int))) ≤ (((l6).length : Nat) : Int)) <|
    if (!true) then (
    some (0, r9.2.1, r9.2.2.1, r9.2.2.2)
    ) else (
    K1 (r9.2.2.1, r9.2.1, r9.2.2.2, 0)
    )
    ) else (
    chk (-9223372036854775808 ≤ (i4 + (min i5 ((((l6).length - (i4).toNat) : Nat) : Int))) ∧ (i4 + (min i5 ((((l6).length - (i4).toNat) : Nat) : Int))) ≤ 9223372036854775807) <|
    chk (-9223372036854775808 ≤ (i4 + (min i5 ((((l6).length - (i4).toNat) : Nat) : Int))) ∧ (i4 + (min i5 ((((l6).length - (i4).toNat) : Nat) : Int))) ≤ 9223372036854775807) <|
    chk (0 ≤ i4 ∧ i4 ≤ (i4 + (min i5 ((((l6).length - (i4).toNat) : Nat) : Int))) ∧ (i4 + (min i5 ((((l6).length - (i4).toNat) : Nat) : Int))) ≤ (i4 + (min i5 ((((l6).length - (i4).toNat) : Nat) : Int))) ∧ (i4 + (min i5 ((((l6).length - (i4).toNat) : Nat) : Int))) ≤ (((l6).length : Nat) : Int)) <|
    if (!false) then (
    some (r9.1, r9.2.1, r9.2.2.1, r9.2.2.2)
    ) else (
    K1 (r9.2.2.1, r9.2.1, r9.2.2.2, r9.1)
    )
    )
    ) else (
    some (n8, l6, i5, l7)
    )
abbrev f31z0 (l6 : List (List UInt8 × List UInt8 × Int)) (i4 : Int) (i5 : Int) : List V := [vL 3 eSSI (default : List UInt8 × List UInt8 × Int) ((l6.take (((i4 + (min i5 ((((l6).length - (i4).toNat) : Nat) : Int)))).toNat)).drop ((i4).toNat))]
abbrev f31z1 (r9 : Nat × ((List (List UInt8 × List UInt8 × Int)) × Int × List (List UInt8))) : List V := [vL 3 eSSI (default : List UInt8 × List UInt8 × Int) r9.2.1]
abbrev f31z2 (r9 : Nat × ((List (List UInt8 × List UInt8 × Int)) × Int × List (List UInt8))) : Heap := [(7, .cells 25 [.own 6200]), (6001, .cells 22 (f31z1 r9)), (6002, .cells 3 [.int .i64 r9.2.2.1]), (6200, bL 9 1 eS [] r9.2.2.2)]
abbrev f31z3 (l6 : List (List UInt8 × List UInt8 × Int)) : List V := [vL 3 eSSI (default : List UInt8 × List UInt8 × Int) l6]
abbrev f31z4 (l11 : List (List UInt8 × List UInt8 × Int)) (i10 : Int) (l12 : List (List UInt8)) (C70001 : YC) (n13 : Nat) : Heap := [(7, .cells 25 [.own 6200]), (6001, .cells 22 [vL 3 eSSI (default : List UInt8 × List UInt8 × Int) l11]), (6002, .cells 3 [.int .i64 i10]), (6200, bL 9 1 eS [] l12), (70001, .yld (some ([7], C70001)) n13)]
abbrev f31z5 (C70001 : YC) (r9 : Nat × ((List (List UInt8 × List UInt8 × Int)) × Int × List (List UInt8))) : Heap := [(70001, .yld (some ([7], C70001)) r9.1), (7, .cells 25 [.own 6200]), (6001, .cells 22 (f31z1 r9)), (6002, .cells 3 [.int .i64 r9.2.2.1]), (6200, bL 9 1 eS [] r9.2.2.2)]
abbrev f31z6 (C70001 : YC) (r9 : Nat × ((List (List UInt8 × List UInt8 × Int)) × Int × List (List UInt8))) : Heap := [(70001, .yld (some ([7], C70001)) 0), (7, .cells 25 [.own 6200]), (6001, .cells 22 (f31z1 r9)), (6002, .cells 3 [.int .i64 r9.2.2.1]), (6200, bL 9 1 eS [] r9.2.2.2)]
abbrev f31z7 (i4 : Int) : List (Nat × V) := [(0, .own 70001), (1, .ptr 6001 0), (2, .ptr 6002 0), (4, .int .i64 i4)]
abbrev f31z8 (l6 : List (List UInt8 × List UInt8 × Int)) (i5 : Int) (l7 : List (List UInt8)) (C70001 : YC) (n8 : Nat) : Heap := [(7, .cells 25 [.own 6200]), (6001, .cells 22 (f31z3 l6)), (6002, .cells 3 [.int .i64 i5]), (6200, bL 9 1 eS [] l7), (70001, .yld (some ([7], C70001)) n8)]
def f31 (Y70001 : ((List (List UInt8 × List UInt8 × Int)) × Int × List (List UInt8)) → (List (List UInt8 × List UInt8 × Int)) → Option (Nat × ((List (List UInt8 × List UInt8 × Int)) × Int × List (List UInt8)))) (x1 : List (List UInt8 × List UInt8 × Int)) (x2 : Int) (x3 : List (List UInt8)) : Option (Nat × (List (List UInt8 × List UInt8 × Int)) × Int × List (List UInt8)) :=
  f31_L0 Y70001 FUEL ((0 : Int), x2, x1, x3, 0)
set_option maxRecDepth 100000 in
theorem f31_ok (C70001 : YC) (Y70001 : ((List (List UInt8 × List UInt8 × Int)) × Int × List (List UInt8)) → (List (List UInt8 × List UInt8 × Int)) → Option (Nat × ((List (List UInt8 × List UInt8 × Int)) × Int × List (List UInt8)))) (x1 : List (List UInt8 × List UInt8 × Int)) (x2 : Int) (x3 : List (List UInt8)) (r : Nat × (List (List UInt8 × List UInt8 × Int)) × Int × List (List UInt8)) (h : f31 Y70001 x1 x2 x3 = some r) (hY70001 : ∀ s x r, Y70001 s x = some r → YSpec Tryz.prog 70001 [7] C70001 [7, 6001, 6002] [(7, .cells 25 [.own 6200]), (6001, .cells 22 [vL 3 eSSI (default : List UInt8 × List UInt8 × Int) s.1]), (6002, .cells 3 [.int .i64 s.2.1]), (6200, bL 9 1 eS [] s.2.2)] [vL 3 eSSI (default : List UInt8 × List UInt8 × Int) x] r.1 [(7, .cells 25 [.own 6200]), (6001, .cells 22 [vL 3 eSSI (default : List UInt8 × List UInt8 × Int) r.2.1]), (6002, .cells 3 [.int .i64 r.2.2.1]), (6200, bL 9 1 eS [] r.2.2.2)]) : Spec1 Tryz.prog 31 [] [70001, 7, 6001, 6002] [(70001, .yld (some ([7], C70001)) 0), (7, .cells 25 [.own 6200]), (6001, .cells 22 [vL 3 eSSI (default : List UInt8 × List UInt8 × Int) x1]), (6002, .cells 3 [.int .i64 x2]), (6200, bL 9 1 eS [] x3)] [.own 70001, .ptr 6001 0, .ptr 6002 0] (.tup []) [(70001, .yld (some ([7], C70001)) r.1), (7, .cells 25 [.own 6200]), (6001, .cells 22 [vL 3 eSSI (default : List UInt8 × List UInt8 × Int) r.2.1]), (6002, .cells 3 [.int .i64 r.2.2.1]), (6200, bL 9 1 eS [] r.2.2.2)] := by
  unfold f31 at h
  refine Spec1.body 10000 _ _ Tryz.func31 rfl Tryz.ntmps31 rfl rfl ?_
  refine q1rq [] [] ⟨31, [(0, .own 70001), (1, .ptr 6001 0), (2, .ptr 6002 0), (4, .i (0 : Int))], [(7, .cells 25 [.own 6200]), (6001, .cells 22 [q1aSSI x1]), (6002, .cells 3 [.i x2]), (6200, q1bS_9 x3), (70001, .yld (some ([7], C70001)) 0)], [70001, 7, 6001, 6002], 10000⟩ trivial ?_
  refine AWp.block ?_
  refine AWp.loopL (α := Nat × (Int × Int × (List (List UInt8 × List UInt8 × Int)) × List (List UInt8) × Nat)) (fun x => match x with | (_, i4, i5, l6, l7, n8) => ⟨31, (f31z7 i4), (f31z8 l6 i5 l7 C70001 n8), [70001, 7, 6001, 6002], 10000⟩) (fun x => f31_L0 Y70001 x.1 x.2 = some r) (fun x => x.1) (FUEL, (0 : Int), x2, x1, x3, 0) (Le.mk (s' := ⟨31, [(0, .own 70001), (1, .ptr 6001 0), (2, .ptr 6002 0), (4, .i (0 : Int))], [(7, .cells 25 [.own 6200]), (6001, .cells 22 [q1aSSI x1]), (6002, .cells 3 [.i x2]), (6200, q1bS_9 x3), (70001, .yld (some ([7], C70001)) 0)], [70001, 7, 6001, 6002], 10000⟩) rfl rfl ⟨.refl _, .refl _, .refl _, .refl _, trivial⟩ ⟨⟨_, rfl, .refl _⟩, ⟨_, rfl, .refl _⟩, ⟨_, rfl, .refl _⟩, ⟨_, rfl, .refl _⟩, ⟨_, rfl, .refl _⟩, trivial⟩) h ?_
  rintro ⟨k0, i4, i5, l6, l7, n8⟩ h
  cases k0 with
  | zero => exact nomatch (show (none : Option (Nat × (List (List UInt8 × List UInt8 × Int)) × Int × List (List UInt8))) = some r from h)
  | succ k0 =>
  obtain ⟨C0, hC0⟩ : ∃ C, C = f31_L0 Y70001 k0 := ⟨_, rfl⟩
  replace h := (f31_L0.eq_2 ..).symm.trans h
  try rw [← hC0] at h
  refine AWp.seq ?_
  refine q1rq [] [] ⟨31, [(0, .own 70001), (1, .ptr 6001 0), (2, .ptr 6002 0), (4, .i i4), (9, .bool (decide (i4 < (lZ l6))))], (f31z8 l6 i5 l7 C70001 n8), [70001, 7, 6001, 6002], 10000⟩ trivial ?_
  refine AWp.cond (b := (decide (i4 < (lZ l6)))) (by kernel_rfl) (fun hc1 => ?_) (fun hc1 => ?_)
  ·
    replace h := ite_tb hc1 h
    refine AWp.skip ?_
    refine thenQ_normal ?_
    obtain ⟨K1, hK1, h⟩ := jn_some h
    refine AWp.join (α := Int × (List (List UInt8 × List UInt8 × Int)) × List (List UInt8) × Nat) (fun (x : Int × (List (List UInt8 × List UInt8 × Int)) × List (List UInt8) × Nat) => match x with | (i10, l11, l12, n13) => ⟨31, (f31z7 i4), (f31z4 l11 i10 l12 C70001 n13), [70001, 7, 6001, 6002], 10000⟩) (fun x => K1 x = some r) ?_ ?_
    ·
      refine AWp.block ?_
      refine AWp.seq ?_
      obtain ⟨ob0, h⟩ := chk_some h
      refine q1rr [] [] ⟨31, [(0, .own 70001), (1, .ptr 6001 0), (2, .ptr 6002 0), (4, .i i4), (5, .i (min i5 ((((l6).length - (i4).toNat) : Nat) : Int)))], (f31z8 l6 i5 l7 C70001 n8), [70001, 7, 6001, 6002], 10000⟩ (an1 ob0) ?_
      refine thenQ_normal ?_
      refine AWp.seq ?_
      obtain ⟨hz2, h⟩ := chk_some h
      refine AWp.le (Le.mk (s' := ⟨31, [(0, .own 70001), (1, .ptr 6001 0), (2, .ptr 6002 0), (4, .i i4), (5, .i (min i5 ((((l6).length - (i4).toNat) : Nat) : Int)))], [(7, .cells 25 [.own 6200]), (6001, .cells 22 (f31z3 l6)), (6002, .cells 3 [.i i5]), (6200, q1bS_9 l7), (70001, .yld (some ([7], C70001)) 0)], [70001, 7, 6001, 6002], 10000⟩) rfl rfl ⟨.refl _, .refl _, .refl _, .refl _, .refl _, trivial⟩ ⟨⟨_, rfl, .refl _⟩, ⟨_, rfl, .refl _⟩, ⟨_, rfl, .refl _⟩, ⟨_, rfl, .refl _⟩, ⟨_, rfl, BLe.yldEq hz2⟩, trivial⟩) ?_
      obtain ⟨r9, hr9, h⟩ := bind_ok h
      by_cases hy_r9 : r9.1 = 0
      ·
        replace h := ite_t hy_r9 h
        obtain ⟨ob1, ob2, ob3, h⟩ := ck3 h
        refine q1rr [] [(10, ⟨(f31z0 l6 i4 i5), [70001, 7, 6001, 6002, 6200], [7, 6001, 6002], (f31z6 C70001 r9), .bool true, [6200], [], []⟩)] ⟨31, [(0, .own 70001), (1, .ptr 6001 0), (2, .ptr 6002 0), (4, .i i4), (30, .bool (!true))], [(7, .cells 25 [.own 6200]), (6001, .cells 22 (f31z1 r9)), (6002, .cells 3 [.i r9.2.2.1]), (6200, q1bS_9 r9.2.2.2), (70001, .yld (some ([7], C70001)) 0)], [70001, 7, 6001, 6002], 10000⟩ (an4 ob1 ob2 ob3 (show (((f31z6 C70001 r9) : Heap) = (70001, .yld (some ([7], C70001)) 0) :: (f31z2 r9) ∧ V.bool true = V.bool (0 == 0) ∧ YSpec Tryz.prog 70001 [7] C70001 [7, 6001, 6002] [(7, .cells 25 [.own 6200]), (6001, .cells 22 (f31z3 l6)), (6002, .cells 3 [.i i5]), (6200, q1bS_9 l7)] (f31z0 l6 i4 i5) 0 (f31z2 r9) ∧ VLes [.arr 3 (((i4 + (min i5 ((((l6).length - (i4).toNat) : Nat) : Int)))).toNat - (i4).toNat) (fun i j => (encF eSSI q1dSSI l6) (i + ((i4).toNat)) j)] (f31z0 l6 i4 i5)) from ⟨rfl, rfl, (YSpec.zero (hY70001 _ _ r9 hr9) hy_r9), ⟨(VLe.subL (by first | omega | (simp only [List.length_append, List.length_cons, List.length_nil, List.length_take, List.length_drop] at *; omega) | (simp; done) | (simp_all; done) | (simp_all; omega) | rfl)), trivial⟩⟩)) ?_
        refine thenQ_normal ?_
        refine AWp.cond (b := (!true)) (by kernel_rfl) (fun hc4 => ?_) (fun hc4 => ?_)
        ·
          replace h := ite_tb hc4 h
          have hret := Option.some.inj h
          subst hret
          refine AWp.le (Le.mk (s' := ⟨31, [], (f31z6 C70001 r9), [70001, 7, 6001, 6002], 10000⟩) rfl rfl trivial ⟨⟨_, rfl, .refl _⟩, ⟨_, rfl, .refl _⟩, ⟨_, rfl, .refl _⟩, ⟨_, rfl, .refl _⟩, ⟨_, rfl, .refl _⟩, trivial⟩) ?_
          refine AWp.ret ?_
          refine blockQ_ret ?_
          refine joinQ_ret ?_
          refine thenQ_ret ?_
          refine blockQ_ret ?_
          exact bodyQ_ret _ rfl ⟨rfl, rfl⟩ rfl
        ·
          replace h := ite_fb hc4 h
          refine AWp.skip ?_
          refine blockQ_normal ?_
          exact joinQ_normal (r9.2.2.1, r9.2.1, r9.2.2.2, 0) (Le.mk rfl rfl ⟨.refl _, .refl _, .refl _, .refl _, trivial⟩ ⟨⟨_, rfl, .refl _⟩, ⟨_, rfl, .refl _⟩, ⟨_, rfl, .refl _⟩, ⟨_, rfl, .refl _⟩, ⟨_, rfl, .refl _⟩, trivial⟩) h
      ·
        replace h := ite_f hy_r9 h
        obtain ⟨ob1, ob2, ob3, h⟩ := ck3 h
        refine q1rr [] [(10, ⟨(f31z0 l6 i4 i5), [70001, 7, 6001, 6002, 6200], [7, 6001, 6002], (f31z5 C70001 r9), .bool false, [6200], [], []⟩)] ⟨31, [(0, .own 70001), (1, .ptr 6001 0), (2, .ptr 6002 0), (4, .i i4), (30, .bool (!false))], [(7, .cells 25 [.own 6200]), (6001, .cells 22 (f31z1 r9)), (6002, .cells 3 [.i r9.2.2.1]), (6200, q1bS_9 r9.2.2.2), (70001, .yld (some ([7], C70001)) r9.1)], [70001, 7, 6001, 6002], 10000⟩ (an4 ob1 ob2 ob3 (show (((f31z5 C70001 r9) : Heap) = (70001, .yld (some ([7], C70001)) r9.1) :: (f31z2 r9) ∧ V.bool false = V.bool (r9.1 == 0) ∧ YSpec Tryz.prog 70001 [7] C70001 [7, 6001, 6002] [(7, .cells 25 [.own 6200]), (6001, .cells 22 (f31z3 l6)), (6002, .cells 3 [.i i5]), (6200, q1bS_9 l7)] (f31z0 l6 i4 i5) r9.1 (f31z2 r9) ∧ VLes [.arr 3 (((i4 + (min i5 ((((l6).length - (i4).toNat) : Nat) : Int)))).toNat - (i4).toNat) (fun i j => (encF eSSI q1dSSI l6) (i + ((i4).toNat)) j)] (f31z0 l6 i4 i5)) from ⟨rfl, bool_ne hy_r9, (hY70001 _ _ r9 hr9), ⟨(VLe.subL (by first | omega | (simp only [List.length_append, List.length_cons, List.length_nil, List.length_take, List.length_drop] at *; omega) | (simp; done) | (simp_all; done) | (simp_all; omega) | rfl)), trivial⟩⟩)) ?_
        refine thenQ_normal ?_
        refine AWp.cond (b := (!false)) (by kernel_rfl) (fun hc5 => ?_) (fun hc5 => ?_)
        ·
          replace h := ite_tb hc5 h
          have hret := Option.some.inj h
          subst hret
          refine AWp.le (Le.mk (s' := ⟨31, [], (f31z5 C70001 r9), [70001, 7, 6001, 6002], 10000⟩) rfl rfl trivial ⟨⟨_, rfl, .refl _⟩, ⟨_, rfl, .refl _⟩, ⟨_, rfl, .refl _⟩, ⟨_, rfl, .refl _⟩, ⟨_, rfl, .refl _⟩, trivial⟩) ?_
          refine AWp.ret ?_
          refine blockQ_ret ?_
          refine joinQ_ret ?_
          refine thenQ_ret ?_
          refine blockQ_ret ?_
          exact bodyQ_ret _ rfl ⟨rfl, rfl⟩ rfl
        ·
          replace h := ite_fb hc5 h
          refine AWp.skip ?_
          refine blockQ_normal ?_
          exact joinQ_normal (r9.2.2.1, r9.2.1, r9.2.2.2, r9.1) (Le.mk rfl rfl ⟨.refl _, .refl _, .refl _, .refl _, trivial⟩ ⟨⟨_, rfl, .refl _⟩, ⟨_, rfl, .refl _⟩, ⟨_, rfl, .refl _⟩, ⟨_, rfl, .refl _⟩, ⟨_, rfl, .refl _⟩, trivial⟩) h
    ·
      rintro ⟨i10, l11, l12, n13⟩ h
      replace h := (congrFun hK1 _).symm.trans h
      obtain ⟨ob4, h⟩ := chk_some h
      refine q1rr [] [] ⟨31, [(0, .own 70001), (1, .ptr 6001 0), (2, .ptr 6002 0), (4, .i (i4 + i10))], (f31z4 l11 i10 l12 C70001 n13), [70001, 7, 6001, 6002], 10000⟩ (an1 ob4) ?_
      rw [hC0] at h
      exact loopQ_normal (_, (i4 + i10), i10, l11, l12, n13) (Le.mk rfl rfl ⟨.refl _, .refl _, .refl _, .refl _, trivial⟩ ⟨⟨_, rfl, .refl _⟩, ⟨_, rfl, .refl _⟩, ⟨_, rfl, .refl _⟩, ⟨_, rfl, .refl _⟩, ⟨_, rfl, .refl _⟩, trivial⟩) h (Nat.lt_succ_self _)
  ·
    replace h := ite_fb hc1 h
    refine AWp.exit ?_
    refine thenQ_exit ?_
    refine thenQ_exit ?_
    refine blockQ_same ?_
    have hret := Option.some.inj h
    subst hret
    exact bodyQ_le (Le.mk (s' := ⟨31, [], [(70001, .yld (some ([7], C70001)) n8), (7, .cells 25 [.own 6200]), (6001, .cells 22 (f31z3 l6)), (6002, .cells 3 [.i i5]), (6200, q1bS_9 l7)], [70001, 7, 6001, 6002], 10000⟩) rfl rfl trivial ⟨⟨_, rfl, .refl _⟩, ⟨_, rfl, .refl _⟩, ⟨_, rfl, .refl _⟩, ⟨_, rfl, .refl _⟩, ⟨_, rfl, .refl _⟩, trivial⟩) (bodyQ_normal _ rfl ⟨rfl, rfl⟩ rfl)
def f6_L0 (x8 : List (List UInt8 × List UInt8 × Int)) (K1 : (List UInt8) → Option (Nat × ((List (List UInt8 × List UInt8 × Int)) × Int × List (List UInt8)))) : Nat → (List UInt8 × Nat) → Option (Nat × ((List (List UInt8 × List UInt8 × Int)) × Int × List (List UInt8)))
  | 0, _ => none
  | k + 1, (s9, n10) =>
    if (decide ((n10 : Int) < (((x8).length : Nat) : Int))) then (
    chk ((n10 : Int) < (((x8).length : Nat) : Int)) <|
    (f16 ((x8.getD n10 (default : List UInt8 × List UInt8 × Int)).1) ((x8.getD n10 (default : List UInt8 × List UInt8 × Int)).2.1) ((x8.getD n10 (default : List UInt8 × List UInt8 × Int)).2.2)).bind fun (r11 : List UInt8) =>
    chk (s9.length + r11.length ≤ 9223372036854775807) <|
    chk (((n10 : Int) + (1 : Int)) ≤ 9223372036854775807) <|
    (f6_L0 x8 K1 k) ((s9 ++ r11), (n10 + 1))
    ) else (
    K1 s9
    )
def f6_Y70001 : ((List (List UInt8 × List UInt8 × Int)) × Int × List (List UInt8)) → (List (List UInt8 × List UInt8 × Int)) → Option (Nat × ((List (List UInt8 × List UInt8 × Int)) × Int × List (List UInt8)))
  | (l6, i5, l7), x8 =>
    jn (fun (s12 : List UInt8) =>
    chk (((l7).length + 1) * 16 ≤ 140737488355328) <|
    some (0, (l6, i5, (l7 ++ [s12])))
    ) fun (K1 : (List UInt8) → Option (Nat × ((List (List UInt8 × List UInt8 × Int)) × Int × List (List UInt8)))) =>
    f6_L0 x8 K1 FUEL ([], 0)
abbrev f6z0 (l6 : List (List UInt8 × List UInt8 × Int)) (i5 : Int) (l7 : List (List UInt8)) : Heap := [(7, .cells 25 [.own 6200]), (6001, .cells 22 [vL 3 eSSI (default : List UInt8 × List UInt8 × Int) l6]), (6002, .cells 3 [.int .i64 i5]), (6200, bL 9 1 eS [] l7)]
abbrev f6z1 (r4 : (List (List UInt8 × List UInt8 × Int)) × Int) : Heap := [(7, .cells 25 [.own 6200]), (6001, .cells 22 [vL 3 eSSI (default : List UInt8 × List UInt8 × Int) r4.1]), (6002, .cells 3 [.int .i64 r4.2]), (6200, bL 9 1 eS [] [])]
abbrev f6z2 (x8 : List (List UInt8 × List UInt8 × Int)) (n10 : Nat) := (x8.getD n10 (default : List UInt8 × List UInt8 × Int))
abbrev f6z3 : List V := [.ptr 6001 0, .ptr 6002 0]
abbrev f6z4 (l6 : List (List UInt8 × List UInt8 × Int)) : List V := [vL 3 eSSI (default : List UInt8 × List UInt8 × Int) l6]
def f6 (x1 : List (List UInt8 × List UInt8 × Int)) (x2 : Int) : Option (Int × List (List UInt8)) :=
  (f14 x1).bind fun (r3 : Int) =>
  if (r3 != (0 : Int)) then (
  some (r3, [])
  ) else (
  if ((decide (x2 < (1 : Int))) || (decide (x2 > (64 : Int)))) then (
  some ((7 : Int), [])
  ) else (
  (f15 x1 x2).bind fun (r4 : (List (List UInt8 × List UInt8 × Int)) × Int) =>
  (f31 f6_Y70001 r4.1 r4.2 []).bind fun (r13 : Nat × (List (List UInt8 × List UInt8 × Int)) × Int × List (List UInt8)) =>
  chk (r13.1 ≠ 1) <|
  if r13.1 = 0 then (
  some ((0 : Int), r13.2.2.2)
  ) else (
  none
  )
  )
  )
set_option maxRecDepth 100000 in
theorem f6_ok  (x1 : List (List UInt8 × List UInt8 × Int)) (x2 : Int) (r : Int × List (List UInt8)) (h : f6 x1 x2 = some r)  : Spec1 Tryz.prog 6 [(3, .tab .u64 Lib.pow10Tab)] [] [] [vL 3 eSSI (default : List UInt8 × List UInt8 × Int) x1, .int .i64 x2] (.tup [.own 3000, .int .i64 r.1]) [(3000, bL 9 1 eS [] r.2)] := by
  unfold f6 at h
  refine Spec1.body 0 _ _ Tryz.func6 rfl Tryz.ntmps6 rfl rfl ?_
  refine q1rq [] [] ⟨43, [(0, q1aSSI x1), (1, .i x2), (1000003, .tab .u64 Lib.pow10Tab)], [], [], 0⟩ trivial ?_
  refine AWp.seq ?_
  refine AWp.seq ?_
  obtain ⟨r3, hr3, h⟩ := bind_ok h
  refine q1rr [] [(1, ⟨[q1aSSI x1], [], [], [], .i r3, [], [], []⟩)] ⟨43, [(0, q1aSSI x1), (1, .i x2), (6, .i r3), (1000003, .tab .u64 Lib.pow10Tab)], [], [], 0⟩ (an1 (cpT (f14_ok _ _ hr3))) ?_
  refine thenQ_normal ?_
  refine q1rq [] [] ⟨43, [(0, q1aSSI x1), (1, .i x2), (6, .i r3), (15, .bool (r3 != (0 : Int))), (1000003, .tab .u64 Lib.pow10Tab)], [], [], 0⟩ trivial ?_
  refine AWp.cond (b := (r3 != (0 : Int))) (by kernel_rfl) (fun hc1 => ?_) (fun hc1 => ?_)
  ·
    replace h := ite_tb hc1 h
    refine q1rq [] [] ⟨43, [(4, .nils), (5, .i r3), (1000003, .tab .u64 Lib.pow10Tab)], [], [], 0⟩ trivial ?_
    refine AWp.le (Le.trans (Le.nilOwn 4 3000 9 1 (encF eS [] []) rfl rfl (Nat.le_of_ble_eq_true rfl)) (Le.mk (s' := ⟨43, [(4, .own 3000), (5, .i r3), (1000003, .tab .u64 Lib.pow10Tab)], [(3000, q1bS_9 [])], [], 0⟩) rfl rfl ⟨.refl _, .refl _, .refl _, trivial⟩ ⟨⟨_, rfl, .refl _⟩, trivial⟩)) ?_
    have hret := Option.some.inj h
    subst hret
    refine AWp.le (Le.mk (s' := ⟨43, [(4, .own 3000), (5, .i r3)], [(3000, q1bS_9 [])], [], 0⟩) rfl rfl ⟨.refl _, .refl _, trivial⟩ ⟨⟨_, rfl, .refl _⟩, trivial⟩) ?_
    refine AWp.ret ?_
    refine thenQ_ret ?_
    exact bodyQ_ret _ rfl ⟨rfl, rfl⟩ rfl
  ·
    replace h := ite_fb hc1 h
    refine AWp.skip ?_
    refine thenQ_normal ?_
    refine AWp.seq ?_
    refine AWp.seq ?_
    have ob0 := idA (((decide (x2 < (1 : Int))) == false) = true)
    have ob1 := bqA (decide (x2 < (1 : Int))) false
    refine q1rr [] [] ⟨43, [(0, q1aSSI x1), (1, .i x2), (22, .bool ((decide (x2 < (1 : Int))) || (decide (x2 > (64 : Int))))), (1000003, .tab .u64 Lib.pow10Tab)], [], [], 0⟩ (an2 (an1 ob0) ob1) ?_
    refine thenQ_normal ?_
    refine AWp.cond (b := ((decide (x2 < (1 : Int))) || (decide (x2 > (64 : Int))))) (by kernel_rfl) (fun hc2 => ?_) (fun hc2 => ?_)
    ·
      replace h := ite_tb hc2 h
      refine q1rq [] [] ⟨43, [(4, .nils), (5, .i (7 : Int)), (1000003, .tab .u64 Lib.pow10Tab)], [], [], 0⟩ trivial ?_
      refine AWp.le (Le.trans (Le.nilOwn 4 3000 9 1 (encF eS [] []) rfl rfl (Nat.le_of_ble_eq_true rfl)) (Le.mk (s' := ⟨43, [(4, .own 3000), (5, .i (7 : Int)), (1000003, .tab .u64 Lib.pow10Tab)], [(3000, q1bS_9 [])], [], 0⟩) rfl rfl ⟨.refl _, .refl _, .refl _, trivial⟩ ⟨⟨_, rfl, .refl _⟩, trivial⟩)) ?_
      have hret := Option.some.inj h
      subst hret
      refine AWp.le (Le.mk (s' := ⟨43, [(4, .own 3000), (5, .i (7 : Int))], [(3000, q1bS_9 [])], [], 0⟩) rfl rfl ⟨.refl _, .refl _, trivial⟩ ⟨⟨_, rfl, .refl _⟩, trivial⟩) ?_
      refine AWp.ret ?_
      refine thenQ_ret ?_
      exact bodyQ_ret _ rfl ⟨rfl, rfl⟩ rfl
    ·
      replace h := ite_fb hc2 h
      refine AWp.skip ?_
      refine thenQ_normal ?_
      refine q1rq [] [] ⟨43, [(0, q1aSSI x1), (1, .i x2), (7, .ptr 7 0), (1000003, .tab .u64 Lib.pow10Tab)], [(7, .cells 25 [.nils])], [], 0⟩ trivial ?_
      refine AWp.seq ?_
      refine AWp.seq ?_
      obtain ⟨r4, hr4, h⟩ := bind_ok h
      refine q1rr [] [(2, ⟨[q1aSSI x1, .i x2], [], [], [(6001, .cells 22 [q1aSSI r4.1]), (6002, .cells 3 [.i r4.2])], .fn (.func 31) (f6z3), [6001, 6002], [], []⟩)] ⟨43, [(7, .ptr 7 0), (25, .fn (.func 31) (f6z3)), (1000003, .tab .u64 Lib.pow10Tab)], [(7, .cells 25 [.nils]), (6001, .cells 22 [q1aSSI r4.1]), (6002, .cells 3 [.i r4.2])], [], 0⟩ (an1 (cpT (Spec1.ren (swapN 3501 6002) (swapN_inv 3501 6002) rfl (Spec1.ren (swapN 3500 6001) (swapN_inv 3500 6001) rfl (f15_ok _ _ _ hr4))))) ?_
      refine thenQ_normal ?_
      refine AWp.block ?_
      refine AWp.le (Le.trans (Le.trans (Le.nilOwnC 7 0 6200 9 1 (encF eS [] []) rfl rfl rfl) (Le.mk (s' := ⟨43, [(7, .ptr 7 0), (25, .fn (.func 31) (f6z3)), (1000003, .tab .u64 Lib.pow10Tab)], (f6z1 r4), [], 0⟩) rfl rfl ⟨.refl _, .refl _, .refl _, trivial⟩ ⟨⟨_, rfl, .refl _⟩, ⟨_, rfl, .refl _⟩, ⟨_, rfl, .refl _⟩, ⟨_, rfl, .refl _⟩, trivial⟩)) (Le.mk (s' := ⟨43, [(7, .ptr 7 0), (25, .fn (.func 31) (f6z3)), (1000003, .tab .u64 Lib.pow10Tab)], (f6z1 r4), [], 0⟩) rfl rfl ⟨.refl _, .refl _, .refl _, trivial⟩ ⟨⟨_, rfl, .refl _⟩, ⟨_, rfl, .refl _⟩, ⟨_, rfl, .refl _⟩, ⟨_, rfl, .refl _⟩, trivial⟩)) ?_
      obtain ⟨r13, hr13, h⟩ := bind_ok h
      obtain ⟨hkr13, h⟩ := chk_some h
      refine AWp.rangeFunc (s := ⟨43, [(7, .ptr 7 0), (25, .fn (.func 31) (f6z3)), (1000003, .tab .u64 Lib.pow10Tab)], (f6z1 r4), [], 0⟩) 70001 [7] [7, 1000003] [] 31 (f6z3) ⟨[.own 70001, .ptr 6001 0, .ptr 6002 0], [7, 6001, 6002, 6200], [70001, 7, 6001, 6002], [], .tup [], [6200], [], []⟩ r13.1 [(7, .cells 25 [.own 6200]), (6001, .cells 22 [q1aSSI r13.2.1]), (6002, .cells 3 [.i r13.2.2.1]), (6200, q1bS_9 r13.2.2.2)] ⟨43, [(7, .ptr 7 0), (25, .fn (.func 31) (f6z3)), (1000003, .tab .u64 Lib.pow10Tab)], [(7, .cells 25 [.own 6200]), (6001, .cells 22 [q1aSSI r13.2.1]), (6002, .cells 3 [.i r13.2.2.1]), (6200, q1bS_9 r13.2.2.2)], [], 0⟩ rfl (by kernel_rfl) (by kernel_rfl) (fun g0 => ?_) (fun C => (by kernel_rfl)) (by kernel_rfl) (by kernel_rfl) (by kernel_rfl) (by kernel_rfl) hkr13 (by kernel_rfl) ?_ ?_
      ·
        refine ⟨fun _ => (f31_ok _ f6_Y70001 r4.1 r4.2 [] r13 hr13 ?_), fun _ => ⟨.refl _, .refl _, .refl _, trivial⟩, .inl rfl⟩
        clear h
        rintro ⟨l6, i5, l7⟩ x8 rY70001 h
        replace h := (f6_Y70001.eq_1 ..).symm.trans h
        refine YSpec.body 0 rfl (of_decide_eq_true (by kernel_rfl)) (of_decide_eq_true (by kernel_rfl)) (within_tget (by kernel_rfl)) (by kernel_rfl) (by kernel_rfl) (by kernel_rfl) (by kernel_rfl) ?_
        refine AWp.le (Le.mk (s' := ⟨43, [(26, q1aSSI x8), (7, .ptr 7 0), (1000003, .tab .u64 Lib.pow10Tab)], (f6z0 l6 i5 l7), [7, 6001, 6002], 0⟩) rfl rfl ⟨.refl _, .refl _, .refl _, trivial⟩ ⟨⟨_, rfl, .refl _⟩, ⟨_, rfl, .refl _⟩, ⟨_, rfl, .refl _⟩, ⟨_, rfl, .refl _⟩, trivial⟩) ?_
        refine q1rr [] [] ⟨43, [(7, .ptr 7 0), (8, q1aSSI x8), (1000003, .tab .u64 Lib.pow10Tab)], (f6z0 l6 i5 l7), [7, 6001, 6002], 0⟩ trivial ?_
        refine ⟨rfl, rfl, ?_⟩
        refine AWp.block ?_
        refine q1rq [] [] ⟨43, [(7, .ptr 7 0), (8, q1aSSI x8), (9, .str []), (1000003, .tab .u64 Lib.pow10Tab)], (f6z0 l6 i5 l7), [7, 6001, 6002], 0⟩ trivial ?_
        obtain ⟨K1, hK1, h⟩ := jn_some h
        refine AWp.join (α := List UInt8) (fun (s12 : List UInt8) => ⟨43, [(7, .ptr 7 0), (9, .str s12), (1000003, .tab .u64 Lib.pow10Tab)], (f6z0 l6 i5 l7), [7, 6001, 6002], 0⟩) (fun x => K1 x = some rY70001) ?_ ?_
        ·
          refine q1rq [] [] ⟨43, [(7, .ptr 7 0), (9, .str []), (27, q1aSSI x8), (28, .i (lZ x8)), (29, .i (0 : Int)), (1000003, .tab .u64 Lib.pow10Tab)], (f6z0 l6 i5 l7), [7, 6001, 6002], 0⟩ trivial ?_
          refine AWp.block ?_
          refine AWp.loopL (α := Nat × (List UInt8 × Nat)) (fun x => match x with | (_, s9, n10) => ⟨43, [(7, .ptr 7 0), (9, .str s9), (27, q1aSSI x8), (28, .i (lZ x8)), (29, .i (n10 : Int)), (1000003, .tab .u64 Lib.pow10Tab)], (f6z0 l6 i5 l7), [7, 6001, 6002], 0⟩) (fun x => f6_L0 x8 K1 x.1 x.2 = some rY70001) (fun x => x.1) (FUEL, [], 0) (Le.mk (s' := ⟨43, [(7, .ptr 7 0), (9, .str []), (27, q1aSSI x8), (28, .i (lZ x8)), (29, .i (0 : Int)), (1000003, .tab .u64 Lib.pow10Tab)], (f6z0 l6 i5 l7), [7, 6001, 6002], 0⟩) rfl rfl ⟨.refl _, .refl _, .refl _, .refl _, .refl _, .refl _, trivial⟩ ⟨⟨_, rfl, .refl _⟩, ⟨_, rfl, .refl _⟩, ⟨_, rfl, .refl _⟩, ⟨_, rfl, .refl _⟩, trivial⟩) h ?_
          rintro ⟨k0, s9, n10⟩ h
          cases k0 with
          | zero => exact nomatch (show (none : Option (Nat × ((List (List UInt8 × List UInt8 × Int)) × Int × List (List UInt8)))) = some rY70001 from h)
          | succ k0 =>
          obtain ⟨C0, hC0⟩ : ∃ C, C = f6_L0 x8 K1 k0 := ⟨_, rfl⟩
          replace h := (f6_L0.eq_2 ..).symm.trans h
          try rw [← hC0] at h
          refine q1rq [] [] ⟨43, [(7, .ptr 7 0), (9, .str s9), (27, q1aSSI x8), (28, .i (lZ x8)), (29, .i (n10 : Int)), (30, .bool (decide ((n10 : Int) < (lZ x8)))), (1000003, .tab .u64 Lib.pow10Tab)], (f6z0 l6 i5 l7), [7, 6001, 6002], 0⟩ trivial ?_
          refine AWp.seq ?_
          refine AWp.cond (b := (decide ((n10 : Int) < (lZ x8)))) (by kernel_rfl) (fun hc3 => ?_) (fun hc3 => ?_)
          ·
            replace h := ite_tb hc3 h
            refine AWp.skip ?_
            refine thenQ_normal ?_
            refine AWp.seq ?_
            refine AWp.block ?_
            refine AWp.seq ?_
            obtain ⟨ob2p, h⟩ := chk_some h
            have ob2 : 0 ≤ (n10 : Int) ∧ (n10 : Int) < (((x8).length : Nat) : Int) := ⟨by omega, ob2p⟩
            refine q1rr [] [] ⟨43, [(7, .ptr 7 0), (9, .str s9), (11, .ptr 11 0), (27, q1aSSI x8), (28, .i (lZ x8)), (29, .i (n10 : Int)), (1000003, .tab .u64 Lib.pow10Tab)], [(7, .cells 25 [.own 6200]), (11, .cells 31 [.str (f6z2 x8 n10).1, .str (f6z2 x8 n10).2.1, .i (f6z2 x8 n10).2.2]), (6001, .cells 22 (f6z4 l6)), (6002, .cells 3 [.i i5]), (6200, q1bS_9 l7)], [7, 6001, 6002], 0⟩ (an2 ob2 trivial) ?_
            refine thenQ_normal ?_
            obtain ⟨r11, hr11, h⟩ := bind_ok h
            obtain ⟨ob3, h⟩ := chk_some h
            refine q1rr [] [(2, ⟨[.agg [.str (f6z2 x8 n10).1, .str (f6z2 x8 n10).2.1, .i (f6z2 x8 n10).2.2]], [], [], [], .str r11, [], [], [3]⟩)] ⟨43, [(7, .ptr 7 0), (9, .str (s9 ++ r11)), (27, q1aSSI x8), (28, .i (lZ x8)), (29, .i (n10 : Int)), (1000003, .tab .u64 Lib.pow10Tab)], (f6z0 l6 i5 l7), [7, 6001, 6002], 0⟩ (an2 (cpT (f16_ok _ _ _ _ hr11)) ob3) ?_
            refine blockQ_normal ?_
            refine thenQ_normal ?_
            obtain ⟨ob4p, h⟩ := chk_some h
            have ob4 : -9223372036854775808 ≤ ((n10 : Int) + (1 : Int)) ∧ ((n10 : Int) + (1 : Int)) ≤ 9223372036854775807 := ⟨by omega, ob4p⟩
            refine q1rr [] [] ⟨43, [(7, .ptr 7 0), (9, .str (s9 ++ r11)), (27, q1aSSI x8), (28, .i (lZ x8)), (29, .i (((n10 + 1) : Nat) : Int)), (1000003, .tab .u64 Lib.pow10Tab)], (f6z0 l6 i5 l7), [7, 6001, 6002], 0⟩ (an1 ob4) ?_
            rw [hC0] at h
            exact loopQ_normal (_, (s9 ++ r11), (n10 + 1)) (Le.mk rfl rfl ⟨.refl _, .refl _, .refl _, .refl _, .refl _, .refl _, trivial⟩ ⟨⟨_, rfl, .refl _⟩, ⟨_, rfl, .refl _⟩, ⟨_, rfl, .refl _⟩, ⟨_, rfl, .refl _⟩, trivial⟩) h (Nat.lt_succ_self _)
          ·
            replace h := ite_fb hc3 h
            refine AWp.exit ?_
            refine thenQ_exit ?_
            refine thenQ_exit ?_
            refine blockQ_same ?_
            exact joinQ_normal (s9) (Le.mk rfl rfl ⟨.refl _, .refl _, .refl _, trivial⟩ ⟨⟨_, rfl, .refl _⟩, ⟨_, rfl, .refl _⟩, ⟨_, rfl, .refl _⟩, ⟨_, rfl, .refl _⟩, trivial⟩) h
        ·
          rintro s12 h
          replace h := (congrFun hK1 _).symm.trans h
          obtain ⟨ob5, h⟩ := chk_some h
          refine q1rr [] [] ⟨43, [(1000003, .tab .u64 Lib.pow10Tab)], [(7, .cells 25 [.own 6200]), (6001, .cells 22 (f6z4 l6)), (6002, .cells 3 [.i i5]), (6200, .rows 9 1 ((l7).length + 1) (appF (l7).length (encF eS [] l7) (lstF 1 [.str s12])))], [7, 6001, 6002], 0⟩ (an2 ob5 trivial) ?_
          refine blockQ_normal ?_
          have hret := Option.some.inj h
          subst hret
          exact ⟨_, (Le.trans (Le.mk (s' := ⟨43, [(1000003, .tab .u64 Lib.pow10Tab)], [(7, .cells 25 [.own 6200]), (6001, .cells 22 (f6z4 l6)), (6002, .cells 3 [.i i5]), (6200, q1bS_9 (l7 ++ [s12]))], [7, 6001, 6002], 0⟩) rfl rfl ⟨.refl _, trivial⟩ ⟨⟨_, rfl, .refl _⟩, ⟨_, rfl, .refl _⟩, ⟨_, rfl, .refl _⟩, ⟨_, rfl, (BLe.of (RL.app (RL.self _) (RL.lst (enc := eS) [s12] rfl rfl (fun _ => rfl))))⟩, trivial⟩) (Le.mk (s' := ⟨43, [], [(7, .cells 25 [.own 6200]), (6001, .cells 22 (f6z4 l6)), (6002, .cells 3 [.i i5]), (6200, q1bS_9 (l7 ++ [s12]))], [7, 6001, 6002], 0⟩) rfl rfl trivial ⟨⟨_, rfl, .refl _⟩, ⟨_, rfl, .refl _⟩, ⟨_, rfl, .refl _⟩, ⟨_, rfl, .refl _⟩, trivial⟩)), rfl, rfl, .inl ⟨rfl, rfl⟩⟩
      ·
        intro hk0
        replace h := ite_t hk0 h
        refine blockQ_normal ?_
        refine thenQ_normal ?_
        refine q1rq [] [] ⟨43, [(4, .own 6200), (5, .i (0 : Int)), (1000003, .tab .u64 Lib.pow10Tab)], [(6200, q1bS_9 r13.2.2.2)], [], 0⟩ trivial ?_
        refine AWp.le (Le.trans (Le.ren (swapN 6200 3000) (swapN_inv 6200 3000) rfl) (Le.mk (s' := ⟨43, [(4, .own 3000), (5, .i (0 : Int)), (1000003, .tab .u64 Lib.pow10Tab)], [(3000, q1bS_9 r13.2.2.2)], [], 0⟩) rfl rfl ⟨.refl _, .refl _, .refl _, trivial⟩ ⟨⟨_, rfl, .refl _⟩, trivial⟩)) ?_
        have hret := Option.some.inj h
        subst hret
        refine AWp.le (Le.mk (s' := ⟨43, [(4, .own 3000), (5, .i (0 : Int))], [(3000, q1bS_9 r13.2.2.2)], [], 0⟩) rfl rfl ⟨.refl _, .refl _, trivial⟩ ⟨⟨_, rfl, .refl _⟩, trivial⟩) ?_
        refine AWp.ret ?_
        exact bodyQ_ret _ rfl ⟨rfl, rfl⟩ rfl
      ·
        intro j hkj
        replace h := ite_f (by omega) h
        exact nomatch (show (none : Option (Int × List (List UInt8))) = some r from h)
def f9_L0 (x1 : List (List UInt8)) (x2 : List (List UInt8)) (K1 : Unit → Option Bool) : Nat → Nat → Option Bool
  | 0, _ => none
  | k + 1, n3 =>
    if (decide ((n3 : Int) < (((x1).length : Nat) : Int))) then (
    chk ((n3 : Int) < (((x1).length : Nat) : Int)) <|
    chk ((n3 : Int) < (((x2).length : Nat) : Int)) <|
    if (!((x1.getD n3 []) == (x2.getD n3 []))) then (
    some false
    ) else (
    chk (((n3 : Int) + (1 : Int)) ≤ 9223372036854775807) <|
    (f9_L0 x1 x2 K1 k) (n3 + 1)
    )
    ) else (
    K1 ()
    )
def f9 (x1 : List (List UInt8)) (x2 : List (List UInt8)) : Option Bool :=
  if ((((x1).length : Nat) : Int) != (((x2).length : Nat) : Int)) then (
  some false
  ) else (
  jn (fun (_ : Unit) =>
  some true
  ) fun (K1 : Unit → Option Bool) =>
  f9_L0 x1 x2 K1 FUEL 0
  )
set_option maxRecDepth 100000 in
theorem f9_ok  (x1 : List (List UInt8)) (x2 : List (List UInt8)) (r : Bool) (h : f9 x1 x2 = some r)  : Spec1 Tryz.prog 9 [] [] [] [vL 1 eS [] x1, vL 1 eS [] x2] (.bool r) [] := by
  unfold f9 at h
  refine Spec1.body 0 _ _ Tryz.func9 rfl Tryz.ntmps9 rfl rfl ?_
  refine q1rq [] [] ⟨26, [(0, q1aS x1), (1, q1aS x2)], [], [], 0⟩ trivial ?_
  refine AWp.seq ?_
  refine q1rq [] [] ⟨26, [(0, q1aS x1), (1, q1aS x2), (10, .bool ((lZ x1) != (lZ x2)))], [], [], 0⟩ trivial ?_
  refine AWp.cond (b := ((lZ x1) != (lZ x2))) (by kernel_rfl) (fun hc1 => ?_) (fun hc1 => ?_)
  ·
    replace h := ite_tb hc1 h
    refine q1rq [] [] ⟨26, [(4, .bool false)], [], [], 0⟩ trivial ?_
    have hret := Option.some.inj h
    subst hret
    refine AWp.ret ?_
    refine thenQ_ret ?_
    exact bodyQ_ret _ rfl ⟨rfl, rfl⟩ rfl
  ·
    replace h := ite_fb hc1 h
    refine AWp.skip ?_
    refine thenQ_normal ?_
    obtain ⟨K1, hK1, h⟩ := jn_some h
    refine AWp.join (α := Unit) (fun (x : Unit) => match x with | () => ⟨26, [], [], [], 0⟩) (fun x => K1 x = some r) ?_ ?_
    ·
      refine q1rq [] [] ⟨26, [(0, q1aS x1), (1, q1aS x2), (12, .i (lZ x1)), (13, .i (0 : Int))], [], [], 0⟩ trivial ?_
      refine AWp.block ?_
      refine AWp.loopL (α := Nat × Nat) (fun x => match x with | (_, n3) => ⟨26, [(0, q1aS x1), (1, q1aS x2), (12, .i (lZ x1)), (13, .i (n3 : Int))], [], [], 0⟩) (fun x => f9_L0 x1 x2 K1 x.1 x.2 = some r) (fun x => x.1) (FUEL, 0) (Le.mk (s' := ⟨26, [(0, q1aS x1), (1, q1aS x2), (12, .i (lZ x1)), (13, .i (0 : Int))], [], [], 0⟩) rfl rfl ⟨.refl _, .refl _, .refl _, .refl _, trivial⟩ trivial) h ?_
      rintro ⟨k0, n3⟩ h
      cases k0 with
      | zero => exact nomatch (show (none : Option Bool) = some r from h)
      | succ k0 =>
      obtain ⟨C0, hC0⟩ : ∃ C, C = f9_L0 x1 x2 K1 k0 := ⟨_, rfl⟩
      replace h := (f9_L0.eq_2 ..).symm.trans h
      try rw [← hC0] at h
      refine q1rq [] [] ⟨26, [(0, q1aS x1), (1, q1aS x2), (12, .i (lZ x1)), (13, .i (n3 : Int)), (14, .bool (decide ((n3 : Int) < (lZ x1))))], [], [], 0⟩ trivial ?_
      refine AWp.seq ?_
      refine AWp.cond (b := (decide ((n3 : Int) < (lZ x1)))) (by kernel_rfl) (fun hc2 => ?_) (fun hc2 => ?_)
      ·
        replace h := ite_tb hc2 h
        refine AWp.skip ?_
        refine thenQ_normal ?_
        refine AWp.seq ?_
        refine AWp.block ?_
        refine q1rq [] [] ⟨26, [(0, q1aS x1), (1, q1aS x2), (5, .i (n3 : Int)), (12, .i (lZ x1)), (13, .i (n3 : Int))], [], [], 0⟩ trivial ?_
        refine AWp.seq ?_
        obtain ⟨ob0p, h⟩ := chk_some h
        have ob0 : 0 ≤ (n3 : Int) ∧ (n3 : Int) < (((x1).length : Nat) : Int) := ⟨by omega, ob0p⟩
        obtain ⟨ob1p, h⟩ := chk_some h
        have ob1 : 0 ≤ (n3 : Int) ∧ (n3 : Int) < (((x2).length : Nat) : Int) := ⟨by omega, ob1p⟩
        refine q1rr [] [] ⟨26, [(0, q1aS x1), (1, q1aS x2), (12, .i (lZ x1)), (13, .i (n3 : Int)), (24, .bool (!((x1.getD n3 []) == (x2.getD n3 []))))], [], [], 0⟩ (an2 ob0 ob1) ?_
        refine thenQ_normal ?_
        refine AWp.cond (b := (!((x1.getD n3 []) == (x2.getD n3 [])))) (by kernel_rfl) (fun hc3 => ?_) (fun hc3 => ?_)
        ·
          replace h := ite_tb hc3 h
          refine q1rq [] [] ⟨26, [(4, .bool false)], [], [], 0⟩ trivial ?_
          have hret := Option.some.inj h
          subst hret
          refine AWp.ret ?_
          refine blockQ_ret ?_
          refine thenQ_ret ?_
          refine thenQ_ret ?_
          refine blockQ_ret ?_
          refine joinQ_ret ?_
          exact bodyQ_ret _ rfl ⟨rfl, rfl⟩ rfl
        ·
          replace h := ite_fb hc3 h
          refine AWp.skip ?_
          refine blockQ_normal ?_
          refine thenQ_normal ?_
          obtain ⟨ob2p, h⟩ := chk_some h
          have ob2 : -9223372036854775808 ≤ ((n3 : Int) + (1 : Int)) ∧ ((n3 : Int) + (1 : Int)) ≤ 9223372036854775807 := ⟨by omega, ob2p⟩
          refine q1rr [] [] ⟨26, [(0, q1aS x1), (1, q1aS x2), (12, .i (lZ x1)), (13, .i (((n3 + 1) : Nat) : Int))], [], [], 0⟩ (an1 ob2) ?_
          rw [hC0] at h
          exact loopQ_normal (_, (n3 + 1)) (Le.mk rfl rfl ⟨.refl _, .refl _, .refl _, .refl _, trivial⟩ trivial) h (Nat.lt_succ_self _)
      ·
        replace h := ite_fb hc2 h
        refine AWp.exit ?_
        refine thenQ_exit ?_
        refine thenQ_exit ?_
        refine blockQ_same ?_
        exact joinQ_normal () (Le.mk rfl rfl trivial trivial) h
    ·
      rintro ⟨⟩ h
      replace h := (congrFun hK1 _).symm.trans h
      refine q1rq [] [] ⟨26, [(4, .bool true)], [], [], 0⟩ trivial ?_
      have hret := Option.some.inj h
      subst hret
      refine AWp.ret ?_
      exact bodyQ_ret _ rfl ⟨rfl, rfl⟩ rfl
def f4_L0 (K1 : (List (List UInt8 × List UInt8 × Int)) → Option Bool) : Nat → ((List (List UInt8 × List UInt8 × Int)) × Nat) → Option Bool
  | 0, _ => none
  | k + 1, (l1, n2) =>
    if (decide ((n2 : Int) < (5 : Int))) then (
    chk ((n2 : Int) < ((([(cs0, ([111, 107, 32, 49] : List UInt8)), (cs1, ([111, 107, 32, 50] : List UInt8)), (cs2, cs3), (cs4, cs5), (cs6, cs7)]).length : Nat) : Int)) <|
    chk (n2 < ([(cs0, ([111, 107, 32, 49] : List UInt8)), (cs1, ([111, 107, 32, 50] : List UInt8)), (cs2, cs3), (cs4, cs5), (cs6, cs7)]).length) <|
    (f12 ((([(cs0, ([111, 107, 32, 49] : List UInt8)), (cs1, ([111, 107, 32, 50] : List UInt8)), (cs2, cs3), (cs4, cs5), (cs6, cs7)]).getD n2 (default : List UInt8 × List UInt8)).1)).bind fun (r3 : Int × List UInt8 × List UInt8 × List UInt8 × Int) =>
    (f13 l1 r3.1 r3.2.1 r3.2.2.1 r3.2.2.2.1).bind fun (r4 : (List (List UInt8 × List UInt8 × Int)) × List UInt8) =>
    chk (((r3.2.2.2.2 != (0 : Int)) == false) = true → 0 ≤ (1 : Int) ∧ (1 : Int) < 2) <|
    if ((r3.2.2.2.2 != (0 : Int)) || (!(r4.2 == ((([(cs0, ([111, 107, 32, 49] : List UInt8)), (cs1, ([111, 107, 32, 50] : List UInt8)), (cs2, cs3), (cs4, cs5), (cs6, cs7)]).getD n2 (default : List UInt8 × List UInt8)).2)))) then (
    some false
    ) else (
    chk (((n2 : Int) + (1 : Int)) ≤ 9223372036854775807) <|
    (f4_L0 K1 k) (r4.1, (n2 + 1))
    )
    ) else (
    K1 l1
    )
abbrev f4z0 : Heap := [(15, bL 37 2 eSS (default : List UInt8 × List UInt8) [(cs0, ([111, 107, 32, 49] : List UInt8)), (cs1, ([111, 107, 32, 50] : List UInt8)), (cs2, cs3), (cs4, cs5), (cs6, cs7)])]
abbrev f4z1 (n2 : Nat) : List V := [.str (([(cs0, ([111, 107, 32, 49] : List UInt8)), (cs1, ([111, 107, 32, 50] : List UInt8)), (cs2, cs3), (cs4, cs5), (cs6, cs7)]).getD n2 (default : List UInt8 × List UInt8)).1, .str (([(cs0, ([111, 107, 32, 49] : List UInt8)), (cs1, ([111, 107, 32, 50] : List UInt8)), (cs2, cs3), (cs4, cs5), (cs6, cs7)]).getD n2 (default : List UInt8 × List UInt8)).2]
abbrev f4z2 := ([111, 107, 32, 49] : List UInt8)
abbrev f4z3 := ([111, 107, 32, 50] : List UInt8)
abbrev f4z4 (r3 : Int × List UInt8 × List UInt8 × List UInt8 × Int) := ((r3.2.2.2.2 != (0 : Int)) == false)
def f4  : Option Bool :=
  jn (fun (l5 : List (List UInt8 × List UInt8 × Int)) =>
  (f6 l5 (5 : Int)).bind fun (r6 : Int × List (List UInt8)) =>
  if (r6.1 == (0 : Int)) = true then (
  (f9 r6.2 [cs13]).bind fun (r7 : Bool) =>
  some r7
  ) else (
  some false
  )
  ) fun (K1 : (List (List UInt8 × List UInt8 × Int)) → Option Bool) =>
  f4_L0 K1 FUEL ([], 0)
set_option maxRecDepth 100000 in
theorem f4_ok   (r : Bool) (h : f4 = some r)  : Spec1 Tryz.prog 4 [(3, .tab .u64 Lib.pow10Tab)] [] [] [] (.bool r) [] := by
  unfold f4 at h
  refine Spec1.body 0 _ _ Tryz.func4 rfl Tryz.ntmps4 rfl rfl ?_
  refine q1rq [] [] ⟨55, [(1000003, .tab .u64 Lib.pow10Tab)], [], [], 0⟩ trivial ?_
  refine q1rq [] [] ⟨55, [(1, .nils), (1000003, .tab .u64 Lib.pow10Tab)], [], [], 0⟩ trivial ?_
  obtain ⟨K1, hK1, h⟩ := jn_some h
  refine AWp.join (α := List (List UInt8 × List UInt8 × Int)) (fun (l5 : List (List UInt8 × List UInt8 × Int)) => ⟨55, [(1, q1aSSI l5), (1000003, .tab .u64 Lib.pow10Tab)], [], [], 0⟩) (fun x => K1 x = some r) ?_ ?_
  ·
    refine q1rq [] [] ⟨55, [(1, .nils), (15, .own 15), (16, .i (5 : Int)), (17, .i (0 : Int)), (1000003, .tab .u64 Lib.pow10Tab)], [(15, .rows 37 2 5 (lstF 2 [.str cs0, .str (f4z2), .str cs1, .str (f4z3), .str cs2, .str cs3, .str cs4, .str cs5, .str cs6, .str cs7]))], [], 0⟩ trivial ?_
    refine AWp.le (Le.mk (s' := ⟨55, [(1, .nils), (15, .own 15), (16, .i (5 : Int)), (17, .i (0 : Int)), (1000003, .tab .u64 Lib.pow10Tab)], (f4z0), [], 0⟩) rfl rfl ⟨.refl _, .refl _, .refl _, .refl _, .refl _, trivial⟩ ⟨⟨_, rfl, (BLe.of (RL.lst (enc := eSS) [(cs0, (f4z2)), (cs1, (f4z3)), (cs2, cs3), (cs4, cs5), (cs6, cs7)] rfl rfl (fun _ => rfl)))⟩, trivial⟩) ?_
    refine AWp.block ?_
    refine AWp.loopL (α := Nat × ((List (List UInt8 × List UInt8 × Int)) × Nat)) (fun x => match x with | (_, l1, n2) => ⟨55, [(1, q1aSSI l1), (15, .own 15), (16, .i (5 : Int)), (17, .i (n2 : Int)), (1000003, .tab .u64 Lib.pow10Tab)], (f4z0), [], 0⟩) (fun x => f4_L0 K1 x.1 x.2 = some r) (fun x => x.1) (FUEL, [], 0) (Le.mk (s' := ⟨55, [(1, q1aSSI []), (15, .own 15), (16, .i (5 : Int)), (17, .i (0 : Int)), (1000003, .tab .u64 Lib.pow10Tab)], (f4z0), [], 0⟩) rfl rfl ⟨.nilL, .refl _, .refl _, .refl _, .refl _, trivial⟩ ⟨⟨_, rfl, .refl _⟩, trivial⟩) h ?_
    rintro ⟨k0, l1, n2⟩ h
    cases k0 with
    | zero => exact nomatch (show (none : Option Bool) = some r from h)
    | succ k0 =>
    obtain ⟨C0, hC0⟩ : ∃ C, C = f4_L0 K1 k0 := ⟨_, rfl⟩
    replace h := (f4_L0.eq_2 ..).symm.trans h
    try rw [← hC0] at h
    refine q1rq [] [] ⟨55, [(1, q1aSSI l1), (15, .own 15), (16, .i (5 : Int)), (17, .i (n2 : Int)), (18, .bool (decide ((n2 : Int) < (5 : Int)))), (1000003, .tab .u64 Lib.pow10Tab)], (f4z0), [], 0⟩ trivial ?_
    refine AWp.seq ?_
    refine AWp.cond (b := (decide ((n2 : Int) < (5 : Int)))) (by kernel_rfl) (fun hc1 => ?_) (fun hc1 => ?_)
    ·
      replace h := ite_tb hc1 h
      refine AWp.skip ?_
      refine thenQ_normal ?_
      refine AWp.seq ?_
      refine AWp.block ?_
      refine AWp.seq ?_
      obtain ⟨ob0p, h⟩ := chk_some h
      have ob0 : 0 ≤ (n2 : Int) ∧ (n2 : Int) < ((([(cs0, ([111, 107, 32, 49] : List UInt8)), (cs1, ([111, 107, 32, 50] : List UInt8)), (cs2, cs3), (cs4, cs5), (cs6, cs7)]).length : Nat) : Int) := ⟨by omega, ob0p⟩
      obtain ⟨ob1, h⟩ := chk_some h
      refine q1rr [] [] ⟨55, [(1, q1aSSI l1), (3, .ptr 3 0), (15, .own 15), (16, .i (5 : Int)), (17, .i (n2 : Int)), (1000003, .tab .u64 Lib.pow10Tab)], [(3, .cells 37 (f4z1 n2)), (15, q1bSS_37 [(cs0, (f4z2)), (cs1, (f4z3)), (cs2, cs3), (cs4, cs5), (cs6, cs7)])], [], 0⟩ (an3 ob0 ob1 trivial) ?_
      refine thenQ_normal ?_
      refine AWp.seq ?_
      obtain ⟨r3, hr3, h⟩ := bind_ok h
      have ob2 : 0 ≤ (0 : Int) ∧ (0 : Int) < 2 := by first | decide | omega | simp | (intro h; cases h)
      refine q1rr [] [(2, ⟨[.str (([(cs0, (f4z2)), (cs1, (f4z3)), (cs2, cs3), (cs4, cs5), (cs6, cs7)]).getD n2 q1dSS).1], [], [], [], .tup [.agg [.i r3.1, .str r3.2.1, .str r3.2.2.1, .str r3.2.2.2.1], .i r3.2.2.2.2], [], [], []⟩)] ⟨55, [(1, q1aSSI l1), (3, .ptr 3 0), (4, .ptr 4 0), (5, .i r3.2.2.2.2), (15, .own 15), (16, .i (5 : Int)), (17, .i (n2 : Int)), (1000003, .tab .u64 Lib.pow10Tab)], [(3, .cells 37 (f4z1 n2)), (4, .cells 40 [.i r3.1, .str r3.2.1, .str r3.2.2.1, .str r3.2.2.2.1]), (15, q1bSS_37 [(cs0, (f4z2)), (cs1, (f4z3)), (cs2, cs3), (cs4, cs5), (cs6, cs7)])], [], 0⟩ (an3 ob2 (cpT (f12_ok _ _ hr3)) trivial) ?_
      refine thenQ_normal ?_
      refine AWp.seq ?_
      obtain ⟨r4, hr4, h⟩ := bind_ok h
      refine q1rr [] [(2, ⟨[q1aSSI l1, .agg [.i r3.1, .str r3.2.1, .str r3.2.2.1, .str r3.2.2.2.1]], [], [], [], .tup [q1aSSI r4.1, .str r4.2], [], [], [3]⟩)] ⟨55, [(3, .ptr 3 0), (5, .i r3.2.2.2.2), (6, q1aSSI r4.1), (7, .str r4.2), (15, .own 15), (16, .i (5 : Int)), (17, .i (n2 : Int)), (1000003, .tab .u64 Lib.pow10Tab)], [(3, .cells 37 (f4z1 n2)), (15, q1bSS_37 [(cs0, (f4z2)), (cs1, (f4z3)), (cs2, cs3), (cs4, cs5), (cs6, cs7)])], [], 0⟩ (an1 (cpT (f13_ok _ _ _ _ _ _ hr4))) ?_
      refine thenQ_normal ?_
      refine AWp.seq ?_
      refine AWp.seq ?_
      obtain ⟨ob3, h⟩ := chk_some h
      have ob4 := idA ((f4z4 r3) = true)
      have ob7 : true = true → (r3.2.2.2.2 != (0 : Int)) = false → (f4z4 r3) = true := fun _ h => beq_iff_eq.2 h
      refine q1rr [] [] ⟨55, [(6, q1aSSI r4.1), (15, .own 15), (16, .i (5 : Int)), (17, .i (n2 : Int)), (40, .bool ((r3.2.2.2.2 != (0 : Int)) || (!(r4.2 == ((([(cs0, (f4z2)), (cs1, (f4z3)), (cs2, cs3), (cs4, cs5), (cs6, cs7)]).getD n2 q1dSS).2))))), (1000003, .tab .u64 Lib.pow10Tab)], (f4z0), [], 0⟩ (an4 ob3 (an1 ob4) (an2 ob4 ob4) ob7) ?_
      refine thenQ_normal ?_
      refine AWp.cond (b := ((r3.2.2.2.2 != (0 : Int)) || (!(r4.2 == ((([(cs0, (f4z2)), (cs1, (f4z3)), (cs2, cs3), (cs4, cs5), (cs6, cs7)]).getD n2 q1dSS).2))))) (by kernel_rfl) (fun hc2 => ?_) (fun hc2 => ?_)
      ·
        replace h := ite_tb hc2 h
        refine q1rq [] [] ⟨55, [(0, .bool false), (1000003, .tab .u64 Lib.pow10Tab)], [], [], 0⟩ trivial ?_
        have hret := Option.some.inj h
        subst hret
        refine AWp.le (Le.mk (s' := ⟨55, [(0, .bool false)], [], [], 0⟩) rfl rfl ⟨.refl _, trivial⟩ trivial) ?_
        refine AWp.ret ?_
        refine thenQ_ret ?_
        refine blockQ_ret ?_
        refine thenQ_ret ?_
        refine thenQ_ret ?_
        refine blockQ_ret ?_
        refine joinQ_ret ?_
        exact bodyQ_ret _ rfl ⟨rfl, rfl⟩ rfl
      ·
        replace h := ite_fb hc2 h
        refine AWp.skip ?_
        refine thenQ_normal ?_
        refine q1rr [] [] ⟨55, [(1, q1aSSI r4.1), (15, .own 15), (16, .i (5 : Int)), (17, .i (n2 : Int)), (1000003, .tab .u64 Lib.pow10Tab)], (f4z0), [], 0⟩ trivial ?_
        refine blockQ_normal ?_
        refine thenQ_normal ?_
        obtain ⟨ob8p, h⟩ := chk_some h
        have ob8 : -9223372036854775808 ≤ ((n2 : Int) + (1 : Int)) ∧ ((n2 : Int) + (1 : Int)) ≤ 9223372036854775807 := ⟨by omega, ob8p⟩
        refine q1rr [] [] ⟨55, [(1, q1aSSI r4.1), (15, .own 15), (16, .i (5 : Int)), (17, .i (((n2 + 1) : Nat) : Int)), (1000003, .tab .u64 Lib.pow10Tab)], (f4z0), [], 0⟩ (an1 ob8) ?_
        rw [hC0] at h
        exact loopQ_normal (_, r4.1, (n2 + 1)) (Le.mk rfl rfl ⟨.refl _, .refl _, .refl _, .refl _, .refl _, trivial⟩ ⟨⟨_, rfl, .refl _⟩, trivial⟩) h (Nat.lt_succ_self _)
    ·
      replace h := ite_fb hc1 h
      refine AWp.exit ?_
      refine thenQ_exit ?_
      refine thenQ_exit ?_
      refine blockQ_same ?_
      exact joinQ_normal (l1) (Le.mk rfl rfl ⟨.refl _, .refl _, trivial⟩ trivial) h
  ·
    rintro l5 h
    replace h := (congrFun hK1 _).symm.trans h
    refine AWp.seq ?_
    obtain ⟨r6, hr6, h⟩ := bind_ok h
    refine q1rr [] [(1, ⟨[q1aSSI l5, .i (5 : Int)], [], [], [(6001, q1bS_9 r6.2)], .tup [.own 6001, .i r6.1], [6001], [], [3]⟩)] ⟨55, [(8, .own 6001), (9, .i r6.1), (1000003, .tab .u64 Lib.pow10Tab)], [(6001, q1bS_9 r6.2)], [], 0⟩ (an1 (cpT (Spec1.ren (swapN 3000 6001) (swapN_inv 3000 6001) rfl (f6_ok _ _ _ hr6)))) ?_
    refine thenQ_normal ?_
    refine AWp.seq ?_
    by_cases hg12_2 : (r6.1 == (0 : Int)) = true
    ·
      replace h := ite_t hg12_2 h
      obtain ⟨r7, hr7, h⟩ := bind_ok h
      have ob9 := idA (true = true)
      have ob10 : true = true → true = true → true = true := fun _ h => h
      refine q1rr [] [(2, ⟨[], [], [], [], (.bool true), [], [0], []⟩), (5, ⟨[q1aS r6.2, q1aS [cs13]], [], [], [], .bool r7, [], [6001, 52], []⟩)] ⟨55, [(0, .bool r7), (1000003, .tab .u64 Lib.pow10Tab)], [], [], 0⟩ (an3 (show ((.bool (r6.1 == (0 : Int))) : V) = (.bool true) from (congrArg (fun x => ((.bool x) : V)) hg12_2)) (And.intro (cpL (c := true) [(6001, q1bS_9 r6.2), (52, .rows 9 1 1 (lstF 1 [.str cs13]))] [6001, 52] [.own 6001, .own 52] (fun _ => (f9_ok _ _ _ hr7)) (fun _ => ⟨.refl _, (VLe.of (RL.lst (enc := eS) [cs13] rfl rfl (fun _ => rfl))), trivial⟩) (.inr ⟨rfl, trivial⟩)) (an1 ob9)) ob10) ?_
      refine thenQ_normal ?_
      have hret := Option.some.inj h
      subst hret
      refine AWp.le (Le.mk (s' := ⟨55, [(0, .bool r7)], [], [], 0⟩) rfl rfl ⟨.refl _, trivial⟩ trivial) ?_
      refine AWp.ret ?_
      exact bodyQ_ret _ rfl ⟨rfl, rfl⟩ rfl
    ·
      replace h := ite_f hg12_2 h
      have ob9 := idA (false = true)
      have ob11 : true = true → false = true → false = true := fun _ h => h
      refine q1rr [] [(2, ⟨[], [], [], [], (.bool false), [], [0], []⟩), (5, ⟨[], [], [], [], .bool false, [], [], []⟩)] ⟨55, [(0, .bool false), (1000003, .tab .u64 Lib.pow10Tab)], [], [], 0⟩ (an3 (show ((.bool (r6.1 == (0 : Int))) : V) = (.bool false) from (congrArg (fun x => ((.bool x) : V)) (Bool.eq_false_iff.2 hg12_2))) (And.intro (show (callP Tryz.prog false 9 [] [] [] [] [] [.own 6001, .bool false] [] (.bool false) []) from ⟨nofun, nofun, .inl rfl⟩) (an2 ob9 ob9)) ob11) ?_
      refine thenQ_normal ?_
      have hret := Option.some.inj h
      subst hret
      refine AWp.le (Le.mk (s' := ⟨55, [(0, .bool false)], [], [], 0⟩) rfl rfl ⟨.refl _, trivial⟩ trivial) ?_
      refine AWp.ret ?_
      exact bodyQ_ret _ rfl ⟨rfl, rfl⟩ rfl
def f19 (x1 : List UInt8) : Option (List UInt8) :=
  some x1
set_option maxRecDepth 100000 in
theorem f19_ok  (x1 : List UInt8) (r : List UInt8) (h : f19 x1 = some r)  : Spec1 Tryz.prog 19 [] [] [] [.str x1] (.fn (.func 35) [.ptr 3500 0]) [(3500, .cells 9 [.str r])] := by
  unfold f19 at h
  refine Spec1.body 0 _ _ Tryz.func19 rfl Tryz.ntmps19 rfl rfl ?_
  refine q1rq [] [] ⟨4, [(1, .ptr 1 0)], [(1, .cells 9 [.str x1])], [], 0⟩ trivial ?_
  refine q1rq [] [] ⟨4, [(2, .fn (.func 35) [.ptr 1 0])], [(1, .cells 9 [.str x1])], [], 0⟩ trivial ?_
  refine AWp.le (Le.trans (Le.ren (swapN 1 3500) (swapN_inv 1 3500) rfl) (Le.mk (s' := ⟨4, [(2, .fn (.func 35) [.ptr 3500 0])], [(3500, .cells 9 [.str x1])], [], 0⟩) rfl rfl ⟨.refl _, trivial⟩ ⟨⟨_, rfl, .refl _⟩, trivial⟩)) ?_
  have hret := Option.some.inj h
  subst hret
  refine AWp.le (Le.mk (s' := ⟨4, [(2, .fn (.func 35) [.ptr 3500 0])], [(3500, .cells 9 [.str x1])], [], 0⟩) rfl rfl ⟨.refl _, trivial⟩ ⟨⟨_, rfl, .refl _⟩, trivial⟩) ?_
  refine AWp.ret ?_
  exact bodyQ_ret _ rfl ⟨rfl, rfl⟩ rfl
def f62 (x1 : List UInt8) (x2 : List UInt8) : Option Bool :=
  chk (((decide (((x1.length : Nat) : Int) ≥ ((x2.length : Nat) : Int))) == true) = true → -9223372036854775808 ≤ (((x1.length : Nat) : Int) - ((x2.length : Nat) : Int)) ∧ (((x1.length : Nat) : Int) - ((x2.length : Nat) : Int)) ≤ 9223372036854775807) <|
  chk (((decide (((x1.length : Nat) : Int) ≥ ((x2.length : Nat) : Int))) == true) = true → 0 ≤ (((x1.length : Nat) : Int) - ((x2.length : Nat) : Int)) ∧ (((x1.length : Nat) : Int) - ((x2.length : Nat) : Int)) ≤ ((x1.length : Nat) : Int)) <|
  some ((decide (((x1.length : Nat) : Int) ≥ ((x2.length : Nat) : Int))) && ((x1.drop (((((x1.length : Nat) : Int) - ((x2.length : Nat) : Int))).toNat)) == x2))
set_option maxRecDepth 100000 in
theorem f62_ok  (x1 : List UInt8) (x2 : List UInt8) (r : Bool) (h : f62 x1 x2 = some r)  : Spec1 Tryz.prog 62 [] [] [] [.str x1, .str x2] (.bool r) [] := by
  unfold f62 at h
  refine Spec1.body 0 _ _ Tryz.func62 rfl Tryz.ntmps62 rfl rfl ?_
  refine q1rq [] [] ⟨21, [(0, .str x1), (1, .str x2)], [], [], 0⟩ trivial ?_
  refine AWp.seq ?_
  have ob0 := idA (((decide ((lZ x1) ≥ (lZ x2))) == true) = true)
  obtain ⟨ob2, h⟩ := chk_some h
  obtain ⟨ob5, h⟩ := chk_some h
  have ob10 := bqA (decide ((lZ x1) ≥ (lZ x2))) true
  refine q1rr [] [] ⟨21, [(4, .bool ((decide ((lZ x1) ≥ (lZ x2))) && ((x1.drop ((((lZ x1) - (lZ x2))).toNat)) == x2)))], [], [], 0⟩ (an6 (an1 ob0) (an1 ob0) (And.intro ob2 (an2 ob0 ob0)) (And.intro ob5 (an2 ob0 ob0)) (an2 ob0 ob0) ob10) ?_
  refine thenQ_normal ?_
  have hret := Option.some.inj h
  subst hret
  refine AWp.ret ?_
  exact bodyQ_ret _ rfl ⟨rfl, rfl⟩ rfl
def f48 (x1 : List UInt8) (x2 : List UInt8) : Option (List UInt8) :=
  (f62 x1 x2).bind fun (r3 : Bool) =>
  if r3 then (
  chk (-9223372036854775808 ≤ (((x1.length : Nat) : Int) - ((x2.length : Nat) : Int)) ∧ (((x1.length : Nat) : Int) - ((x2.length : Nat) : Int)) ≤ 9223372036854775807) <|
  chk (0 ≤ (((x1.length : Nat) : Int) - ((x2.length : Nat) : Int)) ∧ (((x1.length : Nat) : Int) - ((x2.length : Nat) : Int)) ≤ ((x1.length : Nat) : Int)) <|
  some (x1.take (((((x1.length : Nat) : Int) - ((x2.length : Nat) : Int))).toNat))
  ) else (
  some x1
  )
set_option maxRecDepth 100000 in
theorem f48_ok  (x1 : List UInt8) (x2 : List UInt8) (r : List UInt8) (h : f48 x1 x2 = some r)  : Spec1 Tryz.prog 48 [] [] [] [.str x1, .str x2] (.str r) [] := by
  unfold f48 at h
  refine Spec1.body 0 _ _ Tryz.func48 rfl Tryz.ntmps48 rfl rfl ?_
  refine q1rq [] [] ⟨16, [(0, .str x1), (1, .str x2)], [], [], 0⟩ trivial ?_
  refine AWp.seq ?_
  refine AWp.seq ?_
  obtain ⟨r3, hr3, h⟩ := bind_ok h
  refine q1rr [] [(2, ⟨[.str x1, .str x2], [], [], [], .bool r3, [], [], []⟩)] ⟨16, [(0, .str x1), (1, .str x2), (7, .bool r3)], [], [], 0⟩ (an1 (cpT (f62_ok _ _ _ hr3))) ?_
  refine thenQ_normal ?_
  refine AWp.cond (b := r3) (by kernel_rfl) (fun hc1 => ?_) (fun hc1 => ?_)
  ·
    replace h := ite_tb hc1 h
    refine AWp.seq ?_
    obtain ⟨ob0, ob1, h⟩ := ck2 h
    refine q1rr [] [] ⟨16, [(4, .str (x1.take ((((lZ x1) - (lZ x2))).toNat)))], [], [], 0⟩ (an2 ob0 ob1) ?_
    refine thenQ_normal ?_
    have hret := Option.some.inj h
    subst hret
    refine AWp.ret ?_
    refine thenQ_ret ?_
    exact bodyQ_ret _ rfl ⟨rfl, rfl⟩ rfl
  ·
    replace h := ite_fb hc1 h
    refine AWp.skip ?_
    refine thenQ_normal ?_
    refine q1rq [] [] ⟨16, [(4, .str x1)], [], [], 0⟩ trivial ?_
    have hret := Option.some.inj h
    subst hret
    refine AWp.ret ?_
    exact bodyQ_ret _ rfl ⟨rfl, rfl⟩ rfl
def f37 (x1 : List UInt8) (x2 : List UInt8) : Option (List UInt8) :=
  (f48 x1 x2).bind fun (r3 : List UInt8) =>
  some r3
set_option maxRecDepth 100000 in
theorem f37_ok  (x1 : List UInt8) (x2 : List UInt8) (r : List UInt8) (h : f37 x1 x2 = some r)  : Spec1 Tryz.prog 37 [] [] [] [.str x1, .str x2] (.str r) [] := by
  unfold f37 at h
  refine Spec1.body 0 _ _ Tryz.func37 rfl Tryz.ntmps37 rfl rfl ?_
  refine q1rq [] [] ⟨8, [(0, .str x1), (1, .str x2)], [], [], 0⟩ trivial ?_
  refine AWp.seq ?_
  obtain ⟨r3, hr3, h⟩ := bind_ok h
  refine q1rr [] [(2, ⟨[.str x1, .str x2], [], [], [], .str r3, [], [], []⟩)] ⟨8, [(4, .str r3)], [], [], 0⟩ (an1 (cpT (f48_ok _ _ _ hr3))) ?_
  refine thenQ_normal ?_
  have hret := Option.some.inj h
  subst hret
  refine AWp.ret ?_
  exact bodyQ_ret _ rfl ⟨rfl, rfl⟩ rfl
def f38 (x1 : List UInt8) : Option (Int × Bool) := atoiO x1
theorem f38_ok (x1 : List UInt8) (r : Int × Bool) (h : f38 x1 = some r) : Spec1 Tryz.prog 38 [(1, errG), (2, errG)] [] [] [.str x1] (.tup [.int .i64 r.1, .ifc r.2]) [] :=
  atoi_spec Tryz.lays172 rfl rfl rfl x1 r h
abbrev f20z0 : List V := [.str [], .str [], .int .i64 (0 : Int)]
abbrev f20z1 (r3 : List (List UInt8)) (r4 : Int × Bool) : List V := [.str (r3.getD 0 []), .str (r3.getD 2 []), .int .i64 r4.1]
def f20 (x1 : List UInt8) : Option (List UInt8 × List UInt8 × Int × Bool) :=
  (f37 x1 ([10] : List UInt8)).bind fun (r2 : List UInt8) =>
  (f21 r2 ([32] : List UInt8)).bind fun (r3 : List (List UInt8)) =>
  chk ((((((r3).length : Nat) : Int) != (3 : Int)) == false) = true → 0 ≤ (1 : Int) ∧ (1 : Int) < (((r3).length : Nat) : Int)) <|
  chk ((((((r3).length : Nat) : Int) != (3 : Int)) == false) = true → 1 < (r3).length) <|
  if (((((r3).length : Nat) : Int) != (3 : Int)) || (decide ((((r3.getD 1 []).length : Nat) : Int) > (15 : Int)))) then (
  some ([], [], (0 : Int), false)
  ) else (
  (f38 (r3.getD 1 [])).bind fun (r4 : Int × Bool) =>
  chk ((1 : Int) < (((r3).length : Nat) : Int)) <|
  chk (1 < (r3).length) <|
  chk ((0 : Int) < (((r3).length : Nat) : Int)) <|
  chk (0 < (r3).length) <|
  chk ((2 : Int) < (((r3).length : Nat) : Int)) <|
  chk (2 < (r3).length) <|
  optc ((!r4.2) == true) (f16 (r3.getD 0 []) (r3.getD 2 []) r4.1) fun (r5 : List UInt8) =>
  some ((r3.getD 0 []), (r3.getD 2 []), r4.1, ((!r4.2) && (r5 == x1)))
  )
set_option maxRecDepth 100000 in
theorem f20_ok  (x1 : List UInt8) (r : List UInt8 × List UInt8 × Int × Bool) (h : f20 x1 = some r)  : Spec1 Tryz.prog 20 [(1, errG), (2, errG), (3, .tab .u64 Lib.pow10Tab)] [] [] [.str x1] (.tup [.agg [.str r.1, .str r.2.1, .int .i64 r.2.2.1], .bool r.2.2.2]) [] := by
  unfold f20 at h
  refine Spec1.bodyD [2] 0 _ _ Tryz.func20 rfl Tryz.ntmps20 rfl rfl ?_
  refine q1rq [] [] ⟨46, [(0, .str x1), (2, .ptr 2 0), (1000001, errG), (1000002, errG), (1000003, .tab .u64 Lib.pow10Tab)], [(2, .cells 31 (f20z0))], [], 0⟩ trivial ?_
  refine AWp.seq ?_
  obtain ⟨r2, hr2, h⟩ := bind_ok h
  obtain ⟨r3, hr3, h⟩ := bind_ok h
  refine q1rr [] [(1, ⟨[.str x1, .str ([10] : List UInt8)], [], [], [], .str r2, [], [], []⟩), (2, ⟨[.str r2, .str ([32] : List UInt8)], [], [], [(6001, q1bS_9 r3)], .own 6001, [6001], [], []⟩)] ⟨46, [(0, .str x1), (2, .ptr 2 0), (4, .own 6001), (1000001, errG), (1000002, errG), (1000003, .tab .u64 Lib.pow10Tab)], [(2, .cells 31 (f20z0)), (6001, q1bS_9 r3)], [], 0⟩ (an2 (cpT (f37_ok _ _ _ hr2)) (cpT (Spec1.ren (swapN 3000 6001) (swapN_inv 3000 6001) rfl (f21_ok _ _ _ hr3)))) ?_
  refine thenQ_normal ?_
  refine AWp.seq ?_
  refine AWp.seq ?_
  obtain ⟨ob0, h⟩ := chk_some h
  have ob1 := idA ((((lZ r3) != (3 : Int)) == false) = true)
  obtain ⟨ob2, h⟩ := chk_some h
  have ob6 := bqA ((lZ r3) != (3 : Int)) false
  refine q1rr [] [] ⟨46, [(0, .str x1), (2, .ptr 2 0), (4, .own 6001), (20, .bool (((lZ r3) != (3 : Int)) || (decide ((((r3.getD 1 []).length : Nat) : Int) > (15 : Int))))), (1000001, errG), (1000002, errG), (1000003, .tab .u64 Lib.pow10Tab)], [(2, .cells 31 (f20z0)), (6001, q1bS_9 r3)], [], 0⟩ (an5 (And.intro ob0 (an1 ob1)) (And.intro ob2 (an1 ob1)) (an1 ob1) (an1 ob1) ob6) ?_
  refine thenQ_normal ?_
  refine AWp.cond (b := (((lZ r3) != (3 : Int)) || (decide ((((r3.getD 1 []).length : Nat) : Int) > (15 : Int))))) (by kernel_rfl) (fun hc1 => ?_) (fun hc1 => ?_)
  ·
    replace h := ite_tb hc1 h
    refine q1rq [] [] ⟨46, [(2, .ptr 2 0), (3, .bool false), (1000001, errG), (1000002, errG), (1000003, .tab .u64 Lib.pow10Tab)], [(2, .cells 31 (f20z0))], [], 0⟩ (an1 trivial) ?_
    have hret := Option.some.inj h
    subst hret
    refine AWp.le (Le.mk (s' := ⟨46, [(2, .ptr 2 0), (3, .bool false)], [(2, .cells 31 (f20z0))], [], 0⟩) rfl rfl ⟨.refl _, .refl _, trivial⟩ ⟨⟨_, rfl, .refl _⟩, trivial⟩) ?_
    refine AWp.ret ?_
    refine thenQ_ret ?_
    exact bodyQ_ret _ rfl ⟨rfl, rfl⟩ rfl
  ·
    replace h := ite_fb hc1 h
    refine AWp.skip ?_
    refine thenQ_normal ?_
    refine AWp.seq ?_
    obtain ⟨r4, hr4, h⟩ := bind_ok h
    obtain ⟨ob7p, h⟩ := chk_some h
    have ob7 : 0 ≤ (1 : Int) ∧ (1 : Int) < (((r3).length : Nat) : Int) := ⟨by omega, ob7p⟩
    obtain ⟨ob8, h⟩ := chk_some h
    refine q1rr [] [(3, ⟨[.str (r3.getD 1 [])], [], [], [], .tup [.i r4.1, .ifc r4.2], [], [], [1, 2]⟩)] ⟨46, [(0, .str x1), (2, .ptr 2 0), (4, .own 6001), (5, .i r4.1), (6, .ifc r4.2), (1000001, errG), (1000002, errG), (1000003, .tab .u64 Lib.pow10Tab)], [(2, .cells 31 (f20z0)), (6001, q1bS_9 r3)], [], 0⟩ (an3 ob7 ob8 (cpT (f38_ok _ _ hr4))) ?_
    refine thenQ_normal ?_
    refine AWp.seq ?_
    obtain ⟨ob9p, h⟩ := chk_some h
    have ob9 : 0 ≤ (0 : Int) ∧ (0 : Int) < (((r3).length : Nat) : Int) := ⟨by omega, ob9p⟩
    obtain ⟨ob10, ob11p, h⟩ := ck2 h
    have ob11 : 0 ≤ (2 : Int) ∧ (2 : Int) < (((r3).length : Nat) : Int) := ⟨by omega, ob11p⟩
    obtain ⟨ob12, h⟩ := chk_some h
    refine q1rr [] [] ⟨46, [(0, .str x1), (2, .ptr 2 0), (6, .ifc r4.2), (7, .ptr 7 0), (1000001, errG), (1000002, errG), (1000003, .tab .u64 Lib.pow10Tab)], [(2, .cells 31 (f20z0)), (7, .cells 31 (f20z1 r3 r4))], [], 0⟩ (an5 ob9 ob10 ob11 ob12 trivial) ?_
    refine thenQ_normal ?_
    refine AWp.seq ?_
    obtain ⟨r5, hr5, h⟩ := optc_some h
    have ob13 := idA (((!r4.2) == true) = true)
    have ob16 := bqA (!r4.2) true
    refine q1rr [] [(2, ⟨[.ifc r4.2, .lit (.nilIface)], [], [], [], .bool (!r4.2), [], [], []⟩), (5, ⟨[.agg (f20z1 r3 r4)], [], [], [], .str r5, [], [], [3]⟩)] ⟨46, [(2, .ptr 2 0), (3, .bool ((!r4.2) && (r5 == x1))), (1000001, errG), (1000002, errG), (1000003, .tab .u64 Lib.pow10Tab)], [(2, .cells 31 (f20z1 r3 r4))], [], 0⟩ (an5 (And.intro (ifcE_spec (P := Tryz.prog) Tryz.underlying75 (.tmp 38) 75 4 r4.2) (VLes.same [.ifc r4.2, .lit (.nilIface)])) (And.intro (cpC fun hc => (f16_ok _ _ _ _ (hr5 hc))) (an1 ob13)) (an2 ob13 ob13) ob16 trivial) ?_
    refine thenQ_normal ?_
    have hret := Option.some.inj h
    subst hret
    refine AWp.le (Le.mk (s' := ⟨46, [(2, .ptr 2 0), (3, .bool ((!r4.2) && (r5 == x1)))], [(2, .cells 31 (f20z1 r3 r4))], [], 0⟩) rfl rfl ⟨.refl _, .refl _, trivial⟩ ⟨⟨_, rfl, .refl _⟩, trivial⟩) ?_
    refine AWp.ret ?_
    exact bodyQ_ret _ rfl ⟨rfl, rfl⟩ rfl
def f36 (x1 : List UInt8) (x2 : Int) : Option Int := ixbO x1 x2
theorem f36_ok (x1 : List UInt8) (x2 r : Int) (h : f36 x1 x2 = some r) : Spec1 Tryz.prog 36 [] [] [] [.str x1, .int .u8 x2] (.int .i64 r) [] :=
  ixb_spec (fun s c w => Any.strings_IndexByte Tryz.lays137 s c w) x1 x2 r h
def f35_L0 (Y70002 : (Int × (List (List UInt8 × List UInt8 × Int)) × List UInt8) → (List UInt8) → Option (Nat × (Int × (List (List UInt8 × List UInt8 × Int)) × List UInt8))) : Nat → (List UInt8 × Int × (List (List UInt8 × List UInt8 × Int)) × Nat) → Option (Nat × Int × (List (List UInt8 × List UInt8 × Int)) × List UInt8)
  | 0, _ => none
  | k + 1, (s4, i5, l6, n7) =>
    if (decide (((s4.length : Nat) : Int) > (0 : Int))) then (
    jn (fun ((s9, s10) : List UInt8 × List UInt8) =>
    chk (n7 = 0) <|
    (Y70002 (i5, l6, s10) s9).bind fun (r11 : Nat × (Int × (List (List UInt8 × List UInt8 × Int)) × List UInt8)) =>
    if r11.1 = 0 then (
    if (!true) then (
    some (0, r11.2.1, r11.2.2.1, r11.2.2.2)
    ) else (
    (f35_L0 Y70002 k) (r11.2.2.2, r11.2.1, r11.2.2.1, 0)
    )
    ) else (
    if (!false) then (
    some (r11.1, r11.2.1, r11.2.2.1, r11.2.2.2)
    ) else (
    (f35_L0 Y70002 k) (r11.2.2.2, r11.2.1, r11.2.2.1, r11.1)
    )
    )
    ) fun (K1 : (List UInt8 × List UInt8) → Option (Nat × Int × (List (List UInt8 × List UInt8 × Int)) × List UInt8)) =>
    (f36 s4 (10 : Int)).bind fun (r8 : Int) =>
    if (decide (r8 ≥ (0 : Int))) then (
    chk (-9223372036854775808 ≤ (r8 + (1 : Int)) ∧ (r8 + (1 : Int)) ≤ 9223372036854775807) <|
    chk (0 ≤ (r8 + (1 : Int)) ∧ (r8 + (1 : Int)) ≤ ((s4.length : Nat) : Int)) <|
    chk (-9223372036854775808 ≤ (r8 + (1 : Int)) ∧ (r8 + (1 : Int)) ≤ 9223372036854775807) <|
    chk (0 ≤ (r8 + (1 : Int)) ∧ (r8 + (1 : Int)) ≤ ((s4.length : Nat) : Int)) <|
    K1 ((s4.take (((r8 + (1 : Int))).toNat)), (s4.drop (((r8 + (1 : Int))).toNat)))
    ) else (
    K1 (s4, [])
    )
    ) else (
    some (n7, i5, l6, s4)
    )
abbrev f35z0 (i5 : Int) (l6 : List (List UInt8 × List UInt8 × Int)) (s4 : List UInt8) (C70002 : YC) (n7 : Nat) : Heap := [(2, .cells 22 [.nils]), (3, .cells 26 [.int .i64 i5]), (4, .cells 22 [.own 5900]), (5900, bL 31 3 eSSI (default : List UInt8 × List UInt8 × Int) l6), (6001, .cells 9 [.str s4]), (70002, .yld (some ([2, 3, 4], C70002)) n7)]
abbrev f35z1 (r11 : Nat × (Int × (List (List UInt8 × List UInt8 × Int)) × List UInt8)) : Heap := [(2, .cells 22 [.nils]), (3, .cells 26 [.int .i64 r11.2.1]), (4, .cells 22 [.own 5900]), (5900, bL 31 3 eSSI (default : List UInt8 × List UInt8 × Int) r11.2.2.1), (6001, .cells 9 [.str r11.2.2.2])]
abbrev f35z2 (C70002 : YC) (r11 : Nat × (Int × (List (List UInt8 × List UInt8 × Int)) × List UInt8)) : Heap := [(70002, .yld (some ([2, 3, 4], C70002)) r11.1), (2, .cells 22 [.nils]), (3, .cells 26 [.int .i64 r11.2.1]), (4, .cells 22 [.own 5900]), (5900, bL 31 3 eSSI (default : List UInt8 × List UInt8 × Int) r11.2.2.1), (6001, .cells 9 [.str r11.2.2.2])]
abbrev f35z3 (C70002 : YC) (r11 : Nat × (Int × (List (List UInt8 × List UInt8 × Int)) × List UInt8)) : Heap := [(70002, .yld (some ([2, 3, 4], C70002)) 0), (2, .cells 22 [.nils]), (3, .cells 26 [.int .i64 r11.2.1]), (4, .cells 22 [.own 5900]), (5900, bL 31 3 eSSI (default : List UInt8 × List UInt8 × Int) r11.2.2.1), (6001, .cells 9 [.str r11.2.2.2])]
abbrev f35z4 : List (Nat × V) := [(0, .own 70002), (1, .ptr 6001 0)]
def f35 (Y70002 : (Int × (List (List UInt8 × List UInt8 × Int)) × List UInt8) → (List UInt8) → Option (Nat × (Int × (List (List UInt8 × List UInt8 × Int)) × List UInt8))) (x1 : Int) (x2 : List (List UInt8 × List UInt8 × Int)) (x3 : List UInt8) : Option (Nat × Int × (List (List UInt8 × List UInt8 × Int)) × List UInt8) :=
  f35_L0 Y70002 FUEL (x3, x1, x2, 0)
set_option maxRecDepth 100000 in
theorem f35_ok (C70002 : YC) (Y70002 : (Int × (List (List UInt8 × List UInt8 × Int)) × List UInt8) → (List UInt8) → Option (Nat × (Int × (List (List UInt8 × List UInt8 × Int)) × List UInt8))) (x1 : Int) (x2 : List (List UInt8 × List UInt8 × Int)) (x3 : List UInt8) (r : Nat × Int × (List (List UInt8 × List UInt8 × Int)) × List UInt8) (h : f35 Y70002 x1 x2 x3 = some r) (hY70002 : ∀ s x r, Y70002 s x = some r → YSpec Tryz.prog 70002 [2, 3, 4] C70002 [2, 3, 4, 6001] [(2, .cells 22 [.nils]), (3, .cells 26 [.int .i64 s.1]), (4, .cells 22 [.own 5900]), (5900, bL 31 3 eSSI (default : List UInt8 × List UInt8 × Int) s.2.1), (6001, .cells 9 [.str s.2.2])] [.str x] r.1 [(2, .cells 22 [.nils]), (3, .cells 26 [.int .i64 r.2.1]), (4, .cells 22 [.own 5900]), (5900, bL 31 3 eSSI (default : List UInt8 × List UInt8 × Int) r.2.2.1), (6001, .cells 9 [.str r.2.2.2])]) : Spec1 Tryz.prog 35 [] [70002, 2, 3, 4, 6001] [(70002, .yld (some ([2, 3, 4], C70002)) 0), (2, .cells 22 [.nils]), (3, .cells 26 [.int .i64 x1]), (4, .cells 22 [.own 5900]), (5900, bL 31 3 eSSI (default : List UInt8 × List UInt8 × Int) x2), (6001, .cells 9 [.str x3])] [.own 70002, .ptr 6001 0] (.tup []) [(70002, .yld (some ([2, 3, 4], C70002)) r.1), (2, .cells 22 [.nils]), (3, .cells 26 [.int .i64 r.2.1]), (4, .cells 22 [.own 5900]), (5900, bL 31 3 eSSI (default : List UInt8 × List UInt8 × Int) r.2.2.1), (6001, .cells 9 [.str r.2.2.2])] := by
  unfold f35 at h
  refine Spec1.body 10000 _ _ Tryz.func35 rfl Tryz.ntmps35 rfl rfl ?_
  refine AWp.block ?_
  refine AWp.loopL (α := Nat × (List UInt8 × Int × (List (List UInt8 × List UInt8 × Int)) × Nat)) (fun x => match x with | (_, s4, i5, l6, n7) => ⟨25, (f35z4), (f35z0 i5 l6 s4 C70002 n7), [70002, 2, 3, 4, 6001], 10000⟩) (fun x => f35_L0 Y70002 x.1 x.2 = some r) (fun x => x.1) (FUEL, x3, x1, x2, 0) (Le.mk (s' := ⟨25, (f35z4), [(2, .cells 22 [.nils]), (3, .cells 26 [.i x1]), (4, .cells 22 [.own 5900]), (5900, q1bSSI_31 x2), (6001, .cells 9 [.str x3]), (70002, .yld (some ([2, 3, 4], C70002)) 0)], [70002, 2, 3, 4, 6001], 10000⟩) rfl rfl ⟨.refl _, .refl _, trivial⟩ ⟨⟨_, rfl, .refl _⟩, ⟨_, rfl, .refl _⟩, ⟨_, rfl, .refl _⟩, ⟨_, rfl, .refl _⟩, ⟨_, rfl, .refl _⟩, ⟨_, rfl, .refl _⟩, trivial⟩) h ?_
  rintro ⟨k0, s4, i5, l6, n7⟩ h
  cases k0 with
  | zero => exact nomatch (show (none : Option (Nat × Int × (List (List UInt8 × List UInt8 × Int)) × List UInt8)) = some r from h)
  | succ k0 =>
  obtain ⟨C0, hC0⟩ : ∃ C, C = f35_L0 Y70002 k0 := ⟨_, rfl⟩
  replace h := (f35_L0.eq_2 ..).symm.trans h
  try rw [← hC0] at h
  refine AWp.seq ?_
  refine q1rq [] [] ⟨25, [(0, .own 70002), (1, .ptr 6001 0), (7, .bool (decide ((lZ s4) > (0 : Int))))], (f35z0 i5 l6 s4 C70002 n7), [70002, 2, 3, 4, 6001], 10000⟩ trivial ?_
  refine AWp.cond (b := (decide ((lZ s4) > (0 : Int)))) (by kernel_rfl) (fun hc1 => ?_) (fun hc1 => ?_)
  ·
    replace h := ite_tb hc1 h
    refine AWp.skip ?_
    refine thenQ_normal ?_
    refine AWp.block ?_
    refine q1rq [] [] ⟨25, (f35z4), (f35z0 i5 l6 s4 C70002 n7), [70002, 2, 3, 4, 6001], 10000⟩ trivial ?_
    obtain ⟨K1, hK1, h⟩ := jn_some h
    refine AWp.join (α := List UInt8 × List UInt8) (fun (x : List UInt8 × List UInt8) => match x with | (s9, s10) => ⟨25, [(0, .own 70002), (1, .ptr 6001 0), (3, .str s9)], [(2, .cells 22 [.nils]), (3, .cells 26 [.i i5]), (4, .cells 22 [.own 5900]), (5900, q1bSSI_31 l6), (6001, .cells 9 [.str s10]), (70002, .yld (some ([2, 3, 4], C70002)) n7)], [70002, 2, 3, 4, 6001], 10000⟩) (fun x => K1 x = some r) ?_ ?_
    ·
      refine AWp.seq ?_
      obtain ⟨r8, hr8, h⟩ := bind_ok h
      refine q1rr [] [(1, ⟨[.str s4, .int .u8 (10 : Int)], [], [], [], .i r8, [], [], []⟩)] ⟨25, [(0, .own 70002), (1, .ptr 6001 0), (4, .i r8)], (f35z0 i5 l6 s4 C70002 n7), [70002, 2, 3, 4, 6001], 10000⟩ (an1 (cpT (f36_ok _ _ _ hr8))) ?_
      refine thenQ_normal ?_
      refine q1rq [] [] ⟨25, [(0, .own 70002), (1, .ptr 6001 0), (4, .i r8), (11, .bool (decide (r8 ≥ (0 : Int))))], (f35z0 i5 l6 s4 C70002 n7), [70002, 2, 3, 4, 6001], 10000⟩ trivial ?_
      refine AWp.cond (b := (decide (r8 ≥ (0 : Int)))) (by kernel_rfl) (fun hc2 => ?_) (fun hc2 => ?_)
      ·
        replace h := ite_tb hc2 h
        obtain ⟨ob0, ob1, ob2, ob3, h⟩ := ck4 h
        refine q1rr [] [] ⟨25, [(0, .own 70002), (1, .ptr 6001 0), (3, .str (s4.take (((r8 + (1 : Int))).toNat)))], [(2, .cells 22 [.nils]), (3, .cells 26 [.i i5]), (4, .cells 22 [.own 5900]), (5900, q1bSSI_31 l6), (6001, .cells 9 [.str (s4.drop (((r8 + (1 : Int))).toNat))]), (70002, .yld (some ([2, 3, 4], C70002)) n7)], [70002, 2, 3, 4, 6001], 10000⟩ (an5 ob0 ob1 ob2 ob3 trivial) ?_
        exact joinQ_normal ((s4.take (((r8 + (1 : Int))).toNat)), (s4.drop (((r8 + (1 : Int))).toNat))) (Le.mk rfl rfl ⟨.refl _, .refl _, .refl _, trivial⟩ ⟨⟨_, rfl, .refl _⟩, ⟨_, rfl, .refl _⟩, ⟨_, rfl, .refl _⟩, ⟨_, rfl, .refl _⟩, ⟨_, rfl, .refl _⟩, ⟨_, rfl, .refl _⟩, trivial⟩) h
      ·
        replace h := ite_fb hc2 h
        refine q1rr [] [] ⟨25, [(0, .own 70002), (1, .ptr 6001 0), (3, .str s4)], [(2, .cells 22 [.nils]), (3, .cells 26 [.i i5]), (4, .cells 22 [.own 5900]), (5900, q1bSSI_31 l6), (6001, .cells 9 [.str []]), (70002, .yld (some ([2, 3, 4], C70002)) n7)], [70002, 2, 3, 4, 6001], 10000⟩ (an1 trivial) ?_
        exact joinQ_normal (s4, []) (Le.mk rfl rfl ⟨.refl _, .refl _, .refl _, trivial⟩ ⟨⟨_, rfl, .refl _⟩, ⟨_, rfl, .refl _⟩, ⟨_, rfl, .refl _⟩, ⟨_, rfl, .refl _⟩, ⟨_, rfl, .refl _⟩, ⟨_, rfl, .refl _⟩, trivial⟩) h
    ·
      rintro ⟨s9, s10⟩ h
      replace h := (congrFun hK1 _).symm.trans h
      refine AWp.seq ?_
      obtain ⟨hz3, h⟩ := chk_some h
      refine AWp.le (Le.mk (s' := ⟨25, [(0, .own 70002), (1, .ptr 6001 0), (3, .str s9)], [(2, .cells 22 [.nils]), (3, .cells 26 [.i i5]), (4, .cells 22 [.own 5900]), (5900, q1bSSI_31 l6), (6001, .cells 9 [.str s10]), (70002, .yld (some ([2, 3, 4], C70002)) 0)], [70002, 2, 3, 4, 6001], 10000⟩) rfl rfl ⟨.refl _, .refl _, .refl _, trivial⟩ ⟨⟨_, rfl, .refl _⟩, ⟨_, rfl, .refl _⟩, ⟨_, rfl, .refl _⟩, ⟨_, rfl, .refl _⟩, ⟨_, rfl, .refl _⟩, ⟨_, rfl, BLe.yldEq hz3⟩, trivial⟩) ?_
      obtain ⟨r11, hr11, h⟩ := bind_ok h
      by_cases hy_r11 : r11.1 = 0
      ·
        replace h := ite_t hy_r11 h
        refine q1rr [] [(2, ⟨[.str s9], [70002, 2, 3, 4, 5900, 6001], [2, 3, 4, 6001], (f35z3 C70002 r11), .bool true, [5900], [], []⟩)] ⟨25, [(0, .own 70002), (1, .ptr 6001 0), (24, .bool (!true))], [(2, .cells 22 [.nils]), (3, .cells 26 [.i r11.2.1]), (4, .cells 22 [.own 5900]), (5900, q1bSSI_31 r11.2.2.1), (6001, .cells 9 [.str r11.2.2.2]), (70002, .yld (some ([2, 3, 4], C70002)) 0)], [70002, 2, 3, 4, 6001], 10000⟩ (an1 (show (((f35z3 C70002 r11) : Heap) = (70002, .yld (some ([2, 3, 4], C70002)) 0) :: (f35z1 r11) ∧ V.bool true = V.bool (0 == 0) ∧ YSpec Tryz.prog 70002 [2, 3, 4] C70002 [2, 3, 4, 6001] [(2, .cells 22 [.nils]), (3, .cells 26 [.i i5]), (4, .cells 22 [.own 5900]), (5900, q1bSSI_31 l6), (6001, .cells 9 [.str s10])] [.str s9] 0 (f35z1 r11) ∧ VLes [.str s9] [.str s9]) from ⟨rfl, rfl, (YSpec.zero (hY70002 _ _ r11 hr11) hy_r11), ⟨.refl _, trivial⟩⟩)) ?_
        refine thenQ_normal ?_
        refine AWp.cond (b := (!true)) (by kernel_rfl) (fun hc5 => ?_) (fun hc5 => ?_)
        ·
          replace h := ite_tb hc5 h
          have hret := Option.some.inj h
          subst hret
          refine AWp.le (Le.mk (s' := ⟨25, [], (f35z3 C70002 r11), [70002, 2, 3, 4, 6001], 10000⟩) rfl rfl trivial ⟨⟨_, rfl, .refl _⟩, ⟨_, rfl, .refl _⟩, ⟨_, rfl, .refl _⟩, ⟨_, rfl, .refl _⟩, ⟨_, rfl, .refl _⟩, ⟨_, rfl, .refl _⟩, trivial⟩) ?_
          refine AWp.ret ?_
          refine blockQ_ret ?_
          refine thenQ_ret ?_
          refine blockQ_ret ?_
          exact bodyQ_ret _ rfl ⟨rfl, rfl⟩ rfl
        ·
          replace h := ite_fb hc5 h
          refine AWp.skip ?_
          refine blockQ_normal ?_
          rw [hC0] at h
          exact loopQ_normal (_, r11.2.2.2, r11.2.1, r11.2.2.1, 0) (Le.mk rfl rfl ⟨.refl _, .refl _, trivial⟩ ⟨⟨_, rfl, .refl _⟩, ⟨_, rfl, .refl _⟩, ⟨_, rfl, .refl _⟩, ⟨_, rfl, .refl _⟩, ⟨_, rfl, .refl _⟩, ⟨_, rfl, .refl _⟩, trivial⟩) h (Nat.lt_succ_self _)
      ·
        replace h := ite_f hy_r11 h
        refine q1rr [] [(2, ⟨[.str s9], [70002, 2, 3, 4, 5900, 6001], [2, 3, 4, 6001], (f35z2 C70002 r11), .bool false, [5900], [], []⟩)] ⟨25, [(0, .own 70002), (1, .ptr 6001 0), (24, .bool (!false))], [(2, .cells 22 [.nils]), (3, .cells 26 [.i r11.2.1]), (4, .cells 22 [.own 5900]), (5900, q1bSSI_31 r11.2.2.1), (6001, .cells 9 [.str r11.2.2.2]), (70002, .yld (some ([2, 3, 4], C70002)) r11.1)], [70002, 2, 3, 4, 6001], 10000⟩ (an1 (show (((f35z2 C70002 r11) : Heap) = (70002, .yld (some ([2, 3, 4], C70002)) r11.1) :: (f35z1 r11) ∧ V.bool false = V.bool (r11.1 == 0) ∧ YSpec Tryz.prog 70002 [2, 3, 4] C70002 [2, 3, 4, 6001] [(2, .cells 22 [.nils]), (3, .cells 26 [.i i5]), (4, .cells 22 [.own 5900]), (5900, q1bSSI_31 l6), (6001, .cells 9 [.str s10])] [.str s9] r11.1 (f35z1 r11) ∧ VLes [.str s9] [.str s9]) from ⟨rfl, bool_ne hy_r11, (hY70002 _ _ r11 hr11), ⟨.refl _, trivial⟩⟩)) ?_
        refine thenQ_normal ?_
        refine AWp.cond (b := (!false)) (by kernel_rfl) (fun hc6 => ?_) (fun hc6 => ?_)
        ·
          replace h := ite_tb hc6 h
          have hret := Option.some.inj h
          subst hret
          refine AWp.le (Le.mk (s' := ⟨25, [], (f35z2 C70002 r11), [70002, 2, 3, 4, 6001], 10000⟩) rfl rfl trivial ⟨⟨_, rfl, .refl _⟩, ⟨_, rfl, .refl _⟩, ⟨_, rfl, .refl _⟩, ⟨_, rfl, .refl _⟩, ⟨_, rfl, .refl _⟩, ⟨_, rfl, .refl _⟩, trivial⟩) ?_
          refine AWp.ret ?_
          refine blockQ_ret ?_
          refine thenQ_ret ?_
          refine blockQ_ret ?_
          exact bodyQ_ret _ rfl ⟨rfl, rfl⟩ rfl
        ·
          replace h := ite_fb hc6 h
          refine AWp.skip ?_
          refine blockQ_normal ?_
          rw [hC0] at h
          exact loopQ_normal (_, r11.2.2.2, r11.2.1, r11.2.2.1, r11.1) (Le.mk rfl rfl ⟨.refl _, .refl _, trivial⟩ ⟨⟨_, rfl, .refl _⟩, ⟨_, rfl, .refl _⟩, ⟨_, rfl, .refl _⟩, ⟨_, rfl, .refl _⟩, ⟨_, rfl, .refl _⟩, ⟨_, rfl, .refl _⟩, trivial⟩) h (Nat.lt_succ_self _)
  ·
    replace h := ite_fb hc1 h
    refine AWp.exit ?_
    refine thenQ_exit ?_
    refine thenQ_exit ?_
    refine blockQ_same ?_
    have hret := Option.some.inj h
    subst hret
    exact bodyQ_le (Le.mk (s' := ⟨25, [], [(70002, .yld (some ([2, 3, 4], C70002)) n7), (2, .cells 22 [.nils]), (3, .cells 26 [.i i5]), (4, .cells 22 [.own 5900]), (5900, q1bSSI_31 l6), (6001, .cells 9 [.str s4])], [70002, 2, 3, 4, 6001], 10000⟩) rfl rfl trivial ⟨⟨_, rfl, .refl _⟩, ⟨_, rfl, .refl _⟩, ⟨_, rfl, .refl _⟩, ⟨_, rfl, .refl _⟩, ⟨_, rfl, .refl _⟩, ⟨_, rfl, .refl _⟩, trivial⟩) (bodyQ_normal _ rfl ⟨rfl, rfl⟩ rfl)
def f10_Y70002 : (Int × (List (List UInt8 × List UInt8 × Int)) × List UInt8) → (List UInt8) → Option (Nat × (Int × (List (List UInt8 × List UInt8 × Int)) × List UInt8))
  | (i7, l8, s6), x9 =>
    (f20 x9).bind fun (r10 : List UInt8 × List UInt8 × Int × Bool) =>
    if (!r10.2.2.2) then (
    some (2, ((2 : Int), l8, s6))
    ) else (
    chk (((l8).length + 1) * 40 ≤ 140737488355328) <|
    some (0, (i7, (l8 ++ [(r10.1, r10.2.1, r10.2.2.1)]), s6))
    )
def f10_L0 (x1 : List (List UInt8)) (K1 : (Int × (List (List UInt8 × List UInt8 × Int))) → Option ((List (List UInt8 × List UInt8 × Int)) × Int)) : Nat → (Nat × Int × (List (List UInt8 × List UInt8 × Int))) → Option ((List (List UInt8 × List UInt8 × Int)) × Int)
  | 0, _ => none
  | k + 1, (n2, i3, l4) =>
    if (decide ((n2 : Int) < (((x1).length : Nat) : Int))) then (
    chk ((n2 : Int) < (((x1).length : Nat) : Int)) <|
    if ((x1.getD n2 []) == []) then (
    some ([], (2 : Int))
    ) else (
    (f19 (x1.getD n2 [])).bind fun (r5 : List UInt8) =>
    (f35 f10_Y70002 i3 l4 r5).bind fun (r11 : Nat × Int × (List (List UInt8 × List UInt8 × Int)) × List UInt8) =>
    chk (r11.1 ≠ 1) <|
    if r11.1 = 0 then (
    chk (((n2 : Int) + (1 : Int)) ≤ 9223372036854775807) <|
    (f10_L0 x1 K1 k) ((n2 + 1), r11.2.1, r11.2.2.1)
    ) else (
    if r11.1 = 2 then (
    some ([], r11.2.1)
    ) else (
    none
    )
    )
    )
    ) else (
    K1 (i3, l4)
    )
abbrev f10z0 (x1 : List (List UInt8)) : List (Nat × V) := [(2, .ptr 2 0), (3, .ptr 3 0), (4, .ptr 4 0), (11, vL 1 eS [] x1), (12, .int .i64 (((x1).length : Nat) : Int)), (13, .int .i64 (0 : Int)), (1000001, errG), (1000002, errG), (1000003, .tab .u64 Lib.pow10Tab)]
abbrev f10z1 (i3 : Int) (l4 : List (List UInt8 × List UInt8 × Int)) : Heap := [(2, .cells 22 [.nils]), (3, .cells 26 [.int .i64 i3]), (4, .cells 22 [.own 5900]), (5900, bL 31 3 eSSI (default : List UInt8 × List UInt8 × Int) l4)]
abbrev f10z2 : List (Nat × V) := [(2, .ptr 2 0), (3, .ptr 3 0), (1000001, errG), (1000002, errG), (1000003, .tab .u64 Lib.pow10Tab)]
abbrev f10z3 (i3 : Int) (l4 : List (List UInt8 × List UInt8 × Int)) (r5 : List UInt8) : Heap := [(2, .cells 22 [.nils]), (3, .cells 26 [.int .i64 i3]), (4, .cells 22 [.own 5900]), (5900, bL 31 3 eSSI (default : List UInt8 × List UInt8 × Int) l4), (6001, .cells 9 [.str r5])]
abbrev f10z4 (i12 : Int) (l13 : List (List UInt8 × List UInt8 × Int)) : Heap := [(2, .cells 22 [.nils]), (3, .cells 26 [.int .i64 i12]), (4, .cells 22 [.own 5900]), (5900, bL 31 3 eSSI (default : List UInt8 × List UInt8 × Int) l13)]
abbrev f10z5 : Heap := [(2, .cells 22 [.nils]), (3, .cells 26 [.int .i64 (0 : Int)]), (4, .cells 22 [.nils])]
abbrev f10z6 : List (Nat × V) := [(1000001, errG), (1000002, errG), (1000003, .tab .u64 Lib.pow10Tab)]
abbrev f10z7 : List V := [vL 3 eSSI (default : List UInt8 × List UInt8 × Int) []]
abbrev f10z8 : List V := [.int .i64 (0 : Int)]
def f10 (x1 : List (List UInt8)) : Option ((List (List UInt8 × List UInt8 × Int)) × Int) :=
  jn (fun ((i12, l13) : Int × (List (List UInt8 × List UInt8 × Int))) =>
  (f14 l13).bind fun (r14 : Int) =>
  if (r14 != (0 : Int)) then (
  some ([], r14)
  ) else (
  some (l13, (0 : Int))
  )
  ) fun (K1 : (Int × (List (List UInt8 × List UInt8 × Int))) → Option ((List (List UInt8 × List UInt8 × Int)) × Int)) =>
  f10_L0 x1 K1 FUEL (0, (0 : Int), [])
set_option maxRecDepth 100000 in
theorem f10_ok  (x1 : List (List UInt8)) (r : (List (List UInt8 × List UInt8 × Int)) × Int) (h : f10 x1 = some r)  : Spec1 Tryz.prog 10 [(1, errG), (2, errG), (3, .tab .u64 Lib.pow10Tab)] [] [] [vL 1 eS [] x1] (.tup [vL 3 eSSI (default : List UInt8 × List UInt8 × Int) r.1, .int .i64 r.2]) [] := by
  unfold f10 at h
  refine Spec1.bodyD [2, 3] 0 _ _ Tryz.func10 rfl Tryz.ntmps10 rfl rfl ?_
  refine q1rq [] [] ⟨40, [(0, q1aS x1), (2, .ptr 2 0), (3, .ptr 3 0), (1000001, errG), (1000002, errG), (1000003, .tab .u64 Lib.pow10Tab)], [(2, .cells 22 [.nils]), (3, .cells 26 (f10z8))], [], 0⟩ trivial ?_
  refine q1rq [] [] ⟨40, [(0, q1aS x1), (2, .ptr 2 0), (3, .ptr 3 0), (4, .ptr 4 0), (1000001, errG), (1000002, errG), (1000003, .tab .u64 Lib.pow10Tab)], (f10z5), [], 0⟩ trivial ?_
  obtain ⟨K1, hK1, h⟩ := jn_some h
  refine AWp.join (α := Int × (List (List UInt8 × List UInt8 × Int))) (fun (x : Int × (List (List UInt8 × List UInt8 × Int))) => match x with | (i12, l13) => ⟨40, [(2, .ptr 2 0), (3, .ptr 3 0), (4, .ptr 4 0), (1000001, errG), (1000002, errG), (1000003, .tab .u64 Lib.pow10Tab)], (f10z4 i12 l13), [], 0⟩) (fun x => K1 x = some r) ?_ ?_
  ·
    refine q1rq [] [] ⟨40, (f10z0 x1), (f10z5), [], 0⟩ trivial ?_
    refine AWp.block ?_
    refine AWp.loopL (α := Nat × (Nat × Int × (List (List UInt8 × List UInt8 × Int)))) (fun x => match x with | (_, n2, i3, l4) => ⟨40, [(2, .ptr 2 0), (3, .ptr 3 0), (4, .ptr 4 0), (11, q1aS x1), (12, .i (lZ x1)), (13, .i (n2 : Int)), (1000001, errG), (1000002, errG), (1000003, .tab .u64 Lib.pow10Tab)], (f10z1 i3 l4), [], 0⟩) (fun x => f10_L0 x1 K1 x.1 x.2 = some r) (fun x => x.1) (FUEL, 0, (0 : Int), []) (Le.trans (Le.trans (Le.nilOwnC 4 0 5900 31 3 (encF eSSI q1dSSI []) rfl rfl rfl) (Le.mk (s' := ⟨40, (f10z0 x1), [(2, .cells 22 [.nils]), (3, .cells 26 (f10z8)), (4, .cells 22 [.own 5900]), (5900, q1bSSI_31 [])], [], 0⟩) rfl rfl ⟨.refl _, .refl _, .refl _, .refl _, .refl _, .refl _, .refl _, .refl _, .refl _, trivial⟩ ⟨⟨_, rfl, .refl _⟩, ⟨_, rfl, .refl _⟩, ⟨_, rfl, .refl _⟩, ⟨_, rfl, .refl _⟩, trivial⟩)) (Le.mk (s' := ⟨40, (f10z0 x1), [(2, .cells 22 [.nils]), (3, .cells 26 (f10z8)), (4, .cells 22 [.own 5900]), (5900, q1bSSI_31 [])], [], 0⟩) rfl rfl ⟨.refl _, .refl _, .refl _, .refl _, .refl _, .refl _, .refl _, .refl _, .refl _, trivial⟩ ⟨⟨_, rfl, .refl _⟩, ⟨_, rfl, .refl _⟩, ⟨_, rfl, .refl _⟩, ⟨_, rfl, .refl _⟩, trivial⟩)) h ?_
    rintro ⟨k0, n2, i3, l4⟩ h
    cases k0 with
    | zero => exact nomatch (show (none : Option ((List (List UInt8 × List UInt8 × Int)) × Int)) = some r from h)
    | succ k0 =>
    obtain ⟨C0, hC0⟩ : ∃ C, C = f10_L0 x1 K1 k0 := ⟨_, rfl⟩
    replace h := (f10_L0.eq_2 ..).symm.trans h
    try rw [← hC0] at h
    refine q1rq [] [] ⟨40, [(2, .ptr 2 0), (3, .ptr 3 0), (4, .ptr 4 0), (11, q1aS x1), (12, .i (lZ x1)), (13, .i (n2 : Int)), (14, .bool (decide ((n2 : Int) < (lZ x1)))), (1000001, errG), (1000002, errG), (1000003, .tab .u64 Lib.pow10Tab)], (f10z1 i3 l4), [], 0⟩ trivial ?_
    refine AWp.seq ?_
    refine AWp.cond (b := (decide ((n2 : Int) < (lZ x1)))) (by kernel_rfl) (fun hc1 => ?_) (fun hc1 => ?_)
    ·
      replace h := ite_tb hc1 h
      refine AWp.skip ?_
      refine thenQ_normal ?_
      refine AWp.seq ?_
      refine AWp.block ?_
      refine AWp.seq ?_
      obtain ⟨ob0p, h⟩ := chk_some h
      have ob0 : 0 ≤ (n2 : Int) ∧ (n2 : Int) < (((x1).length : Nat) : Int) := ⟨by omega, ob0p⟩
      refine q1rr [] [] ⟨40, [(2, .ptr 2 0), (3, .ptr 3 0), (4, .ptr 4 0), (6, .str (x1.getD n2 [])), (11, q1aS x1), (12, .i (lZ x1)), (13, .i (n2 : Int)), (1000001, errG), (1000002, errG), (1000003, .tab .u64 Lib.pow10Tab)], (f10z1 i3 l4), [], 0⟩ (an1 ob0) ?_
      refine thenQ_normal ?_
      refine AWp.seq ?_
      refine q1rq [] [] ⟨40, [(2, .ptr 2 0), (3, .ptr 3 0), (4, .ptr 4 0), (6, .str (x1.getD n2 [])), (11, q1aS x1), (12, .i (lZ x1)), (13, .i (n2 : Int)), (18, .bool ((x1.getD n2 []) == [])), (1000001, errG), (1000002, errG), (1000003, .tab .u64 Lib.pow10Tab)], (f10z1 i3 l4), [], 0⟩ trivial ?_
      refine AWp.cond (b := ((x1.getD n2 []) == [])) (by kernel_rfl) (fun hc2 => ?_) (fun hc2 => ?_)
      ·
        replace h := ite_tb hc2 h
        refine q1rq [] [] ⟨40, (f10z2), [(2, .cells 22 [.nils]), (3, .cells 26 [.i (2 : Int)])], [], 0⟩ (an2 trivial trivial) ?_
        have hret := Option.some.inj h
        subst hret
        refine AWp.le (Le.mk (s' := ⟨40, [(2, .ptr 2 0), (3, .ptr 3 0)], [(2, .cells 22 (f10z7)), (3, .cells 26 [.i (2 : Int)])], [], 0⟩) rfl rfl ⟨.refl _, .refl _, trivial⟩ ⟨⟨_, rfl, (.cellsL ⟨.nilL, trivial⟩)⟩, ⟨_, rfl, .refl _⟩, trivial⟩) ?_
        refine AWp.ret ?_
        refine thenQ_ret ?_
        refine blockQ_ret ?_
        refine thenQ_ret ?_
        refine thenQ_ret ?_
        refine blockQ_ret ?_
        refine joinQ_ret ?_
        exact bodyQ_ret _ rfl ⟨rfl, rfl⟩ rfl
      ·
        replace h := ite_fb hc2 h
        refine AWp.skip ?_
        refine thenQ_normal ?_
        refine AWp.seq ?_
        obtain ⟨r5, hr5, h⟩ := bind_ok h
        refine q1rr [] [(1, ⟨[.str (x1.getD n2 [])], [], [], [(6001, .cells 9 [.str r5])], .fn (.func 35) [.ptr 6001 0], [6001], [], []⟩)] ⟨40, [(2, .ptr 2 0), (3, .ptr 3 0), (4, .ptr 4 0), (11, q1aS x1), (12, .i (lZ x1)), (13, .i (n2 : Int)), (20, .fn (.func 35) [.ptr 6001 0]), (1000001, errG), (1000002, errG), (1000003, .tab .u64 Lib.pow10Tab)], (f10z3 i3 l4 r5), [], 0⟩ (an1 (cpT (Spec1.ren (swapN 3500 6001) (swapN_inv 3500 6001) rfl (f19_ok _ _ hr5)))) ?_
        refine thenQ_normal ?_
        refine AWp.block ?_
        obtain ⟨r11, hr11, h⟩ := bind_ok h
        obtain ⟨hkr11, h⟩ := chk_some h
        refine AWp.rangeFunc (s := ⟨40, [(2, .ptr 2 0), (3, .ptr 3 0), (4, .ptr 4 0), (11, q1aS x1), (12, .i (lZ x1)), (13, .i (n2 : Int)), (20, .fn (.func 35) [.ptr 6001 0]), (1000001, errG), (1000002, errG), (1000003, .tab .u64 Lib.pow10Tab)], (f10z3 i3 l4 r5), [], 0⟩) 70002 [2, 3, 4] [2, 3, 4, 1000001, 1000002, 1000003] [.ret] 35 [.ptr 6001 0] ⟨[.own 70002, .ptr 6001 0], [2, 3, 4, 5900, 6001], [70002, 2, 3, 4, 6001], [], .tup [], [5900], [], []⟩ r11.1 [(2, .cells 22 [.nils]), (3, .cells 26 [.i r11.2.1]), (4, .cells 22 [.own 5900]), (5900, q1bSSI_31 r11.2.2.1), (6001, .cells 9 [.str r11.2.2.2])] ⟨40, [(2, .ptr 2 0), (3, .ptr 3 0), (4, .ptr 4 0), (11, q1aS x1), (12, .i (lZ x1)), (13, .i (n2 : Int)), (20, .fn (.func 35) [.ptr 6001 0]), (1000001, errG), (1000002, errG), (1000003, .tab .u64 Lib.pow10Tab)], [(2, .cells 22 [.nils]), (3, .cells 26 [.i r11.2.1]), (4, .cells 22 [.own 5900]), (5900, q1bSSI_31 r11.2.2.1), (6001, .cells 9 [.str r11.2.2.2])], [], 0⟩ rfl (by kernel_rfl) (by kernel_rfl) (fun g0 => ?_) (fun C => (by kernel_rfl)) (by kernel_rfl) (by kernel_rfl) (by kernel_rfl) (by kernel_rfl) hkr11 (by kernel_rfl) ?_ ?_
        ·
          refine ⟨fun _ => (f35_ok _ f10_Y70002 i3 l4 r5 r11 hr11 ?_), fun _ => ⟨.refl _, .refl _, trivial⟩, .inl rfl⟩
          clear h
          rintro ⟨i7, l8, s6⟩ x9 rY70002 h
          replace h := (f10_Y70002.eq_1 ..).symm.trans h
          refine YSpec.body 0 rfl (of_decide_eq_true (by kernel_rfl)) (of_decide_eq_true (by kernel_rfl)) (within_tget (by kernel_rfl)) (by kernel_rfl) (by kernel_rfl) (by kernel_rfl) (by kernel_rfl) ?_
          refine AWp.le (Le.mk (s' := ⟨40, [(21, .str x9), (2, .ptr 2 0), (3, .ptr 3 0), (4, .ptr 4 0), (1000001, errG), (1000002, errG), (1000003, .tab .u64 Lib.pow10Tab)], [(2, .cells 22 [.nils]), (3, .cells 26 [.i i7]), (4, .cells 22 [.own 5900]), (5900, q1bSSI_31 l8), (6001, .cells 9 [.str s6])], [2, 3, 4, 6001], 0⟩) rfl rfl ⟨.refl _, .refl _, .refl _, .refl _, .refl _, .refl _, .refl _, trivial⟩ ⟨⟨_, rfl, .refl _⟩, ⟨_, rfl, .refl _⟩, ⟨_, rfl, .refl _⟩, ⟨_, rfl, .refl _⟩, ⟨_, rfl, .refl _⟩, trivial⟩) ?_
          refine q1rr [] [] ⟨40, [(2, .ptr 2 0), (3, .ptr 3 0), (4, .ptr 4 0), (7, .str x9), (1000001, errG), (1000002, errG), (1000003, .tab .u64 Lib.pow10Tab)], [(2, .cells 22 [.nils]), (3, .cells 26 [.i i7]), (4, .cells 22 [.own 5900]), (5900, q1bSSI_31 l8), (6001, .cells 9 [.str s6])], [2, 3, 4, 6001], 0⟩ trivial ?_
          refine ⟨rfl, rfl, ?_⟩
          refine AWp.block ?_
          refine AWp.seq ?_
          obtain ⟨r10, hr10, h⟩ := bind_ok h
          refine q1rr [] [(1, ⟨[.str x9], [], [], [], .tup [.agg [.str r10.1, .str r10.2.1, .i r10.2.2.1], .bool r10.2.2.2], [], [], [1, 2, 3]⟩)] ⟨40, [(2, .ptr 2 0), (3, .ptr 3 0), (4, .ptr 4 0), (8, .ptr 8 0), (9, .bool r10.2.2.2), (1000001, errG), (1000002, errG), (1000003, .tab .u64 Lib.pow10Tab)], [(2, .cells 22 [.nils]), (3, .cells 26 [.i i7]), (4, .cells 22 [.own 5900]), (8, .cells 31 [.str r10.1, .str r10.2.1, .i r10.2.2.1]), (5900, q1bSSI_31 l8), (6001, .cells 9 [.str s6])], [2, 3, 4, 6001], 0⟩ (an2 (cpT (f20_ok _ _ hr10)) trivial) ?_
          refine thenQ_normal ?_
          refine AWp.seq ?_
          refine q1rq [] [] ⟨40, [(2, .ptr 2 0), (3, .ptr 3 0), (4, .ptr 4 0), (8, .ptr 8 0), (28, .bool (!r10.2.2.2)), (1000001, errG), (1000002, errG), (1000003, .tab .u64 Lib.pow10Tab)], [(2, .cells 22 [.nils]), (3, .cells 26 [.i i7]), (4, .cells 22 [.own 5900]), (8, .cells 31 [.str r10.1, .str r10.2.1, .i r10.2.2.1]), (5900, q1bSSI_31 l8), (6001, .cells 9 [.str s6])], [2, 3, 4, 6001], 0⟩ trivial ?_
          refine AWp.cond (b := (!r10.2.2.2)) (by kernel_rfl) (fun hc3 => ?_) (fun hc3 => ?_)
          ·
            replace h := ite_tb hc3 h
            refine q1rq [] [] ⟨40, (f10z6), [(2, .cells 22 [.nils]), (3, .cells 26 [.i (2 : Int)]), (4, .cells 22 [.own 5900]), (5900, q1bSSI_31 l8), (6001, .cells 9 [.str s6])], [2, 3, 4, 6001], 0⟩ (an2 trivial trivial) ?_
            refine AWp.ret ?_
            refine thenQ_ret ?_
            refine blockQ_ret ?_
            have hret := Option.some.inj h
            subst hret
            exact ⟨_, (Le.mk (s' := ⟨40, [], [(2, .cells 22 [.nils]), (3, .cells 26 [.i (2 : Int)]), (4, .cells 22 [.own 5900]), (5900, q1bSSI_31 l8), (6001, .cells 9 [.str s6])], [2, 3, 4, 6001], 0⟩) rfl rfl trivial ⟨⟨_, rfl, .refl _⟩, ⟨_, rfl, .refl _⟩, ⟨_, rfl, .refl _⟩, ⟨_, rfl, .refl _⟩, ⟨_, rfl, .refl _⟩, trivial⟩), rfl, rfl, .inr ⟨0, _, rfl, rfl, .inl ⟨rfl, rfl⟩⟩⟩
          ·
            replace h := ite_fb hc3 h
            refine AWp.skip ?_
            refine thenQ_normal ?_
            obtain ⟨ob1, h⟩ := chk_some h
            refine q1rr [] [] ⟨40, (f10z6), [(2, .cells 22 [.nils]), (3, .cells 26 [.i i7]), (4, .cells 22 [.own 5900]), (5900, .rows 31 3 ((l8).length + 1) (appF (l8).length (encF eSSI q1dSSI l8) (lstF 3 [.str r10.1, .str r10.2.1, .i r10.2.2.1]))), (6001, .cells 9 [.str s6])], [2, 3, 4, 6001], 0⟩ (an2 ob1 trivial) ?_
            refine blockQ_normal ?_
            have hret := Option.some.inj h
            subst hret
            exact ⟨_, (Le.trans (Le.mk (s' := ⟨40, (f10z6), [(2, .cells 22 [.nils]), (3, .cells 26 [.i i7]), (4, .cells 22 [.own 5900]), (5900, q1bSSI_31 (l8 ++ [(r10.1, r10.2.1, r10.2.2.1)])), (6001, .cells 9 [.str s6])], [2, 3, 4, 6001], 0⟩) rfl rfl ⟨.refl _, .refl _, .refl _, trivial⟩ ⟨⟨_, rfl, .refl _⟩, ⟨_, rfl, .refl _⟩, ⟨_, rfl, .refl _⟩, ⟨_, rfl, (BLe.of (RL.app (RL.self _) (RL.lst (enc := eSSI) [(r10.1, r10.2.1, r10.2.2.1)] rfl rfl (fun _ => rfl))))⟩, ⟨_, rfl, .refl _⟩, trivial⟩) (Le.mk (s' := ⟨40, [], [(2, .cells 22 [.nils]), (3, .cells 26 [.i i7]), (4, .cells 22 [.own 5900]), (5900, q1bSSI_31 (l8 ++ [(r10.1, r10.2.1, r10.2.2.1)])), (6001, .cells 9 [.str s6])], [2, 3, 4, 6001], 0⟩) rfl rfl trivial ⟨⟨_, rfl, .refl _⟩, ⟨_, rfl, .refl _⟩, ⟨_, rfl, .refl _⟩, ⟨_, rfl, .refl _⟩, ⟨_, rfl, .refl _⟩, trivial⟩)), rfl, rfl, .inl ⟨rfl, rfl⟩⟩
        ·
          intro hk0
          replace h := ite_t hk0 h
          refine blockQ_normal ?_
          refine blockQ_normal ?_
          refine thenQ_normal ?_
          obtain ⟨ob2p, h⟩ := chk_some h
          have ob2 : -9223372036854775808 ≤ ((n2 : Int) + (1 : Int)) ∧ ((n2 : Int) + (1 : Int)) ≤ 9223372036854775807 := ⟨by omega, ob2p⟩
          refine q1rr [] [] ⟨40, [(2, .ptr 2 0), (3, .ptr 3 0), (4, .ptr 4 0), (11, q1aS x1), (12, .i (lZ x1)), (13, .i (((n2 + 1) : Nat) : Int)), (1000001, errG), (1000002, errG), (1000003, .tab .u64 Lib.pow10Tab)], [(2, .cells 22 [.nils]), (3, .cells 26 [.i r11.2.1]), (4, .cells 22 [.own 5900]), (5900, q1bSSI_31 r11.2.2.1)], [], 0⟩ (an1 ob2) ?_
          rw [hC0] at h
          exact loopQ_normal (_, (n2 + 1), r11.2.1, r11.2.2.1) (Le.mk rfl rfl ⟨.refl _, .refl _, .refl _, .refl _, .refl _, .refl _, .refl _, .refl _, .refl _, trivial⟩ ⟨⟨_, rfl, .refl _⟩, ⟨_, rfl, .refl _⟩, ⟨_, rfl, .refl _⟩, ⟨_, rfl, .refl _⟩, trivial⟩) h (Nat.lt_succ_self _)
        ·
          intro j hkj
          replace h := ite_f (by omega) h
          cases j with
          | zero =>
            replace h := ite_t (by omega) h
            refine ⟨_, rfl, ?_⟩
            have hret := Option.some.inj h
            subst hret
            refine AWp.le (Le.mk (s' := ⟨40, [(2, .ptr 2 0), (3, .ptr 3 0)], [(2, .cells 22 (f10z7)), (3, .cells 26 [.i r11.2.1])], [], 0⟩) rfl rfl ⟨.refl _, .refl _, trivial⟩ ⟨⟨_, rfl, (.cellsL ⟨.nilL, trivial⟩)⟩, ⟨_, rfl, .refl _⟩, trivial⟩) ?_
            refine AWp.ret ?_
            refine blockQ_ret ?_
            refine blockQ_ret ?_
            refine thenQ_ret ?_
            refine thenQ_ret ?_
            refine blockQ_ret ?_
            refine joinQ_ret ?_
            exact bodyQ_ret _ rfl ⟨rfl, rfl⟩ rfl
          | succ j =>
          replace h := ite_f (by omega) h
          exact nomatch (show (none : Option ((List (List UInt8 × List UInt8 × Int)) × Int)) = some r from h)
    ·
      replace h := ite_fb hc1 h
      refine AWp.exit ?_
      refine thenQ_exit ?_
      refine thenQ_exit ?_
      refine blockQ_same ?_
      exact joinQ_normal (i3, l4) (Le.mk rfl rfl ⟨.refl _, .refl _, .refl _, .refl _, .refl _, .refl _, trivial⟩ ⟨⟨_, rfl, .refl _⟩, ⟨_, rfl, .refl _⟩, ⟨_, rfl, .refl _⟩, ⟨_, rfl, .refl _⟩, trivial⟩) h
  ·
    rintro ⟨i12, l13⟩ h
    replace h := (congrFun hK1 _).symm.trans h
    refine AWp.seq ?_
    refine AWp.seq ?_
    obtain ⟨r14, hr14, h⟩ := bind_ok h
    refine q1rr [] [(1, ⟨[q1aSSI l13], [], [], [], .i r14, [], [5900], []⟩)] ⟨40, [(2, .ptr 2 0), (3, .ptr 3 0), (4, .ptr 4 0), (10, .i r14), (1000001, errG), (1000002, errG), (1000003, .tab .u64 Lib.pow10Tab)], (f10z4 i12 l13), [], 0⟩ (an1 (cpL (c := true) [(5900, q1bSSI_31 l13)] [5900] [.own 5900] (fun _ => (f14_ok _ _ hr14)) (fun _ => ⟨.refl _, trivial⟩) (.inr ⟨rfl, trivial⟩))) ?_
    refine thenQ_normal ?_
    refine q1rq [] [] ⟨40, [(2, .ptr 2 0), (3, .ptr 3 0), (4, .ptr 4 0), (10, .i r14), (37, .bool (r14 != (0 : Int))), (1000001, errG), (1000002, errG), (1000003, .tab .u64 Lib.pow10Tab)], (f10z4 i12 l13), [], 0⟩ trivial ?_
    refine AWp.cond (b := (r14 != (0 : Int))) (by kernel_rfl) (fun hc4 => ?_) (fun hc4 => ?_)
    ·
      replace h := ite_tb hc4 h
      refine q1rq [] [] ⟨40, (f10z2), [(2, .cells 22 [.nils]), (3, .cells 26 [.i r14])], [], 0⟩ (an2 trivial trivial) ?_
      have hret := Option.some.inj h
      subst hret
      refine AWp.le (Le.mk (s' := ⟨40, [(2, .ptr 2 0), (3, .ptr 3 0)], [(2, .cells 22 (f10z7)), (3, .cells 26 [.i r14])], [], 0⟩) rfl rfl ⟨.refl _, .refl _, trivial⟩ ⟨⟨_, rfl, (.cellsL ⟨.nilL, trivial⟩)⟩, ⟨_, rfl, .refl _⟩, trivial⟩) ?_
      refine AWp.ret ?_
      refine thenQ_ret ?_
      exact bodyQ_ret _ rfl ⟨rfl, rfl⟩ rfl
    ·
      replace h := ite_fb hc4 h
      refine AWp.skip ?_
      refine thenQ_normal ?_
      refine q1rq [] [] ⟨40, (f10z2), [(2, .cells 22 [.own 5900]), (3, .cells 26 (f10z8)), (5900, q1bSSI_31 l13)], [], 0⟩ (an2 trivial trivial) ?_
      refine AWp.le (Le.trans (Le.freeze 5900 rfl rfl) (Le.mk (s' := ⟨40, (f10z2), [(2, .cells 22 [q1aSSI l13]), (3, .cells 26 (f10z8))], [], 0⟩) rfl rfl ⟨.refl _, .refl _, .refl _, .refl _, .refl _, trivial⟩ ⟨⟨_, rfl, .refl _⟩, ⟨_, rfl, .refl _⟩, trivial⟩)) ?_
      have hret := Option.some.inj h
      subst hret
      refine AWp.le (Le.mk (s' := ⟨40, [(2, .ptr 2 0), (3, .ptr 3 0)], [(2, .cells 22 [q1aSSI l13]), (3, .cells 26 (f10z8))], [], 0⟩) rfl rfl ⟨.refl _, .refl _, trivial⟩ ⟨⟨_, rfl, .refl _⟩, ⟨_, rfl, .refl _⟩, trivial⟩) ?_
      refine AWp.ret ?_
      exact bodyQ_ret _ rfl ⟨rfl, rfl⟩ rfl
def f33_L0 (x1 : List UInt8) (K1 : Unit → Option Bool) : Nat → Nat → Option Bool
  | 0, _ => none
  | k + 1, n3 =>
    if (decide ((n3 : Int) < ((x1.length : Nat) : Int))) then (
    chk ((n3 : Int) < ((x1.length : Nat) : Int)) <|
    chk (((decide ((((x1.getD n3 0).toNat : Nat) : Int) < (33 : Int))) == false) = true → 0 ≤ (n3 : Int) ∧ (n3 : Int) < ((x1.length : Nat) : Int)) <|
    if ((decide ((((x1.getD n3 0).toNat : Nat) : Int) < (33 : Int))) || (decide ((((x1.getD n3 0).toNat : Nat) : Int) > (126 : Int)))) then (
    some false
    ) else (
    chk (((n3 : Int) + (1 : Int)) ≤ 9223372036854775807) <|
    (f33_L0 x1 K1 k) (n3 + 1)
    )
    ) else (
    K1 ()
    )
theorem f33_L0_e2 (x1 : List UInt8) (K1 : Unit → Option Bool) (k : Nat) (n3 : Nat) : f33_L0 x1 K1 (k + 1) n3 =
    if (decide ((n3 : Int) < ((x1.length : Nat) : Int))) then (
    chk ((n3 : Int) < ((x1.length : Nat) : Int)) <|
    chk (((decide ((((x1.getD n3 0).toNat : Nat) : Int) < (33 : Int))) == false) = true → 0 ≤ (n3 : Int) ∧ (n3 : Int) < ((x1.length : Nat) : Int)) <|
    if ((decide ((((x1.getD n3 0).toNat : Nat) : Int) < (33 : Int))) || (decide ((((x1.getD n3 0).toNat : Nat) : Int) > (126 : Int)))) then (
    some false
    ) else (
    chk (((n3 : Int) + (1 : Int)) ≤ 9223372036854775807) <|
    (f33_L0 x1 K1 k) (n3 + 1)
    )
    ) else (
    K1 ()
    ) := rfl
def f33 (x1 : List UInt8) (x2 : Int) : Option Bool :=
  jn (fun (_ : Unit) =>
  some ((decide (((x1.length : Nat) : Int) ≥ (1 : Int))) && (decide (((x1.length : Nat) : Int) ≤ x2)))
  ) fun (K1 : Unit → Option Bool) =>
  f33_L0 x1 K1 FUEL 0
set_option maxRecDepth 100000 in
theorem f33_ok  (x1 : List UInt8) (x2 : Int) (r : Bool) (h : f33 x1 x2 = some r)  : Spec1 Tryz.prog 33 [] [] [] [.str x1, .int .i64 x2] (.bool r) [] := by
  unfold f33 at h
  refine Spec1.body 0 _ _ Tryz.func33 rfl Tryz.ntmps33 rfl rfl ?_
  refine q1rq [] [] ⟨31, [(0, .str x1), (1, .i x2)], [], [], 0⟩ trivial ?_
  obtain ⟨K1, hK1, h⟩ := jn_some h
  refine AWp.join (α := Unit) (fun (x : Unit) => match x with | () => ⟨31, [(0, .str x1), (1, .i x2)], [], [], 0⟩) (fun x => K1 x = some r) ?_ ?_
  ·
    refine q1rq [] [] ⟨31, [(0, .str x1), (1, .i x2), (5, .i (0 : Int))], [], [], 0⟩ trivial ?_
    refine AWp.block ?_
    refine AWp.loopL (α := Nat × Nat) (fun x => match x with | (_, n3) => ⟨31, [(0, .str x1), (1, .i x2), (5, .i (n3 : Int))], [], [], 0⟩) (fun x => f33_L0 x1 K1 x.1 x.2 = some r) (fun x => x.1) (FUEL, 0) (Le.mk (s' := ⟨31, [(0, .str x1), (1, .i x2), (5, .i (0 : Int))], [], [], 0⟩) rfl rfl ⟨.refl _, .refl _, .refl _, trivial⟩ trivial) h ?_
    rintro ⟨k0, n3⟩ h
    cases k0 with
    | zero => exact nomatch (show (none : Option Bool) = some r from h)
    | succ k0 =>
    obtain ⟨C0, hC0⟩ : ∃ C, C = f33_L0 x1 K1 k0 := ⟨_, rfl⟩
    replace h := (f33_L0_e2 ..).symm.trans h
    try rw [← hC0] at h
    refine AWp.seq ?_
    refine q1rq [] [] ⟨31, [(0, .str x1), (1, .i x2), (5, .i (n3 : Int)), (9, .bool (decide ((n3 : Int) < (lZ x1))))], [], [], 0⟩ trivial ?_
    refine AWp.cond (b := (decide ((n3 : Int) < (lZ x1)))) (by kernel_rfl) (fun hc1 => ?_) (fun hc1 => ?_)
    ·
      replace h := ite_tb hc1 h
      refine AWp.skip ?_
      refine thenQ_normal ?_
      refine AWp.seq ?_
      refine AWp.block ?_
      refine AWp.seq ?_
      obtain ⟨ob0p, h⟩ := chk_some h
      have ob0 : 0 ≤ (n3 : Int) ∧ (n3 : Int) < ((x1.length : Nat) : Int) := ⟨by omega, ob0p⟩
      obtain ⟨ob1, h⟩ := chk_some h
      have ob2 := idA (((decide ((((x1.getD n3 0).toNat : Nat) : Int) < (33 : Int))) == false) = true)
      have ob5 := bqA (decide ((((x1.getD n3 0).toNat : Nat) : Int) < (33 : Int))) false
      refine q1rr [] [] ⟨31, [(0, .str x1), (1, .i x2), (5, .i (n3 : Int)), (21, .bool ((decide ((((x1.getD n3 0).toNat : Nat) : Int) < (33 : Int))) || (decide ((((x1.getD n3 0).toNat : Nat) : Int) > (126 : Int)))))], [], [], 0⟩ (an4 ob0 (And.intro ob1 (an2 ob2 ob2)) (an1 ob2) ob5) ?_
      refine thenQ_normal ?_
      refine AWp.cond (b := ((decide ((((x1.getD n3 0).toNat : Nat) : Int) < (33 : Int))) || (decide ((((x1.getD n3 0).toNat : Nat) : Int) > (126 : Int))))) (by kernel_rfl) (fun hc2 => ?_) (fun hc2 => ?_)
      ·
        replace h := ite_tb hc2 h
        refine q1rq [] [] ⟨31, [(4, .bool false)], [], [], 0⟩ trivial ?_
        have hret := Option.some.inj h
        subst hret
        refine AWp.ret ?_
        refine blockQ_ret ?_
        refine thenQ_ret ?_
        refine thenQ_ret ?_
        refine blockQ_ret ?_
        refine joinQ_ret ?_
        exact bodyQ_ret _ rfl ⟨rfl, rfl⟩ rfl
      ·
        replace h := ite_fb hc2 h
        refine AWp.skip ?_
        refine blockQ_normal ?_
        refine thenQ_normal ?_
        obtain ⟨ob6p, h⟩ := chk_some h
        have ob6 : -9223372036854775808 ≤ ((n3 : Int) + (1 : Int)) ∧ ((n3 : Int) + (1 : Int)) ≤ 9223372036854775807 := ⟨by omega, ob6p⟩
        refine q1rr [] [] ⟨31, [(0, .str x1), (1, .i x2), (5, .i (((n3 + 1) : Nat) : Int))], [], [], 0⟩ (an1 ob6) ?_
        rw [hC0] at h
        exact loopQ_normal (_, (n3 + 1)) (Le.mk rfl rfl ⟨.refl _, .refl _, .refl _, trivial⟩ trivial) h (Nat.lt_succ_self _)
    ·
      replace h := ite_fb hc1 h
      refine AWp.exit ?_
      refine thenQ_exit ?_
      refine thenQ_exit ?_
      refine blockQ_same ?_
      exact joinQ_normal () (Le.mk rfl rfl ⟨.refl _, .refl _, trivial⟩ trivial) h
  ·
    rintro ⟨⟩ h
    replace h := (congrFun hK1 _).symm.trans h
    refine AWp.seq ?_
    have ob7 := idA (((decide ((lZ x1) ≥ (1 : Int))) == true) = true)
    have ob10 := bqA (decide ((lZ x1) ≥ (1 : Int))) true
    refine q1rr [] [] ⟨31, [(4, .bool ((decide ((lZ x1) ≥ (1 : Int))) && (decide ((lZ x1) ≤ x2))))], [], [], 0⟩ (an3 (an1 ob7) (an2 ob7 ob7) ob10) ?_
    refine thenQ_normal ?_
    have hret := Option.some.inj h
    subst hret
    refine AWp.ret ?_
    exact bodyQ_ret _ rfl ⟨rfl, rfl⟩ rfl
def f32 (x1 : List UInt8) : Option Bool :=
  (f33 x1 (64 : Int)).bind fun (r2 : Bool) =>
  some r2
set_option maxRecDepth 100000 in
theorem f32_ok  (x1 : List UInt8) (r : Bool) (h : f32 x1 = some r)  : Spec1 Tryz.prog 32 [] [] [] [.str x1] (.bool r) [] := by
  unfold f32 at h
  refine Spec1.body 0 _ _ Tryz.func32 rfl Tryz.ntmps32 rfl rfl ?_
  refine q1rq [] [] ⟨5, [(0, .str x1)], [], [], 0⟩ trivial ?_
  refine AWp.seq ?_
  obtain ⟨r2, hr2, h⟩ := bind_ok h
  refine q1rr [] [(1, ⟨[.str x1, .i (64 : Int)], [], [], [], .bool r2, [], [], []⟩)] ⟨5, [(2, .bool r2)], [], [], 0⟩ (an1 (cpT (f33_ok _ _ _ hr2))) ?_
  refine thenQ_normal ?_
  have hret := Option.some.inj h
  subst hret
  refine AWp.ret ?_
  exact bodyQ_ret _ rfl ⟨rfl, rfl⟩ rfl
def f17_L0 (x1 : List (List UInt8 × List UInt8 × Int)) (K1 : Unit → Option Int) : Nat → Nat → Option Int
  | 0, _ => none
  | k + 1, n2 =>
    if (decide ((n2 : Int) < (((x1).length : Nat) : Int))) then (
    (f32 ((x1.getD n2 (default : List UInt8 × List UInt8 × Int)).1)).bind fun (r3 : Bool) =>
    optc ((!r3) == false) (f33 ((x1.getD n2 (default : List UInt8 × List UInt8 × Int)).2.1) (256 : Int)) fun (r4 : Bool) =>
    chk ((n2 : Int) < (((x1).length : Nat) : Int)) <|
    chk (((!r3) == false) = true → 0 ≤ (n2 : Int) ∧ (n2 : Int) < (((x1).length : Nat) : Int)) <|
    chk ((((!r3) || (!r4)) == false) = true → 0 ≤ (n2 : Int) ∧ (n2 : Int) < (((x1).length : Nat) : Int)) <|
    chk (((((!r3) || (!r4)) || (decide ((x1.getD n2 (default : List UInt8 × List UInt8 × Int)).2.2 < (1 : Int)))) == false) = true → 0 ≤ (n2 : Int) ∧ (n2 : Int) < (((x1).length : Nat) : Int)) <|
    chk (((((((!r3) || (!r4)) || (decide ((x1.getD n2 (default : List UInt8 × List UInt8 × Int)).2.2 < (1 : Int)))) || (decide ((x1.getD n2 (default : List UInt8 × List UInt8 × Int)).2.2 > (1000000000000 : Int)))) == false) && ((decide ((n2 : Int) > (0 : Int))) == true)) = true → -9223372036854775808 ≤ ((n2 : Int) - (1 : Int)) ∧ ((n2 : Int) - (1 : Int)) ≤ 9223372036854775807) <|
    chk (((((((!r3) || (!r4)) || (decide ((x1.getD n2 (default : List UInt8 × List UInt8 × Int)).2.2 < (1 : Int)))) || (decide ((x1.getD n2 (default : List UInt8 × List UInt8 × Int)).2.2 > (1000000000000 : Int)))) == false) && ((decide ((n2 : Int) > (0 : Int))) == true)) = true → 0 ≤ ((n2 : Int) - (1 : Int)) ∧ ((n2 : Int) - (1 : Int)) < (((x1).length : Nat) : Int)) <|
    chk (((((((!r3) || (!r4)) || (decide ((x1.getD n2 (default : List UInt8 × List UInt8 × Int)).2.2 < (1 : Int)))) || (decide ((x1.getD n2 (default : List UInt8 × List UInt8 × Int)).2.2 > (1000000000000 : Int)))) == false) && ((decide ((n2 : Int) > (0 : Int))) == true)) = true → 0 ≤ (n2 : Int) ∧ (n2 : Int) < (((x1).length : Nat) : Int)) <|
    chk ((((((!r3) || (!r4)) || (decide ((x1.getD n2 (default : List UInt8 × List UInt8 × Int)).2.2 < (1 : Int)))) || (decide ((x1.getD n2 (default : List UInt8 × List UInt8 × Int)).2.2 > (1000000000000 : Int)))) == false) = true → (((((!r3) || (!r4)) || (decide ((x1.getD n2 (default : List UInt8 × List UInt8 × Int)).2.2 < (1 : Int)))) || (decide ((x1.getD n2 (default : List UInt8 × List UInt8 × Int)).2.2 > (1000000000000 : Int)))) == false) = true → (decide ((n2 : Int) > (0 : Int))) = true → ((((((!r3) || (!r4)) || (decide ((x1.getD n2 (default : List UInt8 × List UInt8 × Int)).2.2 < (1 : Int)))) || (decide ((x1.getD n2 (default : List UInt8 × List UInt8 × Int)).2.2 > (1000000000000 : Int)))) == false) && ((decide ((n2 : Int) > (0 : Int))) == true)) = true) <|
    if (((((!r3) || (!r4)) || (decide ((x1.getD n2 (default : List UInt8 × List UInt8 × Int)).2.2 < (1 : Int)))) || (decide ((x1.getD n2 (default : List UInt8 × List UInt8 × Int)).2.2 > (1000000000000 : Int)))) || ((decide ((n2 : Int) > (0 : Int))) && (!(Op.bytesLess ((x1.getD ((((n2 : Int) - (1 : Int))).toNat) (default : List UInt8 × List UInt8 × Int)).1) ((x1.getD n2 (default : List UInt8 × List UInt8 × Int)).1))))) then (
    some (1 : Int)
    ) else (
    chk (((n2 : Int) + (1 : Int)) ≤ 9223372036854775807) <|
    (f17_L0 x1 K1 k) (n2 + 1)
    )
    ) else (
    K1 ()
    )
theorem f17_L0_e2 (x1 : List (List UInt8 × List UInt8 × Int)) (K1 : Unit → Option Int) (k : Nat) (n2 : Nat) : f17_L0 x1 K1 (k + 1) n2 =
    if (decide ((n2 : Int) < (((x1).length : Nat) : Int))) then (
    (f32 ((x1.getD n2 (default : List UInt8 × List UInt8 × Int)).1)).bind fun (r3 : Bool) =>
    optc ((!r3) == false) (f33 ((x1.getD n2 (default : List UInt8 × List UInt8 × Int)).2.1) (256 : Int)) fun (r4 : Bool) =>
    chk ((n2 : Int) < (((x1).length : Nat) : Int)) <|
    chk (((!r3) == false) = true → 0 ≤ (n2 : Int) ∧ (n2 : Int) < (((x1).length : Nat) : Int)) <|
    chk ((((!r3) || (!r4)) == false) = true → 0 ≤ (n2 : Int) ∧ (n2 : Int) < (((x1).length : Nat) : Int)) <|
    chk (((((!r3) || (!r4)) || (decide ((x1.getD n2 (default : List UInt8 × List UInt8 × Int)).2.2 < (1 : Int)))) == false) = true → 0 ≤ (n2 : Int) ∧ (n2 : Int) < (((x1).length : Nat) : Int)) <|
    chk (((((((!r3) || (!r4)) || (decide ((x1.getD n2 (default : List UInt8 × List UInt8 × Int)).2.2 < (1 : Int)))) || (decide ((x1.getD n2 (default : List UInt8 × List UInt8 × Int)).2.2 > (1000000000000 : Int)))) == false) && ((decide ((n2 : Int) > (0 : Int))) == true)) = true → -9223372036854775808 ≤ ((n2 : Int) - (1 : Int)) ∧ ((n2 : Int) - (1 : Int)) ≤ 9223372036854775807) <|
    chk (((((((!r3) || (!r4)) || (decide ((x1.getD n2 (default : List UInt8 × List UInt8 × Int)).2.2 < (1 : Int)))) || (decide ((x1.getD n2 (default : List UInt8 × List UInt8 × Int)).2.2 > (1000000000000 : Int)))) == false) && ((decide ((n2 : Int) > (0 : Int))) == true)) = true → 0 ≤ ((n2 : Int) - (1 : Int)) ∧ ((n2 : Int) - (1 : Int)) < (((x1).length : Nat) : Int)) <|
    chk (((((((!r3) || (!r4)) || (decide ((x1.getD n2 (default : List UInt8 × List UInt8 × Int)).2.2 < (1 : Int)))) || (decide ((x1.getD n2 (default : List UInt8 × List UInt8 × Int)).2.2 > (1000000000000 : Int)))) == false) && ((decide ((n2 : Int) > (0 : Int))) == true)) = true → 0 ≤ (n2 : Int) ∧ (n2 : Int) < (((x1).length : Nat) : Int)) <|
    chk ((((((!r3) || (!r4)) || (decide ((x1.getD n2 (default : List UInt8 × List UInt8 × Int)).2.2 < (1 : Int)))) || (decide ((x1.getD n2 (default : List UInt8 × List UInt8 × Int)).2.2 > (1000000000000 : Int)))) == false) = true → (((((!r3) || (!r4)) || (decide ((x1.getD n2 (default : List UInt8 × List UInt8 × Int)).2.2 < (1 : Int)))) || (decide ((x1.getD n2 (default : List UInt8 × List UInt8 × Int)).2.2 > (1000000000000 : Int)))) == false) = true → (decide ((n2 : Int) > (0 : Int))) = true → ((((((!r3) || (!r4)) || (decide ((x1.getD n2 (default : List UInt8 × List UInt8 × Int)).2.2 < (1 : Int)))) || (decide ((x1.getD n2 (default : List UInt8 × List UInt8 × Int)).2.2 > (1000000000000 : Int)))) == false) && ((decide ((n2 : Int) > (0 : Int))) == true)) = true) <|
    if (((((!r3) || (!r4)) || (decide ((x1.getD n2 (default : List UInt8 × List UInt8 × Int)).2.2 < (1 : Int)))) || (decide ((x1.getD n2 (default : List UInt8 × List UInt8 × Int)).2.2 > (1000000000000 : Int)))) || ((decide ((n2 : Int) > (0 : Int))) && (!(Op.bytesLess ((x1.getD ((((n2 : Int) - (1 : Int))).toNat) (default : List UInt8 × List UInt8 × Int)).1) ((x1.getD n2 (default : List UInt8 × List UInt8 × Int)).1))))) then (
    some (1 : Int)
    ) else (
    chk (((n2 : Int) + (1 : Int)) ≤ 9223372036854775807) <|
    (f17_L0 x1 K1 k) (n2 + 1)
    )
    ) else (
    K1 ()
    ) := rfl
abbrev f17z0 (r3 : Bool) (r4 : Bool) (x1 : List (List UInt8 × List UInt8 × Int)) (n2 : Nat) := ((((!r3) || (!r4)) || (decide ((x1.getD n2 (default : List UInt8 × List UInt8 × Int)).2.2 < (1 : Int)))) || (decide ((x1.getD n2 (default : List UInt8 × List UInt8 × Int)).2.2 > (1000000000000 : Int))))
abbrev f17z1 (r3 : Bool) (r4 : Bool) (x1 : List (List UInt8 × List UInt8 × Int)) (n2 : Nat) := (((f17z0 r3 r4 x1 n2) == false) && ((decide ((n2 : Int) > (0 : Int))) == true))
abbrev f17z2 (r3 : Bool) (r4 : Bool) (x1 : List (List UInt8 × List UInt8 × Int)) (n2 : Nat) := ((((!r3) || (!r4)) || (decide ((x1.getD n2 (default : List UInt8 × List UInt8 × Int)).2.2 < (1 : Int)))) == false)
abbrev f17z3 (r3 : Bool) (r4 : Bool) := (((!r3) || (!r4)) == false)
abbrev f17z4 (x1 : List (List UInt8 × List UInt8 × Int)) (n2 : Nat) := (x1.getD n2 (default : List UInt8 × List UInt8 × Int))
def f17 (x1 : List (List UInt8 × List UInt8 × Int)) : Option Int :=
  if (decide ((((x1).length : Nat) : Int) > (64 : Int))) then (
  some (3 : Int)
  ) else (
  jn (fun (_ : Unit) =>
  some (0 : Int)
  ) fun (K1 : Unit → Option Int) =>
  f17_L0 x1 K1 FUEL 0
  )
set_option maxRecDepth 100000 in
theorem f17_ok  (x1 : List (List UInt8 × List UInt8 × Int)) (r : Int) (h : f17 x1 = some r)  : Spec1 Tryz.prog 17 [] [] [] [vL 3 eSSI (default : List UInt8 × List UInt8 × Int) x1] (.int .i64 r) [] := by
  unfold f17 at h
  refine Spec1.body 0 _ _ Tryz.func17 rfl Tryz.ntmps17 rfl rfl ?_
  refine q1rq [] [] ⟨63, [(0, q1aSSI x1)], [], [], 0⟩ trivial ?_
  refine AWp.seq ?_
  refine q1rq [] [] ⟨63, [(0, q1aSSI x1), (6, .bool (decide ((lZ x1) > (64 : Int))))], [], [], 0⟩ trivial ?_
  refine AWp.cond (b := (decide ((lZ x1) > (64 : Int)))) (by kernel_rfl) (fun hc1 => ?_) (fun hc1 => ?_)
  ·
    replace h := ite_tb hc1 h
    refine q1rq [] [] ⟨63, [(2, .i (3 : Int))], [], [], 0⟩ trivial ?_
    have hret := Option.some.inj h
    subst hret
    refine AWp.ret ?_
    refine thenQ_ret ?_
    exact bodyQ_ret _ rfl ⟨rfl, rfl⟩ rfl
  ·
    replace h := ite_fb hc1 h
    refine AWp.skip ?_
    refine thenQ_normal ?_
    obtain ⟨K1, hK1, h⟩ := jn_some h
    refine AWp.join (α := Unit) (fun (x : Unit) => match x with | () => ⟨63, [], [], [], 0⟩) (fun x => K1 x = some r) ?_ ?_
    ·
      refine q1rq [] [] ⟨63, [(0, q1aSSI x1), (3, .i (0 : Int))], [], [], 0⟩ trivial ?_
      refine AWp.block ?_
      refine AWp.loopL (α := Nat × Nat) (fun x => match x with | (_, n2) => ⟨63, [(0, q1aSSI x1), (3, .i (n2 : Int))], [], [], 0⟩) (fun x => f17_L0 x1 K1 x.1 x.2 = some r) (fun x => x.1) (FUEL, 0) (Le.mk (s' := ⟨63, [(0, q1aSSI x1), (3, .i (0 : Int))], [], [], 0⟩) rfl rfl ⟨.refl _, .refl _, trivial⟩ trivial) h ?_
      rintro ⟨k0, n2⟩ h
      cases k0 with
      | zero => exact nomatch (show (none : Option Int) = some r from h)
      | succ k0 =>
      obtain ⟨C0, hC0⟩ : ∃ C, C = f17_L0 x1 K1 k0 := ⟨_, rfl⟩
      replace h := (f17_L0_e2 ..).symm.trans h
      try rw [← hC0] at h
      refine AWp.seq ?_
      refine q1rq [] [] ⟨63, [(0, q1aSSI x1), (3, .i (n2 : Int)), (10, .bool (decide ((n2 : Int) < (lZ x1))))], [], [], 0⟩ trivial ?_
      refine AWp.cond (b := (decide ((n2 : Int) < (lZ x1)))) (by kernel_rfl) (fun hc2 => ?_) (fun hc2 => ?_)
      ·
        replace h := ite_tb hc2 h
        refine AWp.skip ?_
        refine thenQ_normal ?_
        refine AWp.seq ?_
        refine AWp.block ?_
        refine AWp.seq ?_
        obtain ⟨r3, hr3, h⟩ := bind_ok h
        obtain ⟨r4, hr4, h⟩ := optc_some h
        obtain ⟨ob0p, h⟩ := chk_some h
        have ob0 : 0 ≤ (n2 : Int) ∧ (n2 : Int) < (((x1).length : Nat) : Int) := ⟨by omega, ob0p⟩
        obtain ⟨ob1, h⟩ := chk_some h
        have ob2 := idA (((!r3) == false) = true)
        have ob8 := bqA (!r3) false
        obtain ⟨ob9, h⟩ := chk_some h
        have ob10 := idA ((f17z3 r3 r4) = true)
        have ob15 : true = true → ((!r3) || (!r4)) = false → (f17z3 r3 r4) = true := fun _ h => beq_iff_eq.2 h
        obtain ⟨ob16, h⟩ := chk_some h
        have ob17 := idA ((f17z2 r3 r4 x1 n2) = true)
        have ob22 : true = true → (((!r3) || (!r4)) || (decide ((f17z4 x1 n2).2.2 < (1 : Int)))) = false → (f17z2 r3 r4 x1 n2) = true := fun _ h => beq_iff_eq.2 h
        have ob23 := idA (((f17z0 r3 r4 x1 n2) == false) = true)
        obtain ⟨ob25, h⟩ := chk_some h
        have ob26 := idA ((f17z1 r3 r4 x1 n2) = true)
        obtain ⟨ob27, h⟩ := chk_some h
        obtain ⟨ob32, h⟩ := chk_some h
        obtain ⟨ob39, h⟩ := chk_some h
        have ob41 := bqA (f17z0 r3 r4 x1 n2) false
        refine q1rr [] [(5, ⟨[.str (f17z4 x1 n2).1], [], [], [], .bool r3, [], [], []⟩), (13, ⟨[.str (f17z4 x1 n2).2.1, .i (256 : Int)], [], [], [], .bool r4, [], [], []⟩)] ⟨63, [(0, q1aSSI x1), (3, .i (n2 : Int)), (62, .bool ((f17z0 r3 r4 x1 n2) || ((decide ((n2 : Int) > (0 : Int))) && (!(Op.bytesLess ((x1.getD ((((n2 : Int) - (1 : Int))).toNat) q1dSSI).1) ((f17z4 x1 n2).1))))))], [], [], 0⟩ (ac6 ob0 (cpT (f32_ok _ _ hr3)) (And.intro ob1 (an2 ob2 ob2)) (an1 ob2) (an1 ob2) (And.intro (cpC fun hc => (f33_ok _ _ _ (hr4 hc))) (an1 ob2)) (ac6 (an1 ob2) ob8 (And.intro ob9 (an2 ob10 ob10)) (an1 ob10) (an1 ob10) (an1 ob10) (ac6 ob15 (And.intro ob16 (an2 ob17 ob17)) (an1 ob17) (an1 ob17) (an1 ob17) ob22 (ac6 (an1 ob23) (an1 ob23) (And.intro ob25 (an1 ob26)) (And.intro ob27 (an2 ob26 ob26)) (an1 ob26) (an1 ob26) (an6 (And.intro ob32 (an2 ob26 ob26)) (an1 ob26) (an1 ob26) (an2 ob26 ob26) (And.intro ob39 (an1 ob23)) ob41))))) ?_
        refine thenQ_normal ?_
        refine AWp.cond (b := ((f17z0 r3 r4 x1 n2) || ((decide ((n2 : Int) > (0 : Int))) && (!(Op.bytesLess ((x1.getD ((((n2 : Int) - (1 : Int))).toNat) q1dSSI).1) ((f17z4 x1 n2).1)))))) (by kernel_rfl) (fun hc3 => ?_) (fun hc3 => ?_)
        ·
          replace h := ite_tb hc3 h
          refine q1rq [] [] ⟨63, [(2, .i (1 : Int))], [], [], 0⟩ trivial ?_
          have hret := Option.some.inj h
          subst hret
          refine AWp.ret ?_
          refine blockQ_ret ?_
          refine thenQ_ret ?_
          refine thenQ_ret ?_
          refine blockQ_ret ?_
          refine joinQ_ret ?_
          exact bodyQ_ret _ rfl ⟨rfl, rfl⟩ rfl
        ·
          replace h := ite_fb hc3 h
          refine AWp.skip ?_
          refine blockQ_normal ?_
          refine thenQ_normal ?_
          obtain ⟨ob42p, h⟩ := chk_some h
          have ob42 : -9223372036854775808 ≤ ((n2 : Int) + (1 : Int)) ∧ ((n2 : Int) + (1 : Int)) ≤ 9223372036854775807 := ⟨by omega, ob42p⟩
          refine q1rr [] [] ⟨63, [(0, q1aSSI x1), (3, .i (((n2 + 1) : Nat) : Int))], [], [], 0⟩ (an1 ob42) ?_
          rw [hC0] at h
          exact loopQ_normal (_, (n2 + 1)) (Le.mk rfl rfl ⟨.refl _, .refl _, trivial⟩ trivial) h (Nat.lt_succ_self _)
      ·
        replace h := ite_fb hc2 h
        refine AWp.exit ?_
        refine thenQ_exit ?_
        refine thenQ_exit ?_
        refine blockQ_same ?_
        exact joinQ_normal () (Le.mk rfl rfl trivial trivial) h
    ·
      rintro ⟨⟩ h
      replace h := (congrFun hK1 _).symm.trans h
      refine q1rq [] [] ⟨63, [(2, .i (0 : Int))], [], [], 0⟩ trivial ?_
      have hret := Option.some.inj h
      subst hret
      refine AWp.ret ?_
      exact bodyQ_ret _ rfl ⟨rfl, rfl⟩ rfl
def f34 : Nat → Int → Option (List UInt8)
  | 0, _ => none
  | k + 1, x1 =>
    if (decide (x1 < (10 : Int))) then (
    chk (-9223372036854775808 ≤ ((48 : Int) + x1) ∧ ((48 : Int) + x1) ≤ 9223372036854775807) <|
    chk (0 ≤ ((48 : Int) + x1) ∧ ((48 : Int) + x1) ≤ 255) <|
    some [UInt8.ofNat ((((48 : Int) + x1)).toNat)]
    ) else (
    ((f34 k) (x1 / (10 : Int))).bind fun (r2 : List UInt8) =>
    chk (0 ≤ x1 ∧ 1 ≤ (10 : Int) ∧ -9223372036854775808 ≤ (x1 / (10 : Int)) ∧ (x1 / (10 : Int)) ≤ 9223372036854775807) <|
    chk (0 ≤ x1 ∧ 1 ≤ (10 : Int)) <|
    chk (-9223372036854775808 ≤ ((48 : Int) + (x1 % (10 : Int))) ∧ ((48 : Int) + (x1 % (10 : Int))) ≤ 9223372036854775807) <|
    chk (0 ≤ ((48 : Int) + (x1 % (10 : Int))) ∧ ((48 : Int) + (x1 % (10 : Int))) ≤ 255) <|
    chk (r2.length + [UInt8.ofNat ((((48 : Int) + (x1 % (10 : Int)))).toNat)].length ≤ 9223372036854775807) <|
    some (r2 ++ [UInt8.ofNat ((((48 : Int) + (x1 % (10 : Int)))).toNat)])
    )
set_option maxRecDepth 100000 in
theorem f34_ok : ∀ (k : Nat) (x1 : Int) (r : List UInt8), f34 k x1 = some r → Spec1 Tryz.prog 34 [] [] [] [.int .i64 x1] (.str r) [] := by
  intro k
  induction k with
  | zero => intro x1 r h; exact nomatch (show (none : Option (List UInt8)) = some r from h)
  | succ k ih =>
  intro x1 r h
  obtain ⟨Frec, hFrec⟩ : ∃ C, C = f34 k := ⟨_, rfl⟩
  rw [f34.eq_2] at h
  rw [← hFrec] at h ih
  refine Spec1.body 0 _ _ Tryz.func34 rfl Tryz.ntmps34 rfl rfl ?_
  refine q1rq [] [] ⟨20, [(0, .i x1)], [], [], 0⟩ trivial ?_
  refine AWp.seq ?_
  refine q1rq [] [] ⟨20, [(0, .i x1), (4, .bool (decide (x1 < (10 : Int))))], [], [], 0⟩ trivial ?_
  refine AWp.cond (b := (decide (x1 < (10 : Int)))) (by kernel_rfl) (fun hc1 => ?_) (fun hc1 => ?_)
  ·
    replace h := ite_tb hc1 h
    refine AWp.seq ?_
    obtain ⟨ob0, ob1, h⟩ := ck2 h
    have ob2 : ∀ i, i < 1 → isByte ((lstF 1 [.int .u8 ((48 : Int) + x1)]) i 0) := fun i hi => match i, hi with | 0, _ => trivial
    refine q1rr [] [] ⟨20, [(2, .str [UInt8.ofNat ((((48 : Int) + x1)).toNat)])], [], [], 0⟩ (an3 ob0 ob1 ob2) ?_
    refine thenQ_normal ?_
    have hret := Option.some.inj h
    subst hret
    refine AWp.ret ?_
    refine thenQ_ret ?_
    exact bodyQ_ret _ rfl ⟨rfl, rfl⟩ rfl
  ·
    replace h := ite_fb hc1 h
    refine AWp.skip ?_
    refine thenQ_normal ?_
    refine AWp.seq ?_
    obtain ⟨r2, hr2, h⟩ := bind_ok h
    obtain ⟨ob3, ob4, ob5, ob6, h⟩ := ck4 h
    have ob7 : ∀ i, i < 1 → isByte ((lstF 1 [.int .u8 ((48 : Int) + (x1 % (10 : Int)))]) i 0) := fun i hi => match i, hi with | 0, _ => trivial
    obtain ⟨ob8, h⟩ := chk_some h
    refine q1rr [] [(2, ⟨[.i (x1 / (10 : Int))], [], [], [], .str r2, [], [], []⟩)] ⟨20, [(2, .str (r2 ++ [UInt8.ofNat ((((48 : Int) + (x1 % (10 : Int)))).toNat)]))], [], [], 0⟩ (ac6 ob3 (cpT (ih _ _ hr2)) ob4 ob5 ob6 ob7 (an1 ob8)) ?_
    refine thenQ_normal ?_
    have hret := Option.some.inj h
    subst hret
    refine AWp.ret ?_
    exact bodyQ_ret _ rfl ⟨rfl, rfl⟩ rfl
def f18 (x1 : List UInt8) (x2 : List UInt8) (x3 : Int) : Option (List UInt8) :=
  (f34 FUEL x3).bind fun (r4 : List UInt8) =>
  chk (x1.length + ([32] : List UInt8).length ≤ 9223372036854775807) <|
  chk ((x1 ++ ([32] : List UInt8)).length + r4.length ≤ 9223372036854775807) <|
  chk (((x1 ++ ([32] : List UInt8)) ++ r4).length + ([32] : List UInt8).length ≤ 9223372036854775807) <|
  chk ((((x1 ++ ([32] : List UInt8)) ++ r4) ++ ([32] : List UInt8)).length + x2.length ≤ 9223372036854775807) <|
  chk (((((x1 ++ ([32] : List UInt8)) ++ r4) ++ ([32] : List UInt8)) ++ x2).length + ([10] : List UInt8).length ≤ 9223372036854775807) <|
  some (((((x1 ++ ([32] : List UInt8)) ++ r4) ++ ([32] : List UInt8)) ++ x2) ++ ([10] : List UInt8))
set_option maxRecDepth 100000 in
theorem f18_ok  (x1 : List UInt8) (x2 : List UInt8) (x3 : Int) (r : List UInt8) (h : f18 x1 x2 x3 = some r)  : Spec1 Tryz.prog 18 [] [] [] [.agg [.str x1, .str x2, .int .i64 x3]] (.str r) [] := by
  unfold f18 at h
  refine Spec1.body 0 _ _ Tryz.func18 rfl Tryz.ntmps18 rfl rfl ?_
  refine q1rq [] [] ⟨15, [(1, .ptr 1 0)], [(1, .cells 31 [.str x1, .str x2, .i x3])], [], 0⟩ trivial ?_
  refine AWp.seq ?_
  obtain ⟨r4, hr4, h⟩ := bind_ok h
  obtain ⟨ob0, ob1, ob2, ob3, ob4, h⟩ := ck5 h
  refine q1rr [] [(5, ⟨[.i x3], [], [], [], .str r4, [], [], []⟩)] ⟨15, [(2, .str (((((x1 ++ ([32] : List UInt8)) ++ r4) ++ ([32] : List UInt8)) ++ x2) ++ ([10] : List UInt8)))], [], [], 0⟩ (an6 ob0 (cpT (f34_ok FUEL _ _ hr4)) ob1 ob2 ob3 ob4) ?_
  refine thenQ_normal ?_
  have hret := Option.some.inj h
  subst hret
  refine AWp.ret ?_
  exact bodyQ_ret _ rfl ⟨rfl, rfl⟩ rfl
def f8_L0 (x1 : List (List UInt8 × List UInt8 × Int)) (x2 : Int) (K1 : (List (List UInt8)) → Option (Int × List (List UInt8))) : Nat → (Nat × List (List UInt8)) → Option (Int × List (List UInt8))
  | 0, _ => none
  | k + 1, (n4, l5) =>
    if (decide ((n4 : Int) < (((x1).length : Nat) : Int))) then (
    jn (fun (l6 : List (List UInt8)) =>
    (f18 ((x1.getD n4 (default : List UInt8 × List UInt8 × Int)).1) ((x1.getD n4 (default : List UInt8 × List UInt8 × Int)).2.1) ((x1.getD n4 (default : List UInt8 × List UInt8 × Int)).2.2)).bind fun (r7 : List UInt8) =>
    chk (-9223372036854775808 ≤ ((((l6).length : Nat) : Int) - (1 : Int)) ∧ ((((l6).length : Nat) : Int) - (1 : Int)) ≤ 9223372036854775807) <|
    chk (-9223372036854775808 ≤ ((((l6).length : Nat) : Int) - (1 : Int)) ∧ ((((l6).length : Nat) : Int) - (1 : Int)) ≤ 9223372036854775807) <|
    chk (0 ≤ ((((l6).length : Nat) : Int) - (1 : Int)) ∧ ((((l6).length : Nat) : Int) - (1 : Int)) < (((l6).length : Nat) : Int)) <|
    chk (((((((l6).length : Nat) : Int) - (1 : Int))).toNat) < (l6).length) <|
    chk ((n4 : Int) < (((x1).length : Nat) : Int)) <|
    chk ((l6.getD ((((((l6).length : Nat) : Int) - (1 : Int))).toNat) []).length + r7.length ≤ 9223372036854775807) <|
    chk (0 ≤ ((((l6).length : Nat) : Int) - (1 : Int)) ∧ ((((l6).length : Nat) : Int) - (1 : Int)) < (((l6).length : Nat) : Int)) <|
    chk (((((((l6).length : Nat) : Int) - (1 : Int))).toNat) < (l6).length) <|
    chk (((n4 : Int) + (1 : Int)) ≤ 9223372036854775807) <|
    (f8_L0 x1 x2 K1 k) ((n4 + 1), (l6.set ((((((l6).length : Nat) : Int) - (1 : Int))).toNat) ((l6.getD ((((((l6).length : Nat) : Int) - (1 : Int))).toNat) []) ++ r7)))
    ) fun (K2 : (List (List UInt8)) → Option (Int × List (List UInt8))) =>
    chk (1 ≤ x2) <|
    if (((n4 : Int) % x2) == (0 : Int)) then (
    chk (((l5).length + 1) * 16 ≤ 140737488355328) <|
    K2 (l5 ++ [[]])
    ) else (
    K2 l5
    )
    ) else (
    K1 l5
    )
abbrev f8z0 (x1 : List (List UInt8 × List UInt8 × Int)) (x2 : Int) (n4 : Nat) : List (Nat × V) := [(0, vL 3 eSSI (default : List UInt8 × List UInt8 × Int) x1), (1, .int .i64 x2), (7, .own 32), (8, .int .i64 (n4 : Int))]
abbrev f8z1 (x1 : List (List UInt8 × List UInt8 × Int)) (x2 : Int) (n4 : Nat) : List (Nat × V) := [(0, vL 3 eSSI (default : List UInt8 × List UInt8 × Int) x1), (1, .int .i64 x2), (7, .own 5007), (8, .int .i64 (n4 : Int))]
abbrev f8z2 (l6 : List (List UInt8)) (r7 : List UInt8) : Heap := [(32, bL 9 1 eS [] (l6.set ((((((l6).length : Nat) : Int) - (1 : Int))).toNat) ((l6.getD ((((((l6).length : Nat) : Int) - (1 : Int))).toNat) []) ++ r7)))]
def f8 (x1 : List (List UInt8 × List UInt8 × Int)) (x2 : Int) : Option (Int × List (List UInt8)) :=
  (f17 x1).bind fun (r3 : Int) =>
  if (r3 != (0 : Int)) then (
  some (r3, [])
  ) else (
  if ((decide (x2 < (1 : Int))) || (decide (x2 > (64 : Int)))) then (
  some ((7 : Int), [])
  ) else (
  jn (fun (l8 : List (List UInt8)) =>
  some ((0 : Int), l8)
  ) fun (K1 : (List (List UInt8)) → Option (Int × List (List UInt8))) =>
  f8_L0 x1 x2 K1 FUEL (0, [])
  )
  )
set_option maxRecDepth 100000 in
theorem f8_ok  (x1 : List (List UInt8 × List UInt8 × Int)) (x2 : Int) (r : Int × List (List UInt8)) (h : f8 x1 x2 = some r)  : Spec1 Tryz.prog 8 [] [] [] [vL 3 eSSI (default : List UInt8 × List UInt8 × Int) x1, .int .i64 x2] (.tup [.own 3000, .int .i64 r.1]) [(3000, bL 9 1 eS [] r.2)] := by
  unfold f8 at h
  refine Spec1.body 0 _ _ Tryz.func8 rfl Tryz.ntmps8 rfl rfl ?_
  refine q1rq [] [] ⟨51, [(0, q1aSSI x1), (1, .i x2)], [], [], 0⟩ trivial ?_
  refine AWp.seq ?_
  refine AWp.seq ?_
  obtain ⟨r3, hr3, h⟩ := bind_ok h
  refine q1rr [] [(1, ⟨[q1aSSI x1], [], [], [], .i r3, [], [], []⟩)] ⟨51, [(0, q1aSSI x1), (1, .i x2), (6, .i r3)], [], [], 0⟩ (an1 (cpT (f17_ok _ _ hr3))) ?_
  refine thenQ_normal ?_
  refine q1rq [] [] ⟨51, [(0, q1aSSI x1), (1, .i x2), (6, .i r3), (12, .bool (r3 != (0 : Int)))], [], [], 0⟩ trivial ?_
  refine AWp.cond (b := (r3 != (0 : Int))) (by kernel_rfl) (fun hc1 => ?_) (fun hc1 => ?_)
  ·
    replace h := ite_tb hc1 h
    refine q1rq [] [] ⟨51, [(4, .nils), (5, .i r3)], [], [], 0⟩ trivial ?_
    refine AWp.le (Le.trans (Le.nilOwn 4 3000 9 1 (encF eS [] []) rfl rfl (Nat.le_of_ble_eq_true rfl)) (Le.mk (s' := ⟨51, [(4, .own 3000), (5, .i r3)], [(3000, q1bS_9 [])], [], 0⟩) rfl rfl ⟨.refl _, .refl _, trivial⟩ ⟨⟨_, rfl, .refl _⟩, trivial⟩)) ?_
    have hret := Option.some.inj h
    subst hret
    refine AWp.le (Le.mk (s' := ⟨51, [(4, .own 3000), (5, .i r3)], [(3000, q1bS_9 [])], [], 0⟩) rfl rfl ⟨.refl _, .refl _, trivial⟩ ⟨⟨_, rfl, .refl _⟩, trivial⟩) ?_
    refine AWp.ret ?_
    refine thenQ_ret ?_
    exact bodyQ_ret _ rfl ⟨rfl, rfl⟩ rfl
  ·
    replace h := ite_fb hc1 h
    refine AWp.skip ?_
    refine thenQ_normal ?_
    refine AWp.seq ?_
    refine AWp.seq ?_
    have ob0 := idA (((decide (x2 < (1 : Int))) == false) = true)
    have ob1 := bqA (decide (x2 < (1 : Int))) false
    refine q1rr [] [] ⟨51, [(0, q1aSSI x1), (1, .i x2), (19, .bool ((decide (x2 < (1 : Int))) || (decide (x2 > (64 : Int)))))], [], [], 0⟩ (an2 (an1 ob0) ob1) ?_
    refine thenQ_normal ?_
    refine AWp.cond (b := ((decide (x2 < (1 : Int))) || (decide (x2 > (64 : Int))))) (by kernel_rfl) (fun hc2 => ?_) (fun hc2 => ?_)
    ·
      replace h := ite_tb hc2 h
      refine q1rq [] [] ⟨51, [(4, .nils), (5, .i (7 : Int))], [], [], 0⟩ trivial ?_
      refine AWp.le (Le.trans (Le.nilOwn 4 3000 9 1 (encF eS [] []) rfl rfl (Nat.le_of_ble_eq_true rfl)) (Le.mk (s' := ⟨51, [(4, .own 3000), (5, .i (7 : Int))], [(3000, q1bS_9 [])], [], 0⟩) rfl rfl ⟨.refl _, .refl _, trivial⟩ ⟨⟨_, rfl, .refl _⟩, trivial⟩)) ?_
      have hret := Option.some.inj h
      subst hret
      refine AWp.le (Le.mk (s' := ⟨51, [(4, .own 3000), (5, .i (7 : Int))], [(3000, q1bS_9 [])], [], 0⟩) rfl rfl ⟨.refl _, .refl _, trivial⟩ ⟨⟨_, rfl, .refl _⟩, trivial⟩) ?_
      refine AWp.ret ?_
      refine thenQ_ret ?_
      exact bodyQ_ret _ rfl ⟨rfl, rfl⟩ rfl
    ·
      replace h := ite_fb hc2 h
      refine AWp.skip ?_
      refine thenQ_normal ?_
      refine q1rq [] [] ⟨51, [(0, q1aSSI x1), (1, .i x2), (7, .nils)], [], [], 0⟩ trivial ?_
      obtain ⟨K1, hK1, h⟩ := jn_some h
      refine AWp.join (α := List (List UInt8)) (fun (l8 : List (List UInt8)) => ⟨51, [(7, .own 5007)], [(5007, q1bS_9 l8)], [], 0⟩) (fun x => K1 x = some r) ?_ ?_
      ·
        refine q1rq [] [] ⟨51, [(0, q1aSSI x1), (1, .i x2), (7, .nils), (8, .i (0 : Int))], [], [], 0⟩ trivial ?_
        refine AWp.block ?_
        refine AWp.loopL (α := Nat × (Nat × List (List UInt8))) (fun x => match x with | (_, n4, l5) => ⟨51, (f8z1 x1 x2 n4), [(5007, q1bS_9 l5)], [], 0⟩) (fun x => f8_L0 x1 x2 K1 x.1 x.2 = some r) (fun x => x.1) (FUEL, 0, []) (Le.trans (Le.trans (Le.nilOwn 7 5007 9 1 (encF eS [] []) rfl rfl (Nat.le_of_ble_eq_true rfl)) (Le.mk (s' := ⟨51, [(0, q1aSSI x1), (1, .i x2), (7, .own 5007), (8, .i (0 : Int))], [(5007, q1bS_9 [])], [], 0⟩) rfl rfl ⟨.refl _, .refl _, .refl _, .refl _, trivial⟩ ⟨⟨_, rfl, .refl _⟩, trivial⟩)) (Le.mk (s' := ⟨51, [(0, q1aSSI x1), (1, .i x2), (7, .own 5007), (8, .i (0 : Int))], [(5007, q1bS_9 [])], [], 0⟩) rfl rfl ⟨.refl _, .refl _, .refl _, .refl _, trivial⟩ ⟨⟨_, rfl, .refl _⟩, trivial⟩)) h ?_
        rintro ⟨k0, n4, l5⟩ h
        cases k0 with
        | zero => exact nomatch (show (none : Option (Int × List (List UInt8))) = some r from h)
        | succ k0 =>
        obtain ⟨C0, hC0⟩ : ∃ C, C = f8_L0 x1 x2 K1 k0 := ⟨_, rfl⟩
        replace h := (f8_L0.eq_2 ..).symm.trans h
        try rw [← hC0] at h
        refine AWp.seq ?_
        refine q1rq [] [] ⟨51, [(0, q1aSSI x1), (1, .i x2), (7, .own 5007), (8, .i (n4 : Int)), (23, .bool (decide ((n4 : Int) < (lZ x1))))], [(5007, q1bS_9 l5)], [], 0⟩ trivial ?_
        refine AWp.cond (b := (decide ((n4 : Int) < (lZ x1)))) (by kernel_rfl) (fun hc3 => ?_) (fun hc3 => ?_)
        ·
          replace h := ite_tb hc3 h
          refine AWp.skip ?_
          refine thenQ_normal ?_
          refine AWp.seq ?_
          refine AWp.block ?_
          obtain ⟨K2, hK2, h⟩ := jn_some h
          refine AWp.join (α := List (List UInt8)) (fun (l6 : List (List UInt8)) => ⟨51, (f8z0 x1 x2 n4), [(32, q1bS_9 l6)], [], 0⟩) (fun x => K2 x = some r) ?_ ?_
          ·
            refine AWp.seq ?_
            obtain ⟨ob2p, h⟩ := chk_some h
            have ob2 : 0 ≤ (n4 : Int) ∧ 1 ≤ x2 := ⟨by omega, ob2p⟩
            refine q1rr [] [] ⟨51, [(0, q1aSSI x1), (1, .i x2), (7, .own 5007), (8, .i (n4 : Int)), (29, .bool (((n4 : Int) % x2) == (0 : Int)))], [(5007, q1bS_9 l5)], [], 0⟩ (an1 ob2) ?_
            refine thenQ_normal ?_
            refine AWp.cond (b := (((n4 : Int) % x2) == (0 : Int))) (by kernel_rfl) (fun hc4 => ?_) (fun hc4 => ?_)
            ·
              replace h := ite_tb hc4 h
              obtain ⟨ob3, h⟩ := chk_some h
              refine q1rr [] [] ⟨51, (f8z1 x1 x2 n4), [(5007, .rows 9 1 ((l5).length + 1) (appF (l5).length (encF eS [] l5) (lstF 1 [.str []])))], [], 0⟩ (an1 ob3) ?_
              exact joinQ_normal ((l5 ++ [[]])) (Le.trans (Le.mk (s' := ⟨51, (f8z1 x1 x2 n4), [(5007, q1bS_9 (l5 ++ [[]]))], [], 0⟩) rfl rfl ⟨.refl _, .refl _, .refl _, .refl _, trivial⟩ ⟨⟨_, rfl, (BLe.of (RL.app (RL.self _) (RL.lst (enc := eS) [[]] rfl rfl (fun _ => rfl))))⟩, trivial⟩) (Le.trans (Le.trans (Le.ren (swapN 5007 32) (swapN_inv 5007 32) rfl) (Le.mk (s' := ⟨51, (f8z0 x1 x2 n4), [(32, q1bS_9 (l5 ++ [[]]))], [], 0⟩) rfl rfl ⟨.refl _, .refl _, .refl _, .refl _, trivial⟩ ⟨⟨_, rfl, .refl _⟩, trivial⟩)) (Le.mk rfl rfl ⟨.refl _, .refl _, .refl _, .refl _, trivial⟩ ⟨⟨_, rfl, .refl _⟩, trivial⟩))) h
            ·
              replace h := ite_fb hc4 h
              refine AWp.skip ?_
              exact joinQ_normal (l5) (Le.trans (Le.trans (Le.ren (swapN 5007 32) (swapN_inv 5007 32) rfl) (Le.mk (s' := ⟨51, [(0, q1aSSI x1), (1, .i x2), (7, .own 32), (8, .i (n4 : Int)), (29, .bool (((n4 : Int) % x2) == (0 : Int)))], [(32, q1bS_9 l5)], [], 0⟩) rfl rfl ⟨.refl _, .refl _, .refl _, .refl _, .refl _, trivial⟩ ⟨⟨_, rfl, .refl _⟩, trivial⟩)) (Le.mk rfl rfl ⟨.refl _, .refl _, .refl _, .refl _, trivial⟩ ⟨⟨_, rfl, .refl _⟩, trivial⟩)) h
          ·
            rintro l6 h
            replace h := (congrFun hK2 _).symm.trans h
            obtain ⟨r7, hr7, h⟩ := bind_ok h
            obtain ⟨ob4, ob5, ob6, ob7, ob8p, h⟩ := ck5 h
            have ob8 : 0 ≤ (n4 : Int) ∧ (n4 : Int) < (((x1).length : Nat) : Int) := ⟨by omega, ob8p⟩
            obtain ⟨ob9, ob10, ob11, h⟩ := ck3 h
            refine q1rr [] [(14, ⟨[.agg [.str (x1.getD n4 q1dSSI).1, .str (x1.getD n4 q1dSSI).2.1, .i (x1.getD n4 q1dSSI).2.2]], [], [], [], .str r7, [], [], []⟩)] ⟨51, (f8z0 x1 x2 n4), [(32, .rows 9 1 (l6).length (updF (encF eS [] l6) ((((lZ l6) - (1 : Int))).toNat) 0 [.str ((l6.getD ((((lZ l6) - (1 : Int))).toNat) []) ++ r7)]))], [], 0⟩ (ac6 ob4 ob5 ob6 ob7 ob8 (cpT (f18_ok _ _ _ _ hr7)) (an3 ob9 ob10 ob11)) ?_
            refine blockQ_normal ?_
            refine thenQ_normal ?_
            refine AWp.le (Le.mk (s' := ⟨51, (f8z0 x1 x2 n4), (f8z2 l6 r7), [], 0⟩) rfl rfl ⟨.refl _, .refl _, .refl _, .refl _, trivial⟩ ⟨⟨_, rfl, (BLe.of (RL.set ((l6.getD ((((lZ l6) - (1 : Int))).toNat) []) ++ r7) (RL.self _) (by intro j hj; match j, hj with | 0, _ => rfl)))⟩, trivial⟩) ?_
            obtain ⟨ob12p, h⟩ := chk_some h
            have ob12 : -9223372036854775808 ≤ ((n4 : Int) + (1 : Int)) ∧ ((n4 : Int) + (1 : Int)) ≤ 9223372036854775807 := ⟨by omega, ob12p⟩
            refine q1rr [] [] ⟨51, [(0, q1aSSI x1), (1, .i x2), (7, .own 32), (8, .i (((n4 + 1) : Nat) : Int))], (f8z2 l6 r7), [], 0⟩ (an1 ob12) ?_
            rw [hC0] at h
            exact loopQ_normal (_, (n4 + 1), (l6.set ((((lZ l6) - (1 : Int))).toNat) ((l6.getD ((((lZ l6) - (1 : Int))).toNat) []) ++ r7))) (Le.trans (Le.trans (Le.ren (swapN 32 5007) (swapN_inv 32 5007) rfl) (Le.mk (s' := ⟨51, [(0, q1aSSI x1), (1, .i x2), (7, .own 5007), (8, .i (((n4 + 1) : Nat) : Int))], [(5007, q1bS_9 (l6.set ((((lZ l6) - (1 : Int))).toNat) ((l6.getD ((((lZ l6) - (1 : Int))).toNat) []) ++ r7)))], [], 0⟩) rfl rfl ⟨.refl _, .refl _, .refl _, .refl _, trivial⟩ ⟨⟨_, rfl, .refl _⟩, trivial⟩)) (Le.mk rfl rfl ⟨.refl _, .refl _, .refl _, .refl _, trivial⟩ ⟨⟨_, rfl, .refl _⟩, trivial⟩)) h (Nat.lt_succ_self _)
        ·
          replace h := ite_fb hc3 h
          refine AWp.exit ?_
          refine thenQ_exit ?_
          refine thenQ_exit ?_
          refine blockQ_same ?_
          exact joinQ_normal (l5) (Le.mk rfl rfl ⟨.refl _, trivial⟩ ⟨⟨_, rfl, .refl _⟩, trivial⟩) h
      ·
        rintro l8 h
        replace h := (congrFun hK1 _).symm.trans h
        refine q1rq [] [] ⟨51, [(4, .own 5007), (5, .i (0 : Int))], [(5007, q1bS_9 l8)], [], 0⟩ trivial ?_
        refine AWp.le (Le.trans (Le.ren (swapN 5007 3000) (swapN_inv 5007 3000) rfl) (Le.mk (s' := ⟨51, [(4, .own 3000), (5, .i (0 : Int))], [(3000, q1bS_9 l8)], [], 0⟩) rfl rfl ⟨.refl _, .refl _, trivial⟩ ⟨⟨_, rfl, .refl _⟩, trivial⟩)) ?_
        have hret := Option.some.inj h
        subst hret
        refine AWp.le (Le.mk (s' := ⟨51, [(4, .own 3000), (5, .i (0 : Int))], [(3000, q1bS_9 l8)], [], 0⟩) rfl rfl ⟨.refl _, .refl _, trivial⟩ ⟨⟨_, rfl, .refl _⟩, trivial⟩) ?_
        refine AWp.ret ?_
        exact bodyQ_ret _ rfl ⟨rfl, rfl⟩ rfl
def f5_L0 (x1 : List (List UInt8 × List UInt8 × Int)) (K1 : Unit → Option Bool) : Nat → Nat → Option Bool
  | 0, _ => none
  | k + 1, n2 =>
    if (decide ((n2 : Int) < (((x1).length : Nat) : Int))) then (
    chk ((n2 : Int) < (((x1).length : Nat) : Int)) <|
    chk (((decide (((((x1.getD n2 (default : List UInt8 × List UInt8 × Int)).1).length : Nat) : Int) > (80 : Int))) == false) = true → 0 ≤ (n2 : Int) ∧ (n2 : Int) < (((x1).length : Nat) : Int)) <|
    if ((decide (((((x1.getD n2 (default : List UInt8 × List UInt8 × Int)).1).length : Nat) : Int) > (80 : Int))) || (decide (((((x1.getD n2 (default : List UInt8 × List UInt8 × Int)).2.1).length : Nat) : Int) > (300 : Int)))) then (
    some false
    ) else (
    chk (((n2 : Int) + (1 : Int)) ≤ 9223372036854775807) <|
    (f5_L0 x1 K1 k) (n2 + 1)
    )
    ) else (
    K1 ()
    )
theorem f5_L0_e2 (x1 : List (List UInt8 × List UInt8 × Int)) (K1 : Unit → Option Bool) (k : Nat) (n2 : Nat) : f5_L0 x1 K1 (k + 1) n2 =
    if (decide ((n2 : Int) < (((x1).length : Nat) : Int))) then (
    chk ((n2 : Int) < (((x1).length : Nat) : Int)) <|
    chk (((decide (((((x1.getD n2 (default : List UInt8 × List UInt8 × Int)).1).length : Nat) : Int) > (80 : Int))) == false) = true → 0 ≤ (n2 : Int) ∧ (n2 : Int) < (((x1).length : Nat) : Int)) <|
    if ((decide (((((x1.getD n2 (default : List UInt8 × List UInt8 × Int)).1).length : Nat) : Int) > (80 : Int))) || (decide (((((x1.getD n2 (default : List UInt8 × List UInt8 × Int)).2.1).length : Nat) : Int) > (300 : Int)))) then (
    some false
    ) else (
    chk (((n2 : Int) + (1 : Int)) ≤ 9223372036854775807) <|
    (f5_L0 x1 K1 k) (n2 + 1)
    )
    ) else (
    K1 ()
    ) := rfl
abbrev f5z0 (x1 : List (List UInt8 × List UInt8 × Int)) (n2 : Nat) := (x1.getD n2 (default : List UInt8 × List UInt8 × Int))
def f5 (x1 : List (List UInt8 × List UInt8 × Int)) : Option Bool :=
  jn (fun (_ : Unit) =>
  some (decide ((((x1).length : Nat) : Int) ≤ (70 : Int)))
  ) fun (K1 : Unit → Option Bool) =>
  f5_L0 x1 K1 FUEL 0
set_option maxRecDepth 100000 in
theorem f5_ok  (x1 : List (List UInt8 × List UInt8 × Int)) (r : Bool) (h : f5 x1 = some r)  : Spec1 Tryz.prog 5 [] [] [] [vL 3 eSSI (default : List UInt8 × List UInt8 × Int) x1] (.bool r) [] := by
  unfold f5 at h
  refine Spec1.body 0 _ _ Tryz.func5 rfl Tryz.ntmps5 rfl rfl ?_
  refine q1rq [] [] ⟨29, [(0, q1aSSI x1)], [], [], 0⟩ trivial ?_
  obtain ⟨K1, hK1, h⟩ := jn_some h
  refine AWp.join (α := Unit) (fun (x : Unit) => match x with | () => ⟨29, [(0, q1aSSI x1)], [], [], 0⟩) (fun x => K1 x = some r) ?_ ?_
  ·
    refine q1rq [] [] ⟨29, [(0, q1aSSI x1), (3, .i (0 : Int))], [], [], 0⟩ trivial ?_
    refine AWp.block ?_
    refine AWp.loopL (α := Nat × Nat) (fun x => match x with | (_, n2) => ⟨29, [(0, q1aSSI x1), (3, .i (n2 : Int))], [], [], 0⟩) (fun x => f5_L0 x1 K1 x.1 x.2 = some r) (fun x => x.1) (FUEL, 0) (Le.mk (s' := ⟨29, [(0, q1aSSI x1), (3, .i (0 : Int))], [], [], 0⟩) rfl rfl ⟨.refl _, .refl _, trivial⟩ trivial) h ?_
    rintro ⟨k0, n2⟩ h
    cases k0 with
    | zero => exact nomatch (show (none : Option Bool) = some r from h)
    | succ k0 =>
    obtain ⟨C0, hC0⟩ : ∃ C, C = f5_L0 x1 K1 k0 := ⟨_, rfl⟩
    replace h := (f5_L0_e2 ..).symm.trans h
    try rw [← hC0] at h
    refine AWp.seq ?_
    refine q1rq [] [] ⟨29, [(0, q1aSSI x1), (3, .i (n2 : Int)), (7, .bool (decide ((n2 : Int) < (lZ x1))))], [], [], 0⟩ trivial ?_
    refine AWp.cond (b := (decide ((n2 : Int) < (lZ x1)))) (by kernel_rfl) (fun hc1 => ?_) (fun hc1 => ?_)
    ·
      replace h := ite_tb hc1 h
      refine AWp.skip ?_
      refine thenQ_normal ?_
      refine AWp.seq ?_
      refine AWp.block ?_
      refine AWp.seq ?_
      obtain ⟨ob0p, h⟩ := chk_some h
      have ob0 : 0 ≤ (n2 : Int) ∧ (n2 : Int) < (((x1).length : Nat) : Int) := ⟨by omega, ob0p⟩
      obtain ⟨ob1, h⟩ := chk_some h
      have ob2 := idA (((decide (((((f5z0 x1 n2).1).length : Nat) : Int) > (80 : Int))) == false) = true)
      have ob8 := bqA (decide (((((f5z0 x1 n2).1).length : Nat) : Int) > (80 : Int))) false
      refine q1rr [] [] ⟨29, [(0, q1aSSI x1), (3, .i (n2 : Int)), (25, .bool ((decide (((((f5z0 x1 n2).1).length : Nat) : Int) > (80 : Int))) || (decide (((((f5z0 x1 n2).2.1).length : Nat) : Int) > (300 : Int)))))], [], [], 0⟩ (ac6 ob0 (And.intro ob1 (an2 ob2 ob2)) (an1 ob2) (an1 ob2) (an1 ob2) (an1 ob2) (an1 ob8)) ?_
      refine thenQ_normal ?_
      refine AWp.cond (b := ((decide (((((f5z0 x1 n2).1).length : Nat) : Int) > (80 : Int))) || (decide (((((f5z0 x1 n2).2.1).length : Nat) : Int) > (300 : Int))))) (by kernel_rfl) (fun hc2 => ?_) (fun hc2 => ?_)
      ·
        replace h := ite_tb hc2 h
        refine q1rq [] [] ⟨29, [(2, .bool false)], [], [], 0⟩ trivial ?_
        have hret := Option.some.inj h
        subst hret
        refine AWp.ret ?_
        refine blockQ_ret ?_
        refine thenQ_ret ?_
        refine thenQ_ret ?_
        refine blockQ_ret ?_
        refine joinQ_ret ?_
        exact bodyQ_ret _ rfl ⟨rfl, rfl⟩ rfl
      ·
        replace h := ite_fb hc2 h
        refine AWp.skip ?_
        refine blockQ_normal ?_
        refine thenQ_normal ?_
        obtain ⟨ob9p, h⟩ := chk_some h
        have ob9 : -9223372036854775808 ≤ ((n2 : Int) + (1 : Int)) ∧ ((n2 : Int) + (1 : Int)) ≤ 9223372036854775807 := ⟨by omega, ob9p⟩
        refine q1rr [] [] ⟨29, [(0, q1aSSI x1), (3, .i (((n2 + 1) : Nat) : Int))], [], [], 0⟩ (an1 ob9) ?_
        rw [hC0] at h
        exact loopQ_normal (_, (n2 + 1)) (Le.mk rfl rfl ⟨.refl _, .refl _, trivial⟩ trivial) h (Nat.lt_succ_self _)
    ·
      replace h := ite_fb hc1 h
      refine AWp.exit ?_
      refine thenQ_exit ?_
      refine thenQ_exit ?_
      refine blockQ_same ?_
      exact joinQ_normal () (Le.mk rfl rfl ⟨.refl _, trivial⟩ trivial) h
  ·
    rintro ⟨⟩ h
    replace h := (congrFun hK1 _).symm.trans h
    refine q1rq [] [] ⟨29, [(2, .bool (decide ((lZ x1) ≤ (70 : Int))))], [], [], 0⟩ trivial ?_
    have hret := Option.some.inj h
    subst hret
    refine AWp.ret ?_
    exact bodyQ_ret _ rfl ⟨rfl, rfl⟩ rfl
def f11_L0 (x1 : List (List UInt8 × List UInt8 × Int)) (x2 : List (List UInt8 × List UInt8 × Int)) (K1 : Unit → Option Bool) : Nat → Nat → Option Bool
  | 0, _ => none
  | k + 1, n3 =>
    if (decide ((n3 : Int) < (((x1).length : Nat) : Int))) then (
    chk ((n3 : Int) < (((x1).length : Nat) : Int)) <|
    chk ((n3 : Int) < (((x2).length : Nat) : Int)) <|
    if (!((((x1.getD n3 (default : List UInt8 × List UInt8 × Int)).1) == ((x2.getD n3 (default : List UInt8 × List UInt8 × Int)).1)) && ((((x1.getD n3 (default : List UInt8 × List UInt8 × Int)).2.1) == ((x2.getD n3 (default : List UInt8 × List UInt8 × Int)).2.1)) && (((x1.getD n3 (default : List UInt8 × List UInt8 × Int)).2.2 == (x2.getD n3 (default : List UInt8 × List UInt8 × Int)).2.2) && true)))) then (
    some false
    ) else (
    chk (((n3 : Int) + (1 : Int)) ≤ 9223372036854775807) <|
    (f11_L0 x1 x2 K1 k) (n3 + 1)
    )
    ) else (
    K1 ()
    )
abbrev f11z0 (x1 : List (List UInt8 × List UInt8 × Int)) (n3 : Nat) := (x1.getD n3 (default : List UInt8 × List UInt8 × Int))
abbrev f11z1 (x2 : List (List UInt8 × List UInt8 × Int)) (n3 : Nat) := (x2.getD n3 (default : List UInt8 × List UInt8 × Int))
def f11 (x1 : List (List UInt8 × List UInt8 × Int)) (x2 : List (List UInt8 × List UInt8 × Int)) : Option Bool :=
  if ((((x1).length : Nat) : Int) != (((x2).length : Nat) : Int)) then (
  some false
  ) else (
  jn (fun (_ : Unit) =>
  some true
  ) fun (K1 : Unit → Option Bool) =>
  f11_L0 x1 x2 K1 FUEL 0
  )
set_option maxRecDepth 100000 in
theorem f11_ok  (x1 : List (List UInt8 × List UInt8 × Int)) (x2 : List (List UInt8 × List UInt8 × Int)) (r : Bool) (h : f11 x1 x2 = some r)  : Spec1 Tryz.prog 11 [] [] [] [vL 3 eSSI (default : List UInt8 × List UInt8 × Int) x1, vL 3 eSSI (default : List UInt8 × List UInt8 × Int) x2] (.bool r) [] := by
  unfold f11 at h
  refine Spec1.body 0 _ _ Tryz.func11 rfl Tryz.ntmps11 rfl rfl ?_
  refine q1rq [] [] ⟨26, [(0, q1aSSI x1), (1, q1aSSI x2)], [], [], 0⟩ trivial ?_
  refine AWp.seq ?_
  refine q1rq [] [] ⟨26, [(0, q1aSSI x1), (1, q1aSSI x2), (10, .bool ((lZ x1) != (lZ x2)))], [], [], 0⟩ trivial ?_
  refine AWp.cond (b := ((lZ x1) != (lZ x2))) (by kernel_rfl) (fun hc1 => ?_) (fun hc1 => ?_)
  ·
    replace h := ite_tb hc1 h
    refine q1rq [] [] ⟨26, [(4, .bool false)], [], [], 0⟩ trivial ?_
    have hret := Option.some.inj h
    subst hret
    refine AWp.ret ?_
    refine thenQ_ret ?_
    exact bodyQ_ret _ rfl ⟨rfl, rfl⟩ rfl
  ·
    replace h := ite_fb hc1 h
    refine AWp.skip ?_
    refine thenQ_normal ?_
    obtain ⟨K1, hK1, h⟩ := jn_some h
    refine AWp.join (α := Unit) (fun (x : Unit) => match x with | () => ⟨26, [], [], [], 0⟩) (fun x => K1 x = some r) ?_ ?_
    ·
      refine q1rq [] [] ⟨26, [(0, q1aSSI x1), (1, q1aSSI x2), (5, .i (0 : Int))], [], [], 0⟩ trivial ?_
      refine AWp.block ?_
      refine AWp.loopL (α := Nat × Nat) (fun x => match x with | (_, n3) => ⟨26, [(0, q1aSSI x1), (1, q1aSSI x2), (5, .i (n3 : Int))], [], [], 0⟩) (fun x => f11_L0 x1 x2 K1 x.1 x.2 = some r) (fun x => x.1) (FUEL, 0) (Le.mk (s' := ⟨26, [(0, q1aSSI x1), (1, q1aSSI x2), (5, .i (0 : Int))], [], [], 0⟩) rfl rfl ⟨.refl _, .refl _, .refl _, trivial⟩ trivial) h ?_
      rintro ⟨k0, n3⟩ h
      cases k0 with
      | zero => exact nomatch (show (none : Option Bool) = some r from h)
      | succ k0 =>
      obtain ⟨C0, hC0⟩ : ∃ C, C = f11_L0 x1 x2 K1 k0 := ⟨_, rfl⟩
      replace h := (f11_L0.eq_2 ..).symm.trans h
      try rw [← hC0] at h
      refine AWp.seq ?_
      refine q1rq [] [] ⟨26, [(0, q1aSSI x1), (1, q1aSSI x2), (5, .i (n3 : Int)), (14, .bool (decide ((n3 : Int) < (lZ x1))))], [], [], 0⟩ trivial ?_
      refine AWp.cond (b := (decide ((n3 : Int) < (lZ x1)))) (by kernel_rfl) (fun hc2 => ?_) (fun hc2 => ?_)
      ·
        replace h := ite_tb hc2 h
        refine AWp.skip ?_
        refine thenQ_normal ?_
        refine AWp.seq ?_
        refine AWp.block ?_
        refine AWp.seq ?_
        obtain ⟨ob0p, h⟩ := chk_some h
        have ob0 : 0 ≤ (n3 : Int) ∧ (n3 : Int) < (((x1).length : Nat) : Int) := ⟨by omega, ob0p⟩
        obtain ⟨ob1p, h⟩ := chk_some h
        have ob1 : 0 ≤ (n3 : Int) ∧ (n3 : Int) < (((x2).length : Nat) : Int) := ⟨by omega, ob1p⟩
        refine q1rr [] [] ⟨26, [(0, q1aSSI x1), (1, q1aSSI x2), (5, .i (n3 : Int)), (25, .bool (!((((f11z0 x1 n3).1) == ((f11z1 x2 n3).1)) && ((((f11z0 x1 n3).2.1) == ((f11z1 x2 n3).2.1)) && (((f11z0 x1 n3).2.2 == (f11z1 x2 n3).2.2) && true)))))], [], [], 0⟩ (an2 ob0 ob1) ?_
        refine thenQ_normal ?_
        refine AWp.cond (b := (!((((f11z0 x1 n3).1) == ((f11z1 x2 n3).1)) && ((((f11z0 x1 n3).2.1) == ((f11z1 x2 n3).2.1)) && (((f11z0 x1 n3).2.2 == (f11z1 x2 n3).2.2) && true))))) (by kernel_rfl) (fun hc3 => ?_) (fun hc3 => ?_)
        ·
          replace h := ite_tb hc3 h
          refine q1rq [] [] ⟨26, [(4, .bool false)], [], [], 0⟩ trivial ?_
          have hret := Option.some.inj h
          subst hret
          refine AWp.ret ?_
          refine blockQ_ret ?_
          refine thenQ_ret ?_
          refine thenQ_ret ?_
          refine blockQ_ret ?_
          refine joinQ_ret ?_
          exact bodyQ_ret _ rfl ⟨rfl, rfl⟩ rfl
        ·
          replace h := ite_fb hc3 h
          refine AWp.skip ?_
          refine blockQ_normal ?_
          refine thenQ_normal ?_
          obtain ⟨ob2p, h⟩ := chk_some h
          have ob2 : -9223372036854775808 ≤ ((n3 : Int) + (1 : Int)) ∧ ((n3 : Int) + (1 : Int)) ≤ 9223372036854775807 := ⟨by omega, ob2p⟩
          refine q1rr [] [] ⟨26, [(0, q1aSSI x1), (1, q1aSSI x2), (5, .i (((n3 + 1) : Nat) : Int))], [], [], 0⟩ (an1 ob2) ?_
          rw [hC0] at h
          exact loopQ_normal (_, (n3 + 1)) (Le.mk rfl rfl ⟨.refl _, .refl _, .refl _, trivial⟩ trivial) h (Nat.lt_succ_self _)
      ·
        replace h := ite_fb hc2 h
        refine AWp.exit ?_
        refine thenQ_exit ?_
        refine thenQ_exit ?_
        refine blockQ_same ?_
        exact joinQ_normal () (Le.mk rfl rfl trivial trivial) h
    ·
      rintro ⟨⟩ h
      replace h := (congrFun hK1 _).symm.trans h
      refine q1rq [] [] ⟨26, [(4, .bool true)], [], [], 0⟩ trivial ?_
      have hret := Option.some.inj h
      subst hret
      refine AWp.ret ?_
      exact bodyQ_ret _ rfl ⟨rfl, rfl⟩ rfl
abbrev f3z0 (r7 : Int × List (List UInt8)) (r8 : Int × List (List UInt8)) : Heap := [(6002, bL 9 1 eS [] r7.2), (6003, bL 9 1 eS [] r8.2)]
def f3 (x1 : List (List UInt8 × List UInt8 × Int)) (x2 : Int) : Option Bool :=
  (f4 ).bind fun (r3 : Bool) =>
  optc ((!r3) == false) (f5 x1) fun (r4 : Bool) =>
  if ((!r3) || (!r4)) then (
  (f4 ).bind fun (r5 : Bool) =>
  some r5
  ) else (
  (f7 x1).bind fun (r6 : List (List UInt8 × List UInt8 × Int)) =>
  (f6 r6 x2).bind fun (r7 : Int × List (List UInt8)) =>
  (f8 x1 x2).bind fun (r8 : Int × List (List UInt8)) =>
  optc ((r7.1 != r8.1) == false) (f9 r7.2 r8.2) fun (r9 : Bool) =>
  if (((r7.1 != r8.1) || (!r9)) || (r7.1 != (0 : Int))) then (
  optc ((r7.1 == r8.1) == true) (f9 r7.2 r8.2) fun (r10 : Bool) =>
  some ((r7.1 == r8.1) && r10)
  ) else (
  (f10 r7.2).bind fun (r11 : (List (List UInt8 × List UInt8 × Int)) × Int) =>
  optc ((r11.2 == (0 : Int)) == true) (f11 r11.1 x1) fun (r12 : Bool) =>
  some ((r11.2 == (0 : Int)) && r12)
  )
  )
set_option maxRecDepth 100000 in
theorem f3_ok  (x1 : List (List UInt8 × List UInt8 × Int)) (x2 : Int) (r : Bool) (h : f3 x1 x2 = some r)  : Spec1 Tryz.prog 3 [(1, errG), (2, errG), (3, .tab .u64 Lib.pow10Tab)] [] [] [vL 3 eSSI (default : List UInt8 × List UInt8 × Int) x1, .int .i64 x2] (.bool r) [] := by
  unfold f3 at h
  refine Spec1.body 0 _ _ Tryz.func3 rfl Tryz.ntmps3 rfl rfl ?_
  refine q1rq [] [] ⟨65, [(0, q1aSSI x1), (1, .i x2), (1000001, errG), (1000002, errG), (1000003, .tab .u64 Lib.pow10Tab)], [], [], 0⟩ trivial ?_
  refine AWp.seq ?_
  refine AWp.seq ?_
  obtain ⟨r3, hr3, h⟩ := bind_ok h
  obtain ⟨r4, hr4, h⟩ := optc_some h
  have ob0 := idA (((!r3) == false) = true)
  have ob2 := bqA (!r3) false
  refine q1rr [] [(0, ⟨[], [], [], [], .bool r3, [], [], [3]⟩), (4, ⟨[q1aSSI x1], [], [], [], .bool r4, [], [], []⟩)] ⟨65, [(0, q1aSSI x1), (1, .i x2), (17, .bool ((!r3) || (!r4))), (1000001, errG), (1000002, errG), (1000003, .tab .u64 Lib.pow10Tab)], [], [], 0⟩ (an4 (cpT (f4_ok _ hr3)) (And.intro (cpC fun hc => (f5_ok _ _ (hr4 hc))) (an1 ob0)) (an1 ob0) ob2) ?_
  refine thenQ_normal ?_
  refine AWp.cond (b := ((!r3) || (!r4))) (by kernel_rfl) (fun hc1 => ?_) (fun hc1 => ?_)
  ·
    replace h := ite_tb hc1 h
    refine AWp.seq ?_
    obtain ⟨r5, hr5, h⟩ := bind_ok h
    refine q1rr [] [(0, ⟨[], [], [], [], .bool r5, [], [], [3]⟩)] ⟨65, [(4, .bool r5), (1000001, errG), (1000002, errG), (1000003, .tab .u64 Lib.pow10Tab)], [], [], 0⟩ (an1 (cpT (f4_ok _ hr5))) ?_
    refine thenQ_normal ?_
    have hret := Option.some.inj h
    subst hret
    refine AWp.le (Le.mk (s' := ⟨65, [(4, .bool r5)], [], [], 0⟩) rfl rfl ⟨.refl _, trivial⟩ trivial) ?_
    refine AWp.ret ?_
    refine thenQ_ret ?_
    exact bodyQ_ret _ rfl ⟨rfl, rfl⟩ rfl
  ·
    replace h := ite_fb hc1 h
    refine AWp.skip ?_
    refine thenQ_normal ?_
    refine AWp.seq ?_
    obtain ⟨r6, hr6, h⟩ := bind_ok h
    obtain ⟨r7, hr7, h⟩ := bind_ok h
    refine q1rr [] [(1, ⟨[q1aSSI x1], [], [], [(6001, q1bSSI_31 r6)], .own 6001, [6001], [], []⟩), (3, ⟨[q1aSSI r6, .i x2], [], [], [(6002, q1bS_9 r7.2)], .tup [.own 6002, .i r7.1], [6002], [6001], [3]⟩)] ⟨65, [(0, q1aSSI x1), (1, .i x2), (5, .own 6002), (6, .i r7.1), (1000001, errG), (1000002, errG), (1000003, .tab .u64 Lib.pow10Tab)], [(6002, q1bS_9 r7.2)], [], 0⟩ (an2 (cpT (Spec1.ren (swapN 3000 6001) (swapN_inv 3000 6001) rfl (f7_ok _ _ hr6))) (cpL (c := true) [(6001, q1bSSI_31 r6)] [6001] [.own 6001, .i x2] (fun _ => (Spec1.ren (swapN 3000 6002) (swapN_inv 3000 6002) rfl (f6_ok _ _ _ hr7))) (fun _ => ⟨.refl _, .refl _, trivial⟩) (.inr ⟨rfl, ⟨(fun _ _ _ _ => eS_flat _ _), trivial⟩⟩))) ?_
    refine thenQ_normal ?_
    refine AWp.seq ?_
    obtain ⟨r8, hr8, h⟩ := bind_ok h
    refine q1rr [] [(2, ⟨[q1aSSI x1, .i x2], [], [], [(6003, q1bS_9 r8.2)], .tup [.own 6003, .i r8.1], [6003], [], []⟩)] ⟨65, [(0, q1aSSI x1), (5, .own 6002), (6, .i r7.1), (7, .own 6003), (8, .i r8.1), (1000001, errG), (1000002, errG), (1000003, .tab .u64 Lib.pow10Tab)], (f3z0 r7 r8), [], 0⟩ (an1 (cpT (Spec1.ren (swapN 3000 6003) (swapN_inv 3000 6003) rfl (f8_ok _ _ _ hr8)))) ?_
    refine thenQ_normal ?_
    refine AWp.seq ?_
    refine AWp.seq ?_
    obtain ⟨r9, hr9, h⟩ := optc_some h
    have ob3 := idA (((r7.1 != r8.1) == false) = true)
    have ob6 := bqA (r7.1 != r8.1) false
    have ob7 := idA ((((r7.1 != r8.1) || (!r9)) == false) = true)
    have ob8 := bqA ((r7.1 != r8.1) || (!r9)) false
    refine q1rr [] [(6, ⟨[q1aS r7.2, q1aS r8.2], [], [], [], .bool r9, [], [6002, 6003], []⟩)] ⟨65, [(0, q1aSSI x1), (5, .own 6002), (6, .i r7.1), (7, .own 6003), (8, .i r8.1), (44, .bool (((r7.1 != r8.1) || (!r9)) || (r7.1 != (0 : Int)))), (1000001, errG), (1000002, errG), (1000003, .tab .u64 Lib.pow10Tab)], (f3z0 r7 r8), [], 0⟩ (an5 (And.intro (cpL (f3z0 r7 r8) [6002, 6003] [.own 6002, .own 6003] (fun hc => (f9_ok _ _ _ (hr9 hc))) (fun _ => ⟨.refl _, .refl _, trivial⟩) (.inr ⟨rfl, trivial⟩)) (an2 ob3 ob3)) (an1 ob3) ob6 (an1 ob7) ob8) ?_
    refine thenQ_normal ?_
    refine AWp.cond (b := (((r7.1 != r8.1) || (!r9)) || (r7.1 != (0 : Int)))) (by kernel_rfl) (fun hc2 => ?_) (fun hc2 => ?_)
    ·
      replace h := ite_tb hc2 h
      refine AWp.seq ?_
      obtain ⟨r10, hr10, h⟩ := optc_some h
      have ob9 := idA (((r7.1 == r8.1) == true) = true)
      have ob11 := bqA (r7.1 == r8.1) true
      refine q1rr [] [(6, ⟨[q1aS r7.2, q1aS r8.2], [], [], [], .bool r10, [], [6002, 6003], []⟩)] ⟨65, [(4, .bool ((r7.1 == r8.1) && r10)), (1000001, errG), (1000002, errG), (1000003, .tab .u64 Lib.pow10Tab)], [], [], 0⟩ (an2 (And.intro (cpL (f3z0 r7 r8) [6002, 6003] [.own 6002, .own 6003] (fun hc => (f9_ok _ _ _ (hr10 hc))) (fun _ => ⟨.refl _, .refl _, trivial⟩) (.inr ⟨rfl, trivial⟩)) (an2 ob9 ob9)) ob11) ?_
      refine thenQ_normal ?_
      have hret := Option.some.inj h
      subst hret
      refine AWp.le (Le.mk (s' := ⟨65, [(4, .bool ((r7.1 == r8.1) && r10))], [], [], 0⟩) rfl rfl ⟨.refl _, trivial⟩ trivial) ?_
      refine AWp.ret ?_
      refine thenQ_ret ?_
      exact bodyQ_ret _ rfl ⟨rfl, rfl⟩ rfl
    ·
      replace h := ite_fb hc2 h
      refine AWp.skip ?_
      refine thenQ_normal ?_
      refine AWp.seq ?_
      refine AWp.le (Le.trans (Le.freeze 6002 rfl rfl) (Le.mk (s' := ⟨65, [(0, q1aSSI x1), (5, q1aS r7.2), (6, .i r7.1), (7, .own 6003), (8, .i r8.1), (44, .bool (((r7.1 != r8.1) || (!r9)) || (r7.1 != (0 : Int)))), (1000001, errG), (1000002, errG), (1000003, .tab .u64 Lib.pow10Tab)], [(6003, q1bS_9 r8.2)], [], 0⟩) rfl rfl ⟨.refl _, .refl _, .refl _, .refl _, .refl _, .refl _, .refl _, .refl _, .refl _, trivial⟩ ⟨⟨_, rfl, .refl _⟩, trivial⟩)) ?_
      obtain ⟨r11, hr11, h⟩ := bind_ok h
      refine q1rr [] [(1, ⟨[q1aS r7.2], [], [], [], .tup [q1aSSI r11.1, .i r11.2], [], [], [1, 2, 3]⟩)] ⟨65, [(0, q1aSSI x1), (9, q1aSSI r11.1), (10, .i r11.2), (1000001, errG), (1000002, errG), (1000003, .tab .u64 Lib.pow10Tab)], [], [], 0⟩ (an1 (cpT (f10_ok _ _ hr11))) ?_
      refine thenQ_normal ?_
      refine AWp.seq ?_
      obtain ⟨r12, hr12, h⟩ := optc_some h
      have ob12 := idA (((r11.2 == (0 : Int)) == true) = true)
      have ob14 := bqA (r11.2 == (0 : Int)) true
      refine q1rr [] [(5, ⟨[q1aSSI r11.1, q1aSSI x1], [], [], [], .bool r12, [], [], []⟩)] ⟨65, [(4, .bool ((r11.2 == (0 : Int)) && r12)), (1000001, errG), (1000002, errG), (1000003, .tab .u64 Lib.pow10Tab)], [], [], 0⟩ (an2 (And.intro (cpC fun hc => (f11_ok _ _ _ (hr12 hc))) (an2 ob12 ob12)) ob14) ?_
      refine thenQ_normal ?_
      have hret := Option.some.inj h
      subst hret
      refine AWp.le (Le.mk (s' := ⟨65, [(4, .bool ((r11.2 == (0 : Int)) && r12))], [], [], 0⟩) rfl rfl ⟨.refl _, trivial⟩ trivial) ?_
      refine AWp.ret ?_
      exact bodyQ_ret _ rfl ⟨rfl, rfl⟩ rfl
end Go.Abs
namespace Go.Abs
theorem f4_true : f4 = some true := by kernel_rfl
end Go.Abs
