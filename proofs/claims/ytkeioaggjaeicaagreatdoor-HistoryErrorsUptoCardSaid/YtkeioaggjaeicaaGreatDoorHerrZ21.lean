/- Part 21 of the proof: X57. -/
import Derived.Test.YtkeioaggjaeicaaGreatDoorHerrZ20
namespace Go.Abs
open Go Go.Proofs
set_option maxHeartbeats 4000000
theorem Tryz_mixed : Tryz.prog.follows .mixedOrders = true := by kernel_rfl
def T6 : List Nat := [0, 1, 28, 2, 29, 14, 24, 3, 30, 22, 20, 15, 25, 17, 4, 8, 31, 27, 13, 23, 21, 19, 16, 7, 26, 12, 18, 6, 11, 5, 10, 9]
def T7 : List Nat := [0, 1, 56, 2, 57, 49, 28, 3, 61, 58, 42, 50, 38, 29, 17, 4, 62, 47, 59, 36, 45, 43, 51, 22, 53, 39, 33, 30, 24, 18, 12, 5, 63, 55, 48, 27, 60, 41, 37, 16, 46, 35, 44, 21, 52, 32, 23, 11, 54, 26, 40, 15, 34, 20, 31, 10, 25, 14, 19, 9, 13, 8, 7, 6]
def T3 : List Nat := [1, 10, 100, 1000, 10000, 100000, 1000000, 10000000, 100000000, 1000000000, 10000000000, 100000000000, 1000000000000, 10000000000000, 100000000000000, 1000000000000000, 10000000000000000, 100000000000000000, 1000000000000000000, 10000000000000000000]
def T5 : List Nat := [128, 191, 160, 191, 128, 159, 144, 191, 128, 143, 0, 0, 0, 0, 0, 0, 0, 0, 0, 0, 0, 0, 0, 0, 0, 0, 0, 0, 0, 0, 0, 0]
def cs0 : List UInt8 := [112, 117, 116, 32, 97, 32, 120]
def cs1 : List UInt8 := [103, 101, 116, 32, 97]
def cs2 : List UInt8 := [118, 97, 108, 117, 101, 32, 120, 32, 49]
instance : DecidableEq (Int × Int × Int × List UInt8 × List UInt8) := @instDecidableEqProd Int _ inferInstance (@instDecidableEqProd Int _ inferInstance (@instDecidableEqProd Int _ inferInstance (@instDecidableEqProd (List UInt8) _ inferInstance (inferInstance))))
def eT31 (x : Int × Int × Int × List UInt8 × List UInt8) : List V := [.int .i64 x.1, .int .i64 x.2.1, .int .i64 x.2.2.1, .str x.2.2.2.1, .str x.2.2.2.2]
theorem eT31_flat (x : Int × Int × Int × List UInt8 × List UInt8) (j : Nat) : ((eT31 x).getD j .any).flat = true := by
  match j with
  | 0 => rfl
  | 1 => rfl
  | 2 => rfl
  | 3 => rfl
  | 4 => rfl
  | _ + 5 => rfl
def eS (x : List UInt8) : List V := [.str x]
theorem eS_flat (x : List UInt8) (j : Nat) : ((eS x).getD j .any).flat = true := by
  match j with
  | 0 => rfl
  | _ + 1 => rfl
def m104 (x : List UInt8 × Bool × Bool × Bool) : V := .agg [.str x.1, .bool x.2.1, .bool x.2.2.1, .bool x.2.2.2]
def cs3 : List UInt8 := [100, 101, 108, 101, 116, 101]
def cs4 : List UInt8 := [97, 112, 112, 101, 110, 100]
def cs5 : List UInt8 := [99, 111, 117, 110, 116]
def mk65 : List (Int) := (((((([] ++ [(1 : Int)]) ++ [(2 : Int)]) ++ [(3 : Int)]) ++ [(4 : Int)]) ++ [(5 : Int)]) ++ [(6 : Int)])
def mv65 : List (List UInt8 × Bool × Bool × Bool) := (((((([] ++ [(([112, 117, 116] : List UInt8), true, false, true)]) ++ [(([103, 101, 116] : List UInt8), true, false, false)]) ++ [(cs3, true, false, false)]) ++ [(cs4, true, false, true)]) ++ [(([99, 97, 115] : List UInt8), true, true, true)]) ++ [(cs5, false, false, false)])
def eI (x : Int) : List V := [.int .i64 x]
def eSSI (x : List UInt8 × List UInt8 × Int) : List V := [.str x.1, .str x.2.1, .int .i64 x.2.2]
instance : DecidableEq (List (List UInt8 × List UInt8 × Int)) := inferInstance
def eLSSIJ (x : List (List UInt8 × List UInt8 × Int)) : List V := [vL 3 eSSI (default : List UInt8 × List UInt8 × Int) x]
instance : DecidableEq (List (List (List UInt8 × List UInt8 × Int))) := inferInstance
theorem kE62 : KeyE Tryz.prog 61 (V.int .u64) := keyE_plain Tryz.underlying61 (keyEq_int .u64) (fun _ => rfl) (fun _ => rfl)
def cs6 : List UInt8 := [105, 110, 118, 97, 108, 105, 100]
def cs7 : List UInt8 := [99, 111, 117, 110, 116, 32]
def cs8 : List UInt8 := [118, 97, 108, 117, 101, 32]
def cs9 : List UInt8 := [0, 1, 2, 2, 3, 3, 3, 3, 4, 4, 4, 4, 4, 4, 4, 4, 5, 5, 5, 5, 5, 5, 5, 5, 5, 5, 5, 5, 5, 5, 5, 5, 6, 6, 6, 6, 6, 6, 6, 6, 6, 6, 6, 6, 6, 6, 6, 6, 6, 6, 6, 6, 6, 6, 6, 6, 6, 6, 6, 6, 6, 6, 6, 6, 7, 7, 7, 7, 7, 7, 7, 7, 7, 7, 7, 7, 7, 7, 7, 7, 7, 7, 7, 7, 7, 7, 7, 7, 7, 7, 7, 7, 7, 7, 7, 7, 7, 7, 7, 7, 7, 7, 7, 7, 7, 7, 7, 7, 7, 7, 7, 7, 7, 7, 7, 7, 7, 7, 7, 7, 7, 7, 7, 7, 7, 7, 7, 7, 8, 8, 8, 8, 8, 8, 8, 8, 8, 8, 8, 8, 8, 8, 8, 8, 8, 8, 8, 8, 8, 8, 8, 8, 8, 8, 8, 8, 8, 8, 8, 8, 8, 8, 8, 8, 8, 8, 8, 8, 8, 8, 8, 8, 8, 8, 8, 8, 8, 8, 8, 8, 8, 8, 8, 8, 8, 8, 8, 8, 8, 8, 8, 8, 8, 8, 8, 8, 8, 8, 8, 8, 8, 8, 8, 8, 8, 8, 8, 8, 8, 8, 8, 8, 8, 8, 8, 8, 8, 8, 8, 8, 8, 8, 8, 8, 8, 8, 8, 8, 8, 8, 8, 8, 8, 8, 8, 8, 8, 8, 8, 8, 8, 8, 8, 8, 8, 8, 8, 8, 8, 8, 8, 8, 8, 8, 8, 8]
abbrev q1aT31 (l : List (Int × Int × Int × List UInt8 × List UInt8)) : V := vL 5 eT31 (default : Int × Int × Int × List UInt8 × List UInt8) l
abbrev q1bT31_31 (l : List (Int × Int × Int × List UInt8 × List UInt8)) : Blk := bL 31 5 eT31 (default : Int × Int × Int × List UInt8 × List UInt8) l
abbrev q1dT31 : Int × Int × Int × List UInt8 × List UInt8 := default
abbrev q1aS (l : List (List UInt8)) : V := vL 1 eS [] l
abbrev q1bS_9 (l : List (List UInt8)) : Blk := bL 9 1 eS [] l
abbrev q1dSBBB : List UInt8 × Bool × Bool × Bool := default
abbrev q1aI (l : List (Int)) : V := vL 1 eI 0 l
abbrev q1bI_3 (l : List (Int)) : Blk := bL 3 1 eI 0 l
abbrev q1aSSI (l : List (List UInt8 × List UInt8 × Int)) : V := vL 3 eSSI (default : List UInt8 × List UInt8 × Int) l
abbrev q1bSSI_101 (l : List (List UInt8 × List UInt8 × Int)) : Blk := bL 101 3 eSSI (default : List UInt8 × List UInt8 × Int) l
abbrev q1dSSI : List UInt8 × List UInt8 × Int := default
abbrev q1bLSSIJ_57 (l : List (List (List UInt8 × List UInt8 × Int))) : Blk := bL 57 1 eLSSIJ [] l
theorem q1rq {Q : Exit → S → Prop} {id : Nat} {draw : Bool} {y : Code} (W : List Nat) (calls : List (Nat × CC)) {l : List Oper} {s : S} (s' : S) {φ : Prop} (hφ : φ) (hQ : AWp Tryz.prog y Q s') (h : Abs.regC Tryz.prog W draw calls (s'.t.map (·.1)) (s'.h.map (·.1)) l s = some (s', φ) := by kernel_rfl) : AWp Tryz.prog (.seq (.region id l.toArray draw) y) Q s := AWp.sq W calls _ _ s' φ Tryz_mixed h hφ hQ
theorem q1rr {Q : Exit → S → Prop} {id : Nat} {draw : Bool} (W : List Nat) (calls : List (Nat × CC)) {l : List Oper} {s : S} (s' : S) {φ : Prop} (hφ : φ) (hQ : Q .normal s') (h : Abs.regC Tryz.prog W draw calls (s'.t.map (·.1)) (s'.h.map (·.1)) l s = some (s', φ) := by kernel_rfl) : AWp Tryz.prog (.region id l.toArray draw) Q s := AWp.regC W calls _ _ s' φ Tryz_mixed h hφ hQ
def f36 (x1 : Int) (x2 : Int) (x3 : Int) (x4 : List UInt8) (x5 : List UInt8) : Option Bool :=
  some (x3 == (-1 : Int))
set_option maxRecDepth 100000 in
theorem f36_ok  (x1 : Int) (x2 : Int) (x3 : Int) (x4 : List UInt8) (x5 : List UInt8) (r : Bool) (h : f36 x1 x2 x3 x4 x5 = some r)  : Spec1 Tryz.prog 36 [] [] [] [.agg [.int .i64 x1, .int .i64 x2, .int .i64 x3, .str x4, .str x5]] (.bool r) [] := by
  unfold f36 at h
  refine Spec1.body 0 _ _ Tryz.func36 rfl Tryz.ntmps36 rfl rfl ?_
  refine q1rq [] [] ⟨6, [(1, .ptr 1 0)], [(1, .cells 31 [.i x1, .i x2, .i x3, .str x4, .str x5])], [], 0⟩ trivial ?_
  refine q1rq [] [] ⟨6, [(2, .bool (x3 == (-1 : Int)))], [], [], 0⟩ trivial ?_
  have hret := Option.some.inj h
  subst hret
  refine AWp.le (Le.mk (s' := ⟨6, [(2, .bool (x3 == (-1 : Int)))], [], [], 0⟩) rfl rfl ⟨.refl _, trivial⟩ trivial) ?_
  refine AWp.ret ?_
  exact bodyQ_ret _ rfl ⟨rfl, rfl⟩ rfl
def f64 (x1 x2 : List UInt8) : Option (List (List UInt8)) := splitO x1 x2
theorem f64_ok (x1 x2 : List UInt8) (r : List (List UInt8)) (h : f64 x1 x2 = some r) : Spec1 Tryz.prog 64 [] [] [] [.str x1, .str x2] (.own 3000) [(3000, bL 9 1 eS [] r)] :=
  split_spec 9 (fun s c w hs => split_one Tryz.lays146 (by kernel_rfl) s c w hs) x1 x2 r h
abbrev f65z0 := ([112, 117, 116] : List UInt8)
abbrev f65z1 := ([103, 101, 116] : List UInt8)
abbrev f65z2 := ([99, 97, 115] : List UInt8)
def f65  : Option Unit :=
  some ()
set_option maxRecDepth 100000 in
theorem f65_ok   (r : Unit) (h : f65 = some r)  : Spec1 Tryz.prog 65 [] [] [] [] (vM (V.int .i64) 0 m104 (default : List UInt8 × Bool × Bool × Bool) mk65 mv65) [] := by
  unfold f65 at h
  refine Spec1.body 0 _ _ Tryz.func65 rfl Tryz.ntmps65 rfl rfl ?_
  refine q1rq [] [] ⟨9, [], [], [], 0⟩ trivial ?_
  refine q1rq [] [(0, ⟨[], [], [], [(1, bM (V.int .i64) 0 m104 q1dSBBB [] [])], .own 1, [1], [], []⟩), (2, ⟨[.own 1, .i (1 : Int), .agg [.str (f65z0), .bool true, .bool false, .bool true]], [1], [1], [(1, bM (V.int .i64) 0 m104 q1dSBBB ([] ++ [(1 : Int)]) ([] ++ [((f65z0), true, false, true)]))], .any, [], [], []⟩), (4, ⟨[.own 1, .i (2 : Int), .agg [.str (f65z1), .bool true, .bool false, .bool false]], [1], [1], [(1, bM (V.int .i64) 0 m104 q1dSBBB (([] ++ [(1 : Int)]) ++ [(2 : Int)]) (([] ++ [((f65z0), true, false, true)]) ++ [((f65z1), true, false, false)]))], .any, [], [], []⟩), (6, ⟨[.own 1, .i (3 : Int), .agg [.str cs3, .bool true, .bool false, .bool false]], [1], [1], [(1, bM (V.int .i64) 0 m104 q1dSBBB ((([] ++ [(1 : Int)]) ++ [(2 : Int)]) ++ [(3 : Int)]) ((([] ++ [((f65z0), true, false, true)]) ++ [((f65z1), true, false, false)]) ++ [(cs3, true, false, false)]))], .any, [], [], []⟩), (8, ⟨[.own 1, .i (4 : Int), .agg [.str cs4, .bool true, .bool false, .bool true]], [1], [1], [(1, bM (V.int .i64) 0 m104 q1dSBBB (((([] ++ [(1 : Int)]) ++ [(2 : Int)]) ++ [(3 : Int)]) ++ [(4 : Int)]) (((([] ++ [((f65z0), true, false, true)]) ++ [((f65z1), true, false, false)]) ++ [(cs3, true, false, false)]) ++ [(cs4, true, false, true)]))], .any, [], [], []⟩), (10, ⟨[.own 1, .i (5 : Int), .agg [.str (f65z2), .bool true, .bool true, .bool true]], [1], [1], [(1, bM (V.int .i64) 0 m104 q1dSBBB ((((([] ++ [(1 : Int)]) ++ [(2 : Int)]) ++ [(3 : Int)]) ++ [(4 : Int)]) ++ [(5 : Int)]) ((((([] ++ [((f65z0), true, false, true)]) ++ [((f65z1), true, false, false)]) ++ [(cs3, true, false, false)]) ++ [(cs4, true, false, true)]) ++ [((f65z2), true, true, true)]))], .any, [], [], []⟩), (12, ⟨[.own 1, .i (6 : Int), .agg [.str cs5, .bool false, .bool false, .bool false]], [1], [1], [(1, bM (V.int .i64) 0 m104 q1dSBBB (((((([] ++ [(1 : Int)]) ++ [(2 : Int)]) ++ [(3 : Int)]) ++ [(4 : Int)]) ++ [(5 : Int)]) ++ [(6 : Int)]) (((((([] ++ [((f65z0), true, false, true)]) ++ [((f65z1), true, false, false)]) ++ [(cs3, true, false, false)]) ++ [(cs4, true, false, true)]) ++ [((f65z2), true, true, true)]) ++ [(cs5, false, false, false)]))], .any, [], [], []⟩)] ⟨9, [(0, .own 1)], [(1, bM (V.int .i64) 0 m104 q1dSBBB (((((([] ++ [(1 : Int)]) ++ [(2 : Int)]) ++ [(3 : Int)]) ++ [(4 : Int)]) ++ [(5 : Int)]) ++ [(6 : Int)]) (((((([] ++ [((f65z0), true, false, true)]) ++ [((f65z1), true, false, false)]) ++ [(cs3, true, false, false)]) ++ [(cs4, true, false, true)]) ++ [((f65z2), true, true, true)]) ++ [(cs5, false, false, false)]))], [], 0⟩ (ac6 (And.intro (makeMapL_spec (P := Tryz.prog) (V.int .i64) 0 m104 q1dSBBB 104 1 104) (VLes.same [])) (And.intro (insertL_spec Tryz.underlying104 Tryz.underlying3 (.insert 104 (.tmp 1) (.const (.int .i64 1)) (.tmp 2)) (.tmp 1) (.const (.int .i64 1)) (.tmp 2) (.inl rfl) (V.int .i64) 0 m104 q1dSBBB (keyEq_int .i64) (fun _ => rfl) (fun _ => rfl) (fun _ => rfl) 0 1 [] [] (1 : Int) ((f65z0), true, false, true) rfl rfl) (VLes.same [.own 1, .i (1 : Int), .agg [.str (f65z0), .bool true, .bool false, .bool true]])) (And.intro (insertL_spec Tryz.underlying104 Tryz.underlying3 (.insert 104 (.tmp 1) (.const (.int .i64 2)) (.tmp 3)) (.tmp 1) (.const (.int .i64 2)) (.tmp 3) (.inl rfl) (V.int .i64) 0 m104 q1dSBBB (keyEq_int .i64) (fun _ => rfl) (fun _ => rfl) (fun _ => rfl) 0 1 ([] ++ [(1 : Int)]) ([] ++ [((f65z0), true, false, true)]) (2 : Int) ((f65z1), true, false, false) rfl rfl) (VLes.same [.own 1, .i (2 : Int), .agg [.str (f65z1), .bool true, .bool false, .bool false]])) (And.intro (insertL_spec Tryz.underlying104 Tryz.underlying3 (.insert 104 (.tmp 1) (.const (.int .i64 3)) (.tmp 4)) (.tmp 1) (.const (.int .i64 3)) (.tmp 4) (.inl rfl) (V.int .i64) 0 m104 q1dSBBB (keyEq_int .i64) (fun _ => rfl) (fun _ => rfl) (fun _ => rfl) 0 1 (([] ++ [(1 : Int)]) ++ [(2 : Int)]) (([] ++ [((f65z0), true, false, true)]) ++ [((f65z1), true, false, false)]) (3 : Int) (cs3, true, false, false) rfl rfl) (VLes.same [.own 1, .i (3 : Int), .agg [.str cs3, .bool true, .bool false, .bool false]])) (And.intro (insertL_spec Tryz.underlying104 Tryz.underlying3 (.insert 104 (.tmp 1) (.const (.int .i64 4)) (.tmp 5)) (.tmp 1) (.const (.int .i64 4)) (.tmp 5) (.inl rfl) (V.int .i64) 0 m104 q1dSBBB (keyEq_int .i64) (fun _ => rfl) (fun _ => rfl) (fun _ => rfl) 0 1 ((([] ++ [(1 : Int)]) ++ [(2 : Int)]) ++ [(3 : Int)]) ((([] ++ [((f65z0), true, false, true)]) ++ [((f65z1), true, false, false)]) ++ [(cs3, true, false, false)]) (4 : Int) (cs4, true, false, true) rfl rfl) (VLes.same [.own 1, .i (4 : Int), .agg [.str cs4, .bool true, .bool false, .bool true]])) (And.intro (insertL_spec Tryz.underlying104 Tryz.underlying3 (.insert 104 (.tmp 1) (.const (.int .i64 5)) (.tmp 6)) (.tmp 1) (.const (.int .i64 5)) (.tmp 6) (.inl rfl) (V.int .i64) 0 m104 q1dSBBB (keyEq_int .i64) (fun _ => rfl) (fun _ => rfl) (fun _ => rfl) 0 1 (((([] ++ [(1 : Int)]) ++ [(2 : Int)]) ++ [(3 : Int)]) ++ [(4 : Int)]) (((([] ++ [((f65z0), true, false, true)]) ++ [((f65z1), true, false, false)]) ++ [(cs3, true, false, false)]) ++ [(cs4, true, false, true)]) (5 : Int) ((f65z2), true, true, true) rfl rfl) (VLes.same [.own 1, .i (5 : Int), .agg [.str (f65z2), .bool true, .bool true, .bool true]])) (an1 (And.intro (insertL_spec Tryz.underlying104 Tryz.underlying3 (.insert 104 (.tmp 1) (.const (.int .i64 6)) (.tmp 7)) (.tmp 1) (.const (.int .i64 6)) (.tmp 7) (.inl rfl) (V.int .i64) 0 m104 q1dSBBB (keyEq_int .i64) (fun _ => rfl) (fun _ => rfl) (fun _ => rfl) 0 1 ((((([] ++ [(1 : Int)]) ++ [(2 : Int)]) ++ [(3 : Int)]) ++ [(4 : Int)]) ++ [(5 : Int)]) ((((([] ++ [((f65z0), true, false, true)]) ++ [((f65z1), true, false, false)]) ++ [(cs3, true, false, false)]) ++ [(cs4, true, false, true)]) ++ [((f65z2), true, true, true)]) (6 : Int) (cs5, false, false, false) rfl rfl) (VLes.same [.own 1, .i (6 : Int), .agg [.str cs5, .bool false, .bool false, .bool false]])))) ?_
  refine AWp.le (Le.trans (Le.freezeM 1 rfl rfl) (Le.mk (s' := ⟨9, [(0, vM (V.int .i64) 0 m104 q1dSBBB mk65 mv65)], [], [], 0⟩) rfl rfl ⟨.refl _, trivial⟩ trivial)) ?_
  have hret := Option.some.inj h
  subst hret
  refine AWp.le (Le.mk (s' := ⟨9, [(0, vM (V.int .i64) 0 m104 q1dSBBB mk65 mv65)], [], [], 0⟩) rfl rfl ⟨.refl _, trivial⟩ trivial) ?_
  refine AWp.ret ?_
  exact bodyQ_ret _ rfl ⟨rfl, rfl⟩ rfl
def f66 (x1 : Bool) (x2 : List (List UInt8)) : Option (List UInt8 × List (List UInt8)) :=
  if ((!x1) || ((((x2).length : Nat) : Int) == (0 : Int))) then (
  some ([], x2)
  ) else (
  chk ((0 : Int) < (((x2).length : Nat) : Int)) <|
  chk ((1 : Int) ≤ (((x2).length : Nat) : Int)) <|
  some ((x2.getD 0 []), (x2.drop 1))
  )
set_option maxRecDepth 100000 in
theorem f66_ok  (x1 : Bool) (x2 : List (List UInt8)) (r : List UInt8 × List (List UInt8)) (h : f66 x1 x2 = some r)  : Spec1 Tryz.prog 66 [] [2000] [(2000, .cells 39 [vL 1 eS [] x2])] [.bool x1, .ptr 2000 0] (.str r.1) [(2000, .cells 39 [vL 1 eS [] r.2])] := by
  unfold f66 at h
  refine Spec1.body 0 _ _ Tryz.func66 rfl Tryz.ntmps66 rfl rfl ?_
  refine q1rq [] [] ⟨18, [(0, .bool x1), (1, .ptr 2000 0)], [(2000, .cells 39 [q1aS x2])], [2000], 0⟩ trivial ?_
  refine AWp.seq ?_
  refine AWp.seq ?_
  have ob0 := idA (((!x1) == false) = true)
  have ob1 := idA (((!x1) == false) = true)
  have ob2 := bqA (!x1) false
  refine q1rr [] [] ⟨18, [(1, .ptr 2000 0), (11, .bool ((!x1) || ((lZ x2) == (0 : Int))))], [(2000, .cells 39 [q1aS x2])], [2000], 0⟩ (an3 (an1 ob0) (an1 ob1) ob2) ?_
  refine thenQ_normal ?_
  refine AWp.cond (b := ((!x1) || ((lZ x2) == (0 : Int)))) (by kernel_rfl) (fun hc1 => ?_) (fun hc1 => ?_)
  ·
    replace h := ite_tb hc1 h
    refine q1rq [] [] ⟨18, [(3, .str [])], [(2000, .cells 39 [q1aS x2])], [2000], 0⟩ trivial ?_
    have hret := Option.some.inj h
    subst hret
    refine AWp.le (Le.mk (s' := ⟨18, [(3, .str [])], [(2000, .cells 39 [q1aS x2])], [2000], 0⟩) rfl rfl ⟨.refl _, trivial⟩ ⟨⟨_, rfl, .refl _⟩, trivial⟩) ?_
    refine AWp.ret ?_
    refine thenQ_ret ?_
    exact bodyQ_ret _ rfl ⟨rfl, rfl⟩ rfl
  ·
    replace h := ite_fb hc1 h
    refine AWp.skip ?_
    refine thenQ_normal ?_
    refine AWp.seq ?_
    obtain ⟨ob3p, h⟩ := chk_some h
    have ob3 : 0 ≤ (0 : Int) ∧ (0 : Int) < (((x2).length : Nat) : Int) := ⟨by omega, ob3p⟩
    refine q1rr [] [] ⟨18, [(1, .ptr 2000 0), (4, .str (x2.getD 0 []))], [(2000, .cells 39 [q1aS x2])], [2000], 0⟩ (an1 ob3) ?_
    refine thenQ_normal ?_
    refine AWp.seq ?_
    obtain ⟨ob4p, h⟩ := chk_some h
    have ob4 : 0 ≤ (1 : Int) ∧ (1 : Int) ≤ (((x2).length : Nat) : Int) := ⟨by omega, ob4p⟩
    refine q1rr [] [] ⟨18, [(4, .str (x2.getD 0 []))], [(2000, .cells 39 [.arr 1 ((x2).length - 1) (fun i j => (encF eS [] x2) (i + 1) j)])], [2000], 0⟩ (an2 ob4 trivial) ?_
    refine thenQ_normal ?_
    refine AWp.le (Le.mk (s' := ⟨18, [(4, .str (x2.getD 0 []))], [(2000, .cells 39 [q1aS (x2.drop 1)])], [2000], 0⟩) rfl rfl ⟨.refl _, trivial⟩ ⟨⟨_, rfl, (.cellsL ⟨VLe.dropL, trivial⟩)⟩, trivial⟩) ?_
    refine q1rq [] [] ⟨18, [(3, .str (x2.getD 0 []))], [(2000, .cells 39 [q1aS (x2.drop 1)])], [2000], 0⟩ trivial ?_
    have hret := Option.some.inj h
    subst hret
    refine AWp.le (Le.mk (s' := ⟨18, [(3, .str (x2.getD 0 []))], [(2000, .cells 39 [q1aS (x2.drop 1)])], [2000], 0⟩) rfl rfl ⟨.refl _, trivial⟩ ⟨⟨_, rfl, .refl _⟩, trivial⟩) ?_
    refine AWp.ret ?_
    exact bodyQ_ret _ rfl ⟨rfl, rfl⟩ rfl
def f132_L0 (x1 : List UInt8) (K1 : Unit → Option Bool) : Nat → Nat → Option Bool
  | 0, _ => none
  | k + 1, n3 =>
    if (decide ((n3 : Int) < ((x1.length : Nat) : Int))) then (
    chk ((n3 : Int) < ((x1.length : Nat) : Int)) <|
    chk (((decide ((((x1.getD n3 0).toNat : Nat) : Int) < (33 : Int))) == false) = true → 0 ≤ (n3 : Int) ∧ (n3 : Int) < ((x1.length : Nat) : Int)) <|
    if ((decide ((((x1.getD n3 0).toNat : Nat) : Int) < (33 : Int))) || (decide ((((x1.getD n3 0).toNat : Nat) : Int) > (126 : Int)))) then (
    some false
    ) else (
    chk (((n3 : Int) + (1 : Int)) ≤ 9223372036854775807) <|
    (f132_L0 x1 K1 k) (n3 + 1)
    )
    ) else (
    K1 ()
    )
theorem f132_L0_e2 (x1 : List UInt8) (K1 : Unit → Option Bool) (k : Nat) (n3 : Nat) : f132_L0 x1 K1 (k + 1) n3 =
    if (decide ((n3 : Int) < ((x1.length : Nat) : Int))) then (
    chk ((n3 : Int) < ((x1.length : Nat) : Int)) <|
    chk (((decide ((((x1.getD n3 0).toNat : Nat) : Int) < (33 : Int))) == false) = true → 0 ≤ (n3 : Int) ∧ (n3 : Int) < ((x1.length : Nat) : Int)) <|
    if ((decide ((((x1.getD n3 0).toNat : Nat) : Int) < (33 : Int))) || (decide ((((x1.getD n3 0).toNat : Nat) : Int) > (126 : Int)))) then (
    some false
    ) else (
    chk (((n3 : Int) + (1 : Int)) ≤ 9223372036854775807) <|
    (f132_L0 x1 K1 k) (n3 + 1)
    )
    ) else (
    K1 ()
    ) := rfl
def f132 (x1 : List UInt8) (x2 : Int) : Option Bool :=
  jn (fun (_ : Unit) =>
  some ((!(x1 == [])) && (decide (((x1.length : Nat) : Int) ≤ x2)))
  ) fun (K1 : Unit → Option Bool) =>
  f132_L0 x1 K1 FUEL 0
set_option maxRecDepth 100000 in
theorem f132_ok  (x1 : List UInt8) (x2 : Int) (r : Bool) (h : f132 x1 x2 = some r)  : Spec1 Tryz.prog 132 [] [] [] [.str x1, .int .i64 x2] (.bool r) [] := by
  unfold f132 at h
  refine Spec1.body 0 _ _ Tryz.func132 rfl Tryz.ntmps132 rfl rfl ?_
  refine q1rq [] [] ⟨30, [(0, .str x1), (1, .i x2)], [], [], 0⟩ trivial ?_
  obtain ⟨K1, hK1, h⟩ := jn_some h
  refine AWp.join (α := Unit) (fun (x : Unit) => match x with | () => ⟨30, [(0, .str x1), (1, .i x2)], [], [], 0⟩) (fun x => K1 x = some r) ?_ ?_
  ·
    refine q1rq [] [] ⟨30, [(0, .str x1), (1, .i x2), (7, .i (lZ x1)), (8, .i (0 : Int))], [], [], 0⟩ trivial ?_
    refine AWp.block ?_
    refine AWp.loopL (α := Nat × Nat) (fun x => match x with | (_, n3) => ⟨30, [(0, .str x1), (1, .i x2), (7, .i (lZ x1)), (8, .i (n3 : Int))], [], [], 0⟩) (fun x => f132_L0 x1 K1 x.1 x.2 = some r) (fun x => x.1) (FUEL, 0) (Le.mk (s' := ⟨30, [(0, .str x1), (1, .i x2), (7, .i (lZ x1)), (8, .i (0 : Int))], [], [], 0⟩) rfl rfl ⟨.refl _, .refl _, .refl _, .refl _, trivial⟩ trivial) h ?_
    rintro ⟨k0, n3⟩ h
    cases k0 with
    | zero => exact nomatch (show (none : Option Bool) = some r from h)
    | succ k0 =>
    obtain ⟨C0, hC0⟩ : ∃ C, C = f132_L0 x1 K1 k0 := ⟨_, rfl⟩
    replace h := (f132_L0_e2 ..).symm.trans h
    try rw [← hC0] at h
    refine q1rq [] [] ⟨30, [(0, .str x1), (1, .i x2), (7, .i (lZ x1)), (8, .i (n3 : Int)), (9, .bool (decide ((n3 : Int) < (lZ x1))))], [], [], 0⟩ trivial ?_
    refine AWp.seq ?_
    refine AWp.cond (b := (decide ((n3 : Int) < (lZ x1)))) (by kernel_rfl) (fun hc1 => ?_) (fun hc1 => ?_)
    ·
      replace h := ite_tb hc1 h
      refine AWp.skip ?_
      refine thenQ_normal ?_
      refine AWp.seq ?_
      refine AWp.block ?_
      refine q1rq [] [] ⟨30, [(0, .str x1), (1, .i x2), (5, .i (n3 : Int)), (7, .i (lZ x1)), (8, .i (n3 : Int))], [], [], 0⟩ trivial ?_
      refine AWp.seq ?_
      obtain ⟨ob0p, h⟩ := chk_some h
      have ob0 : 0 ≤ (n3 : Int) ∧ (n3 : Int) < ((x1.length : Nat) : Int) := ⟨by omega, ob0p⟩
      obtain ⟨ob1, h⟩ := chk_some h
      have ob2 := idA (((decide ((((x1.getD n3 0).toNat : Nat) : Int) < (33 : Int))) == false) = true)
      have ob3 := idA (((decide ((((x1.getD n3 0).toNat : Nat) : Int) < (33 : Int))) == false) = true)
      have ob4 := idA (((decide ((((x1.getD n3 0).toNat : Nat) : Int) < (33 : Int))) == false) = true)
      have ob5 := bqA (decide ((((x1.getD n3 0).toNat : Nat) : Int) < (33 : Int))) false
      refine q1rr [] [] ⟨30, [(0, .str x1), (1, .i x2), (7, .i (lZ x1)), (8, .i (n3 : Int)), (20, .bool ((decide ((((x1.getD n3 0).toNat : Nat) : Int) < (33 : Int))) || (decide ((((x1.getD n3 0).toNat : Nat) : Int) > (126 : Int)))))], [], [], 0⟩ (an4 ob0 (And.intro ob1 (an2 ob2 ob3)) (an1 ob4) ob5) ?_
      refine thenQ_normal ?_
      refine AWp.cond (b := ((decide ((((x1.getD n3 0).toNat : Nat) : Int) < (33 : Int))) || (decide ((((x1.getD n3 0).toNat : Nat) : Int) > (126 : Int))))) (by kernel_rfl) (fun hc2 => ?_) (fun hc2 => ?_)
      ·
        replace h := ite_tb hc2 h
        refine q1rq [] [] ⟨30, [(4, .bool false)], [], [], 0⟩ trivial ?_
        have hret := Option.some.inj h
        subst hret
        refine AWp.le (Le.mk (s' := ⟨30, [(4, .bool false)], [], [], 0⟩) rfl rfl ⟨.refl _, trivial⟩ trivial) ?_
        refine AWp.ret ?_
        refine blockQ_ret ?_
        refine thenQ_ret ?_
        refine thenQ_ret ?_
        refine blockQ_ret ?_
        refine joinQ_ret ?_
        exact bodyQ_ret _ rfl ⟨rfl, rfl⟩ rfl
      ·
        replace h := ite_fb hc2 h
        refine AWp.skip ?_
        refine blockQ_normal ?_
        refine thenQ_normal ?_
        obtain ⟨ob6p, h⟩ := chk_some h
        have ob6 : -9223372036854775808 ≤ ((n3 : Int) + (1 : Int)) ∧ ((n3 : Int) + (1 : Int)) ≤ 9223372036854775807 := ⟨by omega, ob6p⟩
        refine q1rr [] [] ⟨30, [(0, .str x1), (1, .i x2), (7, .i (lZ x1)), (8, .i (((n3 + 1) : Nat) : Int))], [], [], 0⟩ (an1 ob6) ?_
        rw [hC0] at h
        exact loopQ_normal (_, (n3 + 1)) (Le.mk rfl rfl ⟨.refl _, .refl _, .refl _, .refl _, trivial⟩ trivial) h (Nat.lt_succ_self _)
    ·
      replace h := ite_fb hc1 h
      refine AWp.exit ?_
      refine thenQ_exit ?_
      refine thenQ_exit ?_
      refine blockQ_same ?_
      exact joinQ_normal () (Le.mk rfl rfl ⟨.refl _, .refl _, trivial⟩ trivial) h
  ·
    rintro ⟨⟩ h
    replace h := (congrFun hK1 _).symm.trans h
    refine AWp.seq ?_
    have ob7 := idA (((!(x1 == [])) == true) = true)
    have ob8 := idA (((!(x1 == [])) == true) = true)
    have ob9 := idA (((!(x1 == [])) == true) = true)
    have ob10 := bqA (!(x1 == [])) true
    refine q1rr [] [] ⟨30, [(4, .bool ((!(x1 == [])) && (decide ((lZ x1) ≤ x2))))], [], [], 0⟩ (an3 (an1 ob7) (an2 ob8 ob9) ob10) ?_
    refine thenQ_normal ?_
    have hret := Option.some.inj h
    subst hret
    refine AWp.le (Le.mk (s' := ⟨30, [(4, .bool ((!(x1 == [])) && (decide ((lZ x1) ≤ x2))))], [], [], 0⟩) rfl rfl ⟨.refl _, trivial⟩ trivial) ?_
    refine AWp.ret ?_
    exact bodyQ_ret _ rfl ⟨rfl, rfl⟩ rfl
def f110 (x1 : List UInt8) (x2 : Bool) : Option Bool :=
  if (!x2) then (
  some (x1 == [])
  ) else (
  (f132 x1 (64 : Int)).bind fun (r3 : Bool) =>
  some r3
  )
set_option maxRecDepth 100000 in
theorem f110_ok  (x1 : List UInt8) (x2 : Bool) (r : Bool) (h : f110 x1 x2 = some r)  : Spec1 Tryz.prog 110 [] [] [] [.str x1, .bool x2] (.bool r) [] := by
  unfold f110 at h
  refine Spec1.body 0 _ _ Tryz.func110 rfl Tryz.ntmps110 rfl rfl ?_
  refine q1rq [] [] ⟨11, [(0, .str x1), (1, .bool x2)], [], [], 0⟩ trivial ?_
  refine AWp.seq ?_
  refine q1rq [] [] ⟨11, [(0, .str x1), (6, .bool (!x2))], [], [], 0⟩ trivial ?_
  refine AWp.cond (b := (!x2)) (by kernel_rfl) (fun hc1 => ?_) (fun hc1 => ?_)
  ·
    replace h := ite_tb hc1 h
    refine q1rq [] [] ⟨11, [(4, .bool (x1 == []))], [], [], 0⟩ trivial ?_
    have hret := Option.some.inj h
    subst hret
    refine AWp.le (Le.mk (s' := ⟨11, [(4, .bool (x1 == []))], [], [], 0⟩) rfl rfl ⟨.refl _, trivial⟩ trivial) ?_
    refine AWp.ret ?_
    refine thenQ_ret ?_
    exact bodyQ_ret _ rfl ⟨rfl, rfl⟩ rfl
  ·
    replace h := ite_fb hc1 h
    refine AWp.skip ?_
    refine thenQ_normal ?_
    refine AWp.seq ?_
    obtain ⟨r3, hr3, h⟩ := bind_ok h
    refine q1rr [] [(1, ⟨[.str x1, .i (64 : Int)], [], [], [], .bool r3, [], [], []⟩)] ⟨11, [(4, .bool r3)], [], [], 0⟩ (an1 (cpT (f132_ok _ _ _ hr3))) ?_
    refine thenQ_normal ?_
    have hret := Option.some.inj h
    subst hret
    refine AWp.le (Le.mk (s' := ⟨11, [(4, .bool r3)], [], [], 0⟩) rfl rfl ⟨.refl _, trivial⟩ trivial) ?_
    refine AWp.ret ?_
    exact bodyQ_ret _ rfl ⟨rfl, rfl⟩ rfl
abbrev f83z0 (x1 : Int) (r6 : Bool) := ((hasM mk65 x1) && r6)
abbrev f83z1 (x1 : Int) := ((hasM mk65 x1) == true)
def f83 (x1 : Int) (x2 : List UInt8) (x3 : List UInt8) (x4 : List UInt8) : Option (List UInt8 × Bool × Bool × Bool × Bool) :=
  (f65 ).bind fun (r5 : Unit) =>
  optc ((hasM mk65 x1) == true) (f110 x2 ((getM mk65 mv65 (default : List UInt8 × Bool × Bool × Bool) ([], false, false, false) x1).2.1)) fun (r6 : Bool) =>
  optc (((hasM mk65 x1) && r6) == true) (f110 x3 ((getM mk65 mv65 (default : List UInt8 × Bool × Bool × Bool) ([], false, false, false) x1).2.2.1)) fun (r7 : Bool) =>
  optc ((((hasM mk65 x1) && r6) && r7) == true) (f110 x4 ((getM mk65 mv65 (default : List UInt8 × Bool × Bool × Bool) ([], false, false, false) x1).2.2.2)) fun (r8 : Bool) =>
  some ((getM mk65 mv65 (default : List UInt8 × Bool × Bool × Bool) ([], false, false, false) x1).1, (getM mk65 mv65 (default : List UInt8 × Bool × Bool × Bool) ([], false, false, false) x1).2.1, (getM mk65 mv65 (default : List UInt8 × Bool × Bool × Bool) ([], false, false, false) x1).2.2.1, (getM mk65 mv65 (default : List UInt8 × Bool × Bool × Bool) ([], false, false, false) x1).2.2.2, ((((hasM mk65 x1) && r6) && r7) && r8))
set_option maxRecDepth 100000 in
theorem f83_ok  (x1 : Int) (x2 : List UInt8) (x3 : List UInt8) (x4 : List UInt8) (r : List UInt8 × Bool × Bool × Bool × Bool) (h : f83 x1 x2 x3 x4 = some r)  : Spec1 Tryz.prog 83 [] [] [] [.agg [.int .i64 x1, .str x2, .str x3, .str x4]] (.tup [.agg [.str r.1, .bool r.2.1, .bool r.2.2.1, .bool r.2.2.2.1], .bool r.2.2.2.2]) [] := by
  unfold f83 at h
  refine Spec1.bodyD [2] 0 _ _ Tryz.func83 rfl Tryz.ntmps83 rfl rfl ?_
  refine q1rq [] [] ⟨36, [(1, .ptr 1 0), (2, .ptr 2 0)], [(1, .cells 52 [.i x1, .str x2, .str x3, .str x4]), (2, .cells 107 [.str [], .bool false, .bool false, .bool false])], [], 0⟩ trivial ?_
  refine AWp.seq ?_
  obtain ⟨r5, hr5, h⟩ := bind_ok h
  refine q1rr [] [(0, ⟨[], [], [], [], vM (V.int .i64) 0 m104 q1dSBBB mk65 mv65, [], [], []⟩), (3, ⟨[vM (V.int .i64) 0 m104 q1dSBBB mk65 mv65, .i x1], [], [], [], .tup [.agg [.str (getM mk65 mv65 q1dSBBB ([], false, false, false) x1).1, .bool (getM mk65 mv65 q1dSBBB ([], false, false, false) x1).2.1, .bool (getM mk65 mv65 q1dSBBB ([], false, false, false) x1).2.2.1, .bool (getM mk65 mv65 q1dSBBB ([], false, false, false) x1).2.2.2], .bool (hasM mk65 x1)], [], [], []⟩)] ⟨36, [(1, .ptr 1 0), (2, .ptr 2 0), (4, .ptr 4 0), (5, .bool (hasM mk65 x1))], [(1, .cells 52 [.i x1, .str x2, .str x3, .str x4]), (2, .cells 107 [.str [], .bool false, .bool false, .bool false]), (4, .cells 107 [.str (getM mk65 mv65 q1dSBBB ([], false, false, false) x1).1, .bool (getM mk65 mv65 q1dSBBB ([], false, false, false) x1).2.1, .bool (getM mk65 mv65 q1dSBBB ([], false, false, false) x1).2.2.1, .bool (getM mk65 mv65 q1dSBBB ([], false, false, false) x1).2.2.2])], [], 0⟩ (an3 (cpT (f65_ok _ hr5)) (And.intro (lookupL_spec (P := Tryz.prog) Tryz.underlying104 Tryz.underlying3 (V.int .i64) 0 m104 q1dSBBB ([], false, false, false) (keyEq_int .i64) (fun _ => rfl) (by kernel_rfl) (.tmp 7) (.tmp 9) 125 mk65 mv65 x1) (VLes.same [vM (V.int .i64) 0 m104 q1dSBBB mk65 mv65, .i x1])) trivial) ?_
  refine thenQ_normal ?_
  refine AWp.seq ?_
  obtain ⟨r6, hr6, h⟩ := optc_some h
  obtain ⟨r7, hr7, h⟩ := optc_some h
  obtain ⟨r8, hr8, h⟩ := optc_some h
  have ob0 := idA ((f83z1 x1) = true)
  have ob1 := idA ((f83z1 x1) = true)
  have ob2 := idA ((f83z1 x1) = true)
  have ob3 := idA ((f83z1 x1) = true)
  have ob4 : true = true → (hasM mk65 x1) = true → (f83z1 x1) = true := fun _ h => beq_iff_eq.2 h
  have ob5 := idA (((f83z0 x1 r6) == true) = true)
  have ob6 := idA (((f83z0 x1 r6) == true) = true)
  have ob7 := idA (((f83z0 x1 r6) == true) = true)
  have ob8 := idA (((f83z0 x1 r6) == true) = true)
  have ob9 := bqA (f83z0 x1 r6) true
  have ob10 := idA ((((f83z0 x1 r6) && r7) == true) = true)
  have ob11 := idA ((((f83z0 x1 r6) && r7) == true) = true)
  have ob12 := idA ((((f83z0 x1 r6) && r7) == true) = true)
  have ob13 := idA ((((f83z0 x1 r6) && r7) == true) = true)
  have ob14 := bqA ((f83z0 x1 r6) && r7) true
  refine q1rr [] [(7, ⟨[.str x2, .bool (getM mk65 mv65 q1dSBBB ([], false, false, false) x1).2.1], [], [], [], .bool r6, [], [], []⟩), (14, ⟨[.str x3, .bool (getM mk65 mv65 q1dSBBB ([], false, false, false) x1).2.2.1], [], [], [], .bool r7, [], [], []⟩), (21, ⟨[.str x4, .bool (getM mk65 mv65 q1dSBBB ([], false, false, false) x1).2.2.2], [], [], [], .bool r8, [], [], []⟩)] ⟨36, [(2, .ptr 2 0), (3, .bool (((f83z0 x1 r6) && r7) && r8))], [(2, .cells 107 [.str (getM mk65 mv65 q1dSBBB ([], false, false, false) x1).1, .bool (getM mk65 mv65 q1dSBBB ([], false, false, false) x1).2.1, .bool (getM mk65 mv65 q1dSBBB ([], false, false, false) x1).2.2.1, .bool (getM mk65 mv65 q1dSBBB ([], false, false, false) x1).2.2.2])], [], 0⟩ (ac6 (an1 ob0) (an1 ob1) (And.intro (cpC fun hc => (f110_ok _ _ _ (hr6 hc))) (an2 ob2 ob3)) ob4 (an1 ob5) (an1 ob6) (ac6 (And.intro (cpC fun hc => (f110_ok _ _ _ (hr7 hc))) (an2 ob7 ob8)) ob9 (an1 ob10) (an1 ob11) (And.intro (cpC fun hc => (f110_ok _ _ _ (hr8 hc))) (an2 ob12 ob13)) ob14 (an1 trivial))) ?_
  refine thenQ_normal ?_
  have hret := Option.some.inj h
  subst hret
  refine AWp.le (Le.mk (s' := ⟨36, [(2, .ptr 2 0), (3, .bool (((f83z0 x1 r6) && r7) && r8))], [(2, .cells 107 [.str (getM mk65 mv65 q1dSBBB ([], false, false, false) x1).1, .bool (getM mk65 mv65 q1dSBBB ([], false, false, false) x1).2.1, .bool (getM mk65 mv65 q1dSBBB ([], false, false, false) x1).2.2.1, .bool (getM mk65 mv65 q1dSBBB ([], false, false, false) x1).2.2.2])], [], 0⟩) rfl rfl ⟨.refl _, .refl _, trivial⟩ ⟨⟨_, rfl, .refl _⟩, trivial⟩) ?_
  refine AWp.ret ?_
  exact bodyQ_ret _ rfl ⟨rfl, rfl⟩ rfl
def f103 (x1 : List (List UInt8)) (x2 : List UInt8) : Option (List UInt8) := joinP x1 x2
theorem f103_ok (x1 : List (List UInt8)) (x2 : List UInt8) (r : List UInt8) (h : f103 x1 x2 = some r) : Spec1 Tryz.prog 103 [] [] [] [vL 1 eS [] x1, .str x2] (.str r) [] :=
  join_spec (fun a c sep w => Any.strings_Join_none Tryz.lays156 Tryz.Builder_Extra_156 a c sep w) (fun bk o c xs sep w h1 h2 h3 h4 h5 => Any.strings_Join Tryz.lays156 Tryz.Builder_Extra_156 bk o c xs sep w h1 h2 h3 h4 h5) x1 x2 r h
def f67_L0 (x2 : List UInt8) (x3 : List UInt8) (x4 : List UInt8) (K1 : (List (List UInt8)) → Option (List UInt8 × Int)) : Nat → (Nat × List (List UInt8)) → Option (List UInt8 × Int)
  | 0, _ => none
  | k + 1, (n6, l7) =>
    if (decide ((n6 : Int) < (3 : Int))) then (
    jn (fun (l8 : List (List UInt8)) =>
    chk (((n6 : Int) + (1 : Int)) ≤ 9223372036854775807) <|
    (f67_L0 x2 x3 x4 K1 k) ((n6 + 1), l8)
    ) fun (K2 : (List (List UInt8)) → Option (List UInt8 × Int)) =>
    chk ((n6 : Int) < ((([x2, x3, x4]).length : Nat) : Int)) <|
    chk (n6 < ([x2, x3, x4]).length) <|
    if (!(([x2, x3, x4].getD n6 []) == [])) then (
    chk (((l7).length + 1) * 16 ≤ 140737488355328) <|
    K2 (l7 ++ [([x2, x3, x4].getD n6 [])])
    ) else (
    K2 l7
    )
    ) else (
    K1 l7
    )
abbrev f67z0 (n6 : Nat) : List (Nat × V) := [(6, .own 18), (25, .own 25), (26, .int .i64 (3 : Int)), (27, .int .i64 (n6 : Int))]
abbrev f67z1 : List (Nat × V) := [(6, .own 18), (25, .own 25), (26, .int .i64 (3 : Int)), (27, .int .i64 (0 : Int))]
def f67 (x1 : Int) (x2 : List UInt8) (x3 : List UInt8) (x4 : List UInt8) : Option (List UInt8 × Int) :=
  (f83 x1 x2 x3 x4).bind fun (r5 : List UInt8 × Bool × Bool × Bool × Bool) =>
  if (!r5.2.2.2.2) then (
  some ([], (1 : Int))
  ) else (
  jn (fun (l9 : List (List UInt8)) =>
  (f103 l9 ([32] : List UInt8)).bind fun (r10 : List UInt8) =>
  some (r10, (0 : Int))
  ) fun (K1 : (List (List UInt8)) → Option (List UInt8 × Int)) =>
  f67_L0 x2 x3 x4 K1 FUEL (0, [r5.1])
  )
set_option maxRecDepth 100000 in
theorem f67_ok  (x1 : Int) (x2 : List UInt8) (x3 : List UInt8) (x4 : List UInt8) (r : List UInt8 × Int) (h : f67 x1 x2 x3 x4 = some r)  : Spec1 Tryz.prog 67 [] [] [] [.agg [.int .i64 x1, .str x2, .str x3, .str x4]] (.tup [.str r.1, .int .i64 r.2]) [] := by
  unfold f67 at h
  refine Spec1.body 0 _ _ Tryz.func67 rfl Tryz.ntmps67 rfl rfl ?_
  refine q1rq [] [] ⟨40, [(1, .ptr 1 0)], [(1, .cells 52 [.i x1, .str x2, .str x3, .str x4])], [], 0⟩ trivial ?_
  refine AWp.seq ?_
  obtain ⟨r5, hr5, h⟩ := bind_ok h
  refine q1rr [] [(1, ⟨[.agg [.i x1, .str x2, .str x3, .str x4]], [], [], [], .tup [.agg [.str r5.1, .bool r5.2.1, .bool r5.2.2.1, .bool r5.2.2.2.1], .bool r5.2.2.2.2], [], [], []⟩)] ⟨40, [(1, .ptr 1 0), (4, .ptr 4 0), (5, .bool r5.2.2.2.2)], [(1, .cells 52 [.i x1, .str x2, .str x3, .str x4]), (4, .cells 107 [.str r5.1, .bool r5.2.1, .bool r5.2.2.1, .bool r5.2.2.2.1])], [], 0⟩ (an2 (cpT (f83_ok _ _ _ _ _ hr5)) trivial) ?_
  refine thenQ_normal ?_
  refine AWp.seq ?_
  refine q1rq [] [] ⟨40, [(1, .ptr 1 0), (4, .ptr 4 0), (15, .bool (!r5.2.2.2.2))], [(1, .cells 52 [.i x1, .str x2, .str x3, .str x4]), (4, .cells 107 [.str r5.1, .bool r5.2.1, .bool r5.2.2.1, .bool r5.2.2.2.1])], [], 0⟩ trivial ?_
  refine AWp.cond (b := (!r5.2.2.2.2)) (by kernel_rfl) (fun hc1 => ?_) (fun hc1 => ?_)
  ·
    replace h := ite_tb hc1 h
    refine q1rq [] [] ⟨40, [(2, .str []), (3, .i (1 : Int))], [], [], 0⟩ trivial ?_
    have hret := Option.some.inj h
    subst hret
    refine AWp.le (Le.mk (s' := ⟨40, [(2, .str []), (3, .i (1 : Int))], [], [], 0⟩) rfl rfl ⟨.refl _, .refl _, trivial⟩ trivial) ?_
    refine AWp.ret ?_
    refine thenQ_ret ?_
    exact bodyQ_ret _ rfl ⟨rfl, rfl⟩ rfl
  ·
    replace h := ite_fb hc1 h
    refine AWp.skip ?_
    refine thenQ_normal ?_
    refine q1rq [] [] ⟨40, [(1, .ptr 1 0), (6, .own 18)], [(1, .cells 52 [.i x1, .str x2, .str x3, .str x4]), (18, .rows 9 1 1 (lstF 1 [.str r5.1]))], [], 0⟩ trivial ?_
    refine AWp.le (Le.mk (s' := ⟨40, [(1, .ptr 1 0), (6, .own 18)], [(1, .cells 52 [.i x1, .str x2, .str x3, .str x4]), (18, q1bS_9 [r5.1])], [], 0⟩) rfl rfl ⟨.refl _, .refl _, trivial⟩ ⟨⟨_, rfl, .refl _⟩, ⟨_, rfl, (BLe.of (RL.lst (enc := eS) [r5.1] rfl rfl (fun _ => rfl)))⟩, trivial⟩) ?_
    obtain ⟨K1, hK1, h⟩ := jn_some h
    refine AWp.join (α := List (List UInt8)) (fun (l9 : List (List UInt8)) => ⟨40, [(6, .own 18)], [(18, q1bS_9 l9)], [], 0⟩) (fun x => K1 x = some r) ?_ ?_
    ·
      refine q1rq [] [] ⟨40, (f67z1), [(18, q1bS_9 [r5.1]), (25, .rows 9 1 3 (lstF 1 [.str x2, .str x3, .str x4]))], [], 0⟩ trivial ?_
      refine AWp.le (Le.mk (s' := ⟨40, (f67z1), [(18, q1bS_9 [r5.1]), (25, q1bS_9 [x2, x3, x4])], [], 0⟩) rfl rfl ⟨.refl _, .refl _, .refl _, .refl _, trivial⟩ ⟨⟨_, rfl, .refl _⟩, ⟨_, rfl, (BLe.of (RL.lst (enc := eS) [x2, x3, x4] rfl rfl (fun _ => rfl)))⟩, trivial⟩) ?_
      refine AWp.block ?_
      refine AWp.loopL (α := Nat × (Nat × List (List UInt8))) (fun x => match x with | (_, n6, l7) => ⟨40, (f67z0 n6), [(18, q1bS_9 l7), (25, q1bS_9 [x2, x3, x4])], [], 0⟩) (fun x => f67_L0 x2 x3 x4 K1 x.1 x.2 = some r) (fun x => x.1) (FUEL, 0, [r5.1]) (Le.mk (s' := ⟨40, (f67z1), [(18, q1bS_9 [r5.1]), (25, q1bS_9 [x2, x3, x4])], [], 0⟩) rfl rfl ⟨.refl _, .refl _, .refl _, .refl _, trivial⟩ ⟨⟨_, rfl, .refl _⟩, ⟨_, rfl, .refl _⟩, trivial⟩) h ?_
      rintro ⟨k0, n6, l7⟩ h
      cases k0 with
      | zero => exact nomatch (show (none : Option (List UInt8 × Int)) = some r from h)
      | succ k0 =>
      obtain ⟨C0, hC0⟩ : ∃ C, C = f67_L0 x2 x3 x4 K1 k0 := ⟨_, rfl⟩
      replace h := (f67_L0.eq_2 ..).symm.trans h
      try rw [← hC0] at h
      refine q1rq [] [] ⟨40, [(6, .own 18), (25, .own 25), (26, .i (3 : Int)), (27, .i (n6 : Int)), (28, .bool (decide ((n6 : Int) < (3 : Int))))], [(18, q1bS_9 l7), (25, q1bS_9 [x2, x3, x4])], [], 0⟩ trivial ?_
      refine AWp.seq ?_
      refine AWp.cond (b := (decide ((n6 : Int) < (3 : Int)))) (by kernel_rfl) (fun hc2 => ?_) (fun hc2 => ?_)
      ·
        replace h := ite_tb hc2 h
        refine AWp.skip ?_
        refine thenQ_normal ?_
        obtain ⟨K2, hK2, h⟩ := jn_some h
        refine AWp.join (α := List (List UInt8)) (fun (l8 : List (List UInt8)) => ⟨40, (f67z0 n6), [(18, q1bS_9 l8), (25, q1bS_9 [x2, x3, x4])], [], 0⟩) (fun x => K2 x = some r) ?_ ?_
        ·
          refine AWp.block ?_
          refine AWp.seq ?_
          obtain ⟨ob0p, h⟩ := chk_some h
          have ob0 : 0 ≤ (n6 : Int) ∧ (n6 : Int) < ((([x2, x3, x4]).length : Nat) : Int) := ⟨by omega, ob0p⟩
          obtain ⟨ob1, h⟩ := chk_some h
          refine q1rr [] [] ⟨40, [(6, .own 18), (8, .str ([x2, x3, x4].getD n6 [])), (25, .own 25), (26, .i (3 : Int)), (27, .i (n6 : Int))], [(18, q1bS_9 l7), (25, q1bS_9 [x2, x3, x4])], [], 0⟩ (an2 ob0 ob1) ?_
          refine thenQ_normal ?_
          refine q1rq [] [] ⟨40, [(6, .own 18), (8, .str ([x2, x3, x4].getD n6 [])), (25, .own 25), (26, .i (3 : Int)), (27, .i (n6 : Int)), (32, .bool (!(([x2, x3, x4].getD n6 []) == [])))], [(18, q1bS_9 l7), (25, q1bS_9 [x2, x3, x4])], [], 0⟩ trivial ?_
          refine AWp.cond (b := (!(([x2, x3, x4].getD n6 []) == []))) (by kernel_rfl) (fun hc3 => ?_) (fun hc3 => ?_)
          ·
            replace h := ite_tb hc3 h
            obtain ⟨ob2, h⟩ := chk_some h
            refine q1rr [] [] ⟨40, (f67z0 n6), [(18, .rows 9 1 ((l7).length + 1) (appF (l7).length (encF eS [] l7) (lstF 1 [.str ([x2, x3, x4].getD n6 [])]))), (25, q1bS_9 [x2, x3, x4])], [], 0⟩ (an1 ob2) ?_
            refine blockQ_normal ?_
            exact joinQ_normal ((l7 ++ [([x2, x3, x4].getD n6 [])])) (Le.trans (Le.mk (s' := ⟨40, (f67z0 n6), [(18, q1bS_9 (l7 ++ [([x2, x3, x4].getD n6 [])])), (25, q1bS_9 [x2, x3, x4])], [], 0⟩) rfl rfl ⟨.refl _, .refl _, .refl _, .refl _, trivial⟩ ⟨⟨_, rfl, (BLe.of (RL.app (RL.self _) (RL.lst (enc := eS) [([x2, x3, x4].getD n6 [])] rfl rfl (fun _ => rfl))))⟩, ⟨_, rfl, .refl _⟩, trivial⟩) (Le.mk rfl rfl ⟨.refl _, .refl _, .refl _, .refl _, trivial⟩ ⟨⟨_, rfl, .refl _⟩, ⟨_, rfl, .refl _⟩, trivial⟩)) h
          ·
            replace h := ite_fb hc3 h
            refine AWp.skip ?_
            refine blockQ_normal ?_
            exact joinQ_normal (l7) (Le.mk rfl rfl ⟨.refl _, .refl _, .refl _, .refl _, trivial⟩ ⟨⟨_, rfl, .refl _⟩, ⟨_, rfl, .refl _⟩, trivial⟩) h
        ·
          rintro l8 h
          replace h := (congrFun hK2 _).symm.trans h
          obtain ⟨ob3p, h⟩ := chk_some h
          have ob3 : -9223372036854775808 ≤ ((n6 : Int) + (1 : Int)) ∧ ((n6 : Int) + (1 : Int)) ≤ 9223372036854775807 := ⟨by omega, ob3p⟩
          refine q1rr [] [] ⟨40, [(6, .own 18), (25, .own 25), (26, .i (3 : Int)), (27, .i (((n6 + 1) : Nat) : Int))], [(18, q1bS_9 l8), (25, q1bS_9 [x2, x3, x4])], [], 0⟩ (an1 ob3) ?_
          rw [hC0] at h
          exact loopQ_normal (_, (n6 + 1), l8) (Le.mk rfl rfl ⟨.refl _, .refl _, .refl _, .refl _, trivial⟩ ⟨⟨_, rfl, .refl _⟩, ⟨_, rfl, .refl _⟩, trivial⟩) h (Nat.lt_succ_self _)
      ·
        replace h := ite_fb hc2 h
        refine AWp.exit ?_
        refine thenQ_exit ?_
        refine thenQ_exit ?_
        refine blockQ_same ?_
        exact joinQ_normal (l7) (Le.mk rfl rfl ⟨.refl _, trivial⟩ ⟨⟨_, rfl, .refl _⟩, trivial⟩) h
    ·
      rintro l9 h
      replace h := (congrFun hK1 _).symm.trans h
      refine AWp.seq ?_
      obtain ⟨r10, hr10, h⟩ := bind_ok h
      refine q1rr [] [(1, ⟨[q1aS l9, .str ([32] : List UInt8)], [], [], [], .str r10, [], [18], []⟩)] ⟨40, [(2, .str r10), (3, .i (0 : Int))], [], [], 0⟩ (an1 (cpL (c := true) [(18, q1bS_9 l9)] [18] [.own 18, .str ([32] : List UInt8)] (fun _ => (f103_ok _ _ _ hr10)) (fun _ => ⟨.refl _, .refl _, trivial⟩) (.inr ⟨rfl, trivial⟩))) ?_
      refine thenQ_normal ?_
      have hret := Option.some.inj h
      subst hret
      refine AWp.le (Le.mk (s' := ⟨40, [(2, .str r10), (3, .i (0 : Int))], [], [], 0⟩) rfl rfl ⟨.refl _, .refl _, trivial⟩ trivial) ?_
      refine AWp.ret ?_
      exact bodyQ_ret _ rfl ⟨rfl, rfl⟩ rfl
def f50_L0 (x1 : List UInt8) (K1 : Unit → Option (Int × List UInt8 × List UInt8 × List UInt8 × Int)) : Nat → (List (List UInt8) × List Nat) → Option (Int × List UInt8 × List UInt8 × List UInt8 × Int)
  | 0, _ => none
  | k + 1, (l4, l5) =>
    nextO mk65.length l5 (fun (j6 : Nat) =>
    chk ((0 : Int) < (((l4).length : Nat) : Int)) <|
    if (!(((mv65.getD j6 (default : List UInt8 × Bool × Bool × Bool)).1) == (l4.getD 0 []))) then (
    (f50_L0 x1 K1 k) (l4, (l5 ++ [j6]))
    ) else (
    chk ((1 : Int) ≤ (((l4).length : Nat) : Int)) <|
    (f66 ((mv65.getD j6 (default : List UInt8 × Bool × Bool × Bool)).2.1) (l4.drop 1)).bind fun (r7 : List UInt8 × List (List UInt8)) =>
    (f66 ((mv65.getD j6 (default : List UInt8 × Bool × Bool × Bool)).2.2.1) r7.2).bind fun (r8 : List UInt8 × List (List UInt8)) =>
    (f66 ((mv65.getD j6 (default : List UInt8 × Bool × Bool × Bool)).2.2.2) r8.2).bind fun (r9 : List UInt8 × List (List UInt8)) =>
    (f67 (mk65.getD j6 0) r7.1 r8.1 r9.1).bind fun (r10 : List UInt8 × Int) =>
    if ((r10.2 == (0 : Int)) && (r10.1 == x1)) then (
    some ((mk65.getD j6 0), r7.1, r8.1, r9.1, (0 : Int))
    ) else (
    (f50_L0 x1 K1 k) (l4, (l5 ++ [j6]))
    )
    )
    ) (
    K1 ()
    )
abbrev f50z0 : List V := [.int .i64 (0 : Int), .str [], .str [], .str []]
def f50 (x1 : List UInt8) : Option (Int × List UInt8 × List UInt8 × List UInt8 × Int) :=
  (f64 x1 ([32] : List UInt8)).bind fun (r2 : List (List UInt8)) =>
  jn (fun (_ : Unit) =>
  some ((0 : Int), [], [], [], (2 : Int))
  ) fun (K1 : Unit → Option (Int × List UInt8 × List UInt8 × List UInt8 × Int)) =>
  (f65 ).bind fun (r3 : Unit) =>
  f50_L0 x1 K1 FUEL (r2, [])
set_option maxRecDepth 100000 in
theorem f50_ok  (x1 : List UInt8) (r : Int × List UInt8 × List UInt8 × List UInt8 × Int) (h : f50 x1 = some r)  : Spec1 Tryz.prog 50 [] [] [] [.str x1] (.tup [.agg [.int .i64 r.1, .str r.2.1, .str r.2.2.1, .str r.2.2.2.1], .int .i64 r.2.2.2.2]) [] := by
  unfold f50 at h
  refine Spec1.bodyD [2] 0 _ _ Tryz.func50 rfl Tryz.ntmps50 rfl rfl ?_
  refine q1rq [] [] ⟨61, [(0, .str x1), (2, .ptr 2 0)], [(2, .cells 52 (f50z0))], [], 0⟩ trivial ?_
  refine AWp.seq ?_
  obtain ⟨r2, hr2, h⟩ := bind_ok h
  refine q1rr [] [(1, ⟨[.str x1, .str ([32] : List UInt8)], [], [], [(6001, q1bS_9 r2)], .own 6001, [6001], [], []⟩)] ⟨61, [(0, .str x1), (2, .ptr 2 0), (4, .own 6001)], [(2, .cells 52 (f50z0)), (6001, q1bS_9 r2)], [], 0⟩ (an1 (cpT (Spec1.ren (swapN 3000 6001) (swapN_inv 3000 6001) rfl (f64_ok _ _ _ hr2)))) ?_
  refine thenQ_normal ?_
  obtain ⟨K1, hK1, h⟩ := jn_some h
  refine AWp.join (α := Unit) (fun (x : Unit) => match x with | () => ⟨61, [(2, .ptr 2 0)], [(2, .cells 52 (f50z0))], [], 0⟩) (fun x => K1 x = some r) ?_ ?_
  ·
    refine AWp.seq ?_
    obtain ⟨r3, hr3, h⟩ := bind_ok h
    refine q1rr [] [(0, ⟨[], [], [], [], vM (V.int .i64) 0 m104 q1dSBBB mk65 mv65, [], [], []⟩), (1, ⟨[vM (V.int .i64) 0 m104 q1dSBBB mk65 mv65], [], [], [(15, iM (V.int .i64) 0 m104 q1dSBBB mk65 mv65 [])], .own 15, [15], [], []⟩)] ⟨61, [(0, .str x1), (2, .ptr 2 0), (4, .own 6001), (15, .own 15)], [(2, .cells 52 (f50z0)), (15, iM (V.int .i64) 0 m104 q1dSBBB mk65 mv65 []), (6001, q1bS_9 r2)], [], 0⟩ (an2 (cpT (f65_ok _ hr3)) (And.intro (rangeL_spec (P := Tryz.prog) Tryz.underlying104 (.tmp 14) 0 15 (V.int .i64) 0 m104 q1dSBBB mk65 mv65) (VLes.same [vM (V.int .i64) 0 m104 q1dSBBB mk65 mv65]))) ?_
    refine thenQ_normal ?_
    refine AWp.block ?_
    refine AWp.loopL (α := Nat × (List (List UInt8) × List Nat)) (fun x => match x with | (_, l4, l5) => ⟨61, [(0, .str x1), (2, .ptr 2 0), (4, q1aS l4), (15, .own 15)], [(2, .cells 52 (f50z0)), (15, iM (V.int .i64) 0 m104 q1dSBBB mk65 mv65 l5)], [], 0⟩) (fun x => f50_L0 x1 K1 x.1 x.2 = some r) (fun x => x.1) (FUEL, r2, []) (Le.trans (Le.trans (Le.freeze 6001 rfl rfl) (Le.mk (s' := ⟨61, [(0, .str x1), (2, .ptr 2 0), (4, q1aS r2), (15, .own 15)], [(2, .cells 52 (f50z0)), (15, iM (V.int .i64) 0 m104 q1dSBBB mk65 mv65 [])], [], 0⟩) rfl rfl ⟨.refl _, .refl _, .refl _, .refl _, trivial⟩ ⟨⟨_, rfl, .refl _⟩, ⟨_, rfl, .refl _⟩, trivial⟩)) (Le.mk (s' := ⟨61, [(0, .str x1), (2, .ptr 2 0), (4, q1aS r2), (15, .own 15)], [(2, .cells 52 (f50z0)), (15, iM (V.int .i64) 0 m104 q1dSBBB mk65 mv65 [])], [], 0⟩) rfl rfl ⟨.refl _, .refl _, .refl _, .refl _, trivial⟩ ⟨⟨_, rfl, .refl _⟩, ⟨_, rfl, .refl _⟩, trivial⟩)) h ?_
    rintro ⟨k0, l4, l5⟩ h
    cases k0 with
    | zero => exact nomatch (show (none : Option (Int × List UInt8 × List UInt8 × List UInt8 × Int)) = some r from h)
    | succ k0 =>
    obtain ⟨C0, hC0⟩ : ∃ C, C = f50_L0 x1 K1 k0 := ⟨_, rfl⟩
    replace h := (f50_L0.eq_2 ..).symm.trans h
    try rw [← hC0] at h
    refine AWp.seq ?_
    refine AWp.nextR 15 (V.int .i64) 0 m104 q1dSBBB mk65 mv65 l5 rfl rfl rfl rfl rfl (fun j6 hj6 hsj6 => ?_) (fun hall => ?_)
    ·
      replace h := (nextO_some h).1 j6 hj6 hsj6
      refine thenQ_normal ?_
      refine AWp.seq ?_
      refine AWp.cond (b := true) (by kernel_rfl) (fun hc => ?_) (fun hc => ?_)
      ·
        clear hc
        refine AWp.skip ?_
        refine thenQ_normal ?_
        refine AWp.block ?_
        refine q1rq [] [(0, ⟨[.own 15], [15], [15], [(15, iM (V.int .i64) 0 m104 q1dSBBB mk65 mv65 (l5 ++ [j6]))], .tup [.i (mk65.getD j6 0), .agg [.str (mv65.getD j6 q1dSBBB).1, .bool (mv65.getD j6 q1dSBBB).2.1, .bool (mv65.getD j6 q1dSBBB).2.2.1, .bool (mv65.getD j6 q1dSBBB).2.2.2]], [], [], []⟩)] ⟨61, [(0, .str x1), (2, .ptr 2 0), (4, q1aS l4), (5, .i (mk65.getD j6 0)), (6, .ptr 6 0), (15, .own 15)], [(2, .cells 52 (f50z0)), (6, .cells 107 [.str (mv65.getD j6 q1dSBBB).1, .bool (mv65.getD j6 q1dSBBB).2.1, .bool (mv65.getD j6 q1dSBBB).2.2.1, .bool (mv65.getD j6 q1dSBBB).2.2.2]), (15, iM (V.int .i64) 0 m104 q1dSBBB mk65 mv65 (l5 ++ [j6]))], [], 0⟩ (an2 (And.intro (entryL_spec (P := Tryz.prog) (.tmp 15) 0 15 (V.int .i64) 0 m104 q1dSBBB mk65 mv65 l5 j6 hj6) (VLes.same [.own 15])) trivial) ?_
        refine AWp.seq ?_
        refine AWp.seq ?_
        obtain ⟨ob0p, h⟩ := chk_some h
        have ob0 : 0 ≤ (0 : Int) ∧ (0 : Int) < (((l4).length : Nat) : Int) := ⟨by omega, ob0p⟩
        refine q1rr [] [] ⟨61, [(0, .str x1), (2, .ptr 2 0), (4, q1aS l4), (5, .i (mk65.getD j6 0)), (6, .ptr 6 0), (15, .own 15), (26, .bool (!(((mv65.getD j6 q1dSBBB).1) == (l4.getD 0 []))))], [(2, .cells 52 (f50z0)), (6, .cells 107 [.str (mv65.getD j6 q1dSBBB).1, .bool (mv65.getD j6 q1dSBBB).2.1, .bool (mv65.getD j6 q1dSBBB).2.2.1, .bool (mv65.getD j6 q1dSBBB).2.2.2]), (15, iM (V.int .i64) 0 m104 q1dSBBB mk65 mv65 (l5 ++ [j6]))], [], 0⟩ (an1 ob0) ?_
        refine thenQ_normal ?_
        refine AWp.cond (b := (!(((mv65.getD j6 q1dSBBB).1) == (l4.getD 0 [])))) (by kernel_rfl) (fun hc1 => ?_) (fun hc1 => ?_)
        ·
          replace h := ite_tb hc1 h
          refine AWp.exit ?_
          refine thenQ_exit ?_
          refine blockQ_same ?_
          rw [hC0] at h
          exact loopQ_normal (_, l4, (l5 ++ [j6])) (Le.mk rfl rfl ⟨.refl _, .refl _, .refl _, .refl _, trivial⟩ ⟨⟨_, rfl, .refl _⟩, ⟨_, rfl, .refl _⟩, trivial⟩) h (Nat.lt_succ_self _)
        ·
          replace h := ite_fb hc1 h
          refine AWp.skip ?_
          refine thenQ_normal ?_
          refine AWp.seq ?_
          obtain ⟨ob1p, h⟩ := chk_some h
          have ob1 : 0 ≤ (1 : Int) ∧ (1 : Int) ≤ (((l4).length : Nat) : Int) := ⟨by omega, ob1p⟩
          refine q1rr [] [] ⟨61, [(0, .str x1), (2, .ptr 2 0), (4, q1aS l4), (6, .ptr 6 0), (7, .ptr 7 0), (8, .ptr 8 0), (15, .own 15)], [(2, .cells 52 (f50z0)), (6, .cells 107 [.str (mv65.getD j6 q1dSBBB).1, .bool (mv65.getD j6 q1dSBBB).2.1, .bool (mv65.getD j6 q1dSBBB).2.2.1, .bool (mv65.getD j6 q1dSBBB).2.2.2]), (7, .cells 52 [.i (mk65.getD j6 0), .str [], .str [], .str []]), (8, .cells 39 [.arr 1 ((l4).length - 1) (fun i j => (encF eS [] l4) (i + 1) j)]), (15, iM (V.int .i64) 0 m104 q1dSBBB mk65 mv65 (l5 ++ [j6]))], [], 0⟩ (an3 ob1 trivial trivial) ?_
          refine thenQ_normal ?_
          refine AWp.le (Le.mk (s' := ⟨61, [(0, .str x1), (2, .ptr 2 0), (4, q1aS l4), (6, .ptr 6 0), (7, .ptr 7 0), (8, .ptr 8 0), (15, .own 15)], [(2, .cells 52 (f50z0)), (6, .cells 107 [.str (mv65.getD j6 q1dSBBB).1, .bool (mv65.getD j6 q1dSBBB).2.1, .bool (mv65.getD j6 q1dSBBB).2.2.1, .bool (mv65.getD j6 q1dSBBB).2.2.2]), (7, .cells 52 [.i (mk65.getD j6 0), .str [], .str [], .str []]), (8, .cells 39 [q1aS (l4.drop 1)]), (15, iM (V.int .i64) 0 m104 q1dSBBB mk65 mv65 (l5 ++ [j6]))], [], 0⟩) rfl rfl ⟨.refl _, .refl _, .refl _, .refl _, .refl _, .refl _, .refl _, trivial⟩ ⟨⟨_, rfl, .refl _⟩, ⟨_, rfl, .refl _⟩, ⟨_, rfl, .refl _⟩, ⟨_, rfl, (.cellsL ⟨VLe.dropL, trivial⟩)⟩, ⟨_, rfl, .refl _⟩, trivial⟩) ?_
          refine q1rq [] [] ⟨61, [(0, .str x1), (2, .ptr 2 0), (4, q1aS l4), (6, .ptr 6 0), (7, .ptr 7 0), (9, .fn (.func 66) [.ptr 8 0]), (15, .own 15)], [(2, .cells 52 (f50z0)), (6, .cells 107 [.str (mv65.getD j6 q1dSBBB).1, .bool (mv65.getD j6 q1dSBBB).2.1, .bool (mv65.getD j6 q1dSBBB).2.2.1, .bool (mv65.getD j6 q1dSBBB).2.2.2]), (7, .cells 52 [.i (mk65.getD j6 0), .str [], .str [], .str []]), (8, .cells 39 [q1aS (l4.drop 1)]), (15, iM (V.int .i64) 0 m104 q1dSBBB mk65 mv65 (l5 ++ [j6]))], [], 0⟩ trivial ?_
          refine AWp.seq ?_
          obtain ⟨r7, hr7, h⟩ := bind_ok h
          obtain ⟨r8, hr8, h⟩ := bind_ok h
          obtain ⟨r9, hr9, h⟩ := bind_ok h
          refine q1rr [] [(3, ⟨[.bool (mv65.getD j6 q1dSBBB).2.1, .ptr 8 0], [8], [8], [(8, .cells 39 [q1aS r7.2])], .str r7.1, [], [], []⟩), (7, ⟨[.bool (mv65.getD j6 q1dSBBB).2.2.1, .ptr 8 0], [8], [8], [(8, .cells 39 [q1aS r8.2])], .str r8.1, [], [], []⟩), (11, ⟨[.bool (mv65.getD j6 q1dSBBB).2.2.2, .ptr 8 0], [8], [8], [(8, .cells 39 [q1aS r9.2])], .str r9.1, [], [], []⟩)] ⟨61, [(0, .str x1), (2, .ptr 2 0), (4, q1aS l4), (7, .ptr 7 0), (15, .own 15)], [(2, .cells 52 (f50z0)), (7, .cells 52 [.i (mk65.getD j6 0), .str r7.1, .str r8.1, .str r9.1]), (15, iM (V.int .i64) 0 m104 q1dSBBB mk65 mv65 (l5 ++ [j6]))], [], 0⟩ (an6 (cpT (Spec1.ren (swapN 2000 8) (swapN_inv 2000 8) rfl (f66_ok _ _ _ hr7))) (cpT (Spec1.ren (swapN 2000 8) (swapN_inv 2000 8) rfl (f66_ok _ _ _ hr8))) (cpT (Spec1.ren (swapN 2000 8) (swapN_inv 2000 8) rfl (f66_ok _ _ _ hr9))) trivial trivial trivial) ?_
          refine thenQ_normal ?_
          refine AWp.seq ?_
          obtain ⟨r10, hr10, h⟩ := bind_ok h
          refine q1rr [] [(1, ⟨[.agg [.i (mk65.getD j6 0), .str r7.1, .str r8.1, .str r9.1]], [], [], [], .tup [.str r10.1, .i r10.2], [], [], []⟩)] ⟨61, [(0, .str x1), (2, .ptr 2 0), (4, q1aS l4), (7, .ptr 7 0), (10, .str r10.1), (11, .i r10.2), (15, .own 15)], [(2, .cells 52 (f50z0)), (7, .cells 52 [.i (mk65.getD j6 0), .str r7.1, .str r8.1, .str r9.1]), (15, iM (V.int .i64) 0 m104 q1dSBBB mk65 mv65 (l5 ++ [j6]))], [], 0⟩ (an1 (cpT (f67_ok _ _ _ _ _ hr10))) ?_
          refine thenQ_normal ?_
          refine AWp.seq ?_
          have ob2 := idA (((r10.2 == (0 : Int)) == true) = true)
          have ob3 := idA (((r10.2 == (0 : Int)) == true) = true)
          have ob4 := bqA (r10.2 == (0 : Int)) true
          refine q1rr [] [] ⟨61, [(0, .str x1), (2, .ptr 2 0), (4, q1aS l4), (7, .ptr 7 0), (15, .own 15), (58, .bool ((r10.2 == (0 : Int)) && (r10.1 == x1)))], [(2, .cells 52 (f50z0)), (7, .cells 52 [.i (mk65.getD j6 0), .str r7.1, .str r8.1, .str r9.1]), (15, iM (V.int .i64) 0 m104 q1dSBBB mk65 mv65 (l5 ++ [j6]))], [], 0⟩ (an2 (an2 ob2 ob3) ob4) ?_
          refine thenQ_normal ?_
          refine AWp.cond (b := ((r10.2 == (0 : Int)) && (r10.1 == x1))) (by kernel_rfl) (fun hc2 => ?_) (fun hc2 => ?_)
          ·
            replace h := ite_tb hc2 h
            refine q1rq [] [] ⟨61, [(2, .ptr 2 0), (3, .i (0 : Int))], [(2, .cells 52 [.i (mk65.getD j6 0), .str r7.1, .str r8.1, .str r9.1])], [], 0⟩ (an1 trivial) ?_
            have hret := Option.some.inj h
            subst hret
            refine AWp.le (Le.mk (s' := ⟨61, [(2, .ptr 2 0), (3, .i (0 : Int))], [(2, .cells 52 [.i (mk65.getD j6 0), .str r7.1, .str r8.1, .str r9.1])], [], 0⟩) rfl rfl ⟨.refl _, .refl _, trivial⟩ ⟨⟨_, rfl, .refl _⟩, trivial⟩) ?_
            refine AWp.ret ?_
            refine blockQ_ret ?_
            refine thenQ_ret ?_
            refine blockQ_ret ?_
            refine joinQ_ret ?_
            exact bodyQ_ret _ rfl ⟨rfl, rfl⟩ rfl
          ·
            replace h := ite_fb hc2 h
            refine AWp.skip ?_
            refine blockQ_normal ?_
            rw [hC0] at h
            exact loopQ_normal (_, l4, (l5 ++ [j6])) (Le.mk rfl rfl ⟨.refl _, .refl _, .refl _, .refl _, trivial⟩ ⟨⟨_, rfl, .refl _⟩, ⟨_, rfl, .refl _⟩, trivial⟩) h (Nat.lt_succ_self _)
      ·
        cases hc
    ·
      replace h := (nextO_some h).2 hall
      refine thenQ_normal ?_
      refine AWp.seq ?_
      refine AWp.cond (b := false) (by kernel_rfl) (fun hc => ?_) (fun hc => ?_)
      ·
        cases hc
      ·
        clear hc
        refine AWp.exit ?_
        refine thenQ_exit ?_
        refine thenQ_exit ?_
        refine blockQ_same ?_
        exact joinQ_normal () (Le.mk rfl rfl ⟨.refl _, trivial⟩ ⟨⟨_, rfl, .refl _⟩, trivial⟩) h
  ·
    rintro ⟨⟩ h
    replace h := (congrFun hK1 _).symm.trans h
    refine q1rq [] [] ⟨61, [(2, .ptr 2 0), (3, .i (2 : Int))], [(2, .cells 52 (f50z0))], [], 0⟩ (an1 trivial) ?_
    have hret := Option.some.inj h
    subst hret
    refine AWp.le (Le.mk (s' := ⟨61, [(2, .ptr 2 0), (3, .i (2 : Int))], [(2, .cells 52 (f50z0))], [], 0⟩) rfl rfl ⟨.refl _, .refl _, trivial⟩ ⟨⟨_, rfl, .refl _⟩, trivial⟩) ?_
    refine AWp.ret ?_
    exact bodyQ_ret _ rfl ⟨rfl, rfl⟩ rfl
abbrev f34z0 (x1 : Int) (x2 : Int) := (((decide (x1 < (0 : Int))) || (decide (x1 ≥ (6 : Int)))) || (decide (x2 < (0 : Int))))
abbrev f34z1 (x1 : Int) := ((decide (x1 < (0 : Int))) || (decide (x1 ≥ (6 : Int))))
abbrev f34z2 (x1 : Int) (x2 : Int) (r6 : Bool) := (((f34z0 x1 x2) == false) && ((!r6) == true))
abbrev f34z3 (x1 : Int) (x2 : Int) (x3 : Int) (x4 : List UInt8) (x5 : List UInt8) : List V := [.int .i64 x1, .int .i64 x2, .int .i64 x3, .str x4, .str x5]
abbrev f34z4 (x1 : Int) := ((decide (x1 < (0 : Int))) == false)
def f34 (x1 : Int) (x2 : Int) (x3 : Int) (x4 : List UInt8) (x5 : List UInt8) : Option Int :=
  optc ((((decide (x1 < (0 : Int))) || (decide (x1 ≥ (6 : Int)))) || (decide (x2 < (0 : Int)))) == false) (f36 x1 x2 x3 x4 x5) fun (r6 : Bool) =>
  chk (((((decide (x1 < (0 : Int))) || (decide (x1 ≥ (6 : Int)))) || (decide (x2 < (0 : Int)))) == false) = true → ((((decide (x1 < (0 : Int))) || (decide (x1 ≥ (6 : Int)))) || (decide (x2 < (0 : Int)))) == false) = true → (!r6) = true → (((((decide (x1 < (0 : Int))) || (decide (x1 ≥ (6 : Int)))) || (decide (x2 < (0 : Int)))) == false) && ((!r6) == true)) = true) <|
  if ((((decide (x1 < (0 : Int))) || (decide (x1 ≥ (6 : Int)))) || (decide (x2 < (0 : Int)))) || ((!r6) && (decide (x3 < x2)))) then (
  some (7 : Int)
  ) else (
  (f50 x4).bind fun (r7 : Int × List UInt8 × List UInt8 × List UInt8 × Int) =>
  if (r7.2.2.2.2 != (0 : Int)) then (
  some (2 : Int)
  ) else (
  (f36 x1 x2 x3 x4 x5).bind fun (r8 : Bool) =>
  if (r8 && (!(x5 == []))) then (
  some (1 : Int)
  ) else (
  some (0 : Int)
  )
  )
  )
set_option maxRecDepth 100000 in
theorem f34_ok  (x1 : Int) (x2 : Int) (x3 : Int) (x4 : List UInt8) (x5 : List UInt8) (r : Int) (h : f34 x1 x2 x3 x4 x5 = some r)  : Spec1 Tryz.prog 34 [] [] [] [.agg [.int .i64 x1, .int .i64 x2, .int .i64 x3, .str x4, .str x5]] (.int .i64 r) [] := by
  unfold f34 at h
  refine Spec1.body 0 _ _ Tryz.func34 rfl Tryz.ntmps34 rfl rfl ?_
  refine q1rq [] [] ⟨45, [(1, .ptr 1 0)], [(1, .cells 31 (f34z3 x1 x2 x3 x4 x5))], [], 0⟩ trivial ?_
  refine AWp.seq ?_
  refine AWp.seq ?_
  obtain ⟨r6, hr6, h⟩ := optc_some h
  have ob0 := idA ((f34z4 x1) = true)
  have ob1 := idA ((f34z4 x1) = true)
  have ob2 : true = true → (decide (x1 < (0 : Int))) = false → (f34z4 x1) = true := fun _ h => beq_iff_eq.2 h
  have ob3 := idA (((f34z1 x1) == false) = true)
  have ob4 := idA (((f34z1 x1) == false) = true)
  have ob5 := bqA (f34z1 x1) false
  have ob6 := idA (((f34z0 x1 x2) == false) = true)
  have ob7 := idA (((f34z0 x1 x2) == false) = true)
  have ob8 := idA (((f34z0 x1 x2) == false) = true)
  have ob9 := idA ((f34z2 x1 x2 r6) = true)
  have ob10 := idA ((f34z2 x1 x2 r6) = true)
  have ob11 := idA ((f34z2 x1 x2 r6) = true)
  have ob12 := idA ((f34z2 x1 x2 r6) = true)
  obtain ⟨ob13, h⟩ := chk_some h
  have ob14 := idA (((f34z0 x1 x2) == false) = true)
  have ob15 := bqA (f34z0 x1 x2) false
  refine q1rr [] [(15, ⟨[.agg (f34z3 x1 x2 x3 x4 x5)], [], [], [], .bool r6, [], [], []⟩)] ⟨45, [(1, .ptr 1 0), (29, .bool ((f34z0 x1 x2) || ((!r6) && (decide (x3 < x2)))))], [(1, .cells 31 (f34z3 x1 x2 x3 x4 x5))], [], 0⟩ (ac6 (an1 ob0) (an1 ob1) ob2 (an1 ob3) (an1 ob4) ob5 (ac6 (And.intro (cpC fun hc => (f36_ok _ _ _ _ _ _ (hr6 hc))) (an1 ob6)) (an1 ob7) (an1 ob8) (an1 ob9) (an1 ob10) (an2 ob11 ob12) (an2 (And.intro ob13 (an1 ob14)) ob15))) ?_
  refine thenQ_normal ?_
  refine AWp.cond (b := ((f34z0 x1 x2) || ((!r6) && (decide (x3 < x2))))) (by kernel_rfl) (fun hc1 => ?_) (fun hc1 => ?_)
  ·
    replace h := ite_tb hc1 h
    refine q1rq [] [] ⟨45, [(2, .i (7 : Int))], [], [], 0⟩ trivial ?_
    have hret := Option.some.inj h
    subst hret
    refine AWp.le (Le.mk (s' := ⟨45, [(2, .i (7 : Int))], [], [], 0⟩) rfl rfl ⟨.refl _, trivial⟩ trivial) ?_
    refine AWp.ret ?_
    refine thenQ_ret ?_
    exact bodyQ_ret _ rfl ⟨rfl, rfl⟩ rfl
  ·
    replace h := ite_fb hc1 h
    refine AWp.skip ?_
    refine thenQ_normal ?_
    refine AWp.seq ?_
    refine AWp.seq ?_
    obtain ⟨r7, hr7, h⟩ := bind_ok h
    refine q1rr [] [(2, ⟨[.str x4], [], [], [], .tup [.agg [.i r7.1, .str r7.2.1, .str r7.2.2.1, .str r7.2.2.2.1], .i r7.2.2.2.2], [], [], []⟩)] ⟨45, [(1, .ptr 1 0), (4, .i r7.2.2.2.2)], [(1, .cells 31 (f34z3 x1 x2 x3 x4 x5))], [], 0⟩ (an2 (cpT (f50_ok _ _ hr7)) trivial) ?_
    refine thenQ_normal ?_
    refine q1rq [] [] ⟨45, [(1, .ptr 1 0), (37, .bool (r7.2.2.2.2 != (0 : Int)))], [(1, .cells 31 (f34z3 x1 x2 x3 x4 x5))], [], 0⟩ trivial ?_
    refine AWp.cond (b := (r7.2.2.2.2 != (0 : Int))) (by kernel_rfl) (fun hc2 => ?_) (fun hc2 => ?_)
    ·
      replace h := ite_tb hc2 h
      refine q1rq [] [] ⟨45, [(2, .i (2 : Int))], [], [], 0⟩ trivial ?_
      have hret := Option.some.inj h
      subst hret
      refine AWp.le (Le.mk (s' := ⟨45, [(2, .i (2 : Int))], [], [], 0⟩) rfl rfl ⟨.refl _, trivial⟩ trivial) ?_
      refine AWp.ret ?_
      refine thenQ_ret ?_
      exact bodyQ_ret _ rfl ⟨rfl, rfl⟩ rfl
    ·
      replace h := ite_fb hc2 h
      refine AWp.skip ?_
      refine thenQ_normal ?_
      refine AWp.seq ?_
      refine AWp.seq ?_
      obtain ⟨r8, hr8, h⟩ := bind_ok h
      have ob16 := idA ((r8 == true) = true)
      have ob17 := idA ((r8 == true) = true)
      have ob18 := bqA r8 true
      refine q1rr [] [(1, ⟨[.agg (f34z3 x1 x2 x3 x4 x5)], [], [], [], .bool r8, [], [], []⟩)] ⟨45, [(44, .bool (r8 && (!(x5 == []))))], [], [], 0⟩ (an4 (cpT (f36_ok _ _ _ _ _ _ hr8)) (an1 ob16) (an1 ob17) ob18) ?_
      refine thenQ_normal ?_
      refine AWp.cond (b := (r8 && (!(x5 == [])))) (by kernel_rfl) (fun hc3 => ?_) (fun hc3 => ?_)
      ·
        replace h := ite_tb hc3 h
        refine q1rq [] [] ⟨45, [(2, .i (1 : Int))], [], [], 0⟩ trivial ?_
        have hret := Option.some.inj h
        subst hret
        refine AWp.le (Le.mk (s' := ⟨45, [(2, .i (1 : Int))], [], [], 0⟩) rfl rfl ⟨.refl _, trivial⟩ trivial) ?_
        refine AWp.ret ?_
        refine thenQ_ret ?_
        exact bodyQ_ret _ rfl ⟨rfl, rfl⟩ rfl
      ·
        replace h := ite_fb hc3 h
        refine AWp.skip ?_
        refine thenQ_normal ?_
        refine q1rq [] [] ⟨45, [(2, .i (0 : Int))], [], [], 0⟩ trivial ?_
        have hret := Option.some.inj h
        subst hret
        refine AWp.le (Le.mk (s' := ⟨45, [(2, .i (0 : Int))], [], [], 0⟩) rfl rfl ⟨.refl _, trivial⟩ trivial) ?_
        refine AWp.ret ?_
        exact bodyQ_ret _ rfl ⟨rfl, rfl⟩ rfl
def f17_L0 (x1 : List (Int × Int × Int × List UInt8 × List UInt8)) (K1 : Unit → Option Int) : Nat → Nat → Option Int
  | 0, _ => none
  | k + 1, n2 =>
    if (decide ((n2 : Int) < (((x1).length : Nat) : Int))) then (
    chk ((n2 : Int) < (((x1).length : Nat) : Int)) <|
    (f34 ((x1.getD n2 (default : Int × Int × Int × List UInt8 × List UInt8)).1) ((x1.getD n2 (default : Int × Int × Int × List UInt8 × List UInt8)).2.1) ((x1.getD n2 (default : Int × Int × Int × List UInt8 × List UInt8)).2.2.1) ((x1.getD n2 (default : Int × Int × Int × List UInt8 × List UInt8)).2.2.2.1) ((x1.getD n2 (default : Int × Int × Int × List UInt8 × List UInt8)).2.2.2.2)).bind fun (r3 : Int) =>
    if (r3 != (0 : Int)) then (
    some r3
    ) else (
    chk (((n2 : Int) + (1 : Int)) ≤ 9223372036854775807) <|
    (f17_L0 x1 K1 k) (n2 + 1)
    )
    ) else (
    K1 ()
    )
abbrev f17z0 (x1 : List (Int × Int × Int × List UInt8 × List UInt8)) (n2 : Nat) := (x1.getD n2 (default : Int × Int × Int × List UInt8 × List UInt8))
def f17 (x1 : List (Int × Int × Int × List UInt8 × List UInt8)) : Option Int :=
  if (decide ((((x1).length : Nat) : Int) > (10 : Int))) then (
  some (3 : Int)
  ) else (
  jn (fun (_ : Unit) =>
  some (0 : Int)
  ) fun (K1 : Unit → Option Int) =>
  f17_L0 x1 K1 FUEL 0
  )
set_option maxRecDepth 100000 in
theorem f17_ok  (x1 : List (Int × Int × Int × List UInt8 × List UInt8)) (r : Int) (h : f17 x1 = some r)  : Spec1 Tryz.prog 17 [] [] [] [vL 5 eT31 (default : Int × Int × Int × List UInt8 × List UInt8) x1] (.int .i64 r) [] := by
  unfold f17 at h
  refine Spec1.body 0 _ _ Tryz.func17 rfl Tryz.ntmps17 rfl rfl ?_
  refine q1rq [] [] ⟨21, [(0, q1aT31 x1)], [], [], 0⟩ trivial ?_
  refine AWp.seq ?_
  refine q1rq [] [] ⟨21, [(0, q1aT31 x1), (8, .bool (decide ((lZ x1) > (10 : Int))))], [], [], 0⟩ trivial ?_
  refine AWp.cond (b := (decide ((lZ x1) > (10 : Int)))) (by kernel_rfl) (fun hc1 => ?_) (fun hc1 => ?_)
  ·
    replace h := ite_tb hc1 h
    refine q1rq [] [] ⟨21, [(2, .i (3 : Int))], [], [], 0⟩ trivial ?_
    have hret := Option.some.inj h
    subst hret
    refine AWp.le (Le.mk (s' := ⟨21, [(2, .i (3 : Int))], [], [], 0⟩) rfl rfl ⟨.refl _, trivial⟩ trivial) ?_
    refine AWp.ret ?_
    refine thenQ_ret ?_
    exact bodyQ_ret _ rfl ⟨rfl, rfl⟩ rfl
  ·
    replace h := ite_fb hc1 h
    refine AWp.skip ?_
    refine thenQ_normal ?_
    obtain ⟨K1, hK1, h⟩ := jn_some h
    refine AWp.join (α := Unit) (fun (x : Unit) => match x with | () => ⟨21, [], [], [], 0⟩) (fun x => K1 x = some r) ?_ ?_
    ·
      refine q1rq [] [] ⟨21, [(9, q1aT31 x1), (10, .i (lZ x1)), (11, .i (0 : Int))], [], [], 0⟩ trivial ?_
      refine AWp.block ?_
      refine AWp.loopL (α := Nat × Nat) (fun x => match x with | (_, n2) => ⟨21, [(9, q1aT31 x1), (10, .i (lZ x1)), (11, .i (n2 : Int))], [], [], 0⟩) (fun x => f17_L0 x1 K1 x.1 x.2 = some r) (fun x => x.1) (FUEL, 0) (Le.mk (s' := ⟨21, [(9, q1aT31 x1), (10, .i (lZ x1)), (11, .i (0 : Int))], [], [], 0⟩) rfl rfl ⟨.refl _, .refl _, .refl _, trivial⟩ trivial) h ?_
      rintro ⟨k0, n2⟩ h
      cases k0 with
      | zero => exact nomatch (show (none : Option Int) = some r from h)
      | succ k0 =>
      obtain ⟨C0, hC0⟩ : ∃ C, C = f17_L0 x1 K1 k0 := ⟨_, rfl⟩
      replace h := (f17_L0.eq_2 ..).symm.trans h
      try rw [← hC0] at h
      refine q1rq [] [] ⟨21, [(9, q1aT31 x1), (10, .i (lZ x1)), (11, .i (n2 : Int)), (12, .bool (decide ((n2 : Int) < (lZ x1))))], [], [], 0⟩ trivial ?_
      refine AWp.seq ?_
      refine AWp.cond (b := (decide ((n2 : Int) < (lZ x1)))) (by kernel_rfl) (fun hc2 => ?_) (fun hc2 => ?_)
      ·
        replace h := ite_tb hc2 h
        refine AWp.skip ?_
        refine thenQ_normal ?_
        refine AWp.seq ?_
        refine AWp.block ?_
        refine AWp.seq ?_
        obtain ⟨ob0p, h⟩ := chk_some h
        have ob0 : 0 ≤ (n2 : Int) ∧ (n2 : Int) < (((x1).length : Nat) : Int) := ⟨by omega, ob0p⟩
        refine q1rr [] [] ⟨21, [(4, .ptr 4 0), (9, q1aT31 x1), (10, .i (lZ x1)), (11, .i (n2 : Int))], [(4, .cells 31 [.i (f17z0 x1 n2).1, .i (f17z0 x1 n2).2.1, .i (f17z0 x1 n2).2.2.1, .str (f17z0 x1 n2).2.2.2.1, .str (f17z0 x1 n2).2.2.2.2])], [], 0⟩ (an2 ob0 trivial) ?_
        refine thenQ_normal ?_
        refine AWp.seq ?_
        obtain ⟨r3, hr3, h⟩ := bind_ok h
        refine q1rr [] [(1, ⟨[.agg [.i (f17z0 x1 n2).1, .i (f17z0 x1 n2).2.1, .i (f17z0 x1 n2).2.2.1, .str (f17z0 x1 n2).2.2.2.1, .str (f17z0 x1 n2).2.2.2.2]], [], [], [], .i r3, [], [], []⟩)] ⟨21, [(5, .i r3), (9, q1aT31 x1), (10, .i (lZ x1)), (11, .i (n2 : Int))], [], [], 0⟩ (an1 (cpT (f34_ok _ _ _ _ _ _ hr3))) ?_
        refine thenQ_normal ?_
        refine q1rq [] [] ⟨21, [(5, .i r3), (9, q1aT31 x1), (10, .i (lZ x1)), (11, .i (n2 : Int)), (18, .bool (r3 != (0 : Int)))], [], [], 0⟩ trivial ?_
        refine AWp.cond (b := (r3 != (0 : Int))) (by kernel_rfl) (fun hc3 => ?_) (fun hc3 => ?_)
        ·
          replace h := ite_tb hc3 h
          refine q1rq [] [] ⟨21, [(2, .i r3)], [], [], 0⟩ trivial ?_
          have hret := Option.some.inj h
          subst hret
          refine AWp.le (Le.mk (s' := ⟨21, [(2, .i r3)], [], [], 0⟩) rfl rfl ⟨.refl _, trivial⟩ trivial) ?_
          refine AWp.ret ?_
          refine blockQ_ret ?_
          refine thenQ_ret ?_
          refine thenQ_ret ?_
          refine blockQ_ret ?_
          refine joinQ_ret ?_
          exact bodyQ_ret _ rfl ⟨rfl, rfl⟩ rfl
        ·
          replace h := ite_fb hc3 h
          refine AWp.skip ?_
          refine blockQ_normal ?_
          refine thenQ_normal ?_
          obtain ⟨ob1p, h⟩ := chk_some h
          have ob1 : -9223372036854775808 ≤ ((n2 : Int) + (1 : Int)) ∧ ((n2 : Int) + (1 : Int)) ≤ 9223372036854775807 := ⟨by omega, ob1p⟩
          refine q1rr [] [] ⟨21, [(9, q1aT31 x1), (10, .i (lZ x1)), (11, .i (((n2 + 1) : Nat) : Int))], [], [], 0⟩ (an1 ob1) ?_
          rw [hC0] at h
          exact loopQ_normal (_, (n2 + 1)) (Le.mk rfl rfl ⟨.refl _, .refl _, .refl _, trivial⟩ trivial) h (Nat.lt_succ_self _)
      ·
        replace h := ite_fb hc2 h
        refine AWp.exit ?_
        refine thenQ_exit ?_
        refine thenQ_exit ?_
        refine blockQ_same ?_
        exact joinQ_normal () (Le.mk rfl rfl trivial trivial) h
    ·
      rintro ⟨⟩ h
      replace h := (congrFun hK1 _).symm.trans h
      refine q1rq [] [] ⟨21, [(2, .i (0 : Int))], [], [], 0⟩ trivial ?_
      have hret := Option.some.inj h
      subst hret
      refine AWp.le (Le.mk (s' := ⟨21, [(2, .i (0 : Int))], [], [], 0⟩) rfl rfl ⟨.refl _, trivial⟩ trivial) ?_
      refine AWp.ret ?_
      exact bodyQ_ret _ rfl ⟨rfl, rfl⟩ rfl
def f63_L0 (x1 : List (List UInt8 × List UInt8 × Int)) (x2 : List (List UInt8 × List UInt8 × Int)) (K1 : Unit → Option Bool) : Nat → Nat → Option Bool
  | 0, _ => none
  | k + 1, n3 =>
    if (decide ((n3 : Int) < (((x1).length : Nat) : Int))) then (
    chk ((n3 : Int) < (((x1).length : Nat) : Int)) <|
    chk ((n3 : Int) < (((x2).length : Nat) : Int)) <|
    if (!((((x1.getD n3 (default : List UInt8 × List UInt8 × Int)).1) == ((x2.getD n3 (default : List UInt8 × List UInt8 × Int)).1)) && ((((x1.getD n3 (default : List UInt8 × List UInt8 × Int)).2.1) == ((x2.getD n3 (default : List UInt8 × List UInt8 × Int)).2.1)) && (((x1.getD n3 (default : List UInt8 × List UInt8 × Int)).2.2 == (x2.getD n3 (default : List UInt8 × List UInt8 × Int)).2.2) && true)))) then (
    some false
    ) else (
    chk (((n3 : Int) + (1 : Int)) ≤ 9223372036854775807) <|
    (f63_L0 x1 x2 K1 k) (n3 + 1)
    )
    ) else (
    K1 ()
    )
abbrev f63z0 (x1 : List (List UInt8 × List UInt8 × Int)) (n3 : Nat) := (x1.getD n3 (default : List UInt8 × List UInt8 × Int))
abbrev f63z1 (x2 : List (List UInt8 × List UInt8 × Int)) (n3 : Nat) := (x2.getD n3 (default : List UInt8 × List UInt8 × Int))
def f63 (x1 : List (List UInt8 × List UInt8 × Int)) (x2 : List (List UInt8 × List UInt8 × Int)) : Option Bool :=
  if ((((x1).length : Nat) : Int) != (((x2).length : Nat) : Int)) then (
  some false
  ) else (
  jn (fun (_ : Unit) =>
  some true
  ) fun (K1 : Unit → Option Bool) =>
  f63_L0 x1 x2 K1 FUEL 0
  )
set_option maxRecDepth 100000 in
theorem f63_ok  (x1 : List (List UInt8 × List UInt8 × Int)) (x2 : List (List UInt8 × List UInt8 × Int)) (r : Bool) (h : f63 x1 x2 = some r)  : Spec1 Tryz.prog 63 [] [] [] [vL 3 eSSI (default : List UInt8 × List UInt8 × Int) x1, vL 3 eSSI (default : List UInt8 × List UInt8 × Int) x2] (.bool r) [] := by
  unfold f63 at h
  refine Spec1.body 0 _ _ Tryz.func63 rfl Tryz.ntmps63 rfl rfl ?_
  refine q1rq [] [] ⟨26, [(0, q1aSSI x1), (1, q1aSSI x2)], [], [], 0⟩ trivial ?_
  refine AWp.seq ?_
  refine q1rq [] [] ⟨26, [(0, q1aSSI x1), (1, q1aSSI x2), (10, .bool ((lZ x1) != (lZ x2)))], [], [], 0⟩ trivial ?_
  refine AWp.cond (b := ((lZ x1) != (lZ x2))) (by kernel_rfl) (fun hc1 => ?_) (fun hc1 => ?_)
  ·
    replace h := ite_tb hc1 h
    refine q1rq [] [] ⟨26, [(4, .bool false)], [], [], 0⟩ trivial ?_
    have hret := Option.some.inj h
    subst hret
    refine AWp.le (Le.mk (s' := ⟨26, [(4, .bool false)], [], [], 0⟩) rfl rfl ⟨.refl _, trivial⟩ trivial) ?_
    refine AWp.ret ?_
    refine thenQ_ret ?_
    exact bodyQ_ret _ rfl ⟨rfl, rfl⟩ rfl
  ·
    replace h := ite_fb hc1 h
    refine AWp.skip ?_
    refine thenQ_normal ?_
    obtain ⟨K1, hK1, h⟩ := jn_some h
    refine AWp.join (α := Unit) (fun (x : Unit) => match x with | () => ⟨26, [], [], [], 0⟩) (fun x => K1 x = some r) ?_ ?_
    ·
      refine q1rq [] [] ⟨26, [(0, q1aSSI x1), (1, q1aSSI x2), (12, .i (lZ x1)), (13, .i (0 : Int))], [], [], 0⟩ trivial ?_
      refine AWp.block ?_
      refine AWp.loopL (α := Nat × Nat) (fun x => match x with | (_, n3) => ⟨26, [(0, q1aSSI x1), (1, q1aSSI x2), (12, .i (lZ x1)), (13, .i (n3 : Int))], [], [], 0⟩) (fun x => f63_L0 x1 x2 K1 x.1 x.2 = some r) (fun x => x.1) (FUEL, 0) (Le.mk (s' := ⟨26, [(0, q1aSSI x1), (1, q1aSSI x2), (12, .i (lZ x1)), (13, .i (0 : Int))], [], [], 0⟩) rfl rfl ⟨.refl _, .refl _, .refl _, .refl _, trivial⟩ trivial) h ?_
      rintro ⟨k0, n3⟩ h
      cases k0 with
      | zero => exact nomatch (show (none : Option Bool) = some r from h)
      | succ k0 =>
      obtain ⟨C0, hC0⟩ : ∃ C, C = f63_L0 x1 x2 K1 k0 := ⟨_, rfl⟩
      replace h := (f63_L0.eq_2 ..).symm.trans h
      try rw [← hC0] at h
      refine q1rq [] [] ⟨26, [(0, q1aSSI x1), (1, q1aSSI x2), (12, .i (lZ x1)), (13, .i (n3 : Int)), (14, .bool (decide ((n3 : Int) < (lZ x1))))], [], [], 0⟩ trivial ?_
      refine AWp.seq ?_
      refine AWp.cond (b := (decide ((n3 : Int) < (lZ x1)))) (by kernel_rfl) (fun hc2 => ?_) (fun hc2 => ?_)
      ·
        replace h := ite_tb hc2 h
        refine AWp.skip ?_
        refine thenQ_normal ?_
        refine AWp.seq ?_
        refine AWp.block ?_
        refine q1rq [] [] ⟨26, [(0, q1aSSI x1), (1, q1aSSI x2), (5, .i (n3 : Int)), (12, .i (lZ x1)), (13, .i (n3 : Int))], [], [], 0⟩ trivial ?_
        refine AWp.seq ?_
        obtain ⟨ob0p, h⟩ := chk_some h
        have ob0 : 0 ≤ (n3 : Int) ∧ (n3 : Int) < (((x1).length : Nat) : Int) := ⟨by omega, ob0p⟩
        obtain ⟨ob1p, h⟩ := chk_some h
        have ob1 : 0 ≤ (n3 : Int) ∧ (n3 : Int) < (((x2).length : Nat) : Int) := ⟨by omega, ob1p⟩
        refine q1rr [] [] ⟨26, [(0, q1aSSI x1), (1, q1aSSI x2), (12, .i (lZ x1)), (13, .i (n3 : Int)), (24, .bool (!((((f63z0 x1 n3).1) == ((f63z1 x2 n3).1)) && ((((f63z0 x1 n3).2.1) == ((f63z1 x2 n3).2.1)) && (((f63z0 x1 n3).2.2 == (f63z1 x2 n3).2.2) && true)))))], [], [], 0⟩ (an2 ob0 ob1) ?_
        refine thenQ_normal ?_
        refine AWp.cond (b := (!((((f63z0 x1 n3).1) == ((f63z1 x2 n3).1)) && ((((f63z0 x1 n3).2.1) == ((f63z1 x2 n3).2.1)) && (((f63z0 x1 n3).2.2 == (f63z1 x2 n3).2.2) && true))))) (by kernel_rfl) (fun hc3 => ?_) (fun hc3 => ?_)
        ·
          replace h := ite_tb hc3 h
          refine q1rq [] [] ⟨26, [(4, .bool false)], [], [], 0⟩ trivial ?_
          have hret := Option.some.inj h
          subst hret
          refine AWp.le (Le.mk (s' := ⟨26, [(4, .bool false)], [], [], 0⟩) rfl rfl ⟨.refl _, trivial⟩ trivial) ?_
          refine AWp.ret ?_
          refine blockQ_ret ?_
          refine thenQ_ret ?_
          refine thenQ_ret ?_
          refine blockQ_ret ?_
          refine joinQ_ret ?_
          exact bodyQ_ret _ rfl ⟨rfl, rfl⟩ rfl
        ·
          replace h := ite_fb hc3 h
          refine AWp.skip ?_
          refine blockQ_normal ?_
          refine thenQ_normal ?_
          obtain ⟨ob2p, h⟩ := chk_some h
          have ob2 : -9223372036854775808 ≤ ((n3 : Int) + (1 : Int)) ∧ ((n3 : Int) + (1 : Int)) ≤ 9223372036854775807 := ⟨by omega, ob2p⟩
          refine q1rr [] [] ⟨26, [(0, q1aSSI x1), (1, q1aSSI x2), (12, .i (lZ x1)), (13, .i (((n3 + 1) : Nat) : Int))], [], [], 0⟩ (an1 ob2) ?_
          rw [hC0] at h
          exact loopQ_normal (_, (n3 + 1)) (Le.mk rfl rfl ⟨.refl _, .refl _, .refl _, .refl _, trivial⟩ trivial) h (Nat.lt_succ_self _)
      ·
        replace h := ite_fb hc2 h
        refine AWp.exit ?_
        refine thenQ_exit ?_
        refine thenQ_exit ?_
        refine blockQ_same ?_
        exact joinQ_normal () (Le.mk rfl rfl trivial trivial) h
    ·
      rintro ⟨⟩ h
      replace h := (congrFun hK1 _).symm.trans h
      refine q1rq [] [] ⟨26, [(4, .bool true)], [], [], 0⟩ trivial ?_
      have hret := Option.some.inj h
      subst hret
      refine AWp.le (Le.mk (s' := ⟨26, [(4, .bool true)], [], [], 0⟩) rfl rfl ⟨.refl _, trivial⟩ trivial) ?_
      refine AWp.ret ?_
      exact bodyQ_ret _ rfl ⟨rfl, rfl⟩ rfl
abbrev f62z0 (x2 : List (List UInt8 × List UInt8 × Int)) : Heap := [(2000, .cells 57 [vL 3 eSSI (default : List UInt8 × List UInt8 × Int) x2])]
def f62 (x1 : List (List UInt8 × List UInt8 × Int)) (x2 : List (List UInt8 × List UInt8 × Int)) : Option (Bool × (List (List UInt8 × List UInt8 × Int))) :=
  (f63 x1 x2).bind fun (r3 : Bool) =>
  some (r3, x2)
set_option maxRecDepth 100000 in
theorem f62_ok  (x1 : List (List UInt8 × List UInt8 × Int)) (x2 : List (List UInt8 × List UInt8 × Int)) (r : Bool × (List (List UInt8 × List UInt8 × Int))) (h : f62 x1 x2 = some r)  : Spec1 Tryz.prog 62 [] [2000] [(2000, .cells 57 [vL 3 eSSI (default : List UInt8 × List UInt8 × Int) x2])] [vL 3 eSSI (default : List UInt8 × List UInt8 × Int) x1, .ptr 2000 0] (.bool r.1) [(2000, .cells 57 [vL 3 eSSI (default : List UInt8 × List UInt8 × Int) r.2])] := by
  unfold f62 at h
  refine Spec1.body 0 _ _ Tryz.func62 rfl Tryz.ntmps62 rfl rfl ?_
  refine q1rq [] [] ⟨7, [(0, q1aSSI x1), (1, .ptr 2000 0)], (f62z0 x2), [2000], 0⟩ trivial ?_
  refine AWp.seq ?_
  obtain ⟨r3, hr3, h⟩ := bind_ok h
  refine q1rr [] [(2, ⟨[q1aSSI x1, q1aSSI x2], [], [], [], .bool r3, [], [], []⟩)] ⟨7, [(3, .bool r3)], (f62z0 x2), [2000], 0⟩ (an1 (cpT (f63_ok _ _ _ hr3))) ?_
  refine thenQ_normal ?_
  have hret := Option.some.inj h
  subst hret
  refine AWp.le (Le.mk (s' := ⟨7, [(3, .bool r3)], (f62z0 x2), [2000], 0⟩) rfl rfl ⟨.refl _, trivial⟩ ⟨⟨_, rfl, .refl _⟩, trivial⟩) ?_
  refine AWp.ret ?_
  exact bodyQ_ret _ rfl ⟨rfl, rfl⟩ rfl
def f101_L0 (x1 : List (List (List UInt8 × List UInt8 × Int))) (K1 : (List (List UInt8 × List UInt8 × Int)) → Option (Int × (List (List (List UInt8 × List UInt8 × Int))) × (List (List UInt8 × List UInt8 × Int)))) : Nat → (Nat × (List (List UInt8 × List UInt8 × Int))) → Option (Int × (List (List (List UInt8 × List UInt8 × Int))) × (List (List UInt8 × List UInt8 × Int)))
  | 0, _ => none
  | k + 1, (n3, l4) =>
    if (decide ((n3 : Int) < (((x1).length : Nat) : Int))) then (
    (f62 (x1.getD n3 []) l4).bind fun (r5 : Bool × (List (List UInt8 × List UInt8 × Int))) =>
    chk ((n3 : Int) < (((x1).length : Nat) : Int)) <|
    chk (n3 < (x1).length) <|
    if r5.1 then (
    some ((n3 : Int), x1, r5.2)
    ) else (
    chk (((n3 : Int) + (1 : Int)) ≤ 9223372036854775807) <|
    (f101_L0 x1 K1 k) ((n3 + 1), r5.2)
    )
    ) else (
    K1 l4
    )
abbrev f101z0 (x1 : List (List (List UInt8 × List UInt8 × Int))) (r5 : Bool × (List (List UInt8 × List UInt8 × Int))) : Heap := [(2000, bL 57 1 eLSSIJ [] x1), (2001, .cells 57 [vL 3 eSSI (default : List UInt8 × List UInt8 × Int) r5.2])]
abbrev f101z1 (x1 : List (List (List UInt8 × List UInt8 × Int))) (l4 : List (List UInt8 × List UInt8 × Int)) : Heap := [(2000, bL 57 1 eLSSIJ [] x1), (2001, .cells 57 [vL 3 eSSI (default : List UInt8 × List UInt8 × Int) l4])]
abbrev f101z2 (x1 : List (List (List UInt8 × List UInt8 × Int))) (x2 : List (List UInt8 × List UInt8 × Int)) : Heap := [(2000, bL 57 1 eLSSIJ [] x1), (2001, .cells 57 [vL 3 eSSI (default : List UInt8 × List UInt8 × Int) x2])]
abbrev f101z3 (x1 : List (List (List UInt8 × List UInt8 × Int))) (l6 : List (List UInt8 × List UInt8 × Int)) : Heap := [(2000, bL 57 1 eLSSIJ [] x1), (2001, .cells 57 [vL 3 eSSI (default : List UInt8 × List UInt8 × Int) l6])]
def f101 (x1 : List (List (List UInt8 × List UInt8 × Int))) (x2 : List (List UInt8 × List UInt8 × Int)) : Option (Int × (List (List (List UInt8 × List UInt8 × Int))) × (List (List UInt8 × List UInt8 × Int))) :=
  jn (fun (l6 : List (List UInt8 × List UInt8 × Int)) =>
  some ((-1 : Int), x1, l6)
  ) fun (K1 : (List (List UInt8 × List UInt8 × Int)) → Option (Int × (List (List (List UInt8 × List UInt8 × Int))) × (List (List UInt8 × List UInt8 × Int)))) =>
  f101_L0 x1 K1 FUEL (0, x2)
set_option maxRecDepth 100000 in
theorem f101_ok  (x1 : List (List (List UInt8 × List UInt8 × Int))) (x2 : List (List UInt8 × List UInt8 × Int)) (r : Int × (List (List (List UInt8 × List UInt8 × Int))) × (List (List UInt8 × List UInt8 × Int))) (h : f101 x1 x2 = some r)  : Spec1 Tryz.prog 101 [] [2000, 2001] [(2000, bL 57 1 eLSSIJ [] x1), (2001, .cells 57 [vL 3 eSSI (default : List UInt8 × List UInt8 × Int) x2])] [.own 2000, .fn (.func 62) [.ptr 2001 0]] (.int .i64 r.1) [(2000, bL 57 1 eLSSIJ [] r.2.1), (2001, .cells 57 [vL 3 eSSI (default : List UInt8 × List UInt8 × Int) r.2.2])] := by
  unfold f101 at h
  refine Spec1.body 0 _ _ Tryz.func101 rfl Tryz.ntmps101 rfl rfl ?_
  refine q1rq [] [] ⟨19, [(0, .own 2000), (1, .fn (.func 62) [.ptr 2001 0])], (f101z2 x1 x2), [2000, 2001], 0⟩ trivial ?_
  obtain ⟨K1, hK1, h⟩ := jn_some h
  refine AWp.join (α := List (List UInt8 × List UInt8 × Int)) (fun (l6 : List (List UInt8 × List UInt8 × Int)) => ⟨19, [], (f101z3 x1 l6), [2000, 2001], 0⟩) (fun x => K1 x = some r) ?_ ?_
  ·
    refine q1rq [] [] ⟨19, [(0, .own 2000), (1, .fn (.func 62) [.ptr 2001 0]), (7, .i (lZ x1)), (8, .i (0 : Int))], (f101z2 x1 x2), [2000, 2001], 0⟩ trivial ?_
    refine AWp.block ?_
    refine AWp.loopL (α := Nat × (Nat × (List (List UInt8 × List UInt8 × Int)))) (fun x => match x with | (_, n3, l4) => ⟨19, [(0, .own 2000), (1, .fn (.func 62) [.ptr 2001 0]), (7, .i (lZ x1)), (8, .i (n3 : Int))], (f101z1 x1 l4), [2000, 2001], 0⟩) (fun x => f101_L0 x1 K1 x.1 x.2 = some r) (fun x => x.1) (FUEL, 0, x2) (Le.mk (s' := ⟨19, [(0, .own 2000), (1, .fn (.func 62) [.ptr 2001 0]), (7, .i (lZ x1)), (8, .i (0 : Int))], (f101z2 x1 x2), [2000, 2001], 0⟩) rfl rfl ⟨.refl _, .refl _, .refl _, .refl _, trivial⟩ ⟨⟨_, rfl, .refl _⟩, ⟨_, rfl, .refl _⟩, trivial⟩) h ?_
    rintro ⟨k0, n3, l4⟩ h
    cases k0 with
    | zero => exact nomatch (show (none : Option (Int × (List (List (List UInt8 × List UInt8 × Int))) × (List (List UInt8 × List UInt8 × Int)))) = some r from h)
    | succ k0 =>
    obtain ⟨C0, hC0⟩ : ∃ C, C = f101_L0 x1 K1 k0 := ⟨_, rfl⟩
    replace h := (f101_L0.eq_2 ..).symm.trans h
    try rw [← hC0] at h
    refine q1rq [] [] ⟨19, [(0, .own 2000), (1, .fn (.func 62) [.ptr 2001 0]), (7, .i (lZ x1)), (8, .i (n3 : Int)), (9, .bool (decide ((n3 : Int) < (lZ x1))))], (f101z1 x1 l4), [2000, 2001], 0⟩ trivial ?_
    refine AWp.seq ?_
    refine AWp.cond (b := (decide ((n3 : Int) < (lZ x1)))) (by kernel_rfl) (fun hc1 => ?_) (fun hc1 => ?_)
    ·
      replace h := ite_tb hc1 h
      refine AWp.skip ?_
      refine thenQ_normal ?_
      refine AWp.seq ?_
      refine AWp.block ?_
      refine q1rq [] [] ⟨19, [(0, .own 2000), (1, .fn (.func 62) [.ptr 2001 0]), (5, .i (n3 : Int)), (7, .i (lZ x1)), (8, .i (n3 : Int))], (f101z1 x1 l4), [2000, 2001], 0⟩ trivial ?_
      refine AWp.seq ?_
      obtain ⟨r5, hr5, h⟩ := bind_ok h
      obtain ⟨ob0p, h⟩ := chk_some h
      have ob0 : 0 ≤ (n3 : Int) ∧ (n3 : Int) < (((x1).length : Nat) : Int) := ⟨by omega, ob0p⟩
      obtain ⟨ob1, h⟩ := chk_some h
      refine q1rr [] [(5, ⟨[q1aSSI (x1.getD n3 []), .ptr 2001 0], [2001], [2001], [(2001, .cells 57 [q1aSSI r5.2])], .bool r5.1, [], [], []⟩)] ⟨19, [(0, .own 2000), (1, .fn (.func 62) [.ptr 2001 0]), (5, .i (n3 : Int)), (7, .i (lZ x1)), (8, .i (n3 : Int)), (16, .bool r5.1)], (f101z0 x1 r5), [2000, 2001], 0⟩ (an3 ob0 ob1 (cpT (Spec1.ren (swapN 2000 2001) (swapN_inv 2000 2001) rfl (f62_ok _ _ _ hr5)))) ?_
      refine thenQ_normal ?_
      refine AWp.cond (b := r5.1) (by kernel_rfl) (fun hc2 => ?_) (fun hc2 => ?_)
      ·
        replace h := ite_tb hc2 h
        refine q1rq [] [] ⟨19, [(4, .i (n3 : Int))], (f101z0 x1 r5), [2000, 2001], 0⟩ trivial ?_
        have hret := Option.some.inj h
        subst hret
        refine AWp.le (Le.mk (s' := ⟨19, [(4, .i (n3 : Int))], (f101z0 x1 r5), [2000, 2001], 0⟩) rfl rfl ⟨.refl _, trivial⟩ ⟨⟨_, rfl, .refl _⟩, ⟨_, rfl, .refl _⟩, trivial⟩) ?_
        refine AWp.ret ?_
        refine blockQ_ret ?_
        refine thenQ_ret ?_
        refine thenQ_ret ?_
        refine blockQ_ret ?_
        refine joinQ_ret ?_
        exact bodyQ_ret _ rfl ⟨rfl, rfl⟩ rfl
      ·
        replace h := ite_fb hc2 h
        refine AWp.skip ?_
        refine blockQ_normal ?_
        refine thenQ_normal ?_
        obtain ⟨ob2p, h⟩ := chk_some h
        have ob2 : -9223372036854775808 ≤ ((n3 : Int) + (1 : Int)) ∧ ((n3 : Int) + (1 : Int)) ≤ 9223372036854775807 := ⟨by omega, ob2p⟩
        refine q1rr [] [] ⟨19, [(0, .own 2000), (1, .fn (.func 62) [.ptr 2001 0]), (7, .i (lZ x1)), (8, .i (((n3 + 1) : Nat) : Int))], (f101z0 x1 r5), [2000, 2001], 0⟩ (an1 ob2) ?_
        rw [hC0] at h
        exact loopQ_normal (_, (n3 + 1), r5.2) (Le.mk rfl rfl ⟨.refl _, .refl _, .refl _, .refl _, trivial⟩ ⟨⟨_, rfl, .refl _⟩, ⟨_, rfl, .refl _⟩, trivial⟩) h (Nat.lt_succ_self _)
    ·
      replace h := ite_fb hc1 h
      refine AWp.exit ?_
      refine thenQ_exit ?_
      refine thenQ_exit ?_
      refine blockQ_same ?_
      exact joinQ_normal (l4) (Le.mk rfl rfl trivial ⟨⟨_, rfl, .refl _⟩, ⟨_, rfl, .refl _⟩, trivial⟩) h
  ·
    rintro l6 h
    replace h := (congrFun hK1 _).symm.trans h
    refine q1rq [] [] ⟨19, [(4, .i (-1 : Int))], (f101z3 x1 l6), [2000, 2001], 0⟩ trivial ?_
    have hret := Option.some.inj h
    subst hret
    refine AWp.le (Le.mk (s' := ⟨19, [(4, .i (-1 : Int))], (f101z3 x1 l6), [2000, 2001], 0⟩) rfl rfl ⟨.refl _, trivial⟩ ⟨⟨_, rfl, .refl _⟩, ⟨_, rfl, .refl _⟩, trivial⟩) ?_
    refine AWp.ret ?_
    exact bodyQ_ret _ rfl ⟨rfl, rfl⟩ rfl
abbrev f61z0 (r3 : Int × (List (List (List UInt8 × List UInt8 × Int))) × (List (List UInt8 × List UInt8 × Int))) : Heap := [(2000, bL 57 1 eLSSIJ [] r3.2.1), (2001, .cells 57 [vL 3 eSSI (default : List UInt8 × List UInt8 × Int) r3.2.2])]
def f61 (x1 : List (List (List UInt8 × List UInt8 × Int))) (x2 : List (List UInt8 × List UInt8 × Int)) : Option (Bool × (List (List (List UInt8 × List UInt8 × Int))) × (List (List UInt8 × List UInt8 × Int))) :=
  (f101 x1 x2).bind fun (r3 : Int × (List (List (List UInt8 × List UInt8 × Int))) × (List (List UInt8 × List UInt8 × Int))) =>
  some ((decide (r3.1 ≥ (0 : Int))), r3.2.1, r3.2.2)
set_option maxRecDepth 100000 in
theorem f61_ok  (x1 : List (List (List UInt8 × List UInt8 × Int))) (x2 : List (List UInt8 × List UInt8 × Int)) (r : Bool × (List (List (List UInt8 × List UInt8 × Int))) × (List (List UInt8 × List UInt8 × Int))) (h : f61 x1 x2 = some r)  : Spec1 Tryz.prog 61 [] [2000, 2001] [(2000, bL 57 1 eLSSIJ [] x1), (2001, .cells 57 [vL 3 eSSI (default : List UInt8 × List UInt8 × Int) x2])] [.own 2000, .fn (.func 62) [.ptr 2001 0]] (.bool r.1) [(2000, bL 57 1 eLSSIJ [] r.2.1), (2001, .cells 57 [vL 3 eSSI (default : List UInt8 × List UInt8 × Int) r.2.2])] := by
  unfold f61 at h
  refine Spec1.body 0 _ _ Tryz.func61 rfl Tryz.ntmps61 rfl rfl ?_
  refine q1rq [] [] ⟨9, [(0, .own 2000), (1, .fn (.func 62) [.ptr 2001 0])], [(2000, q1bLSSIJ_57 x1), (2001, .cells 57 [q1aSSI x2])], [2000, 2001], 0⟩ trivial ?_
  refine AWp.seq ?_
  obtain ⟨r3, hr3, h⟩ := bind_ok h
  refine q1rr [] [(2, ⟨[.own 2000, .fn (.func 62) [.ptr 2001 0]], [2000, 2001], [2000, 2001], (f61z0 r3), .i r3.1, [], [], []⟩)] ⟨9, [(4, .bool (decide (r3.1 ≥ (0 : Int))))], (f61z0 r3), [2000, 2001], 0⟩ (an1 (cpT (f101_ok _ _ _ hr3))) ?_
  refine thenQ_normal ?_
  have hret := Option.some.inj h
  subst hret
  refine AWp.le (Le.mk (s' := ⟨9, [(4, .bool (decide (r3.1 ≥ (0 : Int))))], (f61z0 r3), [2000, 2001], 0⟩) rfl rfl ⟨.refl _, trivial⟩ ⟨⟨_, rfl, .refl _⟩, ⟨_, rfl, .refl _⟩, trivial⟩) ?_
  refine AWp.ret ?_
  exact bodyQ_ret _ rfl ⟨rfl, rfl⟩ rfl
def f31 (x1 : Int) (x2 : Int) (x3 : Int) (x4 : List UInt8) (x5 : List UInt8) (x6 : Int) (x7 : Int) (x8 : Int) (x9 : List UInt8) (x10 : List UInt8) : Option Bool :=
  (f36 x1 x2 x3 x4 x5).bind fun (r11 : Bool) =>
  some ((!r11) && (decide (x3 < x7)))
set_option maxRecDepth 100000 in
theorem f31_ok  (x1 : Int) (x2 : Int) (x3 : Int) (x4 : List UInt8) (x5 : List UInt8) (x6 : Int) (x7 : Int) (x8 : Int) (x9 : List UInt8) (x10 : List UInt8) (r : Bool) (h : f31 x1 x2 x3 x4 x5 x6 x7 x8 x9 x10 = some r)  : Spec1 Tryz.prog 31 [] [] [] [.agg [.int .i64 x1, .int .i64 x2, .int .i64 x3, .str x4, .str x5], .agg [.int .i64 x6, .int .i64 x7, .int .i64 x8, .str x9, .str x10]] (.bool r) [] := by
  unfold f31 at h
  refine Spec1.body 0 _ _ Tryz.func31 rfl Tryz.ntmps31 rfl rfl ?_
  refine q1rq [] [] ⟨15, [(2, .ptr 2 0), (3, .ptr 3 0)], [(2, .cells 31 [.i x1, .i x2, .i x3, .str x4, .str x5]), (3, .cells 31 [.i x6, .i x7, .i x8, .str x9, .str x10])], [], 0⟩ trivial ?_
  refine AWp.seq ?_
  obtain ⟨r11, hr11, h⟩ := bind_ok h
  have ob0 := idA (((!r11) == true) = true)
  have ob1 := idA (((!r11) == true) = true)
  have ob2 := idA (((!r11) == true) = true)
  have ob3 := idA (((!r11) == true) = true)
  have ob4 := bqA (!r11) true
  refine q1rr [] [(1, ⟨[.agg [.i x1, .i x2, .i x3, .str x4, .str x5]], [], [], [], .bool r11, [], [], []⟩)] ⟨15, [(4, .bool ((!r11) && (decide (x3 < x7))))], [], [], 0⟩ (an5 (cpT (f36_ok _ _ _ _ _ _ hr11)) (an1 ob0) (an1 ob1) (an2 ob2 ob3) ob4) ?_
  refine thenQ_normal ?_
  have hret := Option.some.inj h
  subst hret
  refine AWp.le (Le.mk (s' := ⟨15, [(4, .bool ((!r11) && (decide (x3 < x7))))], [], [], 0⟩) rfl rfl ⟨.refl _, trivial⟩ trivial) ?_
  refine AWp.ret ?_
  exact bodyQ_ret _ rfl ⟨rfl, rfl⟩ rfl
def f41_L0 (x1 : Int) (x2 : Int) (x3 : Int) (x4 : Int) (x5 : List UInt8) (x6 : List UInt8) (x7 : List (Int × Int × Int × List UInt8 × List UInt8)) (x8 : Int) (x9 : List Int) (x10 : List (List (List (List UInt8 × List UInt8 × Int)))) (K1 : Unit → Option (Bool × (List (Int × Int × Int × List UInt8 × List UInt8)) × Int × List Int × (List (List (List (List UInt8 × List UInt8 × Int)))))) : Nat → Nat → Option (Bool × (List (Int × Int × Int × List UInt8 × List UInt8)) × Int × List Int × (List (List (List (List UInt8 × List UInt8 × Int)))))
  | 0, _ => none
  | k + 1, n11 =>
    if (decide ((n11 : Int) < (((x7).length : Nat) : Int))) then (
    chk ((n11 : Int) < (((x7).length : Nat) : Int)) <|
    optc (((bitsI .and .u64 (x1 / 2 ^ n11) (1 : Int)) == (1 : Int)) == true) (f31 x2 x3 x4 x5 x6 ((x7.getD n11 (default : Int × Int × Int × List UInt8 × List UInt8)).1) ((x7.getD n11 (default : Int × Int × Int × List UInt8 × List UInt8)).2.1) ((x7.getD n11 (default : Int × Int × Int × List UInt8 × List UInt8)).2.2.1) ((x7.getD n11 (default : Int × Int × Int × List UInt8 × List UInt8)).2.2.2.1) ((x7.getD n11 (default : Int × Int × Int × List UInt8 × List UInt8)).2.2.2.2)) fun (r12 : Bool) =>
    chk (n11 ≤ IntKind.bits .u64) <|
    if (((bitsI .and .u64 (x1 / 2 ^ n11) (1 : Int)) == (1 : Int)) && r12) then (
    some (false, x7, x8, x9, x10)
    ) else (
    chk (((n11 : Int) + (1 : Int)) ≤ 9223372036854775807) <|
    (f41_L0 x1 x2 x3 x4 x5 x6 x7 x8 x9 x10 K1 k) (n11 + 1)
    )
    ) else (
    K1 ()
    )
abbrev f41z0 (x7 : List (Int × Int × Int × List UInt8 × List UInt8)) (n11 : Nat) := (x7.getD n11 (default : Int × Int × Int × List UInt8 × List UInt8))
abbrev f41z1 (x2 : Int) (x3 : Int) (x4 : Int) (x5 : List UInt8) (x6 : List UInt8) : List V := [.int .i64 x2, .int .i64 x3, .int .i64 x4, .str x5, .str x6]
def f41 (x1 : Int) (x2 : Int) (x3 : Int) (x4 : Int) (x5 : List UInt8) (x6 : List UInt8) (x7 : List (Int × Int × Int × List UInt8 × List UInt8)) (x8 : Int) (x9 : List Int) (x10 : List (List (List (List UInt8 × List UInt8 × Int)))) : Option (Bool × (List (Int × Int × Int × List UInt8 × List UInt8)) × Int × List Int × (List (List (List (List UInt8 × List UInt8 × Int))))) :=
  jn (fun (_ : Unit) =>
  some (true, x7, x8, x9, x10)
  ) fun (K1 : Unit → Option (Bool × (List (Int × Int × Int × List UInt8 × List UInt8)) × Int × List Int × (List (List (List (List UInt8 × List UInt8 × Int)))))) =>
  f41_L0 x1 x2 x3 x4 x5 x6 x7 x8 x9 x10 K1 FUEL 0
set_option maxRecDepth 100000 in
theorem f41_ok  (x1 : Int) (x2 : Int) (x3 : Int) (x4 : Int) (x5 : List UInt8) (x6 : List UInt8) (x7 : List (Int × Int × Int × List UInt8 × List UInt8)) (x8 : Int) (x9 : List Int) (x10 : List (List (List (List UInt8 × List UInt8 × Int)))) (r : Bool × (List (Int × Int × Int × List UInt8 × List UInt8)) × Int × List Int × (List (List (List (List UInt8 × List UInt8 × Int))))) (h : f41 x1 x2 x3 x4 x5 x6 x7 x8 x9 x10 = some r)  : Spec1 Tryz.prog 41 [] [2000, 2001] [(2000, .cells 64 [vL 5 eT31 (default : Int × Int × Int × List UInt8 × List UInt8) x7, .fn (.func 31) [], .int .u64 x8, .own 2001]), (2001, bI (V.int .u64) 0 x9 (some 2002) none none), (2002, bF 57 1 eLSSIJ [] x10 none)] [.ptr 2000 0, .int .u64 x1, .agg [.int .i64 x2, .int .i64 x3, .int .i64 x4, .str x5, .str x6]] (.bool r.1) [(2000, .cells 64 [vL 5 eT31 (default : Int × Int × Int × List UInt8 × List UInt8) r.2.1, .fn (.func 31) [], .int .u64 r.2.2.1, .own 2001]), (2001, bI (V.int .u64) 0 r.2.2.2.1 (some 2002) none none), (2002, bF 57 1 eLSSIJ [] r.2.2.2.2 none)] := by
  unfold f41 at h
  refine Spec1.body 0 _ _ Tryz.func41 rfl Tryz.ntmps41 rfl rfl ?_
  refine q1rq [] [] ⟨34, [(0, .ptr 2000 0), (1, .int .u64 x1), (5, .ptr 5 0)], [(5, .cells 31 (f41z1 x2 x3 x4 x5 x6)), (2000, .cells 64 [q1aT31 x7, .fn (.func 31) [], .int .u64 x8, .own 2001]), (2001, bI (V.int .u64) 0 x9 (some 2002) none none), (2002, bF 57 1 eLSSIJ [] x10 none)], [2000, 2001], 0⟩ trivial ?_
  obtain ⟨K1, hK1, h⟩ := jn_some h
  refine AWp.join (α := Unit) (fun (x : Unit) => match x with | () => ⟨34, [], [(2000, .cells 64 [q1aT31 x7, .fn (.func 31) [], .int .u64 x8, .own 2001]), (2001, bI (V.int .u64) 0 x9 (some 2002) none none), (2002, bF 57 1 eLSSIJ [] x10 none)], [2000, 2001], 0⟩) (fun x => K1 x = some r) ?_ ?_
  ·
    refine q1rq [] [] ⟨34, [(0, .ptr 2000 0), (1, .int .u64 x1), (5, .ptr 5 0), (12, q1aT31 x7), (13, .i (lZ x7)), (14, .i (0 : Int))], [(5, .cells 31 (f41z1 x2 x3 x4 x5 x6)), (2000, .cells 64 [q1aT31 x7, .fn (.func 31) [], .int .u64 x8, .own 2001]), (2001, bI (V.int .u64) 0 x9 (some 2002) none none), (2002, bF 57 1 eLSSIJ [] x10 none)], [2000, 2001], 0⟩ trivial ?_
    refine AWp.block ?_
    refine AWp.loopL (α := Nat × Nat) (fun x => match x with | (_, n11) => ⟨34, [(0, .ptr 2000 0), (1, .int .u64 x1), (5, .ptr 5 0), (12, q1aT31 x7), (13, .i (lZ x7)), (14, .i (n11 : Int))], [(5, .cells 31 (f41z1 x2 x3 x4 x5 x6)), (2000, .cells 64 [q1aT31 x7, .fn (.func 31) [], .int .u64 x8, .own 2001]), (2001, bI (V.int .u64) 0 x9 (some 2002) none none), (2002, bF 57 1 eLSSIJ [] x10 none)], [2000, 2001], 0⟩) (fun x => f41_L0 x1 x2 x3 x4 x5 x6 x7 x8 x9 x10 K1 x.1 x.2 = some r) (fun x => x.1) (FUEL, 0) (Le.mk (s' := ⟨34, [(0, .ptr 2000 0), (1, .int .u64 x1), (5, .ptr 5 0), (12, q1aT31 x7), (13, .i (lZ x7)), (14, .i (0 : Int))], [(5, .cells 31 (f41z1 x2 x3 x4 x5 x6)), (2000, .cells 64 [q1aT31 x7, .fn (.func 31) [], .int .u64 x8, .own 2001]), (2001, bI (V.int .u64) 0 x9 (some 2002) none none), (2002, bF 57 1 eLSSIJ [] x10 none)], [2000, 2001], 0⟩) rfl rfl ⟨.refl _, .refl _, .refl _, .refl _, .refl _, .refl _, trivial⟩ ⟨⟨_, rfl, .refl _⟩, ⟨_, rfl, .refl _⟩, ⟨_, rfl, .refl _⟩, ⟨_, rfl, .refl _⟩, trivial⟩) h ?_
    rintro ⟨k0, n11⟩ h
    cases k0 with
    | zero => exact nomatch (show (none : Option (Bool × (List (Int × Int × Int × List UInt8 × List UInt8)) × Int × List Int × (List (List (List (List UInt8 × List UInt8 × Int)))))) = some r from h)
    | succ k0 =>
    obtain ⟨C0, hC0⟩ : ∃ C, C = f41_L0 x1 x2 x3 x4 x5 x6 x7 x8 x9 x10 K1 k0 := ⟨_, rfl⟩
    replace h := (f41_L0.eq_2 ..).symm.trans h
    try rw [← hC0] at h
    refine q1rq [] [] ⟨34, [(0, .ptr 2000 0), (1, .int .u64 x1), (5, .ptr 5 0), (12, q1aT31 x7), (13, .i (lZ x7)), (14, .i (n11 : Int)), (15, .bool (decide ((n11 : Int) < (lZ x7))))], [(5, .cells 31 (f41z1 x2 x3 x4 x5 x6)), (2000, .cells 64 [q1aT31 x7, .fn (.func 31) [], .int .u64 x8, .own 2001]), (2001, bI (V.int .u64) 0 x9 (some 2002) none none), (2002, bF 57 1 eLSSIJ [] x10 none)], [2000, 2001], 0⟩ trivial ?_
    refine AWp.seq ?_
    refine AWp.cond (b := (decide ((n11 : Int) < (lZ x7)))) (by kernel_rfl) (fun hc1 => ?_) (fun hc1 => ?_)
    ·
      replace h := ite_tb hc1 h
      refine AWp.skip ?_
      refine thenQ_normal ?_
      refine AWp.seq ?_
      refine AWp.block ?_
      refine AWp.seq ?_
      obtain ⟨ob0p, h⟩ := chk_some h
      have ob0 : 0 ≤ (n11 : Int) ∧ (n11 : Int) < (((x7).length : Nat) : Int) := ⟨by omega, ob0p⟩
      refine q1rr [] [] ⟨34, [(0, .ptr 2000 0), (1, .int .u64 x1), (5, .ptr 5 0), (7, .i (n11 : Int)), (8, .ptr 8 0), (12, q1aT31 x7), (13, .i (lZ x7)), (14, .i (n11 : Int))], [(5, .cells 31 (f41z1 x2 x3 x4 x5 x6)), (8, .cells 31 [.i (f41z0 x7 n11).1, .i (f41z0 x7 n11).2.1, .i (f41z0 x7 n11).2.2.1, .str (f41z0 x7 n11).2.2.2.1, .str (f41z0 x7 n11).2.2.2.2]), (2000, .cells 64 [q1aT31 x7, .fn (.func 31) [], .int .u64 x8, .own 2001]), (2001, bI (V.int .u64) 0 x9 (some 2002) none none), (2002, bF 57 1 eLSSIJ [] x10 none)], [2000, 2001], 0⟩ (an2 ob0 trivial) ?_
      refine thenQ_normal ?_
      refine AWp.seq ?_
      obtain ⟨r12, hr12, h⟩ := optc_some h
      obtain ⟨ob1p, h⟩ := chk_some h
      have ob1 : 0 ≤ (n11 : Int) ∧ n11 ≤ IntKind.bits .u64 := ⟨by omega, ob1p⟩
      have ob2 := idA ((((bitsI .and .u64 (x1 / 2 ^ n11) (1 : Int)) == (1 : Int)) == true) = true)
      have ob3 := idA ((((bitsI .and .u64 (x1 / 2 ^ n11) (1 : Int)) == (1 : Int)) == true) = true)
      have ob4 := idA ((((bitsI .and .u64 (x1 / 2 ^ n11) (1 : Int)) == (1 : Int)) == true) = true)
      have ob5 := idA ((((bitsI .and .u64 (x1 / 2 ^ n11) (1 : Int)) == (1 : Int)) == true) = true)
      have ob6 := idA ((((bitsI .and .u64 (x1 / 2 ^ n11) (1 : Int)) == (1 : Int)) == true) = true)
      have ob7 := idA ((((bitsI .and .u64 (x1 / 2 ^ n11) (1 : Int)) == (1 : Int)) == true) = true)
      have ob8 := bqA ((bitsI .and .u64 (x1 / 2 ^ n11) (1 : Int)) == (1 : Int)) true
      refine q1rr [] [(12, ⟨[.agg (f41z1 x2 x3 x4 x5 x6), .agg [.i (f41z0 x7 n11).1, .i (f41z0 x7 n11).2.1, .i (f41z0 x7 n11).2.2.1, .str (f41z0 x7 n11).2.2.2.1, .str (f41z0 x7 n11).2.2.2.2]], [], [], [], .bool r12, [], [], []⟩)] ⟨34, [(0, .ptr 2000 0), (1, .int .u64 x1), (5, .ptr 5 0), (12, q1aT31 x7), (13, .i (lZ x7)), (14, .i (n11 : Int)), (32, .bool (((bitsI .and .u64 (x1 / 2 ^ n11) (1 : Int)) == (1 : Int)) && r12))], [(5, .cells 31 (f41z1 x2 x3 x4 x5 x6)), (2000, .cells 64 [q1aT31 x7, .fn (.func 31) [], .int .u64 x8, .own 2001]), (2001, bI (V.int .u64) 0 x9 (some 2002) none none), (2002, bF 57 1 eLSSIJ [] x10 none)], [2000, 2001], 0⟩ (an6 ob1 (an1 ob2) (an1 ob3) (an1 ob4) (And.intro (cpC fun hc => (f31_ok _ _ _ _ _ _ _ _ _ _ _ (hr12 hc))) (an3 ob5 ob6 ob7)) ob8) ?_
      refine thenQ_normal ?_
      refine AWp.cond (b := (((bitsI .and .u64 (x1 / 2 ^ n11) (1 : Int)) == (1 : Int)) && r12)) (by kernel_rfl) (fun hc2 => ?_) (fun hc2 => ?_)
      ·
        replace h := ite_tb hc2 h
        refine q1rq [] [] ⟨34, [(6, .bool false)], [(2000, .cells 64 [q1aT31 x7, .fn (.func 31) [], .int .u64 x8, .own 2001]), (2001, bI (V.int .u64) 0 x9 (some 2002) none none), (2002, bF 57 1 eLSSIJ [] x10 none)], [2000, 2001], 0⟩ trivial ?_
        have hret := Option.some.inj h
        subst hret
        refine AWp.le (Le.mk (s' := ⟨34, [(6, .bool false)], [(2000, .cells 64 [q1aT31 x7, .fn (.func 31) [], .int .u64 x8, .own 2001]), (2001, bI (V.int .u64) 0 x9 (some 2002) none none), (2002, bF 57 1 eLSSIJ [] x10 none)], [2000, 2001], 0⟩) rfl rfl ⟨.refl _, trivial⟩ ⟨⟨_, rfl, .refl _⟩, ⟨_, rfl, .refl _⟩, ⟨_, rfl, .refl _⟩, trivial⟩) ?_
        refine AWp.ret ?_
        refine blockQ_ret ?_
        refine thenQ_ret ?_
        refine thenQ_ret ?_
        refine blockQ_ret ?_
        refine joinQ_ret ?_
        exact bodyQ_ret _ rfl ⟨rfl, rfl⟩ rfl
      ·
        replace h := ite_fb hc2 h
        refine AWp.skip ?_
        refine blockQ_normal ?_
        refine thenQ_normal ?_
        obtain ⟨ob9p, h⟩ := chk_some h
        have ob9 : -9223372036854775808 ≤ ((n11 : Int) + (1 : Int)) ∧ ((n11 : Int) + (1 : Int)) ≤ 9223372036854775807 := ⟨by omega, ob9p⟩
        refine q1rr [] [] ⟨34, [(0, .ptr 2000 0), (1, .int .u64 x1), (5, .ptr 5 0), (12, q1aT31 x7), (13, .i (lZ x7)), (14, .i (((n11 + 1) : Nat) : Int))], [(5, .cells 31 (f41z1 x2 x3 x4 x5 x6)), (2000, .cells 64 [q1aT31 x7, .fn (.func 31) [], .int .u64 x8, .own 2001]), (2001, bI (V.int .u64) 0 x9 (some 2002) none none), (2002, bF 57 1 eLSSIJ [] x10 none)], [2000, 2001], 0⟩ (an1 ob9) ?_
        rw [hC0] at h
        exact loopQ_normal (_, (n11 + 1)) (Le.mk rfl rfl ⟨.refl _, .refl _, .refl _, .refl _, .refl _, .refl _, trivial⟩ ⟨⟨_, rfl, .refl _⟩, ⟨_, rfl, .refl _⟩, ⟨_, rfl, .refl _⟩, ⟨_, rfl, .refl _⟩, trivial⟩) h (Nat.lt_succ_self _)
    ·
      replace h := ite_fb hc1 h
      refine AWp.exit ?_
      refine thenQ_exit ?_
      refine thenQ_exit ?_
      refine blockQ_same ?_
      exact joinQ_normal () (Le.mk rfl rfl trivial ⟨⟨_, rfl, .refl _⟩, ⟨_, rfl, .refl _⟩, ⟨_, rfl, .refl _⟩, trivial⟩) h
  ·
    rintro ⟨⟩ h
    replace h := (congrFun hK1 _).symm.trans h
    refine q1rq [] [] ⟨34, [(6, .bool true)], [(2000, .cells 64 [q1aT31 x7, .fn (.func 31) [], .int .u64 x8, .own 2001]), (2001, bI (V.int .u64) 0 x9 (some 2002) none none), (2002, bF 57 1 eLSSIJ [] x10 none)], [2000, 2001], 0⟩ trivial ?_
    have hret := Option.some.inj h
    subst hret
    refine AWp.le (Le.mk (s' := ⟨34, [(6, .bool true)], [(2000, .cells 64 [q1aT31 x7, .fn (.func 31) [], .int .u64 x8, .own 2001]), (2001, bI (V.int .u64) 0 x9 (some 2002) none none), (2002, bF 57 1 eLSSIJ [] x10 none)], [2000, 2001], 0⟩) rfl rfl ⟨.refl _, trivial⟩ ⟨⟨_, rfl, .refl _⟩, ⟨_, rfl, .refl _⟩, ⟨_, rfl, .refl _⟩, trivial⟩) ?_
    refine AWp.ret ?_
    exact bodyQ_ret _ rfl ⟨rfl, rfl⟩ rfl
def f133 (x1 x2 : List UInt8) : Option Int := some (Lib.compareBytes x1 x2)
theorem f133_ok (x1 x2 : List UInt8) (r : Int) (h : f133 x1 x2 = some r) : Spec1 Tryz.prog 133 [] [] [] [.str x1, .str x2] (.int .i64 r) [] := str2_spec Lib.compareBytes cmpString x1 x2 r h
def f113 (x1 : List UInt8) (x2 : List UInt8) : Option Int :=
  (f133 x1 x2).bind fun (r3 : Int) =>
  some r3
set_option maxRecDepth 100000 in
theorem f113_ok  (x1 : List UInt8) (x2 : List UInt8) (r : Int) (h : f113 x1 x2 = some r)  : Spec1 Tryz.prog 113 [] [] [] [.str x1, .str x2] (.int .i64 r) [] := by
  unfold f113 at h
  refine Spec1.body 0 _ _ Tryz.func113 rfl Tryz.ntmps113 rfl rfl ?_
  refine q1rq [] [] ⟨8, [(0, .str x1), (1, .str x2)], [], [], 0⟩ trivial ?_
  refine AWp.seq ?_
  obtain ⟨r3, hr3, h⟩ := bind_ok h
  refine q1rr [] [(2, ⟨[.str x1, .str x2], [], [], [], .i r3, [], [], []⟩)] ⟨8, [(4, .i r3)], [], [], 0⟩ (an1 (cpT (f133_ok _ _ _ hr3))) ?_
  refine thenQ_normal ?_
  have hret := Option.some.inj h
  subst hret
  refine AWp.le (Le.mk (s' := ⟨8, [(4, .i r3)], [], [], 0⟩) rfl rfl ⟨.refl _, trivial⟩ trivial) ?_
  refine AWp.ret ?_
  exact bodyQ_ret _ rfl ⟨rfl, rfl⟩ rfl
def f112 (x1 : List UInt8) (x2 : List UInt8) (x3 : Int) (x4 : List UInt8) : Option Int :=
  (f113 x1 x4).bind fun (r5 : Int) =>
  some r5
set_option maxRecDepth 100000 in
theorem f112_ok  (x1 : List UInt8) (x2 : List UInt8) (x3 : Int) (x4 : List UInt8) (r : Int) (h : f112 x1 x2 x3 x4 = some r)  : Spec1 Tryz.prog 112 [] [] [] [.agg [.str x1, .str x2, .int .i64 x3], .str x4] (.int .i64 r) [] := by
  unfold f112 at h
  refine Spec1.body 0 _ _ Tryz.func112 rfl Tryz.ntmps112 rfl rfl ?_
  refine q1rq [] [] ⟨9, [(1, .str x4), (2, .ptr 2 0)], [(2, .cells 101 [.str x1, .str x2, .i x3])], [], 0⟩ trivial ?_
  refine AWp.seq ?_
  obtain ⟨r5, hr5, h⟩ := bind_ok h
  refine q1rr [] [(3, ⟨[.str x1, .str x4], [], [], [], .i r5, [], [], []⟩)] ⟨9, [(4, .i r5)], [], [], 0⟩ (an1 (cpT (f113_ok _ _ _ hr5))) ?_
  refine thenQ_normal ?_
  have hret := Option.some.inj h
  subst hret
  refine AWp.le (Le.mk (s' := ⟨9, [(4, .i r5)], [], [], 0⟩) rfl rfl ⟨.refl _, trivial⟩ trivial) ?_
  refine AWp.ret ?_
  exact bodyQ_ret _ rfl ⟨rfl, rfl⟩ rfl
def f111_L0 (x1 : List (List UInt8 × List UInt8 × Int)) (x2 : List UInt8) (K1 : Int → Option (Int × Bool)) : Nat → (Int × Int) → Option (Int × Bool)
  | 0, _ => none
  | k + 1, (i3, i4) =>
    if (decide (i3 < i4)) then (
    chk (-9223372036854775808 ≤ (i3 + i4) ∧ (i3 + i4) ≤ 9223372036854775807) <|
    chk (0 ≤ (i3 + i4) ∧ (i3 + i4) ≤ 18446744073709551615) <|
    chk (1 ≤ IntKind.bits .u64) <|
    chk (-9223372036854775808 ≤ ((i3 + i4) / 2 ^ 1) ∧ ((i3 + i4) / 2 ^ 1) ≤ 9223372036854775807) <|
    (f112 ((x1.getD ((((i3 + i4) / 2 ^ 1)).toNat) (default : List UInt8 × List UInt8 × Int)).1) ((x1.getD ((((i3 + i4) / 2 ^ 1)).toNat) (default : List UInt8 × List UInt8 × Int)).2.1) ((x1.getD ((((i3 + i4) / 2 ^ 1)).toNat) (default : List UInt8 × List UInt8 × Int)).2.2) x2).bind fun (r5 : Int) =>
    chk (0 ≤ ((i3 + i4) / 2 ^ 1) ∧ ((i3 + i4) / 2 ^ 1) < (((x1).length : Nat) : Int)) <|
    if (decide (r5 < (0 : Int))) then (
    chk (-9223372036854775808 ≤ (((i3 + i4) / 2 ^ 1) + (1 : Int)) ∧ (((i3 + i4) / 2 ^ 1) + (1 : Int)) ≤ 9223372036854775807) <|
    (f111_L0 x1 x2 K1 k) ((((i3 + i4) / 2 ^ 1) + (1 : Int)), i4)
    ) else (
    (f111_L0 x1 x2 K1 k) (i3, ((i3 + i4) / 2 ^ 1))
    )
    ) else (
    K1 i3
    )
def f111 (x1 : List (List UInt8 × List UInt8 × Int)) (x2 : List UInt8) : Option (Int × Bool) :=
  jn (fun (i6 : Int) =>
  optc ((decide (i6 < (((x1).length : Nat) : Int))) == true) (f112 ((x1.getD ((i6).toNat) (default : List UInt8 × List UInt8 × Int)).1) ((x1.getD ((i6).toNat) (default : List UInt8 × List UInt8 × Int)).2.1) ((x1.getD ((i6).toNat) (default : List UInt8 × List UInt8 × Int)).2.2) x2) fun (r7 : Int) =>
  chk (((decide (i6 < (((x1).length : Nat) : Int))) == true) = true → 0 ≤ i6 ∧ i6 < (((x1).length : Nat) : Int)) <|
  some (i6, ((decide (i6 < (((x1).length : Nat) : Int))) && (r7 == (0 : Int))))
  ) fun (K1 : Int → Option (Int × Bool)) =>
  f111_L0 x1 x2 K1 FUEL ((0 : Int), (((x1).length : Nat) : Int))
set_option maxRecDepth 100000 in
theorem f111_ok  (x1 : List (List UInt8 × List UInt8 × Int)) (x2 : List UInt8) (r : Int × Bool) (h : f111 x1 x2 = some r)  : Spec1 Tryz.prog 111 [] [] [] [vL 3 eSSI (default : List UInt8 × List UInt8 × Int) x1, .str x2, .fn (.func 112) []] (.tup [.int .i64 r.1, .bool r.2]) [] := by
  unfold f111 at h
  refine Spec1.body 0 _ _ Tryz.func111 rfl Tryz.ntmps111 rfl rfl ?_
  refine q1rq [] [] ⟨49, [(0, q1aSSI x1), (1, .str x2), (2, .fn (.func 112) [])], [], [], 0⟩ trivial ?_
  refine q1rq [] [] ⟨49, [(0, q1aSSI x1), (1, .str x2), (2, .fn (.func 112) []), (8, .i (lZ x1))], [], [], 0⟩ trivial ?_
  refine q1rq [] [] ⟨49, [(0, q1aSSI x1), (1, .str x2), (2, .fn (.func 112) []), (8, .i (lZ x1)), (9, .i (0 : Int)), (10, .i (lZ x1))], [], [], 0⟩ trivial ?_
  obtain ⟨K1, hK1, h⟩ := jn_some h
  refine AWp.join (α := Int) (fun (i6 : Int) => ⟨49, [(0, q1aSSI x1), (1, .str x2), (2, .fn (.func 112) []), (8, .i (lZ x1)), (9, .i i6)], [], [], 0⟩) (fun x => K1 x = some r) ?_ ?_
  ·
    refine AWp.block ?_
    refine AWp.loopL (α := Nat × (Int × Int)) (fun x => match x with | (_, i3, i4) => ⟨49, [(0, q1aSSI x1), (1, .str x2), (2, .fn (.func 112) []), (8, .i (lZ x1)), (9, .i i3), (10, .i i4)], [], [], 0⟩) (fun x => f111_L0 x1 x2 K1 x.1 x.2 = some r) (fun x => x.1) (FUEL, (0 : Int), (lZ x1)) (Le.mk (s' := ⟨49, [(0, q1aSSI x1), (1, .str x2), (2, .fn (.func 112) []), (8, .i (lZ x1)), (9, .i (0 : Int)), (10, .i (lZ x1))], [], [], 0⟩) rfl rfl ⟨.refl _, .refl _, .refl _, .refl _, .refl _, .refl _, trivial⟩ trivial) h ?_
    rintro ⟨k0, i3, i4⟩ h
    cases k0 with
    | zero => exact nomatch (show (none : Option (Int × Bool)) = some r from h)
    | succ k0 =>
    obtain ⟨C0, hC0⟩ : ∃ C, C = f111_L0 x1 x2 K1 k0 := ⟨_, rfl⟩
    replace h := (f111_L0.eq_2 ..).symm.trans h
    try rw [← hC0] at h
    refine AWp.seq ?_
    refine q1rq [] [] ⟨49, [(0, q1aSSI x1), (1, .str x2), (2, .fn (.func 112) []), (8, .i (lZ x1)), (9, .i i3), (10, .i i4), (17, .bool (decide (i3 < i4)))], [], [], 0⟩ trivial ?_
    refine AWp.cond (b := (decide (i3 < i4))) (by kernel_rfl) (fun hc1 => ?_) (fun hc1 => ?_)
    ·
      replace h := ite_tb hc1 h
      refine AWp.skip ?_
      refine thenQ_normal ?_
      refine AWp.block ?_
      refine AWp.seq ?_
      obtain ⟨ob0, ob1, ob2p, h⟩ := ck3 h
      have ob2 : 0 ≤ (1 : Int) ∧ 1 ≤ IntKind.bits .u64 := ⟨by omega, ob2p⟩
      obtain ⟨ob3, h⟩ := chk_some h
      refine q1rr [] [] ⟨49, [(0, q1aSSI x1), (1, .str x2), (2, .fn (.func 112) []), (8, .i (lZ x1)), (9, .i i3), (10, .i i4), (11, .i ((i3 + i4) / 2 ^ 1))], [], [], 0⟩ (an4 ob0 ob1 ob2 ob3) ?_
      refine thenQ_normal ?_
      refine AWp.seq ?_
      obtain ⟨r5, hr5, h⟩ := bind_ok h
      obtain ⟨ob4, h⟩ := chk_some h
      refine q1rr [] [(6, ⟨[.agg [.str (x1.getD ((((i3 + i4) / 2 ^ 1)).toNat) q1dSSI).1, .str (x1.getD ((((i3 + i4) / 2 ^ 1)).toNat) q1dSSI).2.1, .i (x1.getD ((((i3 + i4) / 2 ^ 1)).toNat) q1dSSI).2.2], .str x2], [], [], [], .i r5, [], [], []⟩)] ⟨49, [(0, q1aSSI x1), (1, .str x2), (2, .fn (.func 112) []), (8, .i (lZ x1)), (9, .i i3), (10, .i i4), (11, .i ((i3 + i4) / 2 ^ 1)), (31, .bool (decide (r5 < (0 : Int))))], [], [], 0⟩ (an2 ob4 (cpT (f112_ok _ _ _ _ _ hr5))) ?_
      refine thenQ_normal ?_
      refine AWp.cond (b := (decide (r5 < (0 : Int)))) (by kernel_rfl) (fun hc2 => ?_) (fun hc2 => ?_)
      ·
        replace h := ite_tb hc2 h
        obtain ⟨ob5, h⟩ := chk_some h
        refine q1rr [] [] ⟨49, [(0, q1aSSI x1), (1, .str x2), (2, .fn (.func 112) []), (8, .i (lZ x1)), (9, .i (((i3 + i4) / 2 ^ 1) + (1 : Int))), (10, .i i4)], [], [], 0⟩ (an1 ob5) ?_
        refine blockQ_normal ?_
        rw [hC0] at h
        exact loopQ_normal (_, (((i3 + i4) / 2 ^ 1) + (1 : Int)), i4) (Le.mk rfl rfl ⟨.refl _, .refl _, .refl _, .refl _, .refl _, .refl _, trivial⟩ trivial) h (Nat.lt_succ_self _)
      ·
        replace h := ite_fb hc2 h
        refine q1rr [] [] ⟨49, [(0, q1aSSI x1), (1, .str x2), (2, .fn (.func 112) []), (8, .i (lZ x1)), (9, .i i3), (10, .i ((i3 + i4) / 2 ^ 1))], [], [], 0⟩ trivial ?_
        refine blockQ_normal ?_
        rw [hC0] at h
        exact loopQ_normal (_, i3, ((i3 + i4) / 2 ^ 1)) (Le.mk rfl rfl ⟨.refl _, .refl _, .refl _, .refl _, .refl _, .refl _, trivial⟩ trivial) h (Nat.lt_succ_self _)
    ·
      replace h := ite_fb hc1 h
      refine AWp.exit ?_
      refine thenQ_exit ?_
      refine thenQ_exit ?_
      refine blockQ_same ?_
      exact joinQ_normal (i3) (Le.mk rfl rfl ⟨.refl _, .refl _, .refl _, .refl _, .refl _, trivial⟩ trivial) h
  ·
    rintro i6 h
    replace h := (congrFun hK1 _).symm.trans h
    refine AWp.seq ?_
    obtain ⟨r7, hr7, h⟩ := optc_some h
    obtain ⟨ob6, h⟩ := chk_some h
    have ob7 := idA (((decide (i6 < (lZ x1))) == true) = true)
    have ob8 := idA (((decide (i6 < (lZ x1))) == true) = true)
    have ob9 := idA (((decide (i6 < (lZ x1))) == true) = true)
    have ob10 := idA (((decide (i6 < (lZ x1))) == true) = true)
    have ob11 := idA (((decide (i6 < (lZ x1))) == true) = true)
    have ob12 := idA (((decide (i6 < (lZ x1))) == true) = true)
    have ob13 := idA (((decide (i6 < (lZ x1))) == true) = true)
    have ob14 := bqA (decide (i6 < (lZ x1))) true
    refine q1rr [] [(11, ⟨[.agg [.str (x1.getD ((i6).toNat) q1dSSI).1, .str (x1.getD ((i6).toNat) q1dSSI).2.1, .i (x1.getD ((i6).toNat) q1dSSI).2.2], .str x2], [], [], [], .i r7, [], [], []⟩)] ⟨49, [(6, .i i6), (7, .bool ((decide (i6 < (lZ x1))) && (r7 == (0 : Int))))], [], [], 0⟩ (an5 (And.intro ob6 (an2 ob7 ob8)) (an1 ob9) (And.intro (cpC fun hc => (f112_ok _ _ _ _ _ (hr7 hc))) (an3 ob10 ob11 ob12)) (an1 ob13) ob14) ?_
    refine thenQ_normal ?_
    have hret := Option.some.inj h
    subst hret
    refine AWp.le (Le.mk (s' := ⟨49, [(6, .i i6), (7, .bool ((decide (i6 < (lZ x1))) && (r7 == (0 : Int))))], [], [], 0⟩) rfl rfl ⟨.refl _, .refl _, trivial⟩ trivial) ?_
    refine AWp.ret ?_
    exact bodyQ_ret _ rfl ⟨rfl, rfl⟩ rfl
def f84 (x1 : List (List UInt8 × List UInt8 × Int)) (x2 : List UInt8) : Option (Int × Bool) :=
  (f111 x1 x2).bind fun (r3 : Int × Bool) =>
  some (r3.1, r3.2)
set_option maxRecDepth 100000 in
theorem f84_ok  (x1 : List (List UInt8 × List UInt8 × Int)) (x2 : List UInt8) (r : Int × Bool) (h : f84 x1 x2 = some r)  : Spec1 Tryz.prog 84 [] [] [] [vL 3 eSSI (default : List UInt8 × List UInt8 × Int) x1, .str x2] (.tup [.int .i64 r.1, .bool r.2]) [] := by
  unfold f84 at h
  refine Spec1.body 0 _ _ Tryz.func84 rfl Tryz.ntmps84 rfl rfl ?_
  refine q1rq [] [] ⟨11, [(0, q1aSSI x1), (1, .str x2)], [], [], 0⟩ trivial ?_
  refine AWp.seq ?_
  obtain ⟨r3, hr3, h⟩ := bind_ok h
  refine q1rr [] [(2, ⟨[q1aSSI x1, .str x2, .fn (.func 112) []], [], [], [], .tup [.i r3.1, .bool r3.2], [], [], []⟩)] ⟨11, [(4, .i r3.1), (5, .bool r3.2)], [], [], 0⟩ (an1 (cpT (f111_ok _ _ _ hr3))) ?_
  refine thenQ_normal ?_
  have hret := Option.some.inj h
  subst hret
  refine AWp.le (Le.mk (s' := ⟨11, [(4, .i r3.1), (5, .bool r3.2)], [], [], 0⟩) rfl rfl ⟨.refl _, .refl _, trivial⟩ trivial) ?_
  refine AWp.ret ?_
  exact bodyQ_ret _ rfl ⟨rfl, rfl⟩ rfl
def f85 (x1 : Int) : Option (List UInt8) := itoaO x1
theorem f85_ok (x1 : Int) (r : List UInt8) (h : f85 x1 = some r) : Spec1 Tryz.prog 85 [(3, .tab .u64 Lib.pow10Tab)] [] [] [.int .i64 x1] (.str r) [] :=
  itoa_spec (by kernel_rfl) (fun n w h0 h1 ht => Any.strconv_Itoa Tryz.lays171 n h0 h1 w ht) x1 r h
def f88 (x1 : List (List UInt8 × List UInt8 × Int)) : Option (List (List UInt8 × List UInt8 × Int)) :=
  abc ((x1).length = 0) (
  some []
  ) (
  chk ((0 + (x1).length) * 40 ≤ 140737488355328) <|
  some ([] ++ x1)
  )
set_option maxRecDepth 100000 in
theorem f88_ok  (x1 : List (List UInt8 × List UInt8 × Int)) (r : List (List UInt8 × List UInt8 × Int)) (h : f88 x1 = some r)  : Spec1 Tryz.prog 88 [] [] [] [vL 3 eSSI (default : List UInt8 × List UInt8 × Int) x1] (.own 3000) [(3000, bL 101 3 eSSI (default : List UInt8 × List UInt8 × Int) r)] := by
  unfold f88 at h
  refine Spec1.body 0 _ _ Tryz.func88 rfl Tryz.ntmps88 rfl rfl ?_
  refine q1rq [] [] ⟨8, [(0, q1aSSI x1)], [], [], 0⟩ trivial ?_
  refine AWp.seq ?_
  refine q1rq [] [] ⟨8, [(0, q1aSSI x1), (4, .abool (fun b => b = true → (x1).length = 0))], [], [], 0⟩ trivial ?_
  obtain ⟨hA1, hB1⟩ := abc_some h
  refine AWp.condAb (fun b => b = true → (x1).length = 0) (by kernel_rfl) (fun hc1 => ?_) (fun hc1 => ?_)
  ·
    have h := hA1 (hc1 rfl)
    refine q1rq [] [] ⟨8, [(2, .nils)], [], [], 0⟩ trivial ?_
    refine AWp.le (Le.trans (Le.nilOwn 2 3000 101 3 (encF eSSI q1dSSI []) rfl rfl (Nat.le_of_ble_eq_true rfl)) (Le.mk (s' := ⟨8, [(2, .own 3000)], [(3000, q1bSSI_101 [])], [], 0⟩) rfl rfl ⟨.refl _, trivial⟩ ⟨⟨_, rfl, .refl _⟩, trivial⟩)) ?_
    have hret := Option.some.inj h
    subst hret
    refine AWp.le (Le.mk (s' := ⟨8, [(2, .own 3000)], [(3000, q1bSSI_101 [])], [], 0⟩) rfl rfl ⟨.refl _, trivial⟩ ⟨⟨_, rfl, .refl _⟩, trivial⟩) ?_
    refine AWp.ret ?_
    refine thenQ_ret ?_
    exact bodyQ_ret _ rfl ⟨rfl, rfl⟩ rfl
  ·
    have h := hB1
    refine AWp.skip ?_
    refine thenQ_normal ?_
    refine AWp.seq ?_
    obtain ⟨ob0, h⟩ := chk_some h
    refine q1rr [] [] ⟨8, [(2, .own 5)], [(5, .rows 101 3 (0 + (x1).length) (appF 0 (lstF 3 []) (encF eSSI q1dSSI x1)))], [], 0⟩ (an1 ob0) ?_
    refine thenQ_normal ?_
    refine AWp.le (Le.mk (s' := ⟨8, [(2, .own 5)], [(5, q1bSSI_101 ([] ++ x1))], [], 0⟩) rfl rfl ⟨.refl _, trivial⟩ ⟨⟨_, rfl, (BLe.of (RL.app (RL.lst (enc := eSSI) [] rfl rfl (fun _ => rfl)) (RL.self _)))⟩, trivial⟩) ?_
    refine AWp.le (Le.trans (Le.ren (swapN 5 3000) (swapN_inv 5 3000) rfl) (Le.mk (s' := ⟨8, [(2, .own 3000)], [(3000, q1bSSI_101 ([] ++ x1))], [], 0⟩) rfl rfl ⟨.refl _, trivial⟩ ⟨⟨_, rfl, .refl _⟩, trivial⟩)) ?_
    have hret := Option.some.inj h
    subst hret
    refine AWp.le (Le.mk (s' := ⟨8, [(2, .own 3000)], [(3000, q1bSSI_101 ([] ++ x1))], [], 0⟩) rfl rfl ⟨.refl _, trivial⟩ ⟨⟨_, rfl, .refl _⟩, trivial⟩) ?_
    refine AWp.ret ?_
    exact bodyQ_ret _ rfl ⟨rfl, rfl⟩ rfl
abbrev f115z0 (x2 : List (List UInt8 × List UInt8 × Int)) (x3 : List (List UInt8 × List UInt8 × Int)) : Heap := [(2000, bL 101 3 eSSI (default : List UInt8 × List UInt8 × Int) x2), (2001, bL 101 3 eSSI (default : List UInt8 × List UInt8 × Int) x3)]
def f115e (x1 : Int) (x2 : List (List UInt8 × List UInt8 × Int)) (x3 : List (List UInt8 × List UInt8 × Int)) : Option ((List (List UInt8 × List UInt8 × Int)) × (List (List UInt8 × List UInt8 × Int))) :=
  chk (0 ≤ x1 ∧ x1 ≤ (((x2).length : Nat) : Int)) <|
  if ((((x3).length : Nat) : Int) == (0 : Int)) then (
  some (x2, x3)
  ) else (
  if (x1 == (((x2).length : Nat) : Int)) then (
  chk (((x2).length + (x3).length) * 40 ≤ 140737488355328) <|
  some ((x2 ++ x3), x3)
  ) else (
  
  none
  )
  )
set_option maxRecDepth 100000 in
theorem f115e_ok  (x1 : Int) (x2 : List (List UInt8 × List UInt8 × Int)) (x3 : List (List UInt8 × List UInt8 × Int)) (r : (List (List UInt8 × List UInt8 × Int)) × (List (List UInt8 × List UInt8 × Int))) (h : f115e x1 x2 x3 = some r)  : Spec1 Tryz.prog 115 [] [2001] [(2000, bL 101 3 eSSI (default : List UInt8 × List UInt8 × Int) x2), (2001, bL 101 3 eSSI (default : List UInt8 × List UInt8 × Int) x3)] [.own 2000, .int .i64 x1, .own 2001] (.own 2000) [(2000, bL 101 3 eSSI (default : List UInt8 × List UInt8 × Int) r.1), (2001, bL 101 3 eSSI (default : List UInt8 × List UInt8 × Int) r.2)] := by
  unfold f115e at h
  refine Spec1.body 0 _ _ Tryz.func115 rfl Tryz.ntmps115 rfl rfl ?_
  refine q1rq [] [] ⟨95, [(0, .own 2000), (1, .i x1), (2, .own 2001)], (f115z0 x2 x3), [2001], 0⟩ trivial ?_
  refine AWp.seq ?_
  obtain ⟨ob0, h⟩ := chk_some h
  refine q1rr [] [] ⟨95, [(0, .own 2000), (1, .i x1), (2, .own 2001)], (f115z0 x2 x3), [2001], 0⟩ (an1 ob0) ?_
  refine thenQ_normal ?_
  refine q1rq [] [] ⟨95, [(0, .own 2000), (1, .i x1), (2, .own 2001), (7, .i (lZ x3))], (f115z0 x2 x3), [2001], 0⟩ trivial ?_
  refine AWp.seq ?_
  refine q1rq [] [] ⟨95, [(0, .own 2000), (1, .i x1), (2, .own 2001), (7, .i (lZ x3)), (16, .bool ((lZ x3) == (0 : Int)))], (f115z0 x2 x3), [2001], 0⟩ trivial ?_
  refine AWp.cond (b := ((lZ x3) == (0 : Int))) (by kernel_rfl) (fun hc1 => ?_) (fun hc1 => ?_)
  ·
    replace h := ite_tb hc1 h
    refine q1rq [] [] ⟨95, [(6, .own 2000)], (f115z0 x2 x3), [2001], 0⟩ trivial ?_
    have hret := Option.some.inj h
    subst hret
    refine AWp.le (Le.mk (s' := ⟨95, [(6, .own 2000)], (f115z0 x2 x3), [2001], 0⟩) rfl rfl ⟨.refl _, trivial⟩ ⟨⟨_, rfl, .refl _⟩, ⟨_, rfl, .refl _⟩, trivial⟩) ?_
    refine AWp.ret ?_
    refine thenQ_ret ?_
    exact bodyQ_ret _ rfl ⟨rfl, rfl⟩ rfl
  ·
    replace h := ite_fb hc1 h
    refine AWp.skip ?_
    refine thenQ_normal ?_
    refine q1rq [] [] ⟨95, [(0, .own 2000), (1, .i x1), (2, .own 2001), (7, .i (lZ x3)), (8, .i (lZ x2))], (f115z0 x2 x3), [2001], 0⟩ trivial ?_
    refine AWp.seq ?_
    refine q1rq [] [] ⟨95, [(0, .own 2000), (1, .i x1), (2, .own 2001), (7, .i (lZ x3)), (8, .i (lZ x2)), (22, .bool (x1 == (lZ x2)))], (f115z0 x2 x3), [2001], 0⟩ trivial ?_
    refine AWp.cond (b := (x1 == (lZ x2))) (by kernel_rfl) (fun hc2 => ?_) (fun hc2 => ?_)
    ·
      replace h := ite_tb hc2 h
      refine AWp.seq ?_
      obtain ⟨ob1, h⟩ := chk_some h
      refine q1rr [] [] ⟨95, [(6, .own 2000)], [(2000, .rows 101 3 ((x2).length + (x3).length) (appF (x2).length (encF eSSI q1dSSI x2) (encF eSSI q1dSSI x3))), (2001, q1bSSI_101 x3)], [2001], 0⟩ (an1 ob1) ?_
      refine thenQ_normal ?_
      refine AWp.le (Le.mk (s' := ⟨95, [(6, .own 2000)], [(2000, q1bSSI_101 (x2 ++ x3)), (2001, q1bSSI_101 x3)], [2001], 0⟩) rfl rfl ⟨.refl _, trivial⟩ ⟨⟨_, rfl, (BLe.of (RL.app (RL.self _) (RL.self _)))⟩, ⟨_, rfl, .refl _⟩, trivial⟩) ?_
      have hret := Option.some.inj h
      subst hret
      refine AWp.le (Le.mk (s' := ⟨95, [(6, .own 2000)], [(2000, q1bSSI_101 (x2 ++ x3)), (2001, q1bSSI_101 x3)], [2001], 0⟩) rfl rfl ⟨.refl _, trivial⟩ ⟨⟨_, rfl, .refl _⟩, ⟨_, rfl, .refl _⟩, trivial⟩) ?_
      refine AWp.ret ?_
      refine thenQ_ret ?_
      exact bodyQ_ret _ rfl ⟨rfl, rfl⟩ rfl
    ·
      replace h := ite_fb hc2 h
      refine AWp.skip ?_
      refine thenQ_normal ?_
      refine AWp.seq ?_
      refine AWp.seq ?_
      exact nomatch (show (none : Option ((List (List UInt8 × List UInt8 × Int)) × (List (List UInt8 × List UInt8 × Int)))) = some r from h)
def f115 (x2 : Int) (x1 : List (List UInt8 × List UInt8 × Int)) (x3 : List (List UInt8 × List UInt8 × Int)) : Option (List (List UInt8 × List UInt8 × Int) × List (List UInt8 × List UInt8 × Int)) :=
  if 0 ≤ x2 ∧ x2.toNat < x1.length ∧ 0 < x3.length ∧ (x1.length + x3.length) * 40 ≤ 140737488355328 then some (x1.take x2.toNat ++ x3 ++ x1.drop x2.toNat, x3) else f115e x2 x1 x3
theorem f115_ok (x2 : Int) (x1 : List (List UInt8 × List UInt8 × Int)) (x3 : List (List UInt8 × List UInt8 × Int)) (r : List (List UInt8 × List UInt8 × Int) × List (List UInt8 × List UInt8 × Int)) (h : f115 x2 x1 x3 = some r) : Spec1 Tryz.prog 115 [] [2001] [(2000, bL 101 3 eSSI (default : List UInt8 × List UInt8 × Int) x1), (2001, bL 101 3 eSSI (default : List UInt8 × List UInt8 × Int) x3)] [.own 2000, .int .i64 x2, .own 2001] (.own 2000) [(2000, bL 101 3 eSSI (default : List UInt8 × List UInt8 × Int) r.1), (2001, bL 101 3 eSSI (default : List UInt8 × List UInt8 × Int) r.2)] := by
  unfold f115 at h
  split at h
  · rename_i hc
    cases h
    have := insK_spec 3 (by decide) 101 40 eSSI q1dSSI insShift insGrow x1 x3 x2.toNat hc.2.1 hc.2.2.1 hc.2.2.2
    rw [Int.toNat_of_nonneg hc.1] at this
    exact this
  · exact f115e_ok x2 x1 x3 r h
abbrev f86z0 (x3 : List UInt8) (r4 : Int × Bool) : List (Nat × V) := [(0, .own 6001), (2, .str x3), (8, .int .i64 r4.1), (1000003, .tab .u64 Lib.pow10Tab)]
abbrev f86z1 (r4 : Int × Bool) : List (Nat × V) := [(0, .own 6001), (8, .int .i64 r4.1), (1000003, .tab .u64 Lib.pow10Tab)]
abbrev f86z2 (r5 : List (List UInt8 × List UInt8 × Int)) : Heap := [(6001, bL 101 3 eSSI (default : List UInt8 × List UInt8 × Int) r5)]
abbrev f86z3 := (1000000000000 : Int)
def f86 (x1 : List (List UInt8 × List UInt8 × Int)) (x2 : List UInt8) (x3 : List UInt8) : Option ((List (List UInt8 × List UInt8 × Int)) × List UInt8) :=
  (f84 x1 x2).bind fun (r4 : Int × Bool) =>
  if ((!r4.2) && (decide ((((x1).length : Nat) : Int) ≥ (64 : Int)))) then (
  some (x1, ([102, 117, 108, 108] : List UInt8))
  ) else (
  (f88 x1).bind fun (r5 : List (List UInt8 × List UInt8 × Int)) =>
  jn (fun (l7 : List (List UInt8 × List UInt8 × Int)) =>
  chk (0 ≤ r4.1 ∧ r4.1 < (((l7).length : Nat) : Int)) <|
  chk (((r4.1).toNat) < (l7).length) <|
  chk (0 ≤ r4.1 ∧ r4.1 < ((((l7.set ((r4.1).toNat) ((l7.getD ((r4.1).toNat) (default : List UInt8 × List UInt8 × Int)).1, x3, (l7.getD ((r4.1).toNat) (default : List UInt8 × List UInt8 × Int)).2.2))).length : Nat) : Int)) <|
  chk (((r4.1).toNat) < ((l7.set ((r4.1).toNat) ((l7.getD ((r4.1).toNat) (default : List UInt8 × List UInt8 × Int)).1, x3, (l7.getD ((r4.1).toNat) (default : List UInt8 × List UInt8 × Int)).2.2))).length) <|
  chk (-9223372036854775808 ≤ (((l7.set ((r4.1).toNat) ((l7.getD ((r4.1).toNat) (default : List UInt8 × List UInt8 × Int)).1, x3, (l7.getD ((r4.1).toNat) (default : List UInt8 × List UInt8 × Int)).2.2)).getD ((r4.1).toNat) (default : List UInt8 × List UInt8 × Int)).2.2 + (1 : Int)) ∧ (((l7.set ((r4.1).toNat) ((l7.getD ((r4.1).toNat) (default : List UInt8 × List UInt8 × Int)).1, x3, (l7.getD ((r4.1).toNat) (default : List UInt8 × List UInt8 × Int)).2.2)).getD ((r4.1).toNat) (default : List UInt8 × List UInt8 × Int)).2.2 + (1 : Int)) ≤ 9223372036854775807) <|
  chk (0 ≤ r4.1 ∧ r4.1 < ((((l7.set ((r4.1).toNat) ((l7.getD ((r4.1).toNat) (default : List UInt8 × List UInt8 × Int)).1, x3, (l7.getD ((r4.1).toNat) (default : List UInt8 × List UInt8 × Int)).2.2))).length : Nat) : Int)) <|
  chk (((r4.1).toNat) < ((l7.set ((r4.1).toNat) ((l7.getD ((r4.1).toNat) (default : List UInt8 × List UInt8 × Int)).1, x3, (l7.getD ((r4.1).toNat) (default : List UInt8 × List UInt8 × Int)).2.2))).length) <|
  (f85 ((((l7.set ((r4.1).toNat) ((l7.getD ((r4.1).toNat) (default : List UInt8 × List UInt8 × Int)).1, x3, (l7.getD ((r4.1).toNat) (default : List UInt8 × List UInt8 × Int)).2.2)).set ((r4.1).toNat) (((l7.set ((r4.1).toNat) ((l7.getD ((r4.1).toNat) (default : List UInt8 × List UInt8 × Int)).1, x3, (l7.getD ((r4.1).toNat) (default : List UInt8 × List UInt8 × Int)).2.2)).getD ((r4.1).toNat) (default : List UInt8 × List UInt8 × Int)).1, ((l7.set ((r4.1).toNat) ((l7.getD ((r4.1).toNat) (default : List UInt8 × List UInt8 × Int)).1, x3, (l7.getD ((r4.1).toNat) (default : List UInt8 × List UInt8 × Int)).2.2)).getD ((r4.1).toNat) (default : List UInt8 × List UInt8 × Int)).2.1, (min (((l7.set ((r4.1).toNat) ((l7.getD ((r4.1).toNat) (default : List UInt8 × List UInt8 × Int)).1, x3, (l7.getD ((r4.1).toNat) (default : List UInt8 × List UInt8 × Int)).2.2)).getD ((r4.1).toNat) (default : List UInt8 × List UInt8 × Int)).2.2 + (1 : Int)) (1000000000000 : Int)))).getD ((r4.1).toNat) (default : List UInt8 × List UInt8 × Int)).2.2)).bind fun (r8 : List UInt8) =>
  chk (0 ≤ r4.1 ∧ r4.1 < (((((l7.set ((r4.1).toNat) ((l7.getD ((r4.1).toNat) (default : List UInt8 × List UInt8 × Int)).1, x3, (l7.getD ((r4.1).toNat) (default : List UInt8 × List UInt8 × Int)).2.2)).set ((r4.1).toNat) (((l7.set ((r4.1).toNat) ((l7.getD ((r4.1).toNat) (default : List UInt8 × List UInt8 × Int)).1, x3, (l7.getD ((r4.1).toNat) (default : List UInt8 × List UInt8 × Int)).2.2)).getD ((r4.1).toNat) (default : List UInt8 × List UInt8 × Int)).1, ((l7.set ((r4.1).toNat) ((l7.getD ((r4.1).toNat) (default : List UInt8 × List UInt8 × Int)).1, x3, (l7.getD ((r4.1).toNat) (default : List UInt8 × List UInt8 × Int)).2.2)).getD ((r4.1).toNat) (default : List UInt8 × List UInt8 × Int)).2.1, (min (((l7.set ((r4.1).toNat) ((l7.getD ((r4.1).toNat) (default : List UInt8 × List UInt8 × Int)).1, x3, (l7.getD ((r4.1).toNat) (default : List UInt8 × List UInt8 × Int)).2.2)).getD ((r4.1).toNat) (default : List UInt8 × List UInt8 × Int)).2.2 + (1 : Int)) (1000000000000 : Int))))).length : Nat) : Int)) <|
  chk (((r4.1).toNat) < (((l7.set ((r4.1).toNat) ((l7.getD ((r4.1).toNat) (default : List UInt8 × List UInt8 × Int)).1, x3, (l7.getD ((r4.1).toNat) (default : List UInt8 × List UInt8 × Int)).2.2)).set ((r4.1).toNat) (((l7.set ((r4.1).toNat) ((l7.getD ((r4.1).toNat) (default : List UInt8 × List UInt8 × Int)).1, x3, (l7.getD ((r4.1).toNat) (default : List UInt8 × List UInt8 × Int)).2.2)).getD ((r4.1).toNat) (default : List UInt8 × List UInt8 × Int)).1, ((l7.set ((r4.1).toNat) ((l7.getD ((r4.1).toNat) (default : List UInt8 × List UInt8 × Int)).1, x3, (l7.getD ((r4.1).toNat) (default : List UInt8 × List UInt8 × Int)).2.2)).getD ((r4.1).toNat) (default : List UInt8 × List UInt8 × Int)).2.1, (min (((l7.set ((r4.1).toNat) ((l7.getD ((r4.1).toNat) (default : List UInt8 × List UInt8 × Int)).1, x3, (l7.getD ((r4.1).toNat) (default : List UInt8 × List UInt8 × Int)).2.2)).getD ((r4.1).toNat) (default : List UInt8 × List UInt8 × Int)).2.2 + (1 : Int)) (1000000000000 : Int))))).length) <|
  chk (([111, 107, 32] : List UInt8).length + r8.length ≤ 9223372036854775807) <|
  some (((l7.set ((r4.1).toNat) ((l7.getD ((r4.1).toNat) (default : List UInt8 × List UInt8 × Int)).1, x3, (l7.getD ((r4.1).toNat) (default : List UInt8 × List UInt8 × Int)).2.2)).set ((r4.1).toNat) (((l7.set ((r4.1).toNat) ((l7.getD ((r4.1).toNat) (default : List UInt8 × List UInt8 × Int)).1, x3, (l7.getD ((r4.1).toNat) (default : List UInt8 × List UInt8 × Int)).2.2)).getD ((r4.1).toNat) (default : List UInt8 × List UInt8 × Int)).1, ((l7.set ((r4.1).toNat) ((l7.getD ((r4.1).toNat) (default : List UInt8 × List UInt8 × Int)).1, x3, (l7.getD ((r4.1).toNat) (default : List UInt8 × List UInt8 × Int)).2.2)).getD ((r4.1).toNat) (default : List UInt8 × List UInt8 × Int)).2.1, (min (((l7.set ((r4.1).toNat) ((l7.getD ((r4.1).toNat) (default : List UInt8 × List UInt8 × Int)).1, x3, (l7.getD ((r4.1).toNat) (default : List UInt8 × List UInt8 × Int)).2.2)).getD ((r4.1).toNat) (default : List UInt8 × List UInt8 × Int)).2.2 + (1 : Int)) (1000000000000 : Int)))), (([111, 107, 32] : List UInt8) ++ r8))
  ) fun (K1 : (List (List UInt8 × List UInt8 × Int)) → Option ((List (List UInt8 × List UInt8 × Int)) × List UInt8)) =>
  if (!r4.2) then (
  (f115 r4.1 r5 ([(x2, [], (0 : Int))])).bind fun (r6 : (List (List UInt8 × List UInt8 × Int)) × (List (List UInt8 × List UInt8 × Int))) =>
  K1 r6.1
  ) else (
  K1 r5
  )
  )
set_option maxRecDepth 100000 in
theorem f86_ok  (x1 : List (List UInt8 × List UInt8 × Int)) (x2 : List UInt8) (x3 : List UInt8) (r : (List (List UInt8 × List UInt8 × Int)) × List UInt8) (h : f86 x1 x2 x3 = some r)  : Spec1 Tryz.prog 86 [(3, .tab .u64 Lib.pow10Tab)] [] [] [vL 3 eSSI (default : List UInt8 × List UInt8 × Int) x1, .str x2, .str x3] (.tup [vL 3 eSSI (default : List UInt8 × List UInt8 × Int) r.1, .str r.2]) [] := by
  unfold f86 at h
  refine Spec1.body 0 _ _ Tryz.func86 rfl Tryz.ntmps86 rfl rfl ?_
  refine q1rq [] [] ⟨58, [(0, q1aSSI x1), (1, .str x2), (2, .str x3), (1000003, .tab .u64 Lib.pow10Tab)], [], [], 0⟩ trivial ?_
  refine AWp.seq ?_
  obtain ⟨r4, hr4, h⟩ := bind_ok h
  refine q1rr [] [(2, ⟨[q1aSSI x1, .str x2], [], [], [], .tup [.i r4.1, .bool r4.2], [], [], []⟩)] ⟨58, [(0, q1aSSI x1), (1, .str x2), (2, .str x3), (8, .i r4.1), (9, .bool r4.2), (1000003, .tab .u64 Lib.pow10Tab)], [], [], 0⟩ (an1 (cpT (f84_ok _ _ _ hr4))) ?_
  refine thenQ_normal ?_
  refine AWp.seq ?_
  refine AWp.seq ?_
  have ob0 := idA (((!r4.2) == true) = true)
  have ob1 := idA (((!r4.2) == true) = true)
  have ob2 := bqA (!r4.2) true
  refine q1rr [] [] ⟨58, [(0, q1aSSI x1), (1, .str x2), (2, .str x3), (8, .i r4.1), (9, .bool r4.2), (22, .bool ((!r4.2) && (decide ((lZ x1) ≥ (64 : Int))))), (1000003, .tab .u64 Lib.pow10Tab)], [], [], 0⟩ (an3 (an1 ob0) (an1 ob1) ob2) ?_
  refine thenQ_normal ?_
  refine AWp.cond (b := ((!r4.2) && (decide ((lZ x1) ≥ (64 : Int))))) (by kernel_rfl) (fun hc1 => ?_) (fun hc1 => ?_)
  ·
    replace h := ite_tb hc1 h
    refine q1rq [] [] ⟨58, [(6, q1aSSI x1), (7, .str ([102, 117, 108, 108] : List UInt8)), (1000003, .tab .u64 Lib.pow10Tab)], [], [], 0⟩ trivial ?_
    have hret := Option.some.inj h
    subst hret
    refine AWp.le (Le.mk (s' := ⟨58, [(6, q1aSSI x1), (7, .str ([102, 117, 108, 108] : List UInt8))], [], [], 0⟩) rfl rfl ⟨.refl _, .refl _, trivial⟩ trivial) ?_
    refine AWp.ret ?_
    refine thenQ_ret ?_
    exact bodyQ_ret _ rfl ⟨rfl, rfl⟩ rfl
  ·
    replace h := ite_fb hc1 h
    refine AWp.skip ?_
    refine thenQ_normal ?_
    refine AWp.seq ?_
    obtain ⟨r5, hr5, h⟩ := bind_ok h
    refine q1rr [] [(1, ⟨[q1aSSI x1], [], [], (f86z2 r5), .own 6001, [6001], [], []⟩)] ⟨58, [(0, .own 6001), (1, .str x2), (2, .str x3), (8, .i r4.1), (9, .bool r4.2), (1000003, .tab .u64 Lib.pow10Tab)], (f86z2 r5), [], 0⟩ (an1 (cpT (Spec1.ren (swapN 3000 6001) (swapN_inv 3000 6001) rfl (f88_ok _ _ hr5)))) ?_
    refine thenQ_normal ?_
    obtain ⟨K1, hK1, h⟩ := jn_some h
    refine AWp.join (α := List (List UInt8 × List UInt8 × Int)) (fun (l7 : List (List UInt8 × List UInt8 × Int)) => ⟨58, (f86z0 x3 r4), [(6001, q1bSSI_101 l7)], [], 0⟩) (fun x => K1 x = some r) ?_ ?_
    ·
      refine q1rq [] [] ⟨58, [(0, .own 6001), (1, .str x2), (2, .str x3), (8, .i r4.1), (27, .bool (!r4.2)), (1000003, .tab .u64 Lib.pow10Tab)], (f86z2 r5), [], 0⟩ trivial ?_
      refine AWp.cond (b := (!r4.2)) (by kernel_rfl) (fun hc2 => ?_) (fun hc2 => ?_)
      ·
        replace h := ite_tb hc2 h
        obtain ⟨r6, hr6, h⟩ := bind_ok h
        refine q1rr [] [(5, ⟨[.own 6001, .i r4.1, .own 32], [6001, 32], [32], [(6001, q1bSSI_101 r6.1), (32, q1bSSI_101 r6.2)], .own 6001, [6001], [], []⟩)] ⟨58, (f86z0 x3 r4), [(6001, q1bSSI_101 r6.1)], [], 0⟩ (an1 (cpT (Spec.heap (h0 := [(6001, q1bSSI_101 r5), (32, .rows 101 3 1 (lstF 3 [.str x2, .str [], .i (0 : Int)]))]) (Spec1.ren (swapN 2001 32) (swapN_inv 2001 32) rfl (Spec1.ren (swapN 2000 6001) (swapN_inv 2000 6001) rfl (f115_ok _ _ _ _ hr6))) ⟨⟨_, rfl, .refl _⟩, ⟨_, rfl, (BLe.of (RL.lst (enc := eSSI) [(x2, [], (0 : Int))] rfl rfl (fun _ => rfl)))⟩, trivial⟩))) ?_
        exact joinQ_normal (r6.1) (Le.mk rfl rfl ⟨.refl _, .refl _, .refl _, .refl _, trivial⟩ ⟨⟨_, rfl, .refl _⟩, trivial⟩) h
      ·
        replace h := ite_fb hc2 h
        refine AWp.skip ?_
        exact joinQ_normal (r5) (Le.mk rfl rfl ⟨.refl _, .refl _, .refl _, .refl _, trivial⟩ ⟨⟨_, rfl, .refl _⟩, trivial⟩) h
    ·
      rintro l7 h
      replace h := (congrFun hK1 _).symm.trans h
      refine AWp.seq ?_
      obtain ⟨ob3, ob4, h⟩ := ck2 h
      refine q1rr [] [] ⟨58, (f86z1 r4), [(6001, .rows 101 3 (l7).length (updF (encF eSSI q1dSSI l7) ((r4.1).toNat) 1 [.str x3]))], [], 0⟩ (an2 ob3 ob4) ?_
      refine thenQ_normal ?_
      refine AWp.le (Le.mk (s' := ⟨58, (f86z1 r4), [(6001, q1bSSI_101 (l7.set ((r4.1).toNat) ((l7.getD ((r4.1).toNat) q1dSSI).1, x3, (l7.getD ((r4.1).toNat) q1dSSI).2.2)))], [], 0⟩) rfl rfl ⟨.refl _, .refl _, .refl _, trivial⟩ ⟨⟨_, rfl, (BLe.of (RL.set ((l7.getD ((r4.1).toNat) q1dSSI).1, x3, (l7.getD ((r4.1).toNat) q1dSSI).2.2) (RL.self _) (by intro j hj; match j, hj with | 0, _ => rfl | 1, _ => rfl | 2, _ => rfl)))⟩, trivial⟩) ?_
      refine AWp.seq ?_
      obtain ⟨ob5, ob6, ob7, ob8, ob9, h⟩ := ck5 h
      refine q1rr [] [] ⟨58, (f86z1 r4), [(6001, .rows 101 3 ((l7.set ((r4.1).toNat) ((l7.getD ((r4.1).toNat) q1dSSI).1, x3, (l7.getD ((r4.1).toNat) q1dSSI).2.2))).length (updF (encF eSSI q1dSSI (l7.set ((r4.1).toNat) ((l7.getD ((r4.1).toNat) q1dSSI).1, x3, (l7.getD ((r4.1).toNat) q1dSSI).2.2))) ((r4.1).toNat) 2 [.i (min (((l7.set ((r4.1).toNat) ((l7.getD ((r4.1).toNat) q1dSSI).1, x3, (l7.getD ((r4.1).toNat) q1dSSI).2.2)).getD ((r4.1).toNat) q1dSSI).2.2 + (1 : Int)) (f86z3))]))], [], 0⟩ (an5 ob5 ob6 ob7 ob8 ob9) ?_
      refine thenQ_normal ?_
      refine AWp.le (Le.mk (s' := ⟨58, (f86z1 r4), [(6001, q1bSSI_101 ((l7.set ((r4.1).toNat) ((l7.getD ((r4.1).toNat) q1dSSI).1, x3, (l7.getD ((r4.1).toNat) q1dSSI).2.2)).set ((r4.1).toNat) (((l7.set ((r4.1).toNat) ((l7.getD ((r4.1).toNat) q1dSSI).1, x3, (l7.getD ((r4.1).toNat) q1dSSI).2.2)).getD ((r4.1).toNat) q1dSSI).1, ((l7.set ((r4.1).toNat) ((l7.getD ((r4.1).toNat) q1dSSI).1, x3, (l7.getD ((r4.1).toNat) q1dSSI).2.2)).getD ((r4.1).toNat) q1dSSI).2.1, (min (((l7.set ((r4.1).toNat) ((l7.getD ((r4.1).toNat) q1dSSI).1, x3, (l7.getD ((r4.1).toNat) q1dSSI).2.2)).getD ((r4.1).toNat) q1dSSI).2.2 + (1 : Int)) (f86z3)))))], [], 0⟩) rfl rfl ⟨.refl _, .refl _, .refl _, trivial⟩ ⟨⟨_, rfl, (BLe.of (RL.set (((l7.set ((r4.1).toNat) ((l7.getD ((r4.1).toNat) q1dSSI).1, x3, (l7.getD ((r4.1).toNat) q1dSSI).2.2)).getD ((r4.1).toNat) q1dSSI).1, ((l7.set ((r4.1).toNat) ((l7.getD ((r4.1).toNat) q1dSSI).1, x3, (l7.getD ((r4.1).toNat) q1dSSI).2.2)).getD ((r4.1).toNat) q1dSSI).2.1, (min (((l7.set ((r4.1).toNat) ((l7.getD ((r4.1).toNat) q1dSSI).1, x3, (l7.getD ((r4.1).toNat) q1dSSI).2.2)).getD ((r4.1).toNat) q1dSSI).2.2 + (1 : Int)) (f86z3))) (RL.self _) (by intro j hj; match j, hj with | 0, _ => rfl | 1, _ => rfl | 2, _ => rfl)))⟩, trivial⟩) ?_
      refine AWp.seq ?_
      obtain ⟨r8, hr8, h⟩ := bind_ok h
      obtain ⟨ob10, ob11, ob12, h⟩ := ck3 h
      refine q1rr [] [(6, ⟨[.i (((l7.set ((r4.1).toNat) ((l7.getD ((r4.1).toNat) q1dSSI).1, x3, (l7.getD ((r4.1).toNat) q1dSSI).2.2)).set ((r4.1).toNat) (((l7.set ((r4.1).toNat) ((l7.getD ((r4.1).toNat) q1dSSI).1, x3, (l7.getD ((r4.1).toNat) q1dSSI).2.2)).getD ((r4.1).toNat) q1dSSI).1, ((l7.set ((r4.1).toNat) ((l7.getD ((r4.1).toNat) q1dSSI).1, x3, (l7.getD ((r4.1).toNat) q1dSSI).2.2)).getD ((r4.1).toNat) q1dSSI).2.1, (min (((l7.set ((r4.1).toNat) ((l7.getD ((r4.1).toNat) q1dSSI).1, x3, (l7.getD ((r4.1).toNat) q1dSSI).2.2)).getD ((r4.1).toNat) q1dSSI).2.2 + (1 : Int)) (f86z3)))).getD ((r4.1).toNat) q1dSSI).2.2], [], [], [], .str r8, [], [], [3]⟩)] ⟨58, [(6, .own 6001), (7, .str (([111, 107, 32] : List UInt8) ++ r8)), (1000003, .tab .u64 Lib.pow10Tab)], [(6001, q1bSSI_101 ((l7.set ((r4.1).toNat) ((l7.getD ((r4.1).toNat) q1dSSI).1, x3, (l7.getD ((r4.1).toNat) q1dSSI).2.2)).set ((r4.1).toNat) (((l7.set ((r4.1).toNat) ((l7.getD ((r4.1).toNat) q1dSSI).1, x3, (l7.getD ((r4.1).toNat) q1dSSI).2.2)).getD ((r4.1).toNat) q1dSSI).1, ((l7.set ((r4.1).toNat) ((l7.getD ((r4.1).toNat) q1dSSI).1, x3, (l7.getD ((r4.1).toNat) q1dSSI).2.2)).getD ((r4.1).toNat) q1dSSI).2.1, (min (((l7.set ((r4.1).toNat) ((l7.getD ((r4.1).toNat) q1dSSI).1, x3, (l7.getD ((r4.1).toNat) q1dSSI).2.2)).getD ((r4.1).toNat) q1dSSI).2.2 + (1 : Int)) (f86z3)))))], [], 0⟩ (an4 ob10 ob11 (cpT (f85_ok _ _ hr8)) ob12) ?_
      refine thenQ_normal ?_
      refine AWp.le (Le.trans (Le.freeze 6001 rfl rfl) (Le.mk (s' := ⟨58, [(6, q1aSSI ((l7.set ((r4.1).toNat) ((l7.getD ((r4.1).toNat) q1dSSI).1, x3, (l7.getD ((r4.1).toNat) q1dSSI).2.2)).set ((r4.1).toNat) (((l7.set ((r4.1).toNat) ((l7.getD ((r4.1).toNat) q1dSSI).1, x3, (l7.getD ((r4.1).toNat) q1dSSI).2.2)).getD ((r4.1).toNat) q1dSSI).1, ((l7.set ((r4.1).toNat) ((l7.getD ((r4.1).toNat) q1dSSI).1, x3, (l7.getD ((r4.1).toNat) q1dSSI).2.2)).getD ((r4.1).toNat) q1dSSI).2.1, (min (((l7.set ((r4.1).toNat) ((l7.getD ((r4.1).toNat) q1dSSI).1, x3, (l7.getD ((r4.1).toNat) q1dSSI).2.2)).getD ((r4.1).toNat) q1dSSI).2.2 + (1 : Int)) (f86z3))))), (7, .str (([111, 107, 32] : List UInt8) ++ r8)), (1000003, .tab .u64 Lib.pow10Tab)], [], [], 0⟩) rfl rfl ⟨.refl _, .refl _, .refl _, trivial⟩ trivial)) ?_
      have hret := Option.some.inj h
      subst hret
      refine AWp.le (Le.mk (s' := ⟨58, [(6, q1aSSI ((l7.set ((r4.1).toNat) ((l7.getD ((r4.1).toNat) q1dSSI).1, x3, (l7.getD ((r4.1).toNat) q1dSSI).2.2)).set ((r4.1).toNat) (((l7.set ((r4.1).toNat) ((l7.getD ((r4.1).toNat) q1dSSI).1, x3, (l7.getD ((r4.1).toNat) q1dSSI).2.2)).getD ((r4.1).toNat) q1dSSI).1, ((l7.set ((r4.1).toNat) ((l7.getD ((r4.1).toNat) q1dSSI).1, x3, (l7.getD ((r4.1).toNat) q1dSSI).2.2)).getD ((r4.1).toNat) q1dSSI).2.1, (min (((l7.set ((r4.1).toNat) ((l7.getD ((r4.1).toNat) q1dSSI).1, x3, (l7.getD ((r4.1).toNat) q1dSSI).2.2)).getD ((r4.1).toNat) q1dSSI).2.2 + (1 : Int)) (f86z3))))), (7, .str (([111, 107, 32] : List UInt8) ++ r8))], [], [], 0⟩) rfl rfl ⟨.refl _, .refl _, trivial⟩ trivial) ?_
      refine AWp.ret ?_
      exact bodyQ_ret _ rfl ⟨rfl, rfl⟩ rfl
def f87 (x2 : Int) (x3 : Int) (x1 : List (List UInt8 × List UInt8 × Int)) : Option (List (List UInt8 × List UInt8 × Int)) :=
  if 0 ≤ x2 ∧ x2 < x3 ∧ x3.toNat ≤ x1.length then some (x1.take x2.toNat ++ x1.drop x3.toNat) else none
theorem f87_ok (x2 : Int) (x3 : Int) (x1 : List (List UInt8 × List UInt8 × Int)) (r : List (List UInt8 × List UInt8 × Int)) (h : f87 x2 x3 x1 = some r) : Spec1 Tryz.prog 87 [] [] [(2000, bL 101 3 eSSI (default : List UInt8 × List UInt8 × Int) x1)] [.own 2000, .int .i64 x2, .int .i64 x3] (.own 2000) [(2000, bL 101 3 eSSI (default : List UInt8 × List UInt8 × Int) r)] := by
  unfold f87 at h
  split at h
  · rename_i hc
    cases h
    have := delK_spec 3 101 eSSI q1dSSI delW x1 x2.toNat x3.toNat (by omega) hc.2.2
    rw [Int.toNat_of_nonneg hc.1, Int.toNat_of_nonneg (by omega : 0 ≤ x3)] at this
    exact this
  · cases h
abbrev f57z0 (x2 : Int) (x3 : List UInt8) (x4 : List UInt8) (x5 : List UInt8) (x1 : List (List UInt8 × List UInt8 × Int)) (r7 : Int × Bool) : Heap := [(3, .cells 52 [.int .i64 x2, .str x3, .str x4, .str x5]), (10, .cells 101 [.str (x1.getD ((r7.1).toNat) (default : List UInt8 × List UInt8 × Int)).1, .str (x1.getD ((r7.1).toNat) (default : List UInt8 × List UInt8 × Int)).2.1, .int .i64 (x1.getD ((r7.1).toNat) (default : List UInt8 × List UInt8 × Int)).2.2])]
abbrev f57z1 (x2 : Int) (x3 : List UInt8) (x4 : List UInt8) (x5 : List UInt8) : Heap := [(3, .cells 52 [.int .i64 x2, .str x3, .str x4, .str x5])]
def f57 (x1 : List (List UInt8 × List UInt8 × Int)) (x2 : Int) (x3 : List UInt8) (x4 : List UInt8) (x5 : List UInt8) : Option ((List (List UInt8 × List UInt8 × Int)) × List UInt8) :=
  (f83 x2 x3 x4 x5).bind fun (r6 : List UInt8 × Bool × Bool × Bool × Bool) =>
  if (!r6.2.2.2.2) then (
  some (x1, cs6)
  ) else (
  (f84 x1 x3).bind fun (r7 : Int × Bool) =>
  if (x2 == (6 : Int)) then (
  (f85 (((x1).length : Nat) : Int)).bind fun (r8 : List UInt8) =>
  chk (cs7.length + r8.length ≤ 9223372036854775807) <|
  some (x1, (cs7 ++ r8))
  ) else (
  if (x2 == (1 : Int)) then (
  (f86 x1 x3 x5).bind fun (r9 : (List (List UInt8 × List UInt8 × Int)) × List UInt8) =>
  some (r9.1, r9.2)
  ) else (
  if ((x2 == (4 : Int)) && (!r7.2)) then (
  (f86 x1 x3 x5).bind fun (r10 : (List (List UInt8 × List UInt8 × Int)) × List UInt8) =>
  some (r10.1, r10.2)
  ) else (
  if (!r7.2) then (
  some (x1, ([110, 111, 110, 101] : List UInt8))
  ) else (
  chk (0 ≤ r7.1 ∧ r7.1 < (((x1).length : Nat) : Int)) <|
  if (x2 == (2 : Int)) then (
  (f85 ((x1.getD ((r7.1).toNat) (default : List UInt8 × List UInt8 × Int)).2.2)).bind fun (r11 : List UInt8) =>
  chk (cs8.length + ((x1.getD ((r7.1).toNat) (default : List UInt8 × List UInt8 × Int)).2.1).length ≤ 9223372036854775807) <|
  chk ((cs8 ++ ((x1.getD ((r7.1).toNat) (default : List UInt8 × List UInt8 × Int)).2.1)).length + ([32] : List UInt8).length ≤ 9223372036854775807) <|
  chk (((cs8 ++ ((x1.getD ((r7.1).toNat) (default : List UInt8 × List UInt8 × Int)).2.1)) ++ ([32] : List UInt8)).length + r11.length ≤ 9223372036854775807) <|
  some (x1, (((cs8 ++ ((x1.getD ((r7.1).toNat) (default : List UInt8 × List UInt8 × Int)).2.1)) ++ ([32] : List UInt8)) ++ r11))
  ) else (
  if (x2 == (3 : Int)) then (
  (f88 x1).bind fun (r12 : List (List UInt8 × List UInt8 × Int)) =>
  (f87 r7.1 (r7.1 + (1 : Int)) r12).bind fun (r13 : List (List UInt8 × List UInt8 × Int)) =>
  chk (-9223372036854775808 ≤ (r7.1 + (1 : Int)) ∧ (r7.1 + (1 : Int)) ≤ 9223372036854775807) <|
  some (r13, ([111, 107] : List UInt8))
  ) else (
  if (x2 == (4 : Int)) then (
  chk ((((((x1.getD ((r7.1).toNat) (default : List UInt8 × List UInt8 × Int)).2.1).length : Nat) : Int) + ((x5.length : Nat) : Int)) ≤ 9223372036854775807) <|
  if (decide ((((((x1.getD ((r7.1).toNat) (default : List UInt8 × List UInt8 × Int)).2.1).length + x5.length) : Nat) : Int) > (256 : Int))) then (
  some (x1, ([108, 111, 110, 103] : List UInt8))
  ) else (
  (f86 x1 x3 (((x1.getD ((r7.1).toNat) (default : List UInt8 × List UInt8 × Int)).2.1) ++ x5)).bind fun (r14 : (List (List UInt8 × List UInt8 × Int)) × List UInt8) =>
  chk (((x1.getD ((r7.1).toNat) (default : List UInt8 × List UInt8 × Int)).2.1).length + x5.length ≤ 9223372036854775807) <|
  some (r14.1, r14.2)
  )
  ) else (
  if (!(((x1.getD ((r7.1).toNat) (default : List UInt8 × List UInt8 × Int)).2.1) == x4)) then (
  chk (([110, 111, 32] : List UInt8).length + ((x1.getD ((r7.1).toNat) (default : List UInt8 × List UInt8 × Int)).2.1).length ≤ 9223372036854775807) <|
  some (x1, (([110, 111, 32] : List UInt8) ++ ((x1.getD ((r7.1).toNat) (default : List UInt8 × List UInt8 × Int)).2.1)))
  ) else (
  (f86 x1 x3 x5).bind fun (r15 : (List (List UInt8 × List UInt8 × Int)) × List UInt8) =>
  some (r15.1, r15.2)
  )
  )
  )
  )
  )
  )
  )
  )
  )
set_option maxRecDepth 100000 in
theorem f57_ok  (x1 : List (List UInt8 × List UInt8 × Int)) (x2 : Int) (x3 : List UInt8) (x4 : List UInt8) (x5 : List UInt8) (r : (List (List UInt8 × List UInt8 × Int)) × List UInt8) (h : f57 x1 x2 x3 x4 x5 = some r)  : Spec1 Tryz.prog 57 [(3, .tab .u64 Lib.pow10Tab)] [] [] [vL 3 eSSI (default : List UInt8 × List UInt8 × Int) x1, .agg [.int .i64 x2, .str x3, .str x4, .str x5]] (.tup [vL 3 eSSI (default : List UInt8 × List UInt8 × Int) r.1, .str r.2]) [] := by
  unfold f57 at h
  refine Spec1.body 0 _ _ Tryz.func57 rfl Tryz.ntmps57 rfl rfl ?_
  refine q1rq [] [] ⟨131, [(0, q1aSSI x1), (3, .ptr 3 0), (1000003, .tab .u64 Lib.pow10Tab)], (f57z1 x2 x3 x4 x5), [], 0⟩ trivial ?_
  refine AWp.seq ?_
  refine AWp.seq ?_
  obtain ⟨r6, hr6, h⟩ := bind_ok h
  refine q1rr [] [(1, ⟨[.agg [.i x2, .str x3, .str x4, .str x5]], [], [], [], .tup [.agg [.str r6.1, .bool r6.2.1, .bool r6.2.2.1, .bool r6.2.2.2.1], .bool r6.2.2.2.2], [], [], []⟩)] ⟨131, [(0, q1aSSI x1), (3, .ptr 3 0), (7, .bool r6.2.2.2.2), (1000003, .tab .u64 Lib.pow10Tab)], (f57z1 x2 x3 x4 x5), [], 0⟩ (an2 (cpT (f83_ok _ _ _ _ _ hr6)) trivial) ?_
  refine thenQ_normal ?_
  refine q1rq [] [] ⟨131, [(0, q1aSSI x1), (3, .ptr 3 0), (17, .bool (!r6.2.2.2.2)), (1000003, .tab .u64 Lib.pow10Tab)], (f57z1 x2 x3 x4 x5), [], 0⟩ trivial ?_
  refine AWp.cond (b := (!r6.2.2.2.2)) (by kernel_rfl) (fun hc1 => ?_) (fun hc1 => ?_)
  ·
    replace h := ite_tb hc1 h
    refine q1rq [] [] ⟨131, [(4, q1aSSI x1), (5, .str cs6), (1000003, .tab .u64 Lib.pow10Tab)], [], [], 0⟩ trivial ?_
    have hret := Option.some.inj h
    subst hret
    refine AWp.le (Le.mk (s' := ⟨131, [(4, q1aSSI x1), (5, .str cs6)], [], [], 0⟩) rfl rfl ⟨.refl _, .refl _, trivial⟩ trivial) ?_
    refine AWp.ret ?_
    refine thenQ_ret ?_
    exact bodyQ_ret _ rfl ⟨rfl, rfl⟩ rfl
  ·
    replace h := ite_fb hc1 h
    refine AWp.skip ?_
    refine thenQ_normal ?_
    refine AWp.seq ?_
    obtain ⟨r7, hr7, h⟩ := bind_ok h
    refine q1rr [] [(3, ⟨[q1aSSI x1, .str x3], [], [], [], .tup [.i r7.1, .bool r7.2], [], [], []⟩)] ⟨131, [(0, q1aSSI x1), (3, .ptr 3 0), (8, .i r7.1), (9, .bool r7.2), (1000003, .tab .u64 Lib.pow10Tab)], (f57z1 x2 x3 x4 x5), [], 0⟩ (an1 (cpT (f84_ok _ _ _ hr7))) ?_
    refine thenQ_normal ?_
    refine AWp.seq ?_
    refine AWp.block ?_
    refine q1rq [] [] ⟨131, [(0, q1aSSI x1), (3, .ptr 3 0), (8, .i r7.1), (9, .bool r7.2), (26, .bool (x2 == (6 : Int))), (1000003, .tab .u64 Lib.pow10Tab)], (f57z1 x2 x3 x4 x5), [], 0⟩ trivial ?_
    refine AWp.cond (b := (x2 == (6 : Int))) (by kernel_rfl) (fun hc2 => ?_) (fun hc2 => ?_)
    ·
      replace h := ite_tb hc2 h
      refine AWp.seq ?_
      obtain ⟨r8, hr8, h⟩ := bind_ok h
      obtain ⟨ob0, h⟩ := chk_some h
      refine q1rr [] [(3, ⟨[.i (lZ x1)], [], [], [], .str r8, [], [], [3]⟩)] ⟨131, [(4, q1aSSI x1), (5, .str (cs7 ++ r8)), (1000003, .tab .u64 Lib.pow10Tab)], [], [], 0⟩ (an2 (cpT (f85_ok _ _ hr8)) ob0) ?_
      refine thenQ_normal ?_
      have hret := Option.some.inj h
      subst hret
      refine AWp.le (Le.mk (s' := ⟨131, [(4, q1aSSI x1), (5, .str (cs7 ++ r8))], [], [], 0⟩) rfl rfl ⟨.refl _, .refl _, trivial⟩ trivial) ?_
      refine AWp.ret ?_
      refine blockQ_ret ?_
      refine thenQ_ret ?_
      exact bodyQ_ret _ rfl ⟨rfl, rfl⟩ rfl
    ·
      replace h := ite_fb hc2 h
      refine q1rq [] [] ⟨131, [(0, q1aSSI x1), (3, .ptr 3 0), (8, .i r7.1), (9, .bool r7.2), (35, .bool (x2 == (1 : Int))), (1000003, .tab .u64 Lib.pow10Tab)], (f57z1 x2 x3 x4 x5), [], 0⟩ trivial ?_
      refine AWp.cond (b := (x2 == (1 : Int))) (by kernel_rfl) (fun hc3 => ?_) (fun hc3 => ?_)
      ·
        replace h := ite_tb hc3 h
        refine AWp.seq ?_
        obtain ⟨r9, hr9, h⟩ := bind_ok h
        refine q1rr [] [(5, ⟨[q1aSSI x1, .str x3, .str x5], [], [], [], .tup [q1aSSI r9.1, .str r9.2], [], [], [3]⟩)] ⟨131, [(4, q1aSSI r9.1), (5, .str r9.2), (1000003, .tab .u64 Lib.pow10Tab)], [], [], 0⟩ (an1 (cpT (f86_ok _ _ _ _ hr9))) ?_
        refine thenQ_normal ?_
        have hret := Option.some.inj h
        subst hret
        refine AWp.le (Le.mk (s' := ⟨131, [(4, q1aSSI r9.1), (5, .str r9.2)], [], [], 0⟩) rfl rfl ⟨.refl _, .refl _, trivial⟩ trivial) ?_
        refine AWp.ret ?_
        refine blockQ_ret ?_
        refine thenQ_ret ?_
        exact bodyQ_ret _ rfl ⟨rfl, rfl⟩ rfl
      ·
        replace h := ite_fb hc3 h
        refine AWp.seq ?_
        have ob1 := idA (((x2 == (4 : Int)) == true) = true)
        have ob2 := bqA (x2 == (4 : Int)) true
        refine q1rr [] [] ⟨131, [(0, q1aSSI x1), (3, .ptr 3 0), (8, .i r7.1), (9, .bool r7.2), (47, .bool ((x2 == (4 : Int)) && (!r7.2))), (1000003, .tab .u64 Lib.pow10Tab)], (f57z1 x2 x3 x4 x5), [], 0⟩ (an2 (an1 ob1) ob2) ?_
        refine thenQ_normal ?_
        refine AWp.cond (b := ((x2 == (4 : Int)) && (!r7.2))) (by kernel_rfl) (fun hc4 => ?_) (fun hc4 => ?_)
        ·
          replace h := ite_tb hc4 h
          refine AWp.seq ?_
          obtain ⟨r10, hr10, h⟩ := bind_ok h
          refine q1rr [] [(5, ⟨[q1aSSI x1, .str x3, .str x5], [], [], [], .tup [q1aSSI r10.1, .str r10.2], [], [], [3]⟩)] ⟨131, [(4, q1aSSI r10.1), (5, .str r10.2), (1000003, .tab .u64 Lib.pow10Tab)], [], [], 0⟩ (an1 (cpT (f86_ok _ _ _ _ hr10))) ?_
          refine thenQ_normal ?_
          have hret := Option.some.inj h
          subst hret
          refine AWp.le (Le.mk (s' := ⟨131, [(4, q1aSSI r10.1), (5, .str r10.2)], [], [], 0⟩) rfl rfl ⟨.refl _, .refl _, trivial⟩ trivial) ?_
          refine AWp.ret ?_
          refine blockQ_ret ?_
          refine thenQ_ret ?_
          exact bodyQ_ret _ rfl ⟨rfl, rfl⟩ rfl
        ·
          replace h := ite_fb hc4 h
          refine q1rq [] [] ⟨131, [(0, q1aSSI x1), (3, .ptr 3 0), (8, .i r7.1), (63, .bool (!r7.2)), (1000003, .tab .u64 Lib.pow10Tab)], (f57z1 x2 x3 x4 x5), [], 0⟩ trivial ?_
          refine AWp.cond (b := (!r7.2)) (by kernel_rfl) (fun hc5 => ?_) (fun hc5 => ?_)
          ·
            replace h := ite_tb hc5 h
            refine q1rq [] [] ⟨131, [(4, q1aSSI x1), (5, .str ([110, 111, 110, 101] : List UInt8)), (1000003, .tab .u64 Lib.pow10Tab)], [], [], 0⟩ trivial ?_
            have hret := Option.some.inj h
            subst hret
            refine AWp.le (Le.mk (s' := ⟨131, [(4, q1aSSI x1), (5, .str ([110, 111, 110, 101] : List UInt8))], [], [], 0⟩) rfl rfl ⟨.refl _, .refl _, trivial⟩ trivial) ?_
            refine AWp.ret ?_
            refine blockQ_ret ?_
            refine thenQ_ret ?_
            exact bodyQ_ret _ rfl ⟨rfl, rfl⟩ rfl
          ·
            replace h := ite_fb hc5 h
            refine AWp.skip ?_
            refine blockQ_normal ?_
            refine thenQ_normal ?_
            refine AWp.seq ?_
            obtain ⟨ob3, h⟩ := chk_some h
            refine q1rr [] [] ⟨131, [(0, q1aSSI x1), (3, .ptr 3 0), (8, .i r7.1), (10, .ptr 10 0), (1000003, .tab .u64 Lib.pow10Tab)], (f57z0 x2 x3 x4 x5 x1 r7), [], 0⟩ (an2 ob3 trivial) ?_
            refine thenQ_normal ?_
            refine AWp.seq ?_
            refine q1rq [] [] ⟨131, [(0, q1aSSI x1), (3, .ptr 3 0), (8, .i r7.1), (10, .ptr 10 0), (72, .i x2), (1000003, .tab .u64 Lib.pow10Tab)], (f57z0 x2 x3 x4 x5 x1 r7), [], 0⟩ trivial ?_
            refine AWp.block ?_
            refine q1rq [] [] ⟨131, [(0, q1aSSI x1), (3, .ptr 3 0), (8, .i r7.1), (10, .ptr 10 0), (72, .i x2), (73, .bool (x2 == (2 : Int))), (1000003, .tab .u64 Lib.pow10Tab)], (f57z0 x2 x3 x4 x5 x1 r7), [], 0⟩ trivial ?_
            refine AWp.cond (b := (x2 == (2 : Int))) (by kernel_rfl) (fun hc6 => ?_) (fun hc6 => ?_)
            ·
              replace h := ite_tb hc6 h
              refine AWp.seq ?_
              obtain ⟨r11, hr11, h⟩ := bind_ok h
              obtain ⟨ob4, ob5, ob6, h⟩ := ck3 h
              refine q1rr [] [(7, ⟨[.i (x1.getD ((r7.1).toNat) q1dSSI).2.2], [], [], [], .str r11, [], [], [3]⟩)] ⟨131, [(4, q1aSSI x1), (5, .str (((cs8 ++ ((x1.getD ((r7.1).toNat) q1dSSI).2.1)) ++ ([32] : List UInt8)) ++ r11)), (1000003, .tab .u64 Lib.pow10Tab)], [], [], 0⟩ (an4 ob4 ob5 (cpT (f85_ok _ _ hr11)) ob6) ?_
              refine thenQ_normal ?_
              have hret := Option.some.inj h
              subst hret
              refine AWp.le (Le.mk (s' := ⟨131, [(4, q1aSSI x1), (5, .str (((cs8 ++ ((x1.getD ((r7.1).toNat) q1dSSI).2.1)) ++ ([32] : List UInt8)) ++ r11))], [], [], 0⟩) rfl rfl ⟨.refl _, .refl _, trivial⟩ trivial) ?_
              refine AWp.ret ?_
              refine blockQ_ret ?_
              refine thenQ_ret ?_
              exact bodyQ_ret _ rfl ⟨rfl, rfl⟩ rfl
            ·
              replace h := ite_fb hc6 h
              refine q1rq [] [] ⟨131, [(0, q1aSSI x1), (3, .ptr 3 0), (8, .i r7.1), (10, .ptr 10 0), (72, .i x2), (84, .bool (x2 == (3 : Int))), (1000003, .tab .u64 Lib.pow10Tab)], (f57z0 x2 x3 x4 x5 x1 r7), [], 0⟩ trivial ?_
              refine AWp.cond (b := (x2 == (3 : Int))) (by kernel_rfl) (fun hc7 => ?_) (fun hc7 => ?_)
              ·
                replace h := ite_tb hc7 h
                refine AWp.seq ?_
                obtain ⟨r12, hr12, h⟩ := bind_ok h
                obtain ⟨r13, hr13, h⟩ := bind_ok h
                obtain ⟨ob7, h⟩ := chk_some h
                refine q1rr [] [(1, ⟨[q1aSSI x1], [], [], [(6001, q1bSSI_101 r12)], .own 6001, [6001], [], []⟩), (5, ⟨[.own 6001, .i r7.1, .i (r7.1 + (1 : Int))], [6001], [], [(6001, q1bSSI_101 r13)], .own 6001, [6001], [], []⟩)] ⟨131, [(4, .own 6001), (5, .str ([111, 107] : List UInt8)), (1000003, .tab .u64 Lib.pow10Tab)], [(6001, q1bSSI_101 r13)], [], 0⟩ (an3 (cpT (Spec1.ren (swapN 3000 6001) (swapN_inv 3000 6001) rfl (f88_ok _ _ hr12))) ob7 (cpT (Spec1.ren (swapN 2000 6001) (swapN_inv 2000 6001) rfl (f87_ok _ _ _ _ hr13)))) ?_
                refine thenQ_normal ?_
                refine AWp.le (Le.trans (Le.freeze 6001 rfl rfl) (Le.mk (s' := ⟨131, [(4, q1aSSI r13), (5, .str ([111, 107] : List UInt8)), (1000003, .tab .u64 Lib.pow10Tab)], [], [], 0⟩) rfl rfl ⟨.refl _, .refl _, .refl _, trivial⟩ trivial)) ?_
                have hret := Option.some.inj h
                subst hret
                refine AWp.le (Le.mk (s' := ⟨131, [(4, q1aSSI r13), (5, .str ([111, 107] : List UInt8))], [], [], 0⟩) rfl rfl ⟨.refl _, .refl _, trivial⟩ trivial) ?_
                refine AWp.ret ?_
                refine blockQ_ret ?_
                refine thenQ_ret ?_
                exact bodyQ_ret _ rfl ⟨rfl, rfl⟩ rfl
              ·
                replace h := ite_fb hc7 h
                refine q1rq [] [] ⟨131, [(0, q1aSSI x1), (3, .ptr 3 0), (10, .ptr 10 0), (92, .bool (x2 == (4 : Int))), (1000003, .tab .u64 Lib.pow10Tab)], (f57z0 x2 x3 x4 x5 x1 r7), [], 0⟩ trivial ?_
                refine AWp.cond (b := (x2 == (4 : Int))) (by kernel_rfl) (fun hc8 => ?_) (fun hc8 => ?_)
                ·
                  replace h := ite_tb hc8 h
                  refine AWp.seq ?_
                  refine AWp.seq ?_
                  obtain ⟨ob8p, h⟩ := chk_some h
                  have ob8 : -9223372036854775808 ≤ (((((x1.getD ((r7.1).toNat) q1dSSI).2.1).length : Nat) : Int) + ((x5.length : Nat) : Int)) ∧ (((((x1.getD ((r7.1).toNat) q1dSSI).2.1).length : Nat) : Int) + ((x5.length : Nat) : Int)) ≤ 9223372036854775807 := ⟨by omega, ob8p⟩
                  refine q1rr [] [] ⟨131, [(0, q1aSSI x1), (3, .ptr 3 0), (10, .ptr 10 0), (101, .bool (decide ((((((x1.getD ((r7.1).toNat) q1dSSI).2.1).length + x5.length) : Nat) : Int) > (256 : Int)))), (1000003, .tab .u64 Lib.pow10Tab)], (f57z0 x2 x3 x4 x5 x1 r7), [], 0⟩ (an1 ob8) ?_
                  refine thenQ_normal ?_
                  refine AWp.cond (b := (decide ((((((x1.getD ((r7.1).toNat) q1dSSI).2.1).length + x5.length) : Nat) : Int) > (256 : Int)))) (by kernel_rfl) (fun hc9 => ?_) (fun hc9 => ?_)
                  ·
                    replace h := ite_tb hc9 h
                    refine q1rq [] [] ⟨131, [(4, q1aSSI x1), (5, .str ([108, 111, 110, 103] : List UInt8)), (1000003, .tab .u64 Lib.pow10Tab)], [], [], 0⟩ trivial ?_
                    have hret := Option.some.inj h
                    subst hret
                    refine AWp.le (Le.mk (s' := ⟨131, [(4, q1aSSI x1), (5, .str ([108, 111, 110, 103] : List UInt8))], [], [], 0⟩) rfl rfl ⟨.refl _, .refl _, trivial⟩ trivial) ?_
                    refine AWp.ret ?_
                    refine thenQ_ret ?_
                    refine blockQ_ret ?_
                    refine thenQ_ret ?_
                    exact bodyQ_ret _ rfl ⟨rfl, rfl⟩ rfl
                  ·
                    replace h := ite_fb hc9 h
                    refine AWp.skip ?_
                    refine thenQ_normal ?_
                    refine AWp.seq ?_
                    obtain ⟨r14, hr14, h⟩ := bind_ok h
                    obtain ⟨ob9, h⟩ := chk_some h
                    refine q1rr [] [(8, ⟨[q1aSSI x1, .str x3, .str (((x1.getD ((r7.1).toNat) q1dSSI).2.1) ++ x5)], [], [], [], .tup [q1aSSI r14.1, .str r14.2], [], [], [3]⟩)] ⟨131, [(4, q1aSSI r14.1), (5, .str r14.2), (1000003, .tab .u64 Lib.pow10Tab)], [], [], 0⟩ (an2 ob9 (cpT (f86_ok _ _ _ _ hr14))) ?_
                    refine thenQ_normal ?_
                    have hret := Option.some.inj h
                    subst hret
                    refine AWp.le (Le.mk (s' := ⟨131, [(4, q1aSSI r14.1), (5, .str r14.2)], [], [], 0⟩) rfl rfl ⟨.refl _, .refl _, trivial⟩ trivial) ?_
                    refine AWp.ret ?_
                    refine blockQ_ret ?_
                    refine thenQ_ret ?_
                    exact bodyQ_ret _ rfl ⟨rfl, rfl⟩ rfl
                ·
                  replace h := ite_fb hc8 h
                  refine AWp.skip ?_
                  refine blockQ_normal ?_
                  refine thenQ_normal ?_
                  refine AWp.seq ?_
                  refine q1rq [] [] ⟨131, [(0, q1aSSI x1), (3, .ptr 3 0), (10, .ptr 10 0), (118, .bool (!(((x1.getD ((r7.1).toNat) q1dSSI).2.1) == x4))), (1000003, .tab .u64 Lib.pow10Tab)], (f57z0 x2 x3 x4 x5 x1 r7), [], 0⟩ trivial ?_
                  refine AWp.cond (b := (!(((x1.getD ((r7.1).toNat) q1dSSI).2.1) == x4))) (by kernel_rfl) (fun hc10 => ?_) (fun hc10 => ?_)
                  ·
                    replace h := ite_tb hc10 h
                    refine AWp.seq ?_
                    obtain ⟨ob10, h⟩ := chk_some h
                    refine q1rr [] [] ⟨131, [(4, q1aSSI x1), (5, .str (([110, 111, 32] : List UInt8) ++ ((x1.getD ((r7.1).toNat) q1dSSI).2.1))), (1000003, .tab .u64 Lib.pow10Tab)], [], [], 0⟩ (an1 ob10) ?_
                    refine thenQ_normal ?_
                    have hret := Option.some.inj h
                    subst hret
                    refine AWp.le (Le.mk (s' := ⟨131, [(4, q1aSSI x1), (5, .str (([110, 111, 32] : List UInt8) ++ ((x1.getD ((r7.1).toNat) q1dSSI).2.1)))], [], [], 0⟩) rfl rfl ⟨.refl _, .refl _, trivial⟩ trivial) ?_
                    refine AWp.ret ?_
                    refine thenQ_ret ?_
                    exact bodyQ_ret _ rfl ⟨rfl, rfl⟩ rfl
                  ·
                    replace h := ite_fb hc10 h
                    refine AWp.skip ?_
                    refine thenQ_normal ?_
                    refine AWp.seq ?_
                    obtain ⟨r15, hr15, h⟩ := bind_ok h
                    refine q1rr [] [(5, ⟨[q1aSSI x1, .str x3, .str x5], [], [], [], .tup [q1aSSI r15.1, .str r15.2], [], [], [3]⟩)] ⟨131, [(4, q1aSSI r15.1), (5, .str r15.2), (1000003, .tab .u64 Lib.pow10Tab)], [], [], 0⟩ (an1 (cpT (f86_ok _ _ _ _ hr15))) ?_
                    refine thenQ_normal ?_
                    have hret := Option.some.inj h
                    subst hret
                    refine AWp.le (Le.mk (s' := ⟨131, [(4, q1aSSI r15.1), (5, .str r15.2)], [], [], 0⟩) rfl rfl ⟨.refl _, .refl _, trivial⟩ trivial) ?_
                    refine AWp.ret ?_
                    exact bodyQ_ret _ rfl ⟨rfl, rfl⟩ rfl
def f40 (x1 : List (List UInt8 × List UInt8 × Int)) (x2 : Int) (x3 : Int) (x4 : Int) (x5 : List UInt8) (x6 : List UInt8) : Option ((List (List UInt8 × List UInt8 × Int)) × List UInt8) :=
  (f50 x5).bind fun (r7 : Int × List UInt8 × List UInt8 × List UInt8 × Int) =>
  (f57 x1 r7.1 r7.2.1 r7.2.2.1 r7.2.2.2.1).bind fun (r8 : (List (List UInt8 × List UInt8 × Int)) × List UInt8) =>
  some (r8.1, r8.2)
set_option maxRecDepth 100000 in
theorem f40_ok  (x1 : List (List UInt8 × List UInt8 × Int)) (x2 : Int) (x3 : Int) (x4 : Int) (x5 : List UInt8) (x6 : List UInt8) (r : (List (List UInt8 × List UInt8 × Int)) × List UInt8) (h : f40 x1 x2 x3 x4 x5 x6 = some r)  : Spec1 Tryz.prog 40 [(3, .tab .u64 Lib.pow10Tab)] [] [] [vL 3 eSSI (default : List UInt8 × List UInt8 × Int) x1, .agg [.int .i64 x2, .int .i64 x3, .int .i64 x4, .str x5, .str x6]] (.tup [vL 3 eSSI (default : List UInt8 × List UInt8 × Int) r.1, .str r.2]) [] := by
  unfold f40 at h
  refine Spec1.body 0 _ _ Tryz.func40 rfl Tryz.ntmps40 rfl rfl ?_
  refine q1rq [] [] ⟨19, [(0, q1aSSI x1), (3, .ptr 3 0), (1000003, .tab .u64 Lib.pow10Tab)], [(3, .cells 31 [.i x2, .i x3, .i x4, .str x5, .str x6])], [], 0⟩ trivial ?_
  refine AWp.seq ?_
  obtain ⟨r7, hr7, h⟩ := bind_ok h
  refine q1rr [] [(2, ⟨[.str x5], [], [], [], .tup [.agg [.i r7.1, .str r7.2.1, .str r7.2.2.1, .str r7.2.2.2.1], .i r7.2.2.2.2], [], [], []⟩)] ⟨19, [(0, q1aSSI x1), (6, .ptr 6 0), (1000003, .tab .u64 Lib.pow10Tab)], [(6, .cells 52 [.i r7.1, .str r7.2.1, .str r7.2.2.1, .str r7.2.2.2.1])], [], 0⟩ (an2 (cpT (f50_ok _ _ hr7)) trivial) ?_
  refine thenQ_normal ?_
  refine AWp.seq ?_
  obtain ⟨r8, hr8, h⟩ := bind_ok h
  refine q1rr [] [(2, ⟨[q1aSSI x1, .agg [.i r7.1, .str r7.2.1, .str r7.2.2.1, .str r7.2.2.2.1]], [], [], [], .tup [q1aSSI r8.1, .str r8.2], [], [], [3]⟩)] ⟨19, [(4, q1aSSI r8.1), (5, .str r8.2), (1000003, .tab .u64 Lib.pow10Tab)], [], [], 0⟩ (an1 (cpT (f57_ok _ _ _ _ _ _ hr8))) ?_
  refine thenQ_normal ?_
  have hret := Option.some.inj h
  subst hret
  refine AWp.le (Le.mk (s' := ⟨19, [(4, q1aSSI r8.1), (5, .str r8.2)], [], [], 0⟩) rfl rfl ⟨.refl _, .refl _, trivial⟩ trivial) ?_
  refine AWp.ret ?_
  exact bodyQ_ret _ rfl ⟨rfl, rfl⟩ rfl
def f26 (x1 : List Int) : Option (List Int) :=
  abc ((x1).length = 0) (
  some []
  ) (
  chk ((0 + (x1).length) * 8 ≤ 140737488355328) <|
  some ([] ++ x1)
  )
set_option maxRecDepth 100000 in
theorem f26_ok  (x1 : List Int) (r : List Int) (h : f26 x1 = some r)  : Spec1 Tryz.prog 26 [] [] [] [vL 1 eI 0 x1] (.own 3000) [(3000, bL 3 1 eI 0 r)] := by
  unfold f26 at h
  refine Spec1.body 0 _ _ Tryz.func26 rfl Tryz.ntmps26 rfl rfl ?_
  refine q1rq [] [] ⟨8, [(0, q1aI x1)], [], [], 0⟩ trivial ?_
  refine AWp.seq ?_
  refine q1rq [] [] ⟨8, [(0, q1aI x1), (4, .abool (fun b => b = true → (x1).length = 0))], [], [], 0⟩ trivial ?_
  obtain ⟨hA1, hB1⟩ := abc_some h
  refine AWp.condAb (fun b => b = true → (x1).length = 0) (by kernel_rfl) (fun hc1 => ?_) (fun hc1 => ?_)
  ·
    have h := hA1 (hc1 rfl)
    refine q1rq [] [] ⟨8, [(2, .nils)], [], [], 0⟩ trivial ?_
    refine AWp.le (Le.trans (Le.nilOwn 2 3000 3 1 (encF eI 0 []) rfl rfl (Nat.le_of_ble_eq_true rfl)) (Le.mk (s' := ⟨8, [(2, .own 3000)], [(3000, q1bI_3 [])], [], 0⟩) rfl rfl ⟨.refl _, trivial⟩ ⟨⟨_, rfl, .refl _⟩, trivial⟩)) ?_
    have hret := Option.some.inj h
    subst hret
    refine AWp.le (Le.mk (s' := ⟨8, [(2, .own 3000)], [(3000, q1bI_3 [])], [], 0⟩) rfl rfl ⟨.refl _, trivial⟩ ⟨⟨_, rfl, .refl _⟩, trivial⟩) ?_
    refine AWp.ret ?_
    refine thenQ_ret ?_
    exact bodyQ_ret _ rfl ⟨rfl, rfl⟩ rfl
  ·
    have h := hB1
    refine AWp.skip ?_
    refine thenQ_normal ?_
    refine AWp.seq ?_
    obtain ⟨ob0, h⟩ := chk_some h
    refine q1rr [] [] ⟨8, [(2, .own 5)], [(5, .rows 3 1 (0 + (x1).length) (appF 0 (lstF 1 []) (encF eI 0 x1)))], [], 0⟩ (an1 ob0) ?_
    refine thenQ_normal ?_
    refine AWp.le (Le.mk (s' := ⟨8, [(2, .own 5)], [(5, q1bI_3 ([] ++ x1))], [], 0⟩) rfl rfl ⟨.refl _, trivial⟩ ⟨⟨_, rfl, (BLe.of (RL.app (RL.lst (enc := eI) [] rfl rfl (fun _ => rfl)) (RL.self _)))⟩, trivial⟩) ?_
    refine AWp.le (Le.trans (Le.ren (swapN 5 3000) (swapN_inv 5 3000) rfl) (Le.mk (s' := ⟨8, [(2, .own 3000)], [(3000, q1bI_3 ([] ++ x1))], [], 0⟩) rfl rfl ⟨.refl _, trivial⟩ ⟨⟨_, rfl, .refl _⟩, trivial⟩)) ?_
    have hret := Option.some.inj h
    subst hret
    refine AWp.le (Le.mk (s' := ⟨8, [(2, .own 3000)], [(3000, q1bI_3 ([] ++ x1))], [], 0⟩) rfl rfl ⟨.refl _, trivial⟩ ⟨⟨_, rfl, .refl _⟩, trivial⟩) ?_
    refine AWp.ret ?_
    exact bodyQ_ret _ rfl ⟨rfl, rfl⟩ rfl
def f48_L0 (x1 : Int) (x2 : List Int) (x4 : List (Int × Int × Int × List UInt8 × List UInt8)) (Frec : Int → (List Int) → (List (List UInt8 × List UInt8 × Int)) → (List (Int × Int × Int × List UInt8 × List UInt8)) → Int → (List Int) → (List (List (List (List UInt8 × List UInt8 × Int)))) → Option (List Int × Bool × (List (Int × Int × Int × List UInt8 × List UInt8)) × Int × List Int × (List (List (List (List UInt8 × List UInt8 × Int)))))) (r8 : Bool × (List (List (List UInt8 × List UInt8 × Int))) × (List (List UInt8 × List UInt8 × Int))) (K1 : ((List (Int × Int × Int × List UInt8 × List UInt8)) × Int × List Int × (List (List (List (List UInt8 × List UInt8 × Int))))) → Option (List Int × Bool × (List (Int × Int × Int × List UInt8 × List UInt8)) × Int × List Int × (List (List (List (List UInt8 × List UInt8 × Int)))))) : Nat → (Nat × (List (Int × Int × Int × List UInt8 × List UInt8)) × Int × List Int × (List (List (List (List UInt8 × List UInt8 × Int))))) → Option (List Int × Bool × (List (Int × Int × Int × List UInt8 × List UInt8)) × Int × List Int × (List (List (List (List UInt8 × List UInt8 × Int)))))
  | 0, _ => none
  | k + 1, (n9, l10, i11, l12, l13) =>
    if (decide ((n9 : Int) < (((x4).length : Nat) : Int))) then (
    jn (fun ((l15, i17, l18, l19) : (List (Int × Int × Int × List UInt8 × List UInt8)) × Int × List Int × (List (List (List (List UInt8 × List UInt8 × Int))))) =>
    chk (((n9 : Int) + (1 : Int)) ≤ 9223372036854775807) <|
    (f48_L0 x1 x2 x4 Frec r8 K1 k) ((n9 + 1), l15, i17, l18, l19)
    ) fun (K2 : ((List (Int × Int × Int × List UInt8 × List UInt8)) × Int × List Int × (List (List (List (List UInt8 × List UInt8 × Int))))) → Option (List Int × Bool × (List (Int × Int × Int × List UInt8 × List UInt8)) × Int × List Int × (List (List (List (List UInt8 × List UInt8 × Int)))))) =>
    chk ((n9 : Int) < (((x4).length : Nat) : Int)) <|
    if ((bitsI .and .u64 (x1 / 2 ^ n9) (1 : Int)) == (1 : Int)) = true then (
    chk (n9 ≤ IntKind.bits .u64) <|
    K2 (l10, i11, l12, l13)
    ) else (
    (f41 x1 ((x4.getD n9 (default : Int × Int × Int × List UInt8 × List UInt8)).1) ((x4.getD n9 (default : Int × Int × Int × List UInt8 × List UInt8)).2.1) ((x4.getD n9 (default : Int × Int × Int × List UInt8 × List UInt8)).2.2.1) ((x4.getD n9 (default : Int × Int × Int × List UInt8 × List UInt8)).2.2.2.1) ((x4.getD n9 (default : Int × Int × Int × List UInt8 × List UInt8)).2.2.2.2) l10 i11 l12 l13).bind fun (r14 : Bool × (List (Int × Int × Int × List UInt8 × List UInt8)) × Int × List Int × (List (List (List (List UInt8 × List UInt8 × Int))))) =>
    chk (n9 ≤ IntKind.bits .u64) <|
    if (!r14.1) then (
    K2 (r14.2.1, r14.2.2.1, r14.2.2.2.1, r14.2.2.2.2)
    ) else (
    (f40 r8.2.2 ((x4.getD n9 (default : Int × Int × Int × List UInt8 × List UInt8)).1) ((x4.getD n9 (default : Int × Int × Int × List UInt8 × List UInt8)).2.1) ((x4.getD n9 (default : Int × Int × Int × List UInt8 × List UInt8)).2.2.1) ((x4.getD n9 (default : Int × Int × Int × List UInt8 × List UInt8)).2.2.2.1) ((x4.getD n9 (default : Int × Int × Int × List UInt8 × List UInt8)).2.2.2.2)).bind fun (r20 : (List (List UInt8 × List UInt8 × Int)) × List UInt8) =>
    (f36 ((x4.getD n9 (default : Int × Int × Int × List UInt8 × List UInt8)).1) ((x4.getD n9 (default : Int × Int × Int × List UInt8 × List UInt8)).2.1) ((x4.getD n9 (default : Int × Int × Int × List UInt8 × List UInt8)).2.2.1) ((x4.getD n9 (default : Int × Int × Int × List UInt8 × List UInt8)).2.2.2.1) ((x4.getD n9 (default : Int × Int × Int × List UInt8 × List UInt8)).2.2.2.2)).bind fun (r21 : Bool) =>
    if ((!r21) && (!(r20.2 == ((x4.getD n9 (default : Int × Int × Int × List UInt8 × List UInt8)).2.2.2.2)))) then (
    K2 (r14.2.1, r14.2.2.1, r14.2.2.2.1, r14.2.2.2.2)
    ) else (
    (f26 x2).bind fun (r22 : List Int) =>
    (Frec (bitsI .or .u64 x1 ((1 : Int) * 2 ^ n9)) (r22 ++ [(n9 : Int)]) r20.1 r14.2.1 r14.2.2.1 r14.2.2.2.1 r14.2.2.2.2).bind fun (r23 : List Int × Bool × (List (Int × Int × Int × List UInt8 × List UInt8)) × Int × List Int × (List (List (List (List UInt8 × List UInt8 × Int))))) =>
    chk (n9 ≤ IntKind.bits .u64 ∧ 0 ≤ ((1 : Int) * 2 ^ n9) ∧ ((1 : Int) * 2 ^ n9) ≤ 18446744073709551615) <|
    chk (((r22).length + 1) * 8 ≤ 140737488355328) <|
    if r23.2.1 then (
    some (r23.1, true, r23.2.2.1, r23.2.2.2.1, r23.2.2.2.2.1, r23.2.2.2.2.2)
    ) else (
    K2 (r23.2.2.1, r23.2.2.2.1, r23.2.2.2.2.1, r23.2.2.2.2.2)
    )
    )
    )
    )
    ) else (
    K1 (l10, i11, l12, l13)
    )
def f48 : Nat → Int → (List Int) → (List (List UInt8 × List UInt8 × Int)) → (List (Int × Int × Int × List UInt8 × List UInt8)) → Int → (List Int) → (List (List (List (List UInt8 × List UInt8 × Int)))) → Option (List Int × Bool × (List (Int × Int × Int × List UInt8 × List UInt8)) × Int × List Int × (List (List (List (List UInt8 × List UInt8 × Int)))))
  | 0, _, _, _, _, _, _, _ => none
  | k + 1, x1, x2, x3, x4, x5, x6, x7 =>
    if ((bitsI .and .u64 x1 x5) == x5) then (
    some (x2, true, x4, x5, x6, x7)
    ) else (
    (f61 (getM x6 x7 [] [] x1) x3).bind fun (r8 : Bool × (List (List (List UInt8 × List UInt8 × Int))) × (List (List UInt8 × List UInt8 × Int))) =>
    chk (r8.2.1 = (getM x6 x7 [] [] x1)) <|
    if r8.1 then (
    some ([], false, x4, x5, x6, x7)
    ) else (
    jn (fun ((l24, i25, l26, l27) : (List (Int × Int × Int × List UInt8 × List UInt8)) × Int × List Int × (List (List (List (List UInt8 × List UInt8 × Int))))) =>
    chk ((((getM l26 l27 [] [] x1)).length + 1) * 24 ≤ 140737488355328) <|
    some ([], false, l24, i25, (updK l26 x1), (updV l26 l27 x1 ((getM l26 l27 [] [] x1) ++ [r8.2.2])))
    ) fun (K1 : ((List (Int × Int × Int × List UInt8 × List UInt8)) × Int × List Int × (List (List (List (List UInt8 × List UInt8 × Int))))) → Option (List Int × Bool × (List (Int × Int × Int × List UInt8 × List UInt8)) × Int × List Int × (List (List (List (List UInt8 × List UInt8 × Int)))))) =>
    f48_L0 x1 x2 x4 (f48 k) r8 K1 FUEL (0, x4, x5, x6, x7)
    )
    )
set_option maxRecDepth 100000 in
theorem f48_ok : ∀ (k : Nat) (x1 : Int) (x2 : List Int) (x3 : List (List UInt8 × List UInt8 × Int)) (x4 : List (Int × Int × Int × List UInt8 × List UInt8)) (x5 : Int) (x6 : List Int) (x7 : List (List (List (List UInt8 × List UInt8 × Int)))) (r : List Int × Bool × (List (Int × Int × Int × List UInt8 × List UInt8)) × Int × List Int × (List (List (List (List UInt8 × List UInt8 × Int))))), f48 k x1 x2 x3 x4 x5 x6 x7 = some r → Spec1 Tryz.prog 48 [(3, .tab .u64 Lib.pow10Tab)] [2000, 2001] [(2000, .cells 64 [vL 5 eT31 (default : Int × Int × Int × List UInt8 × List UInt8) x4, .fn (.func 31) [], .int .u64 x5, .own 2001]), (2001, bI (V.int .u64) 0 x6 (some 2002) none none), (2002, bF 57 1 eLSSIJ [] x7 none)] [.ptr 2000 0, .int .u64 x1, vL 1 eI 0 x2, vL 3 eSSI (default : List UInt8 × List UInt8 × Int) x3] (.tup [vL 1 eI 0 r.1, .bool r.2.1]) [(2000, .cells 64 [vL 5 eT31 (default : Int × Int × Int × List UInt8 × List UInt8) r.2.2.1, .fn (.func 31) [], .int .u64 r.2.2.2.1, .own 2001]), (2001, bI (V.int .u64) 0 r.2.2.2.2.1 (some 2002) none none), (2002, bF 57 1 eLSSIJ [] r.2.2.2.2.2 none)] := by
  intro k
  induction k with
  | zero => intro x1 x2 x3 x4 x5 x6 x7 r h; exact nomatch (show (none : Option (List Int × Bool × (List (Int × Int × Int × List UInt8 × List UInt8)) × Int × List Int × (List (List (List (List UInt8 × List UInt8 × Int)))))) = some r from h)
  | succ k ih =>
  intro x1 x2 x3 x4 x5 x6 x7 r h
  obtain ⟨Frec, hFrec⟩ : ∃ C, C = f48 k := ⟨_, rfl⟩
  rw [f48.eq_2] at h
  rw [← hFrec] at h ih
  refine Spec1.body 0 _ _ Tryz.func48 rfl Tryz.ntmps48 rfl rfl ?_
  refine q1rq [] [] ⟨105, [(0, .ptr 2000 0), (1, .int .u64 x1), (2, q1aI x2), (7, .ptr 7 0), (1000003, .tab .u64 Lib.pow10Tab)], [(7, .cells 57 [q1aSSI x3]), (2000, .cells 64 [q1aT31 x4, .fn (.func 31) [], .int .u64 x5, .own 2001]), (2001, bI (V.int .u64) 0 x6 (some 2002) none none), (2002, bF 57 1 eLSSIJ [] x7 none)], [2000, 2001], 0⟩ trivial ?_
  refine AWp.seq ?_
  refine q1rq [] [] ⟨105, [(0, .ptr 2000 0), (1, .int .u64 x1), (2, q1aI x2), (7, .ptr 7 0), (26, .bool ((bitsI .and .u64 x1 x5) == x5)), (1000003, .tab .u64 Lib.pow10Tab)], [(7, .cells 57 [q1aSSI x3]), (2000, .cells 64 [q1aT31 x4, .fn (.func 31) [], .int .u64 x5, .own 2001]), (2001, bI (V.int .u64) 0 x6 (some 2002) none none), (2002, bF 57 1 eLSSIJ [] x7 none)], [2000, 2001], 0⟩ trivial ?_
  refine AWp.cond (b := ((bitsI .and .u64 x1 x5) == x5)) (by kernel_rfl) (fun hc1 => ?_) (fun hc1 => ?_)
  ·
    replace h := ite_tb hc1 h
    refine q1rq [] [] ⟨105, [(8, q1aI x2), (9, .bool true), (1000003, .tab .u64 Lib.pow10Tab)], [(2000, .cells 64 [q1aT31 x4, .fn (.func 31) [], .int .u64 x5, .own 2001]), (2001, bI (V.int .u64) 0 x6 (some 2002) none none), (2002, bF 57 1 eLSSIJ [] x7 none)], [2000, 2001], 0⟩ trivial ?_
    have hret := Option.some.inj h
    subst hret
    refine AWp.le (Le.mk (s' := ⟨105, [(8, q1aI x2), (9, .bool true)], [(2000, .cells 64 [q1aT31 x4, .fn (.func 31) [], .int .u64 x5, .own 2001]), (2001, bI (V.int .u64) 0 x6 (some 2002) none none), (2002, bF 57 1 eLSSIJ [] x7 none)], [2000, 2001], 0⟩) rfl rfl ⟨.refl _, .refl _, trivial⟩ ⟨⟨_, rfl, .refl _⟩, ⟨_, rfl, .refl _⟩, ⟨_, rfl, .refl _⟩, trivial⟩) ?_
    refine AWp.ret ?_
    refine thenQ_ret ?_
    exact bodyQ_ret _ rfl ⟨rfl, rfl⟩ rfl
  ·
    replace h := ite_fb hc1 h
    refine AWp.skip ?_
    refine thenQ_normal ?_
    refine AWp.seq ?_
    refine AWp.seq ?_
    obtain ⟨r8, hr8, h⟩ := bind_ok h
    refine q1rr [] [(5, ⟨[.own 2001, .int .u64 x1], [2001, 2002], [2001], [(2001, bI (V.int .u64) 0 x6 (some 2002) (idxL x1 x6 0) (some 33)), (2002, bF 57 1 eLSSIJ [] x7 (idxL x1 x6 0)), (33, q1bLSSIJ_57 (getM x6 x7 [] [] x1))], .own 33, [2002, 33], [], []⟩), (7, ⟨[.own 33, .fn (.func 62) [.ptr 7 0]], [33, 7], [33, 7], [(33, q1bLSSIJ_57 r8.2.1), (7, .cells 57 [q1aSSI r8.2.2])], .bool r8.1, [], [], []⟩)] ⟨105, [(0, .ptr 2000 0), (1, .int .u64 x1), (2, q1aI x2), (7, .ptr 7 0), (35, .bool r8.1), (1000003, .tab .u64 Lib.pow10Tab)], [(7, .cells 57 [q1aSSI r8.2.2]), (33, q1bLSSIJ_57 r8.2.1), (2000, .cells 64 [q1aT31 x4, .fn (.func 31) [], .int .u64 x5, .own 2001]), (2001, bI (V.int .u64) 0 x6 (some 2002) (idxL x1 x6 0) (some 33)), (2002, bF 57 1 eLSSIJ [] x7 (idxL x1 x6 0))], [2000, 2001], 0⟩ (an2 (And.intro (lookI_spec (P := Tryz.prog) Tryz.underlying62 (V.int .u64) kE62 0 57 1 eLSSIJ [] (by kernel_rfl) (.tmp 31) (.tmp 32) 98 2001 2002 33 (of_decide_eq_true (by kernel_rfl)) (of_decide_eq_true (by kernel_rfl)) (of_decide_eq_true (by kernel_rfl)) x6 x7 x1) (VLes.same [.own 2001, .int .u64 x1])) (cpT (Spec1.ren (swapN 2001 7) (swapN_inv 2001 7) rfl (Spec1.ren (swapN 2000 33) (swapN_inv 2000 33) rfl (f61_ok _ _ _ hr8))))) ?_
    refine thenQ_normal ?_
    obtain ⟨hk2, h⟩ := chk_some h
    refine AWp.le (Le.trans (Le.putI (s := ⟨105, [(0, .ptr 2000 0), (1, .int .u64 x1), (2, q1aI x2), (7, .ptr 7 0), (35, .bool r8.1), (1000003, .tab .u64 Lib.pow10Tab)], [(7, .cells 57 [q1aSSI r8.2.2]), (33, q1bLSSIJ_57 r8.2.1), (2000, .cells 64 [q1aT31 x4, .fn (.func 31) [], .int .u64 x5, .own 2001]), (2001, bI (V.int .u64) 0 x6 (some 2002) (idxL x1 x6 0) (some 33)), (2002, bF 57 1 eLSSIJ [] x7 (idxL x1 x6 0))], [2000, 2001], 0⟩) 2001 2002 33 rfl rfl rfl hk2 rfl) (Le.mk (s' := ⟨105, [(0, .ptr 2000 0), (1, .int .u64 x1), (2, q1aI x2), (7, .ptr 7 0), (35, .bool r8.1), (1000003, .tab .u64 Lib.pow10Tab)], [(7, .cells 57 [q1aSSI r8.2.2]), (2000, .cells 64 [q1aT31 x4, .fn (.func 31) [], .int .u64 x5, .own 2001]), (2001, bI (V.int .u64) 0 x6 (some 2002) none none), (2002, bF 57 1 eLSSIJ [] x7 none)], [2000, 2001], 0⟩) rfl rfl ⟨.refl _, .refl _, .refl _, .refl _, .refl _, .refl _, trivial⟩ ⟨⟨_, rfl, .refl _⟩, ⟨_, rfl, .refl _⟩, ⟨_, rfl, .refl _⟩, ⟨_, rfl, .refl _⟩, trivial⟩)) ?_
    refine AWp.cond (b := r8.1) (by kernel_rfl) (fun hc3 => ?_) (fun hc3 => ?_)
    ·
      replace h := ite_tb hc3 h
      refine q1rq [] [] ⟨105, [(8, .nils), (9, .bool false), (1000003, .tab .u64 Lib.pow10Tab)], [(2000, .cells 64 [q1aT31 x4, .fn (.func 31) [], .int .u64 x5, .own 2001]), (2001, bI (V.int .u64) 0 x6 (some 2002) none none), (2002, bF 57 1 eLSSIJ [] x7 none)], [2000, 2001], 0⟩ trivial ?_
      have hret := Option.some.inj h
      subst hret
      refine AWp.le (Le.mk (s' := ⟨105, [(8, q1aI []), (9, .bool false)], [(2000, .cells 64 [q1aT31 x4, .fn (.func 31) [], .int .u64 x5, .own 2001]), (2001, bI (V.int .u64) 0 x6 (some 2002) none none), (2002, bF 57 1 eLSSIJ [] x7 none)], [2000, 2001], 0⟩) rfl rfl ⟨.nilL, .refl _, trivial⟩ ⟨⟨_, rfl, .refl _⟩, ⟨_, rfl, .refl _⟩, ⟨_, rfl, .refl _⟩, trivial⟩) ?_
      refine AWp.ret ?_
      refine thenQ_ret ?_
      exact bodyQ_ret _ rfl ⟨rfl, rfl⟩ rfl
    ·
      replace h := ite_fb hc3 h
      refine AWp.skip ?_
      refine thenQ_normal ?_
      obtain ⟨K1, hK1, h⟩ := jn_some h
      refine AWp.join (α := (List (Int × Int × Int × List UInt8 × List UInt8)) × Int × List Int × (List (List (List (List UInt8 × List UInt8 × Int))))) (fun (x : (List (Int × Int × Int × List UInt8 × List UInt8)) × Int × List Int × (List (List (List (List UInt8 × List UInt8 × Int))))) => match x with | (l24, i25, l26, l27) => ⟨105, [(0, .ptr 2000 0), (1, .int .u64 x1), (7, .ptr 7 0), (1000003, .tab .u64 Lib.pow10Tab)], [(7, .cells 57 [q1aSSI r8.2.2]), (2000, .cells 64 [q1aT31 l24, .fn (.func 31) [], .int .u64 i25, .own 2001]), (2001, bI (V.int .u64) 0 l26 (some 2002) none none), (2002, bF 57 1 eLSSIJ [] l27 none)], [2000, 2001], 0⟩) (fun x => K1 x = some r) ?_ ?_
      ·
        refine q1rq [] [] ⟨105, [(0, .ptr 2000 0), (1, .int .u64 x1), (2, q1aI x2), (7, .ptr 7 0), (39, q1aT31 x4), (40, .i (lZ x4)), (41, .i (0 : Int)), (1000003, .tab .u64 Lib.pow10Tab)], [(7, .cells 57 [q1aSSI r8.2.2]), (2000, .cells 64 [q1aT31 x4, .fn (.func 31) [], .int .u64 x5, .own 2001]), (2001, bI (V.int .u64) 0 x6 (some 2002) none none), (2002, bF 57 1 eLSSIJ [] x7 none)], [2000, 2001], 0⟩ trivial ?_
        refine AWp.block ?_
        refine AWp.loopL (α := Nat × (Nat × (List (Int × Int × Int × List UInt8 × List UInt8)) × Int × List Int × (List (List (List (List UInt8 × List UInt8 × Int)))))) (fun x => match x with | (_, n9, l10, i11, l12, l13) => ⟨105, [(0, .ptr 2000 0), (1, .int .u64 x1), (2, q1aI x2), (7, .ptr 7 0), (39, q1aT31 x4), (40, .i (lZ x4)), (41, .i (n9 : Int)), (1000003, .tab .u64 Lib.pow10Tab)], [(7, .cells 57 [q1aSSI r8.2.2]), (2000, .cells 64 [q1aT31 l10, .fn (.func 31) [], .int .u64 i11, .own 2001]), (2001, bI (V.int .u64) 0 l12 (some 2002) none none), (2002, bF 57 1 eLSSIJ [] l13 none)], [2000, 2001], 0⟩) (fun x => f48_L0 x1 x2 x4 Frec r8 K1 x.1 x.2 = some r) (fun x => x.1) (FUEL, 0, x4, x5, x6, x7) (Le.mk (s' := ⟨105, [(0, .ptr 2000 0), (1, .int .u64 x1), (2, q1aI x2), (7, .ptr 7 0), (39, q1aT31 x4), (40, .i (lZ x4)), (41, .i (0 : Int)), (1000003, .tab .u64 Lib.pow10Tab)], [(7, .cells 57 [q1aSSI r8.2.2]), (2000, .cells 64 [q1aT31 x4, .fn (.func 31) [], .int .u64 x5, .own 2001]), (2001, bI (V.int .u64) 0 x6 (some 2002) none none), (2002, bF 57 1 eLSSIJ [] x7 none)], [2000, 2001], 0⟩) rfl rfl ⟨.refl _, .refl _, .refl _, .refl _, .refl _, .refl _, .refl _, .refl _, trivial⟩ ⟨⟨_, rfl, .refl _⟩, ⟨_, rfl, .refl _⟩, ⟨_, rfl, .refl _⟩, ⟨_, rfl, .refl _⟩, trivial⟩) h ?_
        rintro ⟨k0, n9, l10, i11, l12, l13⟩ h
        cases k0 with
        | zero => exact nomatch (show (none : Option (List Int × Bool × (List (Int × Int × Int × List UInt8 × List UInt8)) × Int × List Int × (List (List (List (List UInt8 × List UInt8 × Int)))))) = some r from h)
        | succ k0 =>
        obtain ⟨C0, hC0⟩ : ∃ C, C = f48_L0 x1 x2 x4 Frec r8 K1 k0 := ⟨_, rfl⟩
        replace h := (f48_L0.eq_2 ..).symm.trans h
        try rw [← hC0] at h
        refine q1rq [] [] ⟨105, [(0, .ptr 2000 0), (1, .int .u64 x1), (2, q1aI x2), (7, .ptr 7 0), (39, q1aT31 x4), (40, .i (lZ x4)), (41, .i (n9 : Int)), (42, .bool (decide ((n9 : Int) < (lZ x4)))), (1000003, .tab .u64 Lib.pow10Tab)], [(7, .cells 57 [q1aSSI r8.2.2]), (2000, .cells 64 [q1aT31 l10, .fn (.func 31) [], .int .u64 i11, .own 2001]), (2001, bI (V.int .u64) 0 l12 (some 2002) none none), (2002, bF 57 1 eLSSIJ [] l13 none)], [2000, 2001], 0⟩ trivial ?_
        refine AWp.seq ?_
        refine AWp.cond (b := (decide ((n9 : Int) < (lZ x4)))) (by kernel_rfl) (fun hc4 => ?_) (fun hc4 => ?_)
        ·
          replace h := ite_tb hc4 h
          refine AWp.skip ?_
          refine thenQ_normal ?_
          obtain ⟨K2, hK2, h⟩ := jn_some h
          refine AWp.join (α := (List (Int × Int × Int × List UInt8 × List UInt8)) × Int × List Int × (List (List (List (List UInt8 × List UInt8 × Int))))) (fun (x : (List (Int × Int × Int × List UInt8 × List UInt8)) × Int × List Int × (List (List (List (List UInt8 × List UInt8 × Int))))) => match x with | (l15, i17, l18, l19) => ⟨105, [(0, .ptr 2000 0), (1, .int .u64 x1), (2, q1aI x2), (7, .ptr 7 0), (39, q1aT31 x4), (40, .i (lZ x4)), (41, .i (n9 : Int)), (1000003, .tab .u64 Lib.pow10Tab)], [(7, .cells 57 [q1aSSI r8.2.2]), (2000, .cells 64 [q1aT31 l15, .fn (.func 31) [], .int .u64 i17, .own 2001]), (2001, bI (V.int .u64) 0 l18 (some 2002) none none), (2002, bF 57 1 eLSSIJ [] l19 none)], [2000, 2001], 0⟩) (fun x => K2 x = some r) ?_ ?_
          ·
            refine AWp.block ?_
            refine AWp.seq ?_
            obtain ⟨ob0p, h⟩ := chk_some h
            have ob0 : 0 ≤ (n9 : Int) ∧ (n9 : Int) < (((x4).length : Nat) : Int) := ⟨by omega, ob0p⟩
            refine q1rr [] [] ⟨105, [(0, .ptr 2000 0), (1, .int .u64 x1), (2, q1aI x2), (7, .ptr 7 0), (10, .i (n9 : Int)), (11, .ptr 11 0), (39, q1aT31 x4), (40, .i (lZ x4)), (41, .i (n9 : Int)), (1000003, .tab .u64 Lib.pow10Tab)], [(7, .cells 57 [q1aSSI r8.2.2]), (11, .cells 31 [.i (x4.getD n9 q1dT31).1, .i (x4.getD n9 q1dT31).2.1, .i (x4.getD n9 q1dT31).2.2.1, .str (x4.getD n9 q1dT31).2.2.2.1, .str (x4.getD n9 q1dT31).2.2.2.2]), (2000, .cells 64 [q1aT31 l10, .fn (.func 31) [], .int .u64 i11, .own 2001]), (2001, bI (V.int .u64) 0 l12 (some 2002) none none), (2002, bF 57 1 eLSSIJ [] l13 none)], [2000, 2001], 0⟩ (an2 ob0 trivial) ?_
            refine thenQ_normal ?_
            refine AWp.seq ?_
            refine AWp.seq ?_
            by_cases hg8_5 : ((bitsI .and .u64 (x1 / 2 ^ n9) (1 : Int)) == (1 : Int)) = true
            ·
              replace h := ite_t hg8_5 h
              obtain ⟨ob1p, h⟩ := chk_some h
              have ob1 : 0 ≤ (n9 : Int) ∧ n9 ≤ IntKind.bits .u64 := ⟨by omega, ob1p⟩
              have ob2 := idA (false = true)
              have ob3 := idA (false = true)
              have ob4 := idA (false = true)
              have ob5 := idA (false = true)
              have ob6 : true = true → true = false → false = true := by first | decide | omega | simp | (intro h; cases h)
              refine q1rr [] [(5, ⟨[], [], [], [], (.bool true), [], [0], []⟩), (9, ⟨[], [], [], [], .bool false, [], [], []⟩)] ⟨105, [(0, .ptr 2000 0), (1, .int .u64 x1), (2, q1aI x2), (7, .ptr 7 0), (10, .i (n9 : Int)), (11, .ptr 11 0), (39, q1aT31 x4), (40, .i (lZ x4)), (41, .i (n9 : Int)), (57, .bool true), (1000003, .tab .u64 Lib.pow10Tab)], [(7, .cells 57 [q1aSSI r8.2.2]), (11, .cells 31 [.i (x4.getD n9 q1dT31).1, .i (x4.getD n9 q1dT31).2.1, .i (x4.getD n9 q1dT31).2.2.1, .str (x4.getD n9 q1dT31).2.2.2.1, .str (x4.getD n9 q1dT31).2.2.2.2]), (2000, .cells 64 [q1aT31 l10, .fn (.func 31) [], .int .u64 i11, .own 2001]), (2001, bI (V.int .u64) 0 l12 (some 2002) none none), (2002, bF 57 1 eLSSIJ [] l13 none)], [2000, 2001], 0⟩ (an5 ob1 (show ((.bool ((bitsI .and .u64 (x1 / 2 ^ n9) (1 : Int)) == (1 : Int))) : V) = (.bool true) from (congrArg (fun x => ((.bool x) : V)) hg8_5)) (And.intro (show (callP Tryz.prog false 41 [] [] [] [] [] [.ptr 2000 0, .int .u64 x1, .agg [.i (x4.getD n9 q1dT31).1, .i (x4.getD n9 q1dT31).2.1, .i (x4.getD n9 q1dT31).2.2.1, .str (x4.getD n9 q1dT31).2.2.2.1, .str (x4.getD n9 q1dT31).2.2.2.2]] [] (.bool false) []) from ⟨nofun, nofun, .inl rfl⟩) (an3 ob2 ob3 ob4)) (an1 ob5) ob6) ?_
              refine thenQ_normal ?_
              refine AWp.cond (b := true) (by kernel_rfl) (fun hc => ?_) (fun hc => ?_)
              ·
                clear hc
                refine AWp.exit ?_
                refine thenQ_exit ?_
                refine blockQ_same ?_
                exact joinQ_normal (l10, i11, l12, l13) (Le.mk rfl rfl ⟨.refl _, .refl _, .refl _, .refl _, .refl _, .refl _, .refl _, .refl _, trivial⟩ ⟨⟨_, rfl, .refl _⟩, ⟨_, rfl, .refl _⟩, ⟨_, rfl, .refl _⟩, ⟨_, rfl, .refl _⟩, trivial⟩) h
              ·
                cases hc
            ·
              replace h := ite_f hg8_5 h
              obtain ⟨r14, hr14, h⟩ := bind_ok h
              obtain ⟨ob1p, h⟩ := chk_some h
              have ob1 : 0 ≤ (n9 : Int) ∧ n9 ≤ IntKind.bits .u64 := ⟨by omega, ob1p⟩
              have ob2 := idA (true = true)
              have ob3 := idA (true = true)
              have ob4 := idA (true = true)
              have ob5 : true = true → false = false → true = true := by first | decide | omega | simp | (intro h; cases h)
              refine q1rr [] [(5, ⟨[], [], [], [], (.bool false), [], [0], []⟩), (9, ⟨[.ptr 2000 0, .int .u64 x1, .agg [.i (x4.getD n9 q1dT31).1, .i (x4.getD n9 q1dT31).2.1, .i (x4.getD n9 q1dT31).2.2.1, .str (x4.getD n9 q1dT31).2.2.2.1, .str (x4.getD n9 q1dT31).2.2.2.2]], [2000, 2001, 2002], [2000, 2001], [(2000, .cells 64 [q1aT31 r14.2.1, .fn (.func 31) [], .int .u64 r14.2.2.1, .own 2001]), (2001, bI (V.int .u64) 0 r14.2.2.2.1 (some 2002) none none), (2002, bF 57 1 eLSSIJ [] r14.2.2.2.2 none)], .bool r14.1, [2002], [], []⟩)] ⟨105, [(0, .ptr 2000 0), (1, .int .u64 x1), (2, q1aI x2), (7, .ptr 7 0), (10, .i (n9 : Int)), (11, .ptr 11 0), (39, q1aT31 x4), (40, .i (lZ x4)), (41, .i (n9 : Int)), (57, .bool (!r14.1)), (1000003, .tab .u64 Lib.pow10Tab)], [(7, .cells 57 [q1aSSI r8.2.2]), (11, .cells 31 [.i (x4.getD n9 q1dT31).1, .i (x4.getD n9 q1dT31).2.1, .i (x4.getD n9 q1dT31).2.2.1, .str (x4.getD n9 q1dT31).2.2.2.1, .str (x4.getD n9 q1dT31).2.2.2.2]), (2000, .cells 64 [q1aT31 r14.2.1, .fn (.func 31) [], .int .u64 r14.2.2.1, .own 2001]), (2001, bI (V.int .u64) 0 r14.2.2.2.1 (some 2002) none none), (2002, bF 57 1 eLSSIJ [] r14.2.2.2.2 none)], [2000, 2001], 0⟩ (an4 ob1 (show ((.bool ((bitsI .and .u64 (x1 / 2 ^ n9) (1 : Int)) == (1 : Int))) : V) = (.bool false) from (congrArg (fun x => ((.bool x) : V)) (Bool.eq_false_iff.2 hg8_5))) (And.intro (cpT (f41_ok _ _ _ _ _ _ _ _ _ _ _ hr14)) (an3 ob2 ob3 ob4)) ob5) ?_
              refine thenQ_normal ?_
              refine AWp.cond (b := (!r14.1)) (by kernel_rfl) (fun hc6 => ?_) (fun hc6 => ?_)
              ·
                replace h := ite_tb hc6 h
                refine AWp.exit ?_
                refine thenQ_exit ?_
                refine blockQ_same ?_
                exact joinQ_normal (r14.2.1, r14.2.2.1, r14.2.2.2.1, r14.2.2.2.2) (Le.mk rfl rfl ⟨.refl _, .refl _, .refl _, .refl _, .refl _, .refl _, .refl _, .refl _, trivial⟩ ⟨⟨_, rfl, .refl _⟩, ⟨_, rfl, .refl _⟩, ⟨_, rfl, .refl _⟩, ⟨_, rfl, .refl _⟩, trivial⟩) h
              ·
                replace h := ite_fb hc6 h
                refine AWp.skip ?_
                refine thenQ_normal ?_
                refine AWp.seq ?_
                obtain ⟨r20, hr20, h⟩ := bind_ok h
                refine q1rr [] [(2, ⟨[q1aSSI r8.2.2, .agg [.i (x4.getD n9 q1dT31).1, .i (x4.getD n9 q1dT31).2.1, .i (x4.getD n9 q1dT31).2.2.1, .str (x4.getD n9 q1dT31).2.2.2.1, .str (x4.getD n9 q1dT31).2.2.2.2]], [], [], [], .tup [q1aSSI r20.1, .str r20.2], [], [], [3]⟩)] ⟨105, [(0, .ptr 2000 0), (1, .int .u64 x1), (2, q1aI x2), (7, .ptr 7 0), (10, .i (n9 : Int)), (11, .ptr 11 0), (12, q1aSSI r20.1), (13, .str r20.2), (39, q1aT31 x4), (40, .i (lZ x4)), (41, .i (n9 : Int)), (1000003, .tab .u64 Lib.pow10Tab)], [(7, .cells 57 [q1aSSI r8.2.2]), (11, .cells 31 [.i (x4.getD n9 q1dT31).1, .i (x4.getD n9 q1dT31).2.1, .i (x4.getD n9 q1dT31).2.2.1, .str (x4.getD n9 q1dT31).2.2.2.1, .str (x4.getD n9 q1dT31).2.2.2.2]), (2000, .cells 64 [q1aT31 r14.2.1, .fn (.func 31) [], .int .u64 r14.2.2.1, .own 2001]), (2001, bI (V.int .u64) 0 r14.2.2.2.1 (some 2002) none none), (2002, bF 57 1 eLSSIJ [] r14.2.2.2.2 none)], [2000, 2001], 0⟩ (an1 (cpT (f40_ok _ _ _ _ _ _ _ hr20))) ?_
                refine thenQ_normal ?_
                refine AWp.seq ?_
                refine AWp.seq ?_
                obtain ⟨r21, hr21, h⟩ := bind_ok h
                have ob7 := idA (((!r21) == true) = true)
                have ob8 := idA (((!r21) == true) = true)
                have ob9 := idA (((!r21) == true) = true)
                have ob10 := bqA (!r21) true
                refine q1rr [] [(1, ⟨[.agg [.i (x4.getD n9 q1dT31).1, .i (x4.getD n9 q1dT31).2.1, .i (x4.getD n9 q1dT31).2.2.1, .str (x4.getD n9 q1dT31).2.2.2.1, .str (x4.getD n9 q1dT31).2.2.2.2]], [], [], [], .bool r21, [], [], []⟩)] ⟨105, [(0, .ptr 2000 0), (1, .int .u64 x1), (2, q1aI x2), (7, .ptr 7 0), (10, .i (n9 : Int)), (12, q1aSSI r20.1), (39, q1aT31 x4), (40, .i (lZ x4)), (41, .i (n9 : Int)), (72, .bool ((!r21) && (!(r20.2 == ((x4.getD n9 q1dT31).2.2.2.2))))), (1000003, .tab .u64 Lib.pow10Tab)], [(7, .cells 57 [q1aSSI r8.2.2]), (2000, .cells 64 [q1aT31 r14.2.1, .fn (.func 31) [], .int .u64 r14.2.2.1, .own 2001]), (2001, bI (V.int .u64) 0 r14.2.2.2.1 (some 2002) none none), (2002, bF 57 1 eLSSIJ [] r14.2.2.2.2 none)], [2000, 2001], 0⟩ (an4 (cpT (f36_ok _ _ _ _ _ _ hr21)) (an1 ob7) (an2 ob8 ob9) ob10) ?_
                refine thenQ_normal ?_
                refine AWp.cond (b := ((!r21) && (!(r20.2 == ((x4.getD n9 q1dT31).2.2.2.2))))) (by kernel_rfl) (fun hc7 => ?_) (fun hc7 => ?_)
                ·
                  replace h := ite_tb hc7 h
                  refine AWp.exit ?_
                  refine thenQ_exit ?_
                  refine blockQ_same ?_
                  exact joinQ_normal (r14.2.1, r14.2.2.1, r14.2.2.2.1, r14.2.2.2.2) (Le.mk rfl rfl ⟨.refl _, .refl _, .refl _, .refl _, .refl _, .refl _, .refl _, .refl _, trivial⟩ ⟨⟨_, rfl, .refl _⟩, ⟨_, rfl, .refl _⟩, ⟨_, rfl, .refl _⟩, ⟨_, rfl, .refl _⟩, trivial⟩) h
                ·
                  replace h := ite_fb hc7 h
                  refine AWp.skip ?_
                  refine thenQ_normal ?_
                  refine AWp.seq ?_
                  obtain ⟨r22, hr22, h⟩ := bind_ok h
                  obtain ⟨r23, hr23, h⟩ := bind_ok h
                  obtain ⟨ob11p, h⟩ := chk_some h
                  have ob11 : 0 ≤ (n9 : Int) ∧ n9 ≤ IntKind.bits .u64 ∧ 0 ≤ ((1 : Int) * 2 ^ n9) ∧ ((1 : Int) * 2 ^ n9) ≤ 18446744073709551615 := ⟨by omega, ob11p.1, ob11p.2.1, ob11p.2.2⟩
                  obtain ⟨ob12, h⟩ := chk_some h
                  refine q1rr [] [(6, ⟨[q1aI x2], [], [], [(6001, q1bI_3 r22)], .own 6001, [6001], [], []⟩), (11, ⟨[.ptr 2000 0, .int .u64 (bitsI .or .u64 x1 ((1 : Int) * 2 ^ n9)), .own 6001, q1aSSI r20.1], [2000, 2001, 2002, 6001], [2000, 2001], [(2000, .cells 64 [q1aT31 r23.2.2.1, .fn (.func 31) [], .int .u64 r23.2.2.2.1, .own 2001]), (2001, bI (V.int .u64) 0 r23.2.2.2.2.1 (some 2002) none none), (2002, bF 57 1 eLSSIJ [] r23.2.2.2.2.2 none)], .tup [q1aI r23.1, .bool r23.2.1], [2002], [], [3]⟩)] ⟨105, [(0, .ptr 2000 0), (1, .int .u64 x1), (2, q1aI x2), (7, .ptr 7 0), (14, q1aI r23.1), (15, .bool r23.2.1), (39, q1aT31 x4), (40, .i (lZ x4)), (41, .i (n9 : Int)), (1000003, .tab .u64 Lib.pow10Tab)], [(7, .cells 57 [q1aSSI r8.2.2]), (2000, .cells 64 [q1aT31 r23.2.2.1, .fn (.func 31) [], .int .u64 r23.2.2.2.1, .own 2001]), (2001, bI (V.int .u64) 0 r23.2.2.2.2.1 (some 2002) none none), (2002, bF 57 1 eLSSIJ [] r23.2.2.2.2.2 none)], [2000, 2001], 0⟩ (an4 ob11 (cpT (Spec1.ren (swapN 3000 6001) (swapN_inv 3000 6001) rfl (f26_ok _ _ hr22))) ob12 (show (callP Tryz.prog true 48 [(3, .tab .u64 Lib.pow10Tab)] [2000, 2001] [(2000, .cells 64 [q1aT31 r14.2.1, .fn (.func 31) [], .int .u64 r14.2.2.1, .own 2001]), (2001, bI (V.int .u64) 0 r14.2.2.2.1 (some 2002) none none), (2002, bF 57 1 eLSSIJ [] r14.2.2.2.2 none), (6001, .rows 3 1 ((r22).length + 1) (appF (r22).length (encF eI 0 r22) (lstF 1 [.i (n9 : Int)])))] [] [] [.ptr 2000 0, .int .u64 (bitsI .or .u64 x1 ((1 : Int) * 2 ^ n9)), .own 6001, q1aSSI r20.1] [.ptr 2000 0, .int .u64 (bitsI .or .u64 x1 ((1 : Int) * 2 ^ n9)), .own 6001, q1aSSI r20.1] (.tup [q1aI r23.1, .bool r23.2.1]) [(2000, .cells 64 [q1aT31 r23.2.2.1, .fn (.func 31) [], .int .u64 r23.2.2.2.1, .own 2001]), (2001, bI (V.int .u64) 0 r23.2.2.2.2.1 (some 2002) none none), (2002, bF 57 1 eLSSIJ [] r23.2.2.2.2.2 none)]) from ⟨fun _ => (Spec1.pre (ih _ _ _ _ _ _ _ _ hr23) rfl rfl rfl (Le.trans (Le.mk (s' := ⟨4, [(0, .ptr 2000 0), (1, .int .u64 (bitsI .or .u64 x1 ((1 : Int) * 2 ^ n9))), (2, .own 6001), (3, q1aSSI r20.1), (1000003, .tab .u64 Lib.pow10Tab)], [(2000, .cells 64 [q1aT31 r14.2.1, .fn (.func 31) [], .int .u64 r14.2.2.1, .own 2001]), (2001, bI (V.int .u64) 0 r14.2.2.2.1 (some 2002) none none), (2002, bF 57 1 eLSSIJ [] r14.2.2.2.2 none), (6001, q1bI_3 (r22 ++ [(n9 : Int)]))], [2000, 2001], 0⟩) rfl rfl ⟨.refl _, .refl _, .refl _, .refl _, .refl _, trivial⟩ ⟨⟨_, rfl, .refl _⟩, ⟨_, rfl, .refl _⟩, ⟨_, rfl, .refl _⟩, ⟨_, rfl, (BLe.of (RL.app (RL.self _) (RL.lst (enc := eI) [(n9 : Int)] rfl rfl (fun _ => rfl))))⟩, trivial⟩) (Le.trans (Le.freeze 6001 rfl rfl) (Le.mk (s' := ⟨4, [(0, .ptr 2000 0), (1, .int .u64 (bitsI .or .u64 x1 ((1 : Int) * 2 ^ n9))), (2, q1aI (r22 ++ [(n9 : Int)])), (3, q1aSSI r20.1), (1000003, .tab .u64 Lib.pow10Tab)], [(2000, .cells 64 [q1aT31 r14.2.1, .fn (.func 31) [], .int .u64 r14.2.2.1, .own 2001]), (2001, bI (V.int .u64) 0 r14.2.2.2.1 (some 2002) none none), (2002, bF 57 1 eLSSIJ [] r14.2.2.2.2 none)], [2000, 2001], 0⟩) rfl rfl ⟨.refl _, .refl _, .refl _, .refl _, .refl _, trivial⟩ ⟨⟨_, rfl, .refl _⟩, ⟨_, rfl, .refl _⟩, ⟨_, rfl, .refl _⟩, trivial⟩)))), fun _ => ⟨.refl _, .refl _, .refl _, .refl _, trivial⟩, .inl rfl⟩)) ?_
                  refine thenQ_normal ?_
                  refine q1rq [] [] ⟨105, [(0, .ptr 2000 0), (1, .int .u64 x1), (2, q1aI x2), (7, .ptr 7 0), (14, q1aI r23.1), (39, q1aT31 x4), (40, .i (lZ x4)), (41, .i (n9 : Int)), (88, .bool r23.2.1), (1000003, .tab .u64 Lib.pow10Tab)], [(7, .cells 57 [q1aSSI r8.2.2]), (2000, .cells 64 [q1aT31 r23.2.2.1, .fn (.func 31) [], .int .u64 r23.2.2.2.1, .own 2001]), (2001, bI (V.int .u64) 0 r23.2.2.2.2.1 (some 2002) none none), (2002, bF 57 1 eLSSIJ [] r23.2.2.2.2.2 none)], [2000, 2001], 0⟩ trivial ?_
                  refine AWp.cond (b := r23.2.1) (by kernel_rfl) (fun hc8 => ?_) (fun hc8 => ?_)
                  ·
                    replace h := ite_tb hc8 h
                    refine q1rq [] [] ⟨105, [(8, q1aI r23.1), (9, .bool true), (1000003, .tab .u64 Lib.pow10Tab)], [(2000, .cells 64 [q1aT31 r23.2.2.1, .fn (.func 31) [], .int .u64 r23.2.2.2.1, .own 2001]), (2001, bI (V.int .u64) 0 r23.2.2.2.2.1 (some 2002) none none), (2002, bF 57 1 eLSSIJ [] r23.2.2.2.2.2 none)], [2000, 2001], 0⟩ trivial ?_
                    have hret := Option.some.inj h
                    subst hret
                    refine AWp.le (Le.mk (s' := ⟨105, [(8, q1aI r23.1), (9, .bool true)], [(2000, .cells 64 [q1aT31 r23.2.2.1, .fn (.func 31) [], .int .u64 r23.2.2.2.1, .own 2001]), (2001, bI (V.int .u64) 0 r23.2.2.2.2.1 (some 2002) none none), (2002, bF 57 1 eLSSIJ [] r23.2.2.2.2.2 none)], [2000, 2001], 0⟩) rfl rfl ⟨.refl _, .refl _, trivial⟩ ⟨⟨_, rfl, .refl _⟩, ⟨_, rfl, .refl _⟩, ⟨_, rfl, .refl _⟩, trivial⟩) ?_
                    refine AWp.ret ?_
                    refine blockQ_ret ?_
                    refine joinQ_ret ?_
                    refine thenQ_ret ?_
                    refine blockQ_ret ?_
                    refine joinQ_ret ?_
                    exact bodyQ_ret _ rfl ⟨rfl, rfl⟩ rfl
                  ·
                    replace h := ite_fb hc8 h
                    refine AWp.skip ?_
                    refine blockQ_normal ?_
                    exact joinQ_normal (r23.2.2.1, r23.2.2.2.1, r23.2.2.2.2.1, r23.2.2.2.2.2) (Le.mk rfl rfl ⟨.refl _, .refl _, .refl _, .refl _, .refl _, .refl _, .refl _, .refl _, trivial⟩ ⟨⟨_, rfl, .refl _⟩, ⟨_, rfl, .refl _⟩, ⟨_, rfl, .refl _⟩, ⟨_, rfl, .refl _⟩, trivial⟩) h
          ·
            rintro ⟨l15, i17, l18, l19⟩ h
            replace h := (congrFun hK2 _).symm.trans h
            obtain ⟨ob13p, h⟩ := chk_some h
            have ob13 : -9223372036854775808 ≤ ((n9 : Int) + (1 : Int)) ∧ ((n9 : Int) + (1 : Int)) ≤ 9223372036854775807 := ⟨by omega, ob13p⟩
            refine q1rr [] [] ⟨105, [(0, .ptr 2000 0), (1, .int .u64 x1), (2, q1aI x2), (7, .ptr 7 0), (39, q1aT31 x4), (40, .i (lZ x4)), (41, .i (((n9 + 1) : Nat) : Int)), (1000003, .tab .u64 Lib.pow10Tab)], [(7, .cells 57 [q1aSSI r8.2.2]), (2000, .cells 64 [q1aT31 l15, .fn (.func 31) [], .int .u64 i17, .own 2001]), (2001, bI (V.int .u64) 0 l18 (some 2002) none none), (2002, bF 57 1 eLSSIJ [] l19 none)], [2000, 2001], 0⟩ (an1 ob13) ?_
            rw [hC0] at h
            exact loopQ_normal (_, (n9 + 1), l15, i17, l18, l19) (Le.mk rfl rfl ⟨.refl _, .refl _, .refl _, .refl _, .refl _, .refl _, .refl _, .refl _, trivial⟩ ⟨⟨_, rfl, .refl _⟩, ⟨_, rfl, .refl _⟩, ⟨_, rfl, .refl _⟩, ⟨_, rfl, .refl _⟩, trivial⟩) h (Nat.lt_succ_self _)
        ·
          replace h := ite_fb hc4 h
          refine AWp.exit ?_
          refine thenQ_exit ?_
          refine thenQ_exit ?_
          refine blockQ_same ?_
          exact joinQ_normal (l10, i11, l12, l13) (Le.mk rfl rfl ⟨.refl _, .refl _, .refl _, .refl _, trivial⟩ ⟨⟨_, rfl, .refl _⟩, ⟨_, rfl, .refl _⟩, ⟨_, rfl, .refl _⟩, ⟨_, rfl, .refl _⟩, trivial⟩) h
      ·
        rintro ⟨l24, i25, l26, l27⟩ h
        replace h := (congrFun hK1 _).symm.trans h
        refine AWp.seq ?_
        obtain ⟨ob14, h⟩ := chk_some h
        refine q1rr [] [(10, ⟨[.own 2001, .int .u64 x1], [2001, 2002], [2001], [(2001, bI (V.int .u64) 0 l26 (some 2002) (idxL x1 l26 0) (some 101)), (2002, bF 57 1 eLSSIJ [] l27 (idxL x1 l26 0)), (101, q1bLSSIJ_57 (getM l26 l27 [] [] x1))], .own 101, [2002, 101], [], []⟩), (14, ⟨[.own 2001, .int .u64 x1, .own 101], [2001, 2002, 101], [2001], [(2001, bI (V.int .u64) 0 (updK l26 x1) (some 2002) none none), (2002, bF 57 1 eLSSIJ [] (updV l26 l27 x1 ((getM l26 l27 [] [] x1) ++ [r8.2.2])) none)], .any, [2002], [], []⟩)] ⟨105, [(1000003, .tab .u64 Lib.pow10Tab)], [(2000, .cells 64 [q1aT31 l24, .fn (.func 31) [], .int .u64 i25, .own 2001]), (2001, bI (V.int .u64) 0 (updK l26 x1) (some 2002) none none), (2002, bF 57 1 eLSSIJ [] (updV l26 l27 x1 ((getM l26 l27 [] [] x1) ++ [r8.2.2])) none)], [2000, 2001], 0⟩ (an3 (And.intro (lookI_spec (P := Tryz.prog) Tryz.underlying62 (V.int .u64) kE62 0 57 1 eLSSIJ [] (by kernel_rfl) (.tmp 99) (.tmp 100) 98 2001 2002 101 (of_decide_eq_true (by kernel_rfl)) (of_decide_eq_true (by kernel_rfl)) (of_decide_eq_true (by kernel_rfl)) l26 l27 x1) (VLes.same [.own 2001, .int .u64 x1])) ob14 (And.intro (OpSpec.heap (h0 := [(2001, bI (V.int .u64) 0 l26 (some 2002) (idxL x1 l26 0) none), (2002, bF 57 1 eLSSIJ [] l27 (idxL x1 l26 0)), (101, .rows 57 1 (((getM l26 l27 [] [] x1)).length + 1) (appF ((getM l26 l27 [] [] x1)).length (encF eLSSIJ [] (getM l26 l27 [] [] x1)) (lstF 1 [q1aSSI r8.2.2])))]) (updI_spec (P := Tryz.prog) Tryz.underlying62 (V.int .u64) kE62 (.mapUpdate 62 (.tmp 94) (.tmp 95) (.tmp 104)) (.tmp 94) (.tmp 95) (.tmp 104) (.inr rfl) 0 57 1 eLSSIJ [] 0 2001 2002 101 (of_decide_eq_true (by kernel_rfl)) (of_decide_eq_true (by kernel_rfl)) (of_decide_eq_true (by kernel_rfl)) l26 l27 none x1 ((getM l26 l27 [] [] x1) ++ [r8.2.2])) ⟨⟨_, rfl, .refl _⟩, ⟨_, rfl, .refl _⟩, ⟨_, rfl, BLe.of (RL.app (RL.self _) (RL.lstV (enc := eLSSIJ) [r8.2.2] rfl ⟨.refl _, trivial⟩ (fun _ => rfl)))⟩, trivial⟩) (VLes.same [.own 2001, .int .u64 x1, .own 101]))) ?_
        refine thenQ_normal ?_
        refine q1rq [] [] ⟨105, [(8, .nils), (9, .bool false), (1000003, .tab .u64 Lib.pow10Tab)], [(2000, .cells 64 [q1aT31 l24, .fn (.func 31) [], .int .u64 i25, .own 2001]), (2001, bI (V.int .u64) 0 (updK l26 x1) (some 2002) none none), (2002, bF 57 1 eLSSIJ [] (updV l26 l27 x1 ((getM l26 l27 [] [] x1) ++ [r8.2.2])) none)], [2000, 2001], 0⟩ trivial ?_
        have hret := Option.some.inj h
        subst hret
        refine AWp.le (Le.mk (s' := ⟨105, [(8, q1aI []), (9, .bool false)], [(2000, .cells 64 [q1aT31 l24, .fn (.func 31) [], .int .u64 i25, .own 2001]), (2001, bI (V.int .u64) 0 (updK l26 x1) (some 2002) none none), (2002, bF 57 1 eLSSIJ [] (updV l26 l27 x1 ((getM l26 l27 [] [] x1) ++ [r8.2.2])) none)], [2000, 2001], 0⟩) rfl rfl ⟨.nilL, .refl _, trivial⟩ ⟨⟨_, rfl, .refl _⟩, ⟨_, rfl, .refl _⟩, ⟨_, rfl, .refl _⟩, trivial⟩) ?_
        refine AWp.ret ?_
        exact bodyQ_ret _ rfl ⟨rfl, rfl⟩ rfl
def f30_L0 (x1 : List (Int × Int × Int × List UInt8 × List UInt8)) (K1 : Int → Option (List Int × Int)) : Nat → (Nat × Int) → Option (List Int × Int)
  | 0, _ => none
  | k + 1, (n2, i3) =>
    if (decide ((n2 : Int) < (((x1).length : Nat) : Int))) then (
    jn (fun (i5 : Int) =>
    chk (((n2 : Int) + (1 : Int)) ≤ 9223372036854775807) <|
    (f30_L0 x1 K1 k) ((n2 + 1), i5)
    ) fun (K2 : Int → Option (List Int × Int)) =>
    chk ((n2 : Int) < (((x1).length : Nat) : Int)) <|
    (f36 ((x1.getD n2 (default : Int × Int × Int × List UInt8 × List UInt8)).1) ((x1.getD n2 (default : Int × Int × Int × List UInt8 × List UInt8)).2.1) ((x1.getD n2 (default : Int × Int × Int × List UInt8 × List UInt8)).2.2.1) ((x1.getD n2 (default : Int × Int × Int × List UInt8 × List UInt8)).2.2.2.1) ((x1.getD n2 (default : Int × Int × Int × List UInt8 × List UInt8)).2.2.2.2)).bind fun (r4 : Bool) =>
    if (!r4) then (
    chk (n2 ≤ IntKind.bits .u64 ∧ 0 ≤ ((1 : Int) * 2 ^ n2) ∧ ((1 : Int) * 2 ^ n2) ≤ 18446744073709551615) <|
    K2 (bitsI .or .u64 i3 ((1 : Int) * 2 ^ n2))
    ) else (
    K2 i3
    )
    ) else (
    K1 i3
    )
abbrev f30z0 (x1 : List (Int × Int × Int × List UInt8 × List UInt8)) (n2 : Nat) : List (Nat × V) := [(6, .ptr 15 0), (16, vL 5 eT31 (default : Int × Int × Int × List UInt8 × List UInt8) x1), (17, .int .i64 (((x1).length : Nat) : Int)), (18, .int .i64 (n2 : Int)), (1000003, .tab .u64 Lib.pow10Tab)]
abbrev f30z1 (x1 : List (Int × Int × Int × List UInt8 × List UInt8)) (n2 : Nat) := (x1.getD n2 (default : Int × Int × Int × List UInt8 × List UInt8))
def f30 (x1 : List (Int × Int × Int × List UInt8 × List UInt8)) : Option (List Int × Int) :=
  jn (fun (i6 : Int) =>
  (f48 FUEL (0 : Int) [] [] x1 i6 [] []).bind fun (r7 : List Int × Bool × (List (Int × Int × Int × List UInt8 × List UInt8)) × Int × List Int × (List (List (List (List UInt8 × List UInt8 × Int))))) =>
  if (!r7.2.1) then (
  some ([], (14 : Int))
  ) else (
  some (r7.1, (0 : Int))
  )
  ) fun (K1 : Int → Option (List Int × Int)) =>
  f30_L0 x1 K1 FUEL (0, (0 : Int))
set_option maxRecDepth 100000 in
theorem f30_ok  (x1 : List (Int × Int × Int × List UInt8 × List UInt8)) (r : List Int × Int) (h : f30 x1 = some r)  : Spec1 Tryz.prog 30 [(3, .tab .u64 Lib.pow10Tab)] [] [] [vL 5 eT31 (default : Int × Int × Int × List UInt8 × List UInt8) x1, .fn (.func 31) []] (.tup [vL 1 eI 0 r.1, .int .i64 r.2]) [] := by
  unfold f30 at h
  refine Spec1.body 0 _ _ Tryz.func30 rfl Tryz.ntmps30 rfl rfl ?_
  refine q1rq [] [] ⟨44, [(0, q1aT31 x1), (1, .fn (.func 31) []), (1000003, .tab .u64 Lib.pow10Tab)], [], [], 0⟩ trivial ?_
  refine q1rq [] [(2, ⟨[], [], [], [(13, bI (V.int .u64) 0 [] (some 40013) none none), (40013, bF 57 1 eLSSIJ [] [] none)], .own 13, [13, 40013], [], []⟩)] ⟨44, [(0, q1aT31 x1), (6, .ptr 15 0), (1000003, .tab .u64 Lib.pow10Tab)], [(13, bI (V.int .u64) 0 [] (some 40013) none none), (15, .cells 64 [q1aT31 x1, .fn (.func 31) [], .int .u64 (0 : Int), .own 13]), (40013, bF 57 1 eLSSIJ [] [] none)], [], 0⟩ (an1 (And.intro (makeI_spec (P := Tryz.prog) (V.int .u64) 0 57 1 eLSSIJ [] 62 13 40013 (of_decide_eq_true (by kernel_rfl)) 62) (VLes.same []))) ?_
  obtain ⟨K1, hK1, h⟩ := jn_some h
  refine AWp.join (α := Int) (fun (i6 : Int) => ⟨44, [(6, .ptr 15 0), (1000003, .tab .u64 Lib.pow10Tab)], [(13, bI (V.int .u64) 0 [] (some 40013) none none), (15, .cells 64 [q1aT31 x1, .fn (.func 31) [], .int .u64 i6, .own 13]), (40013, bF 57 1 eLSSIJ [] [] none)], [], 0⟩) (fun x => K1 x = some r) ?_ ?_
  ·
    refine q1rq [] [] ⟨44, [(6, .ptr 15 0), (16, q1aT31 x1), (17, .i (lZ x1)), (18, .i (0 : Int)), (1000003, .tab .u64 Lib.pow10Tab)], [(13, bI (V.int .u64) 0 [] (some 40013) none none), (15, .cells 64 [q1aT31 x1, .fn (.func 31) [], .int .u64 (0 : Int), .own 13]), (40013, bF 57 1 eLSSIJ [] [] none)], [], 0⟩ trivial ?_
    refine AWp.block ?_
    refine AWp.loopL (α := Nat × (Nat × Int)) (fun x => match x with | (_, n2, i3) => ⟨44, (f30z0 x1 n2), [(13, bI (V.int .u64) 0 [] (some 40013) none none), (15, .cells 64 [q1aT31 x1, .fn (.func 31) [], .int .u64 i3, .own 13]), (40013, bF 57 1 eLSSIJ [] [] none)], [], 0⟩) (fun x => f30_L0 x1 K1 x.1 x.2 = some r) (fun x => x.1) (FUEL, 0, (0 : Int)) (Le.mk (s' := ⟨44, [(6, .ptr 15 0), (16, q1aT31 x1), (17, .i (lZ x1)), (18, .i (0 : Int)), (1000003, .tab .u64 Lib.pow10Tab)], [(13, bI (V.int .u64) 0 [] (some 40013) none none), (15, .cells 64 [q1aT31 x1, .fn (.func 31) [], .int .u64 (0 : Int), .own 13]), (40013, bF 57 1 eLSSIJ [] [] none)], [], 0⟩) rfl rfl ⟨.refl _, .refl _, .refl _, .refl _, .refl _, trivial⟩ ⟨⟨_, rfl, .refl _⟩, ⟨_, rfl, .refl _⟩, ⟨_, rfl, .refl _⟩, trivial⟩) h ?_
    rintro ⟨k0, n2, i3⟩ h
    cases k0 with
    | zero => exact nomatch (show (none : Option (List Int × Int)) = some r from h)
    | succ k0 =>
    obtain ⟨C0, hC0⟩ : ∃ C, C = f30_L0 x1 K1 k0 := ⟨_, rfl⟩
    replace h := (f30_L0.eq_2 ..).symm.trans h
    try rw [← hC0] at h
    refine q1rq [] [] ⟨44, [(6, .ptr 15 0), (16, q1aT31 x1), (17, .i (lZ x1)), (18, .i (n2 : Int)), (19, .bool (decide ((n2 : Int) < (lZ x1)))), (1000003, .tab .u64 Lib.pow10Tab)], [(13, bI (V.int .u64) 0 [] (some 40013) none none), (15, .cells 64 [q1aT31 x1, .fn (.func 31) [], .int .u64 i3, .own 13]), (40013, bF 57 1 eLSSIJ [] [] none)], [], 0⟩ trivial ?_
    refine AWp.seq ?_
    refine AWp.cond (b := (decide ((n2 : Int) < (lZ x1)))) (by kernel_rfl) (fun hc1 => ?_) (fun hc1 => ?_)
    ·
      replace h := ite_tb hc1 h
      refine AWp.skip ?_
      refine thenQ_normal ?_
      obtain ⟨K2, hK2, h⟩ := jn_some h
      refine AWp.join (α := Int) (fun (i5 : Int) => ⟨44, (f30z0 x1 n2), [(13, bI (V.int .u64) 0 [] (some 40013) none none), (15, .cells 64 [q1aT31 x1, .fn (.func 31) [], .int .u64 i5, .own 13]), (40013, bF 57 1 eLSSIJ [] [] none)], [], 0⟩) (fun x => K2 x = some r) ?_ ?_
      ·
        refine AWp.block ?_
        refine AWp.seq ?_
        obtain ⟨ob0p, h⟩ := chk_some h
        have ob0 : 0 ≤ (n2 : Int) ∧ (n2 : Int) < (((x1).length : Nat) : Int) := ⟨by omega, ob0p⟩
        refine q1rr [] [] ⟨44, [(6, .ptr 15 0), (7, .i (n2 : Int)), (8, .ptr 8 0), (16, q1aT31 x1), (17, .i (lZ x1)), (18, .i (n2 : Int)), (1000003, .tab .u64 Lib.pow10Tab)], [(8, .cells 31 [.i (f30z1 x1 n2).1, .i (f30z1 x1 n2).2.1, .i (f30z1 x1 n2).2.2.1, .str (f30z1 x1 n2).2.2.2.1, .str (f30z1 x1 n2).2.2.2.2]), (13, bI (V.int .u64) 0 [] (some 40013) none none), (15, .cells 64 [q1aT31 x1, .fn (.func 31) [], .int .u64 i3, .own 13]), (40013, bF 57 1 eLSSIJ [] [] none)], [], 0⟩ (an2 ob0 trivial) ?_
        refine thenQ_normal ?_
        refine AWp.seq ?_
        obtain ⟨r4, hr4, h⟩ := bind_ok h
        refine q1rr [] [(1, ⟨[.agg [.i (f30z1 x1 n2).1, .i (f30z1 x1 n2).2.1, .i (f30z1 x1 n2).2.2.1, .str (f30z1 x1 n2).2.2.2.1, .str (f30z1 x1 n2).2.2.2.2]], [], [], [], .bool r4, [], [], []⟩)] ⟨44, [(6, .ptr 15 0), (7, .i (n2 : Int)), (16, q1aT31 x1), (17, .i (lZ x1)), (18, .i (n2 : Int)), (25, .bool (!r4)), (1000003, .tab .u64 Lib.pow10Tab)], [(13, bI (V.int .u64) 0 [] (some 40013) none none), (15, .cells 64 [q1aT31 x1, .fn (.func 31) [], .int .u64 i3, .own 13]), (40013, bF 57 1 eLSSIJ [] [] none)], [], 0⟩ (an1 (cpT (f36_ok _ _ _ _ _ _ hr4))) ?_
        refine thenQ_normal ?_
        refine AWp.cond (b := (!r4)) (by kernel_rfl) (fun hc2 => ?_) (fun hc2 => ?_)
        ·
          replace h := ite_tb hc2 h
          obtain ⟨ob1p, h⟩ := chk_some h
          have ob1 : 0 ≤ (n2 : Int) ∧ n2 ≤ IntKind.bits .u64 ∧ 0 ≤ ((1 : Int) * 2 ^ n2) ∧ ((1 : Int) * 2 ^ n2) ≤ 18446744073709551615 := ⟨by omega, ob1p.1, ob1p.2.1, ob1p.2.2⟩
          refine q1rr [] [] ⟨44, (f30z0 x1 n2), [(13, bI (V.int .u64) 0 [] (some 40013) none none), (15, .cells 64 [q1aT31 x1, .fn (.func 31) [], .int .u64 (bitsI .or .u64 i3 ((1 : Int) * 2 ^ n2)), .own 13]), (40013, bF 57 1 eLSSIJ [] [] none)], [], 0⟩ (an2 ob1 trivial) ?_
          refine blockQ_normal ?_
          exact joinQ_normal ((bitsI .or .u64 i3 ((1 : Int) * 2 ^ n2))) (Le.mk rfl rfl ⟨.refl _, .refl _, .refl _, .refl _, .refl _, trivial⟩ ⟨⟨_, rfl, .refl _⟩, ⟨_, rfl, .refl _⟩, ⟨_, rfl, .refl _⟩, trivial⟩) h
        ·
          replace h := ite_fb hc2 h
          refine AWp.skip ?_
          refine blockQ_normal ?_
          exact joinQ_normal (i3) (Le.mk rfl rfl ⟨.refl _, .refl _, .refl _, .refl _, .refl _, trivial⟩ ⟨⟨_, rfl, .refl _⟩, ⟨_, rfl, .refl _⟩, ⟨_, rfl, .refl _⟩, trivial⟩) h
      ·
        rintro i5 h
        replace h := (congrFun hK2 _).symm.trans h
        obtain ⟨ob2p, h⟩ := chk_some h
        have ob2 : -9223372036854775808 ≤ ((n2 : Int) + (1 : Int)) ∧ ((n2 : Int) + (1 : Int)) ≤ 9223372036854775807 := ⟨by omega, ob2p⟩
        refine q1rr [] [] ⟨44, [(6, .ptr 15 0), (16, q1aT31 x1), (17, .i (lZ x1)), (18, .i (((n2 + 1) : Nat) : Int)), (1000003, .tab .u64 Lib.pow10Tab)], [(13, bI (V.int .u64) 0 [] (some 40013) none none), (15, .cells 64 [q1aT31 x1, .fn (.func 31) [], .int .u64 i5, .own 13]), (40013, bF 57 1 eLSSIJ [] [] none)], [], 0⟩ (an1 ob2) ?_
        rw [hC0] at h
        exact loopQ_normal (_, (n2 + 1), i5) (Le.mk rfl rfl ⟨.refl _, .refl _, .refl _, .refl _, .refl _, trivial⟩ ⟨⟨_, rfl, .refl _⟩, ⟨_, rfl, .refl _⟩, ⟨_, rfl, .refl _⟩, trivial⟩) h (Nat.lt_succ_self _)
    ·
      replace h := ite_fb hc1 h
      refine AWp.exit ?_
      refine thenQ_exit ?_
      refine thenQ_exit ?_
      refine blockQ_same ?_
      exact joinQ_normal (i3) (Le.mk rfl rfl ⟨.refl _, .refl _, trivial⟩ ⟨⟨_, rfl, .refl _⟩, ⟨_, rfl, .refl _⟩, ⟨_, rfl, .refl _⟩, trivial⟩) h
  ·
    rintro i6 h
    replace h := (congrFun hK1 _).symm.trans h
    refine AWp.seq ?_
    obtain ⟨r7, hr7, h⟩ := bind_ok h
    refine q1rr [] [(1, ⟨[.ptr 15 0, .int .u64 (0 : Int), q1aI [], q1aSSI []], [15, 13, 40013], [15, 13], [(15, .cells 64 [q1aT31 r7.2.2.1, .fn (.func 31) [], .int .u64 r7.2.2.2.1, .own 13]), (13, bI (V.int .u64) 0 r7.2.2.2.2.1 (some 40013) none none), (40013, bF 57 1 eLSSIJ [] r7.2.2.2.2.2 none)], .tup [q1aI r7.1, .bool r7.2.1], [40013], [], [3]⟩)] ⟨44, [(9, q1aI r7.1), (10, .bool r7.2.1), (1000003, .tab .u64 Lib.pow10Tab)], [], [], 0⟩ (an1 (cpL (c := true) [] [] [.ptr 15 0, .int .u64 (0 : Int), .nils, .nils] (fun _ => (Spec1.ren (swapN 2002 40013) (swapN_inv 2002 40013) rfl (Spec1.ren (swapN 2001 13) (swapN_inv 2001 13) rfl (Spec1.ren (swapN 2000 15) (swapN_inv 2000 15) rfl (f48_ok FUEL _ _ _ _ _ _ _ _ hr7))))) (fun _ => ⟨.refl _, .refl _, .nilL, .nilL, trivial⟩) (.inl rfl))) ?_
    refine thenQ_normal ?_
    refine AWp.seq ?_
    refine q1rq [] [] ⟨44, [(9, q1aI r7.1), (42, .bool (!r7.2.1)), (1000003, .tab .u64 Lib.pow10Tab)], [], [], 0⟩ trivial ?_
    refine AWp.cond (b := (!r7.2.1)) (by kernel_rfl) (fun hc3 => ?_) (fun hc3 => ?_)
    ·
      replace h := ite_tb hc3 h
      refine q1rq [] [] ⟨44, [(4, .nils), (5, .i (14 : Int)), (1000003, .tab .u64 Lib.pow10Tab)], [], [], 0⟩ trivial ?_
      have hret := Option.some.inj h
      subst hret
      refine AWp.le (Le.mk (s' := ⟨44, [(4, q1aI []), (5, .i (14 : Int))], [], [], 0⟩) rfl rfl ⟨.nilL, .refl _, trivial⟩ trivial) ?_
      refine AWp.ret ?_
      refine thenQ_ret ?_
      exact bodyQ_ret _ rfl ⟨rfl, rfl⟩ rfl
    ·
      replace h := ite_fb hc3 h
      refine AWp.skip ?_
      refine thenQ_normal ?_
      refine q1rq [] [] ⟨44, [(4, q1aI r7.1), (5, .i (0 : Int)), (1000003, .tab .u64 Lib.pow10Tab)], [], [], 0⟩ trivial ?_
      have hret := Option.some.inj h
      subst hret
      refine AWp.le (Le.mk (s' := ⟨44, [(4, q1aI r7.1), (5, .i (0 : Int))], [], [], 0⟩) rfl rfl ⟨.refl _, .refl _, trivial⟩ trivial) ?_
      refine AWp.ret ?_
      exact bodyQ_ret _ rfl ⟨rfl, rfl⟩ rfl
def f11 (x1 : List (Int × Int × Int × List UInt8 × List UInt8)) : Option (List Int × Int) :=
  (f17 x1).bind fun (r2 : Int) =>
  if (r2 != (0 : Int)) then (
  some ([], r2)
  ) else (
  (f30 x1).bind fun (r3 : List Int × Int) =>
  some (r3.1, r3.2)
  )
set_option maxRecDepth 100000 in
theorem f11_ok  (x1 : List (Int × Int × Int × List UInt8 × List UInt8)) (r : List Int × Int) (h : f11 x1 = some r)  : Spec1 Tryz.prog 11 [(3, .tab .u64 Lib.pow10Tab)] [] [] [vL 5 eT31 (default : Int × Int × Int × List UInt8 × List UInt8) x1] (.tup [vL 1 eI 0 r.1, .int .i64 r.2]) [] := by
  unfold f11 at h
  refine Spec1.body 0 _ _ Tryz.func11 rfl Tryz.ntmps11 rfl rfl ?_
  refine q1rq [] [] ⟨14, [(0, q1aT31 x1), (1000003, .tab .u64 Lib.pow10Tab)], [], [], 0⟩ trivial ?_
  refine AWp.seq ?_
  refine AWp.seq ?_
  obtain ⟨r2, hr2, h⟩ := bind_ok h
  refine q1rr [] [(1, ⟨[q1aT31 x1], [], [], [], .i r2, [], [], []⟩)] ⟨14, [(0, q1aT31 x1), (4, .i r2), (1000003, .tab .u64 Lib.pow10Tab)], [], [], 0⟩ (an1 (cpT (f17_ok _ _ hr2))) ?_
  refine thenQ_normal ?_
  refine q1rq [] [] ⟨14, [(0, q1aT31 x1), (4, .i r2), (8, .bool (r2 != (0 : Int))), (1000003, .tab .u64 Lib.pow10Tab)], [], [], 0⟩ trivial ?_
  refine AWp.cond (b := (r2 != (0 : Int))) (by kernel_rfl) (fun hc1 => ?_) (fun hc1 => ?_)
  ·
    replace h := ite_tb hc1 h
    refine q1rq [] [] ⟨14, [(2, .nils), (3, .i r2), (1000003, .tab .u64 Lib.pow10Tab)], [], [], 0⟩ trivial ?_
    have hret := Option.some.inj h
    subst hret
    refine AWp.le (Le.mk (s' := ⟨14, [(2, q1aI []), (3, .i r2)], [], [], 0⟩) rfl rfl ⟨.nilL, .refl _, trivial⟩ trivial) ?_
    refine AWp.ret ?_
    refine thenQ_ret ?_
    exact bodyQ_ret _ rfl ⟨rfl, rfl⟩ rfl
  ·
    replace h := ite_fb hc1 h
    refine AWp.skip ?_
    refine thenQ_normal ?_
    refine AWp.seq ?_
    obtain ⟨r3, hr3, h⟩ := bind_ok h
    refine q1rr [] [(1, ⟨[q1aT31 x1, .fn (.func 31) []], [], [], [], .tup [q1aI r3.1, .i r3.2], [], [], [3]⟩)] ⟨14, [(2, q1aI r3.1), (3, .i r3.2), (1000003, .tab .u64 Lib.pow10Tab)], [], [], 0⟩ (an1 (cpT (f30_ok _ _ hr3))) ?_
    refine thenQ_normal ?_
    have hret := Option.some.inj h
    subst hret
    refine AWp.le (Le.mk (s' := ⟨14, [(2, q1aI r3.1), (3, .i r3.2)], [], [], 0⟩) rfl rfl ⟨.refl _, .refl _, trivial⟩ trivial) ?_
    refine AWp.ret ?_
    exact bodyQ_ret _ rfl ⟨rfl, rfl⟩ rfl
def f12 (x1 : List (Int × Int × Int × List UInt8 × List UInt8)) : Option (List (Int × Int × Int × List UInt8 × List UInt8)) :=
  abc ((x1).length = 0) (
  some []
  ) (
  chk ((0 + (x1).length) * 56 ≤ 140737488355328) <|
  some ([] ++ x1)
  )
set_option maxRecDepth 100000 in
theorem f12_ok  (x1 : List (Int × Int × Int × List UInt8 × List UInt8)) (r : List (Int × Int × Int × List UInt8 × List UInt8)) (h : f12 x1 = some r)  : Spec1 Tryz.prog 12 [] [] [] [vL 5 eT31 (default : Int × Int × Int × List UInt8 × List UInt8) x1] (.own 3000) [(3000, bL 31 5 eT31 (default : Int × Int × Int × List UInt8 × List UInt8) r)] := by
  unfold f12 at h
  refine Spec1.body 0 _ _ Tryz.func12 rfl Tryz.ntmps12 rfl rfl ?_
  refine q1rq [] [] ⟨8, [(0, q1aT31 x1)], [], [], 0⟩ trivial ?_
  refine AWp.seq ?_
  refine q1rq [] [] ⟨8, [(0, q1aT31 x1), (4, .abool (fun b => b = true → (x1).length = 0))], [], [], 0⟩ trivial ?_
  obtain ⟨hA1, hB1⟩ := abc_some h
  refine AWp.condAb (fun b => b = true → (x1).length = 0) (by kernel_rfl) (fun hc1 => ?_) (fun hc1 => ?_)
  ·
    have h := hA1 (hc1 rfl)
    refine q1rq [] [] ⟨8, [(2, .nils)], [], [], 0⟩ trivial ?_
    refine AWp.le (Le.trans (Le.nilOwn 2 3000 31 5 (encF eT31 q1dT31 []) rfl rfl (Nat.le_of_ble_eq_true rfl)) (Le.mk (s' := ⟨8, [(2, .own 3000)], [(3000, q1bT31_31 [])], [], 0⟩) rfl rfl ⟨.refl _, trivial⟩ ⟨⟨_, rfl, .refl _⟩, trivial⟩)) ?_
    have hret := Option.some.inj h
    subst hret
    refine AWp.le (Le.mk (s' := ⟨8, [(2, .own 3000)], [(3000, q1bT31_31 [])], [], 0⟩) rfl rfl ⟨.refl _, trivial⟩ ⟨⟨_, rfl, .refl _⟩, trivial⟩) ?_
    refine AWp.ret ?_
    refine thenQ_ret ?_
    exact bodyQ_ret _ rfl ⟨rfl, rfl⟩ rfl
  ·
    have h := hB1
    refine AWp.skip ?_
    refine thenQ_normal ?_
    refine AWp.seq ?_
    obtain ⟨ob0, h⟩ := chk_some h
    refine q1rr [] [] ⟨8, [(2, .own 5)], [(5, .rows 31 5 (0 + (x1).length) (appF 0 (lstF 5 []) (encF eT31 q1dT31 x1)))], [], 0⟩ (an1 ob0) ?_
    refine thenQ_normal ?_
    refine AWp.le (Le.mk (s' := ⟨8, [(2, .own 5)], [(5, q1bT31_31 ([] ++ x1))], [], 0⟩) rfl rfl ⟨.refl _, trivial⟩ ⟨⟨_, rfl, (BLe.of (RL.app (RL.lst (enc := eT31) [] rfl rfl (fun _ => rfl)) (RL.self _)))⟩, trivial⟩) ?_
    refine AWp.le (Le.trans (Le.ren (swapN 5 3000) (swapN_inv 5 3000) rfl) (Le.mk (s' := ⟨8, [(2, .own 3000)], [(3000, q1bT31_31 ([] ++ x1))], [], 0⟩) rfl rfl ⟨.refl _, trivial⟩ ⟨⟨_, rfl, .refl _⟩, trivial⟩)) ?_
    have hret := Option.some.inj h
    subst hret
    refine AWp.le (Le.mk (s' := ⟨8, [(2, .own 3000)], [(3000, q1bT31_31 ([] ++ x1))], [], 0⟩) rfl rfl ⟨.refl _, trivial⟩ ⟨⟨_, rfl, .refl _⟩, trivial⟩) ?_
    refine AWp.ret ?_
    exact bodyQ_ret _ rfl ⟨rfl, rfl⟩ rfl
def f79 (x1 : Int) : Option Int :=
  jn (fun ((i2, n3) : Int × Nat) =>
  jn (fun ((i4, n5) : Int × Nat) =>
  jn (fun ((i6, n7) : Int × Nat) =>
  chk (0 ≤ i6 ∧ i6 ≤ 255) <|
  chk (0 ≤ i6 ∧ i6 < ((cs9.length : Nat) : Int)) <|
  chk ((((cs9.getD ((i6).toNat) 0).toNat : Nat) : Int) ≤ 9223372036854775807) <|
  chk (((n7 : Int) + (((cs9.getD ((i6).toNat) 0).toNat : Nat) : Int)) ≤ 9223372036854775807) <|
  some (((n7 + (cs9.getD ((i6).toNat) 0).toNat) : Nat) : Int)
  ) fun (K3 : (Int × Nat) → Option Int) =>
  if (decide (i4 ≥ (256 : Int))) then (
  chk (8 ≤ IntKind.bits .u64) <|
  chk (((n5 : Int) + (8 : Int)) ≤ 9223372036854775807) <|
  K3 ((i4 / 2 ^ 8), (n5 + 8))
  ) else (
  K3 (i4, n5)
  )
  ) fun (K2 : (Int × Nat) → Option Int) =>
  if (decide (i2 ≥ (65536 : Int))) then (
  chk (16 ≤ IntKind.bits .u64) <|
  chk (((n3 : Int) + (16 : Int)) ≤ 9223372036854775807) <|
  K2 ((i2 / 2 ^ 16), (n3 + 16))
  ) else (
  K2 (i2, n3)
  )
  ) fun (K1 : (Int × Nat) → Option Int) =>
  if (decide (x1 ≥ (4294967296 : Int))) then (
  chk (32 ≤ IntKind.bits .u64) <|
  K1 ((x1 / 2 ^ 32), 32)
  ) else (
  K1 (x1, 0)
  )
set_option maxRecDepth 100000 in
theorem f79_ok  (x1 : Int) (r : Int) (h : f79 x1 = some r)  : Spec1 Tryz.prog 79 [] [] [] [.int .u64 x1] (.int .i64 r) [] := by
  unfold f79 at h
  refine Spec1.body 0 _ _ Tryz.func79 rfl Tryz.ntmps79 rfl rfl ?_
  refine q1rq [] [] ⟨25, [(0, .int .u64 x1), (2, .i (0 : Int))], [], [], 0⟩ trivial ?_
  obtain ⟨K1, hK1, h⟩ := jn_some h
  refine AWp.join (α := Int × Nat) (fun (x : Int × Nat) => match x with | (i2, n3) => ⟨25, [(0, .int .u64 i2), (2, .i (n3 : Int))], [], [], 0⟩) (fun x => K1 x = some r) ?_ ?_
  ·
    refine q1rq [] [] ⟨25, [(0, .int .u64 x1), (2, .i (0 : Int)), (4, .bool (decide (x1 ≥ (4294967296 : Int))))], [], [], 0⟩ trivial ?_
    refine AWp.cond (b := (decide (x1 ≥ (4294967296 : Int)))) (by kernel_rfl) (fun hc1 => ?_) (fun hc1 => ?_)
    ·
      replace h := ite_tb hc1 h
      refine AWp.seq ?_
      obtain ⟨ob0p, h⟩ := chk_some h
      have ob0 : 0 ≤ (32 : Int) ∧ 32 ≤ IntKind.bits .u64 := ⟨by omega, ob0p⟩
      refine q1rr [] [] ⟨25, [(0, .int .u64 (x1 / 2 ^ 32))], [], [], 0⟩ (an1 ob0) ?_
      refine thenQ_normal ?_
      refine q1rr [] [] ⟨25, [(0, .int .u64 (x1 / 2 ^ 32)), (2, .i (32 : Int))], [], [], 0⟩ trivial ?_
      exact joinQ_normal ((x1 / 2 ^ 32), 32) (Le.mk rfl rfl ⟨.refl _, .refl _, trivial⟩ trivial) h
    ·
      replace h := ite_fb hc1 h
      refine AWp.skip ?_
      exact joinQ_normal (x1, 0) (Le.mk rfl rfl ⟨.refl _, .refl _, trivial⟩ trivial) h
  ·
    rintro ⟨i2, n3⟩ h
    replace h := (congrFun hK1 _).symm.trans h
    obtain ⟨K2, hK2, h⟩ := jn_some h
    refine AWp.join (α := Int × Nat) (fun (x : Int × Nat) => match x with | (i4, n5) => ⟨25, [(0, .int .u64 i4), (2, .i (n5 : Int))], [], [], 0⟩) (fun x => K2 x = some r) ?_ ?_
    ·
      refine q1rq [] [] ⟨25, [(0, .int .u64 i2), (2, .i (n3 : Int)), (8, .bool (decide (i2 ≥ (65536 : Int))))], [], [], 0⟩ trivial ?_
      refine AWp.cond (b := (decide (i2 ≥ (65536 : Int)))) (by kernel_rfl) (fun hc2 => ?_) (fun hc2 => ?_)
      ·
        replace h := ite_tb hc2 h
        refine AWp.seq ?_
        obtain ⟨ob1p, h⟩ := chk_some h
        have ob1 : 0 ≤ (16 : Int) ∧ 16 ≤ IntKind.bits .u64 := ⟨by omega, ob1p⟩
        refine q1rr [] [] ⟨25, [(0, .int .u64 (i2 / 2 ^ 16)), (2, .i (n3 : Int))], [], [], 0⟩ (an1 ob1) ?_
        refine thenQ_normal ?_
        obtain ⟨ob2p, h⟩ := chk_some h
        have ob2 : -9223372036854775808 ≤ ((n3 : Int) + (16 : Int)) ∧ ((n3 : Int) + (16 : Int)) ≤ 9223372036854775807 := ⟨by omega, ob2p⟩
        refine q1rr [] [] ⟨25, [(0, .int .u64 (i2 / 2 ^ 16)), (2, .i (((n3 + 16) : Nat) : Int))], [], [], 0⟩ (an1 ob2) ?_
        exact joinQ_normal ((i2 / 2 ^ 16), (n3 + 16)) (Le.mk rfl rfl ⟨.refl _, .refl _, trivial⟩ trivial) h
      ·
        replace h := ite_fb hc2 h
        refine AWp.skip ?_
        exact joinQ_normal (i2, n3) (Le.mk rfl rfl ⟨.refl _, .refl _, trivial⟩ trivial) h
    ·
      rintro ⟨i4, n5⟩ h
      replace h := (congrFun hK2 _).symm.trans h
      obtain ⟨K3, hK3, h⟩ := jn_some h
      refine AWp.join (α := Int × Nat) (fun (x : Int × Nat) => match x with | (i6, n7) => ⟨25, [(0, .int .u64 i6), (2, .i (n7 : Int))], [], [], 0⟩) (fun x => K3 x = some r) ?_ ?_
      ·
        refine q1rq [] [] ⟨25, [(0, .int .u64 i4), (2, .i (n5 : Int)), (14, .bool (decide (i4 ≥ (256 : Int))))], [], [], 0⟩ trivial ?_
        refine AWp.cond (b := (decide (i4 ≥ (256 : Int)))) (by kernel_rfl) (fun hc3 => ?_) (fun hc3 => ?_)
        ·
          replace h := ite_tb hc3 h
          refine AWp.seq ?_
          obtain ⟨ob3p, h⟩ := chk_some h
          have ob3 : 0 ≤ (8 : Int) ∧ 8 ≤ IntKind.bits .u64 := ⟨by omega, ob3p⟩
          refine q1rr [] [] ⟨25, [(0, .int .u64 (i4 / 2 ^ 8)), (2, .i (n5 : Int))], [], [], 0⟩ (an1 ob3) ?_
          refine thenQ_normal ?_
          obtain ⟨ob4p, h⟩ := chk_some h
          have ob4 : -9223372036854775808 ≤ ((n5 : Int) + (8 : Int)) ∧ ((n5 : Int) + (8 : Int)) ≤ 9223372036854775807 := ⟨by omega, ob4p⟩
          refine q1rr [] [] ⟨25, [(0, .int .u64 (i4 / 2 ^ 8)), (2, .i (((n5 + 8) : Nat) : Int))], [], [], 0⟩ (an1 ob4) ?_
          exact joinQ_normal ((i4 / 2 ^ 8), (n5 + 8)) (Le.mk rfl rfl ⟨.refl _, .refl _, trivial⟩ trivial) h
        ·
          replace h := ite_fb hc3 h
          refine AWp.skip ?_
          exact joinQ_normal (i4, n5) (Le.mk rfl rfl ⟨.refl _, .refl _, trivial⟩ trivial) h
      ·
        rintro ⟨i6, n7⟩ h
        replace h := (congrFun hK3 _).symm.trans h
        refine AWp.seq ?_
        obtain ⟨ob5, ob6, ob7p, h⟩ := ck3 h
        have ob7 : -9223372036854775808 ≤ (((cs9.getD ((i6).toNat) 0).toNat : Nat) : Int) ∧ (((cs9.getD ((i6).toNat) 0).toNat : Nat) : Int) ≤ 9223372036854775807 := ⟨by omega, ob7p⟩
        obtain ⟨ob8p, h⟩ := chk_some h
        have ob8 : -9223372036854775808 ≤ ((n7 : Int) + (((cs9.getD ((i6).toNat) 0).toNat : Nat) : Int)) ∧ ((n7 : Int) + (((cs9.getD ((i6).toNat) 0).toNat : Nat) : Int)) ≤ 9223372036854775807 := ⟨by omega, ob8p⟩
        refine q1rr [] [] ⟨25, [(2, .i (((n7 + (cs9.getD ((i6).toNat) 0).toNat) : Nat) : Int))], [], [], 0⟩ (an4 ob5 ob6 ob7 ob8) ?_
        refine thenQ_normal ?_
        have hret := Option.some.inj h
        subst hret
        refine AWp.le (Le.mk (s' := ⟨25, [(2, .i (((n7 + (cs9.getD ((i6).toNat) 0).toNat) : Nat) : Int))], [], [], 0⟩) rfl rfl ⟨.refl _, trivial⟩ trivial) ?_
        refine AWp.ret ?_
        exact bodyQ_ret _ rfl ⟨rfl, rfl⟩ rfl
def f55 (x1 : Int) : Option Int :=
  (f79 x1).bind fun (r2 : Int) =>
  some r2
set_option maxRecDepth 100000 in
theorem f55_ok  (x1 : Int) (r : Int) (h : f55 x1 = some r)  : Spec1 Tryz.prog 55 [] [] [] [.int .u64 x1] (.int .i64 r) [] := by
  unfold f55 at h
  refine Spec1.body 0 _ _ Tryz.func55 rfl Tryz.ntmps55 rfl rfl ?_
  refine q1rq [] [] ⟨8, [(0, .int .u64 x1)], [], [], 0⟩ trivial ?_
  refine AWp.seq ?_
  refine AWp.cond (b := false) (by kernel_rfl) (fun hc => ?_) (fun hc => ?_)
  ·
    cases hc
  ·
    clear hc
    refine AWp.skip ?_
    refine thenQ_normal ?_
    refine AWp.seq ?_
    obtain ⟨r2, hr2, h⟩ := bind_ok h
    refine q1rr [] [(1, ⟨[.int .u64 x1], [], [], [], .i r2, [], [], []⟩)] ⟨8, [(2, .i r2)], [], [], 0⟩ (an1 (cpT (f79_ok _ _ hr2))) ?_
    refine thenQ_normal ?_
    have hret := Option.some.inj h
    subst hret
    refine AWp.le (Le.mk (s' := ⟨8, [(2, .i r2)], [], [], 0⟩) rfl rfl ⟨.refl _, trivial⟩ trivial) ?_
    refine AWp.ret ?_
    exact bodyQ_ret _ rfl ⟨rfl, rfl⟩ rfl
def f60 (x1 : Int) : Option Bool :=
  some (x1 != x1)
set_option maxRecDepth 100000 in
theorem f60_ok  (x1 : Int) (r : Bool) (h : f60 x1 = some r)  : Spec1 Tryz.prog 60 [] [] [] [.int .i64 x1] (.bool r) [] := by
  unfold f60 at h
  refine Spec1.body 0 _ _ Tryz.func60 rfl Tryz.ntmps60 rfl rfl ?_
  refine q1rq [] [] ⟨6, [(0, .i x1)], [], [], 0⟩ trivial ?_
  refine q1rq [] [] ⟨6, [(2, .bool (x1 != x1))], [], [], 0⟩ trivial ?_
  have hret := Option.some.inj h
  subst hret
  refine AWp.le (Le.mk (s' := ⟨6, [(2, .bool (x1 != x1))], [], [], 0⟩) rfl rfl ⟨.refl _, trivial⟩ trivial) ?_
  refine AWp.ret ?_
  exact bodyQ_ret _ rfl ⟨rfl, rfl⟩ rfl
def f75 (x1 : Int) (x2 : Int) : Option Bool :=
  (f60 x1).bind fun (r3 : Bool) =>
  optc (r3 == true) (f60 x2) fun (r4 : Bool) =>
  some ((r3 && (!r4)) || (decide (x1 < x2)))
set_option maxRecDepth 100000 in
theorem f75_ok  (x1 : Int) (x2 : Int) (r : Bool) (h : f75 x1 x2 = some r)  : Spec1 Tryz.prog 75 [] [] [] [.int .i64 x1, .int .i64 x2] (.bool r) [] := by
  unfold f75 at h
  refine Spec1.body 0 _ _ Tryz.func75 rfl Tryz.ntmps75 rfl rfl ?_
  refine q1rq [] [] ⟨17, [(0, .i x1), (1, .i x2)], [], [], 0⟩ trivial ?_
  refine AWp.seq ?_
  obtain ⟨r3, hr3, h⟩ := bind_ok h
  obtain ⟨r4, hr4, h⟩ := optc_some h
  have ob0 := idA ((r3 == true) = true)
  have ob1 := idA ((r3 == true) = true)
  have ob2 := bqA r3 true
  have ob3 := idA (((r3 && (!r4)) == false) = true)
  have ob4 := idA (((r3 && (!r4)) == false) = true)
  have ob5 := bqA (r3 && (!r4)) false
  refine q1rr [] [(1, ⟨[.i x1], [], [], [], .bool r3, [], [], []⟩), (4, ⟨[.i x2], [], [], [], .bool r4, [], [], []⟩)] ⟨17, [(4, .bool ((r3 && (!r4)) || (decide (x1 < x2))))], [], [], 0⟩ (an6 (cpT (f60_ok _ _ hr3)) (And.intro (cpC fun hc => (f60_ok _ _ (hr4 hc))) (an1 ob0)) (an1 ob1) ob2 (an2 ob3 ob4) ob5) ?_
  refine thenQ_normal ?_
  have hret := Option.some.inj h
  subst hret
  refine AWp.le (Le.mk (s' := ⟨17, [(4, .bool ((r3 && (!r4)) || (decide (x1 < x2))))], [], [], 0⟩) rfl rfl ⟨.refl _, trivial⟩ trivial) ?_
  refine AWp.ret ?_
  exact bodyQ_ret _ rfl ⟨rfl, rfl⟩ rfl
def f69_L1 (x1 : Int) (K1 : (List Int) → Option (List Int)) : Nat → (Int × List Int) → Option (List Int)
  | 0, _ => none
  | k + 1, (i6, l7) =>
    optc ((decide (i6 > x1)) == true) (f75 (l7.getD ((i6).toNat) 0) (l7.getD (((i6 - (1 : Int))).toNat) 0)) fun (r8 : Bool) =>
    chk (((decide (i6 > x1)) == true) = true → 0 ≤ i6 ∧ i6 < (((l7).length : Nat) : Int)) <|
    chk (((decide (i6 > x1)) == true) = true → ((i6).toNat) < (l7).length) <|
    chk (((decide (i6 > x1)) == true) = true → -9223372036854775808 ≤ (i6 - (1 : Int)) ∧ (i6 - (1 : Int)) ≤ 9223372036854775807) <|
    chk (((decide (i6 > x1)) == true) = true → 0 ≤ (i6 - (1 : Int)) ∧ (i6 - (1 : Int)) < (((l7).length : Nat) : Int)) <|
    chk (((decide (i6 > x1)) == true) = true → (((i6 - (1 : Int))).toNat) < (l7).length) <|
    if ((decide (i6 > x1)) && r8) then (
    chk (-9223372036854775808 ≤ (i6 - (1 : Int)) ∧ (i6 - (1 : Int)) ≤ 9223372036854775807) <|
    chk (-9223372036854775808 ≤ (i6 - (1 : Int)) ∧ (i6 - (1 : Int)) ≤ 9223372036854775807) <|
    chk (0 ≤ (i6 - (1 : Int)) ∧ (i6 - (1 : Int)) < (((l7).length : Nat) : Int)) <|
    chk ((((i6 - (1 : Int))).toNat) < (l7).length) <|
    chk (0 ≤ i6 ∧ i6 < (((l7).length : Nat) : Int)) <|
    chk (((i6).toNat) < (l7).length) <|
    chk (0 ≤ i6 ∧ i6 < (((l7).length : Nat) : Int)) <|
    chk (((i6).toNat) < (l7).length) <|
    chk (0 ≤ (i6 - (1 : Int)) ∧ (i6 - (1 : Int)) < (((l7).length : Nat) : Int)) <|
    chk ((((i6 - (1 : Int))).toNat) < (l7).length) <|
    chk (-9223372036854775808 ≤ (i6 - (1 : Int)) ∧ (i6 - (1 : Int)) ≤ 9223372036854775807) <|
    (f69_L1 x1 K1 k) ((i6 - (1 : Int)), ((l7.set ((i6).toNat) (l7.getD (((i6 - (1 : Int))).toNat) 0)).set (((i6 - (1 : Int))).toNat) (l7.getD ((i6).toNat) 0)))
    ) else (
    K1 l7
    )
def f69_L0 (x1 : Int) (x2 : Int) : Nat → (Int × List Int) → Option (List Int)
  | 0, _ => none
  | k + 1, (i4, l5) =>
    if (decide (i4 < x2)) then (
    jn (fun (l9 : List Int) =>
    chk (-9223372036854775808 ≤ (i4 + (1 : Int)) ∧ (i4 + (1 : Int)) ≤ 9223372036854775807) <|
    (f69_L0 x1 x2 k) ((i4 + (1 : Int)), l9)
    ) fun (K1 : (List Int) → Option (List Int)) =>
    f69_L1 x1 K1 FUEL (i4, l5)
    ) else (
    some l5
    )
abbrev f69z0 (i6 : Int) (x1 : Int) := ((decide (i6 > x1)) == true)
abbrev f69z1 (l7 : List Int) (i6 : Int) : Heap := [(2000, bL 3 1 eI 0 ((l7.set ((i6).toNat) (l7.getD (((i6 - (1 : Int))).toNat) 0)).set (((i6 - (1 : Int))).toNat) (l7.getD ((i6).toNat) 0)))]
abbrev f69z2 (x1 : Int) (x2 : Int) (i4 : Int) (i6 : Int) : List (Nat × V) := [(0, .own 2000), (1, .int .i64 x1), (2, .int .i64 x2), (6, .int .i64 i4), (7, .int .i64 i6)]
def f69 (x1 : Int) (x2 : Int) (x3 : List Int) : Option (List Int) :=
  chk (-9223372036854775808 ≤ (x1 + (1 : Int)) ∧ (x1 + (1 : Int)) ≤ 9223372036854775807) <|
  f69_L0 x1 x2 FUEL ((x1 + (1 : Int)), x3)
set_option maxRecDepth 100000 in
theorem f69_ok  (x1 : Int) (x2 : Int) (x3 : List Int) (r : List Int) (h : f69 x1 x2 x3 = some r)  : Spec1 Tryz.prog 69 [] [2000] [(2000, bL 3 1 eI 0 x3)] [.own 2000, .int .i64 x1, .int .i64 x2] (.tup []) [(2000, bL 3 1 eI 0 r)] := by
  unfold f69 at h
  refine Spec1.body 0 _ _ Tryz.func69 rfl Tryz.ntmps69 rfl rfl ?_
  refine AWp.seq ?_
  obtain ⟨ob0, h⟩ := chk_some h
  refine q1rr [] [] ⟨49, [(0, .own 2000), (1, .i x1), (2, .i x2), (6, .i (x1 + (1 : Int)))], [(2000, q1bI_3 x3)], [2000], 0⟩ (an1 ob0) ?_
  refine thenQ_normal ?_
  refine AWp.block ?_
  refine AWp.loopL (α := Nat × (Int × List Int)) (fun x => match x with | (_, i4, l5) => ⟨49, [(0, .own 2000), (1, .i x1), (2, .i x2), (6, .i i4)], [(2000, q1bI_3 l5)], [2000], 0⟩) (fun x => f69_L0 x1 x2 x.1 x.2 = some r) (fun x => x.1) (FUEL, (x1 + (1 : Int)), x3) (Le.mk (s' := ⟨49, [(0, .own 2000), (1, .i x1), (2, .i x2), (6, .i (x1 + (1 : Int)))], [(2000, q1bI_3 x3)], [2000], 0⟩) rfl rfl ⟨.refl _, .refl _, .refl _, .refl _, trivial⟩ ⟨⟨_, rfl, .refl _⟩, trivial⟩) h ?_
  rintro ⟨k0, i4, l5⟩ h
  cases k0 with
  | zero => exact nomatch (show (none : Option (List Int)) = some r from h)
  | succ k0 =>
  obtain ⟨C0, hC0⟩ : ∃ C, C = f69_L0 x1 x2 k0 := ⟨_, rfl⟩
  replace h := (f69_L0.eq_2 ..).symm.trans h
  try rw [← hC0] at h
  refine AWp.seq ?_
  refine q1rq [] [] ⟨49, [(0, .own 2000), (1, .i x1), (2, .i x2), (6, .i i4), (12, .bool (decide (i4 < x2)))], [(2000, q1bI_3 l5)], [2000], 0⟩ trivial ?_
  refine AWp.cond (b := (decide (i4 < x2))) (by kernel_rfl) (fun hc1 => ?_) (fun hc1 => ?_)
  ·
    replace h := ite_tb hc1 h
    refine AWp.skip ?_
    refine thenQ_normal ?_
    obtain ⟨K1, hK1, h⟩ := jn_some h
    refine AWp.join (α := List Int) (fun (l9 : List Int) => ⟨49, [(0, .own 2000), (1, .i x1), (2, .i x2), (6, .i i4)], [(2000, q1bI_3 l9)], [2000], 0⟩) (fun x => K1 x = some r) ?_ ?_
    ·
      refine AWp.block ?_
      refine q1rq [] [] ⟨49, [(0, .own 2000), (1, .i x1), (2, .i x2), (6, .i i4), (7, .i i4)], [(2000, q1bI_3 l5)], [2000], 0⟩ trivial ?_
      refine AWp.block ?_
      refine AWp.loopL (α := Nat × (Int × List Int)) (fun x => match x with | (_, i6, l7) => ⟨49, (f69z2 x1 x2 i4 i6), [(2000, q1bI_3 l7)], [2000], 0⟩) (fun x => f69_L1 x1 K1 x.1 x.2 = some r) (fun x => x.1) (FUEL, i4, l5) (Le.mk (s' := ⟨49, [(0, .own 2000), (1, .i x1), (2, .i x2), (6, .i i4), (7, .i i4)], [(2000, q1bI_3 l5)], [2000], 0⟩) rfl rfl ⟨.refl _, .refl _, .refl _, .refl _, .refl _, trivial⟩ ⟨⟨_, rfl, .refl _⟩, trivial⟩) h ?_
      rintro ⟨k1, i6, l7⟩ h
      cases k1 with
      | zero => exact nomatch (show (none : Option (List Int)) = some r from h)
      | succ k1 =>
      obtain ⟨C1, hC1⟩ : ∃ C, C = f69_L1 x1 K1 k1 := ⟨_, rfl⟩
      replace h := (f69_L1.eq_2 ..).symm.trans h
      try rw [← hC1] at h
      refine AWp.seq ?_
      refine AWp.seq ?_
      obtain ⟨r8, hr8, h⟩ := optc_some h
      obtain ⟨ob1, h⟩ := chk_some h
      have ob2 := idA ((f69z0 i6 x1) = true)
      have ob3 := idA ((f69z0 i6 x1) = true)
      obtain ⟨ob4, h⟩ := chk_some h
      have ob5 := idA ((f69z0 i6 x1) = true)
      obtain ⟨ob6, h⟩ := chk_some h
      have ob7 := idA ((f69z0 i6 x1) = true)
      obtain ⟨ob8, h⟩ := chk_some h
      have ob9 := idA ((f69z0 i6 x1) = true)
      have ob10 := idA ((f69z0 i6 x1) = true)
      obtain ⟨ob11, h⟩ := chk_some h
      have ob12 := idA ((f69z0 i6 x1) = true)
      have ob13 := idA ((f69z0 i6 x1) = true)
      have ob14 := idA ((f69z0 i6 x1) = true)
      have ob15 : true = true → (decide (i6 > x1)) = true → (f69z0 i6 x1) = true := fun _ h => beq_iff_eq.2 h
      refine q1rr [] [(13, ⟨[.i (l7.getD ((i6).toNat) 0), .i (l7.getD (((i6 - (1 : Int))).toNat) 0)], [], [], [], .bool r8, [], [], []⟩)] ⟨49, [(0, .own 2000), (1, .i x1), (2, .i x2), (6, .i i4), (7, .i i6), (30, .bool ((decide (i6 > x1)) && r8))], [(2000, q1bI_3 l7)], [2000], 0⟩ (ac6 (And.intro ob1 (an2 ob2 ob3)) (And.intro ob4 (an1 ob5)) (And.intro ob6 (an1 ob7)) (And.intro ob8 (an2 ob9 ob10)) (And.intro ob11 (an1 ob12)) (And.intro (cpC fun hc => (f75_ok _ _ _ (hr8 hc))) (an2 ob13 ob14)) (an1 ob15)) ?_
      refine thenQ_normal ?_
      refine AWp.cond (b := ((decide (i6 > x1)) && r8)) (by kernel_rfl) (fun hc2 => ?_) (fun hc2 => ?_)
      ·
        replace h := ite_tb hc2 h
        refine AWp.skip ?_
        refine thenQ_normal ?_
        refine AWp.seq ?_
        refine AWp.block ?_
        obtain ⟨ob16, ob17, ob18, ob19, ob20, h⟩ := ck5 h
        obtain ⟨ob21, ob22, ob23, ob24, ob25, h⟩ := ck5 h
        refine q1rr [] [] ⟨49, (f69z2 x1 x2 i4 i6), [(2000, .rows 3 1 (l7).length (updF (updF (encF eI 0 l7) ((i6).toNat) 0 [.i (l7.getD (((i6 - (1 : Int))).toNat) 0)]) (((i6 - (1 : Int))).toNat) 0 [.i (l7.getD ((i6).toNat) 0)]))], [2000], 0⟩ (ac6 ob16 ob17 ob18 ob19 ob20 ob21 (an4 ob22 ob23 ob24 ob25)) ?_
        refine blockQ_normal ?_
        refine thenQ_normal ?_
        refine AWp.le (Le.mk (s' := ⟨49, (f69z2 x1 x2 i4 i6), (f69z1 l7 i6), [2000], 0⟩) rfl rfl ⟨.refl _, .refl _, .refl _, .refl _, .refl _, trivial⟩ ⟨⟨_, rfl, (BLe.of (RL.set (l7.getD ((i6).toNat) 0) (RL.set (l7.getD (((i6 - (1 : Int))).toNat) 0) (RL.self _) (by intro j hj; match j, hj with | 0, _ => rfl)) (by intro j hj; match j, hj with | 0, _ => rfl)))⟩, trivial⟩) ?_
        obtain ⟨ob26, h⟩ := chk_some h
        refine q1rr [] [] ⟨49, [(0, .own 2000), (1, .i x1), (2, .i x2), (6, .i i4), (7, .i (i6 - (1 : Int)))], (f69z1 l7 i6), [2000], 0⟩ (an1 ob26) ?_
        rw [hC1] at h
        exact loopQ_normal (_, (i6 - (1 : Int)), ((l7.set ((i6).toNat) (l7.getD (((i6 - (1 : Int))).toNat) 0)).set (((i6 - (1 : Int))).toNat) (l7.getD ((i6).toNat) 0))) (Le.mk rfl rfl ⟨.refl _, .refl _, .refl _, .refl _, .refl _, trivial⟩ ⟨⟨_, rfl, .refl _⟩, trivial⟩) h (Nat.lt_succ_self _)
      ·
        replace h := ite_fb hc2 h
        refine AWp.exit ?_
        refine thenQ_exit ?_
        refine thenQ_exit ?_
        refine blockQ_same ?_
        refine blockQ_normal ?_
        exact joinQ_normal (l7) (Le.mk rfl rfl ⟨.refl _, .refl _, .refl _, .refl _, trivial⟩ ⟨⟨_, rfl, .refl _⟩, trivial⟩) h
    ·
      rintro l9 h
      replace h := (congrFun hK1 _).symm.trans h
      obtain ⟨ob27, h⟩ := chk_some h
      refine q1rr [] [] ⟨49, [(0, .own 2000), (1, .i x1), (2, .i x2), (6, .i (i4 + (1 : Int)))], [(2000, q1bI_3 l9)], [2000], 0⟩ (an1 ob27) ?_
      rw [hC0] at h
      exact loopQ_normal (_, (i4 + (1 : Int)), l9) (Le.mk rfl rfl ⟨.refl _, .refl _, .refl _, .refl _, trivial⟩ ⟨⟨_, rfl, .refl _⟩, trivial⟩) h (Nat.lt_succ_self _)
  ·
    replace h := ite_fb hc1 h
    refine AWp.exit ?_
    refine thenQ_exit ?_
    refine thenQ_exit ?_
    refine blockQ_same ?_
    have hret := Option.some.inj h
    subst hret
    exact bodyQ_le (Le.mk (s' := ⟨49, [], [(2000, q1bI_3 l5)], [2000], 0⟩) rfl rfl trivial ⟨⟨_, rfl, .refl _⟩, trivial⟩) (bodyQ_normal _ rfl ⟨rfl, rfl⟩ rfl)
def f54_L0 (x1 : Int) (x2 : Int) (x3 : Int) (x4 : List Int) : Nat → Unit → Option (List Int)
  | 0, _ => none
  | k + 1, _ =>
    chk (-9223372036854775808 ≤ (x2 - x1) ∧ (x2 - x1) ≤ 9223372036854775807) <|
    if (decide ((x2 - x1) ≤ (12 : Int))) then (
    (f69 x1 x2 x4).bind fun (r5 : List Int) =>
    some r5
    ) else (
    if (x3 == (0 : Int)) then (
    none
    ) else (
    if (!true) then (
    none
    ) else (
    none
    )
    )
    )
abbrev f54z0 (x1 : Int) (x2 : Int) (x3 : Int) : List (Nat × V) := [(0, .own 2000), (1, .int .i64 x1), (2, .int .i64 x2), (3, .int .i64 x3), (8, .bool true), (9, .bool true)]
abbrev f54z1 (x4 : List Int) : Heap := [(2000, bL 3 1 eI 0 x4)]
def f54 (x1 : Int) (x2 : Int) (x3 : Int) (x4 : List Int) : Option (List Int) :=
  f54_L0 x1 x2 x3 x4 FUEL ()
set_option maxRecDepth 100000 in
theorem f54_ok  (x1 : Int) (x2 : Int) (x3 : Int) (x4 : List Int) (r : List Int) (h : f54 x1 x2 x3 x4 = some r)  : Spec1 Tryz.prog 54 [] [2000] [(2000, bL 3 1 eI 0 x4)] [.own 2000, .int .i64 x1, .int .i64 x2, .int .i64 x3] (.tup []) [(2000, bL 3 1 eI 0 r)] := by
  unfold f54 at h
  refine Spec1.body 0 _ _ Tryz.func54 rfl Tryz.ntmps54 rfl rfl ?_
  refine q1rq [] [] ⟨134, [(0, .own 2000), (1, .i x1), (2, .i x2), (3, .i x3), (8, .bool true)], (f54z1 x4), [2000], 0⟩ trivial ?_
  refine q1rq [] [] ⟨134, (f54z0 x1 x2 x3), (f54z1 x4), [2000], 0⟩ trivial ?_
  refine AWp.block ?_
  refine AWp.loopL (α := Nat × Unit) (fun x => match x with | (_, ()) => ⟨134, (f54z0 x1 x2 x3), (f54z1 x4), [2000], 0⟩) (fun x => f54_L0 x1 x2 x3 x4 x.1 x.2 = some r) (fun x => x.1) (FUEL, ()) (Le.mk (s' := ⟨134, (f54z0 x1 x2 x3), (f54z1 x4), [2000], 0⟩) rfl rfl ⟨.refl _, .refl _, .refl _, .refl _, .refl _, .refl _, trivial⟩ ⟨⟨_, rfl, .refl _⟩, trivial⟩) h ?_
  rintro ⟨k0, ⟨⟩⟩ h
  cases k0 with
  | zero => exact nomatch (show (none : Option (List Int)) = some r from h)
  | succ k0 =>
  obtain ⟨C0, hC0⟩ : ∃ C, C = f54_L0 x1 x2 x3 x4 k0 := ⟨_, rfl⟩
  replace h := (f54_L0.eq_2 ..).symm.trans h
  try rw [← hC0] at h
  refine AWp.block ?_
  refine AWp.seq ?_
  obtain ⟨ob0, h⟩ := chk_some h
  refine q1rr [] [] ⟨134, [(0, .own 2000), (1, .i x1), (2, .i x2), (3, .i x3), (8, .bool true), (9, .bool true), (10, .i (x2 - x1))], (f54z1 x4), [2000], 0⟩ (an1 ob0) ?_
  refine thenQ_normal ?_
  refine AWp.seq ?_
  refine q1rq [] [] ⟨134, [(0, .own 2000), (1, .i x1), (2, .i x2), (3, .i x3), (8, .bool true), (9, .bool true), (10, .i (x2 - x1)), (23, .bool (decide ((x2 - x1) ≤ (12 : Int))))], (f54z1 x4), [2000], 0⟩ trivial ?_
  refine AWp.cond (b := (decide ((x2 - x1) ≤ (12 : Int)))) (by kernel_rfl) (fun hc1 => ?_) (fun hc1 => ?_)
  ·
    replace h := ite_tb hc1 h
    refine AWp.seq ?_
    obtain ⟨r5, hr5, h⟩ := bind_ok h
    refine q1rr [] [(3, ⟨[.own 2000, .i x1, .i x2], [2000], [2000], [(2000, q1bI_3 r5)], .tup [], [], [], []⟩)] ⟨134, [], [(2000, q1bI_3 r5)], [2000], 0⟩ (an1 (cpT (f69_ok _ _ _ _ hr5))) ?_
    refine thenQ_normal ?_
    have hret := Option.some.inj h
    subst hret
    refine AWp.le (Le.mk (s' := ⟨134, [], [(2000, q1bI_3 r5)], [2000], 0⟩) rfl rfl trivial ⟨⟨_, rfl, .refl _⟩, trivial⟩) ?_
    refine AWp.ret ?_
    refine thenQ_ret ?_
    refine blockQ_ret ?_
    refine thenQ_ret ?_
    refine blockQ_ret ?_
    exact bodyQ_ret _ rfl ⟨rfl, rfl⟩ rfl
  ·
    replace h := ite_fb hc1 h
    refine AWp.skip ?_
    refine thenQ_normal ?_
    refine AWp.seq ?_
    refine q1rq [] [] ⟨134, [(0, .own 2000), (1, .i x1), (2, .i x2), (3, .i x3), (8, .bool true), (9, .bool true), (10, .i (x2 - x1)), (29, .bool (x3 == (0 : Int)))], (f54z1 x4), [2000], 0⟩ trivial ?_
    refine AWp.cond (b := (x3 == (0 : Int))) (by kernel_rfl) (fun hc2 => ?_) (fun hc2 => ?_)
    ·
      replace h := ite_tb hc2 h
      refine AWp.seq ?_
      exact nomatch (show (none : Option (List Int)) = some r from h)
    ·
      replace h := ite_fb hc2 h
      refine AWp.skip ?_
      refine thenQ_normal ?_
      refine AWp.seq ?_
      refine q1rq [] [] ⟨134, [(0, .own 2000), (1, .i x1), (2, .i x2), (3, .i x3), (8, .bool true), (9, .bool true), (10, .i (x2 - x1)), (35, .bool (!true))], (f54z1 x4), [2000], 0⟩ trivial ?_
      refine AWp.cond (b := (!true)) (by kernel_rfl) (fun hc3 => ?_) (fun hc3 => ?_)
      ·
        replace h := ite_tb hc3 h
        refine AWp.seq ?_
        exact nomatch (show (none : Option (List Int)) = some r from h)
      ·
        replace h := ite_fb hc3 h
        refine AWp.skip ?_
        refine thenQ_normal ?_
        refine AWp.seq ?_
        exact nomatch (show (none : Option (List Int)) = some r from h)
def f37 (x1 : List Int) : Option (List Int) :=
  (f55 (((x1).length : Nat) : Int)).bind fun (r2 : Int) =>
  (f54 (0 : Int) (((x1).length : Nat) : Int) r2 x1).bind fun (r3 : List Int) =>
  chk ((((x1).length : Nat) : Int) ≤ 18446744073709551615) <|
  some r3
set_option maxRecDepth 100000 in
theorem f37_ok  (x1 : List Int) (r : List Int) (h : f37 x1 = some r)  : Spec1 Tryz.prog 37 [] [2000] [(2000, bL 3 1 eI 0 x1)] [.own 2000] (.tup []) [(2000, bL 3 1 eI 0 r)] := by
  unfold f37 at h
  refine Spec1.body 0 _ _ Tryz.func37 rfl Tryz.ntmps37 rfl rfl ?_
  refine q1rq [] [] ⟨11, [(0, .own 2000), (2, .i (lZ x1))], [(2000, q1bI_3 x1)], [2000], 0⟩ trivial ?_
  obtain ⟨r2, hr2, h⟩ := bind_ok h
  obtain ⟨r3, hr3, h⟩ := bind_ok h
  obtain ⟨ob0p, h⟩ := chk_some h
  have ob0 : 0 ≤ (((x1).length : Nat) : Int) ∧ (((x1).length : Nat) : Int) ≤ 18446744073709551615 := ⟨by omega, ob0p⟩
  refine q1rr [] [(4, ⟨[.int .u64 (lZ x1)], [], [], [], .i r2, [], [], []⟩), (5, ⟨[.own 2000, .i (0 : Int), .i (lZ x1), .i r2], [2000], [2000], [(2000, q1bI_3 r3)], .tup [], [], [], []⟩)] ⟨11, [], [(2000, q1bI_3 r3)], [2000], 0⟩ (an3 ob0 (cpT (f55_ok _ _ hr2)) (cpT (f54_ok _ _ _ _ _ hr3))) ?_
  have hret := Option.some.inj h
  subst hret
  exact bodyQ_le (Le.mk (s' := ⟨11, [], [(2000, q1bI_3 r3)], [2000], 0⟩) rfl rfl trivial ⟨⟨_, rfl, .refl _⟩, trivial⟩) (bodyQ_normal _ rfl ⟨rfl, rfl⟩ rfl)
def f38_L0 (x1 : List (Int × Int × Int × List UInt8 × List UInt8)) (x2 : Int) (K1 : (List (Int × Int × Int × List UInt8 × List UInt8)) → Option (List (Int × Int × Int × List UInt8 × List UInt8))) : Nat → (Nat × (List (Int × Int × Int × List UInt8 × List UInt8))) → Option (List (Int × Int × Int × List UInt8 × List UInt8))
  | 0, _ => none
  | k + 1, (n3, l4) =>
    if (decide ((n3 : Int) < (((x1).length : Nat) : Int))) then (
    jn (fun (l5 : List (Int × Int × Int × List UInt8 × List UInt8)) =>
    chk (((n3 : Int) + (1 : Int)) ≤ 9223372036854775807) <|
    (f38_L0 x1 x2 K1 k) ((n3 + 1), l5)
    ) fun (K2 : (List (Int × Int × Int × List UInt8 × List UInt8)) → Option (List (Int × Int × Int × List UInt8 × List UInt8))) =>
    chk ((n3 : Int) < (((x1).length : Nat) : Int)) <|
    if (decide ((x1.getD n3 (default : Int × Int × Int × List UInt8 × List UInt8)).2.1 > x2)) then (
    K2 l4
    ) else (
    jn (fun ((i6, s7) : Int × List UInt8) =>
    chk (((l4).length + 1) * 56 ≤ 140737488355328) <|
    K2 (l4 ++ [((x1.getD n3 (default : Int × Int × Int × List UInt8 × List UInt8)).1, (x1.getD n3 (default : Int × Int × Int × List UInt8 × List UInt8)).2.1, i6, (x1.getD n3 (default : Int × Int × Int × List UInt8 × List UInt8)).2.2.2.1, s7)])
    ) fun (K3 : (Int × List UInt8) → Option (List (Int × Int × Int × List UInt8 × List UInt8))) =>
    if (decide ((x1.getD n3 (default : Int × Int × Int × List UInt8 × List UInt8)).2.2.1 > x2)) then (
    K3 ((-1 : Int), [])
    ) else (
    K3 ((x1.getD n3 (default : Int × Int × Int × List UInt8 × List UInt8)).2.2.1, (x1.getD n3 (default : Int × Int × Int × List UInt8 × List UInt8)).2.2.2.2)
    )
    )
    ) else (
    K1 l4
    )
abbrev f38z0 (x1 : List (Int × Int × Int × List UInt8 × List UInt8)) (n3 : Nat) := (x1.getD n3 (default : Int × Int × Int × List UInt8 × List UInt8))
abbrev f38z1 (x2 : Int) (x1 : List (Int × Int × Int × List UInt8 × List UInt8)) (n3 : Nat) : List (Nat × V) := [(1, .int .i64 x2), (5, .own 5005), (8, vL 5 eT31 (default : Int × Int × Int × List UInt8 × List UInt8) x1), (9, .int .i64 (((x1).length : Nat) : Int)), (10, .int .i64 (n3 : Int))]
abbrev f38z2 (x2 : Int) (x1 : List (Int × Int × Int × List UInt8 × List UInt8)) (n3 : Nat) : List (Nat × V) := [(1, .int .i64 x2), (5, .own 5005), (7, .ptr 7 0), (8, vL 5 eT31 (default : Int × Int × Int × List UInt8 × List UInt8) x1), (9, .int .i64 (((x1).length : Nat) : Int)), (10, .int .i64 (n3 : Int))]
abbrev f38z3 (x1 : List (Int × Int × Int × List UInt8 × List UInt8)) (n3 : Nat) (l4 : List (Int × Int × Int × List UInt8 × List UInt8)) : Heap := [(7, .cells 31 [.int .i64 (f38z0 x1 n3).1, .int .i64 (f38z0 x1 n3).2.1, .int .i64 (f38z0 x1 n3).2.2.1, .str (f38z0 x1 n3).2.2.2.1, .str (f38z0 x1 n3).2.2.2.2]), (5005, bL 31 5 eT31 (default : Int × Int × Int × List UInt8 × List UInt8) l4)]
abbrev f38z4 (l4 : List (Int × Int × Int × List UInt8 × List UInt8)) : Heap := [(5005, bL 31 5 eT31 (default : Int × Int × Int × List UInt8 × List UInt8) l4)]
abbrev f38z5 := (Int × Int × Int × List UInt8 × List UInt8)
abbrev f38z6 (l8 : List (Int × Int × Int × List UInt8 × List UInt8)) : Heap := [(5005, bL 31 5 eT31 (default : Int × Int × Int × List UInt8 × List UInt8) l8)]
abbrev f38z7 (l5 : List (Int × Int × Int × List UInt8 × List UInt8)) : Heap := [(5005, bL 31 5 eT31 (default : Int × Int × Int × List UInt8 × List UInt8) l5)]
def f38 (x1 : List (Int × Int × Int × List UInt8 × List UInt8)) (x2 : Int) : Option (List (Int × Int × Int × List UInt8 × List UInt8)) :=
  jn (fun (l8 : List (Int × Int × Int × List UInt8 × List UInt8)) =>
  some l8
  ) fun (K1 : (List (Int × Int × Int × List UInt8 × List UInt8)) → Option (List (Int × Int × Int × List UInt8 × List UInt8))) =>
  f38_L0 x1 x2 K1 FUEL (0, [])
set_option maxRecDepth 100000 in
theorem f38_ok  (x1 : List (Int × Int × Int × List UInt8 × List UInt8)) (x2 : Int) (r : List (Int × Int × Int × List UInt8 × List UInt8)) (h : f38 x1 x2 = some r)  : Spec1 Tryz.prog 38 [] [] [] [vL 5 eT31 (default : Int × Int × Int × List UInt8 × List UInt8) x1, .int .i64 x2] (.own 3000) [(3000, bL 31 5 eT31 (default : Int × Int × Int × List UInt8 × List UInt8) r)] := by
  unfold f38 at h
  refine Spec1.body 0 _ _ Tryz.func38 rfl Tryz.ntmps38 rfl rfl ?_
  refine q1rq [] [] ⟨30, [(0, q1aT31 x1), (1, .i x2)], [], [], 0⟩ trivial ?_
  refine q1rq [] [] ⟨30, [(0, q1aT31 x1), (1, .i x2), (5, .nils)], [], [], 0⟩ trivial ?_
  obtain ⟨K1, hK1, h⟩ := jn_some h
  refine AWp.join (α := List (f38z5)) (fun (l8 : List (f38z5)) => ⟨30, [(5, .own 5005)], (f38z6 l8), [], 0⟩) (fun x => K1 x = some r) ?_ ?_
  ·
    refine q1rq [] [] ⟨30, [(1, .i x2), (5, .nils), (8, q1aT31 x1), (9, .i (lZ x1)), (10, .i (0 : Int))], [], [], 0⟩ trivial ?_
    refine AWp.block ?_
    refine AWp.loopL (α := Nat × (Nat × (List (f38z5)))) (fun x => match x with | (_, n3, l4) => ⟨30, (f38z1 x2 x1 n3), (f38z4 l4), [], 0⟩) (fun x => f38_L0 x1 x2 K1 x.1 x.2 = some r) (fun x => x.1) (FUEL, 0, []) (Le.trans (Le.trans (Le.nilOwn 5 5005 31 5 (encF eT31 q1dT31 []) rfl rfl (Nat.le_of_ble_eq_true rfl)) (Le.mk (s' := ⟨30, [(1, .i x2), (5, .own 5005), (8, q1aT31 x1), (9, .i (lZ x1)), (10, .i (0 : Int))], [(5005, q1bT31_31 [])], [], 0⟩) rfl rfl ⟨.refl _, .refl _, .refl _, .refl _, .refl _, trivial⟩ ⟨⟨_, rfl, .refl _⟩, trivial⟩)) (Le.mk (s' := ⟨30, [(1, .i x2), (5, .own 5005), (8, q1aT31 x1), (9, .i (lZ x1)), (10, .i (0 : Int))], [(5005, q1bT31_31 [])], [], 0⟩) rfl rfl ⟨.refl _, .refl _, .refl _, .refl _, .refl _, trivial⟩ ⟨⟨_, rfl, .refl _⟩, trivial⟩)) h ?_
    rintro ⟨k0, n3, l4⟩ h
    cases k0 with
    | zero => exact nomatch (show (none : Option (List (Int × Int × Int × List UInt8 × List UInt8))) = some r from h)
    | succ k0 =>
    obtain ⟨C0, hC0⟩ : ∃ C, C = f38_L0 x1 x2 K1 k0 := ⟨_, rfl⟩
    replace h := (f38_L0.eq_2 ..).symm.trans h
    try rw [← hC0] at h
    refine q1rq [] [] ⟨30, [(1, .i x2), (5, .own 5005), (8, q1aT31 x1), (9, .i (lZ x1)), (10, .i (n3 : Int)), (11, .bool (decide ((n3 : Int) < (lZ x1))))], (f38z4 l4), [], 0⟩ trivial ?_
    refine AWp.seq ?_
    refine AWp.cond (b := (decide ((n3 : Int) < (lZ x1)))) (by kernel_rfl) (fun hc1 => ?_) (fun hc1 => ?_)
    ·
      replace h := ite_tb hc1 h
      refine AWp.skip ?_
      refine thenQ_normal ?_
      obtain ⟨K2, hK2, h⟩ := jn_some h
      refine AWp.join (α := List (f38z5)) (fun (l5 : List (f38z5)) => ⟨30, (f38z1 x2 x1 n3), (f38z7 l5), [], 0⟩) (fun x => K2 x = some r) ?_ ?_
      ·
        refine AWp.block ?_
        refine AWp.seq ?_
        obtain ⟨ob0p, h⟩ := chk_some h
        have ob0 : 0 ≤ (n3 : Int) ∧ (n3 : Int) < (((x1).length : Nat) : Int) := ⟨by omega, ob0p⟩
        refine q1rr [] [] ⟨30, (f38z2 x2 x1 n3), (f38z3 x1 n3 l4), [], 0⟩ (an2 ob0 trivial) ?_
        refine thenQ_normal ?_
        refine AWp.seq ?_
        refine q1rq [] [] ⟨30, [(1, .i x2), (5, .own 5005), (7, .ptr 7 0), (8, q1aT31 x1), (9, .i (lZ x1)), (10, .i (n3 : Int)), (17, .bool (decide ((f38z0 x1 n3).2.1 > x2)))], (f38z3 x1 n3 l4), [], 0⟩ trivial ?_
        refine AWp.cond (b := (decide ((f38z0 x1 n3).2.1 > x2))) (by kernel_rfl) (fun hc2 => ?_) (fun hc2 => ?_)
        ·
          replace h := ite_tb hc2 h
          refine AWp.exit ?_
          refine thenQ_exit ?_
          refine blockQ_same ?_
          exact joinQ_normal (l4) (Le.mk rfl rfl ⟨.refl _, .refl _, .refl _, .refl _, .refl _, trivial⟩ ⟨⟨_, rfl, .refl _⟩, trivial⟩) h
        ·
          replace h := ite_fb hc2 h
          refine AWp.skip ?_
          refine thenQ_normal ?_
          obtain ⟨K3, hK3, h⟩ := jn_some h
          refine AWp.join (α := Int × List UInt8) (fun (x : Int × List UInt8) => match x with | (i6, s7) => ⟨30, (f38z2 x2 x1 n3), [(7, .cells 31 [.i (f38z0 x1 n3).1, .i (f38z0 x1 n3).2.1, .i i6, .str (f38z0 x1 n3).2.2.2.1, .str s7]), (5005, q1bT31_31 l4)], [], 0⟩) (fun x => K3 x = some r) ?_ ?_
          ·
            refine q1rq [] [] ⟨30, [(1, .i x2), (5, .own 5005), (7, .ptr 7 0), (8, q1aT31 x1), (9, .i (lZ x1)), (10, .i (n3 : Int)), (21, .bool (decide ((f38z0 x1 n3).2.2.1 > x2)))], (f38z3 x1 n3 l4), [], 0⟩ trivial ?_
            refine AWp.cond (b := (decide ((f38z0 x1 n3).2.2.1 > x2))) (by kernel_rfl) (fun hc3 => ?_) (fun hc3 => ?_)
            ·
              replace h := ite_tb hc3 h
              refine q1rr [] [] ⟨30, (f38z2 x2 x1 n3), [(7, .cells 31 [.i (f38z0 x1 n3).1, .i (f38z0 x1 n3).2.1, .i (-1 : Int), .str (f38z0 x1 n3).2.2.2.1, .str []]), (5005, q1bT31_31 l4)], [], 0⟩ (an2 trivial trivial) ?_
              exact joinQ_normal ((-1 : Int), []) (Le.mk rfl rfl ⟨.refl _, .refl _, .refl _, .refl _, .refl _, .refl _, trivial⟩ ⟨⟨_, rfl, .refl _⟩, ⟨_, rfl, .refl _⟩, trivial⟩) h
            ·
              replace h := ite_fb hc3 h
              refine AWp.skip ?_
              have eq1 : (x1.getD n3 q1dT31).2.2.1 = ((x1.getD n3 q1dT31).2.2.1) := by first | omega | (simp only [List.length_append, List.length_cons, List.length_nil, List.length_take, List.length_drop] at *; omega) | (simp; done) | (simp_all; done) | (simp_all; omega) | rfl
              have eq2 : (x1.getD n3 q1dT31).2.2.2.2 = ((x1.getD n3 q1dT31).2.2.2.2) := by first | omega | (simp only [List.length_append, List.length_cons, List.length_nil, List.length_take, List.length_drop] at *; omega) | (simp; done) | (simp_all; done) | (simp_all; omega) | rfl
              exact joinQ_normal ((f38z0 x1 n3).2.2.1, (f38z0 x1 n3).2.2.2.2) (Le.mk rfl rfl ⟨.refl _, .refl _, .refl _, .refl _, .refl _, .refl _, trivial⟩ ⟨⟨_, rfl, (.cellsL ⟨.refl _, .refl _, (.int eq1), .refl _, (.str eq2), trivial⟩)⟩, ⟨_, rfl, .refl _⟩, trivial⟩) h
          ·
            rintro ⟨i6, s7⟩ h
            replace h := (congrFun hK3 _).symm.trans h
            obtain ⟨ob3, h⟩ := chk_some h
            refine q1rr [] [] ⟨30, (f38z1 x2 x1 n3), [(5005, .rows 31 5 ((l4).length + 1) (appF (l4).length (encF eT31 q1dT31 l4) (lstF 5 [.i (f38z0 x1 n3).1, .i (f38z0 x1 n3).2.1, .i i6, .str (f38z0 x1 n3).2.2.2.1, .str s7])))], [], 0⟩ (an1 ob3) ?_
            refine blockQ_normal ?_
            exact joinQ_normal ((l4 ++ [((f38z0 x1 n3).1, (f38z0 x1 n3).2.1, i6, (f38z0 x1 n3).2.2.2.1, s7)])) (Le.trans (Le.mk (s' := ⟨30, (f38z1 x2 x1 n3), [(5005, q1bT31_31 (l4 ++ [((f38z0 x1 n3).1, (f38z0 x1 n3).2.1, i6, (f38z0 x1 n3).2.2.2.1, s7)]))], [], 0⟩) rfl rfl ⟨.refl _, .refl _, .refl _, .refl _, .refl _, trivial⟩ ⟨⟨_, rfl, (BLe.of (RL.app (RL.self _) (RL.lst (enc := eT31) [((f38z0 x1 n3).1, (f38z0 x1 n3).2.1, i6, (f38z0 x1 n3).2.2.2.1, s7)] rfl rfl (fun _ => rfl))))⟩, trivial⟩) (Le.mk rfl rfl ⟨.refl _, .refl _, .refl _, .refl _, .refl _, trivial⟩ ⟨⟨_, rfl, .refl _⟩, trivial⟩)) h
      ·
        rintro l5 h
        replace h := (congrFun hK2 _).symm.trans h
        obtain ⟨ob4p, h⟩ := chk_some h
        have ob4 : -9223372036854775808 ≤ ((n3 : Int) + (1 : Int)) ∧ ((n3 : Int) + (1 : Int)) ≤ 9223372036854775807 := ⟨by omega, ob4p⟩
        refine q1rr [] [] ⟨30, [(1, .i x2), (5, .own 5005), (8, q1aT31 x1), (9, .i (lZ x1)), (10, .i (((n3 + 1) : Nat) : Int))], (f38z7 l5), [], 0⟩ (an1 ob4) ?_
        rw [hC0] at h
        exact loopQ_normal (_, (n3 + 1), l5) (Le.mk rfl rfl ⟨.refl _, .refl _, .refl _, .refl _, .refl _, trivial⟩ ⟨⟨_, rfl, .refl _⟩, trivial⟩) h (Nat.lt_succ_self _)
    ·
      replace h := ite_fb hc1 h
      refine AWp.exit ?_
      refine thenQ_exit ?_
      refine thenQ_exit ?_
      refine blockQ_same ?_
      exact joinQ_normal (l4) (Le.mk rfl rfl ⟨.refl _, trivial⟩ ⟨⟨_, rfl, .refl _⟩, trivial⟩) h
  ·
    rintro l8 h
    replace h := (congrFun hK1 _).symm.trans h
    refine q1rq [] [] ⟨30, [(4, .own 5005)], (f38z6 l8), [], 0⟩ trivial ?_
    refine AWp.le (Le.trans (Le.ren (swapN 5005 3000) (swapN_inv 5005 3000) rfl) (Le.mk (s' := ⟨30, [(4, .own 3000)], [(3000, q1bT31_31 l8)], [], 0⟩) rfl rfl ⟨.refl _, trivial⟩ ⟨⟨_, rfl, .refl _⟩, trivial⟩)) ?_
    have hret := Option.some.inj h
    subst hret
    refine AWp.le (Le.mk (s' := ⟨30, [(4, .own 3000)], [(3000, q1bT31_31 l8)], [], 0⟩) rfl rfl ⟨.refl _, trivial⟩ ⟨⟨_, rfl, .refl _⟩, trivial⟩) ?_
    refine AWp.ret ?_
    exact bodyQ_ret _ rfl ⟨rfl, rfl⟩ rfl
def f19_L0 (x1 : List (Int × Int × Int × List UInt8 × List UInt8)) (K1 : (List Int) → Option (Int × Int)) : Nat → (Nat × List Int) → Option (Int × Int)
  | 0, _ => none
  | k + 1, (n3, l4) =>
    if (decide ((n3 : Int) < (((x1).length : Nat) : Int))) then (
    jn (fun (l6 : List Int) =>
    chk (((n3 : Int) + (1 : Int)) ≤ 9223372036854775807) <|
    (f19_L0 x1 K1 k) ((n3 + 1), l6)
    ) fun (K2 : (List Int) → Option (Int × Int)) =>
    chk ((n3 : Int) < (((x1).length : Nat) : Int)) <|
    (f36 ((x1.getD n3 (default : Int × Int × Int × List UInt8 × List UInt8)).1) ((x1.getD n3 (default : Int × Int × Int × List UInt8 × List UInt8)).2.1) ((x1.getD n3 (default : Int × Int × Int × List UInt8 × List UInt8)).2.2.1) ((x1.getD n3 (default : Int × Int × Int × List UInt8 × List UInt8)).2.2.2.1) ((x1.getD n3 (default : Int × Int × Int × List UInt8 × List UInt8)).2.2.2.2)).bind fun (r5 : Bool) =>
    if (!r5) then (
    chk (((l4).length + 1) * 8 ≤ 140737488355328) <|
    K2 (l4 ++ [(x1.getD n3 (default : Int × Int × Int × List UInt8 × List UInt8)).2.2.1])
    ) else (
    K2 l4
    )
    ) else (
    K1 l4
    )
def f19_L1 (x1 : List (Int × Int × Int × List UInt8 × List UInt8)) (r8 : List Int) (K3 : Unit → Option (Int × Int)) : Nat → Nat → Option (Int × Int)
  | 0, _ => none
  | k + 1, n9 =>
    if (decide ((n9 : Int) < (((r8).length : Nat) : Int))) then (
    chk ((n9 : Int) < (((r8).length : Nat) : Int)) <|
    chk (n9 < (r8).length) <|
    (f38 x1 (r8.getD n9 0)).bind fun (r10 : List (Int × Int × Int × List UInt8 × List UInt8)) =>
    (f30 r10).bind fun (r11 : List Int × Int) =>
    if (r11.2 != (0 : Int)) then (
    some ((r8.getD n9 0), (0 : Int))
    ) else (
    chk (((n9 : Int) + (1 : Int)) ≤ 9223372036854775807) <|
    (f19_L1 x1 r8 K3 k) (n9 + 1)
    )
    ) else (
    K3 ()
    )
abbrev f19z0 (x1 : List (Int × Int × Int × List UInt8 × List UInt8)) (n3 : Nat) := (x1.getD n3 (default : Int × Int × Int × List UInt8 × List UInt8))
abbrev f19z1 (x1 : List (Int × Int × Int × List UInt8 × List UInt8)) (n3 : Nat) : List (Nat × V) := [(0, vL 5 eT31 (default : Int × Int × Int × List UInt8 × List UInt8) x1), (5, .own 5005), (17, vL 5 eT31 (default : Int × Int × Int × List UInt8 × List UInt8) x1), (18, .int .i64 (((x1).length : Nat) : Int)), (19, .int .i64 (n3 : Int)), (1000003, .tab .u64 Lib.pow10Tab)]
abbrev f19z2 (x1 : List (Int × Int × Int × List UInt8 × List UInt8)) (n3 : Nat) : List (Nat × V) := [(0, vL 5 eT31 (default : Int × Int × Int × List UInt8 × List UInt8) x1), (5, .own 30), (17, vL 5 eT31 (default : Int × Int × Int × List UInt8 × List UInt8) x1), (18, .int .i64 (((x1).length : Nat) : Int)), (19, .int .i64 (n3 : Int)), (1000003, .tab .u64 Lib.pow10Tab)]
abbrev f19z3 (x1 : List (Int × Int × Int × List UInt8 × List UInt8)) (n3 : Nat) : List V := [.int .i64 (f19z0 x1 n3).1, .int .i64 (f19z0 x1 n3).2.1, .int .i64 (f19z0 x1 n3).2.2.1, .str (f19z0 x1 n3).2.2.2.1, .str (f19z0 x1 n3).2.2.2.2]
abbrev f19z4 (x1 : List (Int × Int × Int × List UInt8 × List UInt8)) : List (Nat × V) := [(0, vL 5 eT31 (default : Int × Int × Int × List UInt8 × List UInt8) x1), (5, .own 5005), (1000003, .tab .u64 Lib.pow10Tab)]
abbrev f19z5 (r8 : List Int) : Heap := [(5005, bL 3 1 eI 0 r8)]
abbrev f19z6 (r10 : List (Int × Int × Int × List UInt8 × List UInt8)) : Heap := [(6001, bL 31 5 eT31 (default : Int × Int × Int × List UInt8 × List UInt8) r10)]
def f19 (x1 : List (Int × Int × Int × List UInt8 × List UInt8)) : Option (Int × Int) :=
  (f17 x1).bind fun (r2 : Int) =>
  if (r2 != (0 : Int)) then (
  some ((0 : Int), r2)
  ) else (
  jn (fun (l7 : List Int) =>
  (f37 l7).bind fun (r8 : List Int) =>
  jn (fun (_ : Unit) =>
  some ((0 : Int), (13 : Int))
  ) fun (K3 : Unit → Option (Int × Int)) =>
  f19_L1 x1 r8 K3 FUEL 0
  ) fun (K1 : (List Int) → Option (Int × Int)) =>
  f19_L0 x1 K1 FUEL (0, [])
  )
set_option maxRecDepth 100000 in
theorem f19_ok  (x1 : List (Int × Int × Int × List UInt8 × List UInt8)) (r : Int × Int) (h : f19 x1 = some r)  : Spec1 Tryz.prog 19 [(3, .tab .u64 Lib.pow10Tab)] [] [] [vL 5 eT31 (default : Int × Int × Int × List UInt8 × List UInt8) x1] (.tup [.int .i64 r.1, .int .i64 r.2]) [] := by
  unfold f19 at h
  refine Spec1.body 0 _ _ Tryz.func19 rfl Tryz.ntmps19 rfl rfl ?_
  refine q1rq [] [] ⟨51, [(0, q1aT31 x1), (1000003, .tab .u64 Lib.pow10Tab)], [], [], 0⟩ trivial ?_
  refine AWp.seq ?_
  refine AWp.seq ?_
  obtain ⟨r2, hr2, h⟩ := bind_ok h
  refine q1rr [] [(1, ⟨[q1aT31 x1], [], [], [], .i r2, [], [], []⟩)] ⟨51, [(0, q1aT31 x1), (4, .i r2), (1000003, .tab .u64 Lib.pow10Tab)], [], [], 0⟩ (an1 (cpT (f17_ok _ _ hr2))) ?_
  refine thenQ_normal ?_
  refine q1rq [] [] ⟨51, [(0, q1aT31 x1), (4, .i r2), (15, .bool (r2 != (0 : Int))), (1000003, .tab .u64 Lib.pow10Tab)], [], [], 0⟩ trivial ?_
  refine AWp.cond (b := (r2 != (0 : Int))) (by kernel_rfl) (fun hc1 => ?_) (fun hc1 => ?_)
  ·
    replace h := ite_tb hc1 h
    refine q1rq [] [] ⟨51, [(2, .i (0 : Int)), (3, .i r2), (1000003, .tab .u64 Lib.pow10Tab)], [], [], 0⟩ trivial ?_
    have hret := Option.some.inj h
    subst hret
    refine AWp.le (Le.mk (s' := ⟨51, [(2, .i (0 : Int)), (3, .i r2)], [], [], 0⟩) rfl rfl ⟨.refl _, .refl _, trivial⟩ trivial) ?_
    refine AWp.ret ?_
    refine thenQ_ret ?_
    exact bodyQ_ret _ rfl ⟨rfl, rfl⟩ rfl
  ·
    replace h := ite_fb hc1 h
    refine AWp.skip ?_
    refine thenQ_normal ?_
    refine q1rq [] [] ⟨51, [(0, q1aT31 x1), (5, .nils), (1000003, .tab .u64 Lib.pow10Tab)], [], [], 0⟩ trivial ?_
    obtain ⟨K1, hK1, h⟩ := jn_some h
    refine AWp.join (α := List Int) (fun (l7 : List Int) => ⟨51, (f19z4 x1), [(5005, q1bI_3 l7)], [], 0⟩) (fun x => K1 x = some r) ?_ ?_
    ·
      refine q1rq [] [] ⟨51, [(0, q1aT31 x1), (5, .nils), (17, q1aT31 x1), (18, .i (lZ x1)), (19, .i (0 : Int)), (1000003, .tab .u64 Lib.pow10Tab)], [], [], 0⟩ trivial ?_
      refine AWp.block ?_
      refine AWp.loopL (α := Nat × (Nat × List Int)) (fun x => match x with | (_, n3, l4) => ⟨51, (f19z1 x1 n3), [(5005, q1bI_3 l4)], [], 0⟩) (fun x => f19_L0 x1 K1 x.1 x.2 = some r) (fun x => x.1) (FUEL, 0, []) (Le.trans (Le.trans (Le.nilOwn 5 5005 3 1 (encF eI 0 []) rfl rfl (Nat.le_of_ble_eq_true rfl)) (Le.mk (s' := ⟨51, [(0, q1aT31 x1), (5, .own 5005), (17, q1aT31 x1), (18, .i (lZ x1)), (19, .i (0 : Int)), (1000003, .tab .u64 Lib.pow10Tab)], [(5005, q1bI_3 [])], [], 0⟩) rfl rfl ⟨.refl _, .refl _, .refl _, .refl _, .refl _, .refl _, trivial⟩ ⟨⟨_, rfl, .refl _⟩, trivial⟩)) (Le.mk (s' := ⟨51, [(0, q1aT31 x1), (5, .own 5005), (17, q1aT31 x1), (18, .i (lZ x1)), (19, .i (0 : Int)), (1000003, .tab .u64 Lib.pow10Tab)], [(5005, q1bI_3 [])], [], 0⟩) rfl rfl ⟨.refl _, .refl _, .refl _, .refl _, .refl _, .refl _, trivial⟩ ⟨⟨_, rfl, .refl _⟩, trivial⟩)) h ?_
      rintro ⟨k0, n3, l4⟩ h
      cases k0 with
      | zero => exact nomatch (show (none : Option (Int × Int)) = some r from h)
      | succ k0 =>
      obtain ⟨C0, hC0⟩ : ∃ C, C = f19_L0 x1 K1 k0 := ⟨_, rfl⟩
      replace h := (f19_L0.eq_2 ..).symm.trans h
      try rw [← hC0] at h
      refine q1rq [] [] ⟨51, [(0, q1aT31 x1), (5, .own 5005), (17, q1aT31 x1), (18, .i (lZ x1)), (19, .i (n3 : Int)), (20, .bool (decide ((n3 : Int) < (lZ x1)))), (1000003, .tab .u64 Lib.pow10Tab)], [(5005, q1bI_3 l4)], [], 0⟩ trivial ?_
      refine AWp.seq ?_
      refine AWp.cond (b := (decide ((n3 : Int) < (lZ x1)))) (by kernel_rfl) (fun hc2 => ?_) (fun hc2 => ?_)
      ·
        replace h := ite_tb hc2 h
        refine AWp.skip ?_
        refine thenQ_normal ?_
        obtain ⟨K2, hK2, h⟩ := jn_some h
        refine AWp.join (α := List Int) (fun (l6 : List Int) => ⟨51, (f19z2 x1 n3), [(30, q1bI_3 l6)], [], 0⟩) (fun x => K2 x = some r) ?_ ?_
        ·
          refine AWp.block ?_
          refine AWp.seq ?_
          obtain ⟨ob0p, h⟩ := chk_some h
          have ob0 : 0 ≤ (n3 : Int) ∧ (n3 : Int) < (((x1).length : Nat) : Int) := ⟨by omega, ob0p⟩
          refine q1rr [] [] ⟨51, [(0, q1aT31 x1), (5, .own 5005), (7, .ptr 7 0), (17, q1aT31 x1), (18, .i (lZ x1)), (19, .i (n3 : Int)), (1000003, .tab .u64 Lib.pow10Tab)], [(7, .cells 31 (f19z3 x1 n3)), (5005, q1bI_3 l4)], [], 0⟩ (an2 ob0 trivial) ?_
          refine thenQ_normal ?_
          refine AWp.seq ?_
          obtain ⟨r5, hr5, h⟩ := bind_ok h
          refine q1rr [] [(1, ⟨[.agg (f19z3 x1 n3)], [], [], [], .bool r5, [], [], []⟩)] ⟨51, [(0, q1aT31 x1), (5, .own 5005), (7, .ptr 7 0), (17, q1aT31 x1), (18, .i (lZ x1)), (19, .i (n3 : Int)), (25, .bool (!r5)), (1000003, .tab .u64 Lib.pow10Tab)], [(7, .cells 31 (f19z3 x1 n3)), (5005, q1bI_3 l4)], [], 0⟩ (an1 (cpT (f36_ok _ _ _ _ _ _ hr5))) ?_
          refine thenQ_normal ?_
          refine AWp.cond (b := (!r5)) (by kernel_rfl) (fun hc3 => ?_) (fun hc3 => ?_)
          ·
            replace h := ite_tb hc3 h
            obtain ⟨ob1, h⟩ := chk_some h
            refine q1rr [] [] ⟨51, (f19z1 x1 n3), [(5005, .rows 3 1 ((l4).length + 1) (appF (l4).length (encF eI 0 l4) (lstF 1 [.i (f19z0 x1 n3).2.2.1])))], [], 0⟩ (an1 ob1) ?_
            refine blockQ_normal ?_
            exact joinQ_normal ((l4 ++ [(f19z0 x1 n3).2.2.1])) (Le.trans (Le.mk (s' := ⟨51, (f19z1 x1 n3), [(5005, q1bI_3 (l4 ++ [(f19z0 x1 n3).2.2.1]))], [], 0⟩) rfl rfl ⟨.refl _, .refl _, .refl _, .refl _, .refl _, .refl _, trivial⟩ ⟨⟨_, rfl, (BLe.of (RL.app (RL.self _) (RL.lst (enc := eI) [(f19z0 x1 n3).2.2.1] rfl rfl (fun _ => rfl))))⟩, trivial⟩) (Le.trans (Le.trans (Le.ren (swapN 5005 30) (swapN_inv 5005 30) rfl) (Le.mk (s' := ⟨51, (f19z2 x1 n3), [(30, q1bI_3 (l4 ++ [(f19z0 x1 n3).2.2.1]))], [], 0⟩) rfl rfl ⟨.refl _, .refl _, .refl _, .refl _, .refl _, .refl _, trivial⟩ ⟨⟨_, rfl, .refl _⟩, trivial⟩)) (Le.mk rfl rfl ⟨.refl _, .refl _, .refl _, .refl _, .refl _, .refl _, trivial⟩ ⟨⟨_, rfl, .refl _⟩, trivial⟩))) h
          ·
            replace h := ite_fb hc3 h
            refine AWp.skip ?_
            refine blockQ_normal ?_
            exact joinQ_normal (l4) (Le.trans (Le.trans (Le.ren (swapN 5005 30) (swapN_inv 5005 30) rfl) (Le.mk (s' := ⟨51, [(0, q1aT31 x1), (5, .own 30), (7, .ptr 7 0), (17, q1aT31 x1), (18, .i (lZ x1)), (19, .i (n3 : Int)), (25, .bool (!r5)), (1000003, .tab .u64 Lib.pow10Tab)], [(7, .cells 31 (f19z3 x1 n3)), (30, q1bI_3 l4)], [], 0⟩) rfl rfl ⟨.refl _, .refl _, .refl _, .refl _, .refl _, .refl _, .refl _, .refl _, trivial⟩ ⟨⟨_, rfl, .refl _⟩, ⟨_, rfl, .refl _⟩, trivial⟩)) (Le.mk rfl rfl ⟨.refl _, .refl _, .refl _, .refl _, .refl _, .refl _, trivial⟩ ⟨⟨_, rfl, .refl _⟩, trivial⟩)) h
        ·
          rintro l6 h
          replace h := (congrFun hK2 _).symm.trans h
          obtain ⟨ob2p, h⟩ := chk_some h
          have ob2 : -9223372036854775808 ≤ ((n3 : Int) + (1 : Int)) ∧ ((n3 : Int) + (1 : Int)) ≤ 9223372036854775807 := ⟨by omega, ob2p⟩
          refine q1rr [] [] ⟨51, [(0, q1aT31 x1), (5, .own 30), (17, q1aT31 x1), (18, .i (lZ x1)), (19, .i (((n3 + 1) : Nat) : Int)), (1000003, .tab .u64 Lib.pow10Tab)], [(30, q1bI_3 l6)], [], 0⟩ (an1 ob2) ?_
          rw [hC0] at h
          exact loopQ_normal (_, (n3 + 1), l6) (Le.trans (Le.trans (Le.ren (swapN 30 5005) (swapN_inv 30 5005) rfl) (Le.mk (s' := ⟨51, [(0, q1aT31 x1), (5, .own 5005), (17, q1aT31 x1), (18, .i (lZ x1)), (19, .i (((n3 + 1) : Nat) : Int)), (1000003, .tab .u64 Lib.pow10Tab)], [(5005, q1bI_3 l6)], [], 0⟩) rfl rfl ⟨.refl _, .refl _, .refl _, .refl _, .refl _, .refl _, trivial⟩ ⟨⟨_, rfl, .refl _⟩, trivial⟩)) (Le.mk rfl rfl ⟨.refl _, .refl _, .refl _, .refl _, .refl _, .refl _, trivial⟩ ⟨⟨_, rfl, .refl _⟩, trivial⟩)) h (Nat.lt_succ_self _)
      ·
        replace h := ite_fb hc2 h
        refine AWp.exit ?_
        refine thenQ_exit ?_
        refine thenQ_exit ?_
        refine blockQ_same ?_
        exact joinQ_normal (l4) (Le.mk rfl rfl ⟨.refl _, .refl _, .refl _, trivial⟩ ⟨⟨_, rfl, .refl _⟩, trivial⟩) h
    ·
      rintro l7 h
      replace h := (congrFun hK1 _).symm.trans h
      refine AWp.seq ?_
      obtain ⟨r8, hr8, h⟩ := bind_ok h
      refine q1rr [] [(1, ⟨[.own 5005], [5005], [5005], (f19z5 r8), .tup [], [], [], []⟩)] ⟨51, (f19z4 x1), (f19z5 r8), [], 0⟩ (an1 (cpT (Spec1.ren (swapN 2000 5005) (swapN_inv 2000 5005) rfl (f37_ok _ _ hr8)))) ?_
      refine thenQ_normal ?_
      obtain ⟨K3, hK3, h⟩ := jn_some h
      refine AWp.join (α := Unit) (fun (x : Unit) => match x with | () => ⟨51, [(1000003, .tab .u64 Lib.pow10Tab)], [], [], 0⟩) (fun x => K3 x = some r) ?_ ?_
      ·
        refine q1rq [] [] ⟨51, [(0, q1aT31 x1), (34, .own 5005), (35, .i (lZ r8)), (36, .i (0 : Int)), (1000003, .tab .u64 Lib.pow10Tab)], (f19z5 r8), [], 0⟩ trivial ?_
        refine AWp.block ?_
        refine AWp.loopL (α := Nat × Nat) (fun x => match x with | (_, n9) => ⟨51, [(0, q1aT31 x1), (34, .own 5005), (35, .i (lZ r8)), (36, .i (n9 : Int)), (1000003, .tab .u64 Lib.pow10Tab)], (f19z5 r8), [], 0⟩) (fun x => f19_L1 x1 r8 K3 x.1 x.2 = some r) (fun x => x.1) (FUEL, 0) (Le.mk (s' := ⟨51, [(0, q1aT31 x1), (34, .own 5005), (35, .i (lZ r8)), (36, .i (0 : Int)), (1000003, .tab .u64 Lib.pow10Tab)], (f19z5 r8), [], 0⟩) rfl rfl ⟨.refl _, .refl _, .refl _, .refl _, .refl _, trivial⟩ ⟨⟨_, rfl, .refl _⟩, trivial⟩) h ?_
        rintro ⟨k1, n9⟩ h
        cases k1 with
        | zero => exact nomatch (show (none : Option (Int × Int)) = some r from h)
        | succ k1 =>
        obtain ⟨C1, hC1⟩ : ∃ C, C = f19_L1 x1 r8 K3 k1 := ⟨_, rfl⟩
        replace h := (f19_L1.eq_2 ..).symm.trans h
        try rw [← hC1] at h
        refine q1rq [] [] ⟨51, [(0, q1aT31 x1), (34, .own 5005), (35, .i (lZ r8)), (36, .i (n9 : Int)), (37, .bool (decide ((n9 : Int) < (lZ r8)))), (1000003, .tab .u64 Lib.pow10Tab)], (f19z5 r8), [], 0⟩ trivial ?_
        refine AWp.seq ?_
        refine AWp.cond (b := (decide ((n9 : Int) < (lZ r8)))) (by kernel_rfl) (fun hc4 => ?_) (fun hc4 => ?_)
        ·
          replace h := ite_tb hc4 h
          refine AWp.skip ?_
          refine thenQ_normal ?_
          refine AWp.seq ?_
          refine AWp.block ?_
          refine AWp.seq ?_
          obtain ⟨ob3p, h⟩ := chk_some h
          have ob3 : 0 ≤ (n9 : Int) ∧ (n9 : Int) < (((r8).length : Nat) : Int) := ⟨by omega, ob3p⟩
          obtain ⟨ob4, h⟩ := chk_some h
          refine q1rr [] [] ⟨51, [(0, q1aT31 x1), (9, .i (r8.getD n9 0)), (34, .own 5005), (35, .i (lZ r8)), (36, .i (n9 : Int)), (1000003, .tab .u64 Lib.pow10Tab)], (f19z5 r8), [], 0⟩ (an2 ob3 ob4) ?_
          refine thenQ_normal ?_
          refine AWp.seq ?_
          obtain ⟨r10, hr10, h⟩ := bind_ok h
          obtain ⟨r11, hr11, h⟩ := bind_ok h
          refine q1rr [] [(2, ⟨[q1aT31 x1, .i (r8.getD n9 0)], [], [], (f19z6 r10), .own 6001, [6001], [], []⟩), (3, ⟨[.own 6001, .fn (.func 31) []], [6001], [], [], .tup [q1aI r11.1, .i r11.2], [], [], [3]⟩)] ⟨51, [(0, q1aT31 x1), (9, .i (r8.getD n9 0)), (11, .i r11.2), (34, .own 5005), (35, .i (lZ r8)), (36, .i (n9 : Int)), (1000003, .tab .u64 Lib.pow10Tab)], (f19z5 r8), [], 0⟩ (an2 (cpT (Spec1.ren (swapN 3000 6001) (swapN_inv 3000 6001) rfl (f38_ok _ _ _ hr10))) (show (callP Tryz.prog true 30 [(3, .tab .u64 Lib.pow10Tab)] [] (f19z6 r10) [] [] [.own 6001, .fn (.func 31) []] [.own 6001, .fn (.func 31) []] (.tup [q1aI r11.1, .i r11.2]) []) from ⟨fun _ => (Spec1.pre (f30_ok _ _ hr11) rfl rfl rfl (Le.trans (Le.freeze 6001 rfl rfl) (Le.mk (s' := ⟨2, [(0, q1aT31 r10), (1, .fn (.func 31) []), (1000003, .tab .u64 Lib.pow10Tab)], [], [], 0⟩) rfl rfl ⟨.refl _, .refl _, .refl _, trivial⟩ trivial))), fun _ => ⟨.refl _, .refl _, trivial⟩, .inl rfl⟩)) ?_
          refine thenQ_normal ?_
          refine q1rq [] [] ⟨51, [(0, q1aT31 x1), (9, .i (r8.getD n9 0)), (34, .own 5005), (35, .i (lZ r8)), (36, .i (n9 : Int)), (48, .bool (r11.2 != (0 : Int))), (1000003, .tab .u64 Lib.pow10Tab)], (f19z5 r8), [], 0⟩ trivial ?_
          refine AWp.cond (b := (r11.2 != (0 : Int))) (by kernel_rfl) (fun hc5 => ?_) (fun hc5 => ?_)
          ·
            replace h := ite_tb hc5 h
            refine q1rq [] [] ⟨51, [(2, .i (r8.getD n9 0)), (3, .i (0 : Int)), (1000003, .tab .u64 Lib.pow10Tab)], [], [], 0⟩ trivial ?_
            have hret := Option.some.inj h
            subst hret
            refine AWp.le (Le.mk (s' := ⟨51, [(2, .i (r8.getD n9 0)), (3, .i (0 : Int))], [], [], 0⟩) rfl rfl ⟨.refl _, .refl _, trivial⟩ trivial) ?_
            refine AWp.ret ?_
            refine blockQ_ret ?_
            refine thenQ_ret ?_
            refine thenQ_ret ?_
            refine blockQ_ret ?_
            refine joinQ_ret ?_
            exact bodyQ_ret _ rfl ⟨rfl, rfl⟩ rfl
          ·
            replace h := ite_fb hc5 h
            refine AWp.skip ?_
            refine blockQ_normal ?_
            refine thenQ_normal ?_
            obtain ⟨ob5p, h⟩ := chk_some h
            have ob5 : -9223372036854775808 ≤ ((n9 : Int) + (1 : Int)) ∧ ((n9 : Int) + (1 : Int)) ≤ 9223372036854775807 := ⟨by omega, ob5p⟩
            refine q1rr [] [] ⟨51, [(0, q1aT31 x1), (34, .own 5005), (35, .i (lZ r8)), (36, .i (((n9 + 1) : Nat) : Int)), (1000003, .tab .u64 Lib.pow10Tab)], (f19z5 r8), [], 0⟩ (an1 ob5) ?_
            rw [hC1] at h
            exact loopQ_normal (_, (n9 + 1)) (Le.mk rfl rfl ⟨.refl _, .refl _, .refl _, .refl _, .refl _, trivial⟩ ⟨⟨_, rfl, .refl _⟩, trivial⟩) h (Nat.lt_succ_self _)
        ·
          replace h := ite_fb hc4 h
          refine AWp.exit ?_
          refine thenQ_exit ?_
          refine thenQ_exit ?_
          refine blockQ_same ?_
          exact joinQ_normal () (Le.mk rfl rfl ⟨.refl _, trivial⟩ trivial) h
      ·
        rintro ⟨⟩ h
        replace h := (congrFun hK3 _).symm.trans h
        refine q1rq [] [] ⟨51, [(2, .i (0 : Int)), (3, .i (13 : Int)), (1000003, .tab .u64 Lib.pow10Tab)], [], [], 0⟩ trivial ?_
        have hret := Option.some.inj h
        subst hret
        refine AWp.le (Le.mk (s' := ⟨51, [(2, .i (0 : Int)), (3, .i (13 : Int))], [], [], 0⟩) rfl rfl ⟨.refl _, .refl _, trivial⟩ trivial) ?_
        refine AWp.ret ?_
        exact bodyQ_ret _ rfl ⟨rfl, rfl⟩ rfl
def f33 (x1 : Int) (x2 : Int) (x3 : Int) (x4 : List UInt8) (x5 : List UInt8) (x6 : Int) (x7 : Int) (x8 : Int) (x9 : List UInt8) (x10 : List UInt8) : Option Bool :=
  optc ((x1 == x6) == true) (f31 x1 x2 x3 x4 x5 x6 x7 x8 x9 x10) fun (r11 : Bool) =>
  some ((x1 == x6) && r11)
set_option maxRecDepth 100000 in
theorem f33_ok  (x1 : Int) (x2 : Int) (x3 : Int) (x4 : List UInt8) (x5 : List UInt8) (x6 : Int) (x7 : Int) (x8 : Int) (x9 : List UInt8) (x10 : List UInt8) (r : Bool) (h : f33 x1 x2 x3 x4 x5 x6 x7 x8 x9 x10 = some r)  : Spec1 Tryz.prog 33 [] [] [] [.agg [.int .i64 x1, .int .i64 x2, .int .i64 x3, .str x4, .str x5], .agg [.int .i64 x6, .int .i64 x7, .int .i64 x8, .str x9, .str x10]] (.bool r) [] := by
  unfold f33 at h
  refine Spec1.body 0 _ _ Tryz.func33 rfl Tryz.ntmps33 rfl rfl ?_
  refine q1rq [] [] ⟨15, [(2, .ptr 2 0), (3, .ptr 3 0)], [(2, .cells 31 [.i x1, .i x2, .i x3, .str x4, .str x5]), (3, .cells 31 [.i x6, .i x7, .i x8, .str x9, .str x10])], [], 0⟩ trivial ?_
  refine AWp.seq ?_
  obtain ⟨r11, hr11, h⟩ := optc_some h
  have ob0 := idA (((x1 == x6) == true) = true)
  have ob1 := idA (((x1 == x6) == true) = true)
  have ob2 := bqA (x1 == x6) true
  refine q1rr [] [(8, ⟨[.agg [.i x1, .i x2, .i x3, .str x4, .str x5], .agg [.i x6, .i x7, .i x8, .str x9, .str x10]], [], [], [], .bool r11, [], [], []⟩)] ⟨15, [(4, .bool ((x1 == x6) && r11))], [], [], 0⟩ (an2 (And.intro (cpC fun hc => (f31_ok _ _ _ _ _ _ _ _ _ _ _ (hr11 hc))) (an2 ob0 ob1)) ob2) ?_
  refine thenQ_normal ?_
  have hret := Option.some.inj h
  subst hret
  refine AWp.le (Le.mk (s' := ⟨15, [(4, .bool ((x1 == x6) && r11))], [], [], 0⟩) rfl rfl ⟨.refl _, trivial⟩ trivial) ?_
  refine AWp.ret ?_
  exact bodyQ_ret _ rfl ⟨rfl, rfl⟩ rfl
def f41a_L0 (x1 : Int) (x2 : Int) (x3 : Int) (x4 : Int) (x5 : List UInt8) (x6 : List UInt8) (x7 : List (Int × Int × Int × List UInt8 × List UInt8)) (x8 : Int) (x9 : List Int) (x10 : List (List (List (List UInt8 × List UInt8 × Int)))) (K1 : Unit → Option (Bool × (List (Int × Int × Int × List UInt8 × List UInt8)) × Int × List Int × (List (List (List (List UInt8 × List UInt8 × Int)))))) : Nat → Nat → Option (Bool × (List (Int × Int × Int × List UInt8 × List UInt8)) × Int × List Int × (List (List (List (List UInt8 × List UInt8 × Int)))))
  | 0, _ => none
  | k + 1, n11 =>
    if (decide ((n11 : Int) < (((x7).length : Nat) : Int))) then (
    chk ((n11 : Int) < (((x7).length : Nat) : Int)) <|
    optc (((bitsI .and .u64 (x1 / 2 ^ n11) (1 : Int)) == (1 : Int)) == true) (f33 x2 x3 x4 x5 x6 ((x7.getD n11 (default : Int × Int × Int × List UInt8 × List UInt8)).1) ((x7.getD n11 (default : Int × Int × Int × List UInt8 × List UInt8)).2.1) ((x7.getD n11 (default : Int × Int × Int × List UInt8 × List UInt8)).2.2.1) ((x7.getD n11 (default : Int × Int × Int × List UInt8 × List UInt8)).2.2.2.1) ((x7.getD n11 (default : Int × Int × Int × List UInt8 × List UInt8)).2.2.2.2)) fun (r12 : Bool) =>
    chk (n11 ≤ IntKind.bits .u64) <|
    if (((bitsI .and .u64 (x1 / 2 ^ n11) (1 : Int)) == (1 : Int)) && r12) then (
    some (false, x7, x8, x9, x10)
    ) else (
    chk (((n11 : Int) + (1 : Int)) ≤ 9223372036854775807) <|
    (f41a_L0 x1 x2 x3 x4 x5 x6 x7 x8 x9 x10 K1 k) (n11 + 1)
    )
    ) else (
    K1 ()
    )
abbrev f41az0 (x7 : List (Int × Int × Int × List UInt8 × List UInt8)) (n11 : Nat) := (x7.getD n11 (default : Int × Int × Int × List UInt8 × List UInt8))
abbrev f41az1 (x2 : Int) (x3 : Int) (x4 : Int) (x5 : List UInt8) (x6 : List UInt8) : List V := [.int .i64 x2, .int .i64 x3, .int .i64 x4, .str x5, .str x6]
def f41a (x1 : Int) (x2 : Int) (x3 : Int) (x4 : Int) (x5 : List UInt8) (x6 : List UInt8) (x7 : List (Int × Int × Int × List UInt8 × List UInt8)) (x8 : Int) (x9 : List Int) (x10 : List (List (List (List UInt8 × List UInt8 × Int)))) : Option (Bool × (List (Int × Int × Int × List UInt8 × List UInt8)) × Int × List Int × (List (List (List (List UInt8 × List UInt8 × Int))))) :=
  jn (fun (_ : Unit) =>
  some (true, x7, x8, x9, x10)
  ) fun (K1 : Unit → Option (Bool × (List (Int × Int × Int × List UInt8 × List UInt8)) × Int × List Int × (List (List (List (List UInt8 × List UInt8 × Int)))))) =>
  f41a_L0 x1 x2 x3 x4 x5 x6 x7 x8 x9 x10 K1 FUEL 0
end Go.Abs
