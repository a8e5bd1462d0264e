/- Part 21 of the proof: Xtp. -/
import Derived.Test.YtjgboohpholnbaaDoorTpcotZ20
namespace Go.Abs
open Go Go.Proofs
set_option maxHeartbeats 4000000
instance : DecidableEq (Int × Int × Int × List Int × List Int) := @instDecidableEqProd Int _ inferInstance (@instDecidableEqProd Int _ inferInstance (@instDecidableEqProd Int _ inferInstance (@instDecidableEqProd (List Int) _ inferInstance (inferInstance))))
def eT67 (x : Int × Int × Int × List Int × List Int) : List V := [.int .i64 x.1, .int .i64 x.2.1, .int .i64 x.2.2.1, vL 1 eI 0 x.2.2.2.1, vL 1 eI 0 x.2.2.2.2]
instance : DecidableEq ((List (Int × Int × Int × List Int × List Int)) × Int) := @instDecidableEqProd (List (Int × Int × Int × List Int × List Int)) _ inferInstance (inferInstance)
def eLT67JI (x : (List (Int × Int × Int × List Int × List Int)) × Int) : List V := [vL 5 eT67 (default : Int × Int × Int × List Int × List Int) x.1, .int .i64 x.2]
def eW (x : BitVec 16) : List V := [.b16 x]
theorem eW_flat (x : BitVec 16) (j : Nat) : ((eW x).getD j .any).flat = true := by
  match j with
  | 0 => rfl
  | _ + 1 => rfl
instance : DecidableEq (List ((List (Int × Int × Int × List Int × List Int)) × Int)) := inferInstance
def eLLT67JIJ (x : List ((List (Int × Int × Int × List Int × List Int)) × Int)) : List V := [vL 2 eLT67JI (default : (List (Int × Int × Int × List Int × List Int)) × Int) x]
abbrev q2aI (l : List (Int)) : V := vL 1 eI 0 l
abbrev q2bI_3 (l : List (Int)) : Blk := bL 3 1 eI 0 l
abbrev q2aT67 (l : List (Int × Int × Int × List Int × List Int)) : V := vL 5 eT67 (default : Int × Int × Int × List Int × List Int) l
abbrev q2bT67_67 (l : List (Int × Int × Int × List Int × List Int)) : Blk := bL 67 5 eT67 (default : Int × Int × Int × List Int × List Int) l
abbrev q2dT67 : Int × Int × Int × List Int × List Int := default
abbrev q2aLT67JI (l : List ((List (Int × Int × Int × List Int × List Int)) × Int)) : V := vL 2 eLT67JI (default : (List (Int × Int × Int × List Int × List Int)) × Int) l
abbrev q2dLT67JI : (List (Int × Int × Int × List Int × List Int)) × Int := default
abbrev q2aW (l : List (BitVec 16)) : V := vL 1 eW 0#16 l
abbrev q2bW_49 (l : List (BitVec 16)) : Blk := bL 49 1 eW 0#16 l
abbrev q2aLLT67JIJ (l : List (List ((List (Int × Int × Int × List Int × List Int)) × Int))) : V := vL 1 eLLT67JIJ [] l
abbrev q2bLLT67JIJ_58 (l : List (List ((List (Int × Int × Int × List Int × List Int)) × Int))) : Blk := bL 58 1 eLLT67JIJ [] l
abbrev q2w16 (i : Int) : BitVec 16 := BitVec.ofInt 16 i
theorem q2rq {Q : Exit → S → Prop} {id : Nat} {draw : Bool} {y : Code} (W : List Nat) (calls : List (Nat × CC)) {l : List Oper} {s : S} (s' : S) {φ : Prop} (hφ : φ) (hQ : AWp Tryd.prog y Q s') (h : Abs.regC Tryd.prog W draw calls (s'.t.map (·.1)) (s'.h.map (·.1)) l s = some (s', φ) := by kernel_rfl) : AWp Tryd.prog (.seq (.region id l.toArray draw) y) Q s := AWp.sq W calls _ _ s' φ Tryd_mixed h hφ hQ
theorem q2rr {Q : Exit → S → Prop} {id : Nat} {draw : Bool} (W : List Nat) (calls : List (Nat × CC)) {l : List Oper} {s : S} (s' : S) {φ : Prop} (hφ : φ) (hQ : Q .normal s') (h : Abs.regC Tryd.prog W draw calls (s'.t.map (·.1)) (s'.h.map (·.1)) l s = some (s', φ) := by kernel_rfl) : AWp Tryd.prog (.region id l.toArray draw) Q s := AWp.regC W calls _ _ s' φ Tryd_mixed h hφ hQ
def f50_L0 (x1 : Int) (x2 : Int) (K1 : (List Int) → Option (List Int)) : Nat → (Nat × List Int) → Option (List Int)
  | 0, _ => none
  | k + 1, (n3, l4) =>
    if (decide ((n3 : Int) < x2)) then (
    chk (-9223372036854775808 ≤ (x1 + (n3 : Int)) ∧ (x1 + (n3 : Int)) ≤ 9223372036854775807) <|
    chk (((l4).length + 1) * 8 ≤ 140737488355328) <|
    chk (((n3 : Int) + (1 : Int)) ≤ 9223372036854775807) <|
    (f50_L0 x1 x2 K1 k) ((n3 + 1), (l4 ++ [(x1 + (n3 : Int))]))
    ) else (
    K1 l4
    )
abbrev f50z0 (x1 : Int) (x2 : Int) (n3 : Nat) : List (Nat × V) := [(0, .int .i64 x1), (5, .own 5005), (7, .int .i64 x2), (8, .int .i64 (n3 : Int))]
def f50 (x1 : Int) (x2 : Int) : Option (List Int) :=
  jn (fun (l5 : List Int) =>
  some l5
  ) fun (K1 : (List Int) → Option (List Int)) =>
  f50_L0 x1 x2 K1 FUEL (0, [])
set_option maxRecDepth 100000 in
theorem f50_ok  (x1 : Int) (x2 : Int) (r : List Int) (h : f50 x1 x2 = some r)  : Spec1 Tryd.prog 50 [] [] [] [.int .i64 x1, .int .i64 x2] (vL 1 eI 0 r) [] := by
  unfold f50 at h
  refine Spec1.body 0 _ _ Tryd.func50 rfl Tryd.ntmps50 rfl rfl ?_
  refine q2rq [] [] ⟨19, [(0, .i x1), (1, .i x2)], [], [], 0⟩ trivial ?_
  refine q2rq [] [] ⟨19, [(0, .i x1), (1, .i x2), (5, .nils)], [], [], 0⟩ trivial ?_
  obtain ⟨K1, hK1, h⟩ := jn_some h
  refine AWp.join (α := List Int) (fun (l5 : List Int) => ⟨19, [(5, .own 5005)], [(5005, q2bI_3 l5)], [], 0⟩) (fun x => K1 x = some r) ?_ ?_
  ·
    refine q2rq [] [] ⟨19, [(0, .i x1), (5, .nils), (7, .i x2), (8, .i (0 : Int))], [], [], 0⟩ trivial ?_
    refine AWp.block ?_
    refine AWp.loopL (α := Nat × (Nat × List Int)) (fun x => match x with | (_, n3, l4) => ⟨19, (f50z0 x1 x2 n3), [(5005, q2bI_3 l4)], [], 0⟩) (fun x => f50_L0 x1 x2 K1 x.1 x.2 = some r) (fun x => x.1) (FUEL, 0, []) (Le.trans (Le.trans (Le.nilOwn 5 5005 3 1 (encF eI 0 []) rfl rfl (Nat.le_of_ble_eq_true rfl)) (Le.mk (s' := ⟨19, [(0, .i x1), (5, .own 5005), (7, .i x2), (8, .i (0 : Int))], [(5005, q2bI_3 [])], [], 0⟩) rfl rfl ⟨.refl _, .refl _, .refl _, .refl _, trivial⟩ ⟨⟨_, rfl, .refl _⟩, trivial⟩)) (Le.mk (s' := ⟨19, [(0, .i x1), (5, .own 5005), (7, .i x2), (8, .i (0 : Int))], [(5005, q2bI_3 [])], [], 0⟩) rfl rfl ⟨.refl _, .refl _, .refl _, .refl _, trivial⟩ ⟨⟨_, rfl, .refl _⟩, trivial⟩)) h ?_
    rintro ⟨k0, n3, l4⟩ h
    cases k0 with
    | zero => exact nomatch (show (none : Option (List Int)) = some r from h)
    | succ k0 =>
    obtain ⟨C0, hC0⟩ : ∃ C, C = f50_L0 x1 x2 K1 k0 := ⟨_, rfl⟩
    replace h := (f50_L0.eq_2 ..).symm.trans h
    try rw [← hC0] at h
    refine q2rq [] [] ⟨19, [(0, .i x1), (5, .own 5005), (7, .i x2), (8, .i (n3 : Int)), (9, .bool (decide ((n3 : Int) < x2)))], [(5005, q2bI_3 l4)], [], 0⟩ trivial ?_
    refine AWp.seq ?_
    refine AWp.cond (b := (decide ((n3 : Int) < x2))) (by kernel_rfl) (fun hc1 => ?_) (fun hc1 => ?_)
    ·
      replace h := ite_tb hc1 h
      refine AWp.skip ?_
      refine thenQ_normal ?_
      refine AWp.seq ?_
      refine AWp.block ?_
      refine q2rq [] [] ⟨19, [(0, .i x1), (5, .own 5005), (6, .i (n3 : Int)), (7, .i x2), (8, .i (n3 : Int))], [(5005, q2bI_3 l4)], [], 0⟩ trivial ?_
      obtain ⟨ob0, ob1, h⟩ := ck2 h
      refine q2rr [] [] ⟨19, (f50z0 x1 x2 n3), [(5005, .rows 3 1 ((l4).length + 1) (appF (l4).length (encF eI 0 l4) (lstF 1 [.i (x1 + (n3 : Int))])))], [], 0⟩ (an2 ob0 ob1) ?_
      refine blockQ_normal ?_
      refine thenQ_normal ?_
      refine AWp.le (Le.mk (s' := ⟨19, (f50z0 x1 x2 n3), [(5005, q2bI_3 (l4 ++ [(x1 + (n3 : Int))]))], [], 0⟩) rfl rfl ⟨.refl _, .refl _, .refl _, .refl _, trivial⟩ ⟨⟨_, rfl, (BLe.of (RL.app (RL.self _) (RL.lst (enc := eI) [(x1 + (n3 : Int))] rfl rfl (fun _ => rfl))))⟩, trivial⟩) ?_
      obtain ⟨ob2p, h⟩ := chk_some h
      have ob2 : -9223372036854775808 ≤ ((n3 : Int) + (1 : Int)) ∧ ((n3 : Int) + (1 : Int)) ≤ 9223372036854775807 := ⟨by omega, ob2p⟩
      refine q2rr [] [] ⟨19, [(0, .i x1), (5, .own 5005), (7, .i x2), (8, .i (((n3 + 1) : Nat) : Int))], [(5005, q2bI_3 (l4 ++ [(x1 + (n3 : Int))]))], [], 0⟩ (an1 ob2) ?_
      rw [hC0] at h
      exact loopQ_normal (_, (n3 + 1), (l4 ++ [(x1 + (n3 : Int))])) (Le.mk rfl rfl ⟨.refl _, .refl _, .refl _, .refl _, trivial⟩ ⟨⟨_, rfl, .refl _⟩, trivial⟩) h (Nat.lt_succ_self _)
    ·
      replace h := ite_fb hc1 h
      refine AWp.exit ?_
      refine thenQ_exit ?_
      refine thenQ_exit ?_
      refine blockQ_same ?_
      exact joinQ_normal (l4) (Le.mk rfl rfl ⟨.refl _, trivial⟩ ⟨⟨_, rfl, .refl _⟩, trivial⟩) h
  ·
    rintro l5 h
    replace h := (congrFun hK1 _).symm.trans h
    refine q2rq [] [] ⟨19, [(4, .own 5005)], [(5005, q2bI_3 l5)], [], 0⟩ trivial ?_
    refine AWp.le (Le.trans (Le.freeze 5005 rfl rfl) (Le.mk (s' := ⟨19, [(4, q2aI l5)], [], [], 0⟩) rfl rfl ⟨.refl _, trivial⟩ trivial)) ?_
    have hret := Option.some.inj h
    subst hret
    refine AWp.le (Le.mk (s' := ⟨19, [(4, q2aI l5)], [], [], 0⟩) rfl rfl ⟨.refl _, trivial⟩ trivial) ?_
    refine AWp.ret ?_
    exact bodyQ_ret _ rfl ⟨rfl, rfl⟩ rfl
def f83 (x1 : Int) : Option ((List (Int × Int × Int × List Int × List Int)) × Int) :=
  some ([((1 : Int), x1, (0 : Int), [], [])], (0 : Int))
set_option maxRecDepth 100000 in
theorem f83_ok  (x1 : Int) (r : (List (Int × Int × Int × List Int × List Int)) × Int) (h : f83 x1 = some r)  : Spec1 Tryd.prog 83 [] [] [] [.int .i64 x1] (.agg [vL 5 eT67 (default : Int × Int × Int × List Int × List Int) r.1, .int .i64 r.2]) [] := by
  unfold f83 at h
  refine Spec1.bodyD [2] 0 _ _ Tryd.func83 rfl Tryd.ntmps83 rfl rfl ?_
  refine q2rq [] [] ⟨7, [(0, .i x1), (2, .ptr 2 0)], [(2, .cells 28 [.nils, .i (0 : Int)])], [], 0⟩ trivial ?_
  refine q2rq [] [] ⟨7, [(2, .ptr 2 0)], [(2, .cells 28 [.own 5, .i (0 : Int)]), (5, .rows 67 5 1 (lstF 5 [.i (1 : Int), .i x1, .i (0 : Int), .nils, .nils]))], [], 0⟩ (an1 trivial) ?_
  refine AWp.le (Le.mk (s' := ⟨7, [(2, .ptr 2 0)], [(2, .cells 28 [.own 5, .i (0 : Int)]), (5, q2bT67_67 [((1 : Int), x1, (0 : Int), [], [])])], [], 0⟩) rfl rfl ⟨.refl _, trivial⟩ ⟨⟨_, rfl, .refl _⟩, ⟨_, rfl, (BLe.of (RL.lstV (enc := eT67) [((1 : Int), x1, (0 : Int), [], [])] rfl ⟨.refl _, .refl _, .refl _, .nilL, .nilL, trivial⟩ (fun _ => rfl)))⟩, trivial⟩) ?_
  refine AWp.le (Le.trans (Le.freeze 5 rfl rfl) (Le.mk (s' := ⟨7, [(2, .ptr 2 0)], [(2, .cells 28 [q2aT67 [((1 : Int), x1, (0 : Int), [], [])], .i (0 : Int)])], [], 0⟩) rfl rfl ⟨.refl _, trivial⟩ ⟨⟨_, rfl, .refl _⟩, trivial⟩)) ?_
  have hret := Option.some.inj h
  subst hret
  refine AWp.le (Le.mk (s' := ⟨7, [(2, .ptr 2 0)], [(2, .cells 28 [q2aT67 [((1 : Int), x1, (0 : Int), [], [])], .i (0 : Int)])], [], 0⟩) rfl rfl ⟨.refl _, trivial⟩ ⟨⟨_, rfl, .refl _⟩, trivial⟩) ?_
  refine AWp.ret ?_
  exact bodyQ_ret _ rfl ⟨rfl, rfl⟩ rfl
def f49_L0 (x1 : List Int) (K1 : (List ((List (Int × Int × Int × List Int × List Int)) × Int)) → Option (List ((List (Int × Int × Int × List Int × List Int)) × Int))) : Nat → (Nat × (List ((List (Int × Int × Int × List Int × List Int)) × Int))) → Option (List ((List (Int × Int × Int × List Int × List Int)) × Int))
  | 0, _ => none
  | k + 1, (n2, l3) =>
    if (decide ((n2 : Int) < (((x1).length : Nat) : Int))) then (
    chk ((n2 : Int) < (((x1).length : Nat) : Int)) <|
    (f83 (x1.getD n2 0)).bind fun (r4 : (List (Int × Int × Int × List Int × List Int)) × Int) =>
    chk (((l3).length + 1) * 32 ≤ 140737488355328) <|
    chk (((n2 : Int) + (1 : Int)) ≤ 9223372036854775807) <|
    (f49_L0 x1 K1 k) ((n2 + 1), (l3 ++ [(r4.1, r4.2)]))
    ) else (
    K1 l3
    )
abbrev f49z0 := (List (Int × Int × Int × List Int × List Int))
abbrev f49z1 (x1 : List Int) (n2 : Nat) : List (Nat × V) := [(3, .own 5003), (6, vL 1 eI 0 x1), (7, .int .i64 (((x1).length : Nat) : Int)), (8, .int .i64 (n2 : Int))]
def f49 (x1 : List Int) : Option (List ((List (Int × Int × Int × List Int × List Int)) × Int)) :=
  jn (fun (l5 : List ((List (Int × Int × Int × List Int × List Int)) × Int)) =>
  some l5
  ) fun (K1 : (List ((List (Int × Int × Int × List Int × List Int)) × Int)) → Option (List ((List (Int × Int × Int × List Int × List Int)) × Int))) =>
  f49_L0 x1 K1 FUEL (0, [])
set_option maxRecDepth 100000 in
theorem f49_ok  (x1 : List Int) (r : List ((List (Int × Int × Int × List Int × List Int)) × Int)) (h : f49 x1 = some r)  : Spec1 Tryd.prog 49 [] [] [] [vL 1 eI 0 x1] (vL 2 eLT67JI (default : (List (Int × Int × Int × List Int × List Int)) × Int) r) [] := by
  unfold f49 at h
  refine Spec1.body 0 _ _ Tryd.func49 rfl Tryd.ntmps49 rfl rfl ?_
  refine q2rq [] [] ⟨19, [(0, q2aI x1)], [], [], 0⟩ trivial ?_
  refine q2rq [] [] ⟨19, [(0, q2aI x1), (3, .nils)], [], [], 0⟩ trivial ?_
  obtain ⟨K1, hK1, h⟩ := jn_some h
  refine AWp.join (α := List ((f49z0) × Int)) (fun (l5 : List ((f49z0) × Int)) => ⟨19, [(3, .own 5003)], [(5003, bL 28 2 eLT67JI (default : (f49z0) × Int) l5)], [], 0⟩) (fun x => K1 x = some r) ?_ ?_
  ·
    refine q2rq [] [] ⟨19, [(3, .nils), (6, q2aI x1), (7, .i (lZ x1)), (8, .i (0 : Int))], [], [], 0⟩ trivial ?_
    refine AWp.block ?_
    refine AWp.loopL (α := Nat × (Nat × (List ((f49z0) × Int)))) (fun x => match x with | (_, n2, l3) => ⟨19, (f49z1 x1 n2), [(5003, bL 28 2 eLT67JI (default : (f49z0) × Int) l3)], [], 0⟩) (fun x => f49_L0 x1 K1 x.1 x.2 = some r) (fun x => x.1) (FUEL, 0, []) (Le.trans (Le.trans (Le.nilOwn 3 5003 28 2 (encF eLT67JI (default : (f49z0) × Int) []) rfl rfl (Nat.le_of_ble_eq_true rfl)) (Le.mk (s' := ⟨19, [(3, .own 5003), (6, q2aI x1), (7, .i (lZ x1)), (8, .i (0 : Int))], [(5003, bL 28 2 eLT67JI (default : (f49z0) × Int) [])], [], 0⟩) rfl rfl ⟨.refl _, .refl _, .refl _, .refl _, trivial⟩ ⟨⟨_, rfl, .refl _⟩, trivial⟩)) (Le.mk (s' := ⟨19, [(3, .own 5003), (6, q2aI x1), (7, .i (lZ x1)), (8, .i (0 : Int))], [(5003, bL 28 2 eLT67JI (default : (f49z0) × Int) [])], [], 0⟩) rfl rfl ⟨.refl _, .refl _, .refl _, .refl _, trivial⟩ ⟨⟨_, rfl, .refl _⟩, trivial⟩)) h ?_
    rintro ⟨k0, n2, l3⟩ h
    cases k0 with
    | zero => exact nomatch (show (none : Option (List ((List (Int × Int × Int × List Int × List Int)) × Int))) = some r from h)
    | succ k0 =>
    obtain ⟨C0, hC0⟩ : ∃ C, C = f49_L0 x1 K1 k0 := ⟨_, rfl⟩
    replace h := (f49_L0.eq_2 ..).symm.trans h
    try rw [← hC0] at h
    refine q2rq [] [] ⟨19, [(3, .own 5003), (6, q2aI x1), (7, .i (lZ x1)), (8, .i (n2 : Int)), (9, .bool (decide ((n2 : Int) < (lZ x1))))], [(5003, bL 28 2 eLT67JI (default : (f49z0) × Int) l3)], [], 0⟩ trivial ?_
    refine AWp.seq ?_
    refine AWp.cond (b := (decide ((n2 : Int) < (lZ x1)))) (by kernel_rfl) (fun hc1 => ?_) (fun hc1 => ?_)
    ·
      replace h := ite_tb hc1 h
      refine AWp.skip ?_
      refine thenQ_normal ?_
      refine AWp.seq ?_
      refine AWp.block ?_
      refine AWp.seq ?_
      obtain ⟨ob0p, h⟩ := chk_some h
      have ob0 : 0 ≤ (n2 : Int) ∧ (n2 : Int) < (((x1).length : Nat) : Int) := ⟨by omega, ob0p⟩
      refine q2rr [] [] ⟨19, [(3, .own 5003), (5, .i (x1.getD n2 0)), (6, q2aI x1), (7, .i (lZ x1)), (8, .i (n2 : Int))], [(5003, bL 28 2 eLT67JI (default : (f49z0) × Int) l3)], [], 0⟩ (an1 ob0) ?_
      refine thenQ_normal ?_
      obtain ⟨r4, hr4, h⟩ := bind_ok h
      obtain ⟨ob1, h⟩ := chk_some h
      refine q2rr [] [(2, ⟨[.i (x1.getD n2 0)], [], [], [], .agg [q2aT67 r4.1, .i r4.2], [], [], []⟩)] ⟨19, (f49z1 x1 n2), [(5003, .rows 28 2 ((l3).length + 1) (appF (l3).length (encF eLT67JI (default : (f49z0) × Int) l3) (lstF 2 [q2aT67 r4.1, .i r4.2])))], [], 0⟩ (an2 (cpT (f83_ok _ _ hr4)) ob1) ?_
      refine blockQ_normal ?_
      refine thenQ_normal ?_
      refine AWp.le (Le.mk (s' := ⟨19, (f49z1 x1 n2), [(5003, bL 28 2 eLT67JI (default : (f49z0) × Int) (l3 ++ [(r4.1, r4.2)]))], [], 0⟩) rfl rfl ⟨.refl _, .refl _, .refl _, .refl _, trivial⟩ ⟨⟨_, rfl, (BLe.of (RL.app (RL.self _) (RL.lstV (enc := eLT67JI) [(r4.1, r4.2)] rfl ⟨.refl _, .refl _, trivial⟩ (fun _ => rfl))))⟩, trivial⟩) ?_
      obtain ⟨ob2p, h⟩ := chk_some h
      have ob2 : -9223372036854775808 ≤ ((n2 : Int) + (1 : Int)) ∧ ((n2 : Int) + (1 : Int)) ≤ 9223372036854775807 := ⟨by omega, ob2p⟩
      refine q2rr [] [] ⟨19, [(3, .own 5003), (6, q2aI x1), (7, .i (lZ x1)), (8, .i (((n2 + 1) : Nat) : Int))], [(5003, bL 28 2 eLT67JI (default : (f49z0) × Int) (l3 ++ [(r4.1, r4.2)]))], [], 0⟩ (an1 ob2) ?_
      rw [hC0] at h
      exact loopQ_normal (_, (n2 + 1), (l3 ++ [(r4.1, r4.2)])) (Le.mk rfl rfl ⟨.refl _, .refl _, .refl _, .refl _, trivial⟩ ⟨⟨_, rfl, .refl _⟩, trivial⟩) h (Nat.lt_succ_self _)
    ·
      replace h := ite_fb hc1 h
      refine AWp.exit ?_
      refine thenQ_exit ?_
      refine thenQ_exit ?_
      refine blockQ_same ?_
      exact joinQ_normal (l3) (Le.mk rfl rfl ⟨.refl _, trivial⟩ ⟨⟨_, rfl, .refl _⟩, trivial⟩) h
  ·
    rintro l5 h
    replace h := (congrFun hK1 _).symm.trans h
    refine q2rq [] [] ⟨19, [(2, .own 5003)], [(5003, bL 28 2 eLT67JI (default : (f49z0) × Int) l5)], [], 0⟩ trivial ?_
    refine AWp.le (Le.trans (Le.freeze 5003 rfl rfl) (Le.mk (s' := ⟨19, [(2, vL 2 eLT67JI (default : (f49z0) × Int) l5)], [], [], 0⟩) rfl rfl ⟨.refl _, trivial⟩ trivial)) ?_
    have hret := Option.some.inj h
    subst hret
    refine AWp.le (Le.mk (s' := ⟨19, [(2, vL 2 eLT67JI (default : (f49z0) × Int) l5)], [], [], 0⟩) rfl rfl ⟨.refl _, trivial⟩ trivial) ?_
    refine AWp.ret ?_
    exact bodyQ_ret _ rfl ⟨rfl, rfl⟩ rfl
def f35 (x1 : List Int) : Option (List Int) :=
  abc ((x1).length = 0) (
  some []
  ) (
  chk ((0 + (x1).length) * 8 ≤ 140737488355328) <|
  some ([] ++ x1)
  )
set_option maxRecDepth 100000 in
theorem f35_ok  (x1 : List Int) (r : List Int) (h : f35 x1 = some r)  : Spec1 Tryd.prog 35 [] [] [] [vL 1 eI 0 x1] (.own 3000) [(3000, bL 3 1 eI 0 r)] := by
  unfold f35 at h
  refine Spec1.body 0 _ _ Tryd.func35 rfl Tryd.ntmps35 rfl rfl ?_
  refine q2rq [] [] ⟨8, [(0, q2aI x1)], [], [], 0⟩ trivial ?_
  refine AWp.seq ?_
  refine q2rq [] [] ⟨8, [(0, q2aI x1), (4, .abool (fun b => b = true → (x1).length = 0))], [], [], 0⟩ trivial ?_
  obtain ⟨hA1, hB1⟩ := abc_some h
  refine AWp.condAb (fun b => b = true → (x1).length = 0) (by kernel_rfl) (fun hc1 => ?_) (fun hc1 => ?_)
  ·
    have h := hA1 (hc1 rfl)
    refine q2rq [] [] ⟨8, [(2, .nils)], [], [], 0⟩ trivial ?_
    refine AWp.le (Le.trans (Le.nilOwn 2 3000 3 1 (encF eI 0 []) rfl rfl (Nat.le_of_ble_eq_true rfl)) (Le.mk (s' := ⟨8, [(2, .own 3000)], [(3000, q2bI_3 [])], [], 0⟩) rfl rfl ⟨.refl _, trivial⟩ ⟨⟨_, rfl, .refl _⟩, trivial⟩)) ?_
    have hret := Option.some.inj h
    subst hret
    refine AWp.le (Le.mk (s' := ⟨8, [(2, .own 3000)], [(3000, q2bI_3 [])], [], 0⟩) rfl rfl ⟨.refl _, trivial⟩ ⟨⟨_, rfl, .refl _⟩, trivial⟩) ?_
    refine AWp.ret ?_
    refine thenQ_ret ?_
    exact bodyQ_ret _ rfl ⟨rfl, rfl⟩ rfl
  ·
    have h := hB1
    refine AWp.skip ?_
    refine thenQ_normal ?_
    refine AWp.seq ?_
    obtain ⟨ob0, h⟩ := chk_some h
    refine q2rr [] [] ⟨8, [(2, .own 5)], [(5, .rows 3 1 (0 + (x1).length) (appF 0 (lstF 1 []) (encF eI 0 x1)))], [], 0⟩ (an1 ob0) ?_
    refine thenQ_normal ?_
    refine AWp.le (Le.mk (s' := ⟨8, [(2, .own 5)], [(5, q2bI_3 ([] ++ x1))], [], 0⟩) rfl rfl ⟨.refl _, trivial⟩ ⟨⟨_, rfl, (BLe.of (RL.app (RL.lst (enc := eI) [] rfl rfl (fun _ => rfl)) (RL.self _)))⟩, trivial⟩) ?_
    refine AWp.le (Le.trans (Le.ren (swapN 5 3000) (swapN_inv 5 3000) rfl) (Le.mk (s' := ⟨8, [(2, .own 3000)], [(3000, q2bI_3 ([] ++ x1))], [], 0⟩) rfl rfl ⟨.refl _, trivial⟩ ⟨⟨_, rfl, .refl _⟩, trivial⟩)) ?_
    have hret := Option.some.inj h
    subst hret
    refine AWp.le (Le.mk (s' := ⟨8, [(2, .own 3000)], [(3000, q2bI_3 ([] ++ x1))], [], 0⟩) rfl rfl ⟨.refl _, trivial⟩ ⟨⟨_, rfl, .refl _⟩, trivial⟩) ?_
    refine AWp.ret ?_
    exact bodyQ_ret _ rfl ⟨rfl, rfl⟩ rfl
def f48_L2 (l6 : List (Int × Int × Int × List Int × List Int)) (r11 : List Int) (K3 : (List Int) → Option ((List (Int × Int × Int × List Int × List Int)) × Int)) : Nat → (Nat × List Int) → Option ((List (Int × Int × Int × List Int × List Int)) × Int)
  | 0, _ => none
  | k + 1, (n12, l13) =>
    if (decide ((n12 : Int) < (((r11).length : Nat) : Int))) then (
    chk ((n12 : Int) < (((l13).length : Nat) : Int)) <|
    chk (n12 < (l13).length) <|
    chk (-9223372036854775808 ≤ ((l13.getD n12 0) + (((l6).length : Nat) : Int)) ∧ ((l13.getD n12 0) + (((l6).length : Nat) : Int)) ≤ 9223372036854775807) <|
    chk ((n12 : Int) < (((l13).length : Nat) : Int)) <|
    chk (n12 < (l13).length) <|
    chk (((n12 : Int) + (1 : Int)) ≤ 9223372036854775807) <|
    (f48_L2 l6 r11 K3 k) ((n12 + 1), (l13.set n12 ((l13.getD n12 0) + (((l6).length : Nat) : Int))))
    ) else (
    K3 l13
    )
def f48_L1 (x2 : List ((List (Int × Int × Int × List Int × List Int)) × Int)) (n5 : Nat) (l6 : List (Int × Int × Int × List Int × List Int)) (K2 : (List (Int × Int × Int × List Int × List Int)) → Option ((List (Int × Int × Int × List Int × List Int)) × Int)) : Nat → (Nat × (List (Int × Int × Int × List Int × List Int))) → Option ((List (Int × Int × Int × List Int × List Int)) × Int)
  | 0, _ => none
  | k + 1, (n8, l9) =>
    if (decide ((n8 : Int) < ((((x2.getD n5 (default : (List (Int × Int × Int × List Int × List Int)) × Int)).1).length : Nat) : Int))) then (
    chk ((n8 : Int) < ((((x2.getD n5 (default : (List (Int × Int × Int × List Int × List Int)) × Int)).1).length : Nat) : Int)) <|
    (f35 ((((x2.getD n5 (default : (List (Int × Int × Int × List Int × List Int)) × Int)).1).getD n8 (default : Int × Int × Int × List Int × List Int)).2.2.2.1)).bind fun (r10 : List Int) =>
    (f35 ((((x2.getD n5 (default : (List (Int × Int × Int × List Int × List Int)) × Int)).1).getD n8 (default : Int × Int × Int × List Int × List Int)).2.2.2.2)).bind fun (r11 : List Int) =>
    jn (fun (l14 : List Int) =>
    chk (((l9).length + 1) * 72 ≤ 140737488355328) <|
    chk (((n8 : Int) + (1 : Int)) ≤ 9223372036854775807) <|
    (f48_L1 x2 n5 l6 K2 k) ((n8 + 1), (l9 ++ [((((x2.getD n5 (default : (List (Int × Int × Int × List Int × List Int)) × Int)).1).getD n8 (default : Int × Int × Int × List Int × List Int)).1, (((x2.getD n5 (default : (List (Int × Int × Int × List Int × List Int)) × Int)).1).getD n8 (default : Int × Int × Int × List Int × List Int)).2.1, (((x2.getD n5 (default : (List (Int × Int × Int × List Int × List Int)) × Int)).1).getD n8 (default : Int × Int × Int × List Int × List Int)).2.2.1, r10, l14)]))
    ) fun (K3 : (List Int) → Option ((List (Int × Int × Int × List Int × List Int)) × Int)) =>
    f48_L2 l6 r11 K3 FUEL (0, r11)
    ) else (
    K2 l9
    )
def f48_L0 (x2 : List ((List (Int × Int × Int × List Int × List Int)) × Int)) (K1 : ((List (Int × Int × Int × List Int × List Int)) × List Int) → Option ((List (Int × Int × Int × List Int × List Int)) × Int)) : Nat → (Nat × (List (Int × Int × Int × List Int × List Int)) × List Int) → Option ((List (Int × Int × Int × List Int × List Int)) × Int)
  | 0, _ => none
  | k + 1, (n5, l6, l7) =>
    if (decide ((n5 : Int) < (((x2).length : Nat) : Int))) then (
    chk ((n5 : Int) < (((x2).length : Nat) : Int)) <|
    jn (fun (l15 : List (Int × Int × Int × List Int × List Int)) =>
    chk (-9223372036854775808 ≤ ((((l6).length : Nat) : Int) + (x2.getD n5 (default : (List (Int × Int × Int × List Int × List Int)) × Int)).2) ∧ ((((l6).length : Nat) : Int) + (x2.getD n5 (default : (List (Int × Int × Int × List Int × List Int)) × Int)).2) ≤ 9223372036854775807) <|
    chk (((l7).length + 1) * 8 ≤ 140737488355328) <|
    chk (((n5 : Int) + (1 : Int)) ≤ 9223372036854775807) <|
    (f48_L0 x2 K1 k) ((n5 + 1), l15, (l7 ++ [((((l6).length : Nat) : Int) + (x2.getD n5 (default : (List (Int × Int × Int × List Int × List Int)) × Int)).2)]))
    ) fun (K2 : (List (Int × Int × Int × List Int × List Int)) → Option ((List (Int × Int × Int × List Int × List Int)) × Int)) =>
    f48_L1 x2 n5 l6 K2 FUEL (0, l6)
    ) else (
    K1 (l6, l7)
    )
abbrev f48z0 (x2 : List ((List (Int × Int × Int × List Int × List Int)) × Int)) (n5 : Nat) := (x2.getD n5 (default : (List (Int × Int × Int × List Int × List Int)) × Int))
abbrev f48z1 (x2 : List ((List (Int × Int × Int × List Int × List Int)) × Int)) (n5 : Nat) (n8 : Nat) := (((f48z0 x2 n5).1).getD n8 (default : Int × Int × Int × List Int × List Int))
abbrev f48z2 (l6 : List (Int × Int × Int × List Int × List Int)) (x2 : List ((List (Int × Int × Int × List Int × List Int)) × Int)) (n5 : Nat) (n8 : Nat) : List (Nat × V) := [(6, .ptr 6 0), (7, .ptr 7 0), (8, .ptr 8 0), (10, .ptr 10 0), (11, .int .i64 (((l6).length : Nat) : Int)), (13, .ptr 13 0), (19, vL 2 eLT67JI (default : (List (Int × Int × Int × List Int × List Int)) × Int) x2), (20, .int .i64 (((x2).length : Nat) : Int)), (21, .int .i64 (n5 : Int)), (29, vL 5 eT67 (default : Int × Int × Int × List Int × List Int) (f48z0 x2 n5).1), (30, .int .i64 ((((f48z0 x2 n5).1).length : Nat) : Int)), (31, .int .i64 (n8 : Int))]
abbrev f48z3 (x1 : Int) : List V := [.int .i64 (2 : Int), .int .i64 (0 : Int), .int .i64 x1, .own 6001, .own 6304]
abbrev f48z4 (x2 : List ((List (Int × Int × Int × List Int × List Int)) × Int)) (n5 : Nat) : List V := [vL 5 eT67 (default : Int × Int × Int × List Int × List Int) (f48z0 x2 n5).1, .int .i64 (f48z0 x2 n5).2]
abbrev f48z5 := (List (Int × Int × Int × List Int × List Int))
abbrev f48z6 (x2 : List ((List (Int × Int × Int × List Int × List Int)) × Int)) (n5 : Nat) (n8 : Nat) : List V := [.int .i64 (f48z1 x2 n5 n8).1, .int .i64 (f48z1 x2 n5 n8).2.1, .int .i64 (f48z1 x2 n5 n8).2.2.1, .own 6002, .own 6003]
abbrev f48z7 : List V := [.own 6200, .int .i64 (0 : Int)]
abbrev f48z8 (l6 : List (Int × Int × Int × List Int × List Int)) (x2 : List ((List (Int × Int × Int × List Int × List Int)) × Int)) (n5 : Nat) (n8 : Nat) (r11 : List Int) (n12 : Nat) : List (Nat × V) := [(6, .ptr 6 0), (7, .ptr 7 0), (8, .ptr 8 0), (10, .ptr 10 0), (11, .int .i64 (((l6).length : Nat) : Int)), (13, .ptr 13 0), (19, vL 2 eLT67JI (default : (f48z5) × Int) x2), (20, .int .i64 (((x2).length : Nat) : Int)), (21, .int .i64 (n5 : Int)), (29, vL 5 eT67 (default : Int × Int × Int × List Int × List Int) (f48z0 x2 n5).1), (30, .int .i64 ((((f48z0 x2 n5).1).length : Nat) : Int)), (31, .int .i64 (n8 : Int)), (45, .int .i64 (((r11).length : Nat) : Int)), (46, .int .i64 (n12 : Int))]
abbrev f48z9 (x2 : List ((List (Int × Int × Int × List Int × List Int)) × Int)) : List (Nat × V) := [(6, .ptr 6 0), (7, .ptr 7 0), (8, .ptr 8 0), (19, vL 2 eLT67JI (default : (f48z5) × Int) x2), (20, .int .i64 (((x2).length : Nat) : Int)), (21, .int .i64 (0 : Int))]
abbrev f48z10 (x1 : Int) (x2 : List ((List (Int × Int × Int × List Int × List Int)) × Int)) (n5 : Nat) (n8 : Nat) (r4 : List Int) (r10 : List Int) (l13 : List Int) (l9 : List (Int × Int × Int × List Int × List Int)) (l7 : List Int) : Heap := [(6, .cells 28 [.nils, .int .i64 (0 : Int)]), (7, .cells 28 (f48z7)), (8, .cells 67 (f48z3 x1)), (10, .cells 28 (f48z4 x2 n5)), (13, .cells 67 (f48z6 x2 n5 n8)), (6001, bL 3 1 eI 0 r4), (6002, bL 3 1 eI 0 r10), (6003, bL 3 1 eI 0 l13), (6200, bL 67 5 eT67 (default : Int × Int × Int × List Int × List Int) l9), (6304, bL 3 1 eI 0 l7)]
abbrev f48z11 (l6 : List (Int × Int × Int × List Int × List Int)) (x2 : List ((List (Int × Int × Int × List Int × List Int)) × Int)) (n5 : Nat) (n8 : Nat) : List (Nat × V) := [(6, .ptr 6 0), (7, .ptr 7 0), (8, .ptr 8 0), (10, .ptr 10 0), (11, .int .i64 (((l6).length : Nat) : Int)), (19, vL 2 eLT67JI (default : (f48z5) × Int) x2), (20, .int .i64 (((x2).length : Nat) : Int)), (21, .int .i64 (n5 : Int)), (29, vL 5 eT67 (default : Int × Int × Int × List Int × List Int) (f48z0 x2 n5).1), (30, .int .i64 ((((f48z0 x2 n5).1).length : Nat) : Int)), (31, .int .i64 (n8 : Int))]
abbrev f48z12 (x1 : Int) (x2 : List ((List (Int × Int × Int × List Int × List Int)) × Int)) (n5 : Nat) (r4 : List Int) (l6 : List (Int × Int × Int × List Int × List Int)) (l7 : List Int) : Heap := [(6, .cells 28 [.nils, .int .i64 (0 : Int)]), (7, .cells 28 (f48z7)), (8, .cells 67 (f48z3 x1)), (10, .cells 28 (f48z4 x2 n5)), (6001, bL 3 1 eI 0 r4), (6200, bL 67 5 eT67 (default : Int × Int × Int × List Int × List Int) l6), (6304, bL 3 1 eI 0 l7)]
abbrev f48z13 (x1 : Int) (x2 : List ((List (Int × Int × Int × List Int × List Int)) × Int)) (n5 : Nat) (n8 : Nat) (r4 : List Int) (r10 : List Int) (l13 : List Int) (n12 : Nat) (l6 : List (Int × Int × Int × List Int × List Int)) (l9 : List (Int × Int × Int × List Int × List Int)) (l7 : List Int) : Heap := [(6, .cells 28 [.nils, .int .i64 (0 : Int)]), (7, .cells 28 (f48z7)), (8, .cells 67 (f48z3 x1)), (10, .cells 28 (f48z4 x2 n5)), (13, .cells 67 (f48z6 x2 n5 n8)), (6001, bL 3 1 eI 0 r4), (6002, bL 3 1 eI 0 r10), (6003, bL 3 1 eI 0 (l13.set n12 ((l13.getD n12 0) + (((l6).length : Nat) : Int)))), (6200, bL 67 5 eT67 (default : Int × Int × Int × List Int × List Int) l9), (6304, bL 3 1 eI 0 l7)]
abbrev f48z14 (x1 : Int) (r4 : List Int) : Heap := [(6, .cells 28 [.nils, .int .i64 (0 : Int)]), (7, .cells 28 [.nils, .int .i64 (0 : Int)]), (8, .cells 67 [.int .i64 (2 : Int), .int .i64 (0 : Int), .int .i64 x1, .own 6001, .nils]), (6001, bL 3 1 eI 0 r4)]
abbrev f48z15 (x1 : Int) (x2 : List ((List (Int × Int × Int × List Int × List Int)) × Int)) (n5 : Nat) (n8 : Nat) (r4 : List Int) (r10 : List Int) (r11 : List Int) (l9 : List (Int × Int × Int × List Int × List Int)) (l7 : List Int) : Heap := [(6, .cells 28 [.nils, .int .i64 (0 : Int)]), (7, .cells 28 (f48z7)), (8, .cells 67 (f48z3 x1)), (10, .cells 28 (f48z4 x2 n5)), (13, .cells 67 (f48z6 x2 n5 n8)), (6001, bL 3 1 eI 0 r4), (6002, bL 3 1 eI 0 r10), (6003, bL 3 1 eI 0 r11), (6200, bL 67 5 eT67 (default : Int × Int × Int × List Int × List Int) l9), (6304, bL 3 1 eI 0 l7)]
abbrev f48z16 (x1 : Int) (x2 : List ((List (Int × Int × Int × List Int × List Int)) × Int)) (n5 : Nat) (r4 : List Int) (l9 : List (Int × Int × Int × List Int × List Int)) (n8 : Nat) (r10 : List Int) (l14 : List Int) (l7 : List Int) : Heap := [(6, .cells 28 [.nils, .int .i64 (0 : Int)]), (7, .cells 28 (f48z7)), (8, .cells 67 (f48z3 x1)), (10, .cells 28 (f48z4 x2 n5)), (6001, bL 3 1 eI 0 r4), (6200, bL 67 5 eT67 (default : Int × Int × Int × List Int × List Int) (l9 ++ [((f48z1 x2 n5 n8).1, (f48z1 x2 n5 n8).2.1, (f48z1 x2 n5 n8).2.2.1, r10, l14)])), (6304, bL 3 1 eI 0 l7)]
abbrev f48z17 (l6 : List (Int × Int × Int × List Int × List Int)) (x2 : List ((List (Int × Int × Int × List Int × List Int)) × Int)) (n5 : Nat) : List (Nat × V) := [(6, .ptr 6 0), (7, .ptr 7 0), (8, .ptr 8 0), (10, .ptr 10 0), (11, .int .i64 (((l6).length : Nat) : Int)), (19, vL 2 eLT67JI (default : (f48z5) × Int) x2), (20, .int .i64 (((x2).length : Nat) : Int)), (21, .int .i64 (n5 : Int))]
abbrev f48z18 (x1 : Int) (r4 : List Int) (l6 : List (Int × Int × Int × List Int × List Int)) (l7 : List Int) : Heap := [(6, .cells 28 [.nils, .int .i64 (0 : Int)]), (7, .cells 28 (f48z7)), (8, .cells 67 (f48z3 x1)), (6001, bL 3 1 eI 0 r4), (6200, bL 67 5 eT67 (default : Int × Int × Int × List Int × List Int) l6), (6304, bL 3 1 eI 0 l7)]
abbrev f48z19 (x1 : Int) (x2 : List ((List (Int × Int × Int × List Int × List Int)) × Int)) (n5 : Nat) (r4 : List Int) (l9 : List (Int × Int × Int × List Int × List Int)) (l7 : List Int) : Heap := [(6, .cells 28 [.nils, .int .i64 (0 : Int)]), (7, .cells 28 (f48z7)), (8, .cells 67 (f48z3 x1)), (10, .cells 28 (f48z4 x2 n5)), (6001, bL 3 1 eI 0 r4), (6200, bL 67 5 eT67 (default : Int × Int × Int × List Int × List Int) l9), (6304, bL 3 1 eI 0 l7)]
abbrev f48z20 (l16 : List (Int × Int × Int × List Int × List Int)) : List V := [.own 6200, .int .i64 (((l16).length : Nat) : Int)]
abbrev f48z21 (x1 : Int) (r4 : List Int) (l15 : List (Int × Int × Int × List Int × List Int)) (l7 : List Int) (l6 : List (Int × Int × Int × List Int × List Int)) (x2 : List ((List (Int × Int × Int × List Int × List Int)) × Int)) (n5 : Nat) : Heap := [(6, .cells 28 [.nils, .int .i64 (0 : Int)]), (7, .cells 28 (f48z7)), (8, .cells 67 (f48z3 x1)), (6001, bL 3 1 eI 0 r4), (6200, bL 67 5 eT67 (default : Int × Int × Int × List Int × List Int) l15), (6304, bL 3 1 eI 0 (l7 ++ [((((l6).length : Nat) : Int) + (f48z0 x2 n5).2)]))]
abbrev f48z22 (x2 : List ((List (Int × Int × Int × List Int × List Int)) × Int)) (n5 : Nat) : List (Nat × V) := [(6, .ptr 6 0), (7, .ptr 7 0), (8, .ptr 8 0), (19, vL 2 eLT67JI (default : (f48z5) × Int) x2), (20, .int .i64 (((x2).length : Nat) : Int)), (21, .int .i64 (n5 : Int))]
abbrev f48z23 : List (Nat × V) := [(6, .ptr 6 0), (7, .ptr 7 0), (8, .ptr 8 0)]
def f48 (x1 : Int) (x2 : List ((List (Int × Int × Int × List Int × List Int)) × Int)) (x3 : List Int) : Option ((List (Int × Int × Int × List Int × List Int)) × Int) :=
  (f35 x3).bind fun (r4 : List Int) =>
  jn (fun ((l16, l17) : (List (Int × Int × Int × List Int × List Int)) × List Int) =>
  chk (((l16).length + 1) * 72 ≤ 140737488355328) <|
  some ((l16 ++ [((2 : Int), (0 : Int), x1, r4, l17)]), (((l16).length : Nat) : Int))
  ) fun (K1 : ((List (Int × Int × Int × List Int × List Int)) × List Int) → Option ((List (Int × Int × Int × List Int × List Int)) × Int)) =>
  f48_L0 x2 K1 FUEL (0, [], [])
set_option maxRecDepth 100000 in
theorem f48_ok  (x1 : Int) (x2 : List ((List (Int × Int × Int × List Int × List Int)) × Int)) (x3 : List Int) (r : (List (Int × Int × Int × List Int × List Int)) × Int) (h : f48 x1 x2 x3 = some r)  : Spec1 Tryd.prog 48 [] [] [] [.int .i64 x1, vL 2 eLT67JI (default : (List (Int × Int × Int × List Int × List Int)) × Int) x2, vL 1 eI 0 x3] (.agg [vL 5 eT67 (default : Int × Int × Int × List Int × List Int) r.1, .int .i64 r.2]) [] := by
  unfold f48 at h
  refine Spec1.bodyD [6] 0 _ _ Tryd.func48 rfl Tryd.ntmps48 rfl rfl ?_
  refine q2rq [] [] ⟨86, [(0, .i x1), (1, vL 2 eLT67JI (default : (f48z5) × Int) x2), (2, q2aI x3), (6, .ptr 6 0)], [(6, .cells 28 [.nils, .i (0 : Int)])], [], 0⟩ trivial ?_
  refine q2rq [] [] ⟨86, [(0, .i x1), (1, vL 2 eLT67JI (default : (f48z5) × Int) x2), (2, q2aI x3), (6, .ptr 6 0), (7, .ptr 7 0)], [(6, .cells 28 [.nils, .i (0 : Int)]), (7, .cells 28 [.nils, .i (0 : Int)])], [], 0⟩ trivial ?_
  refine AWp.seq ?_
  obtain ⟨r4, hr4, h⟩ := bind_ok h
  refine q2rr [] [(2, ⟨[q2aI x3], [], [], [(6001, q2bI_3 r4)], .own 6001, [6001], [], []⟩)] ⟨86, [(1, vL 2 eLT67JI (default : (f48z5) × Int) x2), (6, .ptr 6 0), (7, .ptr 7 0), (8, .ptr 8 0)], (f48z14 x1 r4), [], 0⟩ (an2 (cpT (Spec1.ren (swapN 3000 6001) (swapN_inv 3000 6001) rfl (f35_ok _ _ hr4))) trivial) ?_
  refine thenQ_normal ?_
  obtain ⟨K1, hK1, h⟩ := jn_some h
  refine AWp.join (α := (f48z5) × List Int) (fun (x : (f48z5) × List Int) => match x with | (l16, l17) => ⟨86, (f48z23), [(6, .cells 28 [.nils, .i (0 : Int)]), (7, .cells 28 (f48z7)), (8, .cells 67 (f48z3 x1)), (6001, q2bI_3 r4), (6200, q2bT67_67 l16), (6304, q2bI_3 l17)], [], 0⟩) (fun x => K1 x = some r) ?_ ?_
  ·
    refine q2rq [] [] ⟨86, (f48z9 x2), (f48z14 x1 r4), [], 0⟩ trivial ?_
    refine AWp.block ?_
    refine AWp.loopL (α := Nat × (Nat × (f48z5) × List Int)) (fun x => match x with | (_, n5, l6, l7) => ⟨86, (f48z22 x2 n5), (f48z18 x1 r4 l6 l7), [], 0⟩) (fun x => f48_L0 x2 K1 x.1 x.2 = some r) (fun x => x.1) (FUEL, 0, [], []) (Le.trans (Le.trans (Le.nilOwnC 7 0 6200 67 5 (encF eT67 q2dT67 []) rfl rfl rfl) (Le.mk (s' := ⟨86, (f48z9 x2), [(6, .cells 28 [.nils, .i (0 : Int)]), (7, .cells 28 (f48z7)), (8, .cells 67 [.i (2 : Int), .i (0 : Int), .i x1, .own 6001, .nils]), (6001, q2bI_3 r4), (6200, q2bT67_67 [])], [], 0⟩) rfl rfl ⟨.refl _, .refl _, .refl _, .refl _, .refl _, .refl _, trivial⟩ ⟨⟨_, rfl, .refl _⟩, ⟨_, rfl, .refl _⟩, ⟨_, rfl, .refl _⟩, ⟨_, rfl, .refl _⟩, ⟨_, rfl, .refl _⟩, trivial⟩)) (Le.trans (Le.trans (Le.nilOwnC 8 4 6304 3 1 (encF eI 0 []) rfl rfl rfl) (Le.mk (s' := ⟨86, (f48z9 x2), [(6, .cells 28 [.nils, .i (0 : Int)]), (7, .cells 28 (f48z7)), (8, .cells 67 (f48z3 x1)), (6001, q2bI_3 r4), (6200, q2bT67_67 []), (6304, q2bI_3 [])], [], 0⟩) rfl rfl ⟨.refl _, .refl _, .refl _, .refl _, .refl _, .refl _, trivial⟩ ⟨⟨_, rfl, .refl _⟩, ⟨_, rfl, .refl _⟩, ⟨_, rfl, .refl _⟩, ⟨_, rfl, .refl _⟩, ⟨_, rfl, .refl _⟩, ⟨_, rfl, .refl _⟩, trivial⟩)) (Le.mk (s' := ⟨86, (f48z9 x2), [(6, .cells 28 [.nils, .i (0 : Int)]), (7, .cells 28 (f48z7)), (8, .cells 67 (f48z3 x1)), (6001, q2bI_3 r4), (6200, q2bT67_67 []), (6304, q2bI_3 [])], [], 0⟩) rfl rfl ⟨.refl _, .refl _, .refl _, .refl _, .refl _, .refl _, trivial⟩ ⟨⟨_, rfl, .refl _⟩, ⟨_, rfl, .refl _⟩, ⟨_, rfl, .refl _⟩, ⟨_, rfl, .refl _⟩, ⟨_, rfl, .refl _⟩, ⟨_, rfl, .refl _⟩, trivial⟩))) h ?_
    rintro ⟨k0, n5, l6, l7⟩ h
    cases k0 with
    | zero => exact nomatch (show (none : Option ((List (Int × Int × Int × List Int × List Int)) × Int)) = some r from h)
    | succ k0 =>
    obtain ⟨C0, hC0⟩ : ∃ C, C = f48_L0 x2 K1 k0 := ⟨_, rfl⟩
    replace h := (f48_L0.eq_2 ..).symm.trans h
    try rw [← hC0] at h
    refine q2rq [] [] ⟨86, [(6, .ptr 6 0), (7, .ptr 7 0), (8, .ptr 8 0), (19, vL 2 eLT67JI (default : (f48z5) × Int) x2), (20, .i (lZ x2)), (21, .i (n5 : Int)), (22, .bool (decide ((n5 : Int) < (lZ x2))))], (f48z18 x1 r4 l6 l7), [], 0⟩ trivial ?_
    refine AWp.seq ?_
    refine AWp.cond (b := (decide ((n5 : Int) < (lZ x2)))) (by kernel_rfl) (fun hc1 => ?_) (fun hc1 => ?_)
    ·
      replace h := ite_tb hc1 h
      refine AWp.skip ?_
      refine thenQ_normal ?_
      refine AWp.seq ?_
      refine AWp.block ?_
      refine AWp.seq ?_
      obtain ⟨ob0p, h⟩ := chk_some h
      have ob0 : 0 ≤ (n5 : Int) ∧ (n5 : Int) < (((x2).length : Nat) : Int) := ⟨by omega, ob0p⟩
      refine q2rr [] [] ⟨86, [(6, .ptr 6 0), (7, .ptr 7 0), (8, .ptr 8 0), (10, .ptr 10 0), (19, vL 2 eLT67JI (default : (f48z5) × Int) x2), (20, .i (lZ x2)), (21, .i (n5 : Int))], (f48z12 x1 x2 n5 r4 l6 l7), [], 0⟩ (an2 ob0 trivial) ?_
      refine thenQ_normal ?_
      refine q2rq [] [] ⟨86, (f48z17 l6 x2 n5), (f48z12 x1 x2 n5 r4 l6 l7), [], 0⟩ trivial ?_
      obtain ⟨K2, hK2, h⟩ := jn_some h
      refine AWp.join (α := List (Int × Int × Int × List Int × List Int)) (fun (l15 : List (Int × Int × Int × List Int × List Int)) => ⟨86, (f48z17 l6 x2 n5), [(6, .cells 28 [.nils, .i (0 : Int)]), (7, .cells 28 (f48z7)), (8, .cells 67 (f48z3 x1)), (10, .cells 28 (f48z4 x2 n5)), (6001, q2bI_3 r4), (6200, q2bT67_67 l15), (6304, q2bI_3 l7)], [], 0⟩) (fun x => K2 x = some r) ?_ ?_
      ·
        refine q2rq [] [] ⟨86, [(6, .ptr 6 0), (7, .ptr 7 0), (8, .ptr 8 0), (10, .ptr 10 0), (11, .i (lZ l6)), (19, vL 2 eLT67JI (default : (f48z5) × Int) x2), (20, .i (lZ x2)), (21, .i (n5 : Int)), (29, q2aT67 (f48z0 x2 n5).1), (30, .i ((((f48z0 x2 n5).1).length : Nat) : Int)), (31, .i (0 : Int))], (f48z12 x1 x2 n5 r4 l6 l7), [], 0⟩ trivial ?_
        refine AWp.block ?_
        refine AWp.loopL (α := Nat × (Nat × (f48z5))) (fun x => match x with | (_, n8, l9) => ⟨86, (f48z11 l6 x2 n5 n8), (f48z19 x1 x2 n5 r4 l9 l7), [], 0⟩) (fun x => f48_L1 x2 n5 l6 K2 x.1 x.2 = some r) (fun x => x.1) (FUEL, 0, l6) (Le.mk (s' := ⟨86, [(6, .ptr 6 0), (7, .ptr 7 0), (8, .ptr 8 0), (10, .ptr 10 0), (11, .i (lZ l6)), (19, vL 2 eLT67JI (default : (f48z5) × Int) x2), (20, .i (lZ x2)), (21, .i (n5 : Int)), (29, q2aT67 (f48z0 x2 n5).1), (30, .i ((((f48z0 x2 n5).1).length : Nat) : Int)), (31, .i (0 : Int))], (f48z12 x1 x2 n5 r4 l6 l7), [], 0⟩) rfl rfl ⟨.refl _, .refl _, .refl _, .refl _, .refl _, .refl _, .refl _, .refl _, .refl _, .refl _, .refl _, trivial⟩ ⟨⟨_, rfl, .refl _⟩, ⟨_, rfl, .refl _⟩, ⟨_, rfl, .refl _⟩, ⟨_, rfl, .refl _⟩, ⟨_, rfl, .refl _⟩, ⟨_, rfl, .refl _⟩, ⟨_, rfl, .refl _⟩, trivial⟩) h ?_
        rintro ⟨k1, n8, l9⟩ h
        cases k1 with
        | zero => exact nomatch (show (none : Option ((List (Int × Int × Int × List Int × List Int)) × Int)) = some r from h)
        | succ k1 =>
        obtain ⟨C1, hC1⟩ : ∃ C, C = f48_L1 x2 n5 l6 K2 k1 := ⟨_, rfl⟩
        replace h := (f48_L1.eq_2 ..).symm.trans h
        try rw [← hC1] at h
        refine q2rq [] [] ⟨86, [(6, .ptr 6 0), (7, .ptr 7 0), (8, .ptr 8 0), (10, .ptr 10 0), (11, .i (lZ l6)), (19, vL 2 eLT67JI (default : (f48z5) × Int) x2), (20, .i (lZ x2)), (21, .i (n5 : Int)), (29, q2aT67 (f48z0 x2 n5).1), (30, .i ((((f48z0 x2 n5).1).length : Nat) : Int)), (31, .i (n8 : Int)), (32, .bool (decide ((n8 : Int) < ((((f48z0 x2 n5).1).length : Nat) : Int))))], (f48z19 x1 x2 n5 r4 l9 l7), [], 0⟩ trivial ?_
        refine AWp.seq ?_
        refine AWp.cond (b := (decide ((n8 : Int) < ((((f48z0 x2 n5).1).length : Nat) : Int)))) (by kernel_rfl) (fun hc2 => ?_) (fun hc2 => ?_)
        ·
          replace h := ite_tb hc2 h
          refine AWp.skip ?_
          refine thenQ_normal ?_
          refine AWp.seq ?_
          refine AWp.block ?_
          refine AWp.seq ?_
          obtain ⟨ob1p, h⟩ := chk_some h
          have ob1 : 0 ≤ (n8 : Int) ∧ (n8 : Int) < ((((x2.getD n5 q2dLT67JI).1).length : Nat) : Int) := ⟨by omega, ob1p⟩
          refine q2rr [] [] ⟨86, (f48z2 l6 x2 n5 n8), [(6, .cells 28 [.nils, .i (0 : Int)]), (7, .cells 28 (f48z7)), (8, .cells 67 (f48z3 x1)), (10, .cells 28 (f48z4 x2 n5)), (13, .cells 67 [.i (f48z1 x2 n5 n8).1, .i (f48z1 x2 n5 n8).2.1, .i (f48z1 x2 n5 n8).2.2.1, q2aI (f48z1 x2 n5 n8).2.2.2.1, q2aI (f48z1 x2 n5 n8).2.2.2.2]), (6001, q2bI_3 r4), (6200, q2bT67_67 l9), (6304, q2bI_3 l7)], [], 0⟩ (an2 ob1 trivial) ?_
          refine thenQ_normal ?_
          refine AWp.seq ?_
          obtain ⟨r10, hr10, h⟩ := bind_ok h
          refine q2rr [] [(2, ⟨[q2aI (f48z1 x2 n5 n8).2.2.2.1], [], [], [(6002, q2bI_3 r10)], .own 6002, [6002], [], []⟩)] ⟨86, (f48z2 l6 x2 n5 n8), [(6, .cells 28 [.nils, .i (0 : Int)]), (7, .cells 28 (f48z7)), (8, .cells 67 (f48z3 x1)), (10, .cells 28 (f48z4 x2 n5)), (13, .cells 67 [.i (f48z1 x2 n5 n8).1, .i (f48z1 x2 n5 n8).2.1, .i (f48z1 x2 n5 n8).2.2.1, .own 6002, q2aI (f48z1 x2 n5 n8).2.2.2.2]), (6001, q2bI_3 r4), (6002, q2bI_3 r10), (6200, q2bT67_67 l9), (6304, q2bI_3 l7)], [], 0⟩ (an2 (cpT (Spec1.ren (swapN 3000 6002) (swapN_inv 3000 6002) rfl (f35_ok _ _ hr10))) trivial) ?_
          refine thenQ_normal ?_
          refine AWp.seq ?_
          obtain ⟨r11, hr11, h⟩ := bind_ok h
          refine q2rr [] [(2, ⟨[q2aI (f48z1 x2 n5 n8).2.2.2.2], [], [], [(6003, q2bI_3 r11)], .own 6003, [6003], [], []⟩)] ⟨86, (f48z2 l6 x2 n5 n8), (f48z15 x1 x2 n5 n8 r4 r10 r11 l9 l7), [], 0⟩ (an2 (cpT (Spec1.ren (swapN 3000 6003) (swapN_inv 3000 6003) rfl (f35_ok _ _ hr11))) trivial) ?_
          refine thenQ_normal ?_
          obtain ⟨K3, hK3, h⟩ := jn_some h
          refine AWp.join (α := List Int) (fun (l14 : List Int) => ⟨86, (f48z2 l6 x2 n5 n8), [(6, .cells 28 [.nils, .i (0 : Int)]), (7, .cells 28 (f48z7)), (8, .cells 67 (f48z3 x1)), (10, .cells 28 (f48z4 x2 n5)), (13, .cells 67 (f48z6 x2 n5 n8)), (6001, q2bI_3 r4), (6002, q2bI_3 r10), (6003, q2bI_3 l14), (6200, q2bT67_67 l9), (6304, q2bI_3 l7)], [], 0⟩) (fun x => K3 x = some r) ?_ ?_
          ·
            refine q2rq [] [] ⟨86, [(6, .ptr 6 0), (7, .ptr 7 0), (8, .ptr 8 0), (10, .ptr 10 0), (11, .i (lZ l6)), (13, .ptr 13 0), (19, vL 2 eLT67JI (default : (f48z5) × Int) x2), (20, .i (lZ x2)), (21, .i (n5 : Int)), (29, q2aT67 (f48z0 x2 n5).1), (30, .i ((((f48z0 x2 n5).1).length : Nat) : Int)), (31, .i (n8 : Int)), (45, .i (lZ r11)), (46, .i (0 : Int))], (f48z15 x1 x2 n5 n8 r4 r10 r11 l9 l7), [], 0⟩ trivial ?_
            refine AWp.block ?_
            refine AWp.loopL (α := Nat × (Nat × List Int)) (fun x => match x with | (_, n12, l13) => ⟨86, (f48z8 l6 x2 n5 n8 r11 n12), (f48z10 x1 x2 n5 n8 r4 r10 l13 l9 l7), [], 0⟩) (fun x => f48_L2 l6 r11 K3 x.1 x.2 = some r) (fun x => x.1) (FUEL, 0, r11) (Le.mk (s' := ⟨86, [(6, .ptr 6 0), (7, .ptr 7 0), (8, .ptr 8 0), (10, .ptr 10 0), (11, .i (lZ l6)), (13, .ptr 13 0), (19, vL 2 eLT67JI (default : (f48z5) × Int) x2), (20, .i (lZ x2)), (21, .i (n5 : Int)), (29, q2aT67 (f48z0 x2 n5).1), (30, .i ((((f48z0 x2 n5).1).length : Nat) : Int)), (31, .i (n8 : Int)), (45, .i (lZ r11)), (46, .i (0 : Int))], (f48z15 x1 x2 n5 n8 r4 r10 r11 l9 l7), [], 0⟩) rfl rfl ⟨.refl _, .refl _, .refl _, .refl _, .refl _, .refl _, .refl _, .refl _, .refl _, .refl _, .refl _, .refl _, .refl _, .refl _, trivial⟩ ⟨⟨_, rfl, .refl _⟩, ⟨_, rfl, .refl _⟩, ⟨_, rfl, .refl _⟩, ⟨_, rfl, .refl _⟩, ⟨_, rfl, .refl _⟩, ⟨_, rfl, .refl _⟩, ⟨_, rfl, .refl _⟩, ⟨_, rfl, .refl _⟩, ⟨_, rfl, .refl _⟩, ⟨_, rfl, .refl _⟩, trivial⟩) h ?_
            rintro ⟨k2, n12, l13⟩ h
            cases k2 with
            | zero => exact nomatch (show (none : Option ((List (Int × Int × Int × List Int × List Int)) × Int)) = some r from h)
            | succ k2 =>
            obtain ⟨C2, hC2⟩ : ∃ C, C = f48_L2 l6 r11 K3 k2 := ⟨_, rfl⟩
            replace h := (f48_L2.eq_2 ..).symm.trans h
            try rw [← hC2] at h
            refine q2rq [] [] ⟨86, [(6, .ptr 6 0), (7, .ptr 7 0), (8, .ptr 8 0), (10, .ptr 10 0), (11, .i (lZ l6)), (13, .ptr 13 0), (19, vL 2 eLT67JI (default : (f48z5) × Int) x2), (20, .i (lZ x2)), (21, .i (n5 : Int)), (29, q2aT67 (f48z0 x2 n5).1), (30, .i ((((f48z0 x2 n5).1).length : Nat) : Int)), (31, .i (n8 : Int)), (45, .i (lZ r11)), (46, .i (n12 : Int)), (47, .bool (decide ((n12 : Int) < (lZ r11))))], (f48z10 x1 x2 n5 n8 r4 r10 l13 l9 l7), [], 0⟩ trivial ?_
            refine AWp.seq ?_
            refine AWp.cond (b := (decide ((n12 : Int) < (lZ r11)))) (by kernel_rfl) (fun hc3 => ?_) (fun hc3 => ?_)
            ·
              replace h := ite_tb hc3 h
              refine AWp.skip ?_
              refine thenQ_normal ?_
              refine AWp.seq ?_
              refine AWp.block ?_
              refine q2rq [] [] ⟨86, [(6, .ptr 6 0), (7, .ptr 7 0), (8, .ptr 8 0), (10, .ptr 10 0), (11, .i (lZ l6)), (13, .ptr 13 0), (14, .i (n12 : Int)), (19, vL 2 eLT67JI (default : (f48z5) × Int) x2), (20, .i (lZ x2)), (21, .i (n5 : Int)), (29, q2aT67 (f48z0 x2 n5).1), (30, .i ((((f48z0 x2 n5).1).length : Nat) : Int)), (31, .i (n8 : Int)), (45, .i (lZ r11)), (46, .i (n12 : Int))], (f48z10 x1 x2 n5 n8 r4 r10 l13 l9 l7), [], 0⟩ trivial ?_
              obtain ⟨ob2p, h⟩ := chk_some h
              have ob2 : 0 ≤ (n12 : Int) ∧ (n12 : Int) < (((l13).length : Nat) : Int) := ⟨by omega, ob2p⟩
              obtain ⟨ob3, ob4, ob5p, h⟩ := ck3 h
              have ob5 : 0 ≤ (n12 : Int) ∧ (n12 : Int) < (((l13).length : Nat) : Int) := ⟨by omega, ob5p⟩
              obtain ⟨ob6, h⟩ := chk_some h
              refine q2rr [] [] ⟨86, (f48z8 l6 x2 n5 n8 r11 n12), [(6, .cells 28 [.nils, .i (0 : Int)]), (7, .cells 28 (f48z7)), (8, .cells 67 (f48z3 x1)), (10, .cells 28 (f48z4 x2 n5)), (13, .cells 67 (f48z6 x2 n5 n8)), (6001, q2bI_3 r4), (6002, q2bI_3 r10), (6003, .rows 3 1 (l13).length (updF (encF eI 0 l13) n12 0 [.i ((l13.getD n12 0) + (lZ l6))])), (6200, q2bT67_67 l9), (6304, q2bI_3 l7)], [], 0⟩ (an5 ob2 ob3 ob4 ob5 ob6) ?_
              refine blockQ_normal ?_
              refine thenQ_normal ?_
              refine AWp.le (Le.mk (s' := ⟨86, (f48z8 l6 x2 n5 n8 r11 n12), (f48z13 x1 x2 n5 n8 r4 r10 l13 n12 l6 l9 l7), [], 0⟩) rfl rfl ⟨.refl _, .refl _, .refl _, .refl _, .refl _, .refl _, .refl _, .refl _, .refl _, .refl _, .refl _, .refl _, .refl _, .refl _, trivial⟩ ⟨⟨_, rfl, .refl _⟩, ⟨_, rfl, .refl _⟩, ⟨_, rfl, .refl _⟩, ⟨_, rfl, .refl _⟩, ⟨_, rfl, .refl _⟩, ⟨_, rfl, .refl _⟩, ⟨_, rfl, .refl _⟩, ⟨_, rfl, (BLe.of (RL.set ((l13.getD n12 0) + (lZ l6)) (RL.self _) (by intro j hj; match j, hj with | 0, _ => rfl)))⟩, ⟨_, rfl, .refl _⟩, ⟨_, rfl, .refl _⟩, trivial⟩) ?_
              obtain ⟨ob7p, h⟩ := chk_some h
              have ob7 : -9223372036854775808 ≤ ((n12 : Int) + (1 : Int)) ∧ ((n12 : Int) + (1 : Int)) ≤ 9223372036854775807 := ⟨by omega, ob7p⟩
              refine q2rr [] [] ⟨86, [(6, .ptr 6 0), (7, .ptr 7 0), (8, .ptr 8 0), (10, .ptr 10 0), (11, .i (lZ l6)), (13, .ptr 13 0), (19, vL 2 eLT67JI (default : (f48z5) × Int) x2), (20, .i (lZ x2)), (21, .i (n5 : Int)), (29, q2aT67 (f48z0 x2 n5).1), (30, .i ((((f48z0 x2 n5).1).length : Nat) : Int)), (31, .i (n8 : Int)), (45, .i (lZ r11)), (46, .i (((n12 + 1) : Nat) : Int))], (f48z13 x1 x2 n5 n8 r4 r10 l13 n12 l6 l9 l7), [], 0⟩ (an1 ob7) ?_
              rw [hC2] at h
              exact loopQ_normal (_, (n12 + 1), (l13.set n12 ((l13.getD n12 0) + (lZ l6)))) (Le.mk rfl rfl ⟨.refl _, .refl _, .refl _, .refl _, .refl _, .refl _, .refl _, .refl _, .refl _, .refl _, .refl _, .refl _, .refl _, .refl _, trivial⟩ ⟨⟨_, rfl, .refl _⟩, ⟨_, rfl, .refl _⟩, ⟨_, rfl, .refl _⟩, ⟨_, rfl, .refl _⟩, ⟨_, rfl, .refl _⟩, ⟨_, rfl, .refl _⟩, ⟨_, rfl, .refl _⟩, ⟨_, rfl, .refl _⟩, ⟨_, rfl, .refl _⟩, ⟨_, rfl, .refl _⟩, trivial⟩) h (Nat.lt_succ_self _)
            ·
              replace h := ite_fb hc3 h
              refine AWp.exit ?_
              refine thenQ_exit ?_
              refine thenQ_exit ?_
              refine blockQ_same ?_
              exact joinQ_normal (l13) (Le.mk rfl rfl ⟨.refl _, .refl _, .refl _, .refl _, .refl _, .refl _, .refl _, .refl _, .refl _, .refl _, .refl _, .refl _, trivial⟩ ⟨⟨_, rfl, .refl _⟩, ⟨_, rfl, .refl _⟩, ⟨_, rfl, .refl _⟩, ⟨_, rfl, .refl _⟩, ⟨_, rfl, .refl _⟩, ⟨_, rfl, .refl _⟩, ⟨_, rfl, .refl _⟩, ⟨_, rfl, .refl _⟩, ⟨_, rfl, .refl _⟩, ⟨_, rfl, .refl _⟩, trivial⟩) h
          ·
            rintro l14 h
            replace h := (congrFun hK3 _).symm.trans h
            refine AWp.le (Le.trans (Le.freeze 6002 rfl rfl) (Le.mk (s' := ⟨86, (f48z2 l6 x2 n5 n8), [(6, .cells 28 [.nils, .i (0 : Int)]), (7, .cells 28 (f48z7)), (8, .cells 67 (f48z3 x1)), (10, .cells 28 (f48z4 x2 n5)), (13, .cells 67 [.i (f48z1 x2 n5 n8).1, .i (f48z1 x2 n5 n8).2.1, .i (f48z1 x2 n5 n8).2.2.1, q2aI r10, .own 6003]), (6001, q2bI_3 r4), (6003, q2bI_3 l14), (6200, q2bT67_67 l9), (6304, q2bI_3 l7)], [], 0⟩) rfl rfl ⟨.refl _, .refl _, .refl _, .refl _, .refl _, .refl _, .refl _, .refl _, .refl _, .refl _, .refl _, .refl _, trivial⟩ ⟨⟨_, rfl, .refl _⟩, ⟨_, rfl, .refl _⟩, ⟨_, rfl, .refl _⟩, ⟨_, rfl, .refl _⟩, ⟨_, rfl, .refl _⟩, ⟨_, rfl, .refl _⟩, ⟨_, rfl, .refl _⟩, ⟨_, rfl, .refl _⟩, ⟨_, rfl, .refl _⟩, trivial⟩)) ?_
            refine AWp.le (Le.trans (Le.freeze 6003 rfl rfl) (Le.mk (s' := ⟨86, (f48z2 l6 x2 n5 n8), [(6, .cells 28 [.nils, .i (0 : Int)]), (7, .cells 28 (f48z7)), (8, .cells 67 (f48z3 x1)), (10, .cells 28 (f48z4 x2 n5)), (13, .cells 67 [.i (f48z1 x2 n5 n8).1, .i (f48z1 x2 n5 n8).2.1, .i (f48z1 x2 n5 n8).2.2.1, q2aI r10, q2aI l14]), (6001, q2bI_3 r4), (6200, q2bT67_67 l9), (6304, q2bI_3 l7)], [], 0⟩) rfl rfl ⟨.refl _, .refl _, .refl _, .refl _, .refl _, .refl _, .refl _, .refl _, .refl _, .refl _, .refl _, .refl _, trivial⟩ ⟨⟨_, rfl, .refl _⟩, ⟨_, rfl, .refl _⟩, ⟨_, rfl, .refl _⟩, ⟨_, rfl, .refl _⟩, ⟨_, rfl, .refl _⟩, ⟨_, rfl, .refl _⟩, ⟨_, rfl, .refl _⟩, ⟨_, rfl, .refl _⟩, trivial⟩)) ?_
            obtain ⟨ob8, h⟩ := chk_some h
            refine q2rr [] [] ⟨86, (f48z11 l6 x2 n5 n8), [(6, .cells 28 [.nils, .i (0 : Int)]), (7, .cells 28 (f48z7)), (8, .cells 67 (f48z3 x1)), (10, .cells 28 (f48z4 x2 n5)), (6001, q2bI_3 r4), (6200, .rows 67 5 ((l9).length + 1) (appF (l9).length (encF eT67 q2dT67 l9) (lstF 5 [.i (f48z1 x2 n5 n8).1, .i (f48z1 x2 n5 n8).2.1, .i (f48z1 x2 n5 n8).2.2.1, q2aI r10, q2aI l14]))), (6304, q2bI_3 l7)], [], 0⟩ (an2 ob8 trivial) ?_
            refine blockQ_normal ?_
            refine thenQ_normal ?_
            refine AWp.le (Le.mk (s' := ⟨86, (f48z11 l6 x2 n5 n8), (f48z16 x1 x2 n5 r4 l9 n8 r10 l14 l7), [], 0⟩) rfl rfl ⟨.refl _, .refl _, .refl _, .refl _, .refl _, .refl _, .refl _, .refl _, .refl _, .refl _, .refl _, trivial⟩ ⟨⟨_, rfl, .refl _⟩, ⟨_, rfl, .refl _⟩, ⟨_, rfl, .refl _⟩, ⟨_, rfl, .refl _⟩, ⟨_, rfl, .refl _⟩, ⟨_, rfl, (BLe.of (RL.app (RL.self _) (RL.lstV (enc := eT67) [((f48z1 x2 n5 n8).1, (f48z1 x2 n5 n8).2.1, (f48z1 x2 n5 n8).2.2.1, r10, l14)] rfl ⟨.refl _, .refl _, .refl _, .refl _, .refl _, trivial⟩ (fun _ => rfl))))⟩, ⟨_, rfl, .refl _⟩, trivial⟩) ?_
            obtain ⟨ob9p, h⟩ := chk_some h
            have ob9 : -9223372036854775808 ≤ ((n8 : Int) + (1 : Int)) ∧ ((n8 : Int) + (1 : Int)) ≤ 9223372036854775807 := ⟨by omega, ob9p⟩
            refine q2rr [] [] ⟨86, [(6, .ptr 6 0), (7, .ptr 7 0), (8, .ptr 8 0), (10, .ptr 10 0), (11, .i (lZ l6)), (19, vL 2 eLT67JI (default : (f48z5) × Int) x2), (20, .i (lZ x2)), (21, .i (n5 : Int)), (29, q2aT67 (f48z0 x2 n5).1), (30, .i ((((f48z0 x2 n5).1).length : Nat) : Int)), (31, .i (((n8 + 1) : Nat) : Int))], (f48z16 x1 x2 n5 r4 l9 n8 r10 l14 l7), [], 0⟩ (an1 ob9) ?_
            rw [hC1] at h
            exact loopQ_normal (_, (n8 + 1), (l9 ++ [((f48z1 x2 n5 n8).1, (f48z1 x2 n5 n8).2.1, (f48z1 x2 n5 n8).2.2.1, r10, l14)])) (Le.mk rfl rfl ⟨.refl _, .refl _, .refl _, .refl _, .refl _, .refl _, .refl _, .refl _, .refl _, .refl _, .refl _, trivial⟩ ⟨⟨_, rfl, .refl _⟩, ⟨_, rfl, .refl _⟩, ⟨_, rfl, .refl _⟩, ⟨_, rfl, .refl _⟩, ⟨_, rfl, .refl _⟩, ⟨_, rfl, .refl _⟩, ⟨_, rfl, .refl _⟩, trivial⟩) h (Nat.lt_succ_self _)
        ·
          replace h := ite_fb hc2 h
          refine AWp.exit ?_
          refine thenQ_exit ?_
          refine thenQ_exit ?_
          refine blockQ_same ?_
          exact joinQ_normal (l9) (Le.mk rfl rfl ⟨.refl _, .refl _, .refl _, .refl _, .refl _, .refl _, .refl _, .refl _, trivial⟩ ⟨⟨_, rfl, .refl _⟩, ⟨_, rfl, .refl _⟩, ⟨_, rfl, .refl _⟩, ⟨_, rfl, .refl _⟩, ⟨_, rfl, .refl _⟩, ⟨_, rfl, .refl _⟩, ⟨_, rfl, .refl _⟩, trivial⟩) h
      ·
        rintro l15 h
        replace h := (congrFun hK2 _).symm.trans h
        obtain ⟨ob10, ob11, h⟩ := ck2 h
        refine q2rr [] [] ⟨86, (f48z22 x2 n5), [(6, .cells 28 [.nils, .i (0 : Int)]), (7, .cells 28 (f48z7)), (8, .cells 67 (f48z3 x1)), (6001, q2bI_3 r4), (6200, q2bT67_67 l15), (6304, .rows 3 1 ((l7).length + 1) (appF (l7).length (encF eI 0 l7) (lstF 1 [.i ((lZ l6) + (f48z0 x2 n5).2)])))], [], 0⟩ (an3 ob10 ob11 trivial) ?_
        refine blockQ_normal ?_
        refine thenQ_normal ?_
        refine AWp.le (Le.mk (s' := ⟨86, (f48z22 x2 n5), (f48z21 x1 r4 l15 l7 l6 x2 n5), [], 0⟩) rfl rfl ⟨.refl _, .refl _, .refl _, .refl _, .refl _, .refl _, trivial⟩ ⟨⟨_, rfl, .refl _⟩, ⟨_, rfl, .refl _⟩, ⟨_, rfl, .refl _⟩, ⟨_, rfl, .refl _⟩, ⟨_, rfl, .refl _⟩, ⟨_, rfl, (BLe.of (RL.app (RL.self _) (RL.lst (enc := eI) [((lZ l6) + (f48z0 x2 n5).2)] rfl rfl (fun _ => rfl))))⟩, trivial⟩) ?_
        obtain ⟨ob12p, h⟩ := chk_some h
        have ob12 : -9223372036854775808 ≤ ((n5 : Int) + (1 : Int)) ∧ ((n5 : Int) + (1 : Int)) ≤ 9223372036854775807 := ⟨by omega, ob12p⟩
        refine q2rr [] [] ⟨86, [(6, .ptr 6 0), (7, .ptr 7 0), (8, .ptr 8 0), (19, vL 2 eLT67JI (default : (f48z5) × Int) x2), (20, .i (lZ x2)), (21, .i (((n5 + 1) : Nat) : Int))], (f48z21 x1 r4 l15 l7 l6 x2 n5), [], 0⟩ (an1 ob12) ?_
        rw [hC0] at h
        exact loopQ_normal (_, (n5 + 1), l15, (l7 ++ [((lZ l6) + (f48z0 x2 n5).2)])) (Le.mk rfl rfl ⟨.refl _, .refl _, .refl _, .refl _, .refl _, .refl _, trivial⟩ ⟨⟨_, rfl, .refl _⟩, ⟨_, rfl, .refl _⟩, ⟨_, rfl, .refl _⟩, ⟨_, rfl, .refl _⟩, ⟨_, rfl, .refl _⟩, ⟨_, rfl, .refl _⟩, trivial⟩) h (Nat.lt_succ_self _)
    ·
      replace h := ite_fb hc1 h
      refine AWp.exit ?_
      refine thenQ_exit ?_
      refine thenQ_exit ?_
      refine blockQ_same ?_
      exact joinQ_normal (l6, l7) (Le.mk rfl rfl ⟨.refl _, .refl _, .refl _, trivial⟩ ⟨⟨_, rfl, .refl _⟩, ⟨_, rfl, .refl _⟩, ⟨_, rfl, .refl _⟩, ⟨_, rfl, .refl _⟩, ⟨_, rfl, .refl _⟩, ⟨_, rfl, .refl _⟩, trivial⟩) h
  ·
    rintro ⟨l16, l17⟩ h
    replace h := (congrFun hK1 _).symm.trans h
    refine q2rq [] [] ⟨86, (f48z23), [(6, .cells 28 [.nils, .i (0 : Int)]), (7, .cells 28 (f48z20 l16)), (8, .cells 67 (f48z3 x1)), (6001, q2bI_3 r4), (6200, q2bT67_67 l16), (6304, q2bI_3 l17)], [], 0⟩ (an1 trivial) ?_
    refine AWp.seq ?_
    refine AWp.le (Le.trans (Le.freeze 6001 rfl rfl) (Le.mk (s' := ⟨86, (f48z23), [(6, .cells 28 [.nils, .i (0 : Int)]), (7, .cells 28 (f48z20 l16)), (8, .cells 67 [.i (2 : Int), .i (0 : Int), .i x1, q2aI r4, .own 6304]), (6200, q2bT67_67 l16), (6304, q2bI_3 l17)], [], 0⟩) rfl rfl ⟨.refl _, .refl _, .refl _, trivial⟩ ⟨⟨_, rfl, .refl _⟩, ⟨_, rfl, .refl _⟩, ⟨_, rfl, .refl _⟩, ⟨_, rfl, .refl _⟩, ⟨_, rfl, .refl _⟩, trivial⟩)) ?_
    refine AWp.le (Le.trans (Le.freeze 6304 rfl rfl) (Le.mk (s' := ⟨86, (f48z23), [(6, .cells 28 [.nils, .i (0 : Int)]), (7, .cells 28 (f48z20 l16)), (8, .cells 67 [.i (2 : Int), .i (0 : Int), .i x1, q2aI r4, q2aI l17]), (6200, q2bT67_67 l16)], [], 0⟩) rfl rfl ⟨.refl _, .refl _, .refl _, trivial⟩ ⟨⟨_, rfl, .refl _⟩, ⟨_, rfl, .refl _⟩, ⟨_, rfl, .refl _⟩, ⟨_, rfl, .refl _⟩, trivial⟩)) ?_
    obtain ⟨ob13, h⟩ := chk_some h
    refine q2rr [] [] ⟨86, [(6, .ptr 6 0), (7, .ptr 7 0)], [(6, .cells 28 [.nils, .i (0 : Int)]), (7, .cells 28 (f48z20 l16)), (6200, .rows 67 5 ((l16).length + 1) (appF (l16).length (encF eT67 q2dT67 l16) (lstF 5 [.i (2 : Int), .i (0 : Int), .i x1, q2aI r4, q2aI l17])))], [], 0⟩ (an2 ob13 trivial) ?_
    refine thenQ_normal ?_
    refine AWp.le (Le.mk (s' := ⟨86, [(6, .ptr 6 0), (7, .ptr 7 0)], [(6, .cells 28 [.nils, .i (0 : Int)]), (7, .cells 28 (f48z20 l16)), (6200, q2bT67_67 (l16 ++ [((2 : Int), (0 : Int), x1, r4, l17)]))], [], 0⟩) rfl rfl ⟨.refl _, .refl _, trivial⟩ ⟨⟨_, rfl, .refl _⟩, ⟨_, rfl, .refl _⟩, ⟨_, rfl, (BLe.of (RL.app (RL.self _) (RL.lstV (enc := eT67) [((2 : Int), (0 : Int), x1, r4, l17)] rfl ⟨.refl _, .refl _, .refl _, .refl _, .refl _, trivial⟩ (fun _ => rfl))))⟩, trivial⟩) ?_
    refine q2rq [] [] ⟨86, [(6, .ptr 6 0)], [(6, .cells 28 (f48z20 l16)), (6200, q2bT67_67 (l16 ++ [((2 : Int), (0 : Int), x1, r4, l17)]))], [], 0⟩ (an1 trivial) ?_
    refine AWp.le (Le.trans (Le.freeze 6200 rfl rfl) (Le.mk (s' := ⟨86, [(6, .ptr 6 0)], [(6, .cells 28 [q2aT67 (l16 ++ [((2 : Int), (0 : Int), x1, r4, l17)]), .i (lZ l16)])], [], 0⟩) rfl rfl ⟨.refl _, trivial⟩ ⟨⟨_, rfl, .refl _⟩, trivial⟩)) ?_
    have hret := Option.some.inj h
    subst hret
    refine AWp.le (Le.mk (s' := ⟨86, [(6, .ptr 6 0)], [(6, .cells 28 [q2aT67 (l16 ++ [((2 : Int), (0 : Int), x1, r4, l17)]), .i (lZ l16)])], [], 0⟩) rfl rfl ⟨.refl _, trivial⟩ ⟨⟨_, rfl, .refl _⟩, trivial⟩) ?_
    refine AWp.ret ?_
    exact bodyQ_ret _ rfl ⟨rfl, rfl⟩ rfl
def f15 (x1 : Int) : Option ((List (Int × Int × Int × List Int × List Int)) × Int × Int) :=
  if ((decide (x1 < (1 : Int))) || (decide (x1 > (12 : Int)))) then (
  some ([], (0 : Int), (7 : Int))
  ) else (
  (f50 (0 : Int) x1).bind fun (r2 : List Int) =>
  (f49 r2).bind fun (r3 : List ((List (Int × Int × Int × List Int × List Int)) × Int)) =>
  (f48 ((x1 / (2 : Int)) + (1 : Int)) r3 []).bind fun (r4 : (List (Int × Int × Int × List Int × List Int)) × Int) =>
  chk (0 ≤ x1 ∧ 1 ≤ (2 : Int) ∧ -9223372036854775808 ≤ (x1 / (2 : Int)) ∧ (x1 / (2 : Int)) ≤ 9223372036854775807) <|
  chk (-9223372036854775808 ≤ ((x1 / (2 : Int)) + (1 : Int)) ∧ ((x1 / (2 : Int)) + (1 : Int)) ≤ 9223372036854775807) <|
  some (r4.1, r4.2, (0 : Int))
  )
def f90 (x1 : Int) : Option Bool :=
  some ((decide (x1 < (1 : Int))) || (decide (x1 > (1000 : Int))))
set_option maxRecDepth 100000 in
theorem f90_ok  (x1 : Int) (r : Bool) (h : f90 x1 = some r)  : Spec1 Tryd.prog 90 [] [] [] [.int .i64 x1] (.bool r) [] := by
  unfold f90 at h
  refine Spec1.body 0 _ _ Tryd.func90 rfl Tryd.ntmps90 rfl rfl ?_
  refine q2rq [] [] ⟨9, [(0, .i x1)], [], [], 0⟩ trivial ?_
  refine AWp.seq ?_
  have ob0 := idA (((decide (x1 < (1 : Int))) == false) = true)
  have ob1 := bqA (decide (x1 < (1 : Int))) false
  refine q2rr [] [] ⟨9, [(2, .bool ((decide (x1 < (1 : Int))) || (decide (x1 > (1000 : Int)))))], [], [], 0⟩ (an2 (an1 ob0) ob1) ?_
  refine thenQ_normal ?_
  have hret := Option.some.inj h
  subst hret
  refine AWp.le (Le.mk (s' := ⟨9, [(2, .bool ((decide (x1 < (1 : Int))) || (decide (x1 > (1000 : Int)))))], [], [], 0⟩) rfl rfl ⟨.refl _, trivial⟩ trivial) ?_
  refine AWp.ret ?_
  exact bodyQ_ret _ rfl ⟨rfl, rfl⟩ rfl
def f89_L0 (x1 : List Int) (K1 : Unit → Option Int) : Nat → Nat → Option Int
  | 0, _ => none
  | k + 1, n2 =>
    if (decide ((n2 : Int) < (((x1).length : Nat) : Int))) then (
    (f90 (x1.getD n2 0)).bind fun (r3 : Bool) =>
    chk ((n2 : Int) < (((x1).length : Nat) : Int)) <|
    if r3 then (
    some (n2 : Int)
    ) else (
    chk (((n2 : Int) + (1 : Int)) ≤ 9223372036854775807) <|
    (f89_L0 x1 K1 k) (n2 + 1)
    )
    ) else (
    K1 ()
    )
def f89 (x1 : List Int) : Option Int :=
  jn (fun (_ : Unit) =>
  some (-1 : Int)
  ) fun (K1 : Unit → Option Int) =>
  f89_L0 x1 K1 FUEL 0
set_option maxRecDepth 100000 in
theorem f89_ok  (x1 : List Int) (r : Int) (h : f89 x1 = some r)  : Spec1 Tryd.prog 89 [] [] [] [vL 1 eI 0 x1, .fn (.func 90) []] (.int .i64 r) [] := by
  unfold f89 at h
  refine Spec1.body 0 _ _ Tryd.func89 rfl Tryd.ntmps89 rfl rfl ?_
  refine q2rq [] [] ⟨19, [(0, q2aI x1), (1, .fn (.func 90) [])], [], [], 0⟩ trivial ?_
  obtain ⟨K1, hK1, h⟩ := jn_some h
  refine AWp.join (α := Unit) (fun (x : Unit) => match x with | () => ⟨19, [], [], [], 0⟩) (fun x => K1 x = some r) ?_ ?_
  ·
    refine q2rq [] [] ⟨19, [(0, q2aI x1), (1, .fn (.func 90) []), (7, .i (lZ x1)), (8, .i (0 : Int))], [], [], 0⟩ trivial ?_
    refine AWp.block ?_
    refine AWp.loopL (α := Nat × Nat) (fun x => match x with | (_, n2) => ⟨19, [(0, q2aI x1), (1, .fn (.func 90) []), (7, .i (lZ x1)), (8, .i (n2 : Int))], [], [], 0⟩) (fun x => f89_L0 x1 K1 x.1 x.2 = some r) (fun x => x.1) (FUEL, 0) (Le.mk (s' := ⟨19, [(0, q2aI x1), (1, .fn (.func 90) []), (7, .i (lZ x1)), (8, .i (0 : Int))], [], [], 0⟩) rfl rfl ⟨.refl _, .refl _, .refl _, .refl _, trivial⟩ trivial) h ?_
    rintro ⟨k0, n2⟩ h
    cases k0 with
    | zero => exact nomatch (show (none : Option Int) = some r from h)
    | succ k0 =>
    obtain ⟨C0, hC0⟩ : ∃ C, C = f89_L0 x1 K1 k0 := ⟨_, rfl⟩
    replace h := (f89_L0.eq_2 ..).symm.trans h
    try rw [← hC0] at h
    refine q2rq [] [] ⟨19, [(0, q2aI x1), (1, .fn (.func 90) []), (7, .i (lZ x1)), (8, .i (n2 : Int)), (9, .bool (decide ((n2 : Int) < (lZ x1))))], [], [], 0⟩ trivial ?_
    refine AWp.seq ?_
    refine AWp.cond (b := (decide ((n2 : Int) < (lZ x1)))) (by kernel_rfl) (fun hc1 => ?_) (fun hc1 => ?_)
    ·
      replace h := ite_tb hc1 h
      refine AWp.skip ?_
      refine thenQ_normal ?_
      refine AWp.seq ?_
      refine AWp.block ?_
      refine q2rq [] [] ⟨19, [(0, q2aI x1), (1, .fn (.func 90) []), (5, .i (n2 : Int)), (7, .i (lZ x1)), (8, .i (n2 : Int))], [], [], 0⟩ trivial ?_
      refine AWp.seq ?_
      obtain ⟨r3, hr3, h⟩ := bind_ok h
      obtain ⟨ob0p, h⟩ := chk_some h
      have ob0 : 0 ≤ (n2 : Int) ∧ (n2 : Int) < (((x1).length : Nat) : Int) := ⟨by omega, ob0p⟩
      refine q2rr [] [(5, ⟨[.i (x1.getD n2 0)], [], [], [], .bool r3, [], [], []⟩)] ⟨19, [(0, q2aI x1), (1, .fn (.func 90) []), (5, .i (n2 : Int)), (7, .i (lZ x1)), (8, .i (n2 : Int)), (16, .bool r3)], [], [], 0⟩ (an2 ob0 (cpT (f90_ok _ _ hr3))) ?_
      refine thenQ_normal ?_
      refine AWp.cond (b := r3) (by kernel_rfl) (fun hc2 => ?_) (fun hc2 => ?_)
      ·
        replace h := ite_tb hc2 h
        refine q2rq [] [] ⟨19, [(4, .i (n2 : Int))], [], [], 0⟩ trivial ?_
        have hret := Option.some.inj h
        subst hret
        refine AWp.le (Le.mk (s' := ⟨19, [(4, .i (n2 : Int))], [], [], 0⟩) rfl rfl ⟨.refl _, trivial⟩ trivial) ?_
        refine AWp.ret ?_
        refine blockQ_ret ?_
        refine thenQ_ret ?_
        refine thenQ_ret ?_
        refine blockQ_ret ?_
        refine joinQ_ret ?_
        exact bodyQ_ret _ rfl ⟨rfl, rfl⟩ rfl
      ·
        replace h := ite_fb hc2 h
        refine AWp.skip ?_
        refine blockQ_normal ?_
        refine thenQ_normal ?_
        obtain ⟨ob1p, h⟩ := chk_some h
        have ob1 : -9223372036854775808 ≤ ((n2 : Int) + (1 : Int)) ∧ ((n2 : Int) + (1 : Int)) ≤ 9223372036854775807 := ⟨by omega, ob1p⟩
        refine q2rr [] [] ⟨19, [(0, q2aI x1), (1, .fn (.func 90) []), (7, .i (lZ x1)), (8, .i (((n2 + 1) : Nat) : Int))], [], [], 0⟩ (an1 ob1) ?_
        rw [hC0] at h
        exact loopQ_normal (_, (n2 + 1)) (Le.mk rfl rfl ⟨.refl _, .refl _, .refl _, .refl _, trivial⟩ trivial) h (Nat.lt_succ_self _)
    ·
      replace h := ite_fb hc1 h
      refine AWp.exit ?_
      refine thenQ_exit ?_
      refine thenQ_exit ?_
      refine blockQ_same ?_
      exact joinQ_normal () (Le.mk rfl rfl trivial trivial) h
  ·
    rintro ⟨⟩ h
    replace h := (congrFun hK1 _).symm.trans h
    refine q2rq [] [] ⟨19, [(4, .i (-1 : Int))], [], [], 0⟩ trivial ?_
    have hret := Option.some.inj h
    subst hret
    refine AWp.le (Le.mk (s' := ⟨19, [(4, .i (-1 : Int))], [], [], 0⟩) rfl rfl ⟨.refl _, trivial⟩ trivial) ?_
    refine AWp.ret ?_
    exact bodyQ_ret _ rfl ⟨rfl, rfl⟩ rfl
def f57 (x1 : List Int) : Option Bool :=
  (f89 x1).bind fun (r2 : Int) =>
  some (decide (r2 ≥ (0 : Int)))
set_option maxRecDepth 100000 in
theorem f57_ok  (x1 : List Int) (r : Bool) (h : f57 x1 = some r)  : Spec1 Tryd.prog 57 [] [] [] [vL 1 eI 0 x1, .fn (.func 90) []] (.bool r) [] := by
  unfold f57 at h
  refine Spec1.body 0 _ _ Tryd.func57 rfl Tryd.ntmps57 rfl rfl ?_
  refine q2rq [] [] ⟨9, [(0, q2aI x1), (1, .fn (.func 90) [])], [], [], 0⟩ trivial ?_
  refine AWp.seq ?_
  obtain ⟨r2, hr2, h⟩ := bind_ok h
  refine q2rr [] [(2, ⟨[q2aI x1, .fn (.func 90) []], [], [], [], .i r2, [], [], []⟩)] ⟨9, [(4, .bool (decide (r2 ≥ (0 : Int))))], [], [], 0⟩ (an1 (cpT (f89_ok _ _ hr2))) ?_
  refine thenQ_normal ?_
  have hret := Option.some.inj h
  subst hret
  refine AWp.le (Le.mk (s' := ⟨9, [(4, .bool (decide (r2 ≥ (0 : Int))))], [], [], 0⟩) rfl rfl ⟨.refl _, trivial⟩ trivial) ?_
  refine AWp.ret ?_
  exact bodyQ_ret _ rfl ⟨rfl, rfl⟩ rfl
abbrev f91z0 (x1 : Int) := (decide (x1 < (0 : Int)))
def f91 (x1 : Int) (x2 : Int) : Option (Bool × Int) :=
  some (((decide (x1 < (0 : Int))) || (decide (x1 ≥ x2))), x2)
set_option maxRecDepth 100000 in
theorem f91_ok  (x1 : Int) (x2 : Int) (r : Bool × Int) (h : f91 x1 x2 = some r)  : Spec1 Tryd.prog 91 [] [2000] [(2000, .cells 3 [.int .i64 x2])] [.int .i64 x1, .ptr 2000 0] (.bool r.1) [(2000, .cells 3 [.int .i64 r.2])] := by
  unfold f91 at h
  refine Spec1.body 0 _ _ Tryd.func91 rfl Tryd.ntmps91 rfl rfl ?_
  refine q2rq [] [] ⟨11, [(0, .i x1), (1, .ptr 2000 0)], [(2000, .cells 3 [.i x2])], [2000], 0⟩ trivial ?_
  refine AWp.seq ?_
  have ob0 := idA (((f91z0 x1) == false) = true)
  have ob1 := idA (((f91z0 x1) == false) = true)
  have ob2 := bqA (f91z0 x1) false
  refine q2rr [] [] ⟨11, [(3, .bool ((f91z0 x1) || (decide (x1 ≥ x2))))], [(2000, .cells 3 [.i x2])], [2000], 0⟩ (an2 (an2 ob0 ob1) ob2) ?_
  refine thenQ_normal ?_
  have hret := Option.some.inj h
  subst hret
  refine AWp.le (Le.mk (s' := ⟨11, [(3, .bool ((f91z0 x1) || (decide (x1 ≥ x2))))], [(2000, .cells 3 [.i x2])], [2000], 0⟩) rfl rfl ⟨.refl _, trivial⟩ ⟨⟨_, rfl, .refl _⟩, trivial⟩) ?_
  refine AWp.ret ?_
  exact bodyQ_ret _ rfl ⟨rfl, rfl⟩ rfl
def f89a_L0 (x1 : List Int) (K1 : Int → Option (Int × Int)) : Nat → (Nat × Int) → Option (Int × Int)
  | 0, _ => none
  | k + 1, (n3, i4) =>
    if (decide ((n3 : Int) < (((x1).length : Nat) : Int))) then (
    (f91 (x1.getD n3 0) i4).bind fun (r5 : Bool × Int) =>
    chk ((n3 : Int) < (((x1).length : Nat) : Int)) <|
    if r5.1 then (
    some ((n3 : Int), r5.2)
    ) else (
    chk (((n3 : Int) + (1 : Int)) ≤ 9223372036854775807) <|
    (f89a_L0 x1 K1 k) ((n3 + 1), r5.2)
    )
    ) else (
    K1 i4
    )
abbrev f89az0 (r5 : Bool × Int) : Heap := [(2000, .cells 3 [.int .i64 r5.2])]
def f89a (x1 : List Int) (x2 : Int) : Option (Int × Int) :=
  jn (fun (i6 : Int) =>
  some ((-1 : Int), i6)
  ) fun (K1 : Int → Option (Int × Int)) =>
  f89a_L0 x1 K1 FUEL (0, x2)
set_option maxRecDepth 100000 in
theorem f89a_ok  (x1 : List Int) (x2 : Int) (r : Int × Int) (h : f89a x1 x2 = some r)  : Spec1 Tryd.prog 89 [] [2000] [(2000, .cells 3 [.int .i64 x2])] [vL 1 eI 0 x1, .fn (.func 91) [.ptr 2000 0]] (.int .i64 r.1) [(2000, .cells 3 [.int .i64 r.2])] := by
  unfold f89a at h
  refine Spec1.body 0 _ _ Tryd.func89 rfl Tryd.ntmps89 rfl rfl ?_
  refine q2rq [] [] ⟨19, [(0, q2aI x1), (1, .fn (.func 91) [.ptr 2000 0])], [(2000, .cells 3 [.i x2])], [2000], 0⟩ trivial ?_
  obtain ⟨K1, hK1, h⟩ := jn_some h
  refine AWp.join (α := Int) (fun (i6 : Int) => ⟨19, [], [(2000, .cells 3 [.i i6])], [2000], 0⟩) (fun x => K1 x = some r) ?_ ?_
  ·
    refine q2rq [] [] ⟨19, [(0, q2aI x1), (1, .fn (.func 91) [.ptr 2000 0]), (7, .i (lZ x1)), (8, .i (0 : Int))], [(2000, .cells 3 [.i x2])], [2000], 0⟩ trivial ?_
    refine AWp.block ?_
    refine AWp.loopL (α := Nat × (Nat × Int)) (fun x => match x with | (_, n3, i4) => ⟨19, [(0, q2aI x1), (1, .fn (.func 91) [.ptr 2000 0]), (7, .i (lZ x1)), (8, .i (n3 : Int))], [(2000, .cells 3 [.i i4])], [2000], 0⟩) (fun x => f89a_L0 x1 K1 x.1 x.2 = some r) (fun x => x.1) (FUEL, 0, x2) (Le.mk (s' := ⟨19, [(0, q2aI x1), (1, .fn (.func 91) [.ptr 2000 0]), (7, .i (lZ x1)), (8, .i (0 : Int))], [(2000, .cells 3 [.i x2])], [2000], 0⟩) rfl rfl ⟨.refl _, .refl _, .refl _, .refl _, trivial⟩ ⟨⟨_, rfl, .refl _⟩, trivial⟩) h ?_
    rintro ⟨k0, n3, i4⟩ h
    cases k0 with
    | zero => exact nomatch (show (none : Option (Int × Int)) = some r from h)
    | succ k0 =>
    obtain ⟨C0, hC0⟩ : ∃ C, C = f89a_L0 x1 K1 k0 := ⟨_, rfl⟩
    replace h := (f89a_L0.eq_2 ..).symm.trans h
    try rw [← hC0] at h
    refine q2rq [] [] ⟨19, [(0, q2aI x1), (1, .fn (.func 91) [.ptr 2000 0]), (7, .i (lZ x1)), (8, .i (n3 : Int)), (9, .bool (decide ((n3 : Int) < (lZ x1))))], [(2000, .cells 3 [.i i4])], [2000], 0⟩ trivial ?_
    refine AWp.seq ?_
    refine AWp.cond (b := (decide ((n3 : Int) < (lZ x1)))) (by kernel_rfl) (fun hc1 => ?_) (fun hc1 => ?_)
    ·
      replace h := ite_tb hc1 h
      refine AWp.skip ?_
      refine thenQ_normal ?_
      refine AWp.seq ?_
      refine AWp.block ?_
      refine q2rq [] [] ⟨19, [(0, q2aI x1), (1, .fn (.func 91) [.ptr 2000 0]), (5, .i (n3 : Int)), (7, .i (lZ x1)), (8, .i (n3 : Int))], [(2000, .cells 3 [.i i4])], [2000], 0⟩ trivial ?_
      refine AWp.seq ?_
      obtain ⟨r5, hr5, h⟩ := bind_ok h
      obtain ⟨ob0p, h⟩ := chk_some h
      have ob0 : 0 ≤ (n3 : Int) ∧ (n3 : Int) < (((x1).length : Nat) : Int) := ⟨by omega, ob0p⟩
      refine q2rr [] [(5, ⟨[.i (x1.getD n3 0), .ptr 2000 0], [2000], [2000], (f89az0 r5), .bool r5.1, [], [], []⟩)] ⟨19, [(0, q2aI x1), (1, .fn (.func 91) [.ptr 2000 0]), (5, .i (n3 : Int)), (7, .i (lZ x1)), (8, .i (n3 : Int)), (16, .bool r5.1)], (f89az0 r5), [2000], 0⟩ (an2 ob0 (cpT (f91_ok _ _ _ hr5))) ?_
      refine thenQ_normal ?_
      refine AWp.cond (b := r5.1) (by kernel_rfl) (fun hc2 => ?_) (fun hc2 => ?_)
      ·
        replace h := ite_tb hc2 h
        refine q2rq [] [] ⟨19, [(4, .i (n3 : Int))], (f89az0 r5), [2000], 0⟩ trivial ?_
        have hret := Option.some.inj h
        subst hret
        refine AWp.le (Le.mk (s' := ⟨19, [(4, .i (n3 : Int))], (f89az0 r5), [2000], 0⟩) rfl rfl ⟨.refl _, trivial⟩ ⟨⟨_, rfl, .refl _⟩, trivial⟩) ?_
        refine AWp.ret ?_
        refine blockQ_ret ?_
        refine thenQ_ret ?_
        refine thenQ_ret ?_
        refine blockQ_ret ?_
        refine joinQ_ret ?_
        exact bodyQ_ret _ rfl ⟨rfl, rfl⟩ rfl
      ·
        replace h := ite_fb hc2 h
        refine AWp.skip ?_
        refine blockQ_normal ?_
        refine thenQ_normal ?_
        obtain ⟨ob1p, h⟩ := chk_some h
        have ob1 : -9223372036854775808 ≤ ((n3 : Int) + (1 : Int)) ∧ ((n3 : Int) + (1 : Int)) ≤ 9223372036854775807 := ⟨by omega, ob1p⟩
        refine q2rr [] [] ⟨19, [(0, q2aI x1), (1, .fn (.func 91) [.ptr 2000 0]), (7, .i (lZ x1)), (8, .i (((n3 + 1) : Nat) : Int))], (f89az0 r5), [2000], 0⟩ (an1 ob1) ?_
        rw [hC0] at h
        exact loopQ_normal (_, (n3 + 1), r5.2) (Le.mk rfl rfl ⟨.refl _, .refl _, .refl _, .refl _, trivial⟩ ⟨⟨_, rfl, .refl _⟩, trivial⟩) h (Nat.lt_succ_self _)
    ·
      replace h := ite_fb hc1 h
      refine AWp.exit ?_
      refine thenQ_exit ?_
      refine thenQ_exit ?_
      refine blockQ_same ?_
      exact joinQ_normal (i4) (Le.mk rfl rfl trivial ⟨⟨_, rfl, .refl _⟩, trivial⟩) h
  ·
    rintro i6 h
    replace h := (congrFun hK1 _).symm.trans h
    refine q2rq [] [] ⟨19, [(4, .i (-1 : Int))], [(2000, .cells 3 [.i i6])], [2000], 0⟩ trivial ?_
    have hret := Option.some.inj h
    subst hret
    refine AWp.le (Le.mk (s' := ⟨19, [(4, .i (-1 : Int))], [(2000, .cells 3 [.i i6])], [2000], 0⟩) rfl rfl ⟨.refl _, trivial⟩ ⟨⟨_, rfl, .refl _⟩, trivial⟩) ?_
    refine AWp.ret ?_
    exact bodyQ_ret _ rfl ⟨rfl, rfl⟩ rfl
def f57a (x1 : List Int) (x2 : Int) : Option (Bool × Int) :=
  (f89a x1 x2).bind fun (r3 : Int × Int) =>
  some ((decide (r3.1 ≥ (0 : Int))), r3.2)
set_option maxRecDepth 100000 in
theorem f57a_ok  (x1 : List Int) (x2 : Int) (r : Bool × Int) (h : f57a x1 x2 = some r)  : Spec1 Tryd.prog 57 [] [2000] [(2000, .cells 3 [.int .i64 x2])] [vL 1 eI 0 x1, .fn (.func 91) [.ptr 2000 0]] (.bool r.1) [(2000, .cells 3 [.int .i64 r.2])] := by
  unfold f57a at h
  refine Spec1.body 0 _ _ Tryd.func57 rfl Tryd.ntmps57 rfl rfl ?_
  refine q2rq [] [] ⟨9, [(0, q2aI x1), (1, .fn (.func 91) [.ptr 2000 0])], [(2000, .cells 3 [.i x2])], [2000], 0⟩ trivial ?_
  refine AWp.seq ?_
  obtain ⟨r3, hr3, h⟩ := bind_ok h
  refine q2rr [] [(2, ⟨[q2aI x1, .fn (.func 91) [.ptr 2000 0]], [2000], [2000], [(2000, .cells 3 [.i r3.2])], .i r3.1, [], [], []⟩)] ⟨9, [(4, .bool (decide (r3.1 ≥ (0 : Int))))], [(2000, .cells 3 [.i r3.2])], [2000], 0⟩ (an1 (cpT (f89a_ok _ _ _ hr3))) ?_
  refine thenQ_normal ?_
  have hret := Option.some.inj h
  subst hret
  refine AWp.le (Le.mk (s' := ⟨9, [(4, .bool (decide (r3.1 ≥ (0 : Int))))], [(2000, .cells 3 [.i r3.2])], [2000], 0⟩) rfl rfl ⟨.refl _, trivial⟩ ⟨⟨_, rfl, .refl _⟩, trivial⟩) ?_
  refine AWp.ret ?_
  exact bodyQ_ret _ rfl ⟨rfl, rfl⟩ rfl
abbrev f70z0 (x2 : Int) (x3 : Int) := (((decide (x2 < (0 : Int))) || (decide (x2 ≥ (12 : Int)))) || (decide (x3 < (0 : Int))))
abbrev f70z1 (x1 : Int) (x2 : Int) (x3 : Int) (x4 : List Int) (x5 : List Int) (x6 : Int) : Heap := [(2, .cells 67 [.int .i64 x1, .int .i64 x2, .int .i64 x3, vL 1 eI 0 x4, vL 1 eI 0 x5]), (3, .cells 3 [.int .i64 x6])]
abbrev f70z2 (x2 : Int) (x3 : Int) := ((f70z0 x2 x3) || (decide (x3 > (100000 : Int))))
abbrev f70z3 (x2 : Int) := ((decide (x2 < (0 : Int))) || (decide (x2 ≥ (12 : Int))))
abbrev f70z4 : List (Nat × V) := [(4, .int .i64 (1 : Int))]
abbrev f70z5 (x3 : Int) := ((x3 != (0 : Int)) == false)
abbrev f70z6 (x2 : Int) := ((decide (x2 < (0 : Int))) == false)
def f70 (x1 : Int) (x2 : Int) (x3 : Int) (x4 : List Int) (x5 : List Int) (x6 : Int) : Option Int :=
  jn (fun (_ : Unit) =>
  optc (((((decide (x2 < (0 : Int))) || (decide (x2 ≥ (12 : Int)))) || (decide (x3 < (0 : Int)))) || (decide (x3 > (100000 : Int)))) == false) (f57 x4) fun (r7 : Bool) =>
  if (((((decide (x2 < (0 : Int))) || (decide (x2 ≥ (12 : Int)))) || (decide (x3 < (0 : Int)))) || (decide (x3 > (100000 : Int)))) || r7) then (
  some (7 : Int)
  ) else (
  if ((decide ((((x4).length : Nat) : Int) > (0 : Int))) && ((((x4).length : Nat) : Int) != (((x5).length : Nat) : Int))) then (
  some (6 : Int)
  ) else (
  (f57a x5 x6).bind fun (r8 : Bool × Int) =>
  if r8.1 then (
  some (4 : Int)
  ) else (
  some (0 : Int)
  )
  )
  )
  ) fun (K1 : Unit → Option Int) =>
  if (x1 == (1 : Int)) then (
  if (((x3 != (0 : Int)) || (decide ((((x4).length : Nat) : Int) > (0 : Int)))) || (decide ((((x5).length : Nat) : Int) > (0 : Int)))) then (
  some (1 : Int)
  ) else (
  K1 ()
  )
  ) else (
  if (x1 == (2 : Int)) then (
  if (x2 != (0 : Int)) then (
  some (1 : Int)
  ) else (
  K1 ()
  )
  ) else (
  some (1 : Int)
  )
  )
set_option maxRecDepth 100000 in
theorem f70_ok  (x1 : Int) (x2 : Int) (x3 : Int) (x4 : List Int) (x5 : List Int) (x6 : Int) (r : Int) (h : f70 x1 x2 x3 x4 x5 x6 = some r)  : Spec1 Tryd.prog 70 [] [] [] [.agg [.int .i64 x1, .int .i64 x2, .int .i64 x3, vL 1 eI 0 x4, vL 1 eI 0 x5], .int .i64 x6] (.int .i64 r) [] := by
  unfold f70 at h
  refine Spec1.body 0 _ _ Tryd.func70 rfl Tryd.ntmps70 rfl rfl ?_
  refine q2rq [] [] ⟨76, [(2, .ptr 2 0), (3, .ptr 3 0)], (f70z1 x1 x2 x3 x4 x5 x6), [], 0⟩ trivial ?_
  obtain ⟨K1, hK1, h⟩ := jn_some h
  refine AWp.join (α := Unit) (fun (x : Unit) => match x with | () => ⟨76, [(2, .ptr 2 0), (3, .ptr 3 0)], (f70z1 x1 x2 x3 x4 x5 x6), [], 0⟩) (fun x => K1 x = some r) ?_ ?_
  ·
    refine q2rq [] [] ⟨76, [(2, .ptr 2 0), (3, .ptr 3 0), (8, .i x1)], (f70z1 x1 x2 x3 x4 x5 x6), [], 0⟩ trivial ?_
    refine AWp.block ?_
    refine q2rq [] [] ⟨76, [(2, .ptr 2 0), (3, .ptr 3 0), (8, .i x1), (9, .bool (x1 == (1 : Int)))], (f70z1 x1 x2 x3 x4 x5 x6), [], 0⟩ trivial ?_
    refine AWp.cond (b := (x1 == (1 : Int))) (by kernel_rfl) (fun hc1 => ?_) (fun hc1 => ?_)
    ·
      replace h := ite_tb hc1 h
      refine AWp.seq ?_
      have ob0 := idA ((f70z5 x3) = true)
      have ob1 := idA ((f70z5 x3) = true)
      have ob2 := idA ((f70z5 x3) = true)
      have ob3 : true = true → (x3 != (0 : Int)) = false → (f70z5 x3) = true := fun _ h => beq_iff_eq.2 h
      have ob4 := idA ((((x3 != (0 : Int)) || (decide ((lZ x4) > (0 : Int)))) == false) = true)
      have ob5 := idA ((((x3 != (0 : Int)) || (decide ((lZ x4) > (0 : Int)))) == false) = true)
      have ob6 := idA ((((x3 != (0 : Int)) || (decide ((lZ x4) > (0 : Int)))) == false) = true)
      have ob7 := bqA ((x3 != (0 : Int)) || (decide ((lZ x4) > (0 : Int)))) false
      refine q2rr [] [] ⟨76, [(2, .ptr 2 0), (3, .ptr 3 0), (25, .bool (((x3 != (0 : Int)) || (decide ((lZ x4) > (0 : Int)))) || (decide ((lZ x5) > (0 : Int)))))], (f70z1 x1 x2 x3 x4 x5 x6), [], 0⟩ (ac6 (an1 ob0) (an1 ob1) (an1 ob2) ob3 (an1 ob4) (an1 ob5) (an2 (an1 ob6) ob7)) ?_
      refine thenQ_normal ?_
      refine AWp.cond (b := (((x3 != (0 : Int)) || (decide ((lZ x4) > (0 : Int)))) || (decide ((lZ x5) > (0 : Int))))) (by kernel_rfl) (fun hc2 => ?_) (fun hc2 => ?_)
      ·
        replace h := ite_tb hc2 h
        refine q2rq [] [] ⟨76, (f70z4), [], [], 0⟩ trivial ?_
        have hret := Option.some.inj h
        subst hret
        refine AWp.le (Le.mk (s' := ⟨76, (f70z4), [], [], 0⟩) rfl rfl ⟨.refl _, trivial⟩ trivial) ?_
        refine AWp.ret ?_
        refine blockQ_ret ?_
        refine joinQ_ret ?_
        exact bodyQ_ret _ rfl ⟨rfl, rfl⟩ rfl
      ·
        replace h := ite_fb hc2 h
        refine AWp.skip ?_
        refine blockQ_normal ?_
        exact joinQ_normal () (Le.mk rfl rfl ⟨.refl _, .refl _, trivial⟩ ⟨⟨_, rfl, .refl _⟩, ⟨_, rfl, .refl _⟩, trivial⟩) h
    ·
      replace h := ite_fb hc1 h
      refine q2rq [] [] ⟨76, [(2, .ptr 2 0), (3, .ptr 3 0), (26, .bool (x1 == (2 : Int)))], (f70z1 x1 x2 x3 x4 x5 x6), [], 0⟩ trivial ?_
      refine AWp.cond (b := (x1 == (2 : Int))) (by kernel_rfl) (fun hc3 => ?_) (fun hc3 => ?_)
      ·
        replace h := ite_tb hc3 h
        refine q2rq [] [] ⟨76, [(2, .ptr 2 0), (3, .ptr 3 0), (30, .bool (x2 != (0 : Int)))], (f70z1 x1 x2 x3 x4 x5 x6), [], 0⟩ trivial ?_
        refine AWp.cond (b := (x2 != (0 : Int))) (by kernel_rfl) (fun hc4 => ?_) (fun hc4 => ?_)
        ·
          replace h := ite_tb hc4 h
          refine q2rq [] [] ⟨76, (f70z4), [], [], 0⟩ trivial ?_
          have hret := Option.some.inj h
          subst hret
          refine AWp.le (Le.mk (s' := ⟨76, (f70z4), [], [], 0⟩) rfl rfl ⟨.refl _, trivial⟩ trivial) ?_
          refine AWp.ret ?_
          refine blockQ_ret ?_
          refine joinQ_ret ?_
          exact bodyQ_ret _ rfl ⟨rfl, rfl⟩ rfl
        ·
          replace h := ite_fb hc4 h
          refine AWp.skip ?_
          refine blockQ_normal ?_
          exact joinQ_normal () (Le.mk rfl rfl ⟨.refl _, .refl _, trivial⟩ ⟨⟨_, rfl, .refl _⟩, ⟨_, rfl, .refl _⟩, trivial⟩) h
      ·
        replace h := ite_fb hc3 h
        refine q2rq [] [] ⟨76, (f70z4), [], [], 0⟩ trivial ?_
        have hret := Option.some.inj h
        subst hret
        refine AWp.le (Le.mk (s' := ⟨76, (f70z4), [], [], 0⟩) rfl rfl ⟨.refl _, trivial⟩ trivial) ?_
        refine AWp.ret ?_
        refine blockQ_ret ?_
        refine joinQ_ret ?_
        exact bodyQ_ret _ rfl ⟨rfl, rfl⟩ rfl
  ·
    rintro ⟨⟩ h
    replace h := (congrFun hK1 _).symm.trans h
    refine q2rq [] [] ⟨76, [(2, .ptr 2 0), (3, .ptr 3 0), (5, .fn (.func 90) [])], (f70z1 x1 x2 x3 x4 x5 x6), [], 0⟩ trivial ?_
    refine q2rq [] [] ⟨76, [(2, .ptr 2 0), (5, .fn (.func 90) []), (6, .fn (.func 91) [.ptr 3 0])], (f70z1 x1 x2 x3 x4 x5 x6), [], 0⟩ trivial ?_
    refine AWp.seq ?_
    refine AWp.block ?_
    refine AWp.seq ?_
    obtain ⟨r7, hr7, h⟩ := optc_some h
    have ob8 := idA ((f70z6 x2) = true)
    have ob9 := idA ((f70z6 x2) = true)
    have ob10 : true = true → (decide (x2 < (0 : Int))) = false → (f70z6 x2) = true := fun _ h => beq_iff_eq.2 h
    have ob11 := idA (((f70z3 x2) == false) = true)
    have ob12 := idA (((f70z3 x2) == false) = true)
    have ob13 := bqA (f70z3 x2) false
    have ob14 := idA (((f70z0 x2 x3) == false) = true)
    have ob15 := idA (((f70z0 x2 x3) == false) = true)
    have ob16 := bqA (f70z0 x2 x3) false
    have ob17 := idA (((f70z2 x2 x3) == false) = true)
    have ob18 := idA (((f70z2 x2 x3) == false) = true)
    have ob19 := idA (((f70z2 x2 x3) == false) = true)
    have ob20 := bqA (f70z2 x2 x3) false
    refine q2rr [] [(22, ⟨[q2aI x4, .fn (.func 90) []], [], [], [], .bool r7, [], [], []⟩)] ⟨76, [(2, .ptr 2 0), (6, .fn (.func 91) [.ptr 3 0]), (32, .bool ((f70z2 x2 x3) || r7))], (f70z1 x1 x2 x3 x4 x5 x6), [], 0⟩ (ac6 (an1 ob8) (an1 ob9) ob10 (an1 ob11) (an1 ob12) ob13 (an6 (an1 ob14) (an1 ob15) ob16 (an1 ob17) (And.intro (cpC fun hc => (f57_ok _ _ (hr7 hc))) (an2 ob18 ob19)) ob20)) ?_
    refine thenQ_normal ?_
    refine AWp.cond (b := ((f70z2 x2 x3) || r7)) (by kernel_rfl) (fun hc5 => ?_) (fun hc5 => ?_)
    ·
      replace h := ite_tb hc5 h
      refine q2rq [] [] ⟨76, [(4, .i (7 : Int))], [], [], 0⟩ trivial ?_
      have hret := Option.some.inj h
      subst hret
      refine AWp.le (Le.mk (s' := ⟨76, [(4, .i (7 : Int))], [], [], 0⟩) rfl rfl ⟨.refl _, trivial⟩ trivial) ?_
      refine AWp.ret ?_
      refine blockQ_ret ?_
      refine thenQ_ret ?_
      exact bodyQ_ret _ rfl ⟨rfl, rfl⟩ rfl
    ·
      replace h := ite_fb hc5 h
      refine AWp.seq ?_
      have ob21 := idA (((decide ((lZ x4) > (0 : Int))) == true) = true)
      have ob22 := idA (((decide ((lZ x4) > (0 : Int))) == true) = true)
      have ob23 := idA (((decide ((lZ x4) > (0 : Int))) == true) = true)
      have ob24 := idA (((decide ((lZ x4) > (0 : Int))) == true) = true)
      have ob25 := idA (((decide ((lZ x4) > (0 : Int))) == true) = true)
      have ob26 := idA (((decide ((lZ x4) > (0 : Int))) == true) = true)
      have ob27 := bqA (decide ((lZ x4) > (0 : Int))) true
      refine q2rr [] [] ⟨76, [(2, .ptr 2 0), (6, .fn (.func 91) [.ptr 3 0]), (57, .bool ((decide ((lZ x4) > (0 : Int))) && ((lZ x4) != (lZ x5))))], (f70z1 x1 x2 x3 x4 x5 x6), [], 0⟩ (an6 (an1 ob21) (an1 ob22) (an1 ob23) (an1 ob24) (an2 ob25 ob26) ob27) ?_
      refine thenQ_normal ?_
      refine AWp.cond (b := ((decide ((lZ x4) > (0 : Int))) && ((lZ x4) != (lZ x5)))) (by kernel_rfl) (fun hc6 => ?_) (fun hc6 => ?_)
      ·
        replace h := ite_tb hc6 h
        refine q2rq [] [] ⟨76, [(4, .i (6 : Int))], [], [], 0⟩ trivial ?_
        have hret := Option.some.inj h
        subst hret
        refine AWp.le (Le.mk (s' := ⟨76, [(4, .i (6 : Int))], [], [], 0⟩) rfl rfl ⟨.refl _, trivial⟩ trivial) ?_
        refine AWp.ret ?_
        refine blockQ_ret ?_
        refine thenQ_ret ?_
        exact bodyQ_ret _ rfl ⟨rfl, rfl⟩ rfl
      ·
        replace h := ite_fb hc6 h
        refine AWp.seq ?_
        obtain ⟨r8, hr8, h⟩ := bind_ok h
        refine q2rr [] [(3, ⟨[q2aI x5, .fn (.func 91) [.ptr 3 0]], [3], [3], [(3, .cells 3 [.i r8.2])], .bool r8.1, [], [], []⟩)] ⟨76, [(71, .bool r8.1)], [], [], 0⟩ (an1 (cpT (Spec1.ren (swapN 2000 3) (swapN_inv 2000 3) rfl (f57a_ok _ _ _ hr8)))) ?_
        refine thenQ_normal ?_
        refine AWp.cond (b := r8.1) (by kernel_rfl) (fun hc7 => ?_) (fun hc7 => ?_)
        ·
          replace h := ite_tb hc7 h
          refine q2rq [] [] ⟨76, [(4, .i (4 : Int))], [], [], 0⟩ trivial ?_
          have hret := Option.some.inj h
          subst hret
          refine AWp.le (Le.mk (s' := ⟨76, [(4, .i (4 : Int))], [], [], 0⟩) rfl rfl ⟨.refl _, trivial⟩ trivial) ?_
          refine AWp.ret ?_
          refine blockQ_ret ?_
          refine thenQ_ret ?_
          exact bodyQ_ret _ rfl ⟨rfl, rfl⟩ rfl
        ·
          replace h := ite_fb hc7 h
          refine AWp.skip ?_
          refine blockQ_normal ?_
          refine thenQ_normal ?_
          refine q2rq [] [] ⟨76, [(4, .i (0 : Int))], [], [], 0⟩ trivial ?_
          have hret := Option.some.inj h
          subst hret
          refine AWp.le (Le.mk (s' := ⟨76, [(4, .i (0 : Int))], [], [], 0⟩) rfl rfl ⟨.refl _, trivial⟩ trivial) ?_
          refine AWp.ret ?_
          exact bodyQ_ret _ rfl ⟨rfl, rfl⟩ rfl
def f27_L0 (x1 : List (Int × Int × Int × List Int × List Int)) (K1 : Unit → Option Int) : Nat → Nat → Option Int
  | 0, _ => none
  | k + 1, n3 =>
    if (decide ((n3 : Int) < (((x1).length : Nat) : Int))) then (
    chk ((n3 : Int) < (((x1).length : Nat) : Int)) <|
    (f70 ((x1.getD n3 (default : Int × Int × Int × List Int × List Int)).1) ((x1.getD n3 (default : Int × Int × Int × List Int × List Int)).2.1) ((x1.getD n3 (default : Int × Int × Int × List Int × List Int)).2.2.1) ((x1.getD n3 (default : Int × Int × Int × List Int × List Int)).2.2.2.1) ((x1.getD n3 (default : Int × Int × Int × List Int × List Int)).2.2.2.2) (n3 : Int)).bind fun (r4 : Int) =>
    if (r4 != (0 : Int)) then (
    some r4
    ) else (
    chk (((n3 : Int) + (1 : Int)) ≤ 9223372036854775807) <|
    (f27_L0 x1 K1 k) (n3 + 1)
    )
    ) else (
    K1 ()
    )
abbrev f27z0 (x1 : List (Int × Int × Int × List Int × List Int)) (x2 : Int) : Heap := [(1, .cells 28 [vL 5 eT67 (default : Int × Int × Int × List Int × List Int) x1, .int .i64 x2])]
abbrev f27z1 (x1 : List (Int × Int × Int × List Int × List Int)) (n3 : Nat) := (x1.getD n3 (default : Int × Int × Int × List Int × List Int))
abbrev f27z2 (x2 : Int) := ((decide (x2 < (0 : Int))) == false)
def f27 (x1 : List (Int × Int × Int × List Int × List Int)) (x2 : Int) : Option Int :=
  if ((((x1).length : Nat) : Int) == (0 : Int)) then (
  some (9 : Int)
  ) else (
  if (decide ((((x1).length : Nat) : Int) > (60 : Int))) then (
  some (3 : Int)
  ) else (
  jn (fun (_ : Unit) =>
  if ((decide (x2 < (0 : Int))) || (decide (x2 ≥ (((x1).length : Nat) : Int)))) then (
  some (4 : Int)
  ) else (
  some (0 : Int)
  )
  ) fun (K1 : Unit → Option Int) =>
  f27_L0 x1 K1 FUEL 0
  )
  )
set_option maxRecDepth 100000 in
theorem f27_ok  (x1 : List (Int × Int × Int × List Int × List Int)) (x2 : Int) (r : Int) (h : f27 x1 x2 = some r)  : Spec1 Tryd.prog 27 [] [] [] [.agg [vL 5 eT67 (default : Int × Int × Int × List Int × List Int) x1, .int .i64 x2]] (.int .i64 r) [] := by
  unfold f27 at h
  refine Spec1.body 0 _ _ Tryd.func27 rfl Tryd.ntmps27 rfl rfl ?_
  refine q2rq [] [] ⟨40, [(1, .ptr 1 0)], (f27z0 x1 x2), [], 0⟩ trivial ?_
  refine AWp.seq ?_
  refine q2rq [] [] ⟨40, [(1, .ptr 1 0), (9, .bool ((lZ x1) == (0 : Int)))], (f27z0 x1 x2), [], 0⟩ trivial ?_
  refine AWp.cond (b := ((lZ x1) == (0 : Int))) (by kernel_rfl) (fun hc1 => ?_) (fun hc1 => ?_)
  ·
    replace h := ite_tb hc1 h
    refine q2rq [] [] ⟨40, [(2, .i (9 : Int))], [], [], 0⟩ trivial ?_
    have hret := Option.some.inj h
    subst hret
    refine AWp.le (Le.mk (s' := ⟨40, [(2, .i (9 : Int))], [], [], 0⟩) rfl rfl ⟨.refl _, trivial⟩ trivial) ?_
    refine AWp.ret ?_
    refine thenQ_ret ?_
    exact bodyQ_ret _ rfl ⟨rfl, rfl⟩ rfl
  ·
    replace h := ite_fb hc1 h
    refine AWp.skip ?_
    refine thenQ_normal ?_
    refine AWp.seq ?_
    refine q2rq [] [] ⟨40, [(1, .ptr 1 0), (13, .bool (decide ((lZ x1) > (60 : Int))))], (f27z0 x1 x2), [], 0⟩ trivial ?_
    refine AWp.cond (b := (decide ((lZ x1) > (60 : Int)))) (by kernel_rfl) (fun hc2 => ?_) (fun hc2 => ?_)
    ·
      replace h := ite_tb hc2 h
      refine q2rq [] [] ⟨40, [(2, .i (3 : Int))], [], [], 0⟩ trivial ?_
      have hret := Option.some.inj h
      subst hret
      refine AWp.le (Le.mk (s' := ⟨40, [(2, .i (3 : Int))], [], [], 0⟩) rfl rfl ⟨.refl _, trivial⟩ trivial) ?_
      refine AWp.ret ?_
      refine thenQ_ret ?_
      exact bodyQ_ret _ rfl ⟨rfl, rfl⟩ rfl
    ·
      replace h := ite_fb hc2 h
      refine AWp.skip ?_
      refine thenQ_normal ?_
      obtain ⟨K1, hK1, h⟩ := jn_some h
      refine AWp.join (α := Unit) (fun (x : Unit) => match x with | () => ⟨40, [(1, .ptr 1 0)], (f27z0 x1 x2), [], 0⟩) (fun x => K1 x = some r) ?_ ?_
      ·
        refine q2rq [] [] ⟨40, [(1, .ptr 1 0), (15, q2aT67 x1), (16, .i (lZ x1)), (17, .i (0 : Int))], (f27z0 x1 x2), [], 0⟩ trivial ?_
        refine AWp.block ?_
        refine AWp.loopL (α := Nat × Nat) (fun x => match x with | (_, n3) => ⟨40, [(1, .ptr 1 0), (15, q2aT67 x1), (16, .i (lZ x1)), (17, .i (n3 : Int))], (f27z0 x1 x2), [], 0⟩) (fun x => f27_L0 x1 K1 x.1 x.2 = some r) (fun x => x.1) (FUEL, 0) (Le.mk (s' := ⟨40, [(1, .ptr 1 0), (15, q2aT67 x1), (16, .i (lZ x1)), (17, .i (0 : Int))], (f27z0 x1 x2), [], 0⟩) rfl rfl ⟨.refl _, .refl _, .refl _, .refl _, trivial⟩ ⟨⟨_, rfl, .refl _⟩, trivial⟩) h ?_
        rintro ⟨k0, n3⟩ h
        cases k0 with
        | zero => exact nomatch (show (none : Option Int) = some r from h)
        | succ k0 =>
        obtain ⟨C0, hC0⟩ : ∃ C, C = f27_L0 x1 K1 k0 := ⟨_, rfl⟩
        replace h := (f27_L0.eq_2 ..).symm.trans h
        try rw [← hC0] at h
        refine q2rq [] [] ⟨40, [(1, .ptr 1 0), (15, q2aT67 x1), (16, .i (lZ x1)), (17, .i (n3 : Int)), (18, .bool (decide ((n3 : Int) < (lZ x1))))], (f27z0 x1 x2), [], 0⟩ trivial ?_
        refine AWp.seq ?_
        refine AWp.cond (b := (decide ((n3 : Int) < (lZ x1)))) (by kernel_rfl) (fun hc3 => ?_) (fun hc3 => ?_)
        ·
          replace h := ite_tb hc3 h
          refine AWp.skip ?_
          refine thenQ_normal ?_
          refine AWp.seq ?_
          refine AWp.block ?_
          refine AWp.seq ?_
          obtain ⟨ob0p, h⟩ := chk_some h
          have ob0 : 0 ≤ (n3 : Int) ∧ (n3 : Int) < (((x1).length : Nat) : Int) := ⟨by omega, ob0p⟩
          refine q2rr [] [] ⟨40, [(1, .ptr 1 0), (3, .i (n3 : Int)), (4, .ptr 4 0), (15, q2aT67 x1), (16, .i (lZ x1)), (17, .i (n3 : Int))], [(1, .cells 28 [q2aT67 x1, .i x2]), (4, .cells 67 [.i (f27z1 x1 n3).1, .i (f27z1 x1 n3).2.1, .i (f27z1 x1 n3).2.2.1, q2aI (f27z1 x1 n3).2.2.2.1, q2aI (f27z1 x1 n3).2.2.2.2])], [], 0⟩ (an2 ob0 trivial) ?_
          refine thenQ_normal ?_
          refine AWp.seq ?_
          obtain ⟨r4, hr4, h⟩ := bind_ok h
          refine q2rr [] [(2, ⟨[.agg [.i (f27z1 x1 n3).1, .i (f27z1 x1 n3).2.1, .i (f27z1 x1 n3).2.2.1, q2aI (f27z1 x1 n3).2.2.2.1, q2aI (f27z1 x1 n3).2.2.2.2], .i (n3 : Int)], [], [], [], .i r4, [], [], []⟩)] ⟨40, [(1, .ptr 1 0), (5, .i r4), (15, q2aT67 x1), (16, .i (lZ x1)), (17, .i (n3 : Int))], (f27z0 x1 x2), [], 0⟩ (an1 (cpT (f70_ok _ _ _ _ _ _ _ hr4))) ?_
          refine thenQ_normal ?_
          refine q2rq [] [] ⟨40, [(1, .ptr 1 0), (5, .i r4), (15, q2aT67 x1), (16, .i (lZ x1)), (17, .i (n3 : Int)), (26, .bool (r4 != (0 : Int)))], (f27z0 x1 x2), [], 0⟩ trivial ?_
          refine AWp.cond (b := (r4 != (0 : Int))) (by kernel_rfl) (fun hc4 => ?_) (fun hc4 => ?_)
          ·
            replace h := ite_tb hc4 h
            refine q2rq [] [] ⟨40, [(2, .i r4)], [], [], 0⟩ trivial ?_
            have hret := Option.some.inj h
            subst hret
            refine AWp.le (Le.mk (s' := ⟨40, [(2, .i r4)], [], [], 0⟩) rfl rfl ⟨.refl _, trivial⟩ trivial) ?_
            refine AWp.ret ?_
            refine blockQ_ret ?_
            refine thenQ_ret ?_
            refine thenQ_ret ?_
            refine blockQ_ret ?_
            refine joinQ_ret ?_
            exact bodyQ_ret _ rfl ⟨rfl, rfl⟩ rfl
          ·
            replace h := ite_fb hc4 h
            refine AWp.skip ?_
            refine blockQ_normal ?_
            refine thenQ_normal ?_
            obtain ⟨ob1p, h⟩ := chk_some h
            have ob1 : -9223372036854775808 ≤ ((n3 : Int) + (1 : Int)) ∧ ((n3 : Int) + (1 : Int)) ≤ 9223372036854775807 := ⟨by omega, ob1p⟩
            refine q2rr [] [] ⟨40, [(1, .ptr 1 0), (15, q2aT67 x1), (16, .i (lZ x1)), (17, .i (((n3 + 1) : Nat) : Int))], (f27z0 x1 x2), [], 0⟩ (an1 ob1) ?_
            rw [hC0] at h
            exact loopQ_normal (_, (n3 + 1)) (Le.mk rfl rfl ⟨.refl _, .refl _, .refl _, .refl _, trivial⟩ ⟨⟨_, rfl, .refl _⟩, trivial⟩) h (Nat.lt_succ_self _)
        ·
          replace h := ite_fb hc3 h
          refine AWp.exit ?_
          refine thenQ_exit ?_
          refine thenQ_exit ?_
          refine blockQ_same ?_
          exact joinQ_normal () (Le.mk rfl rfl ⟨.refl _, trivial⟩ ⟨⟨_, rfl, .refl _⟩, trivial⟩) h
      ·
        rintro ⟨⟩ h
        replace h := (congrFun hK1 _).symm.trans h
        refine AWp.seq ?_
        refine AWp.seq ?_
        have ob2 := idA ((f27z2 x2) = true)
        have ob3 := idA ((f27z2 x2) = true)
        have ob4 := idA ((f27z2 x2) = true)
        have ob5 := idA ((f27z2 x2) = true)
        have ob6 := idA ((f27z2 x2) = true)
        have ob7 : true = true → (decide (x2 < (0 : Int))) = false → (f27z2 x2) = true := fun _ h => beq_iff_eq.2 h
        refine q2rr [] [] ⟨40, [(39, .bool ((decide (x2 < (0 : Int))) || (decide (x2 ≥ (lZ x1)))))], [], [], 0⟩ (an5 (an1 ob2) (an1 ob3) (an1 ob4) (an2 ob5 ob6) ob7) ?_
        refine thenQ_normal ?_
        refine AWp.cond (b := ((decide (x2 < (0 : Int))) || (decide (x2 ≥ (lZ x1))))) (by kernel_rfl) (fun hc5 => ?_) (fun hc5 => ?_)
        ·
          replace h := ite_tb hc5 h
          refine q2rq [] [] ⟨40, [(2, .i (4 : Int))], [], [], 0⟩ trivial ?_
          have hret := Option.some.inj h
          subst hret
          refine AWp.le (Le.mk (s' := ⟨40, [(2, .i (4 : Int))], [], [], 0⟩) rfl rfl ⟨.refl _, trivial⟩ trivial) ?_
          refine AWp.ret ?_
          refine thenQ_ret ?_
          exact bodyQ_ret _ rfl ⟨rfl, rfl⟩ rfl
        ·
          replace h := ite_fb hc5 h
          refine AWp.skip ?_
          refine thenQ_normal ?_
          refine q2rq [] [] ⟨40, [(2, .i (0 : Int))], [], [], 0⟩ trivial ?_
          have hret := Option.some.inj h
          subst hret
          refine AWp.le (Le.mk (s' := ⟨40, [(2, .i (0 : Int))], [], [], 0⟩) rfl rfl ⟨.refl _, trivial⟩ trivial) ?_
          refine AWp.ret ?_
          exact bodyQ_ret _ rfl ⟨rfl, rfl⟩ rfl
def f29_L0 (x1 : List (Int × Int × Int × List Int × List Int)) (K1 : (BitVec 16) → Option (BitVec 16)) : Nat → (BitVec 16 × Nat) → Option (BitVec 16)
  | 0, _ => none
  | k + 1, (w3, n4) =>
    if (decide ((n4 : Int) < (((x1).length : Nat) : Int))) then (
    jn (fun (w5 : BitVec 16) =>
    chk (((n4 : Int) + (1 : Int)) ≤ 9223372036854775807) <|
    (f29_L0 x1 K1 k) (w5, (n4 + 1))
    ) fun (K2 : (BitVec 16) → Option (BitVec 16)) =>
    chk ((n4 : Int) < (((x1).length : Nat) : Int)) <|
    if ((x1.getD n4 (default : Int × Int × Int × List Int × List Int)).1 == (1 : Int)) then (
    chk (0 ≤ (x1.getD n4 (default : Int × Int × Int × List Int × List Int)).2.1) <|
    K2 (w3 ||| ((BitVec.ofInt 16 1) <<< (((x1.getD n4 (default : Int × Int × Int × List Int × List Int)).2.1).toNat)))
    ) else (
    K2 w3
    )
    ) else (
    K1 w3
    )
abbrev f29z0 (x1 : List (Int × Int × Int × List Int × List Int)) (n4 : Nat) := (x1.getD n4 (default : Int × Int × Int × List Int × List Int))
def f29 (x1 : List (Int × Int × Int × List Int × List Int)) (x2 : Int) : Option (BitVec 16) :=
  jn (fun (w6 : BitVec 16) =>
  some w6
  ) fun (K1 : (BitVec 16) → Option (BitVec 16)) =>
  f29_L0 x1 K1 FUEL ((BitVec.ofInt 16 0), 0)
set_option maxRecDepth 100000 in
theorem f29_ok  (x1 : List (Int × Int × Int × List Int × List Int)) (x2 : Int) (r : BitVec 16) (h : f29 x1 x2 = some r)  : Spec1 Tryd.prog 29 [] [] [] [.agg [vL 5 eT67 (default : Int × Int × Int × List Int × List Int) x1, .int .i64 x2]] (.b16 r) [] := by
  unfold f29 at h
  refine Spec1.body 0 _ _ Tryd.func29 rfl Tryd.ntmps29 rfl rfl ?_
  refine q2rq [] [] ⟨23, [(1, .ptr 1 0)], [(1, .cells 28 [q2aT67 x1, .i x2])], [], 0⟩ trivial ?_
  refine q2rq [] [] ⟨23, [(1, .ptr 1 0), (3, .b16 (q2w16 0))], [(1, .cells 28 [q2aT67 x1, .i x2])], [], 0⟩ trivial ?_
  obtain ⟨K1, hK1, h⟩ := jn_some h
  refine AWp.join (α := BitVec 16) (fun (w6 : BitVec 16) => ⟨23, [(3, .b16 w6)], [], [], 0⟩) (fun x => K1 x = some r) ?_ ?_
  ·
    refine q2rq [] [] ⟨23, [(3, .b16 (q2w16 0)), (7, q2aT67 x1), (8, .i (lZ x1)), (9, .i (0 : Int))], [], [], 0⟩ trivial ?_
    refine AWp.block ?_
    refine AWp.loopL (α := Nat × (BitVec 16 × Nat)) (fun x => match x with | (_, w3, n4) => ⟨23, [(3, .b16 w3), (7, q2aT67 x1), (8, .i (lZ x1)), (9, .i (n4 : Int))], [], [], 0⟩) (fun x => f29_L0 x1 K1 x.1 x.2 = some r) (fun x => x.1) (FUEL, (q2w16 0), 0) (Le.mk (s' := ⟨23, [(3, .b16 (q2w16 0)), (7, q2aT67 x1), (8, .i (lZ x1)), (9, .i (0 : Int))], [], [], 0⟩) rfl rfl ⟨.refl _, .refl _, .refl _, .refl _, trivial⟩ trivial) h ?_
    rintro ⟨k0, w3, n4⟩ h
    cases k0 with
    | zero => exact nomatch (show (none : Option (BitVec 16)) = some r from h)
    | succ k0 =>
    obtain ⟨C0, hC0⟩ : ∃ C, C = f29_L0 x1 K1 k0 := ⟨_, rfl⟩
    replace h := (f29_L0.eq_2 ..).symm.trans h
    try rw [← hC0] at h
    refine q2rq [] [] ⟨23, [(3, .b16 w3), (7, q2aT67 x1), (8, .i (lZ x1)), (9, .i (n4 : Int)), (10, .bool (decide ((n4 : Int) < (lZ x1))))], [], [], 0⟩ trivial ?_
    refine AWp.seq ?_
    refine AWp.cond (b := (decide ((n4 : Int) < (lZ x1)))) (by kernel_rfl) (fun hc1 => ?_) (fun hc1 => ?_)
    ·
      replace h := ite_tb hc1 h
      refine AWp.skip ?_
      refine thenQ_normal ?_
      obtain ⟨K2, hK2, h⟩ := jn_some h
      refine AWp.join (α := BitVec 16) (fun (w5 : BitVec 16) => ⟨23, [(3, .b16 w5), (7, q2aT67 x1), (8, .i (lZ x1)), (9, .i (n4 : Int))], [], [], 0⟩) (fun x => K2 x = some r) ?_ ?_
      ·
        refine AWp.block ?_
        refine AWp.seq ?_
        obtain ⟨ob0p, h⟩ := chk_some h
        have ob0 : 0 ≤ (n4 : Int) ∧ (n4 : Int) < (((x1).length : Nat) : Int) := ⟨by omega, ob0p⟩
        refine q2rr [] [] ⟨23, [(3, .b16 w3), (5, .ptr 5 0), (7, q2aT67 x1), (8, .i (lZ x1)), (9, .i (n4 : Int))], [(5, .cells 67 [.i (f29z0 x1 n4).1, .i (f29z0 x1 n4).2.1, .i (f29z0 x1 n4).2.2.1, q2aI (f29z0 x1 n4).2.2.2.1, q2aI (f29z0 x1 n4).2.2.2.2])], [], 0⟩ (an2 ob0 trivial) ?_
        refine thenQ_normal ?_
        refine q2rq [] [] ⟨23, [(3, .b16 w3), (5, .ptr 5 0), (7, q2aT67 x1), (8, .i (lZ x1)), (9, .i (n4 : Int)), (15, .bool ((f29z0 x1 n4).1 == (1 : Int)))], [(5, .cells 67 [.i (f29z0 x1 n4).1, .i (f29z0 x1 n4).2.1, .i (f29z0 x1 n4).2.2.1, q2aI (f29z0 x1 n4).2.2.2.1, q2aI (f29z0 x1 n4).2.2.2.2])], [], 0⟩ trivial ?_
        refine AWp.cond (b := ((f29z0 x1 n4).1 == (1 : Int))) (by kernel_rfl) (fun hc2 => ?_) (fun hc2 => ?_)
        ·
          replace h := ite_tb hc2 h
          obtain ⟨ob1, h⟩ := chk_some h
          refine q2rr [] [] ⟨23, [(3, .b16 (w3 ||| ((q2w16 1) <<< (((f29z0 x1 n4).2.1).toNat)))), (7, q2aT67 x1), (8, .i (lZ x1)), (9, .i (n4 : Int))], [], [], 0⟩ (an1 ob1) ?_
          refine blockQ_normal ?_
          exact joinQ_normal ((w3 ||| ((q2w16 1) <<< (((f29z0 x1 n4).2.1).toNat)))) (Le.mk rfl rfl ⟨.refl _, .refl _, .refl _, .refl _, trivial⟩ trivial) h
        ·
          replace h := ite_fb hc2 h
          refine AWp.skip ?_
          refine blockQ_normal ?_
          exact joinQ_normal (w3) (Le.mk rfl rfl ⟨.refl _, .refl _, .refl _, .refl _, trivial⟩ trivial) h
      ·
        rintro w5 h
        replace h := (congrFun hK2 _).symm.trans h
        obtain ⟨ob2p, h⟩ := chk_some h
        have ob2 : -9223372036854775808 ≤ ((n4 : Int) + (1 : Int)) ∧ ((n4 : Int) + (1 : Int)) ≤ 9223372036854775807 := ⟨by omega, ob2p⟩
        refine q2rr [] [] ⟨23, [(3, .b16 w5), (7, q2aT67 x1), (8, .i (lZ x1)), (9, .i (((n4 + 1) : Nat) : Int))], [], [], 0⟩ (an1 ob2) ?_
        rw [hC0] at h
        exact loopQ_normal (_, w5, (n4 + 1)) (Le.mk rfl rfl ⟨.refl _, .refl _, .refl _, .refl _, trivial⟩ trivial) h (Nat.lt_succ_self _)
    ·
      replace h := ite_fb hc1 h
      refine AWp.exit ?_
      refine thenQ_exit ?_
      refine thenQ_exit ?_
      refine blockQ_same ?_
      exact joinQ_normal (w3) (Le.mk rfl rfl ⟨.refl _, trivial⟩ trivial) h
  ·
    rintro w6 h
    replace h := (congrFun hK1 _).symm.trans h
    refine q2rq [] [] ⟨23, [(2, .b16 w6)], [], [], 0⟩ trivial ?_
    have hret := Option.some.inj h
    subst hret
    refine AWp.le (Le.mk (s' := ⟨23, [(2, .b16 w6)], [], [], 0⟩) rfl rfl ⟨.refl _, trivial⟩ trivial) ?_
    refine AWp.ret ?_
    exact bodyQ_ret _ rfl ⟨rfl, rfl⟩ rfl
def f28 (x1 : BitVec 16) : Option (BitVec 16) :=
  some x1
set_option maxRecDepth 100000 in
theorem f28_ok  (x1 : BitVec 16) (r : BitVec 16) (h : f28 x1 = some r)  : Spec1 Tryd.prog 28 [] [] [] [.b16 x1] (.fn (.func 71) [.ptr 3500 0]) [(3500, .cells 49 [.b16 r])] := by
  unfold f28 at h
  refine Spec1.body 0 _ _ Tryd.func28 rfl Tryd.ntmps28 rfl rfl ?_
  refine q2rq [] [] ⟨4, [(1, .ptr 1 0)], [(1, .cells 49 [.b16 x1])], [], 0⟩ trivial ?_
  refine q2rq [] [] ⟨4, [(2, .fn (.func 71) [.ptr 1 0])], [(1, .cells 49 [.b16 x1])], [], 0⟩ trivial ?_
  refine AWp.le (Le.trans (Le.ren (swapN 1 3500) (swapN_inv 1 3500) rfl) (Le.mk (s' := ⟨4, [(2, .fn (.func 71) [.ptr 3500 0])], [(3500, .cells 49 [.b16 x1])], [], 0⟩) rfl rfl ⟨.refl _, trivial⟩ ⟨⟨_, rfl, .refl _⟩, trivial⟩)) ?_
  have hret := Option.some.inj h
  subst hret
  refine AWp.le (Le.mk (s' := ⟨4, [(2, .fn (.func 71) [.ptr 3500 0])], [(3500, .cells 49 [.b16 x1])], [], 0⟩) rfl rfl ⟨.refl _, trivial⟩ ⟨⟨_, rfl, .refl _⟩, trivial⟩) ?_
  refine AWp.ret ?_
  exact bodyQ_ret _ rfl ⟨rfl, rfl⟩ rfl
def f36 (x1 : Int) (x2 : Int) (x3 : Int) (x4 : List Int) (x5 : List Int) (x6 : Int) : Option Int :=
  if ((((x4).length : Nat) : Int) == (0 : Int)) then (
  some (1 : Int)
  ) else (
  chk (0 ≤ x6 ∧ x6 < (((x4).length : Nat) : Int)) <|
  some (x4.getD ((x6).toNat) 0)
  )
set_option maxRecDepth 100000 in
theorem f36_ok  (x1 : Int) (x2 : Int) (x3 : Int) (x4 : List Int) (x5 : List Int) (x6 : Int) (r : Int) (h : f36 x1 x2 x3 x4 x5 x6 = some r)  : Spec1 Tryd.prog 36 [] [] [] [.agg [.int .i64 x1, .int .i64 x2, .int .i64 x3, vL 1 eI 0 x4, vL 1 eI 0 x5], .int .i64 x6] (.int .i64 r) [] := by
  unfold f36 at h
  refine Spec1.body 0 _ _ Tryd.func36 rfl Tryd.ntmps36 rfl rfl ?_
  refine q2rq [] [] ⟨14, [(1, .i x6), (2, .ptr 2 0)], [(2, .cells 67 [.i x1, .i x2, .i x3, q2aI x4, q2aI x5])], [], 0⟩ trivial ?_
  refine AWp.seq ?_
  refine q2rq [] [] ⟨14, [(1, .i x6), (2, .ptr 2 0), (8, .bool ((lZ x4) == (0 : Int)))], [(2, .cells 67 [.i x1, .i x2, .i x3, q2aI x4, q2aI x5])], [], 0⟩ trivial ?_
  refine AWp.cond (b := ((lZ x4) == (0 : Int))) (by kernel_rfl) (fun hc1 => ?_) (fun hc1 => ?_)
  ·
    replace h := ite_tb hc1 h
    refine q2rq [] [] ⟨14, [(4, .i (1 : Int))], [], [], 0⟩ trivial ?_
    have hret := Option.some.inj h
    subst hret
    refine AWp.le (Le.mk (s' := ⟨14, [(4, .i (1 : Int))], [], [], 0⟩) rfl rfl ⟨.refl _, trivial⟩ trivial) ?_
    refine AWp.ret ?_
    refine thenQ_ret ?_
    exact bodyQ_ret _ rfl ⟨rfl, rfl⟩ rfl
  ·
    replace h := ite_fb hc1 h
    refine AWp.skip ?_
    refine thenQ_normal ?_
    refine AWp.seq ?_
    obtain ⟨ob0, h⟩ := chk_some h
    refine q2rr [] [] ⟨14, [(4, .i (x4.getD ((x6).toNat) 0))], [], [], 0⟩ (an1 ob0) ?_
    refine thenQ_normal ?_
    have hret := Option.some.inj h
    subst hret
    refine AWp.le (Le.mk (s' := ⟨14, [(4, .i (x4.getD ((x6).toNat) 0))], [], [], 0⟩) rfl rfl ⟨.refl _, trivial⟩ trivial) ?_
    refine AWp.ret ?_
    exact bodyQ_ret _ rfl ⟨rfl, rfl⟩ rfl
def f30_L1 (x1 : List (Int × Int × Int × List Int × List Int)) (x2 : Int) (n4 : Nat) (l5 : List Bool) (K3 : Int → Option Bool) : Nat → (Int × Nat) → Option Bool
  | 0, _ => none
  | k + 1, (i7, n8) =>
    if (decide ((n8 : Int) < (((((x1.take (((x2 + (1 : Int))).toNat)).getD n4 (default : Int × Int × Int × List Int × List Int)).2.2.2.2).length : Nat) : Int))) then (
    jn (fun (i10 : Int) =>
    chk (((n8 : Int) + (1 : Int)) ≤ 9223372036854775807) <|
    (f30_L1 x1 x2 n4 l5 K3 k) (i10, (n8 + 1))
    ) fun (K4 : Int → Option Bool) =>
    chk ((n8 : Int) < (((((x1.take (((x2 + (1 : Int))).toNat)).getD n4 (default : Int × Int × Int × List Int × List Int)).2.2.2.2).length : Nat) : Int)) <|
    chk (0 ≤ ((((x1.take (((x2 + (1 : Int))).toNat)).getD n4 (default : Int × Int × Int × List Int × List Int)).2.2.2.2).getD n8 0) ∧ ((((x1.take (((x2 + (1 : Int))).toNat)).getD n4 (default : Int × Int × Int × List Int × List Int)).2.2.2.2).getD n8 0) < 60) <|
    chk ((((((x1.take (((x2 + (1 : Int))).toNat)).getD n4 (default : Int × Int × Int × List Int × List Int)).2.2.2.2).getD n8 0)).toNat < 60) <|
    if (l5.getD ((((((x1.take (((x2 + (1 : Int))).toNat)).getD n4 (default : Int × Int × Int × List Int × List Int)).2.2.2.2).getD n8 0)).toNat) false) then (
    (f36 (((x1.take (((x2 + (1 : Int))).toNat)).getD n4 (default : Int × Int × Int × List Int × List Int)).1) (((x1.take (((x2 + (1 : Int))).toNat)).getD n4 (default : Int × Int × Int × List Int × List Int)).2.1) (((x1.take (((x2 + (1 : Int))).toNat)).getD n4 (default : Int × Int × Int × List Int × List Int)).2.2.1) (((x1.take (((x2 + (1 : Int))).toNat)).getD n4 (default : Int × Int × Int × List Int × List Int)).2.2.2.1) (((x1.take (((x2 + (1 : Int))).toNat)).getD n4 (default : Int × Int × Int × List Int × List Int)).2.2.2.2) (n8 : Int)).bind fun (r9 : Int) =>
    chk (-9223372036854775808 ≤ (i7 + r9) ∧ (i7 + r9) ≤ 9223372036854775807) <|
    K4 (i7 + r9)
    ) else (
    K4 i7
    )
    ) else (
    K3 i7
    )
def f30_L0 (x1 : List (Int × Int × Int × List Int × List Int)) (x2 : Int) (x3 : BitVec 16) (K1 : (List Bool) → Option Bool) : Nat → (Nat × List Bool) → Option Bool
  | 0, _ => none
  | k + 1, (n4, l5) =>
    if (decide ((n4 : Int) < (((((x2 + (1 : Int))).toNat) : Nat) : Int))) then (
    jn (fun (l6 : List Bool) =>
    chk (((n4 : Int) + (1 : Int)) ≤ 9223372036854775807) <|
    (f30_L0 x1 x2 x3 K1 k) ((n4 + 1), l6)
    ) fun (K2 : (List Bool) → Option Bool) =>
    chk ((n4 : Int) < ((((x1.take (((x2 + (1 : Int))).toNat))).length : Nat) : Int)) <|
    if (((x1.take (((x2 + (1 : Int))).toNat)).getD n4 (default : Int × Int × Int × List Int × List Int)).1 == (1 : Int)) then (
    chk (n4 < 60) <|
    chk (n4 < 60 ∧ n4 < l5.length) <|
    chk (0 ≤ ((x1.take (((x2 + (1 : Int))).toNat)).getD n4 (default : Int × Int × Int × List Int × List Int)).2.1) <|
    K2 (l5.set n4 (((x3 >>> ((((x1.take (((x2 + (1 : Int))).toNat)).getD n4 (default : Int × Int × Int × List Int × List Int)).2.1).toNat)) &&& (BitVec.ofInt 16 1)) == (BitVec.ofInt 16 1)))
    ) else (
    jn (fun (i11 : Int) =>
    chk (n4 < 60) <|
    chk (n4 < 60 ∧ n4 < l5.length) <|
    K2 (l5.set n4 (decide (i11 ≥ ((x1.take (((x2 + (1 : Int))).toNat)).getD n4 (default : Int × Int × Int × List Int × List Int)).2.2.1)))
    ) fun (K3 : Int → Option Bool) =>
    f30_L1 x1 x2 n4 l5 K3 FUEL ((0 : Int), 0)
    )
    ) else (
    K1 l5
    )
abbrev f30z0 (x1 : List (Int × Int × Int × List Int × List Int)) (x2 : Int) (n4 : Nat) : List V := [.int .i64 ((x1.take (((x2 + (1 : Int))).toNat)).getD n4 (default : Int × Int × Int × List Int × List Int)).1, .int .i64 ((x1.take (((x2 + (1 : Int))).toNat)).getD n4 (default : Int × Int × Int × List Int × List Int)).2.1, .int .i64 ((x1.take (((x2 + (1 : Int))).toNat)).getD n4 (default : Int × Int × Int × List Int × List Int)).2.2.1, vL 1 eI 0 ((x1.take (((x2 + (1 : Int))).toNat)).getD n4 (default : Int × Int × Int × List Int × List Int)).2.2.2.1, vL 1 eI 0 ((x1.take (((x2 + (1 : Int))).toNat)).getD n4 (default : Int × Int × Int × List Int × List Int)).2.2.2.2]
abbrev f30z1 (x1 : List (Int × Int × Int × List Int × List Int)) (x2 : Int) : List V := [vL 5 eT67 (default : Int × Int × Int × List Int × List Int) x1, .int .i64 x2]
abbrev f30z2 (x3 : BitVec 16) (x1 : List (Int × Int × Int × List Int × List Int)) (x2 : Int) (n4 : Nat) : List (Nat × V) := [(1, .b16 x3), (2, .ptr 2 0), (5, .ptr 5 0), (16, vL 5 eT67 (default : Int × Int × Int × List Int × List Int) (x1.take (((x2 + (1 : Int))).toNat))), (17, .int .i64 (((((x2 + (1 : Int))).toNat) : Nat) : Int)), (18, .int .i64 (n4 : Int))]
def f30 (x1 : List (Int × Int × Int × List Int × List Int)) (x2 : Int) (x3 : BitVec 16) : Option Bool :=
  jn (fun (l12 : List Bool) =>
  chk (0 ≤ x2 ∧ x2 < 60) <|
  chk ((x2).toNat < 60) <|
  some (l12.getD ((x2).toNat) false)
  ) fun (K1 : (List Bool) → Option Bool) =>
  chk (-9223372036854775808 ≤ (x2 + (1 : Int)) ∧ (x2 + (1 : Int)) ≤ 9223372036854775807) <|
  chk (0 ≤ (x2 + (1 : Int)) ∧ (x2 + (1 : Int)) ≤ (((x1).length : Nat) : Int)) <|
  f30_L0 x1 x2 x3 K1 FUEL (0, (List.replicate 60 (false : Bool)))
set_option maxRecDepth 100000 in
theorem f30_ok  (x1 : List (Int × Int × Int × List Int × List Int)) (x2 : Int) (x3 : BitVec 16) (r : Bool) (h : f30 x1 x2 x3 = some r)  : Spec1 Tryd.prog 30 [] [] [] [.agg [vL 5 eT67 (default : Int × Int × Int × List Int × List Int) x1, .int .i64 x2], .b16 x3] (.bool r) [] := by
  unfold f30 at h
  refine Spec1.body 0 _ _ Tryd.func30 rfl Tryd.ntmps30 rfl rfl ?_
  refine q2rq [] [] ⟨62, [(1, .b16 x3), (2, .ptr 2 0)], [(2, .cells 28 (f30z1 x1 x2))], [], 0⟩ trivial ?_
  refine q2rq [] [(0, ⟨[], [], [], [(5, bA 112 V.bool false 60 (List.replicate 60 (false : Bool)))], .ptr 5 0, [5], [], []⟩)] ⟨62, [(1, .b16 x3), (2, .ptr 2 0), (5, .ptr 5 0)], [(2, .cells 28 (f30z1 x1 x2)), (5, bA 112 V.bool false 60 (List.replicate 60 (false : Bool)))], [], 0⟩ (an1 (And.intro (allocA_spec (P := Tryd.prog) (t := 112) V.bool (fun _ => rfl) (fun _ _ => rfl) false 60 (List.replicate 60 (false : Bool)) (by kernel_rfl) 0 5) (VLes.same []))) ?_
  obtain ⟨K1, hK1, h⟩ := jn_some h
  refine AWp.join (α := List Bool) (fun (l12 : List Bool) => ⟨62, [(2, .ptr 2 0), (5, .ptr 5 0)], [(2, .cells 28 (f30z1 x1 x2)), (5, bA 112 V.bool false 60 l12)], [], 0⟩) (fun x => K1 x = some r) ?_ ?_
  ·
    refine AWp.seq ?_
    obtain ⟨ob0, ob1, h⟩ := ck2 h
    refine q2rr [] [] ⟨62, [(1, .b16 x3), (2, .ptr 2 0), (5, .ptr 5 0), (16, .arr 5 (((x2 + (1 : Int))).toNat) (encF eT67 q2dT67 x1)), (17, .i (((((x2 + (1 : Int))).toNat) : Nat) : Int)), (18, .i (0 : Int))], [(2, .cells 28 (f30z1 x1 x2)), (5, bA 112 V.bool false 60 (List.replicate 60 (false : Bool)))], [], 0⟩ (an2 ob0 ob1) ?_
    refine thenQ_normal ?_
    refine AWp.le (Le.mk (s' := ⟨62, [(1, .b16 x3), (2, .ptr 2 0), (5, .ptr 5 0), (16, q2aT67 (x1.take (((x2 + (1 : Int))).toNat))), (17, .i (((((x2 + (1 : Int))).toNat) : Nat) : Int)), (18, .i (0 : Int))], [(2, .cells 28 (f30z1 x1 x2)), (5, bA 112 V.bool false 60 (List.replicate 60 (false : Bool)))], [], 0⟩) rfl rfl ⟨.refl _, .refl _, .refl _, (VLe.takeL (by first | omega | (simp only [List.length_append, List.length_cons, List.length_nil, List.length_take, List.length_drop] at *; omega) | (simp; done) | (simp_all; done) | (simp_all; omega) | rfl)), .refl _, .refl _, trivial⟩ ⟨⟨_, rfl, .refl _⟩, ⟨_, rfl, .refl _⟩, trivial⟩) ?_
    refine AWp.block ?_
    refine AWp.loopL (α := Nat × (Nat × List Bool)) (fun x => match x with | (_, n4, l5) => ⟨62, (f30z2 x3 x1 x2 n4), [(2, .cells 28 (f30z1 x1 x2)), (5, bA 112 V.bool false 60 l5)], [], 0⟩) (fun x => f30_L0 x1 x2 x3 K1 x.1 x.2 = some r) (fun x => x.1) (FUEL, 0, (List.replicate 60 (false : Bool))) (Le.mk (s' := ⟨62, [(1, .b16 x3), (2, .ptr 2 0), (5, .ptr 5 0), (16, q2aT67 (x1.take (((x2 + (1 : Int))).toNat))), (17, .i (((((x2 + (1 : Int))).toNat) : Nat) : Int)), (18, .i (0 : Int))], [(2, .cells 28 (f30z1 x1 x2)), (5, bA 112 V.bool false 60 (List.replicate 60 (false : Bool)))], [], 0⟩) rfl rfl ⟨.refl _, .refl _, .refl _, .refl _, .refl _, .refl _, trivial⟩ ⟨⟨_, rfl, .refl _⟩, ⟨_, rfl, .refl _⟩, trivial⟩) h ?_
    rintro ⟨k0, n4, l5⟩ h
    cases k0 with
    | zero => exact nomatch (show (none : Option Bool) = some r from h)
    | succ k0 =>
    obtain ⟨C0, hC0⟩ : ∃ C, C = f30_L0 x1 x2 x3 K1 k0 := ⟨_, rfl⟩
    replace h := (f30_L0.eq_2 ..).symm.trans h
    try rw [← hC0] at h
    refine q2rq [] [] ⟨62, [(1, .b16 x3), (2, .ptr 2 0), (5, .ptr 5 0), (16, q2aT67 (x1.take (((x2 + (1 : Int))).toNat))), (17, .i (((((x2 + (1 : Int))).toNat) : Nat) : Int)), (18, .i (n4 : Int)), (19, .bool (decide ((n4 : Int) < (((((x2 + (1 : Int))).toNat) : Nat) : Int))))], [(2, .cells 28 (f30z1 x1 x2)), (5, bA 112 V.bool false 60 l5)], [], 0⟩ trivial ?_
    refine AWp.seq ?_
    refine AWp.cond (b := (decide ((n4 : Int) < (((((x2 + (1 : Int))).toNat) : Nat) : Int)))) (by kernel_rfl) (fun hc1 => ?_) (fun hc1 => ?_)
    ·
      replace h := ite_tb hc1 h
      refine AWp.skip ?_
      refine thenQ_normal ?_
      obtain ⟨K2, hK2, h⟩ := jn_some h
      refine AWp.join (α := List Bool) (fun (l6 : List Bool) => ⟨62, (f30z2 x3 x1 x2 n4), [(2, .cells 28 (f30z1 x1 x2)), (5, bA 112 V.bool false 60 l6)], [], 0⟩) (fun x => K2 x = some r) ?_ ?_
      ·
        refine AWp.block ?_
        refine AWp.seq ?_
        obtain ⟨ob2p, h⟩ := chk_some h
        have ob2 : 0 ≤ (n4 : Int) ∧ (n4 : Int) < ((((x1.take (((x2 + (1 : Int))).toNat))).length : Nat) : Int) := ⟨by omega, ob2p⟩
        refine q2rr [] [] ⟨62, [(1, .b16 x3), (2, .ptr 2 0), (5, .ptr 5 0), (6, .i (n4 : Int)), (7, .ptr 7 0), (16, q2aT67 (x1.take (((x2 + (1 : Int))).toNat))), (17, .i (((((x2 + (1 : Int))).toNat) : Nat) : Int)), (18, .i (n4 : Int))], [(2, .cells 28 (f30z1 x1 x2)), (5, bA 112 V.bool false 60 l5), (7, .cells 67 (f30z0 x1 x2 n4))], [], 0⟩ (an2 ob2 trivial) ?_
        refine thenQ_normal ?_
        refine AWp.seq ?_
        refine q2rq [] [] ⟨62, [(1, .b16 x3), (2, .ptr 2 0), (5, .ptr 5 0), (6, .i (n4 : Int)), (7, .ptr 7 0), (16, q2aT67 (x1.take (((x2 + (1 : Int))).toNat))), (17, .i (((((x2 + (1 : Int))).toNat) : Nat) : Int)), (18, .i (n4 : Int)), (25, .bool (((x1.take (((x2 + (1 : Int))).toNat)).getD n4 q2dT67).1 == (1 : Int)))], [(2, .cells 28 (f30z1 x1 x2)), (5, bA 112 V.bool false 60 l5), (7, .cells 67 (f30z0 x1 x2 n4))], [], 0⟩ trivial ?_
        refine AWp.cond (b := (((x1.take (((x2 + (1 : Int))).toNat)).getD n4 q2dT67).1 == (1 : Int))) (by kernel_rfl) (fun hc2 => ?_) (fun hc2 => ?_)
        ·
          replace h := ite_tb hc2 h
          refine AWp.seq ?_
          obtain ⟨ob3, ob4, ob5, h⟩ := ck3 h
          refine q2rr [] [(7, ⟨[.ptr 5 0, .i (n4 : Int)], [5], [5], [(5, bA 112 V.bool false 60 l5)], .ptr 5 n4, [], [], []⟩), (8, ⟨[.ptr 5 n4, .bool (((x3 >>> ((((x1.take (((x2 + (1 : Int))).toNat)).getD n4 q2dT67).2.1).toNat)) &&& (q2w16 1)) == (q2w16 1))], [5], [5], [(5, bA 112 V.bool false 60 (l5.set n4 (((x3 >>> ((((x1.take (((x2 + (1 : Int))).toNat)).getD n4 q2dT67).2.1).toNat)) &&& (q2w16 1)) == (q2w16 1))))], .any, [], [], []⟩)] ⟨62, (f30z2 x3 x1 x2 n4), [(2, .cells 28 (f30z1 x1 x2)), (5, bA 112 V.bool false 60 (l5.set n4 (((x3 >>> ((((x1.take (((x2 + (1 : Int))).toNat)).getD n4 q2dT67).2.1).toNat)) &&& (q2w16 1)) == (q2w16 1))))], [], 0⟩ (an3 ob5 (And.intro (indexA_spec (kx := .i64) (P := Tryd.prog) Tryd.underlying112 (by kernel_rfl) (.tmp 5) (.tmp 26) 0 5 (bA 112 V.bool false 60 l5) n4 ob3) (VLes.same [.ptr 5 0, .i (n4 : Int)])) (And.intro (storeA_spec (P := Tryd.prog) (t := 4) (by kernel_rfl) (.tmp 33) (.tmp 32) 0 5 112 V.bool (fun _ => rfl) false 60 l5 n4 (((x3 >>> ((((x1.take (((x2 + (1 : Int))).toNat)).getD n4 q2dT67).2.1).toNat)) &&& (q2w16 1)) == (q2w16 1)) ob4) (VLes.same [.ptr 5 n4, .bool (((x3 >>> ((((x1.take (((x2 + (1 : Int))).toNat)).getD n4 q2dT67).2.1).toNat)) &&& (q2w16 1)) == (q2w16 1))]))) ?_
          refine thenQ_normal ?_
          refine AWp.exit ?_
          refine thenQ_exit ?_
          refine blockQ_same ?_
          exact joinQ_normal ((l5.set n4 (((x3 >>> ((((x1.take (((x2 + (1 : Int))).toNat)).getD n4 q2dT67).2.1).toNat)) &&& (q2w16 1)) == (q2w16 1)))) (Le.mk rfl rfl ⟨.refl _, .refl _, .refl _, .refl _, .refl _, .refl _, trivial⟩ ⟨⟨_, rfl, .refl _⟩, ⟨_, rfl, .refl _⟩, trivial⟩) h
        ·
          replace h := ite_fb hc2 h
          refine AWp.skip ?_
          refine thenQ_normal ?_
          refine q2rq [] [] ⟨62, [(1, .b16 x3), (2, .ptr 2 0), (5, .ptr 5 0), (6, .i (n4 : Int)), (7, .ptr 7 0), (8, .i (0 : Int)), (16, q2aT67 (x1.take (((x2 + (1 : Int))).toNat))), (17, .i (((((x2 + (1 : Int))).toNat) : Nat) : Int)), (18, .i (n4 : Int))], [(2, .cells 28 (f30z1 x1 x2)), (5, bA 112 V.bool false 60 l5), (7, .cells 67 (f30z0 x1 x2 n4))], [], 0⟩ trivial ?_
          obtain ⟨K3, hK3, h⟩ := jn_some h
          refine AWp.join (α := Int) (fun (i11 : Int) => ⟨62, [(1, .b16 x3), (2, .ptr 2 0), (5, .ptr 5 0), (6, .i (n4 : Int)), (7, .ptr 7 0), (8, .i i11), (16, q2aT67 (x1.take (((x2 + (1 : Int))).toNat))), (17, .i (((((x2 + (1 : Int))).toNat) : Nat) : Int)), (18, .i (n4 : Int))], [(2, .cells 28 (f30z1 x1 x2)), (5, bA 112 V.bool false 60 l5), (7, .cells 67 (f30z0 x1 x2 n4))], [], 0⟩) (fun x => K3 x = some r) ?_ ?_
          ·
            refine q2rq [] [] ⟨62, [(1, .b16 x3), (2, .ptr 2 0), (5, .ptr 5 0), (6, .i (n4 : Int)), (7, .ptr 7 0), (8, .i (0 : Int)), (16, q2aT67 (x1.take (((x2 + (1 : Int))).toNat))), (17, .i (((((x2 + (1 : Int))).toNat) : Nat) : Int)), (18, .i (n4 : Int)), (35, q2aI ((x1.take (((x2 + (1 : Int))).toNat)).getD n4 q2dT67).2.2.2.2), (36, .i (((((x1.take (((x2 + (1 : Int))).toNat)).getD n4 q2dT67).2.2.2.2).length : Nat) : Int)), (37, .i (0 : Int))], [(2, .cells 28 (f30z1 x1 x2)), (5, bA 112 V.bool false 60 l5), (7, .cells 67 (f30z0 x1 x2 n4))], [], 0⟩ trivial ?_
            refine AWp.block ?_
            refine AWp.loopL (α := Nat × (Int × Nat)) (fun x => match x with | (_, i7, n8) => ⟨62, [(1, .b16 x3), (2, .ptr 2 0), (5, .ptr 5 0), (6, .i (n4 : Int)), (7, .ptr 7 0), (8, .i i7), (16, q2aT67 (x1.take (((x2 + (1 : Int))).toNat))), (17, .i (((((x2 + (1 : Int))).toNat) : Nat) : Int)), (18, .i (n4 : Int)), (35, q2aI ((x1.take (((x2 + (1 : Int))).toNat)).getD n4 q2dT67).2.2.2.2), (36, .i (((((x1.take (((x2 + (1 : Int))).toNat)).getD n4 q2dT67).2.2.2.2).length : Nat) : Int)), (37, .i (n8 : Int))], [(2, .cells 28 (f30z1 x1 x2)), (5, bA 112 V.bool false 60 l5), (7, .cells 67 (f30z0 x1 x2 n4))], [], 0⟩) (fun x => f30_L1 x1 x2 n4 l5 K3 x.1 x.2 = some r) (fun x => x.1) (FUEL, (0 : Int), 0) (Le.mk (s' := ⟨62, [(1, .b16 x3), (2, .ptr 2 0), (5, .ptr 5 0), (6, .i (n4 : Int)), (7, .ptr 7 0), (8, .i (0 : Int)), (16, q2aT67 (x1.take (((x2 + (1 : Int))).toNat))), (17, .i (((((x2 + (1 : Int))).toNat) : Nat) : Int)), (18, .i (n4 : Int)), (35, q2aI ((x1.take (((x2 + (1 : Int))).toNat)).getD n4 q2dT67).2.2.2.2), (36, .i (((((x1.take (((x2 + (1 : Int))).toNat)).getD n4 q2dT67).2.2.2.2).length : Nat) : Int)), (37, .i (0 : Int))], [(2, .cells 28 (f30z1 x1 x2)), (5, bA 112 V.bool false 60 l5), (7, .cells 67 (f30z0 x1 x2 n4))], [], 0⟩) rfl rfl ⟨.refl _, .refl _, .refl _, .refl _, .refl _, .refl _, .refl _, .refl _, .refl _, .refl _, .refl _, .refl _, trivial⟩ ⟨⟨_, rfl, .refl _⟩, ⟨_, rfl, .refl _⟩, ⟨_, rfl, .refl _⟩, trivial⟩) h ?_
            rintro ⟨k1, i7, n8⟩ h
            cases k1 with
            | zero => exact nomatch (show (none : Option Bool) = some r from h)
            | succ k1 =>
            obtain ⟨C1, hC1⟩ : ∃ C, C = f30_L1 x1 x2 n4 l5 K3 k1 := ⟨_, rfl⟩
            replace h := (f30_L1.eq_2 ..).symm.trans h
            try rw [← hC1] at h
            refine q2rq [] [] ⟨62, [(1, .b16 x3), (2, .ptr 2 0), (5, .ptr 5 0), (6, .i (n4 : Int)), (7, .ptr 7 0), (8, .i i7), (16, q2aT67 (x1.take (((x2 + (1 : Int))).toNat))), (17, .i (((((x2 + (1 : Int))).toNat) : Nat) : Int)), (18, .i (n4 : Int)), (35, q2aI ((x1.take (((x2 + (1 : Int))).toNat)).getD n4 q2dT67).2.2.2.2), (36, .i (((((x1.take (((x2 + (1 : Int))).toNat)).getD n4 q2dT67).2.2.2.2).length : Nat) : Int)), (37, .i (n8 : Int)), (38, .bool (decide ((n8 : Int) < (((((x1.take (((x2 + (1 : Int))).toNat)).getD n4 q2dT67).2.2.2.2).length : Nat) : Int))))], [(2, .cells 28 (f30z1 x1 x2)), (5, bA 112 V.bool false 60 l5), (7, .cells 67 (f30z0 x1 x2 n4))], [], 0⟩ trivial ?_
            refine AWp.seq ?_
            refine AWp.cond (b := (decide ((n8 : Int) < (((((x1.take (((x2 + (1 : Int))).toNat)).getD n4 q2dT67).2.2.2.2).length : Nat) : Int)))) (by kernel_rfl) (fun hc3 => ?_) (fun hc3 => ?_)
            ·
              replace h := ite_tb hc3 h
              refine AWp.skip ?_
              refine thenQ_normal ?_
              obtain ⟨K4, hK4, h⟩ := jn_some h
              refine AWp.join (α := Int) (fun (i10 : Int) => ⟨62, [(1, .b16 x3), (2, .ptr 2 0), (5, .ptr 5 0), (6, .i (n4 : Int)), (7, .ptr 7 0), (8, .i i10), (16, q2aT67 (x1.take (((x2 + (1 : Int))).toNat))), (17, .i (((((x2 + (1 : Int))).toNat) : Nat) : Int)), (18, .i (n4 : Int)), (35, q2aI ((x1.take (((x2 + (1 : Int))).toNat)).getD n4 q2dT67).2.2.2.2), (36, .i (((((x1.take (((x2 + (1 : Int))).toNat)).getD n4 q2dT67).2.2.2.2).length : Nat) : Int)), (37, .i (n8 : Int))], [(2, .cells 28 (f30z1 x1 x2)), (5, bA 112 V.bool false 60 l5), (7, .cells 67 (f30z0 x1 x2 n4))], [], 0⟩) (fun x => K4 x = some r) ?_ ?_
              ·
                refine AWp.block ?_
                refine AWp.seq ?_
                obtain ⟨ob6p, h⟩ := chk_some h
                have ob6 : 0 ≤ (n8 : Int) ∧ (n8 : Int) < (((((x1.take (((x2 + (1 : Int))).toNat)).getD n4 q2dT67).2.2.2.2).length : Nat) : Int) := ⟨by omega, ob6p⟩
                refine q2rr [] [] ⟨62, [(1, .b16 x3), (2, .ptr 2 0), (5, .ptr 5 0), (6, .i (n4 : Int)), (7, .ptr 7 0), (8, .i i7), (9, .i (n8 : Int)), (10, .i ((((x1.take (((x2 + (1 : Int))).toNat)).getD n4 q2dT67).2.2.2.2).getD n8 0)), (16, q2aT67 (x1.take (((x2 + (1 : Int))).toNat))), (17, .i (((((x2 + (1 : Int))).toNat) : Nat) : Int)), (18, .i (n4 : Int)), (35, q2aI ((x1.take (((x2 + (1 : Int))).toNat)).getD n4 q2dT67).2.2.2.2), (36, .i (((((x1.take (((x2 + (1 : Int))).toNat)).getD n4 q2dT67).2.2.2.2).length : Nat) : Int)), (37, .i (n8 : Int))], [(2, .cells 28 (f30z1 x1 x2)), (5, bA 112 V.bool false 60 l5), (7, .cells 67 (f30z0 x1 x2 n4))], [], 0⟩ (an1 ob6) ?_
                refine thenQ_normal ?_
                refine AWp.seq ?_
                obtain ⟨ob7, ob8, h⟩ := ck2 h
                refine q2rr [] [(1, ⟨[.ptr 5 0, .i ((((x1.take (((x2 + (1 : Int))).toNat)).getD n4 q2dT67).2.2.2.2).getD n8 0)], [5], [5], [(5, bA 112 V.bool false 60 l5)], .ptr 5 ((((((x1.take (((x2 + (1 : Int))).toNat)).getD n4 q2dT67).2.2.2.2).getD n8 0)).toNat), [], [], []⟩), (2, ⟨[.ptr 5 ((((((x1.take (((x2 + (1 : Int))).toNat)).getD n4 q2dT67).2.2.2.2).getD n8 0)).toNat)], [5], [5], [(5, bA 112 V.bool false 60 l5)], .bool (l5.getD ((((((x1.take (((x2 + (1 : Int))).toNat)).getD n4 q2dT67).2.2.2.2).getD n8 0)).toNat) false), [], [], []⟩)] ⟨62, [(1, .b16 x3), (2, .ptr 2 0), (5, .ptr 5 0), (6, .i (n4 : Int)), (7, .ptr 7 0), (8, .i i7), (9, .i (n8 : Int)), (16, q2aT67 (x1.take (((x2 + (1 : Int))).toNat))), (17, .i (((((x2 + (1 : Int))).toNat) : Nat) : Int)), (18, .i (n4 : Int)), (35, q2aI ((x1.take (((x2 + (1 : Int))).toNat)).getD n4 q2dT67).2.2.2.2), (36, .i (((((x1.take (((x2 + (1 : Int))).toNat)).getD n4 q2dT67).2.2.2.2).length : Nat) : Int)), (37, .i (n8 : Int)), (44, .bool (l5.getD ((((((x1.take (((x2 + (1 : Int))).toNat)).getD n4 q2dT67).2.2.2.2).getD n8 0)).toNat) false))], [(2, .cells 28 (f30z1 x1 x2)), (5, bA 112 V.bool false 60 l5), (7, .cells 67 (f30z0 x1 x2 n4))], [], 0⟩ (an2 (And.intro (indexAi_spec (kx := .i64) (P := Tryd.prog) Tryd.underlying112 (by kernel_rfl) (.tmp 5) (.tmp 42) 0 5 (bA 112 V.bool false 60 l5) ((((x1.take (((x2 + (1 : Int))).toNat)).getD n4 q2dT67).2.2.2.2).getD n8 0) ob7) (VLes.same [.ptr 5 0, .i ((((x1.take (((x2 + (1 : Int))).toNat)).getD n4 q2dT67).2.2.2.2).getD n8 0)])) (And.intro (loadA_spec (P := Tryd.prog) (t := 4) (by kernel_rfl) (by kernel_rfl) (.tmp 43) 4 5 112 V.bool false 60 l5 ((((((x1.take (((x2 + (1 : Int))).toNat)).getD n4 q2dT67).2.2.2.2).getD n8 0)).toNat) ob8) (VLes.same [.ptr 5 ((((((x1.take (((x2 + (1 : Int))).toNat)).getD n4 q2dT67).2.2.2.2).getD n8 0)).toNat)]))) ?_
                refine thenQ_normal ?_
                refine AWp.cond (b := (l5.getD ((((((x1.take (((x2 + (1 : Int))).toNat)).getD n4 q2dT67).2.2.2.2).getD n8 0)).toNat) false)) (by kernel_rfl) (fun hc4 => ?_) (fun hc4 => ?_)
                ·
                  replace h := ite_tb hc4 h
                  obtain ⟨r9, hr9, h⟩ := bind_ok h
                  obtain ⟨ob9, h⟩ := chk_some h
                  refine q2rr [] [(3, ⟨[.agg (f30z0 x1 x2 n4), .i (n8 : Int)], [], [], [], .i r9, [], [], []⟩)] ⟨62, [(1, .b16 x3), (2, .ptr 2 0), (5, .ptr 5 0), (6, .i (n4 : Int)), (7, .ptr 7 0), (8, .i (i7 + r9)), (16, q2aT67 (x1.take (((x2 + (1 : Int))).toNat))), (17, .i (((((x2 + (1 : Int))).toNat) : Nat) : Int)), (18, .i (n4 : Int)), (35, q2aI ((x1.take (((x2 + (1 : Int))).toNat)).getD n4 q2dT67).2.2.2.2), (36, .i (((((x1.take (((x2 + (1 : Int))).toNat)).getD n4 q2dT67).2.2.2.2).length : Nat) : Int)), (37, .i (n8 : Int))], [(2, .cells 28 (f30z1 x1 x2)), (5, bA 112 V.bool false 60 l5), (7, .cells 67 (f30z0 x1 x2 n4))], [], 0⟩ (an2 (cpT (f36_ok _ _ _ _ _ _ _ hr9)) ob9) ?_
                  refine blockQ_normal ?_
                  exact joinQ_normal ((i7 + r9)) (Le.mk rfl rfl ⟨.refl _, .refl _, .refl _, .refl _, .refl _, .refl _, .refl _, .refl _, .refl _, .refl _, .refl _, .refl _, trivial⟩ ⟨⟨_, rfl, .refl _⟩, ⟨_, rfl, .refl _⟩, ⟨_, rfl, .refl _⟩, trivial⟩) h
                ·
                  replace h := ite_fb hc4 h
                  refine AWp.skip ?_
                  refine blockQ_normal ?_
                  exact joinQ_normal (i7) (Le.mk rfl rfl ⟨.refl _, .refl _, .refl _, .refl _, .refl _, .refl _, .refl _, .refl _, .refl _, .refl _, .refl _, .refl _, trivial⟩ ⟨⟨_, rfl, .refl _⟩, ⟨_, rfl, .refl _⟩, ⟨_, rfl, .refl _⟩, trivial⟩) h
              ·
                rintro i10 h
                replace h := (congrFun hK4 _).symm.trans h
                obtain ⟨ob10p, h⟩ := chk_some h
                have ob10 : -9223372036854775808 ≤ ((n8 : Int) + (1 : Int)) ∧ ((n8 : Int) + (1 : Int)) ≤ 9223372036854775807 := ⟨by omega, ob10p⟩
                refine q2rr [] [] ⟨62, [(1, .b16 x3), (2, .ptr 2 0), (5, .ptr 5 0), (6, .i (n4 : Int)), (7, .ptr 7 0), (8, .i i10), (16, q2aT67 (x1.take (((x2 + (1 : Int))).toNat))), (17, .i (((((x2 + (1 : Int))).toNat) : Nat) : Int)), (18, .i (n4 : Int)), (35, q2aI ((x1.take (((x2 + (1 : Int))).toNat)).getD n4 q2dT67).2.2.2.2), (36, .i (((((x1.take (((x2 + (1 : Int))).toNat)).getD n4 q2dT67).2.2.2.2).length : Nat) : Int)), (37, .i (((n8 + 1) : Nat) : Int))], [(2, .cells 28 (f30z1 x1 x2)), (5, bA 112 V.bool false 60 l5), (7, .cells 67 (f30z0 x1 x2 n4))], [], 0⟩ (an1 ob10) ?_
                rw [hC1] at h
                exact loopQ_normal (_, i10, (n8 + 1)) (Le.mk rfl rfl ⟨.refl _, .refl _, .refl _, .refl _, .refl _, .refl _, .refl _, .refl _, .refl _, .refl _, .refl _, .refl _, trivial⟩ ⟨⟨_, rfl, .refl _⟩, ⟨_, rfl, .refl _⟩, ⟨_, rfl, .refl _⟩, trivial⟩) h (Nat.lt_succ_self _)
            ·
              replace h := ite_fb hc3 h
              refine AWp.exit ?_
              refine thenQ_exit ?_
              refine thenQ_exit ?_
              refine blockQ_same ?_
              exact joinQ_normal (i7) (Le.mk rfl rfl ⟨.refl _, .refl _, .refl _, .refl _, .refl _, .refl _, .refl _, .refl _, .refl _, trivial⟩ ⟨⟨_, rfl, .refl _⟩, ⟨_, rfl, .refl _⟩, ⟨_, rfl, .refl _⟩, trivial⟩) h
          ·
            rintro i11 h
            replace h := (congrFun hK3 _).symm.trans h
            obtain ⟨ob11, ob12, h⟩ := ck2 h
            refine q2rr [] [(5, ⟨[.ptr 5 0, .i (n4 : Int)], [5], [5], [(5, bA 112 V.bool false 60 l5)], .ptr 5 n4, [], [], []⟩), (6, ⟨[.ptr 5 n4, .bool (decide (i11 ≥ ((x1.take (((x2 + (1 : Int))).toNat)).getD n4 q2dT67).2.2.1))], [5], [5], [(5, bA 112 V.bool false 60 (l5.set n4 (decide (i11 ≥ ((x1.take (((x2 + (1 : Int))).toNat)).getD n4 q2dT67).2.2.1))))], .any, [], [], []⟩)] ⟨62, (f30z2 x3 x1 x2 n4), [(2, .cells 28 (f30z1 x1 x2)), (5, bA 112 V.bool false 60 (l5.set n4 (decide (i11 ≥ ((x1.take (((x2 + (1 : Int))).toNat)).getD n4 q2dT67).2.2.1))))], [], 0⟩ (an2 (And.intro (indexA_spec (kx := .i64) (P := Tryd.prog) Tryd.underlying112 (by kernel_rfl) (.tmp 5) (.tmp 51) 0 5 (bA 112 V.bool false 60 l5) n4 ob11) (VLes.same [.ptr 5 0, .i (n4 : Int)])) (And.intro (storeA_spec (P := Tryd.prog) (t := 4) (by kernel_rfl) (.tmp 56) (.tmp 55) 0 5 112 V.bool (fun _ => rfl) false 60 l5 n4 (decide (i11 ≥ ((x1.take (((x2 + (1 : Int))).toNat)).getD n4 q2dT67).2.2.1)) ob12) (VLes.same [.ptr 5 n4, .bool (decide (i11 ≥ ((x1.take (((x2 + (1 : Int))).toNat)).getD n4 q2dT67).2.2.1))]))) ?_
            refine blockQ_normal ?_
            exact joinQ_normal ((l5.set n4 (decide (i11 ≥ ((x1.take (((x2 + (1 : Int))).toNat)).getD n4 q2dT67).2.2.1)))) (Le.mk rfl rfl ⟨.refl _, .refl _, .refl _, .refl _, .refl _, .refl _, trivial⟩ ⟨⟨_, rfl, .refl _⟩, ⟨_, rfl, .refl _⟩, trivial⟩) h
      ·
        rintro l6 h
        replace h := (congrFun hK2 _).symm.trans h
        obtain ⟨ob13p, h⟩ := chk_some h
        have ob13 : -9223372036854775808 ≤ ((n4 : Int) + (1 : Int)) ∧ ((n4 : Int) + (1 : Int)) ≤ 9223372036854775807 := ⟨by omega, ob13p⟩
        refine q2rr [] [] ⟨62, [(1, .b16 x3), (2, .ptr 2 0), (5, .ptr 5 0), (16, q2aT67 (x1.take (((x2 + (1 : Int))).toNat))), (17, .i (((((x2 + (1 : Int))).toNat) : Nat) : Int)), (18, .i (((n4 + 1) : Nat) : Int))], [(2, .cells 28 (f30z1 x1 x2)), (5, bA 112 V.bool false 60 l6)], [], 0⟩ (an1 ob13) ?_
        rw [hC0] at h
        exact loopQ_normal (_, (n4 + 1), l6) (Le.mk rfl rfl ⟨.refl _, .refl _, .refl _, .refl _, .refl _, .refl _, trivial⟩ ⟨⟨_, rfl, .refl _⟩, ⟨_, rfl, .refl _⟩, trivial⟩) h (Nat.lt_succ_self _)
    ·
      replace h := ite_fb hc1 h
      refine AWp.exit ?_
      refine thenQ_exit ?_
      refine thenQ_exit ?_
      refine blockQ_same ?_
      exact joinQ_normal (l5) (Le.mk rfl rfl ⟨.refl _, .refl _, trivial⟩ ⟨⟨_, rfl, .refl _⟩, ⟨_, rfl, .refl _⟩, trivial⟩) h
  ·
    rintro l12 h
    replace h := (congrFun hK1 _).symm.trans h
    refine AWp.seq ?_
    obtain ⟨ob14, ob15, h⟩ := ck2 h
    refine q2rr [] [(2, ⟨[.ptr 5 0, .i x2], [5], [5], [(5, bA 112 V.bool false 60 l12)], .ptr 5 ((x2).toNat), [], [], []⟩), (3, ⟨[.ptr 5 ((x2).toNat)], [5], [5], [(5, bA 112 V.bool false 60 l12)], .bool (l12.getD ((x2).toNat) false), [], [], []⟩)] ⟨62, [(4, .bool (l12.getD ((x2).toNat) false))], [], [], 0⟩ (an2 (And.intro (indexAi_spec (kx := .i64) (P := Tryd.prog) Tryd.underlying112 (by kernel_rfl) (.tmp 5) (.tmp 59) 0 5 (bA 112 V.bool false 60 l12) x2 ob14) (VLes.same [.ptr 5 0, .i x2])) (And.intro (loadA_spec (P := Tryd.prog) (t := 4) (by kernel_rfl) (by kernel_rfl) (.tmp 60) 4 5 112 V.bool false 60 l12 ((x2).toNat) ob15) (VLes.same [.ptr 5 ((x2).toNat)]))) ?_
    refine thenQ_normal ?_
    have hret := Option.some.inj h
    subst hret
    refine AWp.le (Le.mk (s' := ⟨62, [(4, .bool (l12.getD ((x2).toNat) false))], [], [], 0⟩) rfl rfl ⟨.refl _, trivial⟩ trivial) ?_
    refine AWp.ret ?_
    exact bodyQ_ret _ rfl ⟨rfl, rfl⟩ rfl
def f75 (x1 : BitVec 16) (x2 : BitVec 16) : Option Bool :=
  some ((x2 &&& ~~~x1) == (BitVec.ofInt 16 0))
set_option maxRecDepth 100000 in
theorem f75_ok  (x1 : BitVec 16) (x2 : BitVec 16) (r : Bool) (h : f75 x1 x2 = some r)  : Spec1 Tryd.prog 75 [] [] [] [.b16 x1, .b16 x2] (.bool r) [] := by
  unfold f75 at h
  refine Spec1.body 0 _ _ Tryd.func75 rfl Tryd.ntmps75 rfl rfl ?_
  refine q2rq [] [] ⟨9, [(0, .b16 x1), (1, .b16 x2)], [], [], 0⟩ trivial ?_
  refine q2rq [] [] ⟨9, [(4, .bool ((x2 &&& ~~~x1) == (q2w16 0)))], [], [], 0⟩ trivial ?_
  have hret := Option.some.inj h
  subst hret
  refine AWp.le (Le.mk (s' := ⟨9, [(4, .bool ((x2 &&& ~~~x1) == (q2w16 0)))], [], [], 0⟩) rfl rfl ⟨.refl _, trivial⟩ trivial) ?_
  refine AWp.ret ?_
  exact bodyQ_ret _ rfl ⟨rfl, rfl⟩ rfl
def f74 (x1 : BitVec 16) (x2 : BitVec 16) : Option (Bool × BitVec 16) :=
  (f75 x2 x1).bind fun (r3 : Bool) =>
  some (r3, x2)
set_option maxRecDepth 100000 in
theorem f74_ok  (x1 : BitVec 16) (x2 : BitVec 16) (r : Bool × BitVec 16) (h : f74 x1 x2 = some r)  : Spec1 Tryd.prog 74 [] [2000] [(2000, .cells 49 [.b16 x2])] [.b16 x1, .ptr 2000 0] (.bool r.1) [(2000, .cells 49 [.b16 r.2])] := by
  unfold f74 at h
  refine Spec1.body 0 _ _ Tryd.func74 rfl Tryd.ntmps74 rfl rfl ?_
  refine q2rq [] [] ⟨7, [(0, .b16 x1), (1, .ptr 2000 0)], [(2000, .cells 49 [.b16 x2])], [2000], 0⟩ trivial ?_
  refine AWp.seq ?_
  obtain ⟨r3, hr3, h⟩ := bind_ok h
  refine q2rr [] [(2, ⟨[.b16 x2, .b16 x1], [], [], [], .bool r3, [], [], []⟩)] ⟨7, [(3, .bool r3)], [(2000, .cells 49 [.b16 x2])], [2000], 0⟩ (an1 (cpT (f75_ok _ _ _ hr3))) ?_
  refine thenQ_normal ?_
  have hret := Option.some.inj h
  subst hret
  refine AWp.le (Le.mk (s' := ⟨7, [(3, .bool r3)], [(2000, .cells 49 [.b16 x2])], [2000], 0⟩) rfl rfl ⟨.refl _, trivial⟩ ⟨⟨_, rfl, .refl _⟩, trivial⟩) ?_
  refine AWp.ret ?_
  exact bodyQ_ret _ rfl ⟨rfl, rfl⟩ rfl
def f63_L0 (x1 : List (BitVec 16)) (K1 : (BitVec 16) → Option (Int × BitVec 16)) : Nat → (Nat × BitVec 16) → Option (Int × BitVec 16)
  | 0, _ => none
  | k + 1, (n3, w4) =>
    if (decide ((n3 : Int) < (((x1).length : Nat) : Int))) then (
    (f74 (x1.getD n3 0#16) w4).bind fun (r5 : Bool × BitVec 16) =>
    chk ((n3 : Int) < (((x1).length : Nat) : Int)) <|
    if r5.1 then (
    some ((n3 : Int), r5.2)
    ) else (
    chk (((n3 : Int) + (1 : Int)) ≤ 9223372036854775807) <|
    (f63_L0 x1 K1 k) ((n3 + 1), r5.2)
    )
    ) else (
    K1 w4
    )
abbrev f63z0 (r5 : Bool × BitVec 16) : Heap := [(2000, .cells 49 [.b16 r5.2])]
def f63 (x1 : List (BitVec 16)) (x2 : BitVec 16) : Option (Int × BitVec 16) :=
  jn (fun (w6 : BitVec 16) =>
  some ((-1 : Int), w6)
  ) fun (K1 : (BitVec 16) → Option (Int × BitVec 16)) =>
  f63_L0 x1 K1 FUEL (0, x2)
set_option maxRecDepth 100000 in
theorem f63_ok  (x1 : List (BitVec 16)) (x2 : BitVec 16) (r : Int × BitVec 16) (h : f63 x1 x2 = some r)  : Spec1 Tryd.prog 63 [] [2000] [(2000, .cells 49 [.b16 x2])] [vL 1 eW 0#16 x1, .fn (.func 74) [.ptr 2000 0]] (.int .i64 r.1) [(2000, .cells 49 [.b16 r.2])] := by
  unfold f63 at h
  refine Spec1.body 0 _ _ Tryd.func63 rfl Tryd.ntmps63 rfl rfl ?_
  refine q2rq [] [] ⟨19, [(0, q2aW x1), (1, .fn (.func 74) [.ptr 2000 0])], [(2000, .cells 49 [.b16 x2])], [2000], 0⟩ trivial ?_
  obtain ⟨K1, hK1, h⟩ := jn_some h
  refine AWp.join (α := BitVec 16) (fun (w6 : BitVec 16) => ⟨19, [], [(2000, .cells 49 [.b16 w6])], [2000], 0⟩) (fun x => K1 x = some r) ?_ ?_
  ·
    refine q2rq [] [] ⟨19, [(0, q2aW x1), (1, .fn (.func 74) [.ptr 2000 0]), (7, .i (lZ x1)), (8, .i (0 : Int))], [(2000, .cells 49 [.b16 x2])], [2000], 0⟩ trivial ?_
    refine AWp.block ?_
    refine AWp.loopL (α := Nat × (Nat × BitVec 16)) (fun x => match x with | (_, n3, w4) => ⟨19, [(0, q2aW x1), (1, .fn (.func 74) [.ptr 2000 0]), (7, .i (lZ x1)), (8, .i (n3 : Int))], [(2000, .cells 49 [.b16 w4])], [2000], 0⟩) (fun x => f63_L0 x1 K1 x.1 x.2 = some r) (fun x => x.1) (FUEL, 0, x2) (Le.mk (s' := ⟨19, [(0, q2aW x1), (1, .fn (.func 74) [.ptr 2000 0]), (7, .i (lZ x1)), (8, .i (0 : Int))], [(2000, .cells 49 [.b16 x2])], [2000], 0⟩) rfl rfl ⟨.refl _, .refl _, .refl _, .refl _, trivial⟩ ⟨⟨_, rfl, .refl _⟩, trivial⟩) h ?_
    rintro ⟨k0, n3, w4⟩ h
    cases k0 with
    | zero => exact nomatch (show (none : Option (Int × BitVec 16)) = some r from h)
    | succ k0 =>
    obtain ⟨C0, hC0⟩ : ∃ C, C = f63_L0 x1 K1 k0 := ⟨_, rfl⟩
    replace h := (f63_L0.eq_2 ..).symm.trans h
    try rw [← hC0] at h
    refine q2rq [] [] ⟨19, [(0, q2aW x1), (1, .fn (.func 74) [.ptr 2000 0]), (7, .i (lZ x1)), (8, .i (n3 : Int)), (9, .bool (decide ((n3 : Int) < (lZ x1))))], [(2000, .cells 49 [.b16 w4])], [2000], 0⟩ trivial ?_
    refine AWp.seq ?_
    refine AWp.cond (b := (decide ((n3 : Int) < (lZ x1)))) (by kernel_rfl) (fun hc1 => ?_) (fun hc1 => ?_)
    ·
      replace h := ite_tb hc1 h
      refine AWp.skip ?_
      refine thenQ_normal ?_
      refine AWp.seq ?_
      refine AWp.block ?_
      refine q2rq [] [] ⟨19, [(0, q2aW x1), (1, .fn (.func 74) [.ptr 2000 0]), (5, .i (n3 : Int)), (7, .i (lZ x1)), (8, .i (n3 : Int))], [(2000, .cells 49 [.b16 w4])], [2000], 0⟩ trivial ?_
      refine AWp.seq ?_
      obtain ⟨r5, hr5, h⟩ := bind_ok h
      obtain ⟨ob0p, h⟩ := chk_some h
      have ob0 : 0 ≤ (n3 : Int) ∧ (n3 : Int) < (((x1).length : Nat) : Int) := ⟨by omega, ob0p⟩
      refine q2rr [] [(5, ⟨[.b16 (x1.getD n3 0#16), .ptr 2000 0], [2000], [2000], (f63z0 r5), .bool r5.1, [], [], []⟩)] ⟨19, [(0, q2aW x1), (1, .fn (.func 74) [.ptr 2000 0]), (5, .i (n3 : Int)), (7, .i (lZ x1)), (8, .i (n3 : Int)), (16, .bool r5.1)], (f63z0 r5), [2000], 0⟩ (an2 ob0 (cpT (f74_ok _ _ _ hr5))) ?_
      refine thenQ_normal ?_
      refine AWp.cond (b := r5.1) (by kernel_rfl) (fun hc2 => ?_) (fun hc2 => ?_)
      ·
        replace h := ite_tb hc2 h
        refine q2rq [] [] ⟨19, [(4, .i (n3 : Int))], (f63z0 r5), [2000], 0⟩ trivial ?_
        have hret := Option.some.inj h
        subst hret
        refine AWp.le (Le.mk (s' := ⟨19, [(4, .i (n3 : Int))], (f63z0 r5), [2000], 0⟩) rfl rfl ⟨.refl _, trivial⟩ ⟨⟨_, rfl, .refl _⟩, trivial⟩) ?_
        refine AWp.ret ?_
        refine blockQ_ret ?_
        refine thenQ_ret ?_
        refine thenQ_ret ?_
        refine blockQ_ret ?_
        refine joinQ_ret ?_
        exact bodyQ_ret _ rfl ⟨rfl, rfl⟩ rfl
      ·
        replace h := ite_fb hc2 h
        refine AWp.skip ?_
        refine blockQ_normal ?_
        refine thenQ_normal ?_
        obtain ⟨ob1p, h⟩ := chk_some h
        have ob1 : -9223372036854775808 ≤ ((n3 : Int) + (1 : Int)) ∧ ((n3 : Int) + (1 : Int)) ≤ 9223372036854775807 := ⟨by omega, ob1p⟩
        refine q2rr [] [] ⟨19, [(0, q2aW x1), (1, .fn (.func 74) [.ptr 2000 0]), (7, .i (lZ x1)), (8, .i (((n3 + 1) : Nat) : Int))], (f63z0 r5), [2000], 0⟩ (an1 ob1) ?_
        rw [hC0] at h
        exact loopQ_normal (_, (n3 + 1), r5.2) (Le.mk rfl rfl ⟨.refl _, .refl _, .refl _, .refl _, trivial⟩ ⟨⟨_, rfl, .refl _⟩, trivial⟩) h (Nat.lt_succ_self _)
    ·
      replace h := ite_fb hc1 h
      refine AWp.exit ?_
      refine thenQ_exit ?_
      refine thenQ_exit ?_
      refine blockQ_same ?_
      exact joinQ_normal (w4) (Le.mk rfl rfl trivial ⟨⟨_, rfl, .refl _⟩, trivial⟩) h
  ·
    rintro w6 h
    replace h := (congrFun hK1 _).symm.trans h
    refine q2rq [] [] ⟨19, [(4, .i (-1 : Int))], [(2000, .cells 49 [.b16 w6])], [2000], 0⟩ trivial ?_
    have hret := Option.some.inj h
    subst hret
    refine AWp.le (Le.mk (s' := ⟨19, [(4, .i (-1 : Int))], [(2000, .cells 49 [.b16 w6])], [2000], 0⟩) rfl rfl ⟨.refl _, trivial⟩ ⟨⟨_, rfl, .refl _⟩, trivial⟩) ?_
    refine AWp.ret ?_
    exact bodyQ_ret _ rfl ⟨rfl, rfl⟩ rfl
def f65 (x1 : List (BitVec 16)) (x2 : BitVec 16) : Option (Bool × BitVec 16) :=
  (f63 x1 x2).bind fun (r3 : Int × BitVec 16) =>
  some ((decide (r3.1 ≥ (0 : Int))), r3.2)
set_option maxRecDepth 100000 in
theorem f65_ok  (x1 : List (BitVec 16)) (x2 : BitVec 16) (r : Bool × BitVec 16) (h : f65 x1 x2 = some r)  : Spec1 Tryd.prog 65 [] [2000] [(2000, .cells 49 [.b16 x2])] [vL 1 eW 0#16 x1, .fn (.func 74) [.ptr 2000 0]] (.bool r.1) [(2000, .cells 49 [.b16 r.2])] := by
  unfold f65 at h
  refine Spec1.body 0 _ _ Tryd.func65 rfl Tryd.ntmps65 rfl rfl ?_
  refine q2rq [] [] ⟨9, [(0, q2aW x1), (1, .fn (.func 74) [.ptr 2000 0])], [(2000, .cells 49 [.b16 x2])], [2000], 0⟩ trivial ?_
  refine AWp.seq ?_
  obtain ⟨r3, hr3, h⟩ := bind_ok h
  refine q2rr [] [(2, ⟨[q2aW x1, .fn (.func 74) [.ptr 2000 0]], [2000], [2000], [(2000, .cells 49 [.b16 r3.2])], .i r3.1, [], [], []⟩)] ⟨9, [(4, .bool (decide (r3.1 ≥ (0 : Int))))], [(2000, .cells 49 [.b16 r3.2])], [2000], 0⟩ (an1 (cpT (f63_ok _ _ _ hr3))) ?_
  refine thenQ_normal ?_
  have hret := Option.some.inj h
  subst hret
  refine AWp.le (Le.mk (s' := ⟨9, [(4, .bool (decide (r3.1 ≥ (0 : Int))))], [(2000, .cells 49 [.b16 r3.2])], [2000], 0⟩) rfl rfl ⟨.refl _, trivial⟩ ⟨⟨_, rfl, .refl _⟩, trivial⟩) ?_
  refine AWp.ret ?_
  exact bodyQ_ret _ rfl ⟨rfl, rfl⟩ rfl
def f31 (x1 : List (BitVec 16)) (x2 : BitVec 16) : Option Bool :=
  (f65 x1 x2).bind fun (r3 : Bool × BitVec 16) =>
  some r3.1
set_option maxRecDepth 100000 in
theorem f31_ok  (x1 : List (BitVec 16)) (x2 : BitVec 16) (r : Bool) (h : f31 x1 x2 = some r)  : Spec1 Tryd.prog 31 [] [] [] [vL 1 eW 0#16 x1, .b16 x2] (.bool r) [] := by
  unfold f31 at h
  refine Spec1.body 0 _ _ Tryd.func31 rfl Tryd.ntmps31 rfl rfl ?_
  refine q2rq [] [] ⟨8, [(0, q2aW x1), (3, .ptr 3 0)], [(3, .cells 49 [.b16 x2])], [], 0⟩ trivial ?_
  refine AWp.seq ?_
  obtain ⟨r3, hr3, h⟩ := bind_ok h
  refine q2rr [] [(2, ⟨[q2aW x1, .fn (.func 74) [.ptr 3 0]], [3], [3], [(3, .cells 49 [.b16 r3.2])], .bool r3.1, [], [], []⟩)] ⟨8, [(4, .bool r3.1)], [], [], 0⟩ (an1 (cpT (Spec1.ren (swapN 2000 3) (swapN_inv 2000 3) rfl (f65_ok _ _ _ hr3)))) ?_
  refine thenQ_normal ?_
  have hret := Option.some.inj h
  subst hret
  refine AWp.le (Le.mk (s' := ⟨8, [(4, .bool r3.1)], [], [], 0⟩) rfl rfl ⟨.refl _, trivial⟩ trivial) ?_
  refine AWp.ret ?_
  exact bodyQ_ret _ rfl ⟨rfl, rfl⟩ rfl
def f101 (x1 : BitVec 16) : Option Int :=
  if (x1 == (BitVec.ofInt 16 0)) then (
  some (16 : Int)
  ) else (
  chk (27 ≤ IntKind.bits .u32) <|
  chk (0 ≤ ((IntKind.wrap .u32 ((((x1 &&& (-x1)).toNat : Nat) : Int) * (125613361 : Int))) / 2 ^ 27) ∧ ((IntKind.wrap .u32 ((((x1 &&& (-x1)).toNat : Nat) : Int) * (125613361 : Int))) / 2 ^ 27) < 32) <|
  chk ((((T0.getD (0 + ((((IntKind.wrap .u32 ((((x1 &&& (-x1)).toNat : Nat) : Int) * (125613361 : Int))) / 2 ^ 27)).toNat) * 1 + 0) 0) : Nat) : Int) ≤ 9223372036854775807) <|
  some (((T0.getD (0 + ((((IntKind.wrap .u32 ((((x1 &&& (-x1)).toNat : Nat) : Int) * (125613361 : Int))) / 2 ^ 27)).toNat) * 1 + 0) 0) : Nat) : Int)
  )
set_option maxRecDepth 100000 in
theorem f101_ok  (x1 : BitVec 16) (r : Int) (h : f101 x1 = some r)  : Spec1 Tryd.prog 101 [(0, .elem 32 1 T0F 0 0)] [] [] [.b16 x1] (.int .i64 r) [] := by
  unfold f101 at h
  refine Spec1.body 0 _ _ Tryd.func101 rfl Tryd.ntmps101 rfl rfl ?_
  refine q2rq [10] [] ⟨15, [(0, .b16 x1), (1000000, .elem 32 1 T0F 0 0)], [], [], 0⟩ trivial ?_
  refine AWp.seq ?_
  refine q2rq [10] [] ⟨15, [(0, .b16 x1), (4, .bool (x1 == (q2w16 0))), (1000000, .elem 32 1 T0F 0 0)], [], [], 0⟩ trivial ?_
  refine AWp.cond (b := (x1 == (q2w16 0))) (by kernel_rfl) (fun hc1 => ?_) (fun hc1 => ?_)
  ·
    replace h := ite_tb hc1 h
    refine q2rq [10] [] ⟨15, [(2, .i (16 : Int)), (1000000, .elem 32 1 T0F 0 0)], [], [], 0⟩ trivial ?_
    have hret := Option.some.inj h
    subst hret
    refine AWp.le (Le.mk (s' := ⟨15, [(2, .i (16 : Int))], [], [], 0⟩) rfl rfl ⟨.refl _, trivial⟩ trivial) ?_
    refine AWp.ret ?_
    refine thenQ_ret ?_
    exact bodyQ_ret _ rfl ⟨rfl, rfl⟩ rfl
  ·
    replace h := ite_fb hc1 h
    refine AWp.skip ?_
    refine thenQ_normal ?_
    refine AWp.seq ?_
    have ob0 : 0 ≤ (((x1 &&& (-x1)).toNat : Nat) : Int) ∧ (((x1 &&& (-x1)).toNat : Nat) : Int) ≤ 4294967295 := ⟨by omega, by (have := ((x1 &&& (-x1)) : BitVec 16).isLt; omega)⟩
    obtain ⟨ob1p, h⟩ := chk_some h
    have ob1 : 0 ≤ (27 : Int) ∧ 27 ≤ IntKind.bits .u32 := ⟨by omega, ob1p⟩
    obtain ⟨ob2, ob3p, h⟩ := ck2 h
    have ob3 : -9223372036854775808 ≤ (((T0.getD (0 + ((((IntKind.wrap .u32 ((((x1 &&& (-x1)).toNat : Nat) : Int) * (125613361 : Int))) / 2 ^ 27)).toNat) * 1 + 0) 0) : Nat) : Int) ∧ (((T0.getD (0 + ((((IntKind.wrap .u32 ((((x1 &&& (-x1)).toNat : Nat) : Int) * (125613361 : Int))) / 2 ^ 27)).toNat) * 1 + 0) 0) : Nat) : Int) ≤ 9223372036854775807 := ⟨by omega, ob3p⟩
    refine q2rr [10] [] ⟨15, [(2, .i (((T0.getD (0 + ((((IntKind.wrap .u32 ((((x1 &&& (-x1)).toNat : Nat) : Int) * (125613361 : Int))) / 2 ^ 27)).toNat) * 1 + 0) 0) : Nat) : Int)), (1000000, .elem 32 1 T0F 0 0)], [], [], 0⟩ (an6 trivial ob0 trivial ob1 ob2 ob3) ?_
    refine thenQ_normal ?_
    have hret := Option.some.inj h
    subst hret
    refine AWp.le (Le.mk (s' := ⟨15, [(2, .i (((T0.getD (0 + ((((IntKind.wrap .u32 ((((x1 &&& (-x1)).toNat : Nat) : Int) * (125613361 : Int))) / 2 ^ 27)).toNat) * 1 + 0) 0) : Nat) : Int))], [], [], 0⟩) rfl rfl ⟨.refl _, trivial⟩ trivial) ?_
    refine AWp.ret ?_
    exact bodyQ_ret _ rfl ⟨rfl, rfl⟩ rfl
def f93_L0 (K1 : (List Int) → Option (List Int)) : Nat → (BitVec 16 × List Int) → Option (List Int)
  | 0, _ => none
  | k + 1, (w2, l3) =>
    if (!(w2 == (BitVec.ofInt 16 0))) then (
    (f101 w2).bind fun (r4 : Int) =>
    chk (((l3).length + 1) * 8 ≤ 140737488355328) <|
    (f93_L0 K1 k) ((w2 &&& (w2 - (BitVec.ofInt 16 1))), (l3 ++ [r4]))
    ) else (
    K1 l3
    )
def f93 (x1 : BitVec 16) : Option (List Int) :=
  jn (fun (l5 : List Int) =>
  some l5
  ) fun (K1 : (List Int) → Option (List Int)) =>
  f93_L0 K1 FUEL (x1, [])
set_option maxRecDepth 100000 in
theorem f93_ok  (x1 : BitVec 16) (r : List Int) (h : f93 x1 = some r)  : Spec1 Tryd.prog 93 [(0, .elem 32 1 T0F 0 0)] [] [] [.b16 x1] (.own 3000) [(3000, bL 3 1 eI 0 r)] := by
  unfold f93 at h
  refine Spec1.body 0 _ _ Tryd.func93 rfl Tryd.ntmps93 rfl rfl ?_
  refine q2rq [] [] ⟨16, [(0, .b16 x1), (1000000, .elem 32 1 T0F 0 0)], [], [], 0⟩ trivial ?_
  refine q2rq [] [] ⟨16, [(0, .b16 x1), (3, .nils), (1000000, .elem 32 1 T0F 0 0)], [], [], 0⟩ trivial ?_
  obtain ⟨K1, hK1, h⟩ := jn_some h
  refine AWp.join (α := List Int) (fun (l5 : List Int) => ⟨16, [(3, .own 5003), (1000000, .elem 32 1 T0F 0 0)], [(5003, q2bI_3 l5)], [], 0⟩) (fun x => K1 x = some r) ?_ ?_
  ·
    refine AWp.block ?_
    refine AWp.loopL (α := Nat × (BitVec 16 × List Int)) (fun x => match x with | (_, w2, l3) => ⟨16, [(0, .b16 w2), (3, .own 5003), (1000000, .elem 32 1 T0F 0 0)], [(5003, q2bI_3 l3)], [], 0⟩) (fun x => f93_L0 K1 x.1 x.2 = some r) (fun x => x.1) (FUEL, x1, []) (Le.trans (Le.trans (Le.nilOwn 3 5003 3 1 (encF eI 0 []) rfl rfl (Nat.le_of_ble_eq_true rfl)) (Le.mk (s' := ⟨16, [(0, .b16 x1), (3, .own 5003), (1000000, .elem 32 1 T0F 0 0)], [(5003, q2bI_3 [])], [], 0⟩) rfl rfl ⟨.refl _, .refl _, .refl _, trivial⟩ ⟨⟨_, rfl, .refl _⟩, trivial⟩)) (Le.mk (s' := ⟨16, [(0, .b16 x1), (3, .own 5003), (1000000, .elem 32 1 T0F 0 0)], [(5003, q2bI_3 [])], [], 0⟩) rfl rfl ⟨.refl _, .refl _, .refl _, trivial⟩ ⟨⟨_, rfl, .refl _⟩, trivial⟩)) h ?_
    rintro ⟨k0, w2, l3⟩ h
    cases k0 with
    | zero => exact nomatch (show (none : Option (List Int)) = some r from h)
    | succ k0 =>
    obtain ⟨C0, hC0⟩ : ∃ C, C = f93_L0 K1 k0 := ⟨_, rfl⟩
    replace h := (f93_L0.eq_2 ..).symm.trans h
    try rw [← hC0] at h
    refine AWp.seq ?_
    refine q2rq [] [] ⟨16, [(0, .b16 w2), (3, .own 5003), (5, .bool (!(w2 == (q2w16 0)))), (1000000, .elem 32 1 T0F 0 0)], [(5003, q2bI_3 l3)], [], 0⟩ trivial ?_
    refine AWp.cond (b := (!(w2 == (q2w16 0)))) (by kernel_rfl) (fun hc1 => ?_) (fun hc1 => ?_)
    ·
      replace h := ite_tb hc1 h
      refine AWp.skip ?_
      refine thenQ_normal ?_
      refine AWp.seq ?_
      refine AWp.block ?_
      obtain ⟨r4, hr4, h⟩ := bind_ok h
      obtain ⟨ob0, h⟩ := chk_some h
      refine q2rr [] [(2, ⟨[.b16 w2], [], [], [], .i r4, [], [], [0]⟩)] ⟨16, [(0, .b16 w2), (3, .own 5003), (1000000, .elem 32 1 T0F 0 0)], [(5003, .rows 3 1 ((l3).length + 1) (appF (l3).length (encF eI 0 l3) (lstF 1 [.i r4])))], [], 0⟩ (an2 (cpT (f101_ok _ _ hr4)) ob0) ?_
      refine blockQ_normal ?_
      refine thenQ_normal ?_
      refine AWp.le (Le.mk (s' := ⟨16, [(0, .b16 w2), (3, .own 5003), (1000000, .elem 32 1 T0F 0 0)], [(5003, q2bI_3 (l3 ++ [r4]))], [], 0⟩) rfl rfl ⟨.refl _, .refl _, .refl _, trivial⟩ ⟨⟨_, rfl, (BLe.of (RL.app (RL.self _) (RL.lst (enc := eI) [r4] rfl rfl (fun _ => rfl))))⟩, trivial⟩) ?_
      refine q2rr [] [] ⟨16, [(0, .b16 (w2 &&& (w2 - (q2w16 1)))), (3, .own 5003), (1000000, .elem 32 1 T0F 0 0)], [(5003, q2bI_3 (l3 ++ [r4]))], [], 0⟩ (an1 trivial) ?_
      rw [hC0] at h
      exact loopQ_normal (_, (w2 &&& (w2 - (q2w16 1))), (l3 ++ [r4])) (Le.mk rfl rfl ⟨.refl _, .refl _, .refl _, trivial⟩ ⟨⟨_, rfl, .refl _⟩, trivial⟩) h (Nat.lt_succ_self _)
    ·
      replace h := ite_fb hc1 h
      refine AWp.exit ?_
      refine thenQ_exit ?_
      refine thenQ_exit ?_
      refine blockQ_same ?_
      exact joinQ_normal (l3) (Le.mk rfl rfl ⟨.refl _, .refl _, trivial⟩ ⟨⟨_, rfl, .refl _⟩, trivial⟩) h
  ·
    rintro l5 h
    replace h := (congrFun hK1 _).symm.trans h
    refine q2rq [] [] ⟨16, [(2, .own 5003), (1000000, .elem 32 1 T0F 0 0)], [(5003, q2bI_3 l5)], [], 0⟩ trivial ?_
    refine AWp.le (Le.trans (Le.ren (swapN 5003 3000) (swapN_inv 5003 3000) rfl) (Le.mk (s' := ⟨16, [(2, .own 3000), (1000000, .elem 32 1 T0F 0 0)], [(3000, q2bI_3 l5)], [], 0⟩) rfl rfl ⟨.refl _, .refl _, trivial⟩ ⟨⟨_, rfl, .refl _⟩, trivial⟩)) ?_
    have hret := Option.some.inj h
    subst hret
    refine AWp.le (Le.mk (s' := ⟨16, [(2, .own 3000)], [(3000, q2bI_3 l5)], [], 0⟩) rfl rfl ⟨.refl _, trivial⟩ ⟨⟨_, rfl, .refl _⟩, trivial⟩) ?_
    refine AWp.ret ?_
    exact bodyQ_ret _ rfl ⟨rfl, rfl⟩ rfl
def f73_L1 (r8 : List Int) (i9 : Int) (K2 : (BitVec 16) → Option (Bool × Nat × (List (Int × Int × Int × List Int × List Int)) × Int × Int × List (BitVec 16) × BitVec 16)) : Nat → (BitVec 16 × Nat) → Option (Bool × Nat × (List (Int × Int × Int × List Int × List Int)) × Int × Int × List (BitVec 16) × BitVec 16)
  | 0, _ => none
  | k + 1, (w16, n17) =>
    if (decide ((n17 : Int) < (((r8).length : Nat) : Int))) then (
    jn (fun (w18 : BitVec 16) =>
    chk (((n17 : Int) + (1 : Int)) ≤ 9223372036854775807) <|
    (f73_L1 r8 i9 K2 k) (w18, (n17 + 1))
    ) fun (K3 : (BitVec 16) → Option (Bool × Nat × (List (Int × Int × Int × List Int × List Int)) × Int × Int × List (BitVec 16) × BitVec 16)) =>
    chk ((n17 : Int) < (((r8).length : Nat) : Int)) <|
    chk (n17 < (r8).length) <|
    chk (n17 ≤ IntKind.bits .u32) <|
    if ((bitsI .and .u32 (i9 / 2 ^ n17) (1 : Int)) == (1 : Int)) then (
    chk (0 ≤ (r8.getD n17 0)) <|
    K3 (w16 ||| ((BitVec.ofInt 16 1) <<< (((r8.getD n17 0)).toNat)))
    ) else (
    K3 w16
    )
    ) else (
    K2 w16
    )
def f73_L0 (Y70001 : ((List (Int × Int × Int × List Int × List Int)) × Int × Int × List (BitVec 16) × BitVec 16) → (BitVec 16) → Option (Nat × ((List (Int × Int × Int × List Int × List Int)) × Int × Int × List (BitVec 16) × BitVec 16))) (r8 : List Int) (K1 : (BitVec 16 × Int × (List (Int × Int × Int × List Int × List Int)) × Int × List (BitVec 16) × Nat) → Option (Bool × Nat × (List (Int × Int × Int × List Int × List Int)) × Int × Int × List (BitVec 16) × BitVec 16)) : Nat → (Int × BitVec 16 × Int × (List (Int × Int × Int × List Int × List Int)) × Int × List (BitVec 16) × Nat) → Option (Bool × Nat × (List (Int × Int × Int × List Int × List Int)) × Int × Int × List (BitVec 16) × BitVec 16)
  | 0, _ => none
  | k + 1, (i9, w10, i11, l12, i13, l14, n15) =>
    chk ((r8).length ≤ IntKind.bits .u32 ∧ 0 ≤ ((1 : Int) * 2 ^ ((r8).length)) ∧ ((1 : Int) * 2 ^ ((r8).length)) ≤ 4294967295) <|
    if (decide (i9 < ((1 : Int) * 2 ^ ((r8).length)))) then (
    jn (fun (w19 : BitVec 16) =>
    jn (fun ((w21, i22, l23, i24, l25, n26) : BitVec 16 × Int × (List (Int × Int × Int × List Int × List Int)) × Int × List (BitVec 16) × Nat) =>
    if (i9 == (0 : Int)) then (
    K1 (w21, i22, l23, i24, l25, n26)
    ) else (
    chk (0 ≤ (i9 + (bitsI .and .u32 i9 (IntKind.wrap .u32 (0 - i9)))) ∧ (i9 + (bitsI .and .u32 i9 (IntKind.wrap .u32 (0 - i9)))) ≤ 4294967295) <|
    chk (0 ≤ (bitsI .xor .u32 i9 (i9 + (bitsI .and .u32 i9 (IntKind.wrap .u32 (0 - i9))))) ∧ 1 ≤ (bitsI .and .u32 i9 (IntKind.wrap .u32 (0 - i9))) ∧ 0 ≤ ((bitsI .xor .u32 i9 (i9 + (bitsI .and .u32 i9 (IntKind.wrap .u32 (0 - i9))))) / (bitsI .and .u32 i9 (IntKind.wrap .u32 (0 - i9)))) ∧ ((bitsI .xor .u32 i9 (i9 + (bitsI .and .u32 i9 (IntKind.wrap .u32 (0 - i9))))) / (bitsI .and .u32 i9 (IntKind.wrap .u32 (0 - i9)))) ≤ 4294967295) <|
    chk (2 ≤ IntKind.bits .u32) <|
    (f73_L0 Y70001 r8 K1 k) ((bitsI .or .u32 (i9 + (bitsI .and .u32 i9 (IntKind.wrap .u32 (0 - i9)))) (((bitsI .xor .u32 i9 (i9 + (bitsI .and .u32 i9 (IntKind.wrap .u32 (0 - i9))))) / (bitsI .and .u32 i9 (IntKind.wrap .u32 (0 - i9)))) / 2 ^ 2)), w21, i22, l23, i24, l25, n26)
    )
    ) fun (K4 : (BitVec 16 × Int × (List (Int × Int × Int × List Int × List Int)) × Int × List (BitVec 16) × Nat) → Option (Bool × Nat × (List (Int × Int × Int × List Int × List Int)) × Int × Int × List (BitVec 16) × BitVec 16)) =>
    chk (n15 = 0) <|
    (Y70001 (l12, i13, i11, l14, w10) w19).bind fun (r20 : Nat × ((List (Int × Int × Int × List Int × List Int)) × Int × Int × List (BitVec 16) × BitVec 16)) =>
    if r20.1 = 0 then (
    if (!true) then (
    some (false, 0, r20.2.1, r20.2.2.1, r20.2.2.2.1, r20.2.2.2.2.1, r20.2.2.2.2.2)
    ) else (
    K4 (r20.2.2.2.2.2, r20.2.2.2.1, r20.2.1, r20.2.2.1, r20.2.2.2.2.1, 0)
    )
    ) else (
    if (!false) then (
    some (false, r20.1, r20.2.1, r20.2.2.1, r20.2.2.2.1, r20.2.2.2.2.1, r20.2.2.2.2.2)
    ) else (
    K4 (r20.2.2.2.2.2, r20.2.2.2.1, r20.2.1, r20.2.2.1, r20.2.2.2.2.1, r20.1)
    )
    )
    ) fun (K2 : (BitVec 16) → Option (Bool × Nat × (List (Int × Int × Int × List Int × List Int)) × Int × Int × List (BitVec 16) × BitVec 16)) =>
    f73_L1 r8 i9 K2 FUEL ((BitVec.ofInt 16 0), 0)
    ) else (
    K1 (w10, i11, l12, i13, l14, n15)
    )
abbrev f73z0 (l12 : List (Int × Int × Int × List Int × List Int)) (i13 : Int) (i11 : Int) (l14 : List (BitVec 16)) (w10 : BitVec 16) (r8 : List Int) (C70001 : YC) (n15 : Nat) : Heap := [(1, .cells 28 [vL 5 eT67 (default : Int × Int × Int × List Int × List Int) l12, .int .i64 i13]), (2, .cells 30 [.nils]), (3, .cells 31 [.int .i64 i11]), (5, .cells 30 [.own 6000]), (6000, bL 49 1 eW 0#16 l14), (6001, .cells 49 [.b16 w10]), (26001, bL 3 1 eI 0 r8), (70001, .yld (some ([1, 2, 3, 5], C70001)) n15)]
abbrev f73z1 (l23 : List (Int × Int × Int × List Int × List Int)) (i24 : Int) (i22 : Int) (l25 : List (BitVec 16)) (w21 : BitVec 16) (r8 : List Int) (C70001 : YC) (n26 : Nat) : Heap := [(1, .cells 28 [vL 5 eT67 (default : Int × Int × Int × List Int × List Int) l23, .int .i64 i24]), (2, .cells 30 [.nils]), (3, .cells 31 [.int .i64 i22]), (5, .cells 30 [.own 6000]), (6000, bL 49 1 eW 0#16 l25), (6001, .cells 49 [.b16 w21]), (26001, bL 3 1 eI 0 r8), (70001, .yld (some ([1, 2, 3, 5], C70001)) n26)]
abbrev f73z2 (r20 : Nat × ((List (Int × Int × Int × List Int × List Int)) × Int × Int × List (BitVec 16) × BitVec 16)) : List V := [vL 5 eT67 (default : Int × Int × Int × List Int × List Int) r20.2.1, .int .i64 r20.2.2.1]
abbrev f73z3 (x3 : List (Int × Int × Int × List Int × List Int)) (x4 : Int) (x5 : Int) (x6 : List (BitVec 16)) (x7 : BitVec 16) (r8 : List Int) (C70001 : YC) : Heap := [(1, .cells 28 [vL 5 eT67 (default : Int × Int × Int × List Int × List Int) x3, .int .i64 x4]), (2, .cells 30 [.nils]), (3, .cells 31 [.int .i64 x5]), (5, .cells 30 [.own 6000]), (6000, bL 49 1 eW 0#16 x6), (6001, .cells 49 [.b16 x7]), (26001, bL 3 1 eI 0 r8), (70001, .yld (some ([1, 2, 3, 5], C70001)) 0)]
abbrev f73z4 (r20 : Nat × ((List (Int × Int × Int × List Int × List Int)) × Int × Int × List (BitVec 16) × BitVec 16)) : Heap := [(1, .cells 28 (f73z2 r20)), (2, .cells 30 [.nils]), (3, .cells 31 [.int .i64 r20.2.2.2.1]), (5, .cells 30 [.own 6000]), (6000, bL 49 1 eW 0#16 r20.2.2.2.2.1), (6001, .cells 49 [.b16 r20.2.2.2.2.2])]
abbrev f73z5 (C70001 : YC) (r20 : Nat × ((List (Int × Int × Int × List Int × List Int)) × Int × Int × List (BitVec 16) × BitVec 16)) : Heap := [(70001, .yld (some ([1, 2, 3, 5], C70001)) r20.1), (1, .cells 28 (f73z2 r20)), (2, .cells 30 [.nils]), (3, .cells 31 [.int .i64 r20.2.2.2.1]), (5, .cells 30 [.own 6000]), (6000, bL 49 1 eW 0#16 r20.2.2.2.2.1), (6001, .cells 49 [.b16 r20.2.2.2.2.2])]
abbrev f73z6 (C70001 : YC) (r20 : Nat × ((List (Int × Int × Int × List Int × List Int)) × Int × Int × List (BitVec 16) × BitVec 16)) : Heap := [(70001, .yld (some ([1, 2, 3, 5], C70001)) 0), (1, .cells 28 (f73z2 r20)), (2, .cells 30 [.nils]), (3, .cells 31 [.int .i64 r20.2.2.2.1]), (5, .cells 30 [.own 6000]), (6000, bL 49 1 eW 0#16 r20.2.2.2.2.1), (6001, .cells 49 [.b16 r20.2.2.2.2.2])]
abbrev f73z7 := (List (Int × Int × Int × List Int × List Int))
abbrev f73z8 (x2 : Int) := ((decide (x2 < (0 : Int))) == false)
abbrev f73z9 (l12 : List (Int × Int × Int × List Int × List Int)) (i13 : Int) : List V := [vL 5 eT67 (default : Int × Int × Int × List Int × List Int) l12, .int .i64 i13]
def f73 (Y70001 : ((List (Int × Int × Int × List Int × List Int)) × Int × Int × List (BitVec 16) × BitVec 16) → (BitVec 16) → Option (Nat × ((List (Int × Int × Int × List Int × List Int)) × Int × Int × List (BitVec 16) × BitVec 16))) (x1 : BitVec 16) (x2 : Int) (x3 : List (Int × Int × Int × List Int × List Int)) (x4 : Int) (x5 : Int) (x6 : List (BitVec 16)) (x7 : BitVec 16) : Option (Bool × Nat × (List (Int × Int × Int × List Int × List Int)) × Int × Int × List (BitVec 16) × BitVec 16) :=
  (f93 x1).bind fun (r8 : List Int) =>
  if ((decide (x2 < (0 : Int))) || (decide (x2 > (((r8).length : Nat) : Int)))) then (
  some (true, 0, x3, x4, x5, x6, x7)
  ) else (
  jn (fun ((w20, i21, l22, i23, l24, n25) : BitVec 16 × Int × (List (Int × Int × Int × List Int × List Int)) × Int × List (BitVec 16) × Nat) =>
  some (true, n25, l22, i23, i21, l24, w20)
  ) fun (K1 : (BitVec 16 × Int × (List (Int × Int × Int × List Int × List Int)) × Int × List (BitVec 16) × Nat) → Option (Bool × Nat × (List (Int × Int × Int × List Int × List Int)) × Int × Int × List (BitVec 16) × BitVec 16)) =>
  chk (0 ≤ x2 ∧ (x2).toNat ≤ IntKind.bits .u32 ∧ 0 ≤ ((1 : Int) * 2 ^ ((x2).toNat)) ∧ ((1 : Int) * 2 ^ ((x2).toNat)) ≤ 4294967295) <|
  chk (0 ≤ (((1 : Int) * 2 ^ ((x2).toNat)) - (1 : Int)) ∧ (((1 : Int) * 2 ^ ((x2).toNat)) - (1 : Int)) ≤ 4294967295) <|
  f73_L0 Y70001 r8 K1 FUEL ((((1 : Int) * 2 ^ ((x2).toNat)) - (1 : Int)), x7, x5, x3, x4, x6, 0)
  )
set_option maxRecDepth 100000 in
theorem f73_ok (C70001 : YC) (Y70001 : ((List (Int × Int × Int × List Int × List Int)) × Int × Int × List (BitVec 16) × BitVec 16) → (BitVec 16) → Option (Nat × ((List (Int × Int × Int × List Int × List Int)) × Int × Int × List (BitVec 16) × BitVec 16))) (x1 : BitVec 16) (x2 : Int) (x3 : List (Int × Int × Int × List Int × List Int)) (x4 : Int) (x5 : Int) (x6 : List (BitVec 16)) (x7 : BitVec 16) (r : Bool × Nat × (List (Int × Int × Int × List Int × List Int)) × Int × Int × List (BitVec 16) × BitVec 16) (h : f73 Y70001 x1 x2 x3 x4 x5 x6 x7 = some r) (hY70001 : ∀ s x r, Y70001 s x = some r → YSpec Tryd.prog 70001 [1, 2, 3, 5] C70001 [1, 2, 3, 5, 6001] [(1, .cells 28 [vL 5 eT67 (default : Int × Int × Int × List Int × List Int) s.1, .int .i64 s.2.1]), (2, .cells 30 [.nils]), (3, .cells 31 [.int .i64 s.2.2.1]), (5, .cells 30 [.own 6000]), (6000, bL 49 1 eW 0#16 s.2.2.2.1), (6001, .cells 49 [.b16 s.2.2.2.2])] [.b16 x] r.1 [(1, .cells 28 [vL 5 eT67 (default : Int × Int × Int × List Int × List Int) r.2.1, .int .i64 r.2.2.1]), (2, .cells 30 [.nils]), (3, .cells 31 [.int .i64 r.2.2.2.1]), (5, .cells 30 [.own 6000]), (6000, bL 49 1 eW 0#16 r.2.2.2.2.1), (6001, .cells 49 [.b16 r.2.2.2.2.2])]) : Spec1 Tryd.prog 73 [(0, .elem 32 1 T0F 0 0)] [70001, 1, 2, 3, 5, 6001] [(70001, .yld (some ([1, 2, 3, 5], C70001)) 0), (1, .cells 28 [vL 5 eT67 (default : Int × Int × Int × List Int × List Int) x3, .int .i64 x4]), (2, .cells 30 [.nils]), (3, .cells 31 [.int .i64 x5]), (5, .cells 30 [.own 6000]), (6000, bL 49 1 eW 0#16 x6), (6001, .cells 49 [.b16 x7])] [.b16 x1, .int .i64 x2, .own 70001] (.bool r.1) [(70001, .yld (some ([1, 2, 3, 5], C70001)) r.2.1), (1, .cells 28 [vL 5 eT67 (default : Int × Int × Int × List Int × List Int) r.2.2.1, .int .i64 r.2.2.2.1]), (2, .cells 30 [.nils]), (3, .cells 31 [.int .i64 r.2.2.2.2.1]), (5, .cells 30 [.own 6000]), (6000, bL 49 1 eW 0#16 r.2.2.2.2.2.1), (6001, .cells 49 [.b16 r.2.2.2.2.2.2])] := by
  unfold f73 at h
  refine Spec1.body 20000 _ _ Tryd.func73 rfl Tryd.ntmps73 rfl rfl ?_
  refine q2rq [57] [] ⟨70, [(0, .b16 x1), (1, .i x2), (2, .own 70001), (1000000, .elem 32 1 T0F 0 0)], [(1, .cells 28 [q2aT67 x3, .i x4]), (2, .cells 30 [.nils]), (3, .cells 31 [.i x5]), (5, .cells 30 [.own 6000]), (6000, q2bW_49 x6), (6001, .cells 49 [.b16 x7]), (70001, .yld (some ([1, 2, 3, 5], C70001)) 0)], [70001, 1, 2, 3, 5, 6001], 20000⟩ trivial ?_
  refine AWp.seq ?_
  obtain ⟨r8, hr8, h⟩ := bind_ok h
  refine q2rr [57] [(1, ⟨[.b16 x1], [], [], [(26001, q2bI_3 r8)], .own 26001, [26001], [], [0]⟩)] ⟨70, [(1, .i x2), (2, .own 70001), (7, .own 26001), (1000000, .elem 32 1 T0F 0 0)], (f73z3 x3 x4 x5 x6 x7 r8 C70001), [70001, 1, 2, 3, 5, 6001], 20000⟩ (an1 (cpT (Spec1.ren (swapN 3000 26001) (swapN_inv 3000 26001) rfl (f93_ok _ _ hr8)))) ?_
  refine thenQ_normal ?_
  refine AWp.seq ?_
  refine AWp.seq ?_
  have ob0 := idA ((f73z8 x2) = true)
  have ob1 := idA ((f73z8 x2) = true)
  have ob2 := idA ((f73z8 x2) = true)
  have ob3 : true = true → (decide (x2 < (0 : Int))) = false → (f73z8 x2) = true := fun _ h => beq_iff_eq.2 h
  refine q2rr [57] [] ⟨70, [(1, .i x2), (2, .own 70001), (7, .own 26001), (23, .bool ((decide (x2 < (0 : Int))) || (decide (x2 > (lZ r8))))), (1000000, .elem 32 1 T0F 0 0)], (f73z3 x3 x4 x5 x6 x7 r8 C70001), [70001, 1, 2, 3, 5, 6001], 20000⟩ (an3 (an1 ob0) (an2 ob1 ob2) ob3) ?_
  refine thenQ_normal ?_
  refine AWp.cond (b := ((decide (x2 < (0 : Int))) || (decide (x2 > (lZ r8))))) (by kernel_rfl) (fun hc1 => ?_) (fun hc1 => ?_)
  ·
    replace h := ite_tb hc1 h
    refine q2rq [57] [] ⟨70, [(6, .bool true), (1000000, .elem 32 1 T0F 0 0)], [(1, .cells 28 [q2aT67 x3, .i x4]), (2, .cells 30 [.nils]), (3, .cells 31 [.i x5]), (5, .cells 30 [.own 6000]), (6000, q2bW_49 x6), (6001, .cells 49 [.b16 x7]), (70001, .yld (some ([1, 2, 3, 5], C70001)) 0)], [70001, 1, 2, 3, 5, 6001], 20000⟩ trivial ?_
    have hret := Option.some.inj h
    subst hret
    refine AWp.le (Le.mk (s' := ⟨70, [(6, .bool true)], [(70001, .yld (some ([1, 2, 3, 5], C70001)) 0), (1, .cells 28 [q2aT67 x3, .i x4]), (2, .cells 30 [.nils]), (3, .cells 31 [.i x5]), (5, .cells 30 [.own 6000]), (6000, q2bW_49 x6), (6001, .cells 49 [.b16 x7])], [70001, 1, 2, 3, 5, 6001], 20000⟩) rfl rfl ⟨.refl _, trivial⟩ ⟨⟨_, rfl, .refl _⟩, ⟨_, rfl, .refl _⟩, ⟨_, rfl, .refl _⟩, ⟨_, rfl, .refl _⟩, ⟨_, rfl, .refl _⟩, ⟨_, rfl, .refl _⟩, ⟨_, rfl, .refl _⟩, trivial⟩) ?_
    refine AWp.ret ?_
    refine thenQ_ret ?_
    exact bodyQ_ret _ rfl ⟨rfl, rfl⟩ rfl
  ·
    replace h := ite_fb hc1 h
    refine AWp.skip ?_
    refine thenQ_normal ?_
    obtain ⟨K1, hK1, h⟩ := jn_some h
    refine AWp.join (α := BitVec 16 × Int × (f73z7) × Int × List (BitVec 16) × Nat) (fun (x : BitVec 16 × Int × (f73z7) × Int × List (BitVec 16) × Nat) => match x with | (w20, i21, l22, i23, l24, n25) => ⟨70, [(1000000, .elem 32 1 T0F 0 0)], [(1, .cells 28 [q2aT67 l22, .i i23]), (2, .cells 30 [.nils]), (3, .cells 31 [.i i21]), (5, .cells 30 [.own 6000]), (6000, q2bW_49 l24), (6001, .cells 49 [.b16 w20]), (70001, .yld (some ([1, 2, 3, 5], C70001)) n25)], [70001, 1, 2, 3, 5, 6001], 20000⟩) (fun x => K1 x = some r) ?_ ?_
    ·
      refine AWp.seq ?_
      obtain ⟨ob4, ob5, h⟩ := ck2 h
      refine q2rr [57] [] ⟨70, [(2, .own 70001), (7, .own 26001), (8, .int .u32 (((1 : Int) * 2 ^ ((x2).toNat)) - (1 : Int))), (1000000, .elem 32 1 T0F 0 0)], (f73z3 x3 x4 x5 x6 x7 r8 C70001), [70001, 1, 2, 3, 5, 6001], 20000⟩ (an2 ob4 ob5) ?_
      refine thenQ_normal ?_
      refine AWp.block ?_
      refine AWp.loopL (α := Nat × (Int × BitVec 16 × Int × (f73z7) × Int × List (BitVec 16) × Nat)) (fun x => match x with | (_, i9, w10, i11, l12, i13, l14, n15) => ⟨70, [(2, .own 70001), (7, .own 26001), (8, .int .u32 i9), (1000000, .elem 32 1 T0F 0 0)], (f73z0 l12 i13 i11 l14 w10 r8 C70001 n15), [70001, 1, 2, 3, 5, 6001], 20000⟩) (fun x => f73_L0 Y70001 r8 K1 x.1 x.2 = some r) (fun x => x.1) (FUEL, (((1 : Int) * 2 ^ ((x2).toNat)) - (1 : Int)), x7, x5, x3, x4, x6, 0) (Le.mk (s' := ⟨70, [(2, .own 70001), (7, .own 26001), (8, .int .u32 (((1 : Int) * 2 ^ ((x2).toNat)) - (1 : Int))), (1000000, .elem 32 1 T0F 0 0)], (f73z3 x3 x4 x5 x6 x7 r8 C70001), [70001, 1, 2, 3, 5, 6001], 20000⟩) rfl rfl ⟨.refl _, .refl _, .refl _, .refl _, trivial⟩ ⟨⟨_, rfl, .refl _⟩, ⟨_, rfl, .refl _⟩, ⟨_, rfl, .refl _⟩, ⟨_, rfl, .refl _⟩, ⟨_, rfl, .refl _⟩, ⟨_, rfl, .refl _⟩, ⟨_, rfl, .refl _⟩, ⟨_, rfl, .refl _⟩, trivial⟩) h ?_
      rintro ⟨k0, i9, w10, i11, l12, i13, l14, n15⟩ h
      cases k0 with
      | zero => exact nomatch (show (none : Option (Bool × Nat × (List (Int × Int × Int × List Int × List Int)) × Int × Int × List (BitVec 16) × BitVec 16)) = some r from h)
      | succ k0 =>
      obtain ⟨C0, hC0⟩ : ∃ C, C = f73_L0 Y70001 r8 K1 k0 := ⟨_, rfl⟩
      replace h := (f73_L0.eq_2 ..).symm.trans h
      try rw [← hC0] at h
      refine AWp.seq ?_
      refine AWp.seq ?_
      obtain ⟨ob6p, h⟩ := chk_some h
      have ob6 : 0 ≤ (((r8).length : Nat) : Int) ∧ (r8).length ≤ IntKind.bits .u32 ∧ 0 ≤ ((1 : Int) * 2 ^ ((r8).length)) ∧ ((1 : Int) * 2 ^ ((r8).length)) ≤ 4294967295 := ⟨by omega, ob6p.1, ob6p.2.1, ob6p.2.2⟩
      refine q2rr [57] [] ⟨70, [(2, .own 70001), (7, .own 26001), (8, .int .u32 i9), (31, .bool (decide (i9 < ((1 : Int) * 2 ^ ((r8).length))))), (1000000, .elem 32 1 T0F 0 0)], (f73z0 l12 i13 i11 l14 w10 r8 C70001 n15), [70001, 1, 2, 3, 5, 6001], 20000⟩ (an1 ob6) ?_
      refine thenQ_normal ?_
      refine AWp.cond (b := (decide (i9 < ((1 : Int) * 2 ^ ((r8).length))))) (by kernel_rfl) (fun hc2 => ?_) (fun hc2 => ?_)
      ·
        replace h := ite_tb hc2 h
        refine AWp.skip ?_
        refine thenQ_normal ?_
        refine AWp.block ?_
        refine q2rq [57] [] ⟨70, [(2, .own 70001), (7, .own 26001), (8, .int .u32 i9), (9, .b16 (q2w16 0)), (1000000, .elem 32 1 T0F 0 0)], (f73z0 l12 i13 i11 l14 w10 r8 C70001 n15), [70001, 1, 2, 3, 5, 6001], 20000⟩ trivial ?_
        obtain ⟨K2, hK2, h⟩ := jn_some h
        refine AWp.join (α := BitVec 16) (fun (w19 : BitVec 16) => ⟨70, [(2, .own 70001), (7, .own 26001), (8, .int .u32 i9), (9, .b16 w19), (1000000, .elem 32 1 T0F 0 0)], (f73z0 l12 i13 i11 l14 w10 r8 C70001 n15), [70001, 1, 2, 3, 5, 6001], 20000⟩) (fun x => K2 x = some r) ?_ ?_
        ·
          refine q2rq [57] [] ⟨70, [(2, .own 70001), (7, .own 26001), (8, .int .u32 i9), (9, .b16 (q2w16 0)), (32, .own 26001), (33, .i (lZ r8)), (34, .i (0 : Int)), (1000000, .elem 32 1 T0F 0 0)], (f73z0 l12 i13 i11 l14 w10 r8 C70001 n15), [70001, 1, 2, 3, 5, 6001], 20000⟩ trivial ?_
          refine AWp.block ?_
          refine AWp.loopL (α := Nat × (BitVec 16 × Nat)) (fun x => match x with | (_, w16, n17) => ⟨70, [(2, .own 70001), (7, .own 26001), (8, .int .u32 i9), (9, .b16 w16), (32, .own 26001), (33, .i (lZ r8)), (34, .i (n17 : Int)), (1000000, .elem 32 1 T0F 0 0)], (f73z0 l12 i13 i11 l14 w10 r8 C70001 n15), [70001, 1, 2, 3, 5, 6001], 20000⟩) (fun x => f73_L1 r8 i9 K2 x.1 x.2 = some r) (fun x => x.1) (FUEL, (q2w16 0), 0) (Le.mk (s' := ⟨70, [(2, .own 70001), (7, .own 26001), (8, .int .u32 i9), (9, .b16 (q2w16 0)), (32, .own 26001), (33, .i (lZ r8)), (34, .i (0 : Int)), (1000000, .elem 32 1 T0F 0 0)], (f73z0 l12 i13 i11 l14 w10 r8 C70001 n15), [70001, 1, 2, 3, 5, 6001], 20000⟩) rfl rfl ⟨.refl _, .refl _, .refl _, .refl _, .refl _, .refl _, .refl _, .refl _, trivial⟩ ⟨⟨_, rfl, .refl _⟩, ⟨_, rfl, .refl _⟩, ⟨_, rfl, .refl _⟩, ⟨_, rfl, .refl _⟩, ⟨_, rfl, .refl _⟩, ⟨_, rfl, .refl _⟩, ⟨_, rfl, .refl _⟩, ⟨_, rfl, .refl _⟩, trivial⟩) h ?_
          rintro ⟨k1, w16, n17⟩ h
          cases k1 with
          | zero => exact nomatch (show (none : Option (Bool × Nat × (List (Int × Int × Int × List Int × List Int)) × Int × Int × List (BitVec 16) × BitVec 16)) = some r from h)
          | succ k1 =>
          obtain ⟨C1, hC1⟩ : ∃ C, C = f73_L1 r8 i9 K2 k1 := ⟨_, rfl⟩
          replace h := (f73_L1.eq_2 ..).symm.trans h
          try rw [← hC1] at h
          refine q2rq [57] [] ⟨70, [(2, .own 70001), (7, .own 26001), (8, .int .u32 i9), (9, .b16 w16), (32, .own 26001), (33, .i (lZ r8)), (34, .i (n17 : Int)), (35, .bool (decide ((n17 : Int) < (lZ r8)))), (1000000, .elem 32 1 T0F 0 0)], (f73z0 l12 i13 i11 l14 w10 r8 C70001 n15), [70001, 1, 2, 3, 5, 6001], 20000⟩ trivial ?_
          refine AWp.seq ?_
          refine AWp.cond (b := (decide ((n17 : Int) < (lZ r8)))) (by kernel_rfl) (fun hc3 => ?_) (fun hc3 => ?_)
          ·
            replace h := ite_tb hc3 h
            refine AWp.skip ?_
            refine thenQ_normal ?_
            obtain ⟨K3, hK3, h⟩ := jn_some h
            refine AWp.join (α := BitVec 16) (fun (w18 : BitVec 16) => ⟨70, [(2, .own 70001), (7, .own 26001), (8, .int .u32 i9), (9, .b16 w18), (32, .own 26001), (33, .i (lZ r8)), (34, .i (n17 : Int)), (1000000, .elem 32 1 T0F 0 0)], (f73z0 l12 i13 i11 l14 w10 r8 C70001 n15), [70001, 1, 2, 3, 5, 6001], 20000⟩) (fun x => K3 x = some r) ?_ ?_
            ·
              refine AWp.block ?_
              refine AWp.seq ?_
              obtain ⟨ob7p, h⟩ := chk_some h
              have ob7 : 0 ≤ (n17 : Int) ∧ (n17 : Int) < (((r8).length : Nat) : Int) := ⟨by omega, ob7p⟩
              obtain ⟨ob8, h⟩ := chk_some h
              refine q2rr [57] [] ⟨70, [(2, .own 70001), (7, .own 26001), (8, .int .u32 i9), (9, .b16 w16), (10, .i (n17 : Int)), (11, .i (r8.getD n17 0)), (32, .own 26001), (33, .i (lZ r8)), (34, .i (n17 : Int)), (1000000, .elem 32 1 T0F 0 0)], (f73z0 l12 i13 i11 l14 w10 r8 C70001 n15), [70001, 1, 2, 3, 5, 6001], 20000⟩ (an2 ob7 ob8) ?_
              refine thenQ_normal ?_
              refine AWp.seq ?_
              obtain ⟨ob9p, h⟩ := chk_some h
              have ob9 : 0 ≤ (n17 : Int) ∧ n17 ≤ IntKind.bits .u32 := ⟨by omega, ob9p⟩
              refine q2rr [57] [] ⟨70, [(2, .own 70001), (7, .own 26001), (8, .int .u32 i9), (9, .b16 w16), (11, .i (r8.getD n17 0)), (32, .own 26001), (33, .i (lZ r8)), (34, .i (n17 : Int)), (43, .bool ((bitsI .and .u32 (i9 / 2 ^ n17) (1 : Int)) == (1 : Int))), (1000000, .elem 32 1 T0F 0 0)], (f73z0 l12 i13 i11 l14 w10 r8 C70001 n15), [70001, 1, 2, 3, 5, 6001], 20000⟩ (an1 ob9) ?_
              refine thenQ_normal ?_
              refine AWp.cond (b := ((bitsI .and .u32 (i9 / 2 ^ n17) (1 : Int)) == (1 : Int))) (by kernel_rfl) (fun hc4 => ?_) (fun hc4 => ?_)
              ·
                replace h := ite_tb hc4 h
                obtain ⟨ob10, h⟩ := chk_some h
                refine q2rr [57] [] ⟨70, [(2, .own 70001), (7, .own 26001), (8, .int .u32 i9), (9, .b16 (w16 ||| ((q2w16 1) <<< (((r8.getD n17 0)).toNat)))), (32, .own 26001), (33, .i (lZ r8)), (34, .i (n17 : Int)), (1000000, .elem 32 1 T0F 0 0)], (f73z0 l12 i13 i11 l14 w10 r8 C70001 n15), [70001, 1, 2, 3, 5, 6001], 20000⟩ (an1 ob10) ?_
                refine blockQ_normal ?_
                exact joinQ_normal ((w16 ||| ((q2w16 1) <<< (((r8.getD n17 0)).toNat)))) (Le.mk rfl rfl ⟨.refl _, .refl _, .refl _, .refl _, .refl _, .refl _, .refl _, .refl _, trivial⟩ ⟨⟨_, rfl, .refl _⟩, ⟨_, rfl, .refl _⟩, ⟨_, rfl, .refl _⟩, ⟨_, rfl, .refl _⟩, ⟨_, rfl, .refl _⟩, ⟨_, rfl, .refl _⟩, ⟨_, rfl, .refl _⟩, ⟨_, rfl, .refl _⟩, trivial⟩) h
              ·
                replace h := ite_fb hc4 h
                refine AWp.skip ?_
                refine blockQ_normal ?_
                exact joinQ_normal (w16) (Le.mk rfl rfl ⟨.refl _, .refl _, .refl _, .refl _, .refl _, .refl _, .refl _, .refl _, trivial⟩ ⟨⟨_, rfl, .refl _⟩, ⟨_, rfl, .refl _⟩, ⟨_, rfl, .refl _⟩, ⟨_, rfl, .refl _⟩, ⟨_, rfl, .refl _⟩, ⟨_, rfl, .refl _⟩, ⟨_, rfl, .refl _⟩, ⟨_, rfl, .refl _⟩, trivial⟩) h
            ·
              rintro w18 h
              replace h := (congrFun hK3 _).symm.trans h
              obtain ⟨ob11p, h⟩ := chk_some h
              have ob11 : -9223372036854775808 ≤ ((n17 : Int) + (1 : Int)) ∧ ((n17 : Int) + (1 : Int)) ≤ 9223372036854775807 := ⟨by omega, ob11p⟩
              refine q2rr [57] [] ⟨70, [(2, .own 70001), (7, .own 26001), (8, .int .u32 i9), (9, .b16 w18), (32, .own 26001), (33, .i (lZ r8)), (34, .i (((n17 + 1) : Nat) : Int)), (1000000, .elem 32 1 T0F 0 0)], (f73z0 l12 i13 i11 l14 w10 r8 C70001 n15), [70001, 1, 2, 3, 5, 6001], 20000⟩ (an1 ob11) ?_
              rw [hC1] at h
              exact loopQ_normal (_, w18, (n17 + 1)) (Le.mk rfl rfl ⟨.refl _, .refl _, .refl _, .refl _, .refl _, .refl _, .refl _, .refl _, trivial⟩ ⟨⟨_, rfl, .refl _⟩, ⟨_, rfl, .refl _⟩, ⟨_, rfl, .refl _⟩, ⟨_, rfl, .refl _⟩, ⟨_, rfl, .refl _⟩, ⟨_, rfl, .refl _⟩, ⟨_, rfl, .refl _⟩, ⟨_, rfl, .refl _⟩, trivial⟩) h (Nat.lt_succ_self _)
          ·
            replace h := ite_fb hc3 h
            refine AWp.exit ?_
            refine thenQ_exit ?_
            refine thenQ_exit ?_
            refine blockQ_same ?_
            exact joinQ_normal (w16) (Le.mk rfl rfl ⟨.refl _, .refl _, .refl _, .refl _, .refl _, trivial⟩ ⟨⟨_, rfl, .refl _⟩, ⟨_, rfl, .refl _⟩, ⟨_, rfl, .refl _⟩, ⟨_, rfl, .refl _⟩, ⟨_, rfl, .refl _⟩, ⟨_, rfl, .refl _⟩, ⟨_, rfl, .refl _⟩, ⟨_, rfl, .refl _⟩, trivial⟩) h
        ·
          rintro w19 h
          replace h := (congrFun hK2 _).symm.trans h
          obtain ⟨K4, hK4, h⟩ := jn_some h
          refine AWp.join (α := BitVec 16 × Int × (f73z7) × Int × List (BitVec 16) × Nat) (fun (x : BitVec 16 × Int × (f73z7) × Int × List (BitVec 16) × Nat) => match x with | (w21, i22, l23, i24, l25, n26) => ⟨70, [(2, .own 70001), (7, .own 26001), (8, .int .u32 i9), (1000000, .elem 32 1 T0F 0 0)], (f73z1 l23 i24 i22 l25 w21 r8 C70001 n26), [70001, 1, 2, 3, 5, 6001], 20000⟩) (fun x => K4 x = some r) ?_ ?_
          ·
            refine AWp.seq ?_
            obtain ⟨hz5, h⟩ := chk_some h
            refine AWp.le (Le.mk (s' := ⟨70, [(2, .own 70001), (7, .own 26001), (8, .int .u32 i9), (9, .b16 w19), (1000000, .elem 32 1 T0F 0 0)], [(1, .cells 28 (f73z9 l12 i13)), (2, .cells 30 [.nils]), (3, .cells 31 [.i i11]), (5, .cells 30 [.own 6000]), (6000, q2bW_49 l14), (6001, .cells 49 [.b16 w10]), (26001, q2bI_3 r8), (70001, .yld (some ([1, 2, 3, 5], C70001)) 0)], [70001, 1, 2, 3, 5, 6001], 20000⟩) rfl rfl ⟨.refl _, .refl _, .refl _, .refl _, .refl _, trivial⟩ ⟨⟨_, rfl, .refl _⟩, ⟨_, rfl, .refl _⟩, ⟨_, rfl, .refl _⟩, ⟨_, rfl, .refl _⟩, ⟨_, rfl, .refl _⟩, ⟨_, rfl, .refl _⟩, ⟨_, rfl, .refl _⟩, ⟨_, rfl, BLe.yldEq hz5⟩, trivial⟩) ?_
            obtain ⟨r20, hr20, h⟩ := bind_ok h
            by_cases hy_r20 : r20.1 = 0
            ·
              replace h := ite_t hy_r20 h
              refine q2rr [57] [(2, ⟨[.b16 w19], [70001, 1, 2, 3, 5, 6000, 6001], [1, 2, 3, 5, 6001], (f73z6 C70001 r20), .bool true, [6000], [], []⟩)] ⟨70, [(2, .own 70001), (7, .own 26001), (8, .int .u32 i9), (52, .bool (!true)), (1000000, .elem 32 1 T0F 0 0)], [(1, .cells 28 (f73z2 r20)), (2, .cells 30 [.nils]), (3, .cells 31 [.i r20.2.2.2.1]), (5, .cells 30 [.own 6000]), (6000, q2bW_49 r20.2.2.2.2.1), (6001, .cells 49 [.b16 r20.2.2.2.2.2]), (26001, q2bI_3 r8), (70001, .yld (some ([1, 2, 3, 5], C70001)) 0)], [70001, 1, 2, 3, 5, 6001], 20000⟩ (an1 (show (((f73z6 C70001 r20) : Heap) = (70001, .yld (some ([1, 2, 3, 5], C70001)) 0) :: (f73z4 r20) ∧ V.bool true = V.bool (0 == 0) ∧ YSpec Tryd.prog 70001 [1, 2, 3, 5] C70001 [1, 2, 3, 5, 6001] [(1, .cells 28 (f73z9 l12 i13)), (2, .cells 30 [.nils]), (3, .cells 31 [.i i11]), (5, .cells 30 [.own 6000]), (6000, q2bW_49 l14), (6001, .cells 49 [.b16 w10])] [.b16 w19] 0 (f73z4 r20) ∧ VLes [.b16 w19] [.b16 w19]) from ⟨rfl, rfl, (YSpec.zero (hY70001 _ _ r20 hr20) hy_r20), ⟨.refl _, trivial⟩⟩)) ?_
              refine thenQ_normal ?_
              refine AWp.cond (b := (!true)) (by kernel_rfl) (fun hc7 => ?_) (fun hc7 => ?_)
              ·
                replace h := ite_tb hc7 h
                refine q2rq [57] [] ⟨70, [(6, .bool false), (1000000, .elem 32 1 T0F 0 0)], [(1, .cells 28 (f73z2 r20)), (2, .cells 30 [.nils]), (3, .cells 31 [.i r20.2.2.2.1]), (5, .cells 30 [.own 6000]), (6000, q2bW_49 r20.2.2.2.2.1), (6001, .cells 49 [.b16 r20.2.2.2.2.2]), (70001, .yld (some ([1, 2, 3, 5], C70001)) 0)], [70001, 1, 2, 3, 5, 6001], 20000⟩ trivial ?_
                have hret := Option.some.inj h
                subst hret
                refine AWp.le (Le.mk (s' := ⟨70, [(6, .bool false)], (f73z6 C70001 r20), [70001, 1, 2, 3, 5, 6001], 20000⟩) rfl rfl ⟨.refl _, trivial⟩ ⟨⟨_, rfl, .refl _⟩, ⟨_, rfl, .refl _⟩, ⟨_, rfl, .refl _⟩, ⟨_, rfl, .refl _⟩, ⟨_, rfl, .refl _⟩, ⟨_, rfl, .refl _⟩, ⟨_, rfl, .refl _⟩, trivial⟩) ?_
                refine AWp.ret ?_
                refine joinQ_ret ?_
                refine blockQ_ret ?_
                refine thenQ_ret ?_
                refine blockQ_ret ?_
                refine joinQ_ret ?_
                exact bodyQ_ret _ rfl ⟨rfl, rfl⟩ rfl
              ·
                replace h := ite_fb hc7 h
                refine AWp.skip ?_
                exact joinQ_normal (r20.2.2.2.2.2, r20.2.2.2.1, r20.2.1, r20.2.2.1, r20.2.2.2.2.1, 0) (Le.mk rfl rfl ⟨.refl _, .refl _, .refl _, .refl _, trivial⟩ ⟨⟨_, rfl, .refl _⟩, ⟨_, rfl, .refl _⟩, ⟨_, rfl, .refl _⟩, ⟨_, rfl, .refl _⟩, ⟨_, rfl, .refl _⟩, ⟨_, rfl, .refl _⟩, ⟨_, rfl, .refl _⟩, ⟨_, rfl, .refl _⟩, trivial⟩) h
            ·
              replace h := ite_f hy_r20 h
              refine q2rr [57] [(2, ⟨[.b16 w19], [70001, 1, 2, 3, 5, 6000, 6001], [1, 2, 3, 5, 6001], (f73z5 C70001 r20), .bool false, [6000], [], []⟩)] ⟨70, [(2, .own 70001), (7, .own 26001), (8, .int .u32 i9), (52, .bool (!false)), (1000000, .elem 32 1 T0F 0 0)], [(1, .cells 28 (f73z2 r20)), (2, .cells 30 [.nils]), (3, .cells 31 [.i r20.2.2.2.1]), (5, .cells 30 [.own 6000]), (6000, q2bW_49 r20.2.2.2.2.1), (6001, .cells 49 [.b16 r20.2.2.2.2.2]), (26001, q2bI_3 r8), (70001, .yld (some ([1, 2, 3, 5], C70001)) r20.1)], [70001, 1, 2, 3, 5, 6001], 20000⟩ (an1 (show (((f73z5 C70001 r20) : Heap) = (70001, .yld (some ([1, 2, 3, 5], C70001)) r20.1) :: (f73z4 r20) ∧ V.bool false = V.bool (r20.1 == 0) ∧ YSpec Tryd.prog 70001 [1, 2, 3, 5] C70001 [1, 2, 3, 5, 6001] [(1, .cells 28 (f73z9 l12 i13)), (2, .cells 30 [.nils]), (3, .cells 31 [.i i11]), (5, .cells 30 [.own 6000]), (6000, q2bW_49 l14), (6001, .cells 49 [.b16 w10])] [.b16 w19] r20.1 (f73z4 r20) ∧ VLes [.b16 w19] [.b16 w19]) from ⟨rfl, bool_ne hy_r20, (hY70001 _ _ r20 hr20), ⟨.refl _, trivial⟩⟩)) ?_
              refine thenQ_normal ?_
              refine AWp.cond (b := (!false)) (by kernel_rfl) (fun hc8 => ?_) (fun hc8 => ?_)
              ·
                replace h := ite_tb hc8 h
                refine q2rq [57] [] ⟨70, [(6, .bool false), (1000000, .elem 32 1 T0F 0 0)], [(1, .cells 28 (f73z2 r20)), (2, .cells 30 [.nils]), (3, .cells 31 [.i r20.2.2.2.1]), (5, .cells 30 [.own 6000]), (6000, q2bW_49 r20.2.2.2.2.1), (6001, .cells 49 [.b16 r20.2.2.2.2.2]), (70001, .yld (some ([1, 2, 3, 5], C70001)) r20.1)], [70001, 1, 2, 3, 5, 6001], 20000⟩ trivial ?_
                have hret := Option.some.inj h
                subst hret
                refine AWp.le (Le.mk (s' := ⟨70, [(6, .bool false)], (f73z5 C70001 r20), [70001, 1, 2, 3, 5, 6001], 20000⟩) rfl rfl ⟨.refl _, trivial⟩ ⟨⟨_, rfl, .refl _⟩, ⟨_, rfl, .refl _⟩, ⟨_, rfl, .refl _⟩, ⟨_, rfl, .refl _⟩, ⟨_, rfl, .refl _⟩, ⟨_, rfl, .refl _⟩, ⟨_, rfl, .refl _⟩, trivial⟩) ?_
                refine AWp.ret ?_
                refine joinQ_ret ?_
                refine blockQ_ret ?_
                refine thenQ_ret ?_
                refine blockQ_ret ?_
                refine joinQ_ret ?_
                exact bodyQ_ret _ rfl ⟨rfl, rfl⟩ rfl
              ·
                replace h := ite_fb hc8 h
                refine AWp.skip ?_
                exact joinQ_normal (r20.2.2.2.2.2, r20.2.2.2.1, r20.2.1, r20.2.2.1, r20.2.2.2.2.1, r20.1) (Le.mk rfl rfl ⟨.refl _, .refl _, .refl _, .refl _, trivial⟩ ⟨⟨_, rfl, .refl _⟩, ⟨_, rfl, .refl _⟩, ⟨_, rfl, .refl _⟩, ⟨_, rfl, .refl _⟩, ⟨_, rfl, .refl _⟩, ⟨_, rfl, .refl _⟩, ⟨_, rfl, .refl _⟩, ⟨_, rfl, .refl _⟩, trivial⟩) h
          ·
            rintro ⟨w21, i22, l23, i24, l25, n26⟩ h
            replace h := (congrFun hK4 _).symm.trans h
            refine AWp.seq ?_
            refine q2rq [57] [] ⟨70, [(2, .own 70001), (7, .own 26001), (8, .int .u32 i9), (54, .bool (i9 == (0 : Int))), (1000000, .elem 32 1 T0F 0 0)], (f73z1 l23 i24 i22 l25 w21 r8 C70001 n26), [70001, 1, 2, 3, 5, 6001], 20000⟩ trivial ?_
            refine AWp.cond (b := (i9 == (0 : Int))) (by kernel_rfl) (fun hc9 => ?_) (fun hc9 => ?_)
            ·
              replace h := ite_tb hc9 h
              refine AWp.exit ?_
              refine thenQ_exit ?_
              refine blockQ_other (by decide) ?_
              refine thenQ_exit ?_
              refine blockQ_same ?_
              exact joinQ_normal (w21, i22, l23, i24, l25, n26) (Le.mk rfl rfl ⟨.refl _, trivial⟩ ⟨⟨_, rfl, .refl _⟩, ⟨_, rfl, .refl _⟩, ⟨_, rfl, .refl _⟩, ⟨_, rfl, .refl _⟩, ⟨_, rfl, .refl _⟩, ⟨_, rfl, .refl _⟩, ⟨_, rfl, .refl _⟩, trivial⟩) h
            ·
              replace h := ite_fb hc9 h
              refine AWp.skip ?_
              refine thenQ_normal ?_
              refine q2rq [57] [] ⟨70, [(2, .own 70001), (7, .own 26001), (8, .int .u32 i9), (12, .int .u32 (bitsI .and .u32 i9 (IntKind.wrap .u32 (0 - i9)))), (1000000, .elem 32 1 T0F 0 0)], (f73z1 l23 i24 i22 l25 w21 r8 C70001 n26), [70001, 1, 2, 3, 5, 6001], 20000⟩ (an1 trivial) ?_
              refine AWp.seq ?_
              obtain ⟨ob12, h⟩ := chk_some h
              refine q2rr [57] [] ⟨70, [(2, .own 70001), (7, .own 26001), (8, .int .u32 i9), (12, .int .u32 (bitsI .and .u32 i9 (IntKind.wrap .u32 (0 - i9)))), (13, .int .u32 (i9 + (bitsI .and .u32 i9 (IntKind.wrap .u32 (0 - i9))))), (1000000, .elem 32 1 T0F 0 0)], (f73z1 l23 i24 i22 l25 w21 r8 C70001 n26), [70001, 1, 2, 3, 5, 6001], 20000⟩ (an1 ob12) ?_
              refine thenQ_normal ?_
              obtain ⟨ob13, ob14p, h⟩ := ck2 h
              have ob14 : 0 ≤ (2 : Int) ∧ 2 ≤ IntKind.bits .u32 := ⟨by omega, ob14p⟩
              refine q2rr [57] [] ⟨70, [(2, .own 70001), (7, .own 26001), (8, .int .u32 (bitsI .or .u32 (i9 + (bitsI .and .u32 i9 (IntKind.wrap .u32 (0 - i9)))) (((bitsI .xor .u32 i9 (i9 + (bitsI .and .u32 i9 (IntKind.wrap .u32 (0 - i9))))) / (bitsI .and .u32 i9 (IntKind.wrap .u32 (0 - i9)))) / 2 ^ 2))), (1000000, .elem 32 1 T0F 0 0)], (f73z1 l23 i24 i22 l25 w21 r8 C70001 n26), [70001, 1, 2, 3, 5, 6001], 20000⟩ (an2 ob13 ob14) ?_
              refine blockQ_normal ?_
              rw [hC0] at h
              exact loopQ_normal (_, (bitsI .or .u32 (i9 + (bitsI .and .u32 i9 (IntKind.wrap .u32 (0 - i9)))) (((bitsI .xor .u32 i9 (i9 + (bitsI .and .u32 i9 (IntKind.wrap .u32 (0 - i9))))) / (bitsI .and .u32 i9 (IntKind.wrap .u32 (0 - i9)))) / 2 ^ 2)), w21, i22, l23, i24, l25, n26) (Le.mk rfl rfl ⟨.refl _, .refl _, .refl _, .refl _, trivial⟩ ⟨⟨_, rfl, .refl _⟩, ⟨_, rfl, .refl _⟩, ⟨_, rfl, .refl _⟩, ⟨_, rfl, .refl _⟩, ⟨_, rfl, .refl _⟩, ⟨_, rfl, .refl _⟩, ⟨_, rfl, .refl _⟩, ⟨_, rfl, .refl _⟩, trivial⟩) h (Nat.lt_succ_self _)
      ·
        replace h := ite_fb hc2 h
        refine AWp.exit ?_
        refine thenQ_exit ?_
        refine thenQ_exit ?_
        refine blockQ_same ?_
        exact joinQ_normal (w10, i11, l12, i13, l14, n15) (Le.mk rfl rfl ⟨.refl _, trivial⟩ ⟨⟨_, rfl, .refl _⟩, ⟨_, rfl, .refl _⟩, ⟨_, rfl, .refl _⟩, ⟨_, rfl, .refl _⟩, ⟨_, rfl, .refl _⟩, ⟨_, rfl, .refl _⟩, ⟨_, rfl, .refl _⟩, trivial⟩) h
    ·
      rintro ⟨w20, i21, l22, i23, l24, n25⟩ h
      replace h := (congrFun hK1 _).symm.trans h
      refine q2rq [57] [] ⟨70, [(6, .bool true), (1000000, .elem 32 1 T0F 0 0)], [(1, .cells 28 [q2aT67 l22, .i i23]), (2, .cells 30 [.nils]), (3, .cells 31 [.i i21]), (5, .cells 30 [.own 6000]), (6000, q2bW_49 l24), (6001, .cells 49 [.b16 w20]), (70001, .yld (some ([1, 2, 3, 5], C70001)) n25)], [70001, 1, 2, 3, 5, 6001], 20000⟩ trivial ?_
      have hret := Option.some.inj h
      subst hret
      refine AWp.le (Le.mk (s' := ⟨70, [(6, .bool true)], [(70001, .yld (some ([1, 2, 3, 5], C70001)) n25), (1, .cells 28 [q2aT67 l22, .i i23]), (2, .cells 30 [.nils]), (3, .cells 31 [.i i21]), (5, .cells 30 [.own 6000]), (6000, q2bW_49 l24), (6001, .cells 49 [.b16 w20])], [70001, 1, 2, 3, 5, 6001], 20000⟩) rfl rfl ⟨.refl _, trivial⟩ ⟨⟨_, rfl, .refl _⟩, ⟨_, rfl, .refl _⟩, ⟨_, rfl, .refl _⟩, ⟨_, rfl, .refl _⟩, ⟨_, rfl, .refl _⟩, ⟨_, rfl, .refl _⟩, ⟨_, rfl, .refl _⟩, trivial⟩) ?_
      refine AWp.ret ?_
      exact bodyQ_ret _ rfl ⟨rfl, rfl⟩ rfl
def f71_L0 (Y70001 : ((List (Int × Int × Int × List Int × List Int)) × Int × Int × List (BitVec 16) × BitVec 16) → (BitVec 16) → Option (Nat × ((List (Int × Int × Int × List Int × List Int)) × Int × Int × List (BitVec 16) × BitVec 16))) : Nat → (Nat × BitVec 16 × Int × (List (Int × Int × Int × List Int × List Int)) × Int × List (BitVec 16) × Nat) → Option (Nat × (List (Int × Int × Int × List Int × List Int)) × Int × Int × List (BitVec 16) × BitVec 16)
  | 0, _ => none
  | k + 1, (n6, w7, i9, l10, i11, l12, n13) =>
    chk (n13 = 0) <|
    (f72 w7).bind fun (r14 : Int) =>
    if (decide ((n6 : Int) ≤ r14)) = true then (
    (f73 Y70001 w7 (n6 : Int) l10 i11 i9 l12 w7).bind fun (r15 : Bool × Nat × (List (Int × Int × Int × List Int × List Int)) × Int × Int × List (BitVec 16) × BitVec 16) =>
    if r15.1 then (
    chk (((n6 : Int) + (1 : Int)) ≤ 9223372036854775807) <|
    (f71_L0 Y70001 k) ((n6 + 1), r15.2.2.2.2.2.2, r15.2.2.2.2.1, r15.2.2.1, r15.2.2.2.1, r15.2.2.2.2.2.1, r15.2.1)
    ) else (
    some (r15.2.1, r15.2.2.1, r15.2.2.2.1, r15.2.2.2.2.1, r15.2.2.2.2.2.1, r15.2.2.2.2.2.2)
    )
    ) else (
    some (0, l10, i11, i9, l12, w7)
    )
abbrev f71z0 (r15 : Bool × Nat × (List (Int × Int × Int × List Int × List Int)) × Int × Int × List (BitVec 16) × BitVec 16) (C70001 : YC) : Heap := [(1, .cells 28 [vL 5 eT67 (default : Int × Int × Int × List Int × List Int) r15.2.2.1, .int .i64 r15.2.2.2.1]), (2, .cells 30 [.nils]), (3, .cells 31 [.int .i64 r15.2.2.2.2.1]), (5, .cells 30 [.own 6000]), (6000, bL 49 1 eW 0#16 r15.2.2.2.2.2.1), (6001, .cells 49 [.b16 r15.2.2.2.2.2.2]), (70001, .yld (some ([1, 2, 3, 5], C70001)) r15.2.1)]
abbrev f71z1 (l10 : List (Int × Int × Int × List Int × List Int)) (i11 : Int) : List V := [vL 5 eT67 (default : Int × Int × Int × List Int × List Int) l10, .int .i64 i11]
def f71 (Y70001 : ((List (Int × Int × Int × List Int × List Int)) × Int × Int × List (BitVec 16) × BitVec 16) → (BitVec 16) → Option (Nat × ((List (Int × Int × Int × List Int × List Int)) × Int × Int × List (BitVec 16) × BitVec 16))) (x1 : List (Int × Int × Int × List Int × List Int)) (x2 : Int) (x3 : Int) (x4 : List (BitVec 16)) (x5 : BitVec 16) : Option (Nat × (List (Int × Int × Int × List Int × List Int)) × Int × Int × List (BitVec 16) × BitVec 16) :=
  f71_L0 Y70001 FUEL (0, x5, x3, x1, x2, x4, 0)
set_option maxRecDepth 100000 in
theorem f71_ok (C70001 : YC) (Y70001 : ((List (Int × Int × Int × List Int × List Int)) × Int × Int × List (BitVec 16) × BitVec 16) → (BitVec 16) → Option (Nat × ((List (Int × Int × Int × List Int × List Int)) × Int × Int × List (BitVec 16) × BitVec 16))) (x1 : List (Int × Int × Int × List Int × List Int)) (x2 : Int) (x3 : Int) (x4 : List (BitVec 16)) (x5 : BitVec 16) (r : Nat × (List (Int × Int × Int × List Int × List Int)) × Int × Int × List (BitVec 16) × BitVec 16) (h : f71 Y70001 x1 x2 x3 x4 x5 = some r) (hY70001 : ∀ s x r, Y70001 s x = some r → YSpec Tryd.prog 70001 [1, 2, 3, 5] C70001 [1, 2, 3, 5, 6001] [(1, .cells 28 [vL 5 eT67 (default : Int × Int × Int × List Int × List Int) s.1, .int .i64 s.2.1]), (2, .cells 30 [.nils]), (3, .cells 31 [.int .i64 s.2.2.1]), (5, .cells 30 [.own 6000]), (6000, bL 49 1 eW 0#16 s.2.2.2.1), (6001, .cells 49 [.b16 s.2.2.2.2])] [.b16 x] r.1 [(1, .cells 28 [vL 5 eT67 (default : Int × Int × Int × List Int × List Int) r.2.1, .int .i64 r.2.2.1]), (2, .cells 30 [.nils]), (3, .cells 31 [.int .i64 r.2.2.2.1]), (5, .cells 30 [.own 6000]), (6000, bL 49 1 eW 0#16 r.2.2.2.2.1), (6001, .cells 49 [.b16 r.2.2.2.2.2])]) : Spec1 Tryd.prog 71 [(0, .elem 32 1 T0F 0 0)] [70001, 1, 2, 3, 5, 6001] [(70001, .yld (some ([1, 2, 3, 5], C70001)) 0), (1, .cells 28 [vL 5 eT67 (default : Int × Int × Int × List Int × List Int) x1, .int .i64 x2]), (2, .cells 30 [.nils]), (3, .cells 31 [.int .i64 x3]), (5, .cells 30 [.own 6000]), (6000, bL 49 1 eW 0#16 x4), (6001, .cells 49 [.b16 x5])] [.own 70001, .ptr 6001 0] (.tup []) [(70001, .yld (some ([1, 2, 3, 5], C70001)) r.1), (1, .cells 28 [vL 5 eT67 (default : Int × Int × Int × List Int × List Int) r.2.1, .int .i64 r.2.2.1]), (2, .cells 30 [.nils]), (3, .cells 31 [.int .i64 r.2.2.2.1]), (5, .cells 30 [.own 6000]), (6000, bL 49 1 eW 0#16 r.2.2.2.2.1), (6001, .cells 49 [.b16 r.2.2.2.2.2])] := by
  unfold f71 at h
  refine Spec1.body 10000 _ _ Tryd.func71 rfl Tryd.ntmps71 rfl rfl ?_
  refine q2rq [] [] ⟨16, [(0, .own 70001), (1, .ptr 6001 0), (3, .i (0 : Int)), (1000000, .elem 32 1 T0F 0 0)], [(1, .cells 28 [q2aT67 x1, .i x2]), (2, .cells 30 [.nils]), (3, .cells 31 [.i x3]), (5, .cells 30 [.own 6000]), (6000, q2bW_49 x4), (6001, .cells 49 [.b16 x5]), (70001, .yld (some ([1, 2, 3, 5], C70001)) 0)], [70001, 1, 2, 3, 5, 6001], 10000⟩ trivial ?_
  refine AWp.block ?_
  refine AWp.loopL (α := Nat × (Nat × BitVec 16 × Int × (List (Int × Int × Int × List Int × List Int)) × Int × List (BitVec 16) × Nat)) (fun x => match x with | (_, n6, w7, i9, l10, i11, l12, n13) => ⟨16, [(0, .own 70001), (1, .ptr 6001 0), (3, .i (n6 : Int)), (1000000, .elem 32 1 T0F 0 0)], [(1, .cells 28 (f71z1 l10 i11)), (2, .cells 30 [.nils]), (3, .cells 31 [.i i9]), (5, .cells 30 [.own 6000]), (6000, q2bW_49 l12), (6001, .cells 49 [.b16 w7]), (70001, .yld (some ([1, 2, 3, 5], C70001)) n13)], [70001, 1, 2, 3, 5, 6001], 10000⟩) (fun x => f71_L0 Y70001 x.1 x.2 = some r) (fun x => x.1) (FUEL, 0, x5, x3, x1, x2, x4, 0) (Le.mk (s' := ⟨16, [(0, .own 70001), (1, .ptr 6001 0), (3, .i (0 : Int)), (1000000, .elem 32 1 T0F 0 0)], [(1, .cells 28 [q2aT67 x1, .i x2]), (2, .cells 30 [.nils]), (3, .cells 31 [.i x3]), (5, .cells 30 [.own 6000]), (6000, q2bW_49 x4), (6001, .cells 49 [.b16 x5]), (70001, .yld (some ([1, 2, 3, 5], C70001)) 0)], [70001, 1, 2, 3, 5, 6001], 10000⟩) rfl rfl ⟨.refl _, .refl _, .refl _, .refl _, trivial⟩ ⟨⟨_, rfl, .refl _⟩, ⟨_, rfl, .refl _⟩, ⟨_, rfl, .refl _⟩, ⟨_, rfl, .refl _⟩, ⟨_, rfl, .refl _⟩, ⟨_, rfl, .refl _⟩, ⟨_, rfl, .refl _⟩, trivial⟩) h ?_
  rintro ⟨k0, n6, w7, i9, l10, i11, l12, n13⟩ h
  cases k0 with
  | zero => exact nomatch (show (none : Option (Nat × (List (Int × Int × Int × List Int × List Int)) × Int × Int × List (BitVec 16) × BitVec 16)) = some r from h)
  | succ k0 =>
  obtain ⟨C0, hC0⟩ : ∃ C, C = f71_L0 Y70001 k0 := ⟨_, rfl⟩
  replace h := (f71_L0.eq_2 ..).symm.trans h
  try rw [← hC0] at h
  refine AWp.seq ?_
  refine AWp.seq ?_
  obtain ⟨hz1, h⟩ := chk_some h
  refine AWp.le (Le.mk (s' := ⟨16, [(0, .own 70001), (1, .ptr 6001 0), (3, .i (n6 : Int)), (1000000, .elem 32 1 T0F 0 0)], [(1, .cells 28 (f71z1 l10 i11)), (2, .cells 30 [.nils]), (3, .cells 31 [.i i9]), (5, .cells 30 [.own 6000]), (6000, q2bW_49 l12), (6001, .cells 49 [.b16 w7]), (70001, .yld (some ([1, 2, 3, 5], C70001)) 0)], [70001, 1, 2, 3, 5, 6001], 10000⟩) rfl rfl ⟨.refl _, .refl _, .refl _, .refl _, trivial⟩ ⟨⟨_, rfl, .refl _⟩, ⟨_, rfl, .refl _⟩, ⟨_, rfl, .refl _⟩, ⟨_, rfl, .refl _⟩, ⟨_, rfl, .refl _⟩, ⟨_, rfl, .refl _⟩, ⟨_, rfl, BLe.yldEq hz1⟩, trivial⟩) ?_
  obtain ⟨r14, hr14, h⟩ := bind_ok h
  by_cases hg1_4 : (decide ((n6 : Int) ≤ r14)) = true
  ·
    replace h := ite_t hg1_4 h
    obtain ⟨r15, hr15, h⟩ := bind_ok h
    have ob0 := idA (true = true)
    have ob1 := idA (true = true)
    have ob2 := idA (true = true)
    refine q2rr [] [(2, ⟨[.b16 w7], [], [], [], .i r14, [], [], []⟩), (4, ⟨[], [], [], [], (.bool true), [], [0], []⟩), (8, ⟨[.b16 w7, .i (n6 : Int), .own 70001], [70001, 1, 2, 3, 5, 6000, 6001], [70001, 1, 2, 3, 5, 6001], [(70001, .yld (some ([1, 2, 3, 5], C70001)) r15.2.1), (1, .cells 28 [q2aT67 r15.2.2.1, .i r15.2.2.2.1]), (2, .cells 30 [.nils]), (3, .cells 31 [.i r15.2.2.2.2.1]), (5, .cells 30 [.own 6000]), (6000, q2bW_49 r15.2.2.2.2.2.1), (6001, .cells 49 [.b16 r15.2.2.2.2.2.2])], .bool r15.1, [6000], [], [0]⟩)] ⟨16, [(0, .own 70001), (1, .ptr 6001 0), (3, .i (n6 : Int)), (13, .bool r15.1), (1000000, .elem 32 1 T0F 0 0)], (f71z0 r15 C70001), [70001, 1, 2, 3, 5, 6001], 10000⟩ (an4 (cpT (f72_ok _ _ hr14)) (show ((.bool (decide ((n6 : Int) ≤ r14))) : V) = (.bool true) from (congrArg (fun x => ((.bool x) : V)) hg1_4)) (And.intro (cpT (f73_ok C70001 _ _ _ _ _ _ _ _ _ hr15 hY70001)) (an3 ob0 ob1 ob2)) trivial) ?_
    refine thenQ_normal ?_
    refine AWp.cond (b := r15.1) (by kernel_rfl) (fun hc3 => ?_) (fun hc3 => ?_)
    ·
      replace h := ite_tb hc3 h
      refine AWp.skip ?_
      refine thenQ_normal ?_
      refine AWp.seq ?_
      refine AWp.block ?_
      refine AWp.skip ?_
      refine blockQ_normal ?_
      refine thenQ_normal ?_
      obtain ⟨ob4p, h⟩ := chk_some h
      have ob4 : -9223372036854775808 ≤ ((n6 : Int) + (1 : Int)) ∧ ((n6 : Int) + (1 : Int)) ≤ 9223372036854775807 := ⟨by omega, ob4p⟩
      refine q2rr [] [] ⟨16, [(0, .own 70001), (1, .ptr 6001 0), (3, .i (((n6 + 1) : Nat) : Int)), (1000000, .elem 32 1 T0F 0 0)], (f71z0 r15 C70001), [70001, 1, 2, 3, 5, 6001], 10000⟩ (an1 ob4) ?_
      rw [hC0] at h
      exact loopQ_normal (_, (n6 + 1), r15.2.2.2.2.2.2, r15.2.2.2.2.1, r15.2.2.1, r15.2.2.2.1, r15.2.2.2.2.2.1, r15.2.1) (Le.mk rfl rfl ⟨.refl _, .refl _, .refl _, .refl _, trivial⟩ ⟨⟨_, rfl, .refl _⟩, ⟨_, rfl, .refl _⟩, ⟨_, rfl, .refl _⟩, ⟨_, rfl, .refl _⟩, ⟨_, rfl, .refl _⟩, ⟨_, rfl, .refl _⟩, ⟨_, rfl, .refl _⟩, trivial⟩) h (Nat.lt_succ_self _)
    ·
      replace h := ite_fb hc3 h
      refine AWp.exit ?_
      refine thenQ_exit ?_
      refine thenQ_exit ?_
      refine blockQ_same ?_
      have hret := Option.some.inj h
      subst hret
      exact bodyQ_le (Le.mk (s' := ⟨16, [], [(70001, .yld (some ([1, 2, 3, 5], C70001)) r15.2.1), (1, .cells 28 [q2aT67 r15.2.2.1, .i r15.2.2.2.1]), (2, .cells 30 [.nils]), (3, .cells 31 [.i r15.2.2.2.2.1]), (5, .cells 30 [.own 6000]), (6000, q2bW_49 r15.2.2.2.2.2.1), (6001, .cells 49 [.b16 r15.2.2.2.2.2.2])], [70001, 1, 2, 3, 5, 6001], 10000⟩) rfl rfl trivial ⟨⟨_, rfl, .refl _⟩, ⟨_, rfl, .refl _⟩, ⟨_, rfl, .refl _⟩, ⟨_, rfl, .refl _⟩, ⟨_, rfl, .refl _⟩, ⟨_, rfl, .refl _⟩, ⟨_, rfl, .refl _⟩, trivial⟩) (bodyQ_normal _ rfl ⟨rfl, rfl⟩ rfl)
  ·
    replace h := ite_f hg1_4 h
    have ob0 := idA (false = true)
    have ob1 := idA (false = true)
    have ob2 := idA (false = true)
    have ob3 : true = true → false = true → false = true := fun _ h => h
    refine q2rr [] [(2, ⟨[.b16 w7], [], [], [], .i r14, [], [], []⟩), (4, ⟨[], [], [], [], (.bool false), [], [0], []⟩), (8, ⟨[], [], [], [], .bool false, [], [], []⟩)] ⟨16, [(0, .own 70001), (1, .ptr 6001 0), (3, .i (n6 : Int)), (13, .bool false), (1000000, .elem 32 1 T0F 0 0)], [(1, .cells 28 (f71z1 l10 i11)), (2, .cells 30 [.nils]), (3, .cells 31 [.i i9]), (5, .cells 30 [.own 6000]), (6000, q2bW_49 l12), (6001, .cells 49 [.b16 w7]), (70001, .yld (some ([1, 2, 3, 5], C70001)) 0)], [70001, 1, 2, 3, 5, 6001], 10000⟩ (an4 (cpT (f72_ok _ _ hr14)) (show ((.bool (decide ((n6 : Int) ≤ r14))) : V) = (.bool false) from (congrArg (fun x => ((.bool x) : V)) (Bool.eq_false_iff.2 hg1_4))) (And.intro (show (callP Tryd.prog false 73 [] [] [] [] [] [.b16 w7, .i (n6 : Int), .own 70001] [] (.bool false) []) from ⟨nofun, nofun, .inl rfl⟩) (an3 ob0 ob1 ob2)) ob3) ?_
    refine thenQ_normal ?_
    refine AWp.cond (b := false) (by kernel_rfl) (fun hc => ?_) (fun hc => ?_)
    ·
      cases hc
    ·
      clear hc
      refine AWp.exit ?_
      refine thenQ_exit ?_
      refine thenQ_exit ?_
      refine blockQ_same ?_
      have hret := Option.some.inj h
      subst hret
      exact bodyQ_le (Le.mk (s' := ⟨16, [], [(70001, .yld (some ([1, 2, 3, 5], C70001)) 0), (1, .cells 28 (f71z1 l10 i11)), (2, .cells 30 [.nils]), (3, .cells 31 [.i i9]), (5, .cells 30 [.own 6000]), (6000, q2bW_49 l12), (6001, .cells 49 [.b16 w7])], [70001, 1, 2, 3, 5, 6001], 10000⟩) rfl rfl trivial ⟨⟨_, rfl, .refl _⟩, ⟨_, rfl, .refl _⟩, ⟨_, rfl, .refl _⟩, ⟨_, rfl, .refl _⟩, ⟨_, rfl, .refl _⟩, ⟨_, rfl, .refl _⟩, ⟨_, rfl, .refl _⟩, trivial⟩) (bodyQ_normal _ rfl ⟨rfl, rfl⟩ rfl)
def f8_Y70001 : ((List (Int × Int × Int × List Int × List Int)) × Int × Int × List (BitVec 16) × BitVec 16) → (BitVec 16) → Option (Nat × ((List (Int × Int × Int × List Int × List Int)) × Int × Int × List (BitVec 16) × BitVec 16))
  | (l8, i9, i7, l10, w6), x11 =>
    (f30 l8 i9 x11).bind fun (r12 : Bool) =>
    optc ((!r12) == false) (f31 l10 x11) fun (r13 : Bool) =>
    if ((!r12) || r13) then (
    some (0, (l8, i9, i7, l10, w6))
    ) else (
    if ((((l10).length : Nat) : Int) == (400 : Int)) then (
    some (2, (l8, i9, (3 : Int), l10, w6))
    ) else (
    chk (((l10).length + 1) * 2 ≤ 140737488355328) <|
    some (0, (l8, i9, i7, (l10 ++ [x11]), w6))
    )
    )
abbrev f8z0 (l8 : List (Int × Int × Int × List Int × List Int)) (i9 : Int) (i7 : Int) (l10 : List (BitVec 16)) (w6 : BitVec 16) : Heap := [(1, .cells 28 [vL 5 eT67 (default : Int × Int × Int × List Int × List Int) l8, .int .i64 i9]), (2, .cells 30 [.nils]), (3, .cells 31 [.int .i64 i7]), (5, .cells 30 [.own 6000]), (6000, bL 49 1 eW 0#16 l10), (6001, .cells 49 [.b16 w6])]
abbrev f8z1 (x1 : List (Int × Int × Int × List Int × List Int)) (x2 : Int) : List V := [vL 5 eT67 (default : Int × Int × Int × List Int × List Int) x1, .int .i64 x2]
abbrev f8z2 (l8 : List (Int × Int × Int × List Int × List Int)) (i9 : Int) : List V := [vL 5 eT67 (default : Int × Int × Int × List Int × List Int) l8, .int .i64 i9]
abbrev f8z3 : List V := [.int .i64 (0 : Int)]
def f8 (x1 : List (Int × Int × Int × List Int × List Int)) (x2 : Int) : Option (List (BitVec 16) × Int) :=
  (f27 x1 x2).bind fun (r3 : Int) =>
  if (r3 != (0 : Int)) then (
  some ([], r3)
  ) else (
  (f29 x1 x2).bind fun (r4 : BitVec 16) =>
  (f28 r4).bind fun (r5 : BitVec 16) =>
  (f71 f8_Y70001 x1 x2 (0 : Int) [] r5).bind fun (r14 : Nat × (List (Int × Int × Int × List Int × List Int)) × Int × Int × List (BitVec 16) × BitVec 16) =>
  chk (r14.1 ≠ 1) <|
  if r14.1 = 0 then (
  some (r14.2.2.2.2.1, (0 : Int))
  ) else (
  if r14.1 = 2 then (
  some ([], r14.2.2.2.1)
  ) else (
  none
  )
  )
  )
set_option maxRecDepth 100000 in
theorem f8_ok  (x1 : List (Int × Int × Int × List Int × List Int)) (x2 : Int) (r : List (BitVec 16) × Int) (h : f8 x1 x2 = some r)  : Spec1 Tryd.prog 8 [(0, .elem 32 1 T0F 0 0)] [] [] [.agg [vL 5 eT67 (default : Int × Int × Int × List Int × List Int) x1, .int .i64 x2]] (.tup [vL 1 eW 0#16 r.1, .int .i64 r.2]) [] := by
  unfold f8 at h
  refine Spec1.bodyD [2, 3] 0 _ _ Tryd.func8 rfl Tryd.ntmps8 rfl rfl ?_
  refine q2rq [] [] ⟨33, [(1, .ptr 1 0), (2, .ptr 2 0), (3, .ptr 3 0), (1000000, .elem 32 1 T0F 0 0)], [(1, .cells 28 (f8z1 x1 x2)), (2, .cells 30 [.nils]), (3, .cells 31 (f8z3))], [], 0⟩ trivial ?_
  refine AWp.seq ?_
  refine AWp.seq ?_
  obtain ⟨r3, hr3, h⟩ := bind_ok h
  refine q2rr [] [(1, ⟨[.agg (f8z1 x1 x2)], [], [], [], .i r3, [], [], []⟩)] ⟨33, [(1, .ptr 1 0), (2, .ptr 2 0), (3, .ptr 3 0), (4, .i r3), (1000000, .elem 32 1 T0F 0 0)], [(1, .cells 28 (f8z1 x1 x2)), (2, .cells 30 [.nils]), (3, .cells 31 (f8z3))], [], 0⟩ (an1 (cpT (f27_ok _ _ _ hr3))) ?_
  refine thenQ_normal ?_
  refine q2rq [] [] ⟨33, [(1, .ptr 1 0), (2, .ptr 2 0), (3, .ptr 3 0), (4, .i r3), (10, .bool (r3 != (0 : Int))), (1000000, .elem 32 1 T0F 0 0)], [(1, .cells 28 (f8z1 x1 x2)), (2, .cells 30 [.nils]), (3, .cells 31 (f8z3))], [], 0⟩ trivial ?_
  refine AWp.cond (b := (r3 != (0 : Int))) (by kernel_rfl) (fun hc1 => ?_) (fun hc1 => ?_)
  ·
    replace h := ite_tb hc1 h
    refine q2rq [] [] ⟨33, [(2, .ptr 2 0), (3, .ptr 3 0), (1000000, .elem 32 1 T0F 0 0)], [(2, .cells 30 [.nils]), (3, .cells 31 [.i r3])], [], 0⟩ (an2 trivial trivial) ?_
    have hret := Option.some.inj h
    subst hret
    refine AWp.le (Le.mk (s' := ⟨33, [(2, .ptr 2 0), (3, .ptr 3 0)], [(2, .cells 30 [q2aW []]), (3, .cells 31 [.i r3])], [], 0⟩) rfl rfl ⟨.refl _, .refl _, trivial⟩ ⟨⟨_, rfl, (.cellsL ⟨.nilL, trivial⟩)⟩, ⟨_, rfl, .refl _⟩, trivial⟩) ?_
    refine AWp.ret ?_
    refine thenQ_ret ?_
    exact bodyQ_ret _ rfl ⟨rfl, rfl⟩ rfl
  ·
    replace h := ite_fb hc1 h
    refine AWp.skip ?_
    refine thenQ_normal ?_
    refine q2rq [] [] ⟨33, [(1, .ptr 1 0), (2, .ptr 2 0), (3, .ptr 3 0), (5, .ptr 5 0), (1000000, .elem 32 1 T0F 0 0)], [(1, .cells 28 (f8z1 x1 x2)), (2, .cells 30 [.nils]), (3, .cells 31 (f8z3)), (5, .cells 30 [.nils])], [], 0⟩ trivial ?_
    refine AWp.seq ?_
    refine AWp.seq ?_
    obtain ⟨r4, hr4, h⟩ := bind_ok h
    obtain ⟨r5, hr5, h⟩ := bind_ok h
    refine q2rr [] [(1, ⟨[.agg (f8z1 x1 x2)], [], [], [], .b16 r4, [], [], []⟩), (2, ⟨[.b16 r4], [], [], [(6001, .cells 49 [.b16 r5])], .fn (.func 71) [.ptr 6001 0], [6001], [], []⟩)] ⟨33, [(1, .ptr 1 0), (2, .ptr 2 0), (3, .ptr 3 0), (5, .ptr 5 0), (14, .fn (.func 71) [.ptr 6001 0]), (1000000, .elem 32 1 T0F 0 0)], [(1, .cells 28 (f8z1 x1 x2)), (2, .cells 30 [.nils]), (3, .cells 31 (f8z3)), (5, .cells 30 [.nils]), (6001, .cells 49 [.b16 r5])], [], 0⟩ (an2 (cpT (f29_ok _ _ _ hr4)) (cpT (Spec1.ren (swapN 3500 6001) (swapN_inv 3500 6001) rfl (f28_ok _ _ hr5)))) ?_
    refine thenQ_normal ?_
    refine AWp.block ?_
    refine AWp.le (Le.trans (Le.trans (Le.nilOwnC 5 0 6000 49 1 (encF eW 0#16 []) rfl rfl rfl) (Le.mk (s' := ⟨33, [(1, .ptr 1 0), (2, .ptr 2 0), (3, .ptr 3 0), (5, .ptr 5 0), (14, .fn (.func 71) [.ptr 6001 0]), (1000000, .elem 32 1 T0F 0 0)], [(1, .cells 28 (f8z1 x1 x2)), (2, .cells 30 [.nils]), (3, .cells 31 (f8z3)), (5, .cells 30 [.own 6000]), (6001, .cells 49 [.b16 r5]), (6000, q2bW_49 [])], [], 0⟩) rfl rfl ⟨.refl _, .refl _, .refl _, .refl _, .refl _, .refl _, trivial⟩ ⟨⟨_, rfl, .refl _⟩, ⟨_, rfl, .refl _⟩, ⟨_, rfl, .refl _⟩, ⟨_, rfl, .refl _⟩, ⟨_, rfl, .refl _⟩, ⟨_, rfl, .refl _⟩, trivial⟩)) (Le.mk (s' := ⟨33, [(1, .ptr 1 0), (2, .ptr 2 0), (3, .ptr 3 0), (5, .ptr 5 0), (14, .fn (.func 71) [.ptr 6001 0]), (1000000, .elem 32 1 T0F 0 0)], [(1, .cells 28 (f8z1 x1 x2)), (2, .cells 30 [.nils]), (3, .cells 31 (f8z3)), (5, .cells 30 [.own 6000]), (6000, q2bW_49 []), (6001, .cells 49 [.b16 r5])], [], 0⟩) rfl rfl ⟨.refl _, .refl _, .refl _, .refl _, .refl _, .refl _, trivial⟩ ⟨⟨_, rfl, .refl _⟩, ⟨_, rfl, .refl _⟩, ⟨_, rfl, .refl _⟩, ⟨_, rfl, .refl _⟩, ⟨_, rfl, .refl _⟩, ⟨_, rfl, .refl _⟩, trivial⟩)) ?_
    obtain ⟨r14, hr14, h⟩ := bind_ok h
    obtain ⟨hkr14, h⟩ := chk_some h
    refine AWp.rangeFunc (s := ⟨33, [(1, .ptr 1 0), (2, .ptr 2 0), (3, .ptr 3 0), (5, .ptr 5 0), (14, .fn (.func 71) [.ptr 6001 0]), (1000000, .elem 32 1 T0F 0 0)], [(1, .cells 28 (f8z1 x1 x2)), (2, .cells 30 [.nils]), (3, .cells 31 (f8z3)), (5, .cells 30 [.own 6000]), (6000, q2bW_49 []), (6001, .cells 49 [.b16 r5])], [], 0⟩) 70001 [1, 2, 3, 5] [1, 2, 3, 5, 1000000] [.ret] 71 [.ptr 6001 0] ⟨[.own 70001, .ptr 6001 0], [1, 2, 3, 5, 6000, 6001], [70001, 1, 2, 3, 5, 6001], [], .tup [], [6000], [], [0]⟩ r14.1 [(1, .cells 28 [q2aT67 r14.2.1, .i r14.2.2.1]), (2, .cells 30 [.nils]), (3, .cells 31 [.i r14.2.2.2.1]), (5, .cells 30 [.own 6000]), (6000, q2bW_49 r14.2.2.2.2.1), (6001, .cells 49 [.b16 r14.2.2.2.2.2])] ⟨33, [(1, .ptr 1 0), (2, .ptr 2 0), (3, .ptr 3 0), (5, .ptr 5 0), (14, .fn (.func 71) [.ptr 6001 0]), (1000000, .elem 32 1 T0F 0 0)], [(1, .cells 28 [q2aT67 r14.2.1, .i r14.2.2.1]), (2, .cells 30 [.nils]), (3, .cells 31 [.i r14.2.2.2.1]), (5, .cells 30 [.own 6000]), (6000, q2bW_49 r14.2.2.2.2.1), (6001, .cells 49 [.b16 r14.2.2.2.2.2])], [], 0⟩ rfl (by kernel_rfl) (by kernel_rfl) (fun g0 => ?_) (fun C => (by kernel_rfl)) (by kernel_rfl) (by kernel_rfl) (by kernel_rfl) (by kernel_rfl) hkr14 (by kernel_rfl) ?_ ?_
    ·
      refine ⟨fun _ => (f71_ok _ f8_Y70001 x1 x2 (0 : Int) [] r5 r14 hr14 ?_), fun _ => ⟨.refl _, .refl _, trivial⟩, .inl rfl⟩
      clear h
      rintro ⟨l8, i9, i7, l10, w6⟩ x11 rY70001 h
      replace h := (f8_Y70001.eq_1 ..).symm.trans h
      refine YSpec.body 0 rfl (of_decide_eq_true (by kernel_rfl)) (of_decide_eq_true (by kernel_rfl)) (within_tget (by kernel_rfl)) (by kernel_rfl) (by kernel_rfl) (by kernel_rfl) (by kernel_rfl) ?_
      refine AWp.le (Le.mk (s' := ⟨33, [(15, .b16 x11), (1, .ptr 1 0), (2, .ptr 2 0), (3, .ptr 3 0), (5, .ptr 5 0), (1000000, .elem 32 1 T0F 0 0)], (f8z0 l8 i9 i7 l10 w6), [1, 2, 3, 5, 6001], 0⟩) rfl rfl ⟨.refl _, .refl _, .refl _, .refl _, .refl _, .refl _, trivial⟩ ⟨⟨_, rfl, .refl _⟩, ⟨_, rfl, .refl _⟩, ⟨_, rfl, .refl _⟩, ⟨_, rfl, .refl _⟩, ⟨_, rfl, .refl _⟩, ⟨_, rfl, .refl _⟩, trivial⟩) ?_
      refine q2rr [] [] ⟨33, [(1, .ptr 1 0), (2, .ptr 2 0), (3, .ptr 3 0), (5, .ptr 5 0), (6, .b16 x11), (1000000, .elem 32 1 T0F 0 0)], (f8z0 l8 i9 i7 l10 w6), [1, 2, 3, 5, 6001], 0⟩ trivial ?_
      refine ⟨rfl, rfl, ?_⟩
      refine AWp.block ?_
      refine AWp.seq ?_
      refine AWp.seq ?_
      obtain ⟨r12, hr12, h⟩ := bind_ok h
      obtain ⟨r13, hr13, h⟩ := optc_some h
      have ob0 := idA (((!r12) == false) = true)
      have ob1 := idA (((!r12) == false) = true)
      have ob2 := bqA (!r12) false
      refine q2rr [] [(2, ⟨[.agg (f8z2 l8 i9), .b16 x11], [], [], [], .bool r12, [], [], []⟩), (7, ⟨[q2aW l10, .b16 x11], [], [], [], .bool r13, [], [6000], []⟩)] ⟨33, [(2, .ptr 2 0), (3, .ptr 3 0), (5, .ptr 5 0), (6, .b16 x11), (24, .bool ((!r12) || r13)), (1000000, .elem 32 1 T0F 0 0)], (f8z0 l8 i9 i7 l10 w6), [1, 2, 3, 5, 6001], 0⟩ (an3 (cpT (f30_ok _ _ _ _ hr12)) (And.intro (cpL [(6000, q2bW_49 l10)] [6000] [.own 6000, .b16 x11] (fun hc => (f31_ok _ _ _ (hr13 hc))) (fun _ => ⟨.refl _, .refl _, trivial⟩) (.inr ⟨rfl, trivial⟩)) (an2 ob0 ob1)) ob2) ?_
      refine thenQ_normal ?_
      refine AWp.cond (b := ((!r12) || r13)) (by kernel_rfl) (fun hc2 => ?_) (fun hc2 => ?_)
      ·
        replace h := ite_tb hc2 h
        refine AWp.exit ?_
        refine thenQ_exit ?_
        refine blockQ_same ?_
        have hret := Option.some.inj h
        subst hret
        exact ⟨_, (Le.mk (s' := ⟨33, [], (f8z0 l8 i9 i7 l10 w6), [1, 2, 3, 5, 6001], 0⟩) rfl rfl trivial ⟨⟨_, rfl, .refl _⟩, ⟨_, rfl, .refl _⟩, ⟨_, rfl, .refl _⟩, ⟨_, rfl, .refl _⟩, ⟨_, rfl, .refl _⟩, ⟨_, rfl, .refl _⟩, trivial⟩), rfl, rfl, .inl ⟨rfl, rfl⟩⟩
      ·
        replace h := ite_fb hc2 h
        refine AWp.skip ?_
        refine thenQ_normal ?_
        refine AWp.seq ?_
        refine q2rq [] [] ⟨33, [(2, .ptr 2 0), (3, .ptr 3 0), (5, .ptr 5 0), (6, .b16 x11), (27, .bool ((lZ l10) == (400 : Int))), (1000000, .elem 32 1 T0F 0 0)], (f8z0 l8 i9 i7 l10 w6), [1, 2, 3, 5, 6001], 0⟩ trivial ?_
        refine AWp.cond (b := ((lZ l10) == (400 : Int))) (by kernel_rfl) (fun hc3 => ?_) (fun hc3 => ?_)
        ·
          replace h := ite_tb hc3 h
          refine q2rq [] [] ⟨33, [(1000000, .elem 32 1 T0F 0 0)], [(1, .cells 28 (f8z2 l8 i9)), (2, .cells 30 [.nils]), (3, .cells 31 [.i (3 : Int)]), (5, .cells 30 [.own 6000]), (6000, q2bW_49 l10), (6001, .cells 49 [.b16 w6])], [1, 2, 3, 5, 6001], 0⟩ (an2 trivial trivial) ?_
          refine AWp.ret ?_
          refine thenQ_ret ?_
          refine blockQ_ret ?_
          have hret := Option.some.inj h
          subst hret
          exact ⟨_, (Le.mk (s' := ⟨33, [], [(1, .cells 28 (f8z2 l8 i9)), (2, .cells 30 [.nils]), (3, .cells 31 [.i (3 : Int)]), (5, .cells 30 [.own 6000]), (6000, q2bW_49 l10), (6001, .cells 49 [.b16 w6])], [1, 2, 3, 5, 6001], 0⟩) rfl rfl trivial ⟨⟨_, rfl, .refl _⟩, ⟨_, rfl, .refl _⟩, ⟨_, rfl, .refl _⟩, ⟨_, rfl, .refl _⟩, ⟨_, rfl, .refl _⟩, ⟨_, rfl, .refl _⟩, trivial⟩), rfl, rfl, .inr ⟨0, _, rfl, rfl, .inl ⟨rfl, rfl⟩⟩⟩
        ·
          replace h := ite_fb hc3 h
          refine AWp.skip ?_
          refine thenQ_normal ?_
          obtain ⟨ob3, h⟩ := chk_some h
          refine q2rr [] [] ⟨33, [(1000000, .elem 32 1 T0F 0 0)], [(1, .cells 28 (f8z2 l8 i9)), (2, .cells 30 [.nils]), (3, .cells 31 [.i i7]), (5, .cells 30 [.own 6000]), (6000, .rows 49 1 ((l10).length + 1) (appF (l10).length (encF eW 0#16 l10) (lstF 1 [.b16 x11]))), (6001, .cells 49 [.b16 w6])], [1, 2, 3, 5, 6001], 0⟩ (an2 ob3 trivial) ?_
          refine blockQ_normal ?_
          have hret := Option.some.inj h
          subst hret
          exact ⟨_, (Le.trans (Le.mk (s' := ⟨33, [(1000000, .elem 32 1 T0F 0 0)], [(1, .cells 28 (f8z2 l8 i9)), (2, .cells 30 [.nils]), (3, .cells 31 [.i i7]), (5, .cells 30 [.own 6000]), (6000, q2bW_49 (l10 ++ [x11])), (6001, .cells 49 [.b16 w6])], [1, 2, 3, 5, 6001], 0⟩) rfl rfl ⟨.refl _, trivial⟩ ⟨⟨_, rfl, .refl _⟩, ⟨_, rfl, .refl _⟩, ⟨_, rfl, .refl _⟩, ⟨_, rfl, .refl _⟩, ⟨_, rfl, (BLe.of (RL.app (RL.self _) (RL.lst (enc := eW) [x11] rfl rfl (fun _ => rfl))))⟩, ⟨_, rfl, .refl _⟩, trivial⟩) (Le.mk (s' := ⟨33, [], [(1, .cells 28 (f8z2 l8 i9)), (2, .cells 30 [.nils]), (3, .cells 31 [.i i7]), (5, .cells 30 [.own 6000]), (6000, q2bW_49 (l10 ++ [x11])), (6001, .cells 49 [.b16 w6])], [1, 2, 3, 5, 6001], 0⟩) rfl rfl trivial ⟨⟨_, rfl, .refl _⟩, ⟨_, rfl, .refl _⟩, ⟨_, rfl, .refl _⟩, ⟨_, rfl, .refl _⟩, ⟨_, rfl, .refl _⟩, ⟨_, rfl, .refl _⟩, trivial⟩)), rfl, rfl, .inl ⟨rfl, rfl⟩⟩
    ·
      intro hk0
      replace h := ite_t hk0 h
      refine blockQ_normal ?_
      refine thenQ_normal ?_
      refine q2rq [] [] ⟨33, [(2, .ptr 2 0), (3, .ptr 3 0), (1000000, .elem 32 1 T0F 0 0)], [(2, .cells 30 [.own 6000]), (3, .cells 31 (f8z3)), (6000, q2bW_49 r14.2.2.2.2.1)], [], 0⟩ (an2 trivial trivial) ?_
      refine AWp.le (Le.trans (Le.freeze 6000 rfl rfl) (Le.mk (s' := ⟨33, [(2, .ptr 2 0), (3, .ptr 3 0), (1000000, .elem 32 1 T0F 0 0)], [(2, .cells 30 [q2aW r14.2.2.2.2.1]), (3, .cells 31 (f8z3))], [], 0⟩) rfl rfl ⟨.refl _, .refl _, .refl _, trivial⟩ ⟨⟨_, rfl, .refl _⟩, ⟨_, rfl, .refl _⟩, trivial⟩)) ?_
      have hret := Option.some.inj h
      subst hret
      refine AWp.le (Le.mk (s' := ⟨33, [(2, .ptr 2 0), (3, .ptr 3 0)], [(2, .cells 30 [q2aW r14.2.2.2.2.1]), (3, .cells 31 (f8z3))], [], 0⟩) rfl rfl ⟨.refl _, .refl _, trivial⟩ ⟨⟨_, rfl, .refl _⟩, ⟨_, rfl, .refl _⟩, trivial⟩) ?_
      refine AWp.ret ?_
      exact bodyQ_ret _ rfl ⟨rfl, rfl⟩ rfl
    ·
      intro j hkj
      replace h := ite_f (by omega) h
      cases j with
      | zero =>
        replace h := ite_t (by omega) h
        refine ⟨_, rfl, ?_⟩
        have hret := Option.some.inj h
        subst hret
        refine AWp.le (Le.mk (s' := ⟨33, [(2, .ptr 2 0), (3, .ptr 3 0)], [(2, .cells 30 [q2aW []]), (3, .cells 31 [.i r14.2.2.2.1])], [], 0⟩) rfl rfl ⟨.refl _, .refl _, trivial⟩ ⟨⟨_, rfl, (.cellsL ⟨.nilL, trivial⟩)⟩, ⟨_, rfl, .refl _⟩, trivial⟩) ?_
        refine AWp.ret ?_
        refine blockQ_ret ?_
        refine thenQ_ret ?_
        exact bodyQ_ret _ rfl ⟨rfl, rfl⟩ rfl
      | succ j =>
      replace h := ite_f (by omega) h
      exact nomatch (show (none : Option (List (BitVec 16) × Int)) = some r from h)
def f42_L0 (x1 : List (BitVec 16)) (K1 : Unit → Option Int) : Nat → Nat → Option Int
  | 0, _ => none
  | k + 1, n2 =>
    if (decide ((n2 : Int) < (((x1).length : Nat) : Int))) then (
    chk ((n2 : Int) < (((x1).length : Nat) : Int)) <|
    if (!(((x1.getD n2 0#16) &&& (BitVec.ofInt 16 61440)) == (BitVec.ofInt 16 0))) then (
    some (7 : Int)
    ) else (
    optc ((decide ((n2 : Int) > (0 : Int))) == true) (f80 (x1.getD ((((n2 : Int) - (1 : Int))).toNat) 0#16) (x1.getD n2 0#16)) fun (r3 : Int) =>
    chk (((decide ((n2 : Int) > (0 : Int))) == true) = true → -9223372036854775808 ≤ ((n2 : Int) - (1 : Int)) ∧ ((n2 : Int) - (1 : Int)) ≤ 9223372036854775807) <|
    chk (((decide ((n2 : Int) > (0 : Int))) == true) = true → 0 ≤ ((n2 : Int) - (1 : Int)) ∧ ((n2 : Int) - (1 : Int)) < (((x1).length : Nat) : Int)) <|
    if ((decide ((n2 : Int) > (0 : Int))) && (decide (r3 ≥ (0 : Int)))) then (
    some (1 : Int)
    ) else (
    chk (((n2 : Int) + (1 : Int)) ≤ 9223372036854775807) <|
    (f42_L0 x1 K1 k) (n2 + 1)
    )
    )
    ) else (
    K1 ()
    )
def f42_L1 (x1 : List (BitVec 16)) (K2 : Unit → Option Int) : Nat → Nat → Option Int
  | 0, _ => none
  | k + 1, n4 =>
    if (decide ((n4 : Int) < (((x1).length : Nat) : Int))) then (
    chk ((n4 : Int) < (((x1).length : Nat) : Int)) <|
    (f31 (x1.take n4) (x1.getD n4 0#16)).bind fun (r5 : Bool) =>
    chk ((n4 : Int) ≤ (((x1).length : Nat) : Int)) <|
    if r5 then (
    some (1 : Int)
    ) else (
    chk (((n4 : Int) + (1 : Int)) ≤ 9223372036854775807) <|
    (f42_L1 x1 K2 k) (n4 + 1)
    )
    ) else (
    K2 ()
    )
abbrev f42z0 (n2 : Nat) := ((decide ((n2 : Int) > (0 : Int))) == true)
def f42 (x1 : List (BitVec 16)) : Option Int :=
  if (decide ((((x1).length : Nat) : Int) > (400 : Int))) then (
  some (3 : Int)
  ) else (
  jn (fun (_ : Unit) =>
  jn (fun (_ : Unit) =>
  some (0 : Int)
  ) fun (K2 : Unit → Option Int) =>
  f42_L1 x1 K2 FUEL 0
  ) fun (K1 : Unit → Option Int) =>
  f42_L0 x1 K1 FUEL 0
  )
set_option maxRecDepth 100000 in
theorem f42_ok  (x1 : List (BitVec 16)) (r : Int) (h : f42 x1 = some r)  : Spec1 Tryd.prog 42 [] [] [] [vL 1 eW 0#16 x1] (.int .i64 r) [] := by
  unfold f42 at h
  refine Spec1.body 0 _ _ Tryd.func42 rfl Tryd.ntmps42 rfl rfl ?_
  refine q2rq [] [] ⟨48, [(0, q2aW x1)], [], [], 0⟩ trivial ?_
  refine AWp.seq ?_
  refine q2rq [] [] ⟨48, [(0, q2aW x1), (9, .bool (decide ((lZ x1) > (400 : Int))))], [], [], 0⟩ trivial ?_
  refine AWp.cond (b := (decide ((lZ x1) > (400 : Int)))) (by kernel_rfl) (fun hc1 => ?_) (fun hc1 => ?_)
  ·
    replace h := ite_tb hc1 h
    refine q2rq [] [] ⟨48, [(2, .i (3 : Int))], [], [], 0⟩ trivial ?_
    have hret := Option.some.inj h
    subst hret
    refine AWp.le (Le.mk (s' := ⟨48, [(2, .i (3 : Int))], [], [], 0⟩) rfl rfl ⟨.refl _, trivial⟩ trivial) ?_
    refine AWp.ret ?_
    refine thenQ_ret ?_
    exact bodyQ_ret _ rfl ⟨rfl, rfl⟩ rfl
  ·
    replace h := ite_fb hc1 h
    refine AWp.skip ?_
    refine thenQ_normal ?_
    obtain ⟨K1, hK1, h⟩ := jn_some h
    refine AWp.join (α := Unit) (fun (x : Unit) => match x with | () => ⟨48, [(0, q2aW x1)], [], [], 0⟩) (fun x => K1 x = some r) ?_ ?_
    ·
      refine q2rq [] [] ⟨48, [(0, q2aW x1), (10, q2aW x1), (11, .i (lZ x1)), (12, .i (0 : Int))], [], [], 0⟩ trivial ?_
      refine AWp.block ?_
      refine AWp.loopL (α := Nat × Nat) (fun x => match x with | (_, n2) => ⟨48, [(0, q2aW x1), (10, q2aW x1), (11, .i (lZ x1)), (12, .i (n2 : Int))], [], [], 0⟩) (fun x => f42_L0 x1 K1 x.1 x.2 = some r) (fun x => x.1) (FUEL, 0) (Le.mk (s' := ⟨48, [(0, q2aW x1), (10, q2aW x1), (11, .i (lZ x1)), (12, .i (0 : Int))], [], [], 0⟩) rfl rfl ⟨.refl _, .refl _, .refl _, .refl _, trivial⟩ trivial) h ?_
      rintro ⟨k0, n2⟩ h
      cases k0 with
      | zero => exact nomatch (show (none : Option Int) = some r from h)
      | succ k0 =>
      obtain ⟨C0, hC0⟩ : ∃ C, C = f42_L0 x1 K1 k0 := ⟨_, rfl⟩
      replace h := (f42_L0.eq_2 ..).symm.trans h
      try rw [← hC0] at h
      refine q2rq [] [] ⟨48, [(0, q2aW x1), (10, q2aW x1), (11, .i (lZ x1)), (12, .i (n2 : Int)), (13, .bool (decide ((n2 : Int) < (lZ x1))))], [], [], 0⟩ trivial ?_
      refine AWp.seq ?_
      refine AWp.cond (b := (decide ((n2 : Int) < (lZ x1)))) (by kernel_rfl) (fun hc2 => ?_) (fun hc2 => ?_)
      ·
        replace h := ite_tb hc2 h
        refine AWp.skip ?_
        refine thenQ_normal ?_
        refine AWp.seq ?_
        refine AWp.block ?_
        refine AWp.seq ?_
        obtain ⟨ob0p, h⟩ := chk_some h
        have ob0 : 0 ≤ (n2 : Int) ∧ (n2 : Int) < (((x1).length : Nat) : Int) := ⟨by omega, ob0p⟩
        refine q2rr [] [] ⟨48, [(0, q2aW x1), (3, .i (n2 : Int)), (4, .b16 (x1.getD n2 0#16)), (10, q2aW x1), (11, .i (lZ x1)), (12, .i (n2 : Int))], [], [], 0⟩ (an1 ob0) ?_
        refine thenQ_normal ?_
        refine AWp.block ?_
        refine q2rq [] [] ⟨48, [(0, q2aW x1), (3, .i (n2 : Int)), (4, .b16 (x1.getD n2 0#16)), (10, q2aW x1), (11, .i (lZ x1)), (12, .i (n2 : Int)), (17, .bool (!(((x1.getD n2 0#16) &&& (q2w16 61440)) == (q2w16 0))))], [], [], 0⟩ trivial ?_
        refine AWp.cond (b := (!(((x1.getD n2 0#16) &&& (q2w16 61440)) == (q2w16 0)))) (by kernel_rfl) (fun hc3 => ?_) (fun hc3 => ?_)
        ·
          replace h := ite_tb hc3 h
          refine q2rq [] [] ⟨48, [(2, .i (7 : Int))], [], [], 0⟩ trivial ?_
          have hret := Option.some.inj h
          subst hret
          refine AWp.le (Le.mk (s' := ⟨48, [(2, .i (7 : Int))], [], [], 0⟩) rfl rfl ⟨.refl _, trivial⟩ trivial) ?_
          refine AWp.ret ?_
          refine blockQ_ret ?_
          refine blockQ_ret ?_
          refine thenQ_ret ?_
          refine thenQ_ret ?_
          refine blockQ_ret ?_
          refine joinQ_ret ?_
          exact bodyQ_ret _ rfl ⟨rfl, rfl⟩ rfl
        ·
          replace h := ite_fb hc3 h
          refine AWp.seq ?_
          obtain ⟨r3, hr3, h⟩ := optc_some h
          obtain ⟨ob1, h⟩ := chk_some h
          have ob2 := idA ((f42z0 n2) = true)
          obtain ⟨ob3, h⟩ := chk_some h
          have ob4 := idA ((f42z0 n2) = true)
          have ob5 := idA ((f42z0 n2) = true)
          have ob6 := idA ((f42z0 n2) = true)
          have ob7 := idA ((f42z0 n2) = true)
          have ob8 := idA ((f42z0 n2) = true)
          have ob9 := idA ((f42z0 n2) = true)
          have ob10 : true = true → (decide ((n2 : Int) > (0 : Int))) = true → (f42z0 n2) = true := fun _ h => beq_iff_eq.2 h
          refine q2rr [] [(9, ⟨[.b16 (x1.getD ((((n2 : Int) - (1 : Int))).toNat) 0#16), .b16 (x1.getD n2 0#16)], [], [], [], .i r3, [], [], []⟩)] ⟨48, [(0, q2aW x1), (10, q2aW x1), (11, .i (lZ x1)), (12, .i (n2 : Int)), (21, .bool ((decide ((n2 : Int) > (0 : Int))) && (decide (r3 ≥ (0 : Int)))))], [], [], 0⟩ (an6 (And.intro ob1 (an1 ob2)) (And.intro ob3 (an2 ob4 ob5)) (an1 ob6) (And.intro (cpC fun hc => (f80_ok _ _ _ (hr3 hc))) (an2 ob7 ob8)) (an1 ob9) ob10) ?_
          refine thenQ_normal ?_
          refine AWp.cond (b := ((decide ((n2 : Int) > (0 : Int))) && (decide (r3 ≥ (0 : Int))))) (by kernel_rfl) (fun hc4 => ?_) (fun hc4 => ?_)
          ·
            replace h := ite_tb hc4 h
            refine q2rq [] [] ⟨48, [(2, .i (1 : Int))], [], [], 0⟩ trivial ?_
            have hret := Option.some.inj h
            subst hret
            refine AWp.le (Le.mk (s' := ⟨48, [(2, .i (1 : Int))], [], [], 0⟩) rfl rfl ⟨.refl _, trivial⟩ trivial) ?_
            refine AWp.ret ?_
            refine blockQ_ret ?_
            refine blockQ_ret ?_
            refine thenQ_ret ?_
            refine thenQ_ret ?_
            refine blockQ_ret ?_
            refine joinQ_ret ?_
            exact bodyQ_ret _ rfl ⟨rfl, rfl⟩ rfl
          ·
            replace h := ite_fb hc4 h
            refine AWp.skip ?_
            refine blockQ_normal ?_
            refine blockQ_normal ?_
            refine thenQ_normal ?_
            obtain ⟨ob11p, h⟩ := chk_some h
            have ob11 : -9223372036854775808 ≤ ((n2 : Int) + (1 : Int)) ∧ ((n2 : Int) + (1 : Int)) ≤ 9223372036854775807 := ⟨by omega, ob11p⟩
            refine q2rr [] [] ⟨48, [(0, q2aW x1), (10, q2aW x1), (11, .i (lZ x1)), (12, .i (((n2 + 1) : Nat) : Int))], [], [], 0⟩ (an1 ob11) ?_
            rw [hC0] at h
            exact loopQ_normal (_, (n2 + 1)) (Le.mk rfl rfl ⟨.refl _, .refl _, .refl _, .refl _, trivial⟩ trivial) h (Nat.lt_succ_self _)
      ·
        replace h := ite_fb hc2 h
        refine AWp.exit ?_
        refine thenQ_exit ?_
        refine thenQ_exit ?_
        refine blockQ_same ?_
        exact joinQ_normal () (Le.mk rfl rfl ⟨.refl _, trivial⟩ trivial) h
    ·
      rintro ⟨⟩ h
      replace h := (congrFun hK1 _).symm.trans h
      obtain ⟨K2, hK2, h⟩ := jn_some h
      refine AWp.join (α := Unit) (fun (x : Unit) => match x with | () => ⟨48, [], [], [], 0⟩) (fun x => K2 x = some r) ?_ ?_
      ·
        refine q2rq [] [] ⟨48, [(0, q2aW x1), (35, q2aW x1), (36, .i (lZ x1)), (37, .i (0 : Int))], [], [], 0⟩ trivial ?_
        refine AWp.block ?_
        refine AWp.loopL (α := Nat × Nat) (fun x => match x with | (_, n4) => ⟨48, [(0, q2aW x1), (35, q2aW x1), (36, .i (lZ x1)), (37, .i (n4 : Int))], [], [], 0⟩) (fun x => f42_L1 x1 K2 x.1 x.2 = some r) (fun x => x.1) (FUEL, 0) (Le.mk (s' := ⟨48, [(0, q2aW x1), (35, q2aW x1), (36, .i (lZ x1)), (37, .i (0 : Int))], [], [], 0⟩) rfl rfl ⟨.refl _, .refl _, .refl _, .refl _, trivial⟩ trivial) h ?_
        rintro ⟨k1, n4⟩ h
        cases k1 with
        | zero => exact nomatch (show (none : Option Int) = some r from h)
        | succ k1 =>
        obtain ⟨C1, hC1⟩ : ∃ C, C = f42_L1 x1 K2 k1 := ⟨_, rfl⟩
        replace h := (f42_L1.eq_2 ..).symm.trans h
        try rw [← hC1] at h
        refine q2rq [] [] ⟨48, [(0, q2aW x1), (35, q2aW x1), (36, .i (lZ x1)), (37, .i (n4 : Int)), (38, .bool (decide ((n4 : Int) < (lZ x1))))], [], [], 0⟩ trivial ?_
        refine AWp.seq ?_
        refine AWp.cond (b := (decide ((n4 : Int) < (lZ x1)))) (by kernel_rfl) (fun hc5 => ?_) (fun hc5 => ?_)
        ·
          replace h := ite_tb hc5 h
          refine AWp.skip ?_
          refine thenQ_normal ?_
          refine AWp.seq ?_
          refine AWp.block ?_
          refine AWp.seq ?_
          obtain ⟨ob12p, h⟩ := chk_some h
          have ob12 : 0 ≤ (n4 : Int) ∧ (n4 : Int) < (((x1).length : Nat) : Int) := ⟨by omega, ob12p⟩
          refine q2rr [] [] ⟨48, [(0, q2aW x1), (5, .i (n4 : Int)), (6, .b16 (x1.getD n4 0#16)), (35, q2aW x1), (36, .i (lZ x1)), (37, .i (n4 : Int))], [], [], 0⟩ (an1 ob12) ?_
          refine thenQ_normal ?_
          refine AWp.seq ?_
          obtain ⟨r5, hr5, h⟩ := bind_ok h
          obtain ⟨ob13p, h⟩ := chk_some h
          have ob13 : 0 ≤ (n4 : Int) ∧ (n4 : Int) ≤ (((x1).length : Nat) : Int) := ⟨by omega, ob13p⟩
          refine q2rr [] [(4, ⟨[q2aW (x1.take n4), .b16 (x1.getD n4 0#16)], [], [], [], .bool r5, [], [], []⟩)] ⟨48, [(0, q2aW x1), (35, q2aW x1), (36, .i (lZ x1)), (37, .i (n4 : Int)), (46, .bool r5)], [], [], 0⟩ (an2 ob13 (cpL (c := true) [] [] [.arr 1 n4 (encF eW 0#16 x1), .b16 (x1.getD n4 0#16)] (fun _ => (f31_ok _ _ _ hr5)) (fun _ => ⟨(VLe.takeL (by first | omega | (simp only [List.length_append, List.length_cons, List.length_nil, List.length_take, List.length_drop] at *; omega) | (simp; done) | (simp_all; done) | (simp_all; omega) | rfl)), .refl _, trivial⟩) (.inl rfl))) ?_
          refine thenQ_normal ?_
          refine AWp.cond (b := r5) (by kernel_rfl) (fun hc6 => ?_) (fun hc6 => ?_)
          ·
            replace h := ite_tb hc6 h
            refine q2rq [] [] ⟨48, [(2, .i (1 : Int))], [], [], 0⟩ trivial ?_
            have hret := Option.some.inj h
            subst hret
            refine AWp.le (Le.mk (s' := ⟨48, [(2, .i (1 : Int))], [], [], 0⟩) rfl rfl ⟨.refl _, trivial⟩ trivial) ?_
            refine AWp.ret ?_
            refine blockQ_ret ?_
            refine thenQ_ret ?_
            refine thenQ_ret ?_
            refine blockQ_ret ?_
            refine joinQ_ret ?_
            exact bodyQ_ret _ rfl ⟨rfl, rfl⟩ rfl
          ·
            replace h := ite_fb hc6 h
            refine AWp.skip ?_
            refine blockQ_normal ?_
            refine thenQ_normal ?_
            obtain ⟨ob14p, h⟩ := chk_some h
            have ob14 : -9223372036854775808 ≤ ((n4 : Int) + (1 : Int)) ∧ ((n4 : Int) + (1 : Int)) ≤ 9223372036854775807 := ⟨by omega, ob14p⟩
            refine q2rr [] [] ⟨48, [(0, q2aW x1), (35, q2aW x1), (36, .i (lZ x1)), (37, .i (((n4 + 1) : Nat) : Int))], [], [], 0⟩ (an1 ob14) ?_
            rw [hC1] at h
            exact loopQ_normal (_, (n4 + 1)) (Le.mk rfl rfl ⟨.refl _, .refl _, .refl _, .refl _, trivial⟩ trivial) h (Nat.lt_succ_self _)
        ·
          replace h := ite_fb hc5 h
          refine AWp.exit ?_
          refine thenQ_exit ?_
          refine thenQ_exit ?_
          refine blockQ_same ?_
          exact joinQ_normal () (Le.mk rfl rfl trivial trivial) h
      ·
        rintro ⟨⟩ h
        replace h := (congrFun hK2 _).symm.trans h
        refine q2rq [] [] ⟨48, [(2, .i (0 : Int))], [], [], 0⟩ trivial ?_
        have hret := Option.some.inj h
        subst hret
        refine AWp.le (Le.mk (s' := ⟨48, [(2, .i (0 : Int))], [], [], 0⟩) rfl rfl ⟨.refl _, trivial⟩ trivial) ?_
        refine AWp.ret ?_
        exact bodyQ_ret _ rfl ⟨rfl, rfl⟩ rfl
def f84_L0 (x1 : List (BitVec 16)) (x2 : BitVec 16) (K1 : Unit → Option Int) : Nat → Nat → Option Int
  | 0, _ => none
  | k + 1, n3 =>
    if (decide ((n3 : Int) < (((x1).length : Nat) : Int))) then (
    chk ((n3 : Int) < (((x1).length : Nat) : Int)) <|
    if (x2 == (x1.getD n3 0#16)) then (
    some (n3 : Int)
    ) else (
    chk (((n3 : Int) + (1 : Int)) ≤ 9223372036854775807) <|
    (f84_L0 x1 x2 K1 k) (n3 + 1)
    )
    ) else (
    K1 ()
    )
def f84 (x1 : List (BitVec 16)) (x2 : BitVec 16) : Option Int :=
  jn (fun (_ : Unit) =>
  some (-1 : Int)
  ) fun (K1 : Unit → Option Int) =>
  f84_L0 x1 x2 K1 FUEL 0
set_option maxRecDepth 100000 in
theorem f84_ok  (x1 : List (BitVec 16)) (x2 : BitVec 16) (r : Int) (h : f84 x1 x2 = some r)  : Spec1 Tryd.prog 84 [] [] [] [vL 1 eW 0#16 x1, .b16 x2] (.int .i64 r) [] := by
  unfold f84 at h
  refine Spec1.body 0 _ _ Tryd.func84 rfl Tryd.ntmps84 rfl rfl ?_
  refine q2rq [] [] ⟨19, [(0, q2aW x1), (1, .b16 x2)], [], [], 0⟩ trivial ?_
  obtain ⟨K1, hK1, h⟩ := jn_some h
  refine AWp.join (α := Unit) (fun (x : Unit) => match x with | () => ⟨19, [], [], [], 0⟩) (fun x => K1 x = some r) ?_ ?_
  ·
    refine q2rq [] [] ⟨19, [(0, q2aW x1), (1, .b16 x2), (7, .i (lZ x1)), (8, .i (0 : Int))], [], [], 0⟩ trivial ?_
    refine AWp.block ?_
    refine AWp.loopL (α := Nat × Nat) (fun x => match x with | (_, n3) => ⟨19, [(0, q2aW x1), (1, .b16 x2), (7, .i (lZ x1)), (8, .i (n3 : Int))], [], [], 0⟩) (fun x => f84_L0 x1 x2 K1 x.1 x.2 = some r) (fun x => x.1) (FUEL, 0) (Le.mk (s' := ⟨19, [(0, q2aW x1), (1, .b16 x2), (7, .i (lZ x1)), (8, .i (0 : Int))], [], [], 0⟩) rfl rfl ⟨.refl _, .refl _, .refl _, .refl _, trivial⟩ trivial) h ?_
    rintro ⟨k0, n3⟩ h
    cases k0 with
    | zero => exact nomatch (show (none : Option Int) = some r from h)
    | succ k0 =>
    obtain ⟨C0, hC0⟩ : ∃ C, C = f84_L0 x1 x2 K1 k0 := ⟨_, rfl⟩
    replace h := (f84_L0.eq_2 ..).symm.trans h
    try rw [← hC0] at h
    refine q2rq [] [] ⟨19, [(0, q2aW x1), (1, .b16 x2), (7, .i (lZ x1)), (8, .i (n3 : Int)), (9, .bool (decide ((n3 : Int) < (lZ x1))))], [], [], 0⟩ trivial ?_
    refine AWp.seq ?_
    refine AWp.cond (b := (decide ((n3 : Int) < (lZ x1)))) (by kernel_rfl) (fun hc1 => ?_) (fun hc1 => ?_)
    ·
      replace h := ite_tb hc1 h
      refine AWp.skip ?_
      refine thenQ_normal ?_
      refine AWp.seq ?_
      refine AWp.block ?_
      refine q2rq [] [] ⟨19, [(0, q2aW x1), (1, .b16 x2), (5, .i (n3 : Int)), (7, .i (lZ x1)), (8, .i (n3 : Int))], [], [], 0⟩ trivial ?_
      refine AWp.seq ?_
      obtain ⟨ob0p, h⟩ := chk_some h
      have ob0 : 0 ≤ (n3 : Int) ∧ (n3 : Int) < (((x1).length : Nat) : Int) := ⟨by omega, ob0p⟩
      refine q2rr [] [] ⟨19, [(0, q2aW x1), (1, .b16 x2), (5, .i (n3 : Int)), (7, .i (lZ x1)), (8, .i (n3 : Int)), (16, .bool (x2 == (x1.getD n3 0#16)))], [], [], 0⟩ (an1 ob0) ?_
      refine thenQ_normal ?_
      refine AWp.cond (b := (x2 == (x1.getD n3 0#16))) (by kernel_rfl) (fun hc2 => ?_) (fun hc2 => ?_)
      ·
        replace h := ite_tb hc2 h
        refine q2rq [] [] ⟨19, [(4, .i (n3 : Int))], [], [], 0⟩ trivial ?_
        have hret := Option.some.inj h
        subst hret
        refine AWp.le (Le.mk (s' := ⟨19, [(4, .i (n3 : Int))], [], [], 0⟩) rfl rfl ⟨.refl _, trivial⟩ trivial) ?_
        refine AWp.ret ?_
        refine blockQ_ret ?_
        refine thenQ_ret ?_
        refine thenQ_ret ?_
        refine blockQ_ret ?_
        refine joinQ_ret ?_
        exact bodyQ_ret _ rfl ⟨rfl, rfl⟩ rfl
      ·
        replace h := ite_fb hc2 h
        refine AWp.skip ?_
        refine blockQ_normal ?_
        refine thenQ_normal ?_
        obtain ⟨ob1p, h⟩ := chk_some h
        have ob1 : -9223372036854775808 ≤ ((n3 : Int) + (1 : Int)) ∧ ((n3 : Int) + (1 : Int)) ≤ 9223372036854775807 := ⟨by omega, ob1p⟩
        refine q2rr [] [] ⟨19, [(0, q2aW x1), (1, .b16 x2), (7, .i (lZ x1)), (8, .i (((n3 + 1) : Nat) : Int))], [], [], 0⟩ (an1 ob1) ?_
        rw [hC0] at h
        exact loopQ_normal (_, (n3 + 1)) (Le.mk rfl rfl ⟨.refl _, .refl _, .refl _, .refl _, trivial⟩ trivial) h (Nat.lt_succ_self _)
    ·
      replace h := ite_fb hc1 h
      refine AWp.exit ?_
      refine thenQ_exit ?_
      refine thenQ_exit ?_
      refine blockQ_same ?_
      exact joinQ_normal () (Le.mk rfl rfl trivial trivial) h
  ·
    rintro ⟨⟩ h
    replace h := (congrFun hK1 _).symm.trans h
    refine q2rq [] [] ⟨19, [(4, .i (-1 : Int))], [], [], 0⟩ trivial ?_
    have hret := Option.some.inj h
    subst hret
    refine AWp.le (Le.mk (s' := ⟨19, [(4, .i (-1 : Int))], [], [], 0⟩) rfl rfl ⟨.refl _, trivial⟩ trivial) ?_
    refine AWp.ret ?_
    exact bodyQ_ret _ rfl ⟨rfl, rfl⟩ rfl
def f51 (x1 : List (BitVec 16)) (x2 : BitVec 16) : Option Bool :=
  (f84 x1 x2).bind fun (r3 : Int) =>
  some (decide (r3 ≥ (0 : Int)))
set_option maxRecDepth 100000 in
theorem f51_ok  (x1 : List (BitVec 16)) (x2 : BitVec 16) (r : Bool) (h : f51 x1 x2 = some r)  : Spec1 Tryd.prog 51 [] [] [] [vL 1 eW 0#16 x1, .b16 x2] (.bool r) [] := by
  unfold f51 at h
  refine Spec1.body 0 _ _ Tryd.func51 rfl Tryd.ntmps51 rfl rfl ?_
  refine q2rq [] [] ⟨9, [(0, q2aW x1), (1, .b16 x2)], [], [], 0⟩ trivial ?_
  refine AWp.seq ?_
  obtain ⟨r3, hr3, h⟩ := bind_ok h
  refine q2rr [] [(2, ⟨[q2aW x1, .b16 x2], [], [], [], .i r3, [], [], []⟩)] ⟨9, [(4, .bool (decide (r3 ≥ (0 : Int))))], [], [], 0⟩ (an1 (cpT (f84_ok _ _ _ hr3))) ?_
  refine thenQ_normal ?_
  have hret := Option.some.inj h
  subst hret
  refine AWp.le (Le.mk (s' := ⟨9, [(4, .bool (decide (r3 ≥ (0 : Int))))], [], [], 0⟩) rfl rfl ⟨.refl _, trivial⟩ trivial) ?_
  refine AWp.ret ?_
  exact bodyQ_ret _ rfl ⟨rfl, rfl⟩ rfl
def f81 (x1 : BitVec 16) (x2 : BitVec 16) : Option (Bool × BitVec 16) :=
  some (((x1 &&& x2) == (BitVec.ofInt 16 0)), x2)
set_option maxRecDepth 100000 in
theorem f81_ok  (x1 : BitVec 16) (x2 : BitVec 16) (r : Bool × BitVec 16) (h : f81 x1 x2 = some r)  : Spec1 Tryd.prog 81 [] [2000] [(2000, .cells 49 [.b16 x2])] [.b16 x1, .ptr 2000 0] (.bool r.1) [(2000, .cells 49 [.b16 r.2])] := by
  unfold f81 at h
  refine Spec1.body 0 _ _ Tryd.func81 rfl Tryd.ntmps81 rfl rfl ?_
  refine q2rq [] [] ⟨8, [(0, .b16 x1), (1, .ptr 2000 0)], [(2000, .cells 49 [.b16 x2])], [2000], 0⟩ trivial ?_
  refine q2rq [] [] ⟨8, [(3, .bool ((x1 &&& x2) == (q2w16 0)))], [(2000, .cells 49 [.b16 x2])], [2000], 0⟩ trivial ?_
  have hret := Option.some.inj h
  subst hret
  refine AWp.le (Le.mk (s' := ⟨8, [(3, .bool ((x1 &&& x2) == (q2w16 0)))], [(2000, .cells 49 [.b16 x2])], [2000], 0⟩) rfl rfl ⟨.refl _, trivial⟩ ⟨⟨_, rfl, .refl _⟩, trivial⟩) ?_
  refine AWp.ret ?_
  exact bodyQ_ret _ rfl ⟨rfl, rfl⟩ rfl
def f63b_L0 (x1 : List (BitVec 16)) (K1 : (BitVec 16) → Option (Int × BitVec 16)) : Nat → (Nat × BitVec 16) → Option (Int × BitVec 16)
  | 0, _ => none
  | k + 1, (n3, w4) =>
    if (decide ((n3 : Int) < (((x1).length : Nat) : Int))) then (
    (f81 (x1.getD n3 0#16) w4).bind fun (r5 : Bool × BitVec 16) =>
    chk ((n3 : Int) < (((x1).length : Nat) : Int)) <|
    if r5.1 then (
    some ((n3 : Int), r5.2)
    ) else (
    chk (((n3 : Int) + (1 : Int)) ≤ 9223372036854775807) <|
    (f63b_L0 x1 K1 k) ((n3 + 1), r5.2)
    )
    ) else (
    K1 w4
    )
def f63b (x1 : List (BitVec 16)) (x2 : BitVec 16) : Option (Int × BitVec 16) :=
  jn (fun (w6 : BitVec 16) =>
  some ((-1 : Int), w6)
  ) fun (K1 : (BitVec 16) → Option (Int × BitVec 16)) =>
  f63b_L0 x1 K1 FUEL (0, x2)
set_option maxRecDepth 100000 in
theorem f63b_ok  (x1 : List (BitVec 16)) (x2 : BitVec 16) (r : Int × BitVec 16) (h : f63b x1 x2 = some r)  : Spec1 Tryd.prog 63 [] [2000] [(2000, .cells 49 [.b16 x2])] [vL 1 eW 0#16 x1, .fn (.func 81) [.ptr 2000 0]] (.int .i64 r.1) [(2000, .cells 49 [.b16 r.2])] := by
  unfold f63b at h
  refine Spec1.body 0 _ _ Tryd.func63 rfl Tryd.ntmps63 rfl rfl ?_
  refine q2rq [] [] ⟨19, [(0, q2aW x1), (1, .fn (.func 81) [.ptr 2000 0])], [(2000, .cells 49 [.b16 x2])], [2000], 0⟩ trivial ?_
  obtain ⟨K1, hK1, h⟩ := jn_some h
  refine AWp.join (α := BitVec 16) (fun (w6 : BitVec 16) => ⟨19, [], [(2000, .cells 49 [.b16 w6])], [2000], 0⟩) (fun x => K1 x = some r) ?_ ?_
  ·
    refine q2rq [] [] ⟨19, [(0, q2aW x1), (1, .fn (.func 81) [.ptr 2000 0]), (7, .i (lZ x1)), (8, .i (0 : Int))], [(2000, .cells 49 [.b16 x2])], [2000], 0⟩ trivial ?_
    refine AWp.block ?_
    refine AWp.loopL (α := Nat × (Nat × BitVec 16)) (fun x => match x with | (_, n3, w4) => ⟨19, [(0, q2aW x1), (1, .fn (.func 81) [.ptr 2000 0]), (7, .i (lZ x1)), (8, .i (n3 : Int))], [(2000, .cells 49 [.b16 w4])], [2000], 0⟩) (fun x => f63b_L0 x1 K1 x.1 x.2 = some r) (fun x => x.1) (FUEL, 0, x2) (Le.mk (s' := ⟨19, [(0, q2aW x1), (1, .fn (.func 81) [.ptr 2000 0]), (7, .i (lZ x1)), (8, .i (0 : Int))], [(2000, .cells 49 [.b16 x2])], [2000], 0⟩) rfl rfl ⟨.refl _, .refl _, .refl _, .refl _, trivial⟩ ⟨⟨_, rfl, .refl _⟩, trivial⟩) h ?_
    rintro ⟨k0, n3, w4⟩ h
    cases k0 with
    | zero => exact nomatch (show (none : Option (Int × BitVec 16)) = some r from h)
    | succ k0 =>
    obtain ⟨C0, hC0⟩ : ∃ C, C = f63b_L0 x1 K1 k0 := ⟨_, rfl⟩
    replace h := (f63b_L0.eq_2 ..).symm.trans h
    try rw [← hC0] at h
    refine q2rq [] [] ⟨19, [(0, q2aW x1), (1, .fn (.func 81) [.ptr 2000 0]), (7, .i (lZ x1)), (8, .i (n3 : Int)), (9, .bool (decide ((n3 : Int) < (lZ x1))))], [(2000, .cells 49 [.b16 w4])], [2000], 0⟩ trivial ?_
    refine AWp.seq ?_
    refine AWp.cond (b := (decide ((n3 : Int) < (lZ x1)))) (by kernel_rfl) (fun hc1 => ?_) (fun hc1 => ?_)
    ·
      replace h := ite_tb hc1 h
      refine AWp.skip ?_
      refine thenQ_normal ?_
      refine AWp.seq ?_
      refine AWp.block ?_
      refine q2rq [] [] ⟨19, [(0, q2aW x1), (1, .fn (.func 81) [.ptr 2000 0]), (5, .i (n3 : Int)), (7, .i (lZ x1)), (8, .i (n3 : Int))], [(2000, .cells 49 [.b16 w4])], [2000], 0⟩ trivial ?_
      refine AWp.seq ?_
      obtain ⟨r5, hr5, h⟩ := bind_ok h
      obtain ⟨ob0p, h⟩ := chk_some h
      have ob0 : 0 ≤ (n3 : Int) ∧ (n3 : Int) < (((x1).length : Nat) : Int) := ⟨by omega, ob0p⟩
      refine q2rr [] [(5, ⟨[.b16 (x1.getD n3 0#16), .ptr 2000 0], [2000], [2000], [(2000, .cells 49 [.b16 r5.2])], .bool r5.1, [], [], []⟩)] ⟨19, [(0, q2aW x1), (1, .fn (.func 81) [.ptr 2000 0]), (5, .i (n3 : Int)), (7, .i (lZ x1)), (8, .i (n3 : Int)), (16, .bool r5.1)], [(2000, .cells 49 [.b16 r5.2])], [2000], 0⟩ (an2 ob0 (cpT (f81_ok _ _ _ hr5))) ?_
      refine thenQ_normal ?_
      refine AWp.cond (b := r5.1) (by kernel_rfl) (fun hc2 => ?_) (fun hc2 => ?_)
      ·
        replace h := ite_tb hc2 h
        refine q2rq [] [] ⟨19, [(4, .i (n3 : Int))], [(2000, .cells 49 [.b16 r5.2])], [2000], 0⟩ trivial ?_
        have hret := Option.some.inj h
        subst hret
        refine AWp.le (Le.mk (s' := ⟨19, [(4, .i (n3 : Int))], [(2000, .cells 49 [.b16 r5.2])], [2000], 0⟩) rfl rfl ⟨.refl _, trivial⟩ ⟨⟨_, rfl, .refl _⟩, trivial⟩) ?_
        refine AWp.ret ?_
        refine blockQ_ret ?_
        refine thenQ_ret ?_
        refine thenQ_ret ?_
        refine blockQ_ret ?_
        refine joinQ_ret ?_
        exact bodyQ_ret _ rfl ⟨rfl, rfl⟩ rfl
      ·
        replace h := ite_fb hc2 h
        refine AWp.skip ?_
        refine blockQ_normal ?_
        refine thenQ_normal ?_
        obtain ⟨ob1p, h⟩ := chk_some h
        have ob1 : -9223372036854775808 ≤ ((n3 : Int) + (1 : Int)) ∧ ((n3 : Int) + (1 : Int)) ≤ 9223372036854775807 := ⟨by omega, ob1p⟩
        refine q2rr [] [] ⟨19, [(0, q2aW x1), (1, .fn (.func 81) [.ptr 2000 0]), (7, .i (lZ x1)), (8, .i (((n3 + 1) : Nat) : Int))], [(2000, .cells 49 [.b16 r5.2])], [2000], 0⟩ (an1 ob1) ?_
        rw [hC0] at h
        exact loopQ_normal (_, (n3 + 1), r5.2) (Le.mk rfl rfl ⟨.refl _, .refl _, .refl _, .refl _, trivial⟩ ⟨⟨_, rfl, .refl _⟩, trivial⟩) h (Nat.lt_succ_self _)
    ·
      replace h := ite_fb hc1 h
      refine AWp.exit ?_
      refine thenQ_exit ?_
      refine thenQ_exit ?_
      refine blockQ_same ?_
      exact joinQ_normal (w4) (Le.mk rfl rfl trivial ⟨⟨_, rfl, .refl _⟩, trivial⟩) h
  ·
    rintro w6 h
    replace h := (congrFun hK1 _).symm.trans h
    refine q2rq [] [] ⟨19, [(4, .i (-1 : Int))], [(2000, .cells 49 [.b16 w6])], [2000], 0⟩ trivial ?_
    have hret := Option.some.inj h
    subst hret
    refine AWp.le (Le.mk (s' := ⟨19, [(4, .i (-1 : Int))], [(2000, .cells 49 [.b16 w6])], [2000], 0⟩) rfl rfl ⟨.refl _, trivial⟩ ⟨⟨_, rfl, .refl _⟩, trivial⟩) ?_
    refine AWp.ret ?_
    exact bodyQ_ret _ rfl ⟨rfl, rfl⟩ rfl
def f65b (x1 : List (BitVec 16)) (x2 : BitVec 16) : Option (Bool × BitVec 16) :=
  (f63b x1 x2).bind fun (r3 : Int × BitVec 16) =>
  some ((decide (r3.1 ≥ (0 : Int))), r3.2)
set_option maxRecDepth 100000 in
theorem f65b_ok  (x1 : List (BitVec 16)) (x2 : BitVec 16) (r : Bool × BitVec 16) (h : f65b x1 x2 = some r)  : Spec1 Tryd.prog 65 [] [2000] [(2000, .cells 49 [.b16 x2])] [vL 1 eW 0#16 x1, .fn (.func 81) [.ptr 2000 0]] (.bool r.1) [(2000, .cells 49 [.b16 r.2])] := by
  unfold f65b at h
  refine Spec1.body 0 _ _ Tryd.func65 rfl Tryd.ntmps65 rfl rfl ?_
  refine q2rq [] [] ⟨9, [(0, q2aW x1), (1, .fn (.func 81) [.ptr 2000 0])], [(2000, .cells 49 [.b16 x2])], [2000], 0⟩ trivial ?_
  refine AWp.seq ?_
  obtain ⟨r3, hr3, h⟩ := bind_ok h
  refine q2rr [] [(2, ⟨[q2aW x1, .fn (.func 81) [.ptr 2000 0]], [2000], [2000], [(2000, .cells 49 [.b16 r3.2])], .i r3.1, [], [], []⟩)] ⟨9, [(4, .bool (decide (r3.1 ≥ (0 : Int))))], [(2000, .cells 49 [.b16 r3.2])], [2000], 0⟩ (an1 (cpT (f63b_ok _ _ _ hr3))) ?_
  refine thenQ_normal ?_
  have hret := Option.some.inj h
  subst hret
  refine AWp.le (Le.mk (s' := ⟨9, [(4, .bool (decide (r3.1 ≥ (0 : Int))))], [(2000, .cells 49 [.b16 r3.2])], [2000], 0⟩) rfl rfl ⟨.refl _, trivial⟩ ⟨⟨_, rfl, .refl _⟩, trivial⟩) ?_
  refine AWp.ret ?_
  exact bodyQ_ret _ rfl ⟨rfl, rfl⟩ rfl
def f44 (x1 : List (BitVec 16)) (x2 : BitVec 16) : Option Bool :=
  (f65b x1 x2).bind fun (r3 : Bool × BitVec 16) =>
  some (!r3.1)
set_option maxRecDepth 100000 in
theorem f44_ok  (x1 : List (BitVec 16)) (x2 : BitVec 16) (r : Bool) (h : f44 x1 x2 = some r)  : Spec1 Tryd.prog 44 [] [] [] [vL 1 eW 0#16 x1, .b16 x2] (.bool r) [] := by
  unfold f44 at h
  refine Spec1.body 0 _ _ Tryd.func44 rfl Tryd.ntmps44 rfl rfl ?_
  refine q2rq [] [] ⟨9, [(0, q2aW x1), (3, .ptr 3 0)], [(3, .cells 49 [.b16 x2])], [], 0⟩ trivial ?_
  refine AWp.seq ?_
  obtain ⟨r3, hr3, h⟩ := bind_ok h
  refine q2rr [] [(2, ⟨[q2aW x1, .fn (.func 81) [.ptr 3 0]], [3], [3], [(3, .cells 49 [.b16 r3.2])], .bool r3.1, [], [], []⟩)] ⟨9, [(4, .bool (!r3.1))], [], [], 0⟩ (an1 (cpT (Spec1.ren (swapN 2000 3) (swapN_inv 2000 3) rfl (f65b_ok _ _ _ hr3)))) ?_
  refine thenQ_normal ?_
  have hret := Option.some.inj h
  subst hret
  refine AWp.le (Le.mk (s' := ⟨9, [(4, .bool (!r3.1))], [], [], 0⟩) rfl rfl ⟨.refl _, trivial⟩ trivial) ?_
  refine AWp.ret ?_
  exact bodyQ_ret _ rfl ⟨rfl, rfl⟩ rfl
def f85 (x1 : BitVec 16) (x2 : List (BitVec 16)) : Option (Bool × List (BitVec 16)) :=
  (f44 x2 x1).bind fun (r3 : Bool) =>
  some ((!r3), x2)
set_option maxRecDepth 100000 in
theorem f85_ok  (x1 : BitVec 16) (x2 : List (BitVec 16)) (r : Bool × List (BitVec 16)) (h : f85 x1 x2 = some r)  : Spec1 Tryd.prog 85 [] [2000] [(2000, .cells 30 [vL 1 eW 0#16 x2])] [.b16 x1, .ptr 2000 0] (.bool r.1) [(2000, .cells 30 [vL 1 eW 0#16 r.2])] := by
  unfold f85 at h
  refine Spec1.body 0 _ _ Tryd.func85 rfl Tryd.ntmps85 rfl rfl ?_
  refine q2rq [] [] ⟨8, [(0, .b16 x1), (1, .ptr 2000 0)], [(2000, .cells 30 [q2aW x2])], [2000], 0⟩ trivial ?_
  refine AWp.seq ?_
  obtain ⟨r3, hr3, h⟩ := bind_ok h
  refine q2rr [] [(2, ⟨[q2aW x2, .b16 x1], [], [], [], .bool r3, [], [], []⟩)] ⟨8, [(3, .bool (!r3))], [(2000, .cells 30 [q2aW x2])], [2000], 0⟩ (an1 (cpT (f44_ok _ _ _ hr3))) ?_
  refine thenQ_normal ?_
  have hret := Option.some.inj h
  subst hret
  refine AWp.le (Le.mk (s' := ⟨8, [(3, .bool (!r3))], [(2000, .cells 30 [q2aW x2])], [2000], 0⟩) rfl rfl ⟨.refl _, trivial⟩ ⟨⟨_, rfl, .refl _⟩, trivial⟩) ?_
  refine AWp.ret ?_
  exact bodyQ_ret _ rfl ⟨rfl, rfl⟩ rfl
def f63a_L0 (x1 : List (BitVec 16)) (K1 : (List (BitVec 16)) → Option (Int × List (BitVec 16))) : Nat → (Nat × List (BitVec 16)) → Option (Int × List (BitVec 16))
  | 0, _ => none
  | k + 1, (n3, l4) =>
    if (decide ((n3 : Int) < (((x1).length : Nat) : Int))) then (
    (f85 (x1.getD n3 0#16) l4).bind fun (r5 : Bool × List (BitVec 16)) =>
    chk ((n3 : Int) < (((x1).length : Nat) : Int)) <|
    if r5.1 then (
    some ((n3 : Int), r5.2)
    ) else (
    chk (((n3 : Int) + (1 : Int)) ≤ 9223372036854775807) <|
    (f63a_L0 x1 K1 k) ((n3 + 1), r5.2)
    )
    ) else (
    K1 l4
    )
abbrev f63az0 (r5 : Bool × List (BitVec 16)) : Heap := [(2000, .cells 30 [vL 1 eW 0#16 r5.2])]
def f63a (x1 : List (BitVec 16)) (x2 : List (BitVec 16)) : Option (Int × List (BitVec 16)) :=
  jn (fun (l6 : List (BitVec 16)) =>
  some ((-1 : Int), l6)
  ) fun (K1 : (List (BitVec 16)) → Option (Int × List (BitVec 16))) =>
  f63a_L0 x1 K1 FUEL (0, x2)
set_option maxRecDepth 100000 in
theorem f63a_ok  (x1 : List (BitVec 16)) (x2 : List (BitVec 16)) (r : Int × List (BitVec 16)) (h : f63a x1 x2 = some r)  : Spec1 Tryd.prog 63 [] [2000] [(2000, .cells 30 [vL 1 eW 0#16 x2])] [vL 1 eW 0#16 x1, .fn (.func 85) [.ptr 2000 0]] (.int .i64 r.1) [(2000, .cells 30 [vL 1 eW 0#16 r.2])] := by
  unfold f63a at h
  refine Spec1.body 0 _ _ Tryd.func63 rfl Tryd.ntmps63 rfl rfl ?_
  refine q2rq [] [] ⟨19, [(0, q2aW x1), (1, .fn (.func 85) [.ptr 2000 0])], [(2000, .cells 30 [q2aW x2])], [2000], 0⟩ trivial ?_
  obtain ⟨K1, hK1, h⟩ := jn_some h
  refine AWp.join (α := List (BitVec 16)) (fun (l6 : List (BitVec 16)) => ⟨19, [], [(2000, .cells 30 [q2aW l6])], [2000], 0⟩) (fun x => K1 x = some r) ?_ ?_
  ·
    refine q2rq [] [] ⟨19, [(0, q2aW x1), (1, .fn (.func 85) [.ptr 2000 0]), (7, .i (lZ x1)), (8, .i (0 : Int))], [(2000, .cells 30 [q2aW x2])], [2000], 0⟩ trivial ?_
    refine AWp.block ?_
    refine AWp.loopL (α := Nat × (Nat × List (BitVec 16))) (fun x => match x with | (_, n3, l4) => ⟨19, [(0, q2aW x1), (1, .fn (.func 85) [.ptr 2000 0]), (7, .i (lZ x1)), (8, .i (n3 : Int))], [(2000, .cells 30 [q2aW l4])], [2000], 0⟩) (fun x => f63a_L0 x1 K1 x.1 x.2 = some r) (fun x => x.1) (FUEL, 0, x2) (Le.mk (s' := ⟨19, [(0, q2aW x1), (1, .fn (.func 85) [.ptr 2000 0]), (7, .i (lZ x1)), (8, .i (0 : Int))], [(2000, .cells 30 [q2aW x2])], [2000], 0⟩) rfl rfl ⟨.refl _, .refl _, .refl _, .refl _, trivial⟩ ⟨⟨_, rfl, .refl _⟩, trivial⟩) h ?_
    rintro ⟨k0, n3, l4⟩ h
    cases k0 with
    | zero => exact nomatch (show (none : Option (Int × List (BitVec 16))) = some r from h)
    | succ k0 =>
    obtain ⟨C0, hC0⟩ : ∃ C, C = f63a_L0 x1 K1 k0 := ⟨_, rfl⟩
    replace h := (f63a_L0.eq_2 ..).symm.trans h
    try rw [← hC0] at h
    refine q2rq [] [] ⟨19, [(0, q2aW x1), (1, .fn (.func 85) [.ptr 2000 0]), (7, .i (lZ x1)), (8, .i (n3 : Int)), (9, .bool (decide ((n3 : Int) < (lZ x1))))], [(2000, .cells 30 [q2aW l4])], [2000], 0⟩ trivial ?_
    refine AWp.seq ?_
    refine AWp.cond (b := (decide ((n3 : Int) < (lZ x1)))) (by kernel_rfl) (fun hc1 => ?_) (fun hc1 => ?_)
    ·
      replace h := ite_tb hc1 h
      refine AWp.skip ?_
      refine thenQ_normal ?_
      refine AWp.seq ?_
      refine AWp.block ?_
      refine q2rq [] [] ⟨19, [(0, q2aW x1), (1, .fn (.func 85) [.ptr 2000 0]), (5, .i (n3 : Int)), (7, .i (lZ x1)), (8, .i (n3 : Int))], [(2000, .cells 30 [q2aW l4])], [2000], 0⟩ trivial ?_
      refine AWp.seq ?_
      obtain ⟨r5, hr5, h⟩ := bind_ok h
      obtain ⟨ob0p, h⟩ := chk_some h
      have ob0 : 0 ≤ (n3 : Int) ∧ (n3 : Int) < (((x1).length : Nat) : Int) := ⟨by omega, ob0p⟩
      refine q2rr [] [(5, ⟨[.b16 (x1.getD n3 0#16), .ptr 2000 0], [2000], [2000], (f63az0 r5), .bool r5.1, [], [], []⟩)] ⟨19, [(0, q2aW x1), (1, .fn (.func 85) [.ptr 2000 0]), (5, .i (n3 : Int)), (7, .i (lZ x1)), (8, .i (n3 : Int)), (16, .bool r5.1)], (f63az0 r5), [2000], 0⟩ (an2 ob0 (cpT (f85_ok _ _ _ hr5))) ?_
      refine thenQ_normal ?_
      refine AWp.cond (b := r5.1) (by kernel_rfl) (fun hc2 => ?_) (fun hc2 => ?_)
      ·
        replace h := ite_tb hc2 h
        refine q2rq [] [] ⟨19, [(4, .i (n3 : Int))], (f63az0 r5), [2000], 0⟩ trivial ?_
        have hret := Option.some.inj h
        subst hret
        refine AWp.le (Le.mk (s' := ⟨19, [(4, .i (n3 : Int))], (f63az0 r5), [2000], 0⟩) rfl rfl ⟨.refl _, trivial⟩ ⟨⟨_, rfl, .refl _⟩, trivial⟩) ?_
        refine AWp.ret ?_
        refine blockQ_ret ?_
        refine thenQ_ret ?_
        refine thenQ_ret ?_
        refine blockQ_ret ?_
        refine joinQ_ret ?_
        exact bodyQ_ret _ rfl ⟨rfl, rfl⟩ rfl
      ·
        replace h := ite_fb hc2 h
        refine AWp.skip ?_
        refine blockQ_normal ?_
        refine thenQ_normal ?_
        obtain ⟨ob1p, h⟩ := chk_some h
        have ob1 : -9223372036854775808 ≤ ((n3 : Int) + (1 : Int)) ∧ ((n3 : Int) + (1 : Int)) ≤ 9223372036854775807 := ⟨by omega, ob1p⟩
        refine q2rr [] [] ⟨19, [(0, q2aW x1), (1, .fn (.func 85) [.ptr 2000 0]), (7, .i (lZ x1)), (8, .i (((n3 + 1) : Nat) : Int))], (f63az0 r5), [2000], 0⟩ (an1 ob1) ?_
        rw [hC0] at h
        exact loopQ_normal (_, (n3 + 1), r5.2) (Le.mk rfl rfl ⟨.refl _, .refl _, .refl _, .refl _, trivial⟩ ⟨⟨_, rfl, .refl _⟩, trivial⟩) h (Nat.lt_succ_self _)
    ·
      replace h := ite_fb hc1 h
      refine AWp.exit ?_
      refine thenQ_exit ?_
      refine thenQ_exit ?_
      refine blockQ_same ?_
      exact joinQ_normal (l4) (Le.mk rfl rfl trivial ⟨⟨_, rfl, .refl _⟩, trivial⟩) h
  ·
    rintro l6 h
    replace h := (congrFun hK1 _).symm.trans h
    refine q2rq [] [] ⟨19, [(4, .i (-1 : Int))], [(2000, .cells 30 [q2aW l6])], [2000], 0⟩ trivial ?_
    have hret := Option.some.inj h
    subst hret
    refine AWp.le (Le.mk (s' := ⟨19, [(4, .i (-1 : Int))], [(2000, .cells 30 [q2aW l6])], [2000], 0⟩) rfl rfl ⟨.refl _, trivial⟩ ⟨⟨_, rfl, .refl _⟩, trivial⟩) ?_
    refine AWp.ret ?_
    exact bodyQ_ret _ rfl ⟨rfl, rfl⟩ rfl
def f65a (x1 : List (BitVec 16)) (x2 : List (BitVec 16)) : Option (Bool × List (BitVec 16)) :=
  (f63a x1 x2).bind fun (r3 : Int × List (BitVec 16)) =>
  some ((decide (r3.1 ≥ (0 : Int))), r3.2)
set_option maxRecDepth 100000 in
theorem f65a_ok  (x1 : List (BitVec 16)) (x2 : List (BitVec 16)) (r : Bool × List (BitVec 16)) (h : f65a x1 x2 = some r)  : Spec1 Tryd.prog 65 [] [2000] [(2000, .cells 30 [vL 1 eW 0#16 x2])] [vL 1 eW 0#16 x1, .fn (.func 85) [.ptr 2000 0]] (.bool r.1) [(2000, .cells 30 [vL 1 eW 0#16 r.2])] := by
  unfold f65a at h
  refine Spec1.body 0 _ _ Tryd.func65 rfl Tryd.ntmps65 rfl rfl ?_
  refine q2rq [] [] ⟨9, [(0, q2aW x1), (1, .fn (.func 85) [.ptr 2000 0])], [(2000, .cells 30 [q2aW x2])], [2000], 0⟩ trivial ?_
  refine AWp.seq ?_
  obtain ⟨r3, hr3, h⟩ := bind_ok h
  refine q2rr [] [(2, ⟨[q2aW x1, .fn (.func 85) [.ptr 2000 0]], [2000], [2000], [(2000, .cells 30 [q2aW r3.2])], .i r3.1, [], [], []⟩)] ⟨9, [(4, .bool (decide (r3.1 ≥ (0 : Int))))], [(2000, .cells 30 [q2aW r3.2])], [2000], 0⟩ (an1 (cpT (f63a_ok _ _ _ hr3))) ?_
  refine thenQ_normal ?_
  have hret := Option.some.inj h
  subst hret
  refine AWp.le (Le.mk (s' := ⟨9, [(4, .bool (decide (r3.1 ≥ (0 : Int))))], [(2000, .cells 30 [q2aW r3.2])], [2000], 0⟩) rfl rfl ⟨.refl _, trivial⟩ ⟨⟨_, rfl, .refl _⟩, trivial⟩) ?_
  refine AWp.ret ?_
  exact bodyQ_ret _ rfl ⟨rfl, rfl⟩ rfl
def f52 (x1 : List (BitVec 16)) (x2 : List (BitVec 16)) : Option Bool :=
  (f65a x1 x2).bind fun (r3 : Bool × List (BitVec 16)) =>
  some (!r3.1)
set_option maxRecDepth 100000 in
theorem f52_ok  (x1 : List (BitVec 16)) (x2 : List (BitVec 16)) (r : Bool) (h : f52 x1 x2 = some r)  : Spec1 Tryd.prog 52 [] [] [] [vL 1 eW 0#16 x1, vL 1 eW 0#16 x2] (.bool r) [] := by
  unfold f52 at h
  refine Spec1.body 0 _ _ Tryd.func52 rfl Tryd.ntmps52 rfl rfl ?_
  refine q2rq [] [] ⟨9, [(0, q2aW x1), (3, .ptr 3 0)], [(3, .cells 30 [q2aW x2])], [], 0⟩ trivial ?_
  refine AWp.seq ?_
  obtain ⟨r3, hr3, h⟩ := bind_ok h
  refine q2rr [] [(2, ⟨[q2aW x1, .fn (.func 85) [.ptr 3 0]], [3], [3], [(3, .cells 30 [q2aW r3.2])], .bool r3.1, [], [], []⟩)] ⟨9, [(4, .bool (!r3.1))], [], [], 0⟩ (an1 (cpT (Spec1.ren (swapN 2000 3) (swapN_inv 2000 3) rfl (f65a_ok _ _ _ hr3)))) ?_
  refine thenQ_normal ?_
  have hret := Option.some.inj h
  subst hret
  refine AWp.le (Le.mk (s' := ⟨9, [(4, .bool (!r3.1))], [], [], 0⟩) rfl rfl ⟨.refl _, trivial⟩ trivial) ?_
  refine AWp.ret ?_
  exact bodyQ_ret _ rfl ⟨rfl, rfl⟩ rfl
def f98 (x1 : BitVec 16) : Option Bool :=
  some (!((x1 &&& (BitVec.ofInt 16 61440)) == (BitVec.ofInt 16 0)))
set_option maxRecDepth 100000 in
theorem f98_ok  (x1 : BitVec 16) (r : Bool) (h : f98 x1 = some r)  : Spec1 Tryd.prog 98 [] [] [] [.b16 x1] (.bool r) [] := by
  unfold f98 at h
  refine Spec1.body 0 _ _ Tryd.func98 rfl Tryd.ntmps98 rfl rfl ?_
  refine q2rq [] [] ⟨6, [(0, .b16 x1)], [], [], 0⟩ trivial ?_
  refine q2rq [] [] ⟨6, [(2, .bool (!((x1 &&& (q2w16 61440)) == (q2w16 0))))], [], [], 0⟩ trivial ?_
  have hret := Option.some.inj h
  subst hret
  refine AWp.le (Le.mk (s' := ⟨6, [(2, .bool (!((x1 &&& (q2w16 61440)) == (q2w16 0))))], [], [], 0⟩) rfl rfl ⟨.refl _, trivial⟩ trivial) ?_
  refine AWp.ret ?_
  exact bodyQ_ret _ rfl ⟨rfl, rfl⟩ rfl
def f63c_L0 (x1 : List (BitVec 16)) (K1 : Unit → Option Int) : Nat → Nat → Option Int
  | 0, _ => none
  | k + 1, n2 =>
    if (decide ((n2 : Int) < (((x1).length : Nat) : Int))) then (
    (f98 (x1.getD n2 0#16)).bind fun (r3 : Bool) =>
    chk ((n2 : Int) < (((x1).length : Nat) : Int)) <|
    if r3 then (
    some (n2 : Int)
    ) else (
    chk (((n2 : Int) + (1 : Int)) ≤ 9223372036854775807) <|
    (f63c_L0 x1 K1 k) (n2 + 1)
    )
    ) else (
    K1 ()
    )
def f63c (x1 : List (BitVec 16)) : Option Int :=
  jn (fun (_ : Unit) =>
  some (-1 : Int)
  ) fun (K1 : Unit → Option Int) =>
  f63c_L0 x1 K1 FUEL 0
set_option maxRecDepth 100000 in
theorem f63c_ok  (x1 : List (BitVec 16)) (r : Int) (h : f63c x1 = some r)  : Spec1 Tryd.prog 63 [] [] [] [vL 1 eW 0#16 x1, .fn (.func 98) []] (.int .i64 r) [] := by
  unfold f63c at h
  refine Spec1.body 0 _ _ Tryd.func63 rfl Tryd.ntmps63 rfl rfl ?_
  refine q2rq [] [] ⟨19, [(0, q2aW x1), (1, .fn (.func 98) [])], [], [], 0⟩ trivial ?_
  obtain ⟨K1, hK1, h⟩ := jn_some h
  refine AWp.join (α := Unit) (fun (x : Unit) => match x with | () => ⟨19, [], [], [], 0⟩) (fun x => K1 x = some r) ?_ ?_
  ·
    refine q2rq [] [] ⟨19, [(0, q2aW x1), (1, .fn (.func 98) []), (7, .i (lZ x1)), (8, .i (0 : Int))], [], [], 0⟩ trivial ?_
    refine AWp.block ?_
    refine AWp.loopL (α := Nat × Nat) (fun x => match x with | (_, n2) => ⟨19, [(0, q2aW x1), (1, .fn (.func 98) []), (7, .i (lZ x1)), (8, .i (n2 : Int))], [], [], 0⟩) (fun x => f63c_L0 x1 K1 x.1 x.2 = some r) (fun x => x.1) (FUEL, 0) (Le.mk (s' := ⟨19, [(0, q2aW x1), (1, .fn (.func 98) []), (7, .i (lZ x1)), (8, .i (0 : Int))], [], [], 0⟩) rfl rfl ⟨.refl _, .refl _, .refl _, .refl _, trivial⟩ trivial) h ?_
    rintro ⟨k0, n2⟩ h
    cases k0 with
    | zero => exact nomatch (show (none : Option Int) = some r from h)
    | succ k0 =>
    obtain ⟨C0, hC0⟩ : ∃ C, C = f63c_L0 x1 K1 k0 := ⟨_, rfl⟩
    replace h := (f63c_L0.eq_2 ..).symm.trans h
    try rw [← hC0] at h
    refine q2rq [] [] ⟨19, [(0, q2aW x1), (1, .fn (.func 98) []), (7, .i (lZ x1)), (8, .i (n2 : Int)), (9, .bool (decide ((n2 : Int) < (lZ x1))))], [], [], 0⟩ trivial ?_
    refine AWp.seq ?_
    refine AWp.cond (b := (decide ((n2 : Int) < (lZ x1)))) (by kernel_rfl) (fun hc1 => ?_) (fun hc1 => ?_)
    ·
      replace h := ite_tb hc1 h
      refine AWp.skip ?_
      refine thenQ_normal ?_
      refine AWp.seq ?_
      refine AWp.block ?_
      refine q2rq [] [] ⟨19, [(0, q2aW x1), (1, .fn (.func 98) []), (5, .i (n2 : Int)), (7, .i (lZ x1)), (8, .i (n2 : Int))], [], [], 0⟩ trivial ?_
      refine AWp.seq ?_
      obtain ⟨r3, hr3, h⟩ := bind_ok h
      obtain ⟨ob0p, h⟩ := chk_some h
      have ob0 : 0 ≤ (n2 : Int) ∧ (n2 : Int) < (((x1).length : Nat) : Int) := ⟨by omega, ob0p⟩
      refine q2rr [] [(5, ⟨[.b16 (x1.getD n2 0#16)], [], [], [], .bool r3, [], [], []⟩)] ⟨19, [(0, q2aW x1), (1, .fn (.func 98) []), (5, .i (n2 : Int)), (7, .i (lZ x1)), (8, .i (n2 : Int)), (16, .bool r3)], [], [], 0⟩ (an2 ob0 (cpT (f98_ok _ _ hr3))) ?_
      refine thenQ_normal ?_
      refine AWp.cond (b := r3) (by kernel_rfl) (fun hc2 => ?_) (fun hc2 => ?_)
      ·
        replace h := ite_tb hc2 h
        refine q2rq [] [] ⟨19, [(4, .i (n2 : Int))], [], [], 0⟩ trivial ?_
        have hret := Option.some.inj h
        subst hret
        refine AWp.le (Le.mk (s' := ⟨19, [(4, .i (n2 : Int))], [], [], 0⟩) rfl rfl ⟨.refl _, trivial⟩ trivial) ?_
        refine AWp.ret ?_
        refine blockQ_ret ?_
        refine thenQ_ret ?_
        refine thenQ_ret ?_
        refine blockQ_ret ?_
        refine joinQ_ret ?_
        exact bodyQ_ret _ rfl ⟨rfl, rfl⟩ rfl
      ·
        replace h := ite_fb hc2 h
        refine AWp.skip ?_
        refine blockQ_normal ?_
        refine thenQ_normal ?_
        obtain ⟨ob1p, h⟩ := chk_some h
        have ob1 : -9223372036854775808 ≤ ((n2 : Int) + (1 : Int)) ∧ ((n2 : Int) + (1 : Int)) ≤ 9223372036854775807 := ⟨by omega, ob1p⟩
        refine q2rr [] [] ⟨19, [(0, q2aW x1), (1, .fn (.func 98) []), (7, .i (lZ x1)), (8, .i (((n2 + 1) : Nat) : Int))], [], [], 0⟩ (an1 ob1) ?_
        rw [hC0] at h
        exact loopQ_normal (_, (n2 + 1)) (Le.mk rfl rfl ⟨.refl _, .refl _, .refl _, .refl _, trivial⟩ trivial) h (Nat.lt_succ_self _)
    ·
      replace h := ite_fb hc1 h
      refine AWp.exit ?_
      refine thenQ_exit ?_
      refine thenQ_exit ?_
      refine blockQ_same ?_
      exact joinQ_normal () (Le.mk rfl rfl trivial trivial) h
  ·
    rintro ⟨⟩ h
    replace h := (congrFun hK1 _).symm.trans h
    refine q2rq [] [] ⟨19, [(4, .i (-1 : Int))], [], [], 0⟩ trivial ?_
    have hret := Option.some.inj h
    subst hret
    refine AWp.le (Le.mk (s' := ⟨19, [(4, .i (-1 : Int))], [], [], 0⟩) rfl rfl ⟨.refl _, trivial⟩ trivial) ?_
    refine AWp.ret ?_
    exact bodyQ_ret _ rfl ⟨rfl, rfl⟩ rfl
def f65c (x1 : List (BitVec 16)) : Option Bool :=
  (f63c x1).bind fun (r2 : Int) =>
  some (decide (r2 ≥ (0 : Int)))
set_option maxRecDepth 100000 in
theorem f65c_ok  (x1 : List (BitVec 16)) (r : Bool) (h : f65c x1 = some r)  : Spec1 Tryd.prog 65 [] [] [] [vL 1 eW 0#16 x1, .fn (.func 98) []] (.bool r) [] := by
  unfold f65c at h
  refine Spec1.body 0 _ _ Tryd.func65 rfl Tryd.ntmps65 rfl rfl ?_
  refine q2rq [] [] ⟨9, [(0, q2aW x1), (1, .fn (.func 98) [])], [], [], 0⟩ trivial ?_
  refine AWp.seq ?_
  obtain ⟨r2, hr2, h⟩ := bind_ok h
  refine q2rr [] [(2, ⟨[q2aW x1, .fn (.func 98) []], [], [], [], .i r2, [], [], []⟩)] ⟨9, [(4, .bool (decide (r2 ≥ (0 : Int))))], [], [], 0⟩ (an1 (cpT (f63c_ok _ _ hr2))) ?_
  refine thenQ_normal ?_
  have hret := Option.some.inj h
  subst hret
  refine AWp.le (Le.mk (s' := ⟨9, [(4, .bool (decide (r2 ≥ (0 : Int))))], [], [], 0⟩) rfl rfl ⟨.refl _, trivial⟩ trivial) ?_
  refine AWp.ret ?_
  exact bodyQ_ret _ rfl ⟨rfl, rfl⟩ rfl
def f62 (x1 : List (BitVec 16)) : Option (List (BitVec 16)) :=
  abc ((x1).length = 0) (
  some []
  ) (
  chk ((0 + (x1).length) * 2 ≤ 140737488355328) <|
  some ([] ++ x1)
  )
set_option maxRecDepth 100000 in
theorem f62_ok  (x1 : List (BitVec 16)) (r : List (BitVec 16)) (h : f62 x1 = some r)  : Spec1 Tryd.prog 62 [] [] [] [vL 1 eW 0#16 x1] (.own 3000) [(3000, bL 49 1 eW 0#16 r)] := by
  unfold f62 at h
  refine Spec1.body 0 _ _ Tryd.func62 rfl Tryd.ntmps62 rfl rfl ?_
  refine q2rq [] [] ⟨8, [(0, q2aW x1)], [], [], 0⟩ trivial ?_
  refine AWp.seq ?_
  refine q2rq [] [] ⟨8, [(0, q2aW x1), (4, .abool (fun b => b = true → (x1).length = 0))], [], [], 0⟩ trivial ?_
  obtain ⟨hA1, hB1⟩ := abc_some h
  refine AWp.condAb (fun b => b = true → (x1).length = 0) (by kernel_rfl) (fun hc1 => ?_) (fun hc1 => ?_)
  ·
    have h := hA1 (hc1 rfl)
    refine q2rq [] [] ⟨8, [(2, .nils)], [], [], 0⟩ trivial ?_
    refine AWp.le (Le.trans (Le.nilOwn 2 3000 49 1 (encF eW 0#16 []) rfl rfl (Nat.le_of_ble_eq_true rfl)) (Le.mk (s' := ⟨8, [(2, .own 3000)], [(3000, q2bW_49 [])], [], 0⟩) rfl rfl ⟨.refl _, trivial⟩ ⟨⟨_, rfl, .refl _⟩, trivial⟩)) ?_
    have hret := Option.some.inj h
    subst hret
    refine AWp.le (Le.mk (s' := ⟨8, [(2, .own 3000)], [(3000, q2bW_49 [])], [], 0⟩) rfl rfl ⟨.refl _, trivial⟩ ⟨⟨_, rfl, .refl _⟩, trivial⟩) ?_
    refine AWp.ret ?_
    refine thenQ_ret ?_
    exact bodyQ_ret _ rfl ⟨rfl, rfl⟩ rfl
  ·
    have h := hB1
    refine AWp.skip ?_
    refine thenQ_normal ?_
    refine AWp.seq ?_
    obtain ⟨ob0, h⟩ := chk_some h
    refine q2rr [] [] ⟨8, [(2, .own 5)], [(5, .rows 49 1 (0 + (x1).length) (appF 0 (lstF 1 []) (encF eW 0#16 x1)))], [], 0⟩ (an1 ob0) ?_
    refine thenQ_normal ?_
    refine AWp.le (Le.mk (s' := ⟨8, [(2, .own 5)], [(5, q2bW_49 ([] ++ x1))], [], 0⟩) rfl rfl ⟨.refl _, trivial⟩ ⟨⟨_, rfl, (BLe.of (RL.app (RL.lst (enc := eW) [] rfl rfl (fun _ => rfl)) (RL.self _)))⟩, trivial⟩) ?_
    refine AWp.le (Le.trans (Le.ren (swapN 5 3000) (swapN_inv 5 3000) rfl) (Le.mk (s' := ⟨8, [(2, .own 3000)], [(3000, q2bW_49 ([] ++ x1))], [], 0⟩) rfl rfl ⟨.refl _, trivial⟩ ⟨⟨_, rfl, .refl _⟩, trivial⟩)) ?_
    have hret := Option.some.inj h
    subst hret
    refine AWp.le (Le.mk (s' := ⟨8, [(2, .own 3000)], [(3000, q2bW_49 ([] ++ x1))], [], 0⟩) rfl rfl ⟨.refl _, trivial⟩ ⟨⟨_, rfl, .refl _⟩, trivial⟩) ?_
    refine AWp.ret ?_
    exact bodyQ_ret _ rfl ⟨rfl, rfl⟩ rfl
def f104 (x1 : List (BitVec 16)) : Option (List (BitVec 16)) := sortO key x1
theorem f104_ok (x1 r : List (BitVec 16)) (h : f104 x1 = some r) : Spec1 Tryd.prog 104 [] [2000] [(2000, bL 49 1 eW 0#16 x1)] [.own 2000, .fn (.func 80) []] (.tup []) [(2000, bL 49 1 eW 0#16 r)] := sortS x1 r h
def f105_L1 (x1 : List (BitVec 16)) (n2 : Nat) (K2 : (Nat × List (BitVec 16)) → Option (List (BitVec 16))) : Nat → (Nat × Nat × List (BitVec 16)) → Option (List (BitVec 16))
  | 0, _ => none
  | k + 1, (n3, n4, l5) =>
    if (decide ((n4 : Int) < ((((x1).length - n2) : Nat) : Int))) then (
    jn (fun ((n6, l7) : Nat × List (BitVec 16)) =>
    chk (((n4 : Int) + (1 : Int)) ≤ 9223372036854775807) <|
    (f105_L1 x1 n2 K2 k) (n6, (n4 + 1), l7)
    ) fun (K3 : (Nat × List (BitVec 16)) → Option (List (BitVec 16))) =>
    chk ((n4 : Int) < ((((x1).length - n2) : Nat) : Int)) <|
    chk ((n2 + n4) < (l5).length) <|
    chk (-9223372036854775808 ≤ ((n4 : Int) - (1 : Int)) ∧ ((n4 : Int) - (1 : Int)) ≤ 9223372036854775807) <|
    chk (0 ≤ ((n4 : Int) - (1 : Int)) ∧ ((n4 : Int) - (1 : Int)) < ((((x1).length - n2) : Nat) : Int)) <|
    chk ((n2 + ((((n4 : Int) - (1 : Int))).toNat)) < (l5).length) <|
    if (!((l5.getD (n2 + n4) 0#16) == (l5.getD (n2 + ((((n4 : Int) - (1 : Int))).toNat)) 0#16))) then (
    chk ((n4 : Int) < ((((x1).length - n2) : Nat) : Int)) <|
    chk ((n2 + n4) < (l5).length) <|
    chk ((n3 : Int) < (((l5).length : Nat) : Int)) <|
    chk (n3 < (l5).length) <|
    chk (((n3 : Int) + (1 : Int)) ≤ 9223372036854775807) <|
    K3 ((n3 + 1), (l5.set n3 (l5.getD (n2 + n4) 0#16)))
    ) else (
    K3 (n3, l5)
    )
    ) else (
    K2 (n3, l5)
    )
def f105_L0 (x1 : List (BitVec 16)) (K1 : Unit → Option (List (BitVec 16))) : Nat → Nat → Option (List (BitVec 16))
  | 0, _ => none
  | k + 1, n2 =>
    if (decide ((n2 : Int) < (((x1).length : Nat) : Int))) then (
    chk ((n2 : Int) < (((x1).length : Nat) : Int)) <|
    chk (n2 < (x1).length) <|
    chk (-9223372036854775808 ≤ ((n2 : Int) - (1 : Int)) ∧ ((n2 : Int) - (1 : Int)) ≤ 9223372036854775807) <|
    chk (0 ≤ ((n2 : Int) - (1 : Int)) ∧ ((n2 : Int) - (1 : Int)) < (((x1).length : Nat) : Int)) <|
    chk (((((n2 : Int) - (1 : Int))).toNat) < (x1).length) <|
    if ((x1.getD n2 0#16) == (x1.getD ((((n2 : Int) - (1 : Int))).toNat) 0#16)) then (
    chk ((n2 : Int) ≤ (((x1).length : Nat) : Int)) <|
    jn (fun ((n8, l9) : Nat × List (BitVec 16)) =>
    chk ((n8 : Int) ≤ (((l9).length : Nat) : Int)) <|
    chk (n8 + ((l9).length - n8) ≤ (l9).length ∧ 0 < ((l9).length - n8)) <|
    chk ((n8 : Int) ≤ ((((l9.take n8 ++ List.replicate ((l9).length - n8) (BitVec.ofInt 16 0))).length : Nat) : Int)) <|
    chk (n8 ≤ (l9.take n8 ++ List.replicate ((l9).length - n8) (BitVec.ofInt 16 0)).length) <|
    some ((l9.take n8 ++ List.replicate ((l9).length - n8) (BitVec.ofInt 16 0)).take n8)
    ) fun (K2 : (Nat × List (BitVec 16)) → Option (List (BitVec 16))) =>
    f105_L1 x1 n2 K2 FUEL (n2, 1, x1)
    ) else (
    chk (((n2 : Int) + (1 : Int)) ≤ 9223372036854775807) <|
    (f105_L0 x1 K1 k) (n2 + 1)
    )
    ) else (
    K1 ()
    )
abbrev f105z0 (x1 : List (BitVec 16)) : Heap := [(2000, bL 49 1 eW 0#16 x1)]
abbrev f105z1 (l9 : List (BitVec 16)) (n8 : Nat) : Heap := [(2000, bL 49 1 eW 0#16 (l9.take n8 ++ List.replicate ((l9).length - n8) (BitVec.ofInt 16 0)))]
def f105 (x1 : List (BitVec 16)) : Option (List (BitVec 16)) :=
  if (decide ((((x1).length : Nat) : Int) < (2 : Int))) then (
  some x1
  ) else (
  jn (fun (_ : Unit) =>
  some x1
  ) fun (K1 : Unit → Option (List (BitVec 16))) =>
  f105_L0 x1 K1 FUEL 1
  )
set_option maxRecDepth 100000 in
theorem f105_ok  (x1 : List (BitVec 16)) (r : List (BitVec 16)) (h : f105 x1 = some r)  : Spec1 Tryd.prog 105 [] [] [(2000, bL 49 1 eW 0#16 x1)] [.own 2000] (.own 2000) [(2000, bL 49 1 eW 0#16 r)] := by
  unfold f105 at h
  refine Spec1.body 0 _ _ Tryd.func105 rfl Tryd.ntmps105 rfl rfl ?_
  refine q2rq [] [] ⟨61, [(0, .own 2000)], (f105z0 x1), [], 0⟩ trivial ?_
  refine AWp.seq ?_
  refine q2rq [] [] ⟨61, [(0, .own 2000), (8, .bool (decide ((lZ x1) < (2 : Int))))], (f105z0 x1), [], 0⟩ trivial ?_
  refine AWp.cond (b := (decide ((lZ x1) < (2 : Int)))) (by kernel_rfl) (fun hc1 => ?_) (fun hc1 => ?_)
  ·
    replace h := ite_tb hc1 h
    refine q2rq [] [] ⟨61, [(2, .own 2000)], (f105z0 x1), [], 0⟩ trivial ?_
    have hret := Option.some.inj h
    subst hret
    refine AWp.le (Le.mk (s' := ⟨61, [(2, .own 2000)], (f105z0 x1), [], 0⟩) rfl rfl ⟨.refl _, trivial⟩ ⟨⟨_, rfl, .refl _⟩, trivial⟩) ?_
    refine AWp.ret ?_
    refine thenQ_ret ?_
    exact bodyQ_ret _ rfl ⟨rfl, rfl⟩ rfl
  ·
    replace h := ite_fb hc1 h
    refine AWp.skip ?_
    refine thenQ_normal ?_
    obtain ⟨K1, hK1, h⟩ := jn_some h
    refine AWp.join (α := Unit) (fun (x : Unit) => match x with | () => ⟨61, [(0, .own 2000)], (f105z0 x1), [], 0⟩) (fun x => K1 x = some r) ?_ ?_
    ·
      refine q2rq [] [] ⟨61, [(0, .own 2000), (3, .i (1 : Int))], (f105z0 x1), [], 0⟩ trivial ?_
      refine AWp.block ?_
      refine AWp.loopL (α := Nat × Nat) (fun x => match x with | (_, n2) => ⟨61, [(0, .own 2000), (3, .i (n2 : Int))], (f105z0 x1), [], 0⟩) (fun x => f105_L0 x1 K1 x.1 x.2 = some r) (fun x => x.1) (FUEL, 1) (Le.mk (s' := ⟨61, [(0, .own 2000), (3, .i (1 : Int))], (f105z0 x1), [], 0⟩) rfl rfl ⟨.refl _, .refl _, trivial⟩ ⟨⟨_, rfl, .refl _⟩, trivial⟩) h ?_
      rintro ⟨k0, n2⟩ h
      cases k0 with
      | zero => exact nomatch (show (none : Option (List (BitVec 16))) = some r from h)
      | succ k0 =>
      obtain ⟨C0, hC0⟩ : ∃ C, C = f105_L0 x1 K1 k0 := ⟨_, rfl⟩
      replace h := (f105_L0.eq_2 ..).symm.trans h
      try rw [← hC0] at h
      refine AWp.seq ?_
      refine q2rq [] [] ⟨61, [(0, .own 2000), (3, .i (n2 : Int)), (13, .bool (decide ((n2 : Int) < (lZ x1))))], (f105z0 x1), [], 0⟩ trivial ?_
      refine AWp.cond (b := (decide ((n2 : Int) < (lZ x1)))) (by kernel_rfl) (fun hc2 => ?_) (fun hc2 => ?_)
      ·
        replace h := ite_tb hc2 h
        refine AWp.skip ?_
        refine thenQ_normal ?_
        refine AWp.seq ?_
        refine AWp.block ?_
        refine AWp.seq ?_
        obtain ⟨ob0p, h⟩ := chk_some h
        have ob0 : 0 ≤ (n2 : Int) ∧ (n2 : Int) < (((x1).length : Nat) : Int) := ⟨by omega, ob0p⟩
        obtain ⟨ob1, ob2, ob3, ob4, h⟩ := ck4 h
        refine q2rr [] [] ⟨61, [(0, .own 2000), (3, .i (n2 : Int)), (25, .bool ((x1.getD n2 0#16) == (x1.getD ((((n2 : Int) - (1 : Int))).toNat) 0#16)))], (f105z0 x1), [], 0⟩ (an5 ob0 ob1 ob2 ob3 ob4) ?_
        refine thenQ_normal ?_
        refine AWp.cond (b := ((x1.getD n2 0#16) == (x1.getD ((((n2 : Int) - (1 : Int))).toNat) 0#16))) (by kernel_rfl) (fun hc3 => ?_) (fun hc3 => ?_)
        ·
          replace h := ite_tb hc3 h
          refine AWp.seq ?_
          obtain ⟨ob5p, h⟩ := chk_some h
          have ob5 : 0 ≤ (n2 : Int) ∧ (n2 : Int) ≤ (((x1).length : Nat) : Int) := ⟨by omega, ob5p⟩
          refine q2rr [] [] ⟨61, [(0, .own 2000), (3, .i (n2 : Int)), (4, .osl 2000 1 n2 ((x1).length - n2))], (f105z0 x1), [], 0⟩ (an1 ob5) ?_
          refine thenQ_normal ?_
          obtain ⟨K2, hK2, h⟩ := jn_some h
          refine AWp.join (α := Nat × List (BitVec 16)) (fun (x : Nat × List (BitVec 16)) => match x with | (n8, l9) => ⟨61, [(0, .own 2000), (3, .i (n8 : Int))], [(2000, q2bW_49 l9)], [], 0⟩) (fun x => K2 x = some r) ?_ ?_
          ·
            refine q2rq [] [] ⟨61, [(0, .own 2000), (3, .i (n2 : Int)), (4, .osl 2000 1 n2 ((x1).length - n2)), (5, .i (1 : Int))], (f105z0 x1), [], 0⟩ trivial ?_
            refine AWp.block ?_
            refine AWp.loopL (α := Nat × (Nat × Nat × List (BitVec 16))) (fun x => match x with | (_, n3, n4, l5) => ⟨61, [(0, .own 2000), (3, .i (n3 : Int)), (4, .osl 2000 1 n2 ((x1).length - n2)), (5, .i (n4 : Int))], [(2000, q2bW_49 l5)], [], 0⟩) (fun x => f105_L1 x1 n2 K2 x.1 x.2 = some r) (fun x => x.1) (FUEL, n2, 1, x1) (Le.mk (s' := ⟨61, [(0, .own 2000), (3, .i (n2 : Int)), (4, .osl 2000 1 n2 ((x1).length - n2)), (5, .i (1 : Int))], (f105z0 x1), [], 0⟩) rfl rfl ⟨.refl _, .refl _, .refl _, .refl _, trivial⟩ ⟨⟨_, rfl, .refl _⟩, trivial⟩) h ?_
            rintro ⟨k1, n3, n4, l5⟩ h
            cases k1 with
            | zero => exact nomatch (show (none : Option (List (BitVec 16))) = some r from h)
            | succ k1 =>
            obtain ⟨C1, hC1⟩ : ∃ C, C = f105_L1 x1 n2 K2 k1 := ⟨_, rfl⟩
            replace h := (f105_L1.eq_2 ..).symm.trans h
            try rw [← hC1] at h
            refine AWp.seq ?_
            refine q2rq [] [] ⟨61, [(0, .own 2000), (3, .i (n3 : Int)), (4, .osl 2000 1 n2 ((x1).length - n2)), (5, .i (n4 : Int)), (32, .bool (decide ((n4 : Int) < ((((x1).length - n2) : Nat) : Int))))], [(2000, q2bW_49 l5)], [], 0⟩ trivial ?_
            refine AWp.cond (b := (decide ((n4 : Int) < ((((x1).length - n2) : Nat) : Int)))) (by kernel_rfl) (fun hc4 => ?_) (fun hc4 => ?_)
            ·
              replace h := ite_tb hc4 h
              refine AWp.skip ?_
              refine thenQ_normal ?_
              obtain ⟨K3, hK3, h⟩ := jn_some h
              refine AWp.join (α := Nat × List (BitVec 16)) (fun (x : Nat × List (BitVec 16)) => match x with | (n6, l7) => ⟨61, [(0, .own 2000), (3, .i (n6 : Int)), (4, .osl 2000 1 n2 ((x1).length - n2)), (5, .i (n4 : Int))], [(2000, q2bW_49 l7)], [], 0⟩) (fun x => K3 x = some r) ?_ ?_
              ·
                refine AWp.block ?_
                refine AWp.seq ?_
                obtain ⟨ob6p, h⟩ := chk_some h
                have ob6 : 0 ≤ (n4 : Int) ∧ (n4 : Int) < ((((x1).length - n2) : Nat) : Int) := ⟨by omega, ob6p⟩
                obtain ⟨ob7, ob8, ob9, ob10, h⟩ := ck4 h
                refine q2rr [] [] ⟨61, [(0, .own 2000), (3, .i (n3 : Int)), (4, .osl 2000 1 n2 ((x1).length - n2)), (5, .i (n4 : Int)), (44, .bool (!((l5.getD (n2 + n4) 0#16) == (l5.getD (n2 + ((((n4 : Int) - (1 : Int))).toNat)) 0#16))))], [(2000, q2bW_49 l5)], [], 0⟩ (an5 ob6 ob7 ob8 ob9 ob10) ?_
                refine thenQ_normal ?_
                refine AWp.cond (b := (!((l5.getD (n2 + n4) 0#16) == (l5.getD (n2 + ((((n4 : Int) - (1 : Int))).toNat)) 0#16)))) (by kernel_rfl) (fun hc5 => ?_) (fun hc5 => ?_)
                ·
                  replace h := ite_tb hc5 h
                  refine AWp.seq ?_
                  obtain ⟨ob11p, h⟩ := chk_some h
                  have ob11 : 0 ≤ (n4 : Int) ∧ (n4 : Int) < ((((x1).length - n2) : Nat) : Int) := ⟨by omega, ob11p⟩
                  obtain ⟨ob12, ob13p, h⟩ := ck2 h
                  have ob13 : 0 ≤ (n3 : Int) ∧ (n3 : Int) < (((l5).length : Nat) : Int) := ⟨by omega, ob13p⟩
                  obtain ⟨ob14, h⟩ := chk_some h
                  refine q2rr [] [] ⟨61, [(0, .own 2000), (3, .i (n3 : Int)), (4, .osl 2000 1 n2 ((x1).length - n2)), (5, .i (n4 : Int))], [(2000, .rows 49 1 (l5).length (updF (encF eW 0#16 l5) n3 0 [.b16 (l5.getD (n2 + n4) 0#16)]))], [], 0⟩ (an4 ob11 ob12 ob13 ob14) ?_
                  refine thenQ_normal ?_
                  refine AWp.le (Le.mk (s' := ⟨61, [(0, .own 2000), (3, .i (n3 : Int)), (4, .osl 2000 1 n2 ((x1).length - n2)), (5, .i (n4 : Int))], [(2000, q2bW_49 (l5.set n3 (l5.getD (n2 + n4) 0#16)))], [], 0⟩) rfl rfl ⟨.refl _, .refl _, .refl _, .refl _, trivial⟩ ⟨⟨_, rfl, (BLe.of (RL.set (l5.getD (n2 + n4) 0#16) (RL.self _) (by intro j hj; match j, hj with | 0, _ => rfl)))⟩, trivial⟩) ?_
                  obtain ⟨ob15p, h⟩ := chk_some h
                  have ob15 : -9223372036854775808 ≤ ((n3 : Int) + (1 : Int)) ∧ ((n3 : Int) + (1 : Int)) ≤ 9223372036854775807 := ⟨by omega, ob15p⟩
                  refine q2rr [] [] ⟨61, [(0, .own 2000), (3, .i (((n3 + 1) : Nat) : Int)), (4, .osl 2000 1 n2 ((x1).length - n2)), (5, .i (n4 : Int))], [(2000, q2bW_49 (l5.set n3 (l5.getD (n2 + n4) 0#16)))], [], 0⟩ (an1 ob15) ?_
                  refine blockQ_normal ?_
                  exact joinQ_normal ((n3 + 1), (l5.set n3 (l5.getD (n2 + n4) 0#16))) (Le.mk rfl rfl ⟨.refl _, .refl _, .refl _, .refl _, trivial⟩ ⟨⟨_, rfl, .refl _⟩, trivial⟩) h
                ·
                  replace h := ite_fb hc5 h
                  refine AWp.skip ?_
                  refine blockQ_normal ?_
                  exact joinQ_normal (n3, l5) (Le.mk rfl rfl ⟨.refl _, .refl _, .refl _, .refl _, trivial⟩ ⟨⟨_, rfl, .refl _⟩, trivial⟩) h
              ·
                rintro ⟨n6, l7⟩ h
                replace h := (congrFun hK3 _).symm.trans h
                obtain ⟨ob16p, h⟩ := chk_some h
                have ob16 : -9223372036854775808 ≤ ((n4 : Int) + (1 : Int)) ∧ ((n4 : Int) + (1 : Int)) ≤ 9223372036854775807 := ⟨by omega, ob16p⟩
                refine q2rr [] [] ⟨61, [(0, .own 2000), (3, .i (n6 : Int)), (4, .osl 2000 1 n2 ((x1).length - n2)), (5, .i (((n4 + 1) : Nat) : Int))], [(2000, q2bW_49 l7)], [], 0⟩ (an1 ob16) ?_
                rw [hC1] at h
                exact loopQ_normal (_, n6, (n4 + 1), l7) (Le.mk rfl rfl ⟨.refl _, .refl _, .refl _, .refl _, trivial⟩ ⟨⟨_, rfl, .refl _⟩, trivial⟩) h (Nat.lt_succ_self _)
            ·
              replace h := ite_fb hc4 h
              refine AWp.exit ?_
              refine thenQ_exit ?_
              refine thenQ_exit ?_
              refine blockQ_same ?_
              exact joinQ_normal (n3, l5) (Le.mk rfl rfl ⟨.refl _, .refl _, trivial⟩ ⟨⟨_, rfl, .refl _⟩, trivial⟩) h
          ·
            rintro ⟨n8, l9⟩ h
            replace h := (congrFun hK2 _).symm.trans h
            refine AWp.seq ?_
            obtain ⟨ob17p, h⟩ := chk_some h
            have ob17 : 0 ≤ (n8 : Int) ∧ (n8 : Int) ≤ (((l9).length : Nat) : Int) := ⟨by omega, ob17p⟩
            obtain ⟨ob18, h⟩ := chk_some h
            refine q2rr [] [] ⟨61, [(0, .own 2000), (3, .i (n8 : Int))], [(2000, .rows 49 1 (l9).length (clrF (encF eW 0#16 l9) n8 ((l9).length - n8) [.b16 (q2w16 0)]))], [], 0⟩ (an2 ob17 ob18) ?_
            refine thenQ_normal ?_
            refine AWp.le (Le.mk (s' := ⟨61, [(0, .own 2000), (3, .i (n8 : Int))], (f105z1 l9 n8), [], 0⟩) rfl rfl ⟨.refl _, .refl _, trivial⟩ ⟨⟨_, rfl, (BLe.of (RL.clr (q2w16 0) (RL.self _) (by first | omega | (simp only [List.length_append, List.length_cons, List.length_nil, List.length_take, List.length_drop] at *; omega) | (simp; done) | (simp_all; done) | (simp_all; omega) | rfl) rfl))⟩, trivial⟩) ?_
            refine AWp.seq ?_
            obtain ⟨ob19p, h⟩ := chk_some h
            have ob19 : 0 ≤ (n8 : Int) ∧ (n8 : Int) ≤ ((((l9.take n8 ++ List.replicate ((l9).length - n8) (q2w16 0))).length : Nat) : Int) := ⟨by omega, ob19p⟩
            refine q2rr [] [] ⟨61, [(2, .osl 2000 1 0 n8)], (f105z1 l9 n8), [], 0⟩ (an1 ob19) ?_
            refine thenQ_normal ?_
            obtain ⟨hk6, h⟩ := chk_some h
            refine AWp.le (Le.trans (Le.cutOwn 2 2000 n8 hk6 rfl rfl rfl) (Le.mk (s' := ⟨61, [(2, .own 2000)], [(2000, q2bW_49 ((l9.take n8 ++ List.replicate ((l9).length - n8) (q2w16 0)).take n8))], [], 0⟩) rfl rfl ⟨.refl _, trivial⟩ ⟨⟨_, rfl, (BLe.of (RL.take (RL.self _) hk6))⟩, trivial⟩)) ?_
            have hret := Option.some.inj h
            subst hret
            refine AWp.le (Le.mk (s' := ⟨61, [(2, .own 2000)], [(2000, q2bW_49 ((l9.take n8 ++ List.replicate ((l9).length - n8) (q2w16 0)).take n8))], [], 0⟩) rfl rfl ⟨.refl _, trivial⟩ ⟨⟨_, rfl, .refl _⟩, trivial⟩) ?_
            refine AWp.ret ?_
            refine blockQ_ret ?_
            refine thenQ_ret ?_
            refine thenQ_ret ?_
            refine blockQ_ret ?_
            refine joinQ_ret ?_
            exact bodyQ_ret _ rfl ⟨rfl, rfl⟩ rfl
        ·
          replace h := ite_fb hc3 h
          refine AWp.skip ?_
          refine blockQ_normal ?_
          refine thenQ_normal ?_
          obtain ⟨ob20p, h⟩ := chk_some h
          have ob20 : -9223372036854775808 ≤ ((n2 : Int) + (1 : Int)) ∧ ((n2 : Int) + (1 : Int)) ≤ 9223372036854775807 := ⟨by omega, ob20p⟩
          refine q2rr [] [] ⟨61, [(0, .own 2000), (3, .i (((n2 + 1) : Nat) : Int))], (f105z0 x1), [], 0⟩ (an1 ob20) ?_
          rw [hC0] at h
          exact loopQ_normal (_, (n2 + 1)) (Le.mk rfl rfl ⟨.refl _, .refl _, trivial⟩ ⟨⟨_, rfl, .refl _⟩, trivial⟩) h (Nat.lt_succ_self _)
      ·
        replace h := ite_fb hc2 h
        refine AWp.exit ?_
        refine thenQ_exit ?_
        refine thenQ_exit ?_
        refine blockQ_same ?_
        exact joinQ_normal () (Le.mk rfl rfl ⟨.refl _, trivial⟩ ⟨⟨_, rfl, .refl _⟩, trivial⟩) h
    ·
      rintro ⟨⟩ h
      replace h := (congrFun hK1 _).symm.trans h
      refine q2rq [] [] ⟨61, [(2, .own 2000)], (f105z0 x1), [], 0⟩ trivial ?_
      have hret := Option.some.inj h
      subst hret
      refine AWp.le (Le.mk (s' := ⟨61, [(2, .own 2000)], (f105z0 x1), [], 0⟩) rfl rfl ⟨.refl _, trivial⟩ ⟨⟨_, rfl, .refl _⟩, trivial⟩) ?_
      refine AWp.ret ?_
      exact bodyQ_ret _ rfl ⟨rfl, rfl⟩ rfl
def f100 (x1 : List (BitVec 16)) : Option (List (BitVec 16)) :=
  (f62 x1).bind fun (r2 : List (BitVec 16)) =>
  (f104 r2).bind fun (r3 : List (BitVec 16)) =>
  (f105 r3).bind fun (r4 : List (BitVec 16)) =>
  some r4
set_option maxRecDepth 100000 in
theorem f100_ok  (x1 : List (BitVec 16)) (r : List (BitVec 16)) (h : f100 x1 = some r)  : Spec1 Tryd.prog 100 [] [] [] [vL 1 eW 0#16 x1] (.own 3000) [(3000, bL 49 1 eW 0#16 r)] := by
  unfold f100 at h
  refine Spec1.body 0 _ _ Tryd.func100 rfl Tryd.ntmps100 rfl rfl ?_
  refine q2rq [] [] ⟨10, [(0, q2aW x1)], [], [], 0⟩ trivial ?_
  refine AWp.seq ?_
  obtain ⟨r2, hr2, h⟩ := bind_ok h
  refine q2rr [] [(1, ⟨[q2aW x1], [], [], [(6001, q2bW_49 r2)], .own 6001, [6001], [], []⟩)] ⟨10, [(3, .own 6001)], [(6001, q2bW_49 r2)], [], 0⟩ (an1 (cpT (Spec1.ren (swapN 3000 6001) (swapN_inv 3000 6001) rfl (f62_ok _ _ hr2)))) ?_
  refine thenQ_normal ?_
  refine AWp.seq ?_
  obtain ⟨r3, hr3, h⟩ := bind_ok h
  refine q2rr [] [(1, ⟨[.own 6001, .fn (.func 80) []], [6001], [6001], [(6001, q2bW_49 r3)], .tup [], [], [], []⟩)] ⟨10, [(3, .own 6001)], [(6001, q2bW_49 r3)], [], 0⟩ (an1 (cpT (Spec1.ren (swapN 2000 6001) (swapN_inv 2000 6001) rfl (f104_ok _ _ hr3)))) ?_
  refine thenQ_normal ?_
  refine AWp.seq ?_
  obtain ⟨r4, hr4, h⟩ := bind_ok h
  refine q2rr [] [(1, ⟨[.own 6001], [6001], [], [(6001, q2bW_49 r4)], .own 6001, [6001], [], []⟩)] ⟨10, [(2, .own 6001)], [(6001, q2bW_49 r4)], [], 0⟩ (an1 (cpT (Spec1.ren (swapN 2000 6001) (swapN_inv 2000 6001) rfl (f105_ok _ _ hr4)))) ?_
  refine thenQ_normal ?_
  refine AWp.le (Le.trans (Le.ren (swapN 6001 3000) (swapN_inv 6001 3000) rfl) (Le.mk (s' := ⟨10, [(2, .own 3000)], [(3000, q2bW_49 r4)], [], 0⟩) rfl rfl ⟨.refl _, trivial⟩ ⟨⟨_, rfl, .refl _⟩, trivial⟩)) ?_
  have hret := Option.some.inj h
  subst hret
  refine AWp.le (Le.mk (s' := ⟨10, [(2, .own 3000)], [(3000, q2bW_49 r4)], [], 0⟩) rfl rfl ⟨.refl _, trivial⟩ ⟨⟨_, rfl, .refl _⟩, trivial⟩) ?_
  refine AWp.ret ?_
  exact bodyQ_ret _ rfl ⟨rfl, rfl⟩ rfl
end Go.Abs
