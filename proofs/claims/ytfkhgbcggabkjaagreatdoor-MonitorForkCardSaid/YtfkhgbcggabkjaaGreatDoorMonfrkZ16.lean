/- Part 16 of the proof: X54s, Aw54s, Pl, Map54, Mon54a, Mon54b, Mon54c, Mon54d. -/
import Derived.Test.YtfkhgbcggabkjaaGreatDoorMonfrkZ15
namespace Go.Abs
open Go Go.Proofs
set_option maxHeartbeats 4000000
set_option maxRecDepth 100000 in
theorem f11_ok   (r : Bool) (h : f11 = some r)  : Spec1 Tryz.prog 11 [] [] [] [] (.bool r) [] := by
  unfold f11 at h
  refine Spec1.body 0 _ _ Tryz.func11 rfl Tryz.ntmps11 rfl rfl ?_
  refine q1rq [] [] ⟨107, [], [], [], 0⟩ trivial ?_
  refine q1rq [] [] ⟨107, [(1, .ptr 1 0)], [(1, .cells 37 [.nils, .nils, .b16 (q1w16 0), .nils, .nils, .nils])], [], 0⟩ (an1 trivial) ?_
  refine q1rq [] [] ⟨107, [(1, .ptr 1 0), (2, .own 21)], [(1, .cells 37 [.nils, .nils, .b16 (q1w16 0), .nils, .nils, .nils]), (21, .rows 51 28 2 (lstF 28 [.i (0 : Int), .i (4 : Int), .i (0 : Int), .i (0 : Int), .i (0 : Int), .str (f11z3), .str [], .i (0 : Int), .i (0 : Int), .i (0 : Int), .i (0 : Int), .i (0 : Int), .str [], .i (0 : Int), .i (0 : Int), .i (0 : Int), .i (0 : Int), .i (0 : Int), .str [], .str [], .nils, .nils, .i (0 : Int), .str [], .nils, .nils, .nils, .nils, .i (0 : Int), .i (3 : Int), .i (0 : Int), .i (0 : Int), .i (0 : Int), .str (f11z4), .str [], .i (0 : Int), .i (0 : Int), .i (0 : Int), .i (0 : Int), .i (0 : Int), .str [], .i (0 : Int), .i (0 : Int), .i (0 : Int), .i (0 : Int), .i (0 : Int), .str [], .str [], .nils, .nils, .i (0 : Int), .str [], .nils, .nils, .nils, .nils]))], [], 0⟩ trivial ?_
  refine AWp.le (Le.mk (s' := ⟨107, [(1, .ptr 1 0), (2, .own 21)], [(1, .cells 37 [.nils, .nils, .b16 (q1w16 0), .nils, .nils, .nils]), (21, q1bT51_51 [(((0 : Int), (4 : Int), (0 : Int), (0 : Int), (0 : Int), (f11z3), []) : Y51), (((0 : Int), (3 : Int), (0 : Int), (0 : Int), (0 : Int), (f11z4), []) : Y51)])], [], 0⟩) rfl rfl ⟨.refl _, .refl _, trivial⟩ ⟨⟨_, rfl, .refl _⟩, ⟨_, rfl, (BLe.of (RL.lstV (enc := eT51) [(((0 : Int), (4 : Int), (0 : Int), (0 : Int), (0 : Int), (f11z3), []) : Y51), (((0 : Int), (3 : Int), (0 : Int), (0 : Int), (0 : Int), (f11z4), []) : Y51)] rfl ⟨.refl _, .refl _, .refl _, .refl _, .refl _, .refl _, .refl _, VLe.opq rfl, VLe.opq rfl, VLe.opq rfl, VLe.opq rfl, VLe.opq rfl, VLe.opq rfl, VLe.opq rfl, VLe.opq rfl, VLe.opq rfl, VLe.opq rfl, VLe.opq rfl, VLe.opq rfl, VLe.opq rfl, VLe.opq rfl, VLe.opq rfl, VLe.opq rfl, VLe.opq rfl, VLe.opq rfl, VLe.opq rfl, VLe.opq rfl, VLe.opq rfl, .refl _, .refl _, .refl _, .refl _, .refl _, .refl _, .refl _, VLe.opq rfl, VLe.opq rfl, VLe.opq rfl, VLe.opq rfl, VLe.opq rfl, VLe.opq rfl, VLe.opq rfl, VLe.opq rfl, VLe.opq rfl, VLe.opq rfl, VLe.opq rfl, VLe.opq rfl, VLe.opq rfl, VLe.opq rfl, VLe.opq rfl, VLe.opq rfl, VLe.opq rfl, VLe.opq rfl, VLe.opq rfl, VLe.opq rfl, VLe.opq rfl, trivial⟩ (fun _ => rfl)))⟩, trivial⟩) ?_
  refine AWp.seq ?_
  obtain ⟨r1, hr1, h⟩ := bind_ok h
  refine q1rr [] [(1, ⟨[q1aT51 [(((0 : Int), (4 : Int), (0 : Int), (0 : Int), (0 : Int), (f11z3), []) : Y51), (((0 : Int), (3 : Int), (0 : Int), (0 : Int), (0 : Int), (f11z4), []) : Y51)]], [], [], [], .tup [.agg (f11z7 r1), .i r1.2.2.2], [], [21], []⟩)] ⟨107, [(1, .ptr 1 0), (2, .own 21), (3, .ptr 3 0), (4, .i r1.2.2.2)], [(1, .cells 37 [.nils, .nils, .b16 (q1w16 0), .nils, .nils, .nils]), (3, .cells 60 (f11z7 r1)), (21, q1bT51_51 [(((0 : Int), (4 : Int), (0 : Int), (0 : Int), (0 : Int), (f11z3), []) : Y51), (((0 : Int), (3 : Int), (0 : Int), (0 : Int), (0 : Int), (f11z4), []) : Y51)])], [], 0⟩ (an2 (cpL (c := true) [(21, q1bT51_51 [(((0 : Int), (4 : Int), (0 : Int), (0 : Int), (0 : Int), (f11z3), []) : Y51), (((0 : Int), (3 : Int), (0 : Int), (0 : Int), (0 : Int), (f11z4), []) : Y51)])] [21] [.own 21] (fun _ => (f22_ok _ _ hr1)) (fun _ => ⟨.refl _, trivial⟩) (.inr ⟨rfl, trivial⟩)) trivial) ?_
  refine thenQ_normal ?_
  refine AWp.seq ?_
  obtain ⟨r2, hr2, h⟩ := bind_ok h
  refine q1rr [] [(2, ⟨[.agg [q1aS [], q1aSW [], .b16 (q1w16 0), vL 6 eT73 (default : List UInt8 × Int × BitVec 16 × List (BitVec 16) × List (BitVec 16) × (f11z9)) [], q1aI [], vL 3 eSBLWWJ (default : List UInt8 × Bool × (f11z9)) []], q1aT51 [(((0 : Int), (4 : Int), (0 : Int), (0 : Int), (0 : Int), (f11z3), []) : Y51), (((0 : Int), (3 : Int), (0 : Int), (0 : Int), (0 : Int), (f11z4), []) : Y51)]], [], [], [], .tup [.i r2.1, .i r2.2.1, .i r2.2.2], [], [21], []⟩)] ⟨107, [(1, .ptr 1 0), (2, .own 21), (3, .ptr 3 0), (4, .i r1.2.2.2), (5, .i r2.1), (6, .i r2.2.1), (7, .i r2.2.2)], [(1, .cells 37 [.nils, .nils, .b16 (q1w16 0), .nils, .nils, .nils]), (3, .cells 60 (f11z7 r1)), (21, q1bT51_51 [(((0 : Int), (4 : Int), (0 : Int), (0 : Int), (0 : Int), (f11z3), []) : Y51), (((0 : Int), (3 : Int), (0 : Int), (0 : Int), (0 : Int), (f11z4), []) : Y51)])], [], 0⟩ (an1 (cpL (c := true) [(21, q1bT51_51 [(((0 : Int), (4 : Int), (0 : Int), (0 : Int), (0 : Int), (f11z3), []) : Y51), (((0 : Int), (3 : Int), (0 : Int), (0 : Int), (0 : Int), (f11z4), []) : Y51)])] [21] [.agg [.nils, .nils, .b16 (q1w16 0), .nils, .nils, .nils], .own 21] (fun _ => (f13_ok _ _ _ _ _ _ _ _ hr2)) (fun _ => ⟨(.aggs ⟨.nilL, .nilL, .refl _, .nilL, .nilL, .nilL, trivial⟩), .refl _, trivial⟩) (.inr ⟨rfl, trivial⟩))) ?_
  refine thenQ_normal ?_
  refine AWp.seq ?_
  obtain ⟨ob0p, h⟩ := chk_some h
  have ob0 : 0 ≤ (0 : Int) ∧ (0 : Int) < ((([(((0 : Int), (4 : Int), (0 : Int), (0 : Int), (0 : Int), ([118] : List UInt8), []) : Y51), (((0 : Int), (3 : Int), (0 : Int), (0 : Int), (0 : Int), ([119] : List UInt8), []) : Y51)]).length : Nat) : Int) := ⟨by omega, ob0p⟩
  obtain ⟨ob1, h⟩ := chk_some h
  refine q1rr [] [] ⟨107, [(1, .ptr 1 0), (3, .ptr 3 0), (4, .i r1.2.2.2), (5, .i r2.1), (6, .i r2.2.1), (7, .i r2.2.2), (8, .own 38)], [(1, .cells 37 [.nils, .nils, .b16 (q1w16 0), .nils, .nils, .nils]), (3, .cells 60 (f11z7 r1)), (38, .rows 51 28 2 (lstF 28 [.i (([(((0 : Int), (4 : Int), (0 : Int), (0 : Int), (0 : Int), (f11z3), []) : Y51), (((0 : Int), (3 : Int), (0 : Int), (0 : Int), (0 : Int), (f11z4), []) : Y51)]).getD 0 q1dT51).1, .i (([(((0 : Int), (4 : Int), (0 : Int), (0 : Int), (0 : Int), (f11z3), []) : Y51), (((0 : Int), (3 : Int), (0 : Int), (0 : Int), (0 : Int), (f11z4), []) : Y51)]).getD 0 q1dT51).2.1, .i (([(((0 : Int), (4 : Int), (0 : Int), (0 : Int), (0 : Int), (f11z3), []) : Y51), (((0 : Int), (3 : Int), (0 : Int), (0 : Int), (0 : Int), (f11z4), []) : Y51)]).getD 0 q1dT51).2.2.1, .i (([(((0 : Int), (4 : Int), (0 : Int), (0 : Int), (0 : Int), (f11z3), []) : Y51), (((0 : Int), (3 : Int), (0 : Int), (0 : Int), (0 : Int), (f11z4), []) : Y51)]).getD 0 q1dT51).2.2.2.1, .i (([(((0 : Int), (4 : Int), (0 : Int), (0 : Int), (0 : Int), (f11z3), []) : Y51), (((0 : Int), (3 : Int), (0 : Int), (0 : Int), (0 : Int), (f11z4), []) : Y51)]).getD 0 q1dT51).2.2.2.2.1, .str (([(((0 : Int), (4 : Int), (0 : Int), (0 : Int), (0 : Int), (f11z3), []) : Y51), (((0 : Int), (3 : Int), (0 : Int), (0 : Int), (0 : Int), (f11z4), []) : Y51)]).getD 0 q1dT51).2.2.2.2.2.1, .str (([(((0 : Int), (4 : Int), (0 : Int), (0 : Int), (0 : Int), (f11z3), []) : Y51), (((0 : Int), (3 : Int), (0 : Int), (0 : Int), (0 : Int), (f11z4), []) : Y51)]).getD 0 q1dT51).2.2.2.2.2.2, .opq, .opq, .opq, .opq, .opq, .opq, .opq, .opq, .opq, .opq, .opq, .opq, .opq, .opq, .opq, .opq, .opq, .opq, .opq, .opq, .opq, .i (0 : Int), .i (3 : Int), .i (0 : Int), .i (0 : Int), .i (0 : Int), .str (f11z3), .str [], .i (0 : Int), .i (0 : Int), .i (0 : Int), .i (0 : Int), .i (0 : Int), .str [], .i (0 : Int), .i (0 : Int), .i (0 : Int), .i (0 : Int), .i (0 : Int), .str [], .str [], .nils, .nils, .i (0 : Int), .str [], .nils, .nils, .nils, .nils]))], [], 0⟩ (an2 ob0 ob1) ?_
  refine thenQ_normal ?_
  refine AWp.le (Le.mk (s' := ⟨107, [(1, .ptr 1 0), (3, .ptr 3 0), (4, .i r1.2.2.2), (5, .i r2.1), (6, .i r2.2.1), (7, .i r2.2.2), (8, .own 38)], [(1, .cells 37 [.nils, .nils, .b16 (q1w16 0), .nils, .nils, .nils]), (3, .cells 60 (f11z7 r1)), (38, q1bT51_51 [(((([(((0 : Int), (4 : Int), (0 : Int), (0 : Int), (0 : Int), (f11z3), []) : Y51), (((0 : Int), (3 : Int), (0 : Int), (0 : Int), (0 : Int), (f11z4), []) : Y51)]).getD 0 q1dT51).1, (([(((0 : Int), (4 : Int), (0 : Int), (0 : Int), (0 : Int), (f11z3), []) : Y51), (((0 : Int), (3 : Int), (0 : Int), (0 : Int), (0 : Int), (f11z4), []) : Y51)]).getD 0 q1dT51).2.1, (([(((0 : Int), (4 : Int), (0 : Int), (0 : Int), (0 : Int), (f11z3), []) : Y51), (((0 : Int), (3 : Int), (0 : Int), (0 : Int), (0 : Int), (f11z4), []) : Y51)]).getD 0 q1dT51).2.2.1, (([(((0 : Int), (4 : Int), (0 : Int), (0 : Int), (0 : Int), (f11z3), []) : Y51), (((0 : Int), (3 : Int), (0 : Int), (0 : Int), (0 : Int), (f11z4), []) : Y51)]).getD 0 q1dT51).2.2.2.1, (([(((0 : Int), (4 : Int), (0 : Int), (0 : Int), (0 : Int), (f11z3), []) : Y51), (((0 : Int), (3 : Int), (0 : Int), (0 : Int), (0 : Int), (f11z4), []) : Y51)]).getD 0 q1dT51).2.2.2.2.1, (([(((0 : Int), (4 : Int), (0 : Int), (0 : Int), (0 : Int), (f11z3), []) : Y51), (((0 : Int), (3 : Int), (0 : Int), (0 : Int), (0 : Int), (f11z4), []) : Y51)]).getD 0 q1dT51).2.2.2.2.2.1, (([(((0 : Int), (4 : Int), (0 : Int), (0 : Int), (0 : Int), (f11z3), []) : Y51), (((0 : Int), (3 : Int), (0 : Int), (0 : Int), (0 : Int), (f11z4), []) : Y51)]).getD 0 q1dT51).2.2.2.2.2.2) : Y51), (((0 : Int), (3 : Int), (0 : Int), (0 : Int), (0 : Int), (f11z3), []) : Y51)])], [], 0⟩) rfl rfl ⟨.refl _, .refl _, .refl _, .refl _, .refl _, .refl _, .refl _, trivial⟩ ⟨⟨_, rfl, .refl _⟩, ⟨_, rfl, .refl _⟩, ⟨_, rfl, (BLe.of (RL.lstV (enc := eT51) [(((([(((0 : Int), (4 : Int), (0 : Int), (0 : Int), (0 : Int), (f11z3), []) : Y51), (((0 : Int), (3 : Int), (0 : Int), (0 : Int), (0 : Int), (f11z4), []) : Y51)]).getD 0 q1dT51).1, (([(((0 : Int), (4 : Int), (0 : Int), (0 : Int), (0 : Int), (f11z3), []) : Y51), (((0 : Int), (3 : Int), (0 : Int), (0 : Int), (0 : Int), (f11z4), []) : Y51)]).getD 0 q1dT51).2.1, (([(((0 : Int), (4 : Int), (0 : Int), (0 : Int), (0 : Int), (f11z3), []) : Y51), (((0 : Int), (3 : Int), (0 : Int), (0 : Int), (0 : Int), (f11z4), []) : Y51)]).getD 0 q1dT51).2.2.1, (([(((0 : Int), (4 : Int), (0 : Int), (0 : Int), (0 : Int), (f11z3), []) : Y51), (((0 : Int), (3 : Int), (0 : Int), (0 : Int), (0 : Int), (f11z4), []) : Y51)]).getD 0 q1dT51).2.2.2.1, (([(((0 : Int), (4 : Int), (0 : Int), (0 : Int), (0 : Int), (f11z3), []) : Y51), (((0 : Int), (3 : Int), (0 : Int), (0 : Int), (0 : Int), (f11z4), []) : Y51)]).getD 0 q1dT51).2.2.2.2.1, (([(((0 : Int), (4 : Int), (0 : Int), (0 : Int), (0 : Int), (f11z3), []) : Y51), (((0 : Int), (3 : Int), (0 : Int), (0 : Int), (0 : Int), (f11z4), []) : Y51)]).getD 0 q1dT51).2.2.2.2.2.1, (([(((0 : Int), (4 : Int), (0 : Int), (0 : Int), (0 : Int), (f11z3), []) : Y51), (((0 : Int), (3 : Int), (0 : Int), (0 : Int), (0 : Int), (f11z4), []) : Y51)]).getD 0 q1dT51).2.2.2.2.2.2) : Y51), (((0 : Int), (3 : Int), (0 : Int), (0 : Int), (0 : Int), (f11z3), []) : Y51)] rfl ⟨.refl _, .refl _, .refl _, .refl _, .refl _, .refl _, .refl _, .refl _, .refl _, .refl _, .refl _, .refl _, .refl _, .refl _, .refl _, .refl _, .refl _, .refl _, .refl _, .refl _, .refl _, .refl _, .refl _, .refl _, .refl _, .refl _, .refl _, .refl _, .refl _, .refl _, .refl _, .refl _, .refl _, .refl _, .refl _, VLe.opq rfl, VLe.opq rfl, VLe.opq rfl, VLe.opq rfl, VLe.opq rfl, VLe.opq rfl, VLe.opq rfl, VLe.opq rfl, VLe.opq rfl, VLe.opq rfl, VLe.opq rfl, VLe.opq rfl, VLe.opq rfl, VLe.opq rfl, VLe.opq rfl, VLe.opq rfl, VLe.opq rfl, VLe.opq rfl, VLe.opq rfl, VLe.opq rfl, VLe.opq rfl, trivial⟩ (fun _ => rfl)))⟩, trivial⟩) ?_
  refine AWp.seq ?_
  obtain ⟨r3, hr3, h⟩ := bind_ok h
  refine q1rr [] [(2, ⟨[.agg [q1aS [], q1aSW [], .b16 (q1w16 0), vL 6 eT73 (default : List UInt8 × Int × BitVec 16 × List (BitVec 16) × List (BitVec 16) × (f11z9)) [], q1aI [], vL 3 eSBLWWJ (default : List UInt8 × Bool × (f11z9)) []], q1aT51 [(((([(((0 : Int), (4 : Int), (0 : Int), (0 : Int), (0 : Int), (f11z3), []) : Y51), (((0 : Int), (3 : Int), (0 : Int), (0 : Int), (0 : Int), (f11z4), []) : Y51)]).getD 0 q1dT51).1, (([(((0 : Int), (4 : Int), (0 : Int), (0 : Int), (0 : Int), (f11z3), []) : Y51), (((0 : Int), (3 : Int), (0 : Int), (0 : Int), (0 : Int), (f11z4), []) : Y51)]).getD 0 q1dT51).2.1, (([(((0 : Int), (4 : Int), (0 : Int), (0 : Int), (0 : Int), (f11z3), []) : Y51), (((0 : Int), (3 : Int), (0 : Int), (0 : Int), (0 : Int), (f11z4), []) : Y51)]).getD 0 q1dT51).2.2.1, (([(((0 : Int), (4 : Int), (0 : Int), (0 : Int), (0 : Int), (f11z3), []) : Y51), (((0 : Int), (3 : Int), (0 : Int), (0 : Int), (0 : Int), (f11z4), []) : Y51)]).getD 0 q1dT51).2.2.2.1, (([(((0 : Int), (4 : Int), (0 : Int), (0 : Int), (0 : Int), (f11z3), []) : Y51), (((0 : Int), (3 : Int), (0 : Int), (0 : Int), (0 : Int), (f11z4), []) : Y51)]).getD 0 q1dT51).2.2.2.2.1, (([(((0 : Int), (4 : Int), (0 : Int), (0 : Int), (0 : Int), (f11z3), []) : Y51), (((0 : Int), (3 : Int), (0 : Int), (0 : Int), (0 : Int), (f11z4), []) : Y51)]).getD 0 q1dT51).2.2.2.2.2.1, (([(((0 : Int), (4 : Int), (0 : Int), (0 : Int), (0 : Int), (f11z3), []) : Y51), (((0 : Int), (3 : Int), (0 : Int), (0 : Int), (0 : Int), (f11z4), []) : Y51)]).getD 0 q1dT51).2.2.2.2.2.2) : Y51), (((0 : Int), (3 : Int), (0 : Int), (0 : Int), (0 : Int), (f11z3), []) : Y51)]], [], [], [], .tup [.i r3.1, .i r3.2.1, .i r3.2.2], [], [38], []⟩)] ⟨107, [(1, .ptr 1 0), (3, .ptr 3 0), (4, .i r1.2.2.2), (5, .i r2.1), (6, .i r2.2.1), (7, .i r2.2.2), (8, .own 38), (11, .i r3.2.2)], [(1, .cells 37 [.nils, .nils, .b16 (q1w16 0), .nils, .nils, .nils]), (3, .cells 60 (f11z7 r1)), (38, q1bT51_51 [(((([(((0 : Int), (4 : Int), (0 : Int), (0 : Int), (0 : Int), (f11z3), []) : Y51), (((0 : Int), (3 : Int), (0 : Int), (0 : Int), (0 : Int), (f11z4), []) : Y51)]).getD 0 q1dT51).1, (([(((0 : Int), (4 : Int), (0 : Int), (0 : Int), (0 : Int), (f11z3), []) : Y51), (((0 : Int), (3 : Int), (0 : Int), (0 : Int), (0 : Int), (f11z4), []) : Y51)]).getD 0 q1dT51).2.1, (([(((0 : Int), (4 : Int), (0 : Int), (0 : Int), (0 : Int), (f11z3), []) : Y51), (((0 : Int), (3 : Int), (0 : Int), (0 : Int), (0 : Int), (f11z4), []) : Y51)]).getD 0 q1dT51).2.2.1, (([(((0 : Int), (4 : Int), (0 : Int), (0 : Int), (0 : Int), (f11z3), []) : Y51), (((0 : Int), (3 : Int), (0 : Int), (0 : Int), (0 : Int), (f11z4), []) : Y51)]).getD 0 q1dT51).2.2.2.1, (([(((0 : Int), (4 : Int), (0 : Int), (0 : Int), (0 : Int), (f11z3), []) : Y51), (((0 : Int), (3 : Int), (0 : Int), (0 : Int), (0 : Int), (f11z4), []) : Y51)]).getD 0 q1dT51).2.2.2.2.1, (([(((0 : Int), (4 : Int), (0 : Int), (0 : Int), (0 : Int), (f11z3), []) : Y51), (((0 : Int), (3 : Int), (0 : Int), (0 : Int), (0 : Int), (f11z4), []) : Y51)]).getD 0 q1dT51).2.2.2.2.2.1, (([(((0 : Int), (4 : Int), (0 : Int), (0 : Int), (0 : Int), (f11z3), []) : Y51), (((0 : Int), (3 : Int), (0 : Int), (0 : Int), (0 : Int), (f11z4), []) : Y51)]).getD 0 q1dT51).2.2.2.2.2.2) : Y51), (((0 : Int), (3 : Int), (0 : Int), (0 : Int), (0 : Int), (f11z3), []) : Y51)])], [], 0⟩ (an1 (cpL (c := true) [(38, q1bT51_51 [(((([(((0 : Int), (4 : Int), (0 : Int), (0 : Int), (0 : Int), (f11z3), []) : Y51), (((0 : Int), (3 : Int), (0 : Int), (0 : Int), (0 : Int), (f11z4), []) : Y51)]).getD 0 q1dT51).1, (([(((0 : Int), (4 : Int), (0 : Int), (0 : Int), (0 : Int), (f11z3), []) : Y51), (((0 : Int), (3 : Int), (0 : Int), (0 : Int), (0 : Int), (f11z4), []) : Y51)]).getD 0 q1dT51).2.1, (([(((0 : Int), (4 : Int), (0 : Int), (0 : Int), (0 : Int), (f11z3), []) : Y51), (((0 : Int), (3 : Int), (0 : Int), (0 : Int), (0 : Int), (f11z4), []) : Y51)]).getD 0 q1dT51).2.2.1, (([(((0 : Int), (4 : Int), (0 : Int), (0 : Int), (0 : Int), (f11z3), []) : Y51), (((0 : Int), (3 : Int), (0 : Int), (0 : Int), (0 : Int), (f11z4), []) : Y51)]).getD 0 q1dT51).2.2.2.1, (([(((0 : Int), (4 : Int), (0 : Int), (0 : Int), (0 : Int), (f11z3), []) : Y51), (((0 : Int), (3 : Int), (0 : Int), (0 : Int), (0 : Int), (f11z4), []) : Y51)]).getD 0 q1dT51).2.2.2.2.1, (([(((0 : Int), (4 : Int), (0 : Int), (0 : Int), (0 : Int), (f11z3), []) : Y51), (((0 : Int), (3 : Int), (0 : Int), (0 : Int), (0 : Int), (f11z4), []) : Y51)]).getD 0 q1dT51).2.2.2.2.2.1, (([(((0 : Int), (4 : Int), (0 : Int), (0 : Int), (0 : Int), (f11z3), []) : Y51), (((0 : Int), (3 : Int), (0 : Int), (0 : Int), (0 : Int), (f11z4), []) : Y51)]).getD 0 q1dT51).2.2.2.2.2.2) : Y51), (((0 : Int), (3 : Int), (0 : Int), (0 : Int), (0 : Int), (f11z3), []) : Y51)])] [38] [.agg [.nils, .nils, .b16 (q1w16 0), .nils, .nils, .nils], .own 38] (fun _ => (f13_ok _ _ _ _ _ _ _ _ hr3)) (fun _ => ⟨(.aggs ⟨.nilL, .nilL, .refl _, .nilL, .nilL, .nilL, trivial⟩), .refl _, trivial⟩) (.inr ⟨rfl, trivial⟩))) ?_
  refine thenQ_normal ?_
  refine AWp.seq ?_
  obtain ⟨r4, hr4, h⟩ := bind_ok h
  refine q1rr [] [(3, ⟨[.agg [q1aS [], q1aSW [], .b16 (q1w16 0), vL 6 eT73 (default : List UInt8 × Int × BitVec 16 × List (BitVec 16) × List (BitVec 16) × (f11z9)) [], q1aI [], vL 3 eSBLWWJ (default : List UInt8 × Bool × (f11z9)) []], q1aT51 [(((0 : Int), (2 : Int), (0 : Int), (0 : Int), (1 : Int), [], ([111, 107, 32, 49] : List UInt8)) : Y51)]], [], [], [], .tup [.i r4.1, .i r4.2.1, .i r4.2.2], [], [49], []⟩)] ⟨107, [(1, .ptr 1 0), (3, .ptr 3 0), (4, .i r1.2.2.2), (5, .i r2.1), (6, .i r2.2.1), (7, .i r2.2.2), (8, .own 38), (11, .i r3.2.2), (13, .i r4.2.1), (14, .i r4.2.2)], [(1, .cells 37 [.nils, .nils, .b16 (q1w16 0), .nils, .nils, .nils]), (3, .cells 60 (f11z7 r1)), (38, q1bT51_51 [(((([(((0 : Int), (4 : Int), (0 : Int), (0 : Int), (0 : Int), (f11z3), []) : Y51), (((0 : Int), (3 : Int), (0 : Int), (0 : Int), (0 : Int), (f11z4), []) : Y51)]).getD 0 q1dT51).1, (([(((0 : Int), (4 : Int), (0 : Int), (0 : Int), (0 : Int), (f11z3), []) : Y51), (((0 : Int), (3 : Int), (0 : Int), (0 : Int), (0 : Int), (f11z4), []) : Y51)]).getD 0 q1dT51).2.1, (([(((0 : Int), (4 : Int), (0 : Int), (0 : Int), (0 : Int), (f11z3), []) : Y51), (((0 : Int), (3 : Int), (0 : Int), (0 : Int), (0 : Int), (f11z4), []) : Y51)]).getD 0 q1dT51).2.2.1, (([(((0 : Int), (4 : Int), (0 : Int), (0 : Int), (0 : Int), (f11z3), []) : Y51), (((0 : Int), (3 : Int), (0 : Int), (0 : Int), (0 : Int), (f11z4), []) : Y51)]).getD 0 q1dT51).2.2.2.1, (([(((0 : Int), (4 : Int), (0 : Int), (0 : Int), (0 : Int), (f11z3), []) : Y51), (((0 : Int), (3 : Int), (0 : Int), (0 : Int), (0 : Int), (f11z4), []) : Y51)]).getD 0 q1dT51).2.2.2.2.1, (([(((0 : Int), (4 : Int), (0 : Int), (0 : Int), (0 : Int), (f11z3), []) : Y51), (((0 : Int), (3 : Int), (0 : Int), (0 : Int), (0 : Int), (f11z4), []) : Y51)]).getD 0 q1dT51).2.2.2.2.2.1, (([(((0 : Int), (4 : Int), (0 : Int), (0 : Int), (0 : Int), (f11z3), []) : Y51), (((0 : Int), (3 : Int), (0 : Int), (0 : Int), (0 : Int), (f11z4), []) : Y51)]).getD 0 q1dT51).2.2.2.2.2.2) : Y51), (((0 : Int), (3 : Int), (0 : Int), (0 : Int), (0 : Int), (f11z3), []) : Y51)])], [], 0⟩ (an1 (cpL (c := true) [(49, .rows 51 28 1 (lstF 28 [.i (0 : Int), .i (2 : Int), .i (0 : Int), .i (0 : Int), .i (1 : Int), .str [], .str ([111, 107, 32, 49] : List UInt8), .i (0 : Int), .i (0 : Int), .i (0 : Int), .i (0 : Int), .i (0 : Int), .str [], .i (0 : Int), .i (0 : Int), .i (0 : Int), .i (0 : Int), .i (0 : Int), .str [], .str [], .nils, .nils, .i (0 : Int), .str [], .nils, .nils, .nils, .nils]))] [49] [.agg [.nils, .nils, .b16 (q1w16 0), .nils, .nils, .nils], .own 49] (fun _ => (f13_ok _ _ _ _ _ _ _ _ hr4)) (fun _ => ⟨(.aggs ⟨.nilL, .nilL, .refl _, .nilL, .nilL, .nilL, trivial⟩), (VLe.of (RL.lstV (enc := eT51) [(((0 : Int), (2 : Int), (0 : Int), (0 : Int), (1 : Int), [], ([111, 107, 32, 49] : List UInt8)) : Y51)] rfl ⟨.refl _, .refl _, .refl _, .refl _, .refl _, .refl _, .refl _, VLe.opq rfl, VLe.opq rfl, VLe.opq rfl, VLe.opq rfl, VLe.opq rfl, VLe.opq rfl, VLe.opq rfl, VLe.opq rfl, VLe.opq rfl, VLe.opq rfl, VLe.opq rfl, VLe.opq rfl, VLe.opq rfl, VLe.opq rfl, VLe.opq rfl, VLe.opq rfl, VLe.opq rfl, VLe.opq rfl, VLe.opq rfl, VLe.opq rfl, VLe.opq rfl, trivial⟩ (fun _ => rfl))), trivial⟩) (.inr ⟨rfl, trivial⟩))) ?_
  refine thenQ_normal ?_
  refine AWp.seq ?_
  obtain ⟨r5, hr5, h⟩ := bind_ok h
  refine q1rr [] [(3, ⟨[.agg [q1aS [], q1aSW [], .b16 (q1w16 0), vL 6 eT73 (default : List UInt8 × Int × BitVec 16 × List (BitVec 16) × List (BitVec 16) × (f11z9)) [], q1aI [], vL 3 eSBLWWJ (default : List UInt8 × Bool × (f11z9)) []], q1aT51 [(((0 : Int), (3 : Int), (0 : Int), (1 : Int), (0 : Int), (f11z3), []) : Y51)]], [], [], [], .tup [.i r5.1, .i r5.2.1, .i r5.2.2], [], [57], []⟩)] ⟨107, [(3, .ptr 3 0), (4, .i r1.2.2.2), (5, .i r2.1), (6, .i r2.2.1), (7, .i r2.2.2), (8, .own 38), (11, .i r3.2.2), (13, .i r4.2.1), (14, .i r4.2.2), (16, .i r5.2.1), (17, .i r5.2.2)], [(3, .cells 60 (f11z7 r1)), (38, q1bT51_51 [(((([(((0 : Int), (4 : Int), (0 : Int), (0 : Int), (0 : Int), (f11z3), []) : Y51), (((0 : Int), (3 : Int), (0 : Int), (0 : Int), (0 : Int), (f11z4), []) : Y51)]).getD 0 q1dT51).1, (([(((0 : Int), (4 : Int), (0 : Int), (0 : Int), (0 : Int), (f11z3), []) : Y51), (((0 : Int), (3 : Int), (0 : Int), (0 : Int), (0 : Int), (f11z4), []) : Y51)]).getD 0 q1dT51).2.1, (([(((0 : Int), (4 : Int), (0 : Int), (0 : Int), (0 : Int), (f11z3), []) : Y51), (((0 : Int), (3 : Int), (0 : Int), (0 : Int), (0 : Int), (f11z4), []) : Y51)]).getD 0 q1dT51).2.2.1, (([(((0 : Int), (4 : Int), (0 : Int), (0 : Int), (0 : Int), (f11z3), []) : Y51), (((0 : Int), (3 : Int), (0 : Int), (0 : Int), (0 : Int), (f11z4), []) : Y51)]).getD 0 q1dT51).2.2.2.1, (([(((0 : Int), (4 : Int), (0 : Int), (0 : Int), (0 : Int), (f11z3), []) : Y51), (((0 : Int), (3 : Int), (0 : Int), (0 : Int), (0 : Int), (f11z4), []) : Y51)]).getD 0 q1dT51).2.2.2.2.1, (([(((0 : Int), (4 : Int), (0 : Int), (0 : Int), (0 : Int), (f11z3), []) : Y51), (((0 : Int), (3 : Int), (0 : Int), (0 : Int), (0 : Int), (f11z4), []) : Y51)]).getD 0 q1dT51).2.2.2.2.2.1, (([(((0 : Int), (4 : Int), (0 : Int), (0 : Int), (0 : Int), (f11z3), []) : Y51), (((0 : Int), (3 : Int), (0 : Int), (0 : Int), (0 : Int), (f11z4), []) : Y51)]).getD 0 q1dT51).2.2.2.2.2.2) : Y51), (((0 : Int), (3 : Int), (0 : Int), (0 : Int), (0 : Int), (f11z3), []) : Y51)])], [], 0⟩ (an1 (cpL (c := true) [(57, .rows 51 28 1 (lstF 28 [.i (0 : Int), .i (3 : Int), .i (0 : Int), .i (1 : Int), .i (0 : Int), .str (f11z3), .str [], .i (0 : Int), .i (0 : Int), .i (0 : Int), .i (0 : Int), .i (0 : Int), .str [], .i (0 : Int), .i (0 : Int), .i (0 : Int), .i (0 : Int), .i (0 : Int), .str [], .str [], .nils, .nils, .i (0 : Int), .str [], .nils, .nils, .nils, .nils]))] [57] [.agg [.nils, .nils, .b16 (q1w16 0), .nils, .nils, .nils], .own 57] (fun _ => (f13_ok _ _ _ _ _ _ _ _ hr5)) (fun _ => ⟨(.aggs ⟨.nilL, .nilL, .refl _, .nilL, .nilL, .nilL, trivial⟩), (VLe.of (RL.lstV (enc := eT51) [(((0 : Int), (3 : Int), (0 : Int), (1 : Int), (0 : Int), (f11z3), []) : Y51)] rfl ⟨.refl _, .refl _, .refl _, .refl _, .refl _, .refl _, .refl _, VLe.opq rfl, VLe.opq rfl, VLe.opq rfl, VLe.opq rfl, VLe.opq rfl, VLe.opq rfl, VLe.opq rfl, VLe.opq rfl, VLe.opq rfl, VLe.opq rfl, VLe.opq rfl, VLe.opq rfl, VLe.opq rfl, VLe.opq rfl, VLe.opq rfl, VLe.opq rfl, VLe.opq rfl, VLe.opq rfl, VLe.opq rfl, VLe.opq rfl, VLe.opq rfl, trivial⟩ (fun _ => rfl))), trivial⟩) (.inr ⟨rfl, trivial⟩))) ?_
  refine thenQ_normal ?_
  refine AWp.seq ?_
  by_cases hg9_39 : ((((((((((r1.2.2.2 == (0 : Int)) && ((r1.1 == (0 : Int)) && ((r1.2.1 == (0 : Int)) && ((r1.2.2.1 == (12 : Int)) && true)))) && (r2.2.2 == (0 : Int))) && (r2.1 == (1 : Int))) && (r2.2.1 == (1 : Int))) && (r3.2.2 == (13 : Int))) && (r4.2.2 == (0 : Int))) && (r4.2.1 == (3 : Int))) && (r5.2.2 == (0 : Int))) && (r5.2.1 == (2 : Int))) = true
  ·
    replace h := ite_t hg9_39 h
    obtain ⟨r6, hr6, h⟩ := bind_ok h
    obtain ⟨r7, hr7, h⟩ := bind_ok h
    have ob2 := idA ((f11z8 r1) = true)
    have ob3 := idA ((f11z8 r1) = true)
    have ob4 : true = true → (r1.2.2.2 == (0 : Int)) = true → (f11z8 r1) = true := fun _ h => beq_iff_eq.2 h
    have ob5 := idA (((f11z2 r1) == true) = true)
    have ob6 := bqA (f11z2 r1) true
    have ob7 := idA ((f11z10 r1 r2) = true)
    have ob8 : true = true → ((f11z2 r1) && (r2.2.2 == (0 : Int))) = true → (f11z10 r1 r2) = true := fun _ h => beq_iff_eq.2 h
    have ob9 := idA (((f11z0 r1 r2) == true) = true)
    have ob10 := bqA (f11z0 r1 r2) true
    have ob11 := idA (((f11z6 r1 r2) == true) = true)
    have ob12 := bqA (f11z6 r1 r2) true
    have ob13 := idA ((f11z11 r1 r2 r3) = true)
    have ob14 : true = true → ((f11z6 r1 r2) && (r3.2.2 == (13 : Int))) = true → (f11z11 r1 r2 r3) = true := fun _ h => beq_iff_eq.2 h
    have ob15 := idA (((f11z1 r1 r2 r3 r4) == true) = true)
    have ob16 := bqA (f11z1 r1 r2 r3 r4) true
    have ob17 := idA (((f11z5 r1 r2 r3 r4) == true) = true)
    have ob18 := bqA (f11z5 r1 r2 r3 r4) true
    have ob19 := idA ((((f11z5 r1 r2 r3 r4) && (r5.2.2 == (0 : Int))) == true) = true)
    have ob20 := bqA ((f11z5 r1 r2 r3 r4) && (r5.2.2 == (0 : Int))) true
    have ob21 := idA (true = true)
    have ob22 : true = true → true = true → true = true := fun _ h => h
    refine q1rr [] [(39, ⟨[], [], [], [], (.bool true), [], [0], []⟩), (41, ⟨[q1aT51 [(((([(((0 : Int), (4 : Int), (0 : Int), (0 : Int), (0 : Int), (f11z3), []) : Y51), (((0 : Int), (3 : Int), (0 : Int), (0 : Int), (0 : Int), (f11z4), []) : Y51)]).getD 0 q1dT51).1, (([(((0 : Int), (4 : Int), (0 : Int), (0 : Int), (0 : Int), (f11z3), []) : Y51), (((0 : Int), (3 : Int), (0 : Int), (0 : Int), (0 : Int), (f11z4), []) : Y51)]).getD 0 q1dT51).2.1, (([(((0 : Int), (4 : Int), (0 : Int), (0 : Int), (0 : Int), (f11z3), []) : Y51), (((0 : Int), (3 : Int), (0 : Int), (0 : Int), (0 : Int), (f11z4), []) : Y51)]).getD 0 q1dT51).2.2.1, (([(((0 : Int), (4 : Int), (0 : Int), (0 : Int), (0 : Int), (f11z3), []) : Y51), (((0 : Int), (3 : Int), (0 : Int), (0 : Int), (0 : Int), (f11z4), []) : Y51)]).getD 0 q1dT51).2.2.2.1, (([(((0 : Int), (4 : Int), (0 : Int), (0 : Int), (0 : Int), (f11z3), []) : Y51), (((0 : Int), (3 : Int), (0 : Int), (0 : Int), (0 : Int), (f11z4), []) : Y51)]).getD 0 q1dT51).2.2.2.2.1, (([(((0 : Int), (4 : Int), (0 : Int), (0 : Int), (0 : Int), (f11z3), []) : Y51), (((0 : Int), (3 : Int), (0 : Int), (0 : Int), (0 : Int), (f11z4), []) : Y51)]).getD 0 q1dT51).2.2.2.2.2.1, (([(((0 : Int), (4 : Int), (0 : Int), (0 : Int), (0 : Int), (f11z3), []) : Y51), (((0 : Int), (3 : Int), (0 : Int), (0 : Int), (0 : Int), (f11z4), []) : Y51)]).getD 0 q1dT51).2.2.2.2.2.2) : Y51), (((0 : Int), (3 : Int), (0 : Int), (0 : Int), (0 : Int), (f11z3), []) : Y51)]], [], [], [(6001, q1bS_9 r6)], .own 6001, [6001], [38], []⟩), (43, ⟨[q1aS r6, q1aS [(f11z3)]], [], [], [], .bool r7, [], [6001, 104], []⟩)] ⟨107, [(0, .bool r7)], [], [], 0⟩ (ac6 (an2 ob2 ob3) ob4 (an1 ob5) ob6 (an1 ob7) ob8 (ac6 (an1 ob9) ob10 (an1 ob11) ob12 (an1 ob13) ob14 (ac6 (an1 ob15) ob16 (an1 ob17) ob18 (an1 ob19) ob20 (an4 (show ((.bool (((f11z5 r1 r2 r3 r4) && (r5.2.2 == (0 : Int))) && (r5.2.1 == (2 : Int)))) : V) = (.bool true) from (congrArg (fun x => ((.bool x) : V)) hg9_39)) (And.intro (cpL (c := true) [(38, q1bT51_51 [(((([(((0 : Int), (4 : Int), (0 : Int), (0 : Int), (0 : Int), (f11z3), []) : Y51), (((0 : Int), (3 : Int), (0 : Int), (0 : Int), (0 : Int), (f11z4), []) : Y51)]).getD 0 q1dT51).1, (([(((0 : Int), (4 : Int), (0 : Int), (0 : Int), (0 : Int), (f11z3), []) : Y51), (((0 : Int), (3 : Int), (0 : Int), (0 : Int), (0 : Int), (f11z4), []) : Y51)]).getD 0 q1dT51).2.1, (([(((0 : Int), (4 : Int), (0 : Int), (0 : Int), (0 : Int), (f11z3), []) : Y51), (((0 : Int), (3 : Int), (0 : Int), (0 : Int), (0 : Int), (f11z4), []) : Y51)]).getD 0 q1dT51).2.2.1, (([(((0 : Int), (4 : Int), (0 : Int), (0 : Int), (0 : Int), (f11z3), []) : Y51), (((0 : Int), (3 : Int), (0 : Int), (0 : Int), (0 : Int), (f11z4), []) : Y51)]).getD 0 q1dT51).2.2.2.1, (([(((0 : Int), (4 : Int), (0 : Int), (0 : Int), (0 : Int), (f11z3), []) : Y51), (((0 : Int), (3 : Int), (0 : Int), (0 : Int), (0 : Int), (f11z4), []) : Y51)]).getD 0 q1dT51).2.2.2.2.1, (([(((0 : Int), (4 : Int), (0 : Int), (0 : Int), (0 : Int), (f11z3), []) : Y51), (((0 : Int), (3 : Int), (0 : Int), (0 : Int), (0 : Int), (f11z4), []) : Y51)]).getD 0 q1dT51).2.2.2.2.2.1, (([(((0 : Int), (4 : Int), (0 : Int), (0 : Int), (0 : Int), (f11z3), []) : Y51), (((0 : Int), (3 : Int), (0 : Int), (0 : Int), (0 : Int), (f11z4), []) : Y51)]).getD 0 q1dT51).2.2.2.2.2.2) : Y51), (((0 : Int), (3 : Int), (0 : Int), (0 : Int), (0 : Int), (f11z3), []) : Y51)])] [38] [.own 38] (fun _ => (Spec1.ren (swapN 3000 6001) (swapN_inv 3000 6001) rfl (f14_ok _ _ hr6))) (fun _ => ⟨.refl _, trivial⟩) (.inr ⟨rfl, ⟨(fun _ _ _ _ => eS_flat _ _), trivial⟩⟩)) (an1 ob21)) (cpL (c := true) [(6001, q1bS_9 r6), (104, .rows 9 1 1 (lstF 1 [.str (f11z3)]))] [6001, 104] [.own 6001, .own 104] (fun _ => (f15_ok _ _ _ hr7)) (fun _ => ⟨.refl _, (VLe.of (RL.lst (enc := eS) [(f11z3)] rfl rfl (fun _ => rfl))), trivial⟩) (.inr ⟨rfl, trivial⟩)) ob22)))) ?_
    refine thenQ_normal ?_
    have hret := Option.some.inj h
    subst hret
    refine AWp.le (Le.mk (s' := ⟨107, [(0, .bool r7)], [], [], 0⟩) rfl rfl ⟨.refl _, trivial⟩ trivial) ?_
    refine AWp.ret ?_
    exact bodyQ_ret _ rfl ⟨rfl, rfl⟩ rfl
  ·
    replace h := ite_f hg9_39 h
    have ob2 := idA ((f11z8 r1) = true)
    have ob3 := idA ((f11z8 r1) = true)
    have ob4 : true = true → (r1.2.2.2 == (0 : Int)) = true → (f11z8 r1) = true := fun _ h => beq_iff_eq.2 h
    have ob5 := idA (((f11z2 r1) == true) = true)
    have ob6 := bqA (f11z2 r1) true
    have ob7 := idA ((f11z10 r1 r2) = true)
    have ob8 : true = true → ((f11z2 r1) && (r2.2.2 == (0 : Int))) = true → (f11z10 r1 r2) = true := fun _ h => beq_iff_eq.2 h
    have ob9 := idA (((f11z0 r1 r2) == true) = true)
    have ob10 := bqA (f11z0 r1 r2) true
    have ob11 := idA (((f11z6 r1 r2) == true) = true)
    have ob12 := bqA (f11z6 r1 r2) true
    have ob13 := idA ((f11z11 r1 r2 r3) = true)
    have ob14 : true = true → ((f11z6 r1 r2) && (r3.2.2 == (13 : Int))) = true → (f11z11 r1 r2 r3) = true := fun _ h => beq_iff_eq.2 h
    have ob15 := idA (((f11z1 r1 r2 r3 r4) == true) = true)
    have ob16 := bqA (f11z1 r1 r2 r3 r4) true
    have ob17 := idA (((f11z5 r1 r2 r3 r4) == true) = true)
    have ob18 := bqA (f11z5 r1 r2 r3 r4) true
    have ob19 := idA ((((f11z5 r1 r2 r3 r4) && (r5.2.2 == (0 : Int))) == true) = true)
    have ob20 := bqA ((f11z5 r1 r2 r3 r4) && (r5.2.2 == (0 : Int))) true
    have ob21 := idA (false = true)
    have ob22 := idA (false = true)
    have ob23 := idA (false = true)
    have ob24 : true = true → false = true → false = true := fun _ h => h
    refine q1rr [] [(39, ⟨[], [], [], [], (.bool false), [], [0], []⟩), (41, ⟨[], [], [], [], .any, [], [], []⟩), (43, ⟨[], [], [], [], .bool false, [], [], []⟩)] ⟨107, [(0, .bool false)], [], [], 0⟩ (ac6 (an2 ob2 ob3) ob4 (an1 ob5) ob6 (an1 ob7) ob8 (ac6 (an1 ob9) ob10 (an1 ob11) ob12 (an1 ob13) ob14 (ac6 (an1 ob15) ob16 (an1 ob17) ob18 (an1 ob19) ob20 (an4 (show ((.bool (((f11z5 r1 r2 r3 r4) && (r5.2.2 == (0 : Int))) && (r5.2.1 == (2 : Int)))) : V) = (.bool false) from (congrArg (fun x => ((.bool x) : V)) (Bool.eq_false_iff.2 hg9_39))) (And.intro (show (callP Tryz.prog false 14 [] [] [] [] [] [.own 38] [] (.any) []) from ⟨nofun, nofun, .inl rfl⟩) (an1 ob21)) (And.intro (show (callP Tryz.prog false 15 [] [] [] [] [] [.any, .bool false] [] (.bool false) []) from ⟨nofun, nofun, .inl rfl⟩) (an2 ob22 ob23)) ob24)))) ?_
    refine thenQ_normal ?_
    have hret := Option.some.inj h
    subst hret
    refine AWp.le (Le.mk (s' := ⟨107, [(0, .bool false)], [], [], 0⟩) rfl rfl ⟨.refl _, trivial⟩ trivial) ?_
    refine AWp.ret ?_
    exact bodyQ_ret _ rfl ⟨rfl, rfl⟩ rfl
def f16_L0 (x1 : List Y51) (K1 : Int → Option Bool) : Nat → (Int × Nat) → Option Bool
  | 0, _ => none
  | k + 1, (i2, n3) =>
    if (decide ((n3 : Int) < (((x1).length : Nat) : Int))) then (
    chk ((n3 : Int) < (((x1).length : Nat) : Int)) <|
    chk ((n3 : Int) < (((x1).length : Nat) : Int)) <|
    chk (((n3 : Int) + (1 : Int)) ≤ 9223372036854775807) <|
    (f16_L0 x1 K1 k) ((IntKind.wrap .i64 ((IntKind.wrap .i64 (i2 + ((((x1.getD n3 (default : Y51)).2.2.2.2.2.1).length : Nat) : Int))) + ((((x1.getD n3 (default : Y51)).2.2.2.2.2.2).length : Nat) : Int))), (n3 + 1))
    ) else (
    K1 i2
    )
def f16 (x1 : List Y51) : Option Bool :=
  jn (fun (i4 : Int) =>
  some ((decide ((((x1).length : Nat) : Int) ≤ (60 : Int))) && (decide (i4 ≤ (20000 : Int))))
  ) fun (K1 : Int → Option Bool) =>
  f16_L0 x1 K1 FUEL ((0 : Int), 0)
set_option maxRecDepth 100000 in
theorem f16_ok  (x1 : List Y51) (r : Bool) (h : f16 x1 = some r)  : Spec1 Tryz.prog 16 [] [] [] [vL 28 eT51 (default : Y51) x1] (.bool r) [] := by
  unfold f16 at h
  refine Spec1.body 0 _ _ Tryz.func16 rfl Tryz.ntmps16 rfl rfl ?_
  refine q1rq [18, 25] [] ⟨33, [(0, q1aT51 x1)], [], [], 0⟩ trivial ?_
  refine q1rq [18, 25] [] ⟨33, [(0, q1aT51 x1), (3, .i (0 : Int))], [], [], 0⟩ trivial ?_
  obtain ⟨K1, hK1, h⟩ := jn_some h
  refine AWp.join (α := Int) (fun (i4 : Int) => ⟨33, [(0, q1aT51 x1), (3, .i i4)], [], [], 0⟩) (fun x => K1 x = some r) ?_ ?_
  ·
    refine q1rq [18, 25] [] ⟨33, [(0, q1aT51 x1), (3, .i (0 : Int)), (4, .i (0 : Int))], [], [], 0⟩ trivial ?_
    refine AWp.block ?_
    refine AWp.loopL (α := Nat × (Int × Nat)) (fun x => match x with | (_, i2, n3) => ⟨33, [(0, q1aT51 x1), (3, .i i2), (4, .i (n3 : Int))], [], [], 0⟩) (fun x => f16_L0 x1 K1 x.1 x.2 = some r) (fun x => x.1) (FUEL, (0 : Int), 0) (Le.mk (s' := ⟨33, [(0, q1aT51 x1), (3, .i (0 : Int)), (4, .i (0 : Int))], [], [], 0⟩) rfl rfl ⟨.refl _, .refl _, .refl _, trivial⟩ trivial) h ?_
    rintro ⟨k0, i2, n3⟩ h
    cases k0 with
    | zero => exact nomatch (show (none : Option Bool) = some r from h)
    | succ k0 =>
    obtain ⟨C0, hC0⟩ : ∃ C, C = f16_L0 x1 K1 k0 := ⟨_, rfl⟩
    replace h := (f16_L0.eq_2 ..).symm.trans h
    try rw [← hC0] at h
    refine AWp.seq ?_
    refine q1rq [18, 25] [] ⟨33, [(0, q1aT51 x1), (3, .i i2), (4, .i (n3 : Int)), (8, .bool (decide ((n3 : Int) < (lZ x1))))], [], [], 0⟩ trivial ?_
    refine AWp.cond (b := (decide ((n3 : Int) < (lZ x1)))) (by kernel_rfl) (fun hc1 => ?_) (fun hc1 => ?_)
    ·
      replace h := ite_tb hc1 h
      refine AWp.skip ?_
      refine thenQ_normal ?_
      refine AWp.seq ?_
      refine AWp.block ?_
      obtain ⟨ob0p, h⟩ := chk_some h
      have ob0 : 0 ≤ (n3 : Int) ∧ (n3 : Int) < (((x1).length : Nat) : Int) := ⟨by omega, ob0p⟩
      obtain ⟨ob1p, h⟩ := chk_some h
      have ob1 : 0 ≤ (n3 : Int) ∧ (n3 : Int) < (((x1).length : Nat) : Int) := ⟨by omega, ob1p⟩
      refine q1rr [18, 25] [] ⟨33, [(0, q1aT51 x1), (3, .i (IntKind.wrap .i64 ((IntKind.wrap .i64 (i2 + ((((x1.getD n3 q1dT51).2.2.2.2.2.1).length : Nat) : Int))) + ((((x1.getD n3 q1dT51).2.2.2.2.2.2).length : Nat) : Int)))), (4, .i (n3 : Int))], [], [], 0⟩ (an4 ob0 trivial ob1 trivial) ?_
      refine blockQ_normal ?_
      refine thenQ_normal ?_
      obtain ⟨ob2p, h⟩ := chk_some h
      have ob2 : -9223372036854775808 ≤ ((n3 : Int) + (1 : Int)) ∧ ((n3 : Int) + (1 : Int)) ≤ 9223372036854775807 := ⟨by omega, ob2p⟩
      refine q1rr [18, 25] [] ⟨33, [(0, q1aT51 x1), (3, .i (IntKind.wrap .i64 ((IntKind.wrap .i64 (i2 + ((((x1.getD n3 q1dT51).2.2.2.2.2.1).length : Nat) : Int))) + ((((x1.getD n3 q1dT51).2.2.2.2.2.2).length : Nat) : Int)))), (4, .i (((n3 + 1) : Nat) : Int))], [], [], 0⟩ (an1 ob2) ?_
      rw [hC0] at h
      exact loopQ_normal (_, (IntKind.wrap .i64 ((IntKind.wrap .i64 (i2 + ((((x1.getD n3 q1dT51).2.2.2.2.2.1).length : Nat) : Int))) + ((((x1.getD n3 q1dT51).2.2.2.2.2.2).length : Nat) : Int))), (n3 + 1)) (Le.mk rfl rfl ⟨.refl _, .refl _, .refl _, trivial⟩ trivial) h (Nat.lt_succ_self _)
    ·
      replace h := ite_fb hc1 h
      refine AWp.exit ?_
      refine thenQ_exit ?_
      refine thenQ_exit ?_
      refine blockQ_same ?_
      exact joinQ_normal (i2) (Le.mk rfl rfl ⟨.refl _, .refl _, trivial⟩ trivial) h
  ·
    rintro i4 h
    replace h := (congrFun hK1 _).symm.trans h
    refine AWp.seq ?_
    have ob3 := idA (((decide ((lZ x1) ≤ (60 : Int))) == true) = true)
    have ob4 := bqA (decide ((lZ x1) ≤ (60 : Int))) true
    refine q1rr [18, 25] [] ⟨33, [(2, .bool ((decide ((lZ x1) ≤ (60 : Int))) && (decide (i4 ≤ (20000 : Int)))))], [], [], 0⟩ (an2 (an1 ob3) ob4) ?_
    refine thenQ_normal ?_
    have hret := Option.some.inj h
    subst hret
    refine AWp.le (Le.mk (s' := ⟨33, [(2, .bool ((decide ((lZ x1) ≤ (60 : Int))) && (decide (i4 ≤ (20000 : Int)))))], [], [], 0⟩) rfl rfl ⟨.refl _, trivial⟩ trivial) ?_
    refine AWp.ret ?_
    exact bodyQ_ret _ rfl ⟨rfl, rfl⟩ rfl
def f25 (x1 : List Y51) : Option (List Y51) :=
  abc ((x1).length = 0) (
  some []
  ) (
  chk ((0 + (x1).length) * 368 ≤ 140737488355328) <|
  some ([] ++ x1)
  )
set_option maxRecDepth 100000 in
theorem f25_ok  (x1 : List Y51) (r : List Y51) (h : f25 x1 = some r)  : Spec1 Tryz.prog 25 [] [] [] [vL 28 eT51 (default : Y51) x1] (.own 3000) [(3000, bL 51 28 eT51 (default : Y51) r)] := by
  unfold f25 at h
  refine Spec1.body 0 _ _ Tryz.func25 rfl Tryz.ntmps25 rfl rfl ?_
  refine q1rq [] [] ⟨8, [(0, q1aT51 x1)], [], [], 0⟩ trivial ?_
  refine AWp.seq ?_
  refine q1rq [] [] ⟨8, [(0, q1aT51 x1), (4, .abool (fun b => b = true → (x1).length = 0))], [], [], 0⟩ trivial ?_
  obtain ⟨hA1, hB1⟩ := abc_some h
  refine AWp.condAb (fun b => b = true → (x1).length = 0) (by kernel_rfl) (fun hc1 => ?_) (fun hc1 => ?_)
  ·
    have h := hA1 (hc1 rfl)
    refine q1rq [] [] ⟨8, [(2, .nils)], [], [], 0⟩ trivial ?_
    refine AWp.le (Le.trans (Le.nilOwn 2 3000 51 28 (encF eT51 q1dT51 []) rfl rfl (Nat.le_of_ble_eq_true rfl)) (Le.mk (s' := ⟨8, [(2, .own 3000)], [(3000, q1bT51_51 [])], [], 0⟩) rfl rfl ⟨.refl _, trivial⟩ ⟨⟨_, rfl, .refl _⟩, trivial⟩)) ?_
    have hret := Option.some.inj h
    subst hret
    refine AWp.le (Le.mk (s' := ⟨8, [(2, .own 3000)], [(3000, q1bT51_51 [])], [], 0⟩) rfl rfl ⟨.refl _, trivial⟩ ⟨⟨_, rfl, .refl _⟩, trivial⟩) ?_
    refine AWp.ret ?_
    refine thenQ_ret ?_
    exact bodyQ_ret _ rfl ⟨rfl, rfl⟩ rfl
  ·
    have h := hB1
    refine AWp.skip ?_
    refine thenQ_normal ?_
    refine AWp.seq ?_
    obtain ⟨ob0, h⟩ := chk_some h
    refine q1rr [] [] ⟨8, [(2, .own 5)], [(5, .rows 51 28 (0 + (x1).length) (appF 0 (lstF 28 []) (encF eT51 q1dT51 x1)))], [], 0⟩ (an1 ob0) ?_
    refine thenQ_normal ?_
    refine AWp.le (Le.mk (s' := ⟨8, [(2, .own 5)], [(5, q1bT51_51 ([] ++ x1))], [], 0⟩) rfl rfl ⟨.refl _, trivial⟩ ⟨⟨_, rfl, (BLe.of (RL.app (RL.lstV (enc := eT51) [] rfl trivial (fun _ => rfl)) (RL.self _)))⟩, trivial⟩) ?_
    refine AWp.le (Le.trans (Le.ren (swapN 5 3000) (swapN_inv 5 3000) rfl) (Le.mk (s' := ⟨8, [(2, .own 3000)], [(3000, q1bT51_51 ([] ++ x1))], [], 0⟩) rfl rfl ⟨.refl _, trivial⟩ ⟨⟨_, rfl, .refl _⟩, trivial⟩)) ?_
    have hret := Option.some.inj h
    subst hret
    refine AWp.le (Le.mk (s' := ⟨8, [(2, .own 3000)], [(3000, q1bT51_51 ([] ++ x1))], [], 0⟩) rfl rfl ⟨.refl _, trivial⟩ ⟨⟨_, rfl, .refl _⟩, trivial⟩) ?_
    refine AWp.ret ?_
    exact bodyQ_ret _ rfl ⟨rfl, rfl⟩ rfl
abbrev f52z0 (x2 : Int) (x3 : Int) := ((x2 == (4 : Int)) && (decide (x3 ≥ (0 : Int))))
abbrev f52z1 (x2 : Int) (x3 : Int) := ((x2 == (3 : Int)) && (decide (x3 ≥ (0 : Int))))
def f52 (_x1 : Int) (x2 : Int) (x3 : Int) (_x4 : Int) (_x5 : Int) (_x6 : List UInt8) (_x7 : List UInt8) : Option Int :=
  if (((x2 == (4 : Int)) && (decide (x3 ≥ (0 : Int)))) && (decide (x3 < (12 : Int)))) then (
  some x3
  ) else (
  if (((x2 == (3 : Int)) && (decide (x3 ≥ (0 : Int)))) && (decide (x3 < (6 : Int)))) then (
  chk (-9223372036854775808 ≤ ((12 : Int) + x3) ∧ ((12 : Int) + x3) ≤ 9223372036854775807) <|
  some ((12 : Int) + x3)
  ) else (
  some (-1 : Int)
  )
  )
set_option maxRecDepth 100000 in
theorem f52_ok  (x1 : Int) (x2 : Int) (x3 : Int) (x4 : Int) (x5 : Int) (x6 : List UInt8) (x7 : List UInt8) (r : Int) (h : f52 x1 x2 x3 x4 x5 x6 x7 = some r)  : Spec1 Tryz.prog 52 [] [] [] [.agg [.int .i64 x1, .int .i64 x2, .int .i64 x3, .int .i64 x4, .int .i64 x5, .str x6, .str x7, .opq, .opq, .opq, .opq, .opq, .opq, .opq, .opq, .opq, .opq, .opq, .opq, .opq, .opq, .opq, .opq, .opq, .opq, .opq, .opq, .opq]] (.int .i64 r) [] := by
  unfold f52 at h
  refine Spec1.body 0 _ _ Tryz.func52 rfl Tryz.ntmps52 rfl rfl ?_
  refine q1rq [] [] ⟨34, [(1, .ptr 1 0)], [(1, .cells 51 [.i x1, .i x2, .i x3, .i x4, .i x5, .str x6, .str x7, .opq, .opq, .opq, .opq, .opq, .opq, .opq, .opq, .opq, .opq, .opq, .opq, .opq, .opq, .opq, .opq, .opq, .opq, .opq, .opq, .opq])], [], 0⟩ trivial ?_
  refine AWp.seq ?_
  refine AWp.seq ?_
  have ob0 := idA (((x2 == (4 : Int)) == true) = true)
  have ob1 := idA (((x2 == (4 : Int)) == true) = true)
  have ob2 := bqA (x2 == (4 : Int)) true
  have ob3 := idA (((f52z0 x2 x3) == true) = true)
  have ob4 := idA (((f52z0 x2 x3) == true) = true)
  have ob5 := bqA (f52z0 x2 x3) true
  refine q1rr [] [] ⟨34, [(1, .ptr 1 0), (15, .bool ((f52z0 x2 x3) && (decide (x3 < (12 : Int)))))], [(1, .cells 51 [.i x1, .i x2, .i x3, .i x4, .i x5, .str x6, .str x7, .opq, .opq, .opq, .opq, .opq, .opq, .opq, .opq, .opq, .opq, .opq, .opq, .opq, .opq, .opq, .opq, .opq, .opq, .opq, .opq, .opq])], [], 0⟩ (an6 (an1 ob0) (an1 ob1) ob2 (an1 ob3) (an1 ob4) ob5) ?_
  refine thenQ_normal ?_
  refine AWp.cond (b := ((f52z0 x2 x3) && (decide (x3 < (12 : Int))))) (by kernel_rfl) (fun hc1 => ?_) (fun hc1 => ?_)
  ·
    replace h := ite_tb hc1 h
    refine q1rq [] [] ⟨34, [(2, .i x3)], [], [], 0⟩ trivial ?_
    have hret := Option.some.inj h
    subst hret
    refine AWp.le (Le.mk (s' := ⟨34, [(2, .i x3)], [], [], 0⟩) rfl rfl ⟨.refl _, trivial⟩ trivial) ?_
    refine AWp.ret ?_
    refine thenQ_ret ?_
    exact bodyQ_ret _ rfl ⟨rfl, rfl⟩ rfl
  ·
    replace h := ite_fb hc1 h
    refine AWp.skip ?_
    refine thenQ_normal ?_
    refine AWp.seq ?_
    refine AWp.seq ?_
    have ob6 := idA (((x2 == (3 : Int)) == true) = true)
    have ob7 := idA (((x2 == (3 : Int)) == true) = true)
    have ob8 := bqA (x2 == (3 : Int)) true
    have ob9 := idA (((f52z1 x2 x3) == true) = true)
    have ob10 := idA (((f52z1 x2 x3) == true) = true)
    have ob11 := bqA (f52z1 x2 x3) true
    refine q1rr [] [] ⟨34, [(1, .ptr 1 0), (30, .bool ((f52z1 x2 x3) && (decide (x3 < (6 : Int)))))], [(1, .cells 51 [.i x1, .i x2, .i x3, .i x4, .i x5, .str x6, .str x7, .opq, .opq, .opq, .opq, .opq, .opq, .opq, .opq, .opq, .opq, .opq, .opq, .opq, .opq, .opq, .opq, .opq, .opq, .opq, .opq, .opq])], [], 0⟩ (an6 (an1 ob6) (an1 ob7) ob8 (an1 ob9) (an1 ob10) ob11) ?_
    refine thenQ_normal ?_
    refine AWp.cond (b := ((f52z1 x2 x3) && (decide (x3 < (6 : Int))))) (by kernel_rfl) (fun hc2 => ?_) (fun hc2 => ?_)
    ·
      replace h := ite_tb hc2 h
      refine AWp.seq ?_
      obtain ⟨ob12, h⟩ := chk_some h
      refine q1rr [] [] ⟨34, [(2, .i ((12 : Int) + x3))], [], [], 0⟩ (an1 ob12) ?_
      refine thenQ_normal ?_
      have hret := Option.some.inj h
      subst hret
      refine AWp.le (Le.mk (s' := ⟨34, [(2, .i ((12 : Int) + x3))], [], [], 0⟩) rfl rfl ⟨.refl _, trivial⟩ trivial) ?_
      refine AWp.ret ?_
      refine thenQ_ret ?_
      exact bodyQ_ret _ rfl ⟨rfl, rfl⟩ rfl
    ·
      replace h := ite_fb hc2 h
      refine AWp.skip ?_
      refine thenQ_normal ?_
      refine q1rq [] [] ⟨34, [(2, .i (-1 : Int))], [], [], 0⟩ trivial ?_
      have hret := Option.some.inj h
      subst hret
      refine AWp.le (Le.mk (s' := ⟨34, [(2, .i (-1 : Int))], [], [], 0⟩) rfl rfl ⟨.refl _, trivial⟩ trivial) ?_
      refine AWp.ret ?_
      exact bodyQ_ret _ rfl ⟨rfl, rfl⟩ rfl
def f23_L1 (x1 : List Y51) (n3 : Nat) (K2 : (Bool × Int × Int × Int) → Option (Int × Int × Int × Int)) : Nat → (Bool × Nat × Int × Int × Int) → Option (Int × Int × Int × Int)
  | 0, _ => none
  | k + 1, (b7, n8, i9, i10, i11) =>
    if (decide ((n8 : Int) < (((x1).length : Nat) : Int))) then (
    jn (fun ((b14, i15, i16, i17) : Bool × Int × Int × Int) =>
    chk (((n8 : Int) + (1 : Int)) ≤ 9223372036854775807) <|
    (f23_L1 x1 n3 K2 k) (b14, (n8 + 1), i15, i16, i17)
    ) fun (K3 : (Bool × Int × Int × Int) → Option (Int × Int × Int × Int)) =>
    (f52 ((x1.getD n3 (default : Y51)).1) ((x1.getD n3 (default : Y51)).2.1) ((x1.getD n3 (default : Y51)).2.2.1) ((x1.getD n3 (default : Y51)).2.2.2.1) ((x1.getD n3 (default : Y51)).2.2.2.2.1) ((x1.getD n3 (default : Y51)).2.2.2.2.2.1) ((x1.getD n3 (default : Y51)).2.2.2.2.2.2)).bind fun (r12 : Int) =>
    (f52 ((x1.getD n8 (default : Y51)).1) ((x1.getD n8 (default : Y51)).2.1) ((x1.getD n8 (default : Y51)).2.2.1) ((x1.getD n8 (default : Y51)).2.2.2.1) ((x1.getD n8 (default : Y51)).2.2.2.2.1) ((x1.getD n8 (default : Y51)).2.2.2.2.2.1) ((x1.getD n8 (default : Y51)).2.2.2.2.2.2)).bind fun (r13 : Int) =>
    chk ((n3 : Int) < (((x1).length : Nat) : Int)) <|
    chk ((n8 : Int) < (((x1).length : Nat) : Int)) <|
    chk ((((decide (r12 < (0 : Int))) || (decide (r13 < r12))) == false) = true → 0 ≤ (n3 : Int) ∧ (n3 : Int) < (((x1).length : Nat) : Int)) <|
    chk ((((decide (r12 < (0 : Int))) || (decide (r13 < r12))) == false) = true → 0 ≤ (n8 : Int) ∧ (n8 : Int) < (((x1).length : Nat) : Int)) <|
    chk (((((decide (r12 < (0 : Int))) || (decide (r13 < r12))) || ((x1.getD n3 (default : Y51)).2.2.2.1 != (x1.getD n8 (default : Y51)).2.2.2.1)) == false) = true → 0 ≤ (n3 : Int) ∧ (n3 : Int) < (((x1).length : Nat) : Int)) <|
    chk (((((decide (r12 < (0 : Int))) || (decide (r13 < r12))) || ((x1.getD n3 (default : Y51)).2.2.2.1 != (x1.getD n8 (default : Y51)).2.2.2.1)) == false) = true → 0 ≤ (n8 : Int) ∧ (n8 : Int) < (((x1).length : Nat) : Int)) <|
    if ((((decide (r12 < (0 : Int))) || (decide (r13 < r12))) || ((x1.getD n3 (default : Y51)).2.2.2.1 != (x1.getD n8 (default : Y51)).2.2.2.1)) || (((x1.getD n3 (default : Y51)).2.2.2.2.2.1) == ((x1.getD n8 (default : Y51)).2.2.2.2.2.1))) then (
    K3 (b7, i9, i10, i11)
    ) else (
    chk ((n3 : Int) < (((x1).length : Nat) : Int)) <|
    chk ((((((!b7) || (decide ((x1.getD n3 (default : Y51)).2.2.2.1 < i9))) == false) && (((x1.getD n3 (default : Y51)).2.2.2.1 == i9) == true)) && ((decide (r12 < i10)) == false)) = true → (((((!b7) || (decide ((x1.getD n3 (default : Y51)).2.2.2.1 < i9))) == false) && (((x1.getD n3 (default : Y51)).2.2.2.1 == i9) == true)) && ((decide (r12 < i10)) == false)) = true → (r12 == i10) = true → ((((((!b7) || (decide ((x1.getD n3 (default : Y51)).2.2.2.1 < i9))) == false) && (((x1.getD n3 (default : Y51)).2.2.2.1 == i9) == true)) && ((decide (r12 < i10)) == false)) && ((r12 == i10) == true)) = true) <|
    chk (((((!b7) || (decide ((x1.getD n3 (default : Y51)).2.2.2.1 < i9))) == false) && (((x1.getD n3 (default : Y51)).2.2.2.1 == i9) == true)) = true → ((((!b7) || (decide ((x1.getD n3 (default : Y51)).2.2.2.1 < i9))) == false) && (((x1.getD n3 (default : Y51)).2.2.2.1 == i9) == true)) = true → (decide (r12 < i10)) = false → (((((!b7) || (decide ((x1.getD n3 (default : Y51)).2.2.2.1 < i9))) == false) && (((x1.getD n3 (default : Y51)).2.2.2.1 == i9) == true)) && ((decide (r12 < i10)) == false)) = true) <|
    chk ((((!b7) || (decide ((x1.getD n3 (default : Y51)).2.2.2.1 < i9))) == false) = true → (((!b7) || (decide ((x1.getD n3 (default : Y51)).2.2.2.1 < i9))) == false) = true → ((x1.getD n3 (default : Y51)).2.2.2.1 == i9) = true → ((((!b7) || (decide ((x1.getD n3 (default : Y51)).2.2.2.1 < i9))) == false) && (((x1.getD n3 (default : Y51)).2.2.2.1 == i9) == true)) = true) <|
    if (((!b7) || (decide ((x1.getD n3 (default : Y51)).2.2.2.1 < i9))) || (((x1.getD n3 (default : Y51)).2.2.2.1 == i9) && ((decide (r12 < i10)) || ((r12 == i10) && (decide (r13 < i11)))))) then (
    K3 (true, (x1.getD n3 (default : Y51)).2.2.2.1, r12, r13)
    ) else (
    K3 (b7, i9, i10, i11)
    )
    )
    ) else (
    K2 (b7, i9, i10, i11)
    )
def f23_L0 (x1 : List Y51) (K1 : (Bool × Int × Int × Int) → Option (Int × Int × Int × Int)) : Nat → (Bool × Nat × Int × Int × Int) → Option (Int × Int × Int × Int)
  | 0, _ => none
  | k + 1, (b2, n3, i4, i5, i6) =>
    if (decide ((n3 : Int) < (((x1).length : Nat) : Int))) then (
    jn (fun ((b18, i19, i20, i21) : Bool × Int × Int × Int) =>
    chk (((n3 : Int) + (1 : Int)) ≤ 9223372036854775807) <|
    (f23_L0 x1 K1 k) (b18, (n3 + 1), i19, i20, i21)
    ) fun (K2 : (Bool × Int × Int × Int) → Option (Int × Int × Int × Int)) =>
    f23_L1 x1 n3 K2 FUEL (b2, 0, i4, i5, i6)
    ) else (
    K1 (b2, i4, i5, i6)
    )
abbrev f23z0 : List V := [.int .i64 (0 : Int), .int .i64 (0 : Int), .int .i64 (0 : Int)]
abbrev f23z1 (r12 : Int) (r13 : Int) := ((decide (r12 < (0 : Int))) || (decide (r13 < r12)))
abbrev f23z2 (i9 : Int) (i10 : Int) (i11 : Int) : Heap := [(2, .cells 60 (f23z0)), (4, .cells 60 [.int .i64 i9, .int .i64 i10, .int .i64 i11])]
abbrev f23z3 (r12 : Int) (i10 : Int) := ((decide (r12 < i10)) == false)
abbrev f23z4 (i4 : Int) (i5 : Int) (i6 : Int) : Heap := [(2, .cells 60 (f23z0)), (4, .cells 60 [.int .i64 i4, .int .i64 i5, .int .i64 i6])]
abbrev f23z5 (r12 : Int) (r13 : Int) := ((f23z1 r12 r13) == false)
abbrev f23z6 (r12 : Int) := ((decide (r12 < (0 : Int))) == false)
abbrev f23z7 (i19 : Int) (i20 : Int) (i21 : Int) : Heap := [(2, .cells 60 (f23z0)), (4, .cells 60 [.int .i64 i19, .int .i64 i20, .int .i64 i21])]
abbrev f23z8 (i15 : Int) (i16 : Int) (i17 : Int) : Heap := [(2, .cells 60 (f23z0)), (4, .cells 60 [.int .i64 i15, .int .i64 i16, .int .i64 i17])]
abbrev f23z9 : Heap := [(2, .cells 60 (f23z0)), (4, .cells 60 (f23z0))]
def f23 (x1 : List Y51) : Option (Int × Int × Int × Int) :=
  jn (fun ((b22, i23, i24, i25) : Bool × Int × Int × Int) =>
  if (!b22) then (
  some ((0 : Int), (0 : Int), (0 : Int), (13 : Int))
  ) else (
  some (i23, i24, i25, (0 : Int))
  )
  ) fun (K1 : (Bool × Int × Int × Int) → Option (Int × Int × Int × Int)) =>
  f23_L0 x1 K1 FUEL (false, 0, (0 : Int), (0 : Int), (0 : Int))
set_option maxRecDepth 100000 in
theorem f23_ok  (x1 : List Y51) (r : Int × Int × Int × Int) (h : f23 x1 = some r)  : Spec1 Tryz.prog 23 [] [] [] [vL 28 eT51 (default : Y51) x1] (.tup [.agg [.int .i64 r.1, .int .i64 r.2.1, .int .i64 r.2.2.1], .int .i64 r.2.2.2]) [] := by
  unfold f23 at h
  refine Spec1.bodyD [2] 0 _ _ Tryz.func23 rfl Tryz.ntmps23 rfl rfl ?_
  refine q1rq [] [] ⟨117, [(0, q1aT51 x1), (2, .ptr 2 0)], [(2, .cells 60 (f23z0))], [], 0⟩ trivial ?_
  refine q1rq [] [] ⟨117, [(0, q1aT51 x1), (2, .ptr 2 0), (4, .ptr 4 0), (5, .bool false)], (f23z9), [], 0⟩ (an1 trivial) ?_
  obtain ⟨K1, hK1, h⟩ := jn_some h
  refine AWp.join (α := Bool × Int × Int × Int) (fun (x : Bool × Int × Int × Int) => match x with | (b22, i23, i24, i25) => ⟨117, [(2, .ptr 2 0), (4, .ptr 4 0), (5, .bool b22)], [(2, .cells 60 (f23z0)), (4, .cells 60 [.i i23, .i i24, .i i25])], [], 0⟩) (fun x => K1 x = some r) ?_ ?_
  ·
    refine q1rq [] [] ⟨117, [(0, q1aT51 x1), (2, .ptr 2 0), (4, .ptr 4 0), (5, .bool false), (6, .i (0 : Int))], (f23z9), [], 0⟩ trivial ?_
    refine AWp.block ?_
    refine AWp.loopL (α := Nat × (Bool × Nat × Int × Int × Int)) (fun x => match x with | (_, b2, n3, i4, i5, i6) => ⟨117, [(0, q1aT51 x1), (2, .ptr 2 0), (4, .ptr 4 0), (5, .bool b2), (6, .i (n3 : Int))], (f23z4 i4 i5 i6), [], 0⟩) (fun x => f23_L0 x1 K1 x.1 x.2 = some r) (fun x => x.1) (FUEL, false, 0, (0 : Int), (0 : Int), (0 : Int)) (Le.mk (s' := ⟨117, [(0, q1aT51 x1), (2, .ptr 2 0), (4, .ptr 4 0), (5, .bool false), (6, .i (0 : Int))], (f23z9), [], 0⟩) rfl rfl ⟨.refl _, .refl _, .refl _, .refl _, .refl _, trivial⟩ ⟨⟨_, rfl, .refl _⟩, ⟨_, rfl, .refl _⟩, trivial⟩) h ?_
    rintro ⟨k0, b2, n3, i4, i5, i6⟩ h
    cases k0 with
    | zero => exact nomatch (show (none : Option (Int × Int × Int × Int)) = some r from h)
    | succ k0 =>
    obtain ⟨C0, hC0⟩ : ∃ C, C = f23_L0 x1 K1 k0 := ⟨_, rfl⟩
    replace h := (f23_L0.eq_2 ..).symm.trans h
    try rw [← hC0] at h
    refine AWp.seq ?_
    refine q1rq [] [] ⟨117, [(0, q1aT51 x1), (2, .ptr 2 0), (4, .ptr 4 0), (5, .bool b2), (6, .i (n3 : Int)), (15, .bool (decide ((n3 : Int) < (lZ x1))))], (f23z4 i4 i5 i6), [], 0⟩ trivial ?_
    refine AWp.cond (b := (decide ((n3 : Int) < (lZ x1)))) (by kernel_rfl) (fun hc1 => ?_) (fun hc1 => ?_)
    ·
      replace h := ite_tb hc1 h
      refine AWp.skip ?_
      refine thenQ_normal ?_
      obtain ⟨K2, hK2, h⟩ := jn_some h
      refine AWp.join (α := Bool × Int × Int × Int) (fun (x : Bool × Int × Int × Int) => match x with | (b18, i19, i20, i21) => ⟨117, [(0, q1aT51 x1), (2, .ptr 2 0), (4, .ptr 4 0), (5, .bool b18), (6, .i (n3 : Int))], (f23z7 i19 i20 i21), [], 0⟩) (fun x => K2 x = some r) ?_ ?_
      ·
        refine AWp.block ?_
        refine q1rq [] [] ⟨117, [(0, q1aT51 x1), (2, .ptr 2 0), (4, .ptr 4 0), (5, .bool b2), (6, .i (n3 : Int)), (7, .i (0 : Int))], (f23z4 i4 i5 i6), [], 0⟩ trivial ?_
        refine AWp.block ?_
        refine AWp.loopL (α := Nat × (Bool × Nat × Int × Int × Int)) (fun x => match x with | (_, b7, n8, i9, i10, i11) => ⟨117, [(0, q1aT51 x1), (2, .ptr 2 0), (4, .ptr 4 0), (5, .bool b7), (6, .i (n3 : Int)), (7, .i (n8 : Int))], (f23z2 i9 i10 i11), [], 0⟩) (fun x => f23_L1 x1 n3 K2 x.1 x.2 = some r) (fun x => x.1) (FUEL, b2, 0, i4, i5, i6) (Le.mk (s' := ⟨117, [(0, q1aT51 x1), (2, .ptr 2 0), (4, .ptr 4 0), (5, .bool b2), (6, .i (n3 : Int)), (7, .i (0 : Int))], (f23z4 i4 i5 i6), [], 0⟩) rfl rfl ⟨.refl _, .refl _, .refl _, .refl _, .refl _, .refl _, trivial⟩ ⟨⟨_, rfl, .refl _⟩, ⟨_, rfl, .refl _⟩, trivial⟩) h ?_
        rintro ⟨k1, b7, n8, i9, i10, i11⟩ h
        cases k1 with
        | zero => exact nomatch (show (none : Option (Int × Int × Int × Int)) = some r from h)
        | succ k1 =>
        obtain ⟨C1, hC1⟩ : ∃ C, C = f23_L1 x1 n3 K2 k1 := ⟨_, rfl⟩
        replace h := (f23_L1.eq_2 ..).symm.trans h
        try rw [← hC1] at h
        refine AWp.seq ?_
        refine q1rq [] [] ⟨117, [(0, q1aT51 x1), (2, .ptr 2 0), (4, .ptr 4 0), (5, .bool b7), (6, .i (n3 : Int)), (7, .i (n8 : Int)), (21, .bool (decide ((n8 : Int) < (lZ x1))))], (f23z2 i9 i10 i11), [], 0⟩ trivial ?_
        refine AWp.cond (b := (decide ((n8 : Int) < (lZ x1)))) (by kernel_rfl) (fun hc2 => ?_) (fun hc2 => ?_)
        ·
          replace h := ite_tb hc2 h
          refine AWp.skip ?_
          refine thenQ_normal ?_
          obtain ⟨K3, hK3, h⟩ := jn_some h
          refine AWp.join (α := Bool × Int × Int × Int) (fun (x : Bool × Int × Int × Int) => match x with | (b14, i15, i16, i17) => ⟨117, [(0, q1aT51 x1), (2, .ptr 2 0), (4, .ptr 4 0), (5, .bool b14), (6, .i (n3 : Int)), (7, .i (n8 : Int))], (f23z8 i15 i16 i17), [], 0⟩) (fun x => K3 x = some r) ?_ ?_
          ·
            refine AWp.block ?_
            refine AWp.seq ?_
            obtain ⟨r12, hr12, h⟩ := bind_ok h
            obtain ⟨r13, hr13, h⟩ := bind_ok h
            obtain ⟨ob0p, h⟩ := chk_some h
            have ob0 : 0 ≤ (n3 : Int) ∧ (n3 : Int) < (((x1).length : Nat) : Int) := ⟨by omega, ob0p⟩
            obtain ⟨ob1p, h⟩ := chk_some h
            have ob1 : 0 ≤ (n8 : Int) ∧ (n8 : Int) < (((x1).length : Nat) : Int) := ⟨by omega, ob1p⟩
            refine q1rr [] [(4, ⟨[.agg [.i (x1.getD n3 q1dT51).1, .i (x1.getD n3 q1dT51).2.1, .i (x1.getD n3 q1dT51).2.2.1, .i (x1.getD n3 q1dT51).2.2.2.1, .i (x1.getD n3 q1dT51).2.2.2.2.1, .str (x1.getD n3 q1dT51).2.2.2.2.2.1, .str (x1.getD n3 q1dT51).2.2.2.2.2.2, .opq, .opq, .opq, .opq, .opq, .opq, .opq, .opq, .opq, .opq, .opq, .opq, .opq, .opq, .opq, .opq, .opq, .opq, .opq, .opq, .opq]], [], [], [], .i r12, [], [], []⟩), (9, ⟨[.agg [.i (x1.getD n8 q1dT51).1, .i (x1.getD n8 q1dT51).2.1, .i (x1.getD n8 q1dT51).2.2.1, .i (x1.getD n8 q1dT51).2.2.2.1, .i (x1.getD n8 q1dT51).2.2.2.2.1, .str (x1.getD n8 q1dT51).2.2.2.2.2.1, .str (x1.getD n8 q1dT51).2.2.2.2.2.2, .opq, .opq, .opq, .opq, .opq, .opq, .opq, .opq, .opq, .opq, .opq, .opq, .opq, .opq, .opq, .opq, .opq, .opq, .opq, .opq, .opq]], [], [], [], .i r13, [], [], []⟩)] ⟨117, [(0, q1aT51 x1), (2, .ptr 2 0), (4, .ptr 4 0), (5, .bool b7), (6, .i (n3 : Int)), (7, .i (n8 : Int)), (8, .i r12), (9, .i r13)], (f23z2 i9 i10 i11), [], 0⟩ (an4 ob0 (cpT (f52_ok _ _ _ _ _ _ _ _ hr12)) ob1 (cpT (f52_ok _ _ _ _ _ _ _ _ hr13))) ?_
            refine thenQ_normal ?_
            refine AWp.seq ?_
            refine AWp.seq ?_
            have ob2 := idA ((f23z6 r12) = true)
            have ob3 := idA ((f23z6 r12) = true)
            have ob4 : true = true → (decide (r12 < (0 : Int))) = false → (f23z6 r12) = true := fun _ h => beq_iff_eq.2 h
            obtain ⟨ob5, h⟩ := chk_some h
            have ob6 := idA ((f23z5 r12 r13) = true)
            have ob7 := idA ((f23z5 r12 r13) = true)
            have ob8 := idA ((f23z5 r12 r13) = true)
            have ob9 := idA ((f23z5 r12 r13) = true)
            obtain ⟨ob10, h⟩ := chk_some h
            have ob11 := idA ((f23z5 r12 r13) = true)
            have ob12 := idA ((f23z5 r12 r13) = true)
            have ob13 := idA ((f23z5 r12 r13) = true)
            have ob14 := idA ((f23z5 r12 r13) = true)
            have ob15 := idA ((f23z5 r12 r13) = true)
            have ob16 := idA ((f23z5 r12 r13) = true)
            have ob17 : true = true → (f23z1 r12 r13) = false → (f23z5 r12 r13) = true := fun _ h => beq_iff_eq.2 h
            obtain ⟨ob18, h⟩ := chk_some h
            have ob19 := idA ((((f23z1 r12 r13) || ((x1.getD n3 q1dT51).2.2.2.1 != (x1.getD n8 q1dT51).2.2.2.1)) == false) = true)
            have ob20 := idA ((((f23z1 r12 r13) || ((x1.getD n3 q1dT51).2.2.2.1 != (x1.getD n8 q1dT51).2.2.2.1)) == false) = true)
            have ob21 := idA ((((f23z1 r12 r13) || ((x1.getD n3 q1dT51).2.2.2.1 != (x1.getD n8 q1dT51).2.2.2.1)) == false) = true)
            have ob22 := idA ((((f23z1 r12 r13) || ((x1.getD n3 q1dT51).2.2.2.1 != (x1.getD n8 q1dT51).2.2.2.1)) == false) = true)
            obtain ⟨ob23, h⟩ := chk_some h
            have ob24 := idA ((((f23z1 r12 r13) || ((x1.getD n3 q1dT51).2.2.2.1 != (x1.getD n8 q1dT51).2.2.2.1)) == false) = true)
            have ob25 := idA ((((f23z1 r12 r13) || ((x1.getD n3 q1dT51).2.2.2.1 != (x1.getD n8 q1dT51).2.2.2.1)) == false) = true)
            have ob26 := idA ((((f23z1 r12 r13) || ((x1.getD n3 q1dT51).2.2.2.1 != (x1.getD n8 q1dT51).2.2.2.1)) == false) = true)
            have ob27 := idA ((((f23z1 r12 r13) || ((x1.getD n3 q1dT51).2.2.2.1 != (x1.getD n8 q1dT51).2.2.2.1)) == false) = true)
            have ob28 := idA ((((f23z1 r12 r13) || ((x1.getD n3 q1dT51).2.2.2.1 != (x1.getD n8 q1dT51).2.2.2.1)) == false) = true)
            have ob29 := idA ((((f23z1 r12 r13) || ((x1.getD n3 q1dT51).2.2.2.1 != (x1.getD n8 q1dT51).2.2.2.1)) == false) = true)
            have ob30 := bqA ((f23z1 r12 r13) || ((x1.getD n3 q1dT51).2.2.2.1 != (x1.getD n8 q1dT51).2.2.2.1)) false
            refine q1rr [] [] ⟨117, [(0, q1aT51 x1), (2, .ptr 2 0), (4, .ptr 4 0), (5, .bool b7), (6, .i (n3 : Int)), (7, .i (n8 : Int)), (8, .i r12), (9, .i r13), (66, .bool (((f23z1 r12 r13) || ((x1.getD n3 q1dT51).2.2.2.1 != (x1.getD n8 q1dT51).2.2.2.1)) || (((x1.getD n3 q1dT51).2.2.2.2.2.1) == ((x1.getD n8 q1dT51).2.2.2.2.2.1))))], (f23z2 i9 i10 i11), [], 0⟩ (ac6 (an2 ob2 ob3) ob4 (And.intro ob5 (an2 ob6 ob7)) (an1 ob8) (an1 ob9) (And.intro ob10 (an2 ob11 ob12)) (ac6 (an1 ob13) (an1 ob14) (an2 ob15 ob16) ob17 (And.intro ob18 (an2 ob19 ob20)) (an1 ob21) (an6 (an1 ob22) (And.intro ob23 (an2 ob24 ob25)) (an1 ob26) (an1 ob27) (an2 ob28 ob29) ob30))) ?_
            refine thenQ_normal ?_
            refine AWp.cond (b := (((f23z1 r12 r13) || ((x1.getD n3 q1dT51).2.2.2.1 != (x1.getD n8 q1dT51).2.2.2.1)) || (((x1.getD n3 q1dT51).2.2.2.2.2.1) == ((x1.getD n8 q1dT51).2.2.2.2.2.1)))) (by kernel_rfl) (fun hc3 => ?_) (fun hc3 => ?_)
            ·
              replace h := ite_tb hc3 h
              refine AWp.exit ?_
              refine thenQ_exit ?_
              refine blockQ_same ?_
              exact joinQ_normal (b7, i9, i10, i11) (Le.mk rfl rfl ⟨.refl _, .refl _, .refl _, .refl _, .refl _, .refl _, trivial⟩ ⟨⟨_, rfl, .refl _⟩, ⟨_, rfl, .refl _⟩, trivial⟩) h
            ·
              replace h := ite_fb hc3 h
              refine AWp.skip ?_
              refine thenQ_normal ?_
              refine AWp.seq ?_
              obtain ⟨ob31p, h⟩ := chk_some h
              have ob31 : 0 ≤ (n3 : Int) ∧ (n3 : Int) < (((x1).length : Nat) : Int) := ⟨by omega, ob31p⟩
              refine q1rr [] [] ⟨117, [(0, q1aT51 x1), (2, .ptr 2 0), (4, .ptr 4 0), (5, .bool b7), (6, .i (n3 : Int)), (7, .i (n8 : Int)), (10, .ptr 10 0)], [(2, .cells 60 (f23z0)), (4, .cells 60 [.i i9, .i i10, .i i11]), (10, .cells 60 [.i (x1.getD n3 q1dT51).2.2.2.1, .i r12, .i r13])], [], 0⟩ (an2 ob31 trivial) ?_
              refine thenQ_normal ?_
              refine AWp.seq ?_
              have ob32 := idA (((!b7) == false) = true)
              have ob33 := idA (((!b7) == false) = true)
              have ob34 := idA (((!b7) == false) = true)
              have ob35 := idA (((!b7) == false) = true)
              have ob36 := bqA (!b7) false
              have ob37 := idA ((((!b7) || (decide ((x1.getD n3 q1dT51).2.2.2.1 < i9))) == false) = true)
              have ob38 := idA ((((!b7) || (decide ((x1.getD n3 q1dT51).2.2.2.1 < i9))) == false) = true)
              have ob39 := idA ((((!b7) || (decide ((x1.getD n3 q1dT51).2.2.2.1 < i9))) == false) = true)
              have ob40 := idA ((((!b7) || (decide ((x1.getD n3 q1dT51).2.2.2.1 < i9))) == false) = true)
              have ob41 := idA ((((!b7) || (decide ((x1.getD n3 q1dT51).2.2.2.1 < i9))) == false) = true)
              have ob42 := idA (((((!b7) || (decide ((x1.getD n3 q1dT51).2.2.2.1 < i9))) == false) && (((x1.getD n3 q1dT51).2.2.2.1 == i9) == true)) = true)
              have ob43 := idA (((((!b7) || (decide ((x1.getD n3 q1dT51).2.2.2.1 < i9))) == false) && (((x1.getD n3 q1dT51).2.2.2.1 == i9) == true)) = true)
              have ob44 := idA (((((!b7) || (decide ((x1.getD n3 q1dT51).2.2.2.1 < i9))) == false) && (((x1.getD n3 q1dT51).2.2.2.1 == i9) == true)) = true)
              have ob45 := idA (((((!b7) || (decide ((x1.getD n3 q1dT51).2.2.2.1 < i9))) == false) && (((x1.getD n3 q1dT51).2.2.2.1 == i9) == true)) = true)
              have ob46 := idA (((((!b7) || (decide ((x1.getD n3 q1dT51).2.2.2.1 < i9))) == false) && (((x1.getD n3 q1dT51).2.2.2.1 == i9) == true)) = true)
              have ob47 := idA ((((((!b7) || (decide ((x1.getD n3 q1dT51).2.2.2.1 < i9))) == false) && (((x1.getD n3 q1dT51).2.2.2.1 == i9) == true)) && (f23z3 r12 i10)) = true)
              have ob48 := idA ((((((!b7) || (decide ((x1.getD n3 q1dT51).2.2.2.1 < i9))) == false) && (((x1.getD n3 q1dT51).2.2.2.1 == i9) == true)) && (f23z3 r12 i10)) = true)
              have ob49 := idA ((((((!b7) || (decide ((x1.getD n3 q1dT51).2.2.2.1 < i9))) == false) && (((x1.getD n3 q1dT51).2.2.2.1 == i9) == true)) && (f23z3 r12 i10)) = true)
              have ob50 := idA ((((((!b7) || (decide ((x1.getD n3 q1dT51).2.2.2.1 < i9))) == false) && (((x1.getD n3 q1dT51).2.2.2.1 == i9) == true)) && (f23z3 r12 i10)) = true)
              have ob51 := idA ((((((!b7) || (decide ((x1.getD n3 q1dT51).2.2.2.1 < i9))) == false) && (((x1.getD n3 q1dT51).2.2.2.1 == i9) == true)) && (f23z3 r12 i10)) = true)
              have ob52 := idA (((((((!b7) || (decide ((x1.getD n3 q1dT51).2.2.2.1 < i9))) == false) && (((x1.getD n3 q1dT51).2.2.2.1 == i9) == true)) && (f23z3 r12 i10)) && ((r12 == i10) == true)) = true)
              have ob53 := idA (((((((!b7) || (decide ((x1.getD n3 q1dT51).2.2.2.1 < i9))) == false) && (((x1.getD n3 q1dT51).2.2.2.1 == i9) == true)) && (f23z3 r12 i10)) && ((r12 == i10) == true)) = true)
              have ob54 := idA (((((((!b7) || (decide ((x1.getD n3 q1dT51).2.2.2.1 < i9))) == false) && (((x1.getD n3 q1dT51).2.2.2.1 == i9) == true)) && (f23z3 r12 i10)) && ((r12 == i10) == true)) = true)
              have ob55 := idA (((((((!b7) || (decide ((x1.getD n3 q1dT51).2.2.2.1 < i9))) == false) && (((x1.getD n3 q1dT51).2.2.2.1 == i9) == true)) && (f23z3 r12 i10)) && ((r12 == i10) == true)) = true)
              obtain ⟨ob56, h⟩ := chk_some h
              have ob57 := idA ((((((!b7) || (decide ((x1.getD n3 q1dT51).2.2.2.1 < i9))) == false) && (((x1.getD n3 q1dT51).2.2.2.1 == i9) == true)) && (f23z3 r12 i10)) = true)
              obtain ⟨ob58, h⟩ := chk_some h
              have ob59 := idA (((((!b7) || (decide ((x1.getD n3 q1dT51).2.2.2.1 < i9))) == false) && (((x1.getD n3 q1dT51).2.2.2.1 == i9) == true)) = true)
              obtain ⟨ob60, h⟩ := chk_some h
              have ob61 := idA ((((!b7) || (decide ((x1.getD n3 q1dT51).2.2.2.1 < i9))) == false) = true)
              have ob62 := bqA ((!b7) || (decide ((x1.getD n3 q1dT51).2.2.2.1 < i9))) false
              refine q1rr [] [] ⟨117, [(0, q1aT51 x1), (2, .ptr 2 0), (4, .ptr 4 0), (5, .bool b7), (6, .i (n3 : Int)), (7, .i (n8 : Int)), (10, .ptr 10 0), (111, .bool (((!b7) || (decide ((x1.getD n3 q1dT51).2.2.2.1 < i9))) || (((x1.getD n3 q1dT51).2.2.2.1 == i9) && ((decide (r12 < i10)) || ((r12 == i10) && (decide (r13 < i11)))))))], [(2, .cells 60 (f23z0)), (4, .cells 60 [.i i9, .i i10, .i i11]), (10, .cells 60 [.i (x1.getD n3 q1dT51).2.2.2.1, .i r12, .i r13])], [], 0⟩ (ac6 (an1 ob32) (an1 ob33) (an2 ob34 ob35) ob36 (an1 ob37) (an1 ob38) (ac6 (an2 ob39 ob40) (an1 ob41) (an1 ob42) (an1 ob43) (an2 ob44 ob45) (an1 ob46) (ac6 (an1 ob47) (an1 ob48) (an2 ob49 ob50) (an1 ob51) (an1 ob52) (an1 ob53) (an5 (an2 ob54 ob55) (And.intro ob56 (an1 ob57)) (And.intro ob58 (an1 ob59)) (And.intro ob60 (an1 ob61)) ob62)))) ?_
              refine thenQ_normal ?_
              refine AWp.cond (b := (((!b7) || (decide ((x1.getD n3 q1dT51).2.2.2.1 < i9))) || (((x1.getD n3 q1dT51).2.2.2.1 == i9) && ((decide (r12 < i10)) || ((r12 == i10) && (decide (r13 < i11))))))) (by kernel_rfl) (fun hc4 => ?_) (fun hc4 => ?_)
              ·
                replace h := ite_tb hc4 h
                refine q1rr [] [] ⟨117, [(0, q1aT51 x1), (2, .ptr 2 0), (4, .ptr 4 0), (5, .bool true), (6, .i (n3 : Int)), (7, .i (n8 : Int))], [(2, .cells 60 (f23z0)), (4, .cells 60 [.i (x1.getD n3 q1dT51).2.2.2.1, .i r12, .i r13])], [], 0⟩ (an1 trivial) ?_
                refine blockQ_normal ?_
                have eq63 : (x1.getD n3 q1dT51).2.2.2.1 = ((x1.getD n3 q1dT51).2.2.2.1) := by first | omega | (simp only [List.length_append, List.length_cons, List.length_nil, List.length_take, List.length_drop] at *; omega) | (simp; done) | (simp_all; done) | (simp_all; omega) | rfl
                exact joinQ_normal (true, (x1.getD n3 q1dT51).2.2.2.1, r12, r13) (Le.mk rfl rfl ⟨.refl _, .refl _, .refl _, .refl _, .refl _, .refl _, trivial⟩ ⟨⟨_, rfl, .refl _⟩, ⟨_, rfl, (.cellsL ⟨(.int eq63), .refl _, .refl _, trivial⟩)⟩, trivial⟩) h
              ·
                replace h := ite_fb hc4 h
                refine AWp.skip ?_
                refine blockQ_normal ?_
                exact joinQ_normal (b7, i9, i10, i11) (Le.mk rfl rfl ⟨.refl _, .refl _, .refl _, .refl _, .refl _, .refl _, trivial⟩ ⟨⟨_, rfl, .refl _⟩, ⟨_, rfl, .refl _⟩, trivial⟩) h
          ·
            rintro ⟨b14, i15, i16, i17⟩ h
            replace h := (congrFun hK3 _).symm.trans h
            obtain ⟨ob64p, h⟩ := chk_some h
            have ob64 : -9223372036854775808 ≤ ((n8 : Int) + (1 : Int)) ∧ ((n8 : Int) + (1 : Int)) ≤ 9223372036854775807 := ⟨by omega, ob64p⟩
            refine q1rr [] [] ⟨117, [(0, q1aT51 x1), (2, .ptr 2 0), (4, .ptr 4 0), (5, .bool b14), (6, .i (n3 : Int)), (7, .i (((n8 + 1) : Nat) : Int))], (f23z8 i15 i16 i17), [], 0⟩ (an1 ob64) ?_
            rw [hC1] at h
            exact loopQ_normal (_, b14, (n8 + 1), i15, i16, i17) (Le.mk rfl rfl ⟨.refl _, .refl _, .refl _, .refl _, .refl _, .refl _, trivial⟩ ⟨⟨_, rfl, .refl _⟩, ⟨_, rfl, .refl _⟩, trivial⟩) h (Nat.lt_succ_self _)
        ·
          replace h := ite_fb hc2 h
          refine AWp.exit ?_
          refine thenQ_exit ?_
          refine thenQ_exit ?_
          refine blockQ_same ?_
          refine blockQ_normal ?_
          exact joinQ_normal (b7, i9, i10, i11) (Le.mk rfl rfl ⟨.refl _, .refl _, .refl _, .refl _, .refl _, trivial⟩ ⟨⟨_, rfl, .refl _⟩, ⟨_, rfl, .refl _⟩, trivial⟩) h
      ·
        rintro ⟨b18, i19, i20, i21⟩ h
        replace h := (congrFun hK2 _).symm.trans h
        obtain ⟨ob65p, h⟩ := chk_some h
        have ob65 : -9223372036854775808 ≤ ((n3 : Int) + (1 : Int)) ∧ ((n3 : Int) + (1 : Int)) ≤ 9223372036854775807 := ⟨by omega, ob65p⟩
        refine q1rr [] [] ⟨117, [(0, q1aT51 x1), (2, .ptr 2 0), (4, .ptr 4 0), (5, .bool b18), (6, .i (((n3 + 1) : Nat) : Int))], (f23z7 i19 i20 i21), [], 0⟩ (an1 ob65) ?_
        rw [hC0] at h
        exact loopQ_normal (_, b18, (n3 + 1), i19, i20, i21) (Le.mk rfl rfl ⟨.refl _, .refl _, .refl _, .refl _, .refl _, trivial⟩ ⟨⟨_, rfl, .refl _⟩, ⟨_, rfl, .refl _⟩, trivial⟩) h (Nat.lt_succ_self _)
    ·
      replace h := ite_fb hc1 h
      refine AWp.exit ?_
      refine thenQ_exit ?_
      refine thenQ_exit ?_
      refine blockQ_same ?_
      exact joinQ_normal (b2, i4, i5, i6) (Le.mk rfl rfl ⟨.refl _, .refl _, .refl _, trivial⟩ ⟨⟨_, rfl, .refl _⟩, ⟨_, rfl, .refl _⟩, trivial⟩) h
  ·
    rintro ⟨b22, i23, i24, i25⟩ h
    replace h := (congrFun hK1 _).symm.trans h
    refine AWp.seq ?_
    refine q1rq [] [] ⟨117, [(2, .ptr 2 0), (4, .ptr 4 0), (114, .bool (!b22))], [(2, .cells 60 (f23z0)), (4, .cells 60 [.i i23, .i i24, .i i25])], [], 0⟩ trivial ?_
    refine AWp.cond (b := (!b22)) (by kernel_rfl) (fun hc5 => ?_) (fun hc5 => ?_)
    ·
      replace h := ite_tb hc5 h
      refine q1rq [] [] ⟨117, [(2, .ptr 2 0), (3, .i (13 : Int))], [(2, .cells 60 (f23z0))], [], 0⟩ (an1 trivial) ?_
      have hret := Option.some.inj h
      subst hret
      refine AWp.le (Le.mk (s' := ⟨117, [(2, .ptr 2 0), (3, .i (13 : Int))], [(2, .cells 60 (f23z0))], [], 0⟩) rfl rfl ⟨.refl _, .refl _, trivial⟩ ⟨⟨_, rfl, .refl _⟩, trivial⟩) ?_
      refine AWp.ret ?_
      refine thenQ_ret ?_
      exact bodyQ_ret _ rfl ⟨rfl, rfl⟩ rfl
    ·
      replace h := ite_fb hc5 h
      refine AWp.skip ?_
      refine thenQ_normal ?_
      refine q1rq [] [] ⟨117, [(2, .ptr 2 0), (3, .i (0 : Int))], [(2, .cells 60 [.i i23, .i i24, .i i25])], [], 0⟩ (an1 trivial) ?_
      have hret := Option.some.inj h
      subst hret
      refine AWp.le (Le.mk (s' := ⟨117, [(2, .ptr 2 0), (3, .i (0 : Int))], [(2, .cells 60 [.i i23, .i i24, .i i25])], [], 0⟩) rfl rfl ⟨.refl _, .refl _, trivial⟩ ⟨⟨_, rfl, .refl _⟩, trivial⟩) ?_
      refine AWp.ret ?_
      exact bodyQ_ret _ rfl ⟨rfl, rfl⟩ rfl
def f26 (_x1 : Int) (x2 : Int) (_x3 : Int) (_x4 : Int) (_x5 : Int) (_x6 : List UInt8) (_x7 : List UInt8) : Option Bool :=
  some (x2 != (4 : Int))
set_option maxRecDepth 100000 in
theorem f26_ok  (x1 : Int) (x2 : Int) (x3 : Int) (x4 : Int) (x5 : Int) (x6 : List UInt8) (x7 : List UInt8) (r : Bool) (h : f26 x1 x2 x3 x4 x5 x6 x7 = some r)  : Spec1 Tryz.prog 26 [] [] [] [.agg [.int .i64 x1, .int .i64 x2, .int .i64 x3, .int .i64 x4, .int .i64 x5, .str x6, .str x7, .opq, .opq, .opq, .opq, .opq, .opq, .opq, .opq, .opq, .opq, .opq, .opq, .opq, .opq, .opq, .opq, .opq, .opq, .opq, .opq, .opq]] (.bool r) [] := by
  unfold f26 at h
  refine Spec1.body 0 _ _ Tryz.func26 rfl Tryz.ntmps26 rfl rfl ?_
  refine q1rq [] [] ⟨6, [(1, .ptr 1 0)], [(1, .cells 51 [.i x1, .i x2, .i x3, .i x4, .i x5, .str x6, .str x7, .opq, .opq, .opq, .opq, .opq, .opq, .opq, .opq, .opq, .opq, .opq, .opq, .opq, .opq, .opq, .opq, .opq, .opq, .opq, .opq, .opq])], [], 0⟩ trivial ?_
  refine q1rq [] [] ⟨6, [(2, .bool (x2 != (4 : Int)))], [], [], 0⟩ trivial ?_
  have hret := Option.some.inj h
  subst hret
  refine AWp.le (Le.mk (s' := ⟨6, [(2, .bool (x2 != (4 : Int)))], [], [], 0⟩) rfl rfl ⟨.refl _, trivial⟩ trivial) ?_
  refine AWp.ret ?_
  exact bodyQ_ret _ rfl ⟨rfl, rfl⟩ rfl
def f53a_L0 (x1 : List Y51) (K1 : Unit → Option Int) : Nat → Nat → Option Int
  | 0, _ => none
  | k + 1, n2 =>
    if (decide ((n2 : Int) < (((x1).length : Nat) : Int))) then (
    (f26 ((x1.getD n2 (default : Y51)).1) ((x1.getD n2 (default : Y51)).2.1) ((x1.getD n2 (default : Y51)).2.2.1) ((x1.getD n2 (default : Y51)).2.2.2.1) ((x1.getD n2 (default : Y51)).2.2.2.2.1) ((x1.getD n2 (default : Y51)).2.2.2.2.2.1) ((x1.getD n2 (default : Y51)).2.2.2.2.2.2)).bind fun (r3 : Bool) =>
    chk ((n2 : Int) < (((x1).length : Nat) : Int)) <|
    if r3 then (
    some (n2 : Int)
    ) else (
    chk (((n2 : Int) + (1 : Int)) ≤ 9223372036854775807) <|
    (f53a_L0 x1 K1 k) (n2 + 1)
    )
    ) else (
    K1 ()
    )
def f53a (x1 : List Y51) : Option Int :=
  jn (fun (_ : Unit) =>
  some (-1 : Int)
  ) fun (K1 : Unit → Option Int) =>
  f53a_L0 x1 K1 FUEL 0
set_option maxRecDepth 100000 in
theorem f53a_ok  (x1 : List Y51) (r : Int) (h : f53a x1 = some r)  : Spec1 Tryz.prog 53 [] [] [] [vL 28 eT51 (default : Y51) x1, .fn (.func 26) []] (.int .i64 r) [] := by
  unfold f53a at h
  refine Spec1.body 0 _ _ Tryz.func53 rfl Tryz.ntmps53 rfl rfl ?_
  refine q1rq [] [] ⟨19, [(0, q1aT51 x1), (1, .fn (.func 26) [])], [], [], 0⟩ trivial ?_
  obtain ⟨K1, hK1, h⟩ := jn_some h
  refine AWp.join (α := Unit) (fun (x : Unit) => match x with | () => ⟨19, [], [], [], 0⟩) (fun x => K1 x = some r) ?_ ?_
  ·
    refine q1rq [] [] ⟨19, [(0, q1aT51 x1), (1, .fn (.func 26) []), (7, .i (lZ x1)), (8, .i (0 : Int))], [], [], 0⟩ trivial ?_
    refine AWp.block ?_
    refine AWp.loopL (α := Nat × Nat) (fun x => match x with | (_, n2) => ⟨19, [(0, q1aT51 x1), (1, .fn (.func 26) []), (7, .i (lZ x1)), (8, .i (n2 : Int))], [], [], 0⟩) (fun x => f53a_L0 x1 K1 x.1 x.2 = some r) (fun x => x.1) (FUEL, 0) (Le.mk (s' := ⟨19, [(0, q1aT51 x1), (1, .fn (.func 26) []), (7, .i (lZ x1)), (8, .i (0 : Int))], [], [], 0⟩) rfl rfl ⟨.refl _, .refl _, .refl _, .refl _, trivial⟩ trivial) h ?_
    rintro ⟨k0, n2⟩ h
    cases k0 with
    | zero => exact nomatch (show (none : Option Int) = some r from h)
    | succ k0 =>
    obtain ⟨C0, hC0⟩ : ∃ C, C = f53a_L0 x1 K1 k0 := ⟨_, rfl⟩
    replace h := (f53a_L0.eq_2 ..).symm.trans h
    try rw [← hC0] at h
    refine q1rq [] [] ⟨19, [(0, q1aT51 x1), (1, .fn (.func 26) []), (7, .i (lZ x1)), (8, .i (n2 : Int)), (9, .bool (decide ((n2 : Int) < (lZ x1))))], [], [], 0⟩ trivial ?_
    refine AWp.seq ?_
    refine AWp.cond (b := (decide ((n2 : Int) < (lZ x1)))) (by kernel_rfl) (fun hc1 => ?_) (fun hc1 => ?_)
    ·
      replace h := ite_tb hc1 h
      refine AWp.skip ?_
      refine thenQ_normal ?_
      refine AWp.seq ?_
      refine AWp.block ?_
      refine q1rq [] [] ⟨19, [(0, q1aT51 x1), (1, .fn (.func 26) []), (5, .i (n2 : Int)), (7, .i (lZ x1)), (8, .i (n2 : Int))], [], [], 0⟩ trivial ?_
      refine AWp.seq ?_
      obtain ⟨r3, hr3, h⟩ := bind_ok h
      obtain ⟨ob0p, h⟩ := chk_some h
      have ob0 : 0 ≤ (n2 : Int) ∧ (n2 : Int) < (((x1).length : Nat) : Int) := ⟨by omega, ob0p⟩
      refine q1rr [] [(5, ⟨[.agg [.i (x1.getD n2 q1dT51).1, .i (x1.getD n2 q1dT51).2.1, .i (x1.getD n2 q1dT51).2.2.1, .i (x1.getD n2 q1dT51).2.2.2.1, .i (x1.getD n2 q1dT51).2.2.2.2.1, .str (x1.getD n2 q1dT51).2.2.2.2.2.1, .str (x1.getD n2 q1dT51).2.2.2.2.2.2, .opq, .opq, .opq, .opq, .opq, .opq, .opq, .opq, .opq, .opq, .opq, .opq, .opq, .opq, .opq, .opq, .opq, .opq, .opq, .opq, .opq]], [], [], [], .bool r3, [], [], []⟩)] ⟨19, [(0, q1aT51 x1), (1, .fn (.func 26) []), (5, .i (n2 : Int)), (7, .i (lZ x1)), (8, .i (n2 : Int)), (16, .bool r3)], [], [], 0⟩ (an2 ob0 (cpT (f26_ok _ _ _ _ _ _ _ _ hr3))) ?_
      refine thenQ_normal ?_
      refine AWp.cond (b := r3) (by kernel_rfl) (fun hc2 => ?_) (fun hc2 => ?_)
      ·
        replace h := ite_tb hc2 h
        refine q1rq [] [] ⟨19, [(4, .i (n2 : Int))], [], [], 0⟩ trivial ?_
        have hret := Option.some.inj h
        subst hret
        refine AWp.le (Le.mk (s' := ⟨19, [(4, .i (n2 : Int))], [], [], 0⟩) rfl rfl ⟨.refl _, trivial⟩ trivial) ?_
        refine AWp.ret ?_
        refine blockQ_ret ?_
        refine thenQ_ret ?_
        refine thenQ_ret ?_
        refine blockQ_ret ?_
        refine joinQ_ret ?_
        exact bodyQ_ret _ rfl ⟨rfl, rfl⟩ rfl
      ·
        replace h := ite_fb hc2 h
        refine AWp.skip ?_
        refine blockQ_normal ?_
        refine thenQ_normal ?_
        obtain ⟨ob1p, h⟩ := chk_some h
        have ob1 : -9223372036854775808 ≤ ((n2 : Int) + (1 : Int)) ∧ ((n2 : Int) + (1 : Int)) ≤ 9223372036854775807 := ⟨by omega, ob1p⟩
        refine q1rr [] [] ⟨19, [(0, q1aT51 x1), (1, .fn (.func 26) []), (7, .i (lZ x1)), (8, .i (((n2 + 1) : Nat) : Int))], [], [], 0⟩ (an1 ob1) ?_
        rw [hC0] at h
        exact loopQ_normal (_, (n2 + 1)) (Le.mk rfl rfl ⟨.refl _, .refl _, .refl _, .refl _, trivial⟩ trivial) h (Nat.lt_succ_self _)
    ·
      replace h := ite_fb hc1 h
      refine AWp.exit ?_
      refine thenQ_exit ?_
      refine thenQ_exit ?_
      refine blockQ_same ?_
      exact joinQ_normal () (Le.mk rfl rfl trivial trivial) h
  ·
    rintro ⟨⟩ h
    replace h := (congrFun hK1 _).symm.trans h
    refine q1rq [] [] ⟨19, [(4, .i (-1 : Int))], [], [], 0⟩ trivial ?_
    have hret := Option.some.inj h
    subst hret
    refine AWp.le (Le.mk (s' := ⟨19, [(4, .i (-1 : Int))], [], [], 0⟩) rfl rfl ⟨.refl _, trivial⟩ trivial) ?_
    refine AWp.ret ?_
    exact bodyQ_ret _ rfl ⟨rfl, rfl⟩ rfl
def f24a_L0 (K1 : (Int × List Y51) → Option (List Y51)) : Nat → (Int × Int × List Y51) → Option (List Y51)
  | 0, _ => none
  | k + 1, (i3, i4, l5) =>
    if (decide (i4 < (((l5).length : Nat) : Int))) then (
    jn (fun ((i7, l8) : Int × List Y51) =>
    chk (-9223372036854775808 ≤ (i4 + (1 : Int)) ∧ (i4 + (1 : Int)) ≤ 9223372036854775807) <|
    (f24a_L0 K1 k) (i7, (i4 + (1 : Int)), l8)
    ) fun (K2 : (Int × List Y51) → Option (List Y51)) =>
    chk (0 ≤ i4 ∧ i4 < (((l5).length : Nat) : Int)) <|
    chk (((i4).toNat) < (l5).length) <|
    (f26 ((l5.getD ((i4).toNat) (default : Y51)).1) ((l5.getD ((i4).toNat) (default : Y51)).2.1) ((l5.getD ((i4).toNat) (default : Y51)).2.2.1) ((l5.getD ((i4).toNat) (default : Y51)).2.2.2.1) ((l5.getD ((i4).toNat) (default : Y51)).2.2.2.2.1) ((l5.getD ((i4).toNat) (default : Y51)).2.2.2.2.2.1) ((l5.getD ((i4).toNat) (default : Y51)).2.2.2.2.2.2)).bind fun (r6 : Bool) =>
    if (!r6) then (
    chk (0 ≤ i3 ∧ i3 < (((l5).length : Nat) : Int)) <|
    chk (((i3).toNat) < (l5).length) <|
    chk (-9223372036854775808 ≤ (i3 + (1 : Int)) ∧ (i3 + (1 : Int)) ≤ 9223372036854775807) <|
    K2 ((i3 + (1 : Int)), (l5.set ((i3).toNat) (((l5.getD ((i4).toNat) (default : Y51)).1, (l5.getD ((i4).toNat) (default : Y51)).2.1, (l5.getD ((i4).toNat) (default : Y51)).2.2.1, (l5.getD ((i4).toNat) (default : Y51)).2.2.2.1, (l5.getD ((i4).toNat) (default : Y51)).2.2.2.2.1, (l5.getD ((i4).toNat) (default : Y51)).2.2.2.2.2.1, (l5.getD ((i4).toNat) (default : Y51)).2.2.2.2.2.2) : Y51)))
    ) else (
    K2 (i3, l5)
    )
    ) else (
    K1 (i3, l5)
    )
def f24a (x1 : List Y51) : Option (List Y51) :=
  (f53a x1).bind fun (r2 : Int) =>
  if (r2 == (-1 : Int)) then (
  some x1
  ) else (
  jn (fun ((i9, l10) : Int × List Y51) =>
  chk (0 ≤ i9 ∧ i9 ≤ (((l10).length : Nat) : Int)) <|
  chk (((i9).toNat) + ((l10).length - (i9).toNat) ≤ (l10).length ∧ 0 < ((l10).length - (i9).toNat)) <|
  chk (0 ≤ i9 ∧ i9 ≤ ((((l10.take ((i9).toNat) ++ List.replicate ((l10).length - (i9).toNat) (((0 : Int), (0 : Int), (0 : Int), (0 : Int), (0 : Int), [], []) : Y51))).length : Nat) : Int)) <|
  chk (((i9).toNat) ≤ (l10.take ((i9).toNat) ++ List.replicate ((l10).length - (i9).toNat) (((0 : Int), (0 : Int), (0 : Int), (0 : Int), (0 : Int), [], []) : Y51)).length) <|
  some ((l10.take ((i9).toNat) ++ List.replicate ((l10).length - (i9).toNat) (((0 : Int), (0 : Int), (0 : Int), (0 : Int), (0 : Int), [], []) : Y51)).take ((i9).toNat))
  ) fun (K1 : (Int × List Y51) → Option (List Y51)) =>
  chk (-9223372036854775808 ≤ (r2 + (1 : Int)) ∧ (r2 + (1 : Int)) ≤ 9223372036854775807) <|
  f24a_L0 K1 FUEL (r2, (r2 + (1 : Int)), x1)
  )
set_option maxRecDepth 100000 in
theorem f24a_ok  (x1 : List Y51) (r : List Y51) (h : f24a x1 = some r)  : Spec1 Tryz.prog 24 [] [] [(2000, bL 51 28 eT51 (default : Y51) x1)] [.own 2000, .fn (.func 26) []] (.own 2000) [(2000, bL 51 28 eT51 (default : Y51) r)] := by
  unfold f24a at h
  refine Spec1.body 0 _ _ Tryz.func24 rfl Tryz.ntmps24 rfl rfl ?_
  refine q1rq [] [] ⟨42, [(0, .own 2000), (1, .fn (.func 26) [])], [(2000, q1bT51_51 x1)], [], 0⟩ trivial ?_
  refine AWp.seq ?_
  obtain ⟨r2, hr2, h⟩ := bind_ok h
  refine q1rr [] [(2, ⟨[q1aT51 x1, .fn (.func 26) []], [], [], [], .i r2, [], [2000], []⟩)] ⟨42, [(0, .own 2000), (1, .fn (.func 26) []), (5, .i r2)], [(2000, q1bT51_51 x1)], [], 0⟩ (an1 (cpL (c := true) [(2000, q1bT51_51 x1)] [2000] [.own 2000, .fn (.func 26) []] (fun _ => (f53a_ok _ _ hr2)) (fun _ => ⟨.refl _, .refl _, trivial⟩) (.inr ⟨rfl, trivial⟩))) ?_
  refine thenQ_normal ?_
  refine AWp.seq ?_
  refine q1rq [] [] ⟨42, [(0, .own 2000), (1, .fn (.func 26) []), (5, .i r2), (12, .bool (r2 == (-1 : Int)))], [(2000, q1bT51_51 x1)], [], 0⟩ trivial ?_
  refine AWp.cond (b := (r2 == (-1 : Int))) (by kernel_rfl) (fun hc1 => ?_) (fun hc1 => ?_)
  ·
    replace h := ite_tb hc1 h
    refine q1rq [] [] ⟨42, [(4, .own 2000)], [(2000, q1bT51_51 x1)], [], 0⟩ trivial ?_
    have hret := Option.some.inj h
    subst hret
    refine AWp.le (Le.mk (s' := ⟨42, [(4, .own 2000)], [(2000, q1bT51_51 x1)], [], 0⟩) rfl rfl ⟨.refl _, trivial⟩ ⟨⟨_, rfl, .refl _⟩, trivial⟩) ?_
    refine AWp.ret ?_
    refine thenQ_ret ?_
    exact bodyQ_ret _ rfl ⟨rfl, rfl⟩ rfl
  ·
    replace h := ite_fb hc1 h
    refine AWp.skip ?_
    refine thenQ_normal ?_
    obtain ⟨K1, hK1, h⟩ := jn_some h
    refine AWp.join (α := Int × List Y51) (fun (x : Int × List Y51) => match x with | (i9, l10) => ⟨42, [(0, .own 2000), (5, .i i9)], [(2000, q1bT51_51 l10)], [], 0⟩) (fun x => K1 x = some r) ?_ ?_
    ·
      refine AWp.seq ?_
      obtain ⟨ob0, h⟩ := chk_some h
      refine q1rr [] [] ⟨42, [(0, .own 2000), (1, .fn (.func 26) []), (5, .i r2), (6, .i (r2 + (1 : Int)))], [(2000, q1bT51_51 x1)], [], 0⟩ (an1 ob0) ?_
      refine thenQ_normal ?_
      refine AWp.block ?_
      refine AWp.loopL (α := Nat × (Int × Int × List Y51)) (fun x => match x with | (_, i3, i4, l5) => ⟨42, [(0, .own 2000), (1, .fn (.func 26) []), (5, .i i3), (6, .i i4)], [(2000, q1bT51_51 l5)], [], 0⟩) (fun x => f24a_L0 K1 x.1 x.2 = some r) (fun x => x.1) (FUEL, r2, (r2 + (1 : Int)), x1) (Le.mk (s' := ⟨42, [(0, .own 2000), (1, .fn (.func 26) []), (5, .i r2), (6, .i (r2 + (1 : Int)))], [(2000, q1bT51_51 x1)], [], 0⟩) rfl rfl ⟨.refl _, .refl _, .refl _, .refl _, trivial⟩ ⟨⟨_, rfl, .refl _⟩, trivial⟩) h ?_
      rintro ⟨k0, i3, i4, l5⟩ h
      cases k0 with
      | zero => exact nomatch (show (none : Option (List Y51)) = some r from h)
      | succ k0 =>
      obtain ⟨C0, hC0⟩ : ∃ C, C = f24a_L0 K1 k0 := ⟨_, rfl⟩
      replace h := (f24a_L0.eq_2 ..).symm.trans h
      try rw [← hC0] at h
      refine AWp.seq ?_
      refine q1rq [] [] ⟨42, [(0, .own 2000), (1, .fn (.func 26) []), (5, .i i3), (6, .i i4), (19, .bool (decide (i4 < (lZ l5))))], [(2000, q1bT51_51 l5)], [], 0⟩ trivial ?_
      refine AWp.cond (b := (decide (i4 < (lZ l5)))) (by kernel_rfl) (fun hc2 => ?_) (fun hc2 => ?_)
      ·
        replace h := ite_tb hc2 h
        refine AWp.skip ?_
        refine thenQ_normal ?_
        obtain ⟨K2, hK2, h⟩ := jn_some h
        refine AWp.join (α := Int × List Y51) (fun (x : Int × List Y51) => match x with | (i7, l8) => ⟨42, [(0, .own 2000), (1, .fn (.func 26) []), (5, .i i7), (6, .i i4)], [(2000, q1bT51_51 l8)], [], 0⟩) (fun x => K2 x = some r) ?_ ?_
        ·
          refine AWp.block ?_
          refine AWp.seq ?_
          obtain ⟨ob1, ob2, h⟩ := ck2 h
          refine q1rr [] [] ⟨42, [(0, .own 2000), (1, .fn (.func 26) []), (5, .i i3), (6, .i i4), (7, .ptr 7 0)], [(7, .cells 51 [.i (l5.getD ((i4).toNat) q1dT51).1, .i (l5.getD ((i4).toNat) q1dT51).2.1, .i (l5.getD ((i4).toNat) q1dT51).2.2.1, .i (l5.getD ((i4).toNat) q1dT51).2.2.2.1, .i (l5.getD ((i4).toNat) q1dT51).2.2.2.2.1, .str (l5.getD ((i4).toNat) q1dT51).2.2.2.2.2.1, .str (l5.getD ((i4).toNat) q1dT51).2.2.2.2.2.2, .opq, .opq, .opq, .opq, .opq, .opq, .opq, .opq, .opq, .opq, .opq, .opq, .opq, .opq, .opq, .opq, .opq, .opq, .opq, .opq, .opq]), (2000, q1bT51_51 l5)], [], 0⟩ (an3 ob1 ob2 trivial) ?_
          refine thenQ_normal ?_
          refine AWp.seq ?_
          obtain ⟨r6, hr6, h⟩ := bind_ok h
          refine q1rr [] [(2, ⟨[.agg [.i (l5.getD ((i4).toNat) q1dT51).1, .i (l5.getD ((i4).toNat) q1dT51).2.1, .i (l5.getD ((i4).toNat) q1dT51).2.2.1, .i (l5.getD ((i4).toNat) q1dT51).2.2.2.1, .i (l5.getD ((i4).toNat) q1dT51).2.2.2.2.1, .str (l5.getD ((i4).toNat) q1dT51).2.2.2.2.2.1, .str (l5.getD ((i4).toNat) q1dT51).2.2.2.2.2.2, .opq, .opq, .opq, .opq, .opq, .opq, .opq, .opq, .opq, .opq, .opq, .opq, .opq, .opq, .opq, .opq, .opq, .opq, .opq, .opq, .opq]], [], [], [], .bool r6, [], [], []⟩)] ⟨42, [(0, .own 2000), (1, .fn (.func 26) []), (5, .i i3), (6, .i i4), (7, .ptr 7 0), (29, .bool (!r6))], [(7, .cells 51 [.i (l5.getD ((i4).toNat) q1dT51).1, .i (l5.getD ((i4).toNat) q1dT51).2.1, .i (l5.getD ((i4).toNat) q1dT51).2.2.1, .i (l5.getD ((i4).toNat) q1dT51).2.2.2.1, .i (l5.getD ((i4).toNat) q1dT51).2.2.2.2.1, .str (l5.getD ((i4).toNat) q1dT51).2.2.2.2.2.1, .str (l5.getD ((i4).toNat) q1dT51).2.2.2.2.2.2, .opq, .opq, .opq, .opq, .opq, .opq, .opq, .opq, .opq, .opq, .opq, .opq, .opq, .opq, .opq, .opq, .opq, .opq, .opq, .opq, .opq]), (2000, q1bT51_51 l5)], [], 0⟩ (an1 (cpT (f26_ok _ _ _ _ _ _ _ _ hr6))) ?_
          refine thenQ_normal ?_
          refine AWp.cond (b := (!r6)) (by kernel_rfl) (fun hc3 => ?_) (fun hc3 => ?_)
          ·
            replace h := ite_tb hc3 h
            refine AWp.seq ?_
            obtain ⟨ob3, ob4, h⟩ := ck2 h
            refine q1rr [] [] ⟨42, [(0, .own 2000), (1, .fn (.func 26) []), (5, .i i3), (6, .i i4)], [(2000, .rows 51 28 (l5).length (updF (encF eT51 q1dT51 l5) ((i3).toNat) 0 [.i (l5.getD ((i4).toNat) q1dT51).1, .i (l5.getD ((i4).toNat) q1dT51).2.1, .i (l5.getD ((i4).toNat) q1dT51).2.2.1, .i (l5.getD ((i4).toNat) q1dT51).2.2.2.1, .i (l5.getD ((i4).toNat) q1dT51).2.2.2.2.1, .str (l5.getD ((i4).toNat) q1dT51).2.2.2.2.2.1, .str (l5.getD ((i4).toNat) q1dT51).2.2.2.2.2.2, .opq, .opq, .opq, .opq, .opq, .opq, .opq, .opq, .opq, .opq, .opq, .opq, .opq, .opq, .opq, .opq, .opq, .opq, .opq, .opq, .opq]))], [], 0⟩ (an2 ob3 ob4) ?_
            refine thenQ_normal ?_
            refine AWp.le (Le.mk (s' := ⟨42, [(0, .own 2000), (1, .fn (.func 26) []), (5, .i i3), (6, .i i4)], [(2000, q1bT51_51 (l5.set ((i3).toNat) (((l5.getD ((i4).toNat) q1dT51).1, (l5.getD ((i4).toNat) q1dT51).2.1, (l5.getD ((i4).toNat) q1dT51).2.2.1, (l5.getD ((i4).toNat) q1dT51).2.2.2.1, (l5.getD ((i4).toNat) q1dT51).2.2.2.2.1, (l5.getD ((i4).toNat) q1dT51).2.2.2.2.2.1, (l5.getD ((i4).toNat) q1dT51).2.2.2.2.2.2) : Y51)))], [], 0⟩) rfl rfl ⟨.refl _, .refl _, .refl _, .refl _, trivial⟩ ⟨⟨_, rfl, (BLe.of (RL.setW (((l5.getD ((i4).toNat) q1dT51).1, (l5.getD ((i4).toNat) q1dT51).2.1, (l5.getD ((i4).toNat) q1dT51).2.2.1, (l5.getD ((i4).toNat) q1dT51).2.2.2.1, (l5.getD ((i4).toNat) q1dT51).2.2.2.2.1, (l5.getD ((i4).toNat) q1dT51).2.2.2.2.2.1, (l5.getD ((i4).toNat) q1dT51).2.2.2.2.2.2) : Y51) (RL.self _) rfl ⟨.refl _, .refl _, .refl _, .refl _, .refl _, .refl _, .refl _, .refl _, .refl _, .refl _, .refl _, .refl _, .refl _, .refl _, .refl _, .refl _, .refl _, .refl _, .refl _, .refl _, .refl _, .refl _, .refl _, .refl _, .refl _, .refl _, .refl _, .refl _, trivial⟩))⟩, trivial⟩) ?_
            obtain ⟨ob5, h⟩ := chk_some h
            refine q1rr [] [] ⟨42, [(0, .own 2000), (1, .fn (.func 26) []), (5, .i (i3 + (1 : Int))), (6, .i i4)], [(2000, q1bT51_51 (l5.set ((i3).toNat) (((l5.getD ((i4).toNat) q1dT51).1, (l5.getD ((i4).toNat) q1dT51).2.1, (l5.getD ((i4).toNat) q1dT51).2.2.1, (l5.getD ((i4).toNat) q1dT51).2.2.2.1, (l5.getD ((i4).toNat) q1dT51).2.2.2.2.1, (l5.getD ((i4).toNat) q1dT51).2.2.2.2.2.1, (l5.getD ((i4).toNat) q1dT51).2.2.2.2.2.2) : Y51)))], [], 0⟩ (an1 ob5) ?_
            refine blockQ_normal ?_
            exact joinQ_normal ((i3 + (1 : Int)), (l5.set ((i3).toNat) (((l5.getD ((i4).toNat) q1dT51).1, (l5.getD ((i4).toNat) q1dT51).2.1, (l5.getD ((i4).toNat) q1dT51).2.2.1, (l5.getD ((i4).toNat) q1dT51).2.2.2.1, (l5.getD ((i4).toNat) q1dT51).2.2.2.2.1, (l5.getD ((i4).toNat) q1dT51).2.2.2.2.2.1, (l5.getD ((i4).toNat) q1dT51).2.2.2.2.2.2) : Y51))) (Le.mk rfl rfl ⟨.refl _, .refl _, .refl _, .refl _, trivial⟩ ⟨⟨_, rfl, .refl _⟩, trivial⟩) h
          ·
            replace h := ite_fb hc3 h
            refine AWp.skip ?_
            refine blockQ_normal ?_
            exact joinQ_normal (i3, l5) (Le.mk rfl rfl ⟨.refl _, .refl _, .refl _, .refl _, trivial⟩ ⟨⟨_, rfl, .refl _⟩, trivial⟩) h
        ·
          rintro ⟨i7, l8⟩ h
          replace h := (congrFun hK2 _).symm.trans h
          obtain ⟨ob6, h⟩ := chk_some h
          refine q1rr [] [] ⟨42, [(0, .own 2000), (1, .fn (.func 26) []), (5, .i i7), (6, .i (i4 + (1 : Int)))], [(2000, q1bT51_51 l8)], [], 0⟩ (an1 ob6) ?_
          rw [hC0] at h
          exact loopQ_normal (_, i7, (i4 + (1 : Int)), l8) (Le.mk rfl rfl ⟨.refl _, .refl _, .refl _, .refl _, trivial⟩ ⟨⟨_, rfl, .refl _⟩, trivial⟩) h (Nat.lt_succ_self _)
      ·
        replace h := ite_fb hc2 h
        refine AWp.exit ?_
        refine thenQ_exit ?_
        refine thenQ_exit ?_
        refine blockQ_same ?_
        exact joinQ_normal (i3, l5) (Le.mk rfl rfl ⟨.refl _, .refl _, trivial⟩ ⟨⟨_, rfl, .refl _⟩, trivial⟩) h
    ·
      rintro ⟨i9, l10⟩ h
      replace h := (congrFun hK1 _).symm.trans h
      refine AWp.seq ?_
      obtain ⟨ob7, ob8, h⟩ := ck2 h
      refine q1rr [] [] ⟨42, [(0, .own 2000), (5, .i i9)], [(2000, .rows 51 28 (l10).length (clrF (encF eT51 q1dT51 l10) ((i9).toNat) ((l10).length - (i9).toNat) [.i (0 : Int), .i (0 : Int), .i (0 : Int), .i (0 : Int), .i (0 : Int), .str [], .str [], .i (0 : Int), .i (0 : Int), .i (0 : Int), .i (0 : Int), .i (0 : Int), .str [], .i (0 : Int), .i (0 : Int), .i (0 : Int), .i (0 : Int), .i (0 : Int), .str [], .str [], .nils, .nils, .i (0 : Int), .str [], .nils, .nils, .nils, .nils]))], [], 0⟩ (an2 ob7 ob8) ?_
      refine thenQ_normal ?_
      refine AWp.le (Le.mk (s' := ⟨42, [(0, .own 2000), (5, .i i9)], [(2000, q1bT51_51 (l10.take ((i9).toNat) ++ List.replicate ((l10).length - (i9).toNat) (((0 : Int), (0 : Int), (0 : Int), (0 : Int), (0 : Int), [], []) : Y51)))], [], 0⟩) rfl rfl ⟨.refl _, .refl _, trivial⟩ ⟨⟨_, rfl, (BLe.of (RL.clrV (((0 : Int), (0 : Int), (0 : Int), (0 : Int), (0 : Int), [], []) : Y51) (RL.self _) (by first | omega | (simp only [List.length_append, List.length_cons, List.length_nil, List.length_take, List.length_drop] at *; omega) | (simp; done) | (simp_all; done) | (simp_all; omega) | rfl) ⟨.refl _, .refl _, .refl _, .refl _, .refl _, .refl _, .refl _, VLe.opq rfl, VLe.opq rfl, VLe.opq rfl, VLe.opq rfl, VLe.opq rfl, VLe.opq rfl, VLe.opq rfl, VLe.opq rfl, VLe.opq rfl, VLe.opq rfl, VLe.opq rfl, VLe.opq rfl, VLe.opq rfl, VLe.opq rfl, VLe.opq rfl, VLe.opq rfl, VLe.opq rfl, VLe.opq rfl, VLe.opq rfl, VLe.opq rfl, VLe.opq rfl, trivial⟩))⟩, trivial⟩) ?_
      refine AWp.seq ?_
      obtain ⟨ob9, h⟩ := chk_some h
      refine q1rr [] [] ⟨42, [(4, .osl 2000 28 0 ((i9).toNat))], [(2000, q1bT51_51 (l10.take ((i9).toNat) ++ List.replicate ((l10).length - (i9).toNat) (((0 : Int), (0 : Int), (0 : Int), (0 : Int), (0 : Int), [], []) : Y51)))], [], 0⟩ (an1 ob9) ?_
      refine thenQ_normal ?_
      obtain ⟨hk4, h⟩ := chk_some h
      refine AWp.le (Le.trans (Le.cutOwn 4 2000 ((i9).toNat) hk4 rfl rfl rfl) (Le.mk (s' := ⟨42, [(4, .own 2000)], [(2000, q1bT51_51 ((l10.take ((i9).toNat) ++ List.replicate ((l10).length - (i9).toNat) (((0 : Int), (0 : Int), (0 : Int), (0 : Int), (0 : Int), [], []) : Y51)).take ((i9).toNat)))], [], 0⟩) rfl rfl ⟨.refl _, trivial⟩ ⟨⟨_, rfl, (BLe.of (RL.take (RL.self _) hk4))⟩, trivial⟩)) ?_
      have hret := Option.some.inj h
      subst hret
      refine AWp.le (Le.mk (s' := ⟨42, [(4, .own 2000)], [(2000, q1bT51_51 ((l10.take ((i9).toNat) ++ List.replicate ((l10).length - (i9).toNat) (((0 : Int), (0 : Int), (0 : Int), (0 : Int), (0 : Int), [], []) : Y51)).take ((i9).toNat)))], [], 0⟩) rfl rfl ⟨.refl _, trivial⟩ ⟨⟨_, rfl, .refl _⟩, trivial⟩) ?_
      refine AWp.ret ?_
      exact bodyQ_ret _ rfl ⟨rfl, rfl⟩ rfl
abbrev f7z0 (r9 : Int × Int × Int) (r10 : Int × Int × Int × Int) := (((r9.2.2 == (0 : Int)) && (r9.2.1 == (1 : Int))) == (r10.2.2.2 == (0 : Int)))
abbrev f7z1 (r5 : Int × Int × Int × Int) (r6 : Int × Int × Int × Int) := (!((r5.1 == r6.1) && ((r5.2.1 == r6.2.1) && ((r5.2.2.1 == r6.2.2.1) && true))))
def f7 (x1 : List Y51) : Option Bool :=
  (f11 ).bind fun (r2 : Bool) =>
  optc ((!r2) == false) (f16 x1) fun (r3 : Bool) =>
  if ((!r2) || (!r3)) then (
  (f11 ).bind fun (r4 : Bool) =>
  some r4
  ) else (
  (f22 x1).bind fun (r5 : Int × Int × Int × Int) =>
  (f23 x1).bind fun (r6 : Int × Int × Int × Int) =>
  if ((!((r5.1 == r6.1) && ((r5.2.1 == r6.2.1) && ((r5.2.2.1 == r6.2.2.1) && true)))) || (r5.2.2.2 != r6.2.2.2)) then (
  some false
  ) else (
  (f25 x1).bind fun (r7 : List Y51) =>
  (f24a r7).bind fun (r8 : List Y51) =>
  (f13 [] [] (BitVec.ofInt 16 0) [] [] [] r8).bind fun (r9 : Int × Int × Int) =>
  (f22 r8).bind fun (r10 : Int × Int × Int × Int) =>
  some ((((r9.2.2 == (0 : Int)) && (r9.2.1 == (1 : Int))) == (r10.2.2.2 == (0 : Int))) && ((r9.2.2 == (13 : Int)) == (r10.2.2.2 == (13 : Int))))
  )
  )
set_option maxRecDepth 100000 in
theorem f7_ok  (x1 : List Y51) (r : Bool) (h : f7 x1 = some r)  : Spec1 Tryz.prog 7 [] [] [] [vL 28 eT51 (default : Y51) x1] (.bool r) [] := by
  unfold f7 at h
  refine Spec1.body 0 _ _ Tryz.func7 rfl Tryz.ntmps7 rfl rfl ?_
  refine q1rq [] [] ⟨70, [(0, q1aT51 x1)], [], [], 0⟩ trivial ?_
  refine AWp.seq ?_
  refine AWp.seq ?_
  obtain ⟨r2, hr2, h⟩ := bind_ok h
  obtain ⟨r3, hr3, h⟩ := optc_some h
  have ob0 := idA (((!r2) == false) = true)
  have ob1 := idA (((!r2) == false) = true)
  have ob2 := bqA (!r2) false
  refine q1rr [] [(0, ⟨[], [], [], [], .bool r2, [], [], []⟩), (4, ⟨[q1aT51 x1], [], [], [], .bool r3, [], [], []⟩)] ⟨70, [(0, q1aT51 x1), (19, .bool ((!r2) || (!r3)))], [], [], 0⟩ (an4 (cpT (f11_ok _ hr2)) (And.intro (cpC fun hc => (f16_ok _ _ (hr3 hc))) (an1 ob0)) (an1 ob1) ob2) ?_
  refine thenQ_normal ?_
  refine AWp.cond (b := ((!r2) || (!r3))) (by kernel_rfl) (fun hc1 => ?_) (fun hc1 => ?_)
  ·
    replace h := ite_tb hc1 h
    refine AWp.seq ?_
    obtain ⟨r4, hr4, h⟩ := bind_ok h
    refine q1rr [] [(0, ⟨[], [], [], [], .bool r4, [], [], []⟩)] ⟨70, [(2, .bool r4)], [], [], 0⟩ (an1 (cpT (f11_ok _ hr4))) ?_
    refine thenQ_normal ?_
    have hret := Option.some.inj h
    subst hret
    refine AWp.le (Le.mk (s' := ⟨70, [(2, .bool r4)], [], [], 0⟩) rfl rfl ⟨.refl _, trivial⟩ trivial) ?_
    refine AWp.ret ?_
    refine thenQ_ret ?_
    exact bodyQ_ret _ rfl ⟨rfl, rfl⟩ rfl
  ·
    replace h := ite_fb hc1 h
    refine AWp.skip ?_
    refine thenQ_normal ?_
    refine AWp.seq ?_
    obtain ⟨r5, hr5, h⟩ := bind_ok h
    refine q1rr [] [(1, ⟨[q1aT51 x1], [], [], [], .tup [.agg [.i r5.1, .i r5.2.1, .i r5.2.2.1], .i r5.2.2.2], [], [], []⟩)] ⟨70, [(0, q1aT51 x1), (3, .ptr 3 0), (4, .i r5.2.2.2)], [(3, .cells 60 [.i r5.1, .i r5.2.1, .i r5.2.2.1])], [], 0⟩ (an2 (cpT (f22_ok _ _ hr5)) trivial) ?_
    refine thenQ_normal ?_
    refine AWp.seq ?_
    obtain ⟨r6, hr6, h⟩ := bind_ok h
    refine q1rr [] [(1, ⟨[q1aT51 x1], [], [], [], .tup [.agg [.i r6.1, .i r6.2.1, .i r6.2.2.1], .i r6.2.2.2], [], [], []⟩)] ⟨70, [(0, q1aT51 x1), (3, .ptr 3 0), (4, .i r5.2.2.2), (5, .ptr 5 0), (6, .i r6.2.2.2)], [(3, .cells 60 [.i r5.1, .i r5.2.1, .i r5.2.2.1]), (5, .cells 60 [.i r6.1, .i r6.2.1, .i r6.2.2.1])], [], 0⟩ (an2 (cpT (f23_ok _ _ hr6)) trivial) ?_
    refine thenQ_normal ?_
    refine AWp.seq ?_
    refine AWp.seq ?_
    have ob3 := idA (((f7z1 r5 r6) == false) = true)
    have ob4 := idA (((f7z1 r5 r6) == false) = true)
    have ob5 := bqA (f7z1 r5 r6) false
    refine q1rr [] [] ⟨70, [(0, q1aT51 x1), (38, .bool ((f7z1 r5 r6) || (r5.2.2.2 != r6.2.2.2)))], [], [], 0⟩ (an2 (an2 ob3 ob4) ob5) ?_
    refine thenQ_normal ?_
    refine AWp.cond (b := ((f7z1 r5 r6) || (r5.2.2.2 != r6.2.2.2))) (by kernel_rfl) (fun hc2 => ?_) (fun hc2 => ?_)
    ·
      replace h := ite_tb hc2 h
      refine q1rq [] [] ⟨70, [(2, .bool false)], [], [], 0⟩ trivial ?_
      have hret := Option.some.inj h
      subst hret
      refine AWp.le (Le.mk (s' := ⟨70, [(2, .bool false)], [], [], 0⟩) rfl rfl ⟨.refl _, trivial⟩ trivial) ?_
      refine AWp.ret ?_
      refine thenQ_ret ?_
      exact bodyQ_ret _ rfl ⟨rfl, rfl⟩ rfl
    ·
      replace h := ite_fb hc2 h
      refine AWp.skip ?_
      refine thenQ_normal ?_
      refine AWp.seq ?_
      obtain ⟨r7, hr7, h⟩ := bind_ok h
      obtain ⟨r8, hr8, h⟩ := bind_ok h
      refine q1rr [] [(1, ⟨[q1aT51 x1], [], [], [(6001, q1bT51_51 r7)], .own 6001, [6001], [], []⟩), (2, ⟨[.own 6001, .fn (.func 26) []], [6001], [], [(6001, q1bT51_51 r8)], .own 6001, [6001], [], []⟩)] ⟨70, [(7, .own 6001)], [(6001, q1bT51_51 r8)], [], 0⟩ (an2 (cpT (Spec1.ren (swapN 3000 6001) (swapN_inv 3000 6001) rfl (f25_ok _ _ hr7))) (cpT (Spec1.ren (swapN 2000 6001) (swapN_inv 2000 6001) rfl (f24a_ok _ _ hr8)))) ?_
      refine thenQ_normal ?_
      refine AWp.seq ?_
      obtain ⟨r9, hr9, h⟩ := bind_ok h
      refine q1rr [] [(2, ⟨[.agg [q1aS [], q1aSW [], .b16 (q1w16 0), vL 6 eT73 (default : List UInt8 × Int × BitVec 16 × List (BitVec 16) × List (BitVec 16) × (List (BitVec 16 × BitVec 16))) [], q1aI [], vL 3 eSBLWWJ (default : List UInt8 × Bool × (List (BitVec 16 × BitVec 16))) []], q1aT51 r8], [], [], [], .tup [.i r9.1, .i r9.2.1, .i r9.2.2], [], [6001], []⟩)] ⟨70, [(7, .own 6001), (9, .i r9.2.1), (10, .i r9.2.2)], [(6001, q1bT51_51 r8)], [], 0⟩ (an1 (cpL (c := true) [(6001, q1bT51_51 r8)] [6001] [.agg [.nils, .nils, .b16 (q1w16 0), .nils, .nils, .nils], .own 6001] (fun _ => (f13_ok _ _ _ _ _ _ _ _ hr9)) (fun _ => ⟨(.aggs ⟨.nilL, .nilL, .refl _, .nilL, .nilL, .nilL, trivial⟩), .refl _, trivial⟩) (.inr ⟨rfl, trivial⟩))) ?_
      refine thenQ_normal ?_
      refine AWp.seq ?_
      obtain ⟨r10, hr10, h⟩ := bind_ok h
      refine q1rr [] [(1, ⟨[q1aT51 r8], [], [], [], .tup [.agg [.i r10.1, .i r10.2.1, .i r10.2.2.1], .i r10.2.2.2], [], [6001], []⟩)] ⟨70, [(9, .i r9.2.1), (10, .i r9.2.2), (12, .i r10.2.2.2)], [], [], 0⟩ (an2 (cpL (c := true) [(6001, q1bT51_51 r8)] [6001] [.own 6001] (fun _ => (f22_ok _ _ hr10)) (fun _ => ⟨.refl _, trivial⟩) (.inr ⟨rfl, trivial⟩)) trivial) ?_
      refine thenQ_normal ?_
      refine AWp.seq ?_
      have ob6 := idA (((r9.2.2 == (0 : Int)) == true) = true)
      have ob7 := bqA (r9.2.2 == (0 : Int)) true
      have ob8 := idA (((f7z0 r9 r10) == true) = true)
      have ob9 := idA (((f7z0 r9 r10) == true) = true)
      have ob10 := idA (((f7z0 r9 r10) == true) = true)
      have ob11 := idA (((f7z0 r9 r10) == true) = true)
      have ob12 := bqA (f7z0 r9 r10) true
      refine q1rr [] [] ⟨70, [(2, .bool ((f7z0 r9 r10) && ((r9.2.2 == (13 : Int)) == (r10.2.2.2 == (13 : Int)))))], [], [], 0⟩ (an6 (an1 ob6) ob7 (an1 ob8) (an1 ob9) (an2 ob10 ob11) ob12) ?_
      refine thenQ_normal ?_
      have hret := Option.some.inj h
      subst hret
      refine AWp.le (Le.mk (s' := ⟨70, [(2, .bool ((f7z0 r9 r10) && ((r9.2.2 == (13 : Int)) == (r10.2.2.2 == (13 : Int)))))], [], [], 0⟩) rfl rfl ⟨.refl _, trivial⟩ trivial) ?_
      refine AWp.ret ?_
      exact bodyQ_ret _ rfl ⟨rfl, rfl⟩ rfl
end Go.Abs
namespace Go.Abs
theorem f11_true : f11 = some true := by kernel_rfl
end Go.Abs
namespace Go.Abs
theorem chk_pos {p : Prop} [Decidable p] {α : Type} {x : Option α} (h : p) : chk p x = x := if_pos h
theorem ifd_pos {p : Prop} [Decidable p] {α : Type} {x y : α} (h : p) : (if decide p = true then x else y) = x := if_pos (decide_eq_true h)
theorem ifd_neg {p : Prop} [Decidable p] {α : Type} {x y : α} (h : ¬ p) : (if decide p = true then x else y) = y := if_neg (by simpa using h)
theorem jn_eq {α β : Type} (K : α → Option β) (x : (α → Option β) → Option β) : jn K x = x K := rfl
theorem optc_t {α β : Type} [Inhabited α] {x : Option α} {k : α → Option β} : optc true x k = x.bind k := rfl
theorem optc_f {α β : Type} [Inhabited α] {x : Option α} {k : α → Option β} : optc false x k = k default := rfl
theorem some_bind {α β : Type} (a : α) (f : α → Option β) : (some a).bind f = f a := rfl
theorem abc_eq {α : Type} [DecidableEq α] {q : Prop} [Decidable q] {x y : Option α} (h : q → x = y) : abc q x y = y := by
  unfold abc both
  split
  · rename_i hq; rw [h hq]; simp
  · rfl
theorem fuel_lt {n : Nat} (h : n ≤ 18446744073709551615) : n < FUEL := by unfold FUEL; omega
theorem getD_drop {α : Type} (x : List α) (n : Nat) (d : α) (h : n < x.length) : x.drop n = x.getD n d :: x.drop (n + 1) := by
  rw [List.drop_eq_getElem_cons h]
  simp [List.getD_eq_getElem?_getD, h]
/-- .. without ways out. -/
theorem fold_up {α S R : Type} (L : Nat → Nat × S → Option R) (x : List α) (d : α) (Inv : Nat → S → Prop) (g : S → α → S) (K : S → Option R)
    (h : ∀ k n s, n < x.length → Inv n s → L (k + 1) (n, s) = L k (n + 1, g s (x.getD n d)))
    (hI : ∀ n s, n < x.length → Inv n s → Inv (n + 1) (g s (x.getD n d)))
    (he : ∀ k s, Inv x.length s → L (k + 1) (x.length, s) = K s) : ∀ c k n s, n + c = x.length → c < k → Inv n s → L k (n, s) = K ((x.drop n).foldl g s)
  | 0, k, n, s, hn, hk, hi => by
    obtain ⟨k, rfl⟩ : ∃ q, k = q + 1 := ⟨k - 1, by omega⟩
    obtain rfl : n = x.length := by omega
    rw [he k s hi, List.drop_eq_nil_of_le (Nat.le_refl _)]; rfl
  | c + 1, k, n, s, hn, hk, hi => by
    obtain ⟨k, rfl⟩ : ∃ q, k = q + 1 := ⟨k - 1, by omega⟩
    have hlt : n < x.length := by omega
    rw [h k n s hlt hi, getD_drop x n d hlt]
    exact fold_up L x d Inv g K h hI he c k (n + 1) _ (by omega) (by omega) (hI n s hlt hi)
end Go.Abs
namespace Go.Abs
section
variable {α β : Type} [DecidableEq α]
theorem idxL_none (x : α) : ∀ (l : List (α × β)) (i : Nat), idxL x (l.map (·.1)) i = none → ∀ p, p ∈ l → x ≠ p.1
  | [], _, _, p, hp => by cases hp
  | q :: l, i, h, p, hp => by
    simp only [List.map_cons, idxL] at h
    by_cases e : x = q.1
    · rw [if_pos e] at h; cases h
    · rw [if_neg e] at h
      rcases List.mem_cons.1 hp with rfl | hp
      · exact e
      · exact idxL_none x l (i + 1) h p hp
theorem idxL_some (x : α) : ∀ (l : List (α × β)) (i j : Nat), idxL x (l.map (·.1)) i = some j → ∃ A p B, l = A ++ p :: B ∧ j = i + A.length ∧ x = p.1 ∧ ∀ q, q ∈ A → x ≠ q.1
  | [], _, _, h => by cases h
  | q :: l, i, j, h => by
    simp only [List.map_cons, idxL] at h
    by_cases e : x = q.1
    · rw [if_pos e] at h; cases h
      exact ⟨[], q, l, rfl, rfl, e, by simp⟩
    · rw [if_neg e] at h
      obtain ⟨A, p, B, h1, h2, h3, h4⟩ := idxL_some x l (i + 1) j h
      refine ⟨q :: A, p, B, by rw [h1]; rfl, by simp; omega, h3, fun r hr => ?_⟩
      rcases List.mem_cons.1 hr with rfl | hr
      · exact e
      · exact h4 r hr
theorem find_skip (x : α) : ∀ (A : List (α × β)) (B : List (α × β)), (∀ q, q ∈ A → x ≠ q.1) → (A ++ B).find? (fun p => decide (x = p.1)) = B.find? (fun p => decide (x = p.1))
  | [], _, _ => rfl
  | a :: A, B, h => by
    rw [List.cons_append, List.find?_cons]
    have : decide (x = a.1) = false := decide_eq_false (h a (List.mem_cons_self ..))
    rw [this]
    exact find_skip x A B fun q hq => h q (List.mem_cons_of_mem _ hq)
theorem find_upd (l : List (α × β)) (x k : α) (y : β) : (updM l x y).find? (fun p => decide (k = p.1)) = if k = x then some (x, y) else l.find? (fun p => decide (k = p.1)) := by
  unfold updM
  cases hi : idxL x (l.map (·.1)) 0 with
  | none =>
    have h := idxL_none x l 0 hi
    simp only []
    by_cases e : k = x
    · subst e
      rw [if_pos rfl, find_skip _ _ _ h, List.find?_cons]
      simp
    · rw [if_neg e, List.find?_append]
      cases l.find? (fun p => decide (k = p.1)) with
      | some _ => rfl
      | none => simp [e]
  | some j =>
    obtain ⟨A, p, B, rfl, h2, h3, h4⟩ := idxL_some x l 0 j hi
    have ej : j = A.length := by omega
    subst ej
    simp only []
    have es : (A ++ p :: B).set A.length (x, y) = A ++ (x, y) :: B := by
      rw [List.set_append_right _ _ (Nat.le_refl _)]; simp
    rw [es]
    by_cases e : k = x
    · subst e
      rw [if_pos rfl, find_skip _ _ _ h4, List.find?_cons]
      simp
    · rw [if_neg e, List.find?_append, List.find?_append, List.find?_cons, List.find?_cons]
      have h5 : decide (k = x) = false := decide_eq_false e
      have h6 : decide (k = p.1) = false := decide_eq_false (fun h => e (by rw [h, h3]))
      simp only [h5, h6]
theorem gM_upd (l : List (α × β)) (x k : α) (y z : β) : gM (updM l x y) z k = if k = x then y else gM l z k := by
  unfold gM
  rw [find_upd]
  by_cases e : k = x
  · rw [if_pos e, if_pos e]
  · rw [if_neg e, if_neg e]
theorem hM_find (l : List (α × β)) (k : α) : hM l k = (l.find? (fun p => decide (k = p.1))).isSome := by
  unfold hM
  induction l with
  | nil => rfl
  | cons a l ih =>
    rw [List.any_cons, List.find?_cons]
    cases decide (k = a.1) with
    | true => rfl
    | false => simpa using ih
theorem hM_upd (l : List (α × β)) (x k : α) (y : β) : hM (updM l x y) k = (decide (k = x) || hM l k) := by
  rw [hM_find, hM_find, find_upd]
  by_cases e : k = x
  · rw [if_pos e]; simp [e]
  · rw [if_neg e]; simp [e]
end
end Go.Abs
namespace Go.Abs
def pty (k w : Int) : Int × Bool := if k = 4 ∧ 0 ≤ w ∧ w < 12 then (w, true) else if k = 3 ∧ 0 ≤ w ∧ w < 6 then (12 + w, true) else (0, false)
theorem f50_eq {x1 x2 x3 x4 x5 x6 x7} :
    f50 x1 x2 x3 x4 x5 x6 x7 = some (pty x2 x3) := by
  unfold f50 pty f57
  by_cases h4 : x2 = 4 ∧ 0 ≤ x3 ∧ x3 < 12
  · rw [if_pos h4, if_pos (by simp [h4.1, h4.2.1, h4.2.2])]
  · rw [if_neg h4, if_neg (by simp; omega)]
    by_cases h3 : x2 = 3
    · have e : ((x2 == (3 : Int)) == true) = true := by simp [h3]
      rw [e, optc_t, some_bind]
      by_cases hw : 0 ≤ x3 ∧ x3 < 6
      · rw [if_pos (by simp [h3, hw.1, hw.2]), if_pos ⟨h3, hw⟩, chk_pos (by omega)]
      · rw [if_neg (by simp; omega), if_neg (by omega)]
    · have e : ((x2 == (3 : Int)) == true) = false := by simp [h3]
      rw [e, optc_f, if_neg (by simp), if_neg (fun h => h3 h.1)]
/-- whether a point states a value -/
def st (p : Y51) : Bool := (pty p.2.1 p.2.2.1).2
abbrev ptyP (p : Y51) : Int × Bool := pty p.2.1 p.2.2.1
abbrev slot (p : Y51) : Int := p.2.2.2.1
abbrev txtP (p : Y51) : List UInt8 := p.2.2.2.2.2.1
def cmp1 (a b : Int) : Int := if a < b then -1 else if b < a then 1 else 0
def cmp3 (a b : Int × Int × Int) : Int := if cmp1 a.1 b.1 ≠ 0 then cmp1 a.1 b.1 else if cmp1 a.2.1 b.2.1 ≠ 0 then cmp1 a.2.1 b.2.1 else cmp1 a.2.2 b.2.2
theorem f71_eq (a b : Int) : f71 a b = some (cmp1 a b) := by
  unfold f71 f101 cmp1
  have e : ∀ x : Int, (x != x) = false := fun x => by simp
  rw [e, e, some_bind, some_bind, if_neg (by simp), if_neg (by simp)]
  by_cases h : a < b
  · rw [ifd_pos h, if_pos h]
  · rw [ifd_neg h, if_neg h]
    by_cases h2 : b < a
    · rw [ifd_pos h2, if_pos h2]
    · rw [ifd_neg h2, if_neg h2]
theorem f51_step (x y : List Int) (K : Unit → Option Int) (k n : Nat) (h1 : n < x.length) (h2 : n < y.length) (hx : x.length ≤ 1000) : f51_L0 x y K (k + 1) n = if cmp1 (x.getD n 0) (y.getD n 0) ≠ 0 then some (cmp1 (x.getD n 0) (y.getD n 0)) else f51_L0 x y K k (n + 1) := by
  conv => lhs; unfold f51_L0
  rw [ifd_pos (by omega), chk_pos (by omega), ifd_neg (by omega), chk_pos (by omega), f71_eq, some_bind]
  generalize cmp1 (x.getD n 0) (y.getD n 0) = v
  by_cases h : v = 0
  · rw [if_neg (by simp [h]), if_neg (by simp [h]), chk_pos (by omega)]
  · rw [if_pos (by simp [h]), if_pos h]
theorem f51_eq (a b c d e f : Int) : f51 [a, b, c] [d, e, f] = some (cmp3 (a, b, c) (d, e, f)) := by
  unfold f51
  rw [jn_eq]
  have hF : FUEL = (FUEL - 4) + 4 := by unfold FUEL; rfl
  rw [hF]
  rw [f51_step _ _ _ _ _ (by simp) (by simp) (by simp), f51_step _ _ _ _ _ (by simp) (by simp) (by simp), f51_step _ _ _ _ _ (by simp) (by simp) (by simp)]
  conv => lhs; unfold f51_L0
  rw [ifd_neg (by simp)]
  unfold cmp3
  show (if cmp1 a d ≠ 0 then some (cmp1 a d) else if cmp1 b e ≠ 0 then some (cmp1 b e) else if cmp1 c f ≠ 0 then some (cmp1 c f) else _) = some (if cmp1 a d ≠ 0 then cmp1 a d else if cmp1 b e ≠ 0 then cmp1 b e else cmp1 c f)
  by_cases h1 : cmp1 a d = 0
  · by_cases h2 : cmp1 b e = 0
    · by_cases h3 : cmp1 c f = 0
      · simp [h1, h2, h3]
      · simp [h1, h2, h3]
    · simp [h1, h2]
  · simp [h1]
abbrev Spl := Int × Int × Int
def gI (x : Y51) (a : Int) (s : Spl) (y : Y51) : Spl :=
  if (((!(ptyP y).2) || decide ((ptyP y).1 < a)) || (slot x != slot y)) || (txtP x == txtP y) then s
  else if s.2.1 < 0 then (slot x, a, (ptyP y).1)
  else if cmp3 (slot x, a, (ptyP y).1) s < 0 then (slot x, a, (ptyP y).1) else s
theorem f22_L1_eq (x : List Y51) (n2 : Nat) (K2 : Spl → Option (Int × Int × Int × Int)) (r6 : Int × Bool) (hx : x.length ≤ 1000000) (F : Nat) (hF : x.length < F) (s : Spl) :
    f22_L1 x n2 K2 r6 F (0, s) = K2 (x.foldl (gI (x.getD n2 default) r6.1) s) := by
  have := fold_up (f22_L1 x n2 K2 r6) x (default : Y51) (fun _ _ => True) (gI (x.getD n2 default) r6.1) K2 (fun k n s hn _ => by
    obtain ⟨i11, i12, i13⟩ := s
    conv => lhs; unfold f22_L1
    rw [ifd_pos (by omega), jn_eq, chk_pos (by omega), f50_eq, some_bind]
    unfold gI
    by_cases h1 : ((((!(ptyP (x.getD n default)).2) || decide ((ptyP (x.getD n default)).1 < r6.1)) || (slot (x.getD n2 default) != slot (x.getD n default))) || (txtP (x.getD n2 default) == txtP (x.getD n default))) = true
    · rw [if_pos h1, if_pos h1]
      simp only []
      rw [chk_pos (by omega)]
    · rw [if_neg h1, if_neg h1]
      by_cases h2 : i12 < 0
      · rw [ifd_pos h2, if_pos h2]
        simp only []
        rw [chk_pos (by omega)]
      · rw [ifd_neg h2, if_neg h2, f51_eq, some_bind]
        by_cases h3 : cmp3 (slot (x.getD n2 default), r6.1, (ptyP (x.getD n default)).1) (i11, i12, i13) < 0
        · rw [ifd_pos h3, if_pos h3]
          simp only []
          rw [chk_pos (by omega)]
        · rw [ifd_neg h3, if_neg h3]
          simp only []
          rw [chk_pos (by omega)]) (fun _ _ _ _ => trivial) (fun k s _ => by
    obtain ⟨i11, i12, i13⟩ := s
    conv => lhs; unfold f22_L1
    rw [ifd_neg (by omega)]) x.length F 0 s (by omega) hF trivial
  simpa using this
def gO (x : List Y51) (s : Spl) (p : Y51) : Spl := if st p = true then x.foldl (gI p (ptyP p).1) s else s
def finS (s : Spl) : Int × Int × Int × Int := if s.2.1 < 0 then (0, 0, 0, 13) else (s.1, s.2.1, s.2.2, 0)
theorem f22_eq (x : List Y51) (hx : x.length ≤ 1000000) : f22 x = some (finS (x.foldl (gO x) (0, -1, 0))) := by
  unfold f22
  rw [jn_eq]
  have := fold_up (f22_L0 x (fun ((i19, i20, i21) : Int × Int × Int) => if (decide (i20 < (0 : Int))) then some ((0 : Int), (0 : Int), (0 : Int), (13 : Int)) else some (i19, i20, i21, (0 : Int)))) x (default : Y51) (fun _ _ => True) (gO x) (fun s => some (finS s)) (fun k n s hn _ => by
    obtain ⟨i3, i4, i5⟩ := s
    conv => lhs; unfold f22_L0
    rw [ifd_pos (by omega), jn_eq, chk_pos (by omega), f50_eq, some_bind]
    unfold gO st
    by_cases h : (pty (x.getD n default).2.1 (x.getD n default).2.2.1).2 = true
    · rw [if_neg (by rw [h]; simp), if_pos h, f22_L1_eq x n _ _ hx FUEL (fuel_lt (by omega))]
      dsimp only
      rw [chk_pos (by omega)]
    · rw [if_pos (by rw [Bool.not_eq_true] at h; rw [h]; rfl), if_neg h]
      dsimp only
      rw [chk_pos (by omega)]) (fun _ _ _ _ => trivial) (fun k s _ => by
    obtain ⟨i3, i4, i5⟩ := s
    conv => lhs; unfold f22_L0
    rw [ifd_neg (by omega)]
    unfold finS
    dsimp only
    by_cases h : i4 < 0
    · rw [ifd_pos h, if_pos h]
    · rw [ifd_neg h, if_neg h]) x.length FUEL 0 (0, -1, 0) (by omega) (fuel_lt (by omega)) trivial
  rw [List.drop_zero] at this
  exact this
end Go.Abs
namespace Go.Abs
abbrev MV_ := List (Int × List UInt8)
abbrev MX_ := List (Int × Bool)
abbrev MS_ := List ((Int × Int) × List UInt8)
abbrev MA_ := List (Int × Int)
abbrev MQ_ := List ((Int × Int × List UInt8) × Bool)
abbrev MK_ := List ((Int × Int) × Bool)
def seeV (a : MV_) (s : Int) (t : List UInt8) : MV_ := if hM a s = true then a else updM a s t
def seeX (a : MV_) (b : MX_) (s : Int) (t : List UInt8) : MX_ := if hM a s = true then (if (gM a [] s == t) = true then b else updM b s true) else b
def seeS (c : MS_) (q s : Int) (t : List UInt8) : MS_ := if hM c (q, s) = true then c else updM c (q, s) t
def seeA (d : MA_) (k w : Int) : MA_ := if (k == 3) = true then updM d w (gM d 0 w + 1) else d
theorem f57_eq {x1 x2 x3 x4 x5 x6 x7} :
    f57 x1 x2 x3 x4 x5 x6 x7 = some (decide (x3 ≥ 0) && decide (x3 < 6)) := rfl
theorem optc_bnd {α β : Type} [Inhabited α] {c : Bool} {a : α} {k : α → Option β} : optc c (some a) k = k (if c = true then a else default) := by
  cases c <;> rfl
theorem f45_st {x1 x2 x3 x4 x5 x6 x7} (a : MV_) (b : MX_) (c : MS_) (d : MA_) (e : MS_) (f : MQ_) (g : MK_) (h : (pty x2 x3).2 = true) (hb : -9223372036854775808 ≤ gM d 0 x3 + 1 ∧ gM d 0 x3 + 1 ≤ 9223372036854775807) :
    f45 x1 x2 x3 x4 x5 x6 x7 a b c d e f g = some (seeV a x4 x6, seeX a b x4 x6, seeS c (pty x2 x3).1 x4 x6, seeA d x2 x3, e, f, g) := by
  have hk : x2 ≠ 1 ∧ x2 ≠ 2 := by
    unfold pty at h
    by_cases h4 : x2 = 4 ∧ 0 ≤ x3 ∧ x3 < 12
    · omega
    · rw [if_neg h4] at h
      by_cases h3 : x2 = 3 ∧ 0 ≤ x3 ∧ x3 < 6
      · omega
      · rw [if_neg h3] at h; cases h
  have e1 : (x2 == (1 : Int)) = false := by simp [hk.1]
  have e2 : (x2 == (2 : Int)) = false := by simp [hk.2]
  unfold f45
  rw [jn_eq, f50_eq, some_bind, if_pos h]
  simp only [jn_eq, e1, e2, optc_f, Bool.false_and, show (false == true) = false from rfl]
  unfold seeV seeX seeS seeA
  cases h1 : hM a x4 with
  | false =>
    cases h3 : hM c ((pty x2 x3).1, x4) with
    | false =>
      cases h4 : (x2 == 3) with
      | false => rfl
      | true => simp [chk_pos hb]
    | true =>
      cases h4 : (x2 == 3) with
      | false => rfl
      | true => simp [chk_pos hb]
  | true =>
    cases h2 : (gM a [] x4 == x6) with
    | false =>
      cases h3 : hM c ((pty x2 x3).1, x4) with
      | false =>
        cases h4 : (x2 == 3) with
        | false => rfl
        | true => simp [chk_pos hb]
      | true =>
        cases h4 : (x2 == 3) with
        | false => rfl
        | true => simp [chk_pos hb]
    | true =>
      cases h3 : hM c ((pty x2 x3).1, x4) with
      | false =>
        cases h4 : (x2 == 3) with
        | false => rfl
        | true => simp [chk_pos hb]
      | true =>
        cases h4 : (x2 == 3) with
        | false => rfl
        | true => simp [chk_pos hb]
theorem f45_no {x1 x2 x3 x4 x5 x6 x7} (a : MV_) (b : MX_) (c : MS_) (d : MA_) (e : MS_) (f : MQ_) (g : MK_) (h : (pty x2 x3).2 = false) :
    ∃ e' f' g', f45 x1 x2 x3 x4 x5 x6 x7 a b c d e f g = some (a, b, c, d, e', f', g') := by
  unfold f45
  rw [jn_eq, f50_eq, some_bind, if_neg (by rw [h]; simp)]
  dsimp only
  simp only [f57_eq, optc_bnd]
  repeat' split
  all_goals exact ⟨_, _, _, rfl⟩
end Go.Abs
namespace Go.Abs
theorem take_snoc {α : Type} (l : List α) (j : Nat) (d : α) (h : j < l.length) : l.take (j + 1) = l.take j ++ [l.getD j d] := by
  rw [List.take_add_one]
  simp [List.getD_eq_getElem?_getD, h]
theorem f25_eq (x : List Y51) (hx : x.length ≤ 1000000) : f25 x = some x := by
  unfold f25
  rw [abc_eq (fun h => by
    rw [chk_pos (by omega)]
    rw [List.eq_nil_of_length_eq_zero h]; rfl), chk_pos (by omega), List.nil_append]
theorem f16_L0_some (x : List Y51) (hx : x.length ≤ 9223372036854775807) (K : Int → Option Bool) (hK : ∀ i, ∃ b, K i = some b ∧ (b = true → x.length ≤ 60)) : ∀ (m k n : Nat) (i : Int), n + m = x.length → m < k → ∃ b, f16_L0 x K k (i, n) = some b ∧ (b = true → x.length ≤ 60)
  | 0, k, n, i, hn, hk => by
    obtain ⟨k, rfl⟩ : ∃ z, k = z + 1 := ⟨k - 1, by omega⟩
    conv => enter [1, b, 1, 1]; unfold f16_L0
    rw [ifd_neg (by omega)]
    exact hK i
  | m + 1, k, n, i, hn, hk => by
    obtain ⟨k, rfl⟩ : ∃ z, k = z + 1 := ⟨k - 1, by omega⟩
    conv => enter [1, b, 1, 1]; unfold f16_L0
    rw [ifd_pos (by omega), chk_pos (by omega), chk_pos (by omega), chk_pos (by omega)]
    exact f16_L0_some x hx K hK m k (n + 1) _ (by omega) (by omega)
theorem f16_some (x : List Y51) (hx : x.length ≤ 9223372036854775807) : ∃ b, f16 x = some b ∧ (b = true → x.length ≤ 60) := by
  unfold f16
  rw [jn_eq]
  exact f16_L0_some x hx _ (fun i => ⟨_, rfl, fun h => by
    simp only [Bool.and_eq_true, decide_eq_true_eq] at h
    omega⟩) x.length FUEL 0 0 (by omega) (fuel_lt (by omega))
end Go.Abs
namespace Go.Abs
def dl4 (p : Y51) : Bool := p.2.1 != 4
def kp4 (p : Y51) : Bool := !dl4 p
theorem f53a_L0_eq (x : List Y51) (hx : x.length ≤ 1000000) (K : Unit → Option Int) : ∀ (m k n : Nat), n + m = x.length → m < k →
    (∃ i, n ≤ i ∧ i < x.length ∧ dl4 (x.getD i default) = true ∧ (∀ j, n ≤ j → j < i → dl4 (x.getD j default) = false) ∧ f53a_L0 x K k n = some ((i : Nat) : Int)) ∨ ((∀ j, n ≤ j → j < x.length → dl4 (x.getD j default) = false) ∧ f53a_L0 x K k n = K ())
  | 0, k, n, hn, hk => by
    obtain ⟨k, rfl⟩ : ∃ z, k = z + 1 := ⟨k - 1, by omega⟩
    refine .inr ⟨fun j h1 h2 => absurd h1 (by omega), ?_⟩
    conv => lhs; unfold f53a_L0
    rw [ifd_neg (by omega)]
  | m + 1, k, n, hn, hk => by
    obtain ⟨k, rfl⟩ : ∃ z, k = z + 1 := ⟨k - 1, by omega⟩
    have e : f53a_L0 x K (k + 1) n = if dl4 (x.getD n default) = true then some ((n : Nat) : Int) else f53a_L0 x K k (n + 1) := by
      conv => lhs; unfold f53a_L0
      rw [ifd_pos (by omega)]
      unfold f26
      rw [some_bind, chk_pos (by omega)]
      by_cases h : dl4 (x.getD n default) = true
      · rw [if_pos h]; exact if_pos h
      · rw [if_neg h]
        refine (if_neg h).trans ?_
        rw [chk_pos (by omega)]
    rw [e]
    by_cases h : dl4 (x.getD n default) = true
    · rw [if_pos h]
      exact .inl ⟨n, Nat.le_refl _, by omega, h, fun j h1 h2 => absurd h1 (by omega), rfl⟩
    · rw [if_neg h]
      have h' : dl4 (x.getD n default) = false := by simpa using h
      rcases f53a_L0_eq x hx K m k (n + 1) (by omega) (by omega) with ⟨i, h1, h2, h3, h4, h5⟩ | ⟨h1, h2⟩
      · refine .inl ⟨i, by omega, h2, h3, fun j h6 h7 => ?_, h5⟩
        rcases Nat.lt_or_ge n j with h8 | h8
        · exact h4 j (by omega) h7
        · obtain rfl : j = n := by omega
          exact h'
      · refine .inr ⟨fun j h6 h7 => ?_, h2⟩
        rcases Nat.lt_or_ge n j with h8 | h8
        · exact h1 j (by omega) h7
        · obtain rfl : j = n := by omega
          exact h'
theorem f24a_L0_eq (x : List Y51) (hx : x.length ≤ 1000000) (K : Int × List Y51 → Option (List Y51)) : ∀ (m k i j : Nat) (l : List Y51), j + m = x.length → m < k → i < j → l.length = x.length → l.take i = (x.take j).filter kp4 → l.drop j = x.drop j →
    ∃ i' l', i' < x.length ∧ l'.length = x.length ∧ l'.take i' = x.filter kp4 ∧ f24a_L0 K k ((i : Int), (j : Int), l) = K ((i' : Int), l')
  | 0, k, i, j, l, hn, hk, hij, hl, ht, hd => by
    obtain ⟨k, rfl⟩ : ∃ z, k = z + 1 := ⟨k - 1, by omega⟩
    refine ⟨i, l, by omega, hl, ?_, ?_⟩
    · rw [ht, List.take_of_length_le (by omega)]
    · conv => lhs; unfold f24a_L0
      rw [ifd_neg (by omega)]
  | m + 1, k, i, j, l, hn, hk, hij, hl, ht, hd => by
    obtain ⟨k, rfl⟩ : ∃ z, k = z + 1 := ⟨k - 1, by omega⟩
    have hg : l.getD j default = x.getD j default := by
      have := congrArg (fun z : List Y51 => z.getD 0 default) hd
      simpa [List.getD_eq_getElem?_getD, List.getElem?_drop] using this
    have hd1 : l.drop (j + 1) = x.drop (j + 1) := by
      rw [← List.drop_drop, ← List.drop_drop, hd]
    have hx1 : (x.take (j + 1)).filter kp4 = (x.take j).filter kp4 ++ (if kp4 (x.getD j default) = true then [x.getD j default] else []) := by
      rw [take_snoc x j default (by omega), List.filter_append]
      congr 1
      by_cases h : kp4 (x.getD j default) = true
      · rw [if_pos h, List.filter_cons_of_pos h]; rfl
      · rw [if_neg h, List.filter_cons_of_neg h]; rfl
    by_cases h : dl4 (x.getD j default) = true
    · have hk' : ¬ kp4 (x.getD j default) = true := by unfold kp4; rw [h]; simp
      rw [if_neg hk', List.append_nil] at hx1
      obtain ⟨i', l', h1, h2, h3, h4⟩ := f24a_L0_eq x hx K m k i (j + 1) l (by omega) (by omega) (by omega) hl (ht.trans hx1.symm) hd1
      refine ⟨i', l', h1, h2, h3, ?_⟩
      conv => lhs; unfold f24a_L0
      rw [ifd_pos (by omega), jn_eq, chk_pos (by omega), Int.toNat_natCast, chk_pos (by omega)]
      unfold f26
      rw [some_bind, hg]
      refine (if_neg (by
        show ¬ (!dl4 (x.getD j default)) = true
        rw [h]; simp)).trans ?_
      dsimp only
      rw [chk_pos (by omega)]
      exact h4
    · have h' : dl4 (x.getD j default) = false := by simpa using h
      have hk' : kp4 (x.getD j default) = true := by unfold kp4; rw [h']; rfl
      rw [if_pos hk'] at hx1
      obtain ⟨i', l', h1, h2, h3, h4⟩ := f24a_L0_eq x hx K m k (i + 1) (j + 1) (l.set i (x.getD j default)) (by omega) (by omega) (by omega) (by simpa using hl) (by
        rw [hx1, ← ht, take_snoc _ i default (by simp; omega), List.take_set_of_le (Nat.le_refl _)]
        simp [List.getD_eq_getElem?_getD, show i < l.length by omega]) (by
        rw [List.drop_set_of_lt (by omega)]; exact hd1)
      refine ⟨i', l', h1, h2, h3, ?_⟩
      conv => lhs; unfold f24a_L0
      rw [ifd_pos (by omega), jn_eq, chk_pos (by omega), Int.toNat_natCast, chk_pos (by omega)]
      unfold f26
      rw [some_bind, hg]
      refine (if_pos (by
        show (!dl4 (x.getD j default)) = true
        rw [h']; rfl)).trans ?_
      rw [chk_pos (by omega), Int.toNat_natCast, chk_pos (by omega), chk_pos (by omega)]
      dsimp only
      rw [chk_pos (by omega)]
      exact h4
theorem f24a_eq (x : List Y51) (hx : x.length ≤ 1000000) : f24a x = some (x.filter kp4) := by
  have hF : x.length < FUEL := fuel_lt (by omega)
  have h := f53a_L0_eq x hx (fun _ => some (-1)) x.length FUEL 0 (by omega) hF
  unfold f24a f53a
  rw [jn_eq]
  rcases h with ⟨i, _, h2, h3, h4, h5⟩ | ⟨h1, h2⟩
  · rw [h5, some_bind, if_neg (by simp), jn_eq, chk_pos (by omega)]
    have hf : (x.take i).filter kp4 = x.take i := by
      refine List.filter_eq_self.2 fun a ha => ?_
      obtain ⟨j, hj, rfl⟩ := List.getElem_of_mem ha
      rw [List.length_take] at hj
      have := h4 j (by omega) (by omega)
      unfold kp4
      rw [List.getElem_take]
      rw [List.getD_eq_getElem?_getD, List.getElem?_eq_getElem (by omega)] at this
      rw [show dl4 x[j] = false from this]; rfl
    obtain ⟨i', l', g1, g2, g3, g4⟩ := f24a_L0_eq x hx (fun ((i9, l10) : Int × List Y51) =>
      chk (0 ≤ i9 ∧ i9 ≤ (((l10).length : Nat) : Int)) <| (show Option (List Y51) from
      chk (((i9).toNat) + ((l10).length - (i9).toNat) ≤ (l10).length ∧ 0 < ((l10).length - (i9).toNat)) <|
      chk (0 ≤ i9 ∧ i9 ≤ ((((l10.take ((i9).toNat) ++ List.replicate ((l10).length - (i9).toNat) (default : Y51)).length : Nat) : Int))) <|
      chk (((i9).toNat) ≤ (l10.take ((i9).toNat) ++ List.replicate ((l10).length - (i9).toNat) (default : Y51)).length) <|
      some ((l10.take ((i9).toNat) ++ List.replicate ((l10).length - (i9).toNat) (default : Y51)).take ((i9).toNat)))) (x.length - (i + 1)) FUEL i (i + 1) x (by omega) (by omega) (by omega) rfl (by
        rw [take_snoc x i default h2, List.filter_append, hf, List.filter_cons_of_neg (by unfold kp4; rw [h3]; simp)]
        simp) rfl
    refine Eq.trans (Eq.trans ?_ g4) ?_
    · rfl
    · dsimp only
      rw [Int.toNat_natCast]
      have hlen : (l'.take i' ++ List.replicate (l'.length - i') (default : Y51)).length = x.length := by simp; omega
      rw [chk_pos (by omega), chk_pos (by omega), hlen, chk_pos (by omega), chk_pos (by omega), List.take_append_of_le_length (by simp; omega), List.take_of_length_le (by rw [List.length_take]; omega), g3]
  · rw [h2, some_bind, if_pos (show ((-1 : Int) == -1) = true from rfl)]
    congr 1
    refine (List.filter_eq_self.2 fun a ha => ?_).symm
    obtain ⟨j, hj, rfl⟩ := List.getElem_of_mem ha
    have := h1 j (by omega) hj
    rw [List.getD_eq_getElem?_getD, List.getElem?_eq_getElem hj] at this
    unfold kp4
    rw [show dl4 x[j] = false from this]; rfl
def ptR (k w : Int) : Int := if (pty k w).2 = true then (pty k w).1 else -1
theorem f52_eq {x1 x2 x3 x4 x5 x6 x7} : f52 x1 x2 x3 x4 x5 x6 x7 = some (ptR x2 x3) := by
  unfold f52 ptR pty
  by_cases h4 : x2 = 4 ∧ 0 ≤ x3 ∧ x3 < 12
  · rw [if_pos h4, if_pos (by simp [h4.1, h4.2.1, h4.2.2]), if_pos rfl]
  · rw [if_neg h4, if_neg (by simp; omega)]
    by_cases h3 : x2 = 3 ∧ 0 ≤ x3 ∧ x3 < 6
    · rw [if_pos h3, if_pos (by simp [h3.1, h3.2.1, h3.2.2]), chk_pos (by omega), if_pos rfl]
    · rw [if_neg h3, if_neg (by simp; omega), if_neg (by simp)]
theorem pty_nn (k w : Int) : 0 ≤ (pty k w).1 := by
  unfold pty
  split
  · omega
  · split
    · omega
    · exact Int.le_refl _
abbrev ptRP (p : Y51) : Int := ptR p.2.1 p.2.2.1
abbrev BSpl := Bool × Int × Int × Int
def skR (p y : Y51) : Bool := (((decide (ptRP p < 0)) || (decide (ptRP y < ptRP p))) || (slot p != slot y)) || (txtP p == txtP y)
def ltR (p y : Y51) (s : BSpl) : Bool := ((!s.1) || (decide (slot p < s.2.1))) || ((slot p == s.2.1) && ((decide (ptRP p < s.2.2.1)) || ((ptRP p == s.2.2.1) && (decide (ptRP y < s.2.2.2)))))
def hI (p : Y51) (s : BSpl) (y : Y51) : BSpl := if skR p y = true then s else if ltR p y s = true then (true, slot p, ptRP p, ptRP y) else s
theorem f23_L1_eq (x : List Y51) (n3 : Nat) (h3 : n3 < x.length) (K2 : BSpl → Option (Int × Int × Int × Int)) (hx : x.length ≤ 1000000) (F : Nat) (hF : x.length < F) (s : BSpl) :
    f23_L1 x n3 K2 F (s.1, 0, s.2) = K2 (x.foldl (hI (x.getD n3 default)) s) := by
  have := fold_up (fun k (z : Nat × BSpl) => f23_L1 x n3 K2 k (z.2.1, z.1, z.2.2)) x (default : Y51) (fun _ _ => True) (hI (x.getD n3 default)) K2 (fun k n s hn _ => by
    obtain ⟨b7, i9, i10, i11⟩ := s
    dsimp only
    conv => lhs; unfold f23_L1
    rw [ifd_pos (by omega), jn_eq, f52_eq, some_bind, f52_eq, some_bind, chk_pos (by omega), chk_pos (by omega), chk_pos (by omega), chk_pos (by omega), chk_pos (by omega), chk_pos (by omega)]
    unfold hI
    by_cases h1 : skR (x.getD n3 default) (x.getD n default) = true
    · rw [if_pos h1]
      refine (if_pos h1).trans ?_
      dsimp only
      rw [chk_pos (by omega)]
    · rw [if_neg h1]
      refine (if_neg h1).trans ?_
      rw [chk_pos (by omega), chk_pos (by simp +contextual), chk_pos (by simp +contextual), chk_pos (by simp +contextual)]
      by_cases h2 : ltR (x.getD n3 default) (x.getD n default) (b7, i9, i10, i11) = true
      · rw [if_pos h2]
        refine (if_pos h2).trans ?_
        dsimp only
        rw [chk_pos (by omega)]
      · rw [if_neg h2]
        refine (if_neg h2).trans ?_
        dsimp only
        rw [chk_pos (by omega)]) (fun _ _ _ _ => trivial) (fun k s _ => by
    obtain ⟨b7, i9, i10, i11⟩ := s
    dsimp only
    conv => lhs; unfold f23_L1
    rw [ifd_neg (by omega)]) x.length F 0 s (by omega) hF trivial
  simpa using this
def hO (x : List Y51) (s : BSpl) (p : Y51) : BSpl := x.foldl (hI p) s
def finR (s : BSpl) : Int × Int × Int × Int := if s.1 = true then (s.2.1, s.2.2.1, s.2.2.2, 0) else (0, 0, 0, 13)
theorem f23_eq (x : List Y51) (hx : x.length ≤ 1000000) : f23 x = some (finR (x.foldl (hO x) (false, 0, 0, 0))) := by
  unfold f23
  rw [jn_eq]
  have := fold_up (fun k (z : Nat × BSpl) => f23_L0 x (fun ((b22, i23, i24, i25) : Bool × Int × Int × Int) => if (!b22) = true then some ((0 : Int), (0 : Int), (0 : Int), (13 : Int)) else some (i23, i24, i25, (0 : Int))) k (z.2.1, z.1, z.2.2)) x (default : Y51) (fun _ _ => True) (hO x) (fun s => some (finR s)) (fun k n s hn _ => by
    obtain ⟨b2, i4, i5, i6⟩ := s
    dsimp only
    conv => lhs; unfold f23_L0
    rw [ifd_pos (by omega), jn_eq, f23_L1_eq x n hn _ hx FUEL (fuel_lt (by omega)) (b2, i4, i5, i6)]
    unfold hO
    dsimp only
    rw [chk_pos (by omega)]) (fun _ _ _ _ => trivial) (fun k s _ => by
    obtain ⟨b2, i4, i5, i6⟩ := s
    dsimp only
    conv => lhs; unfold f23_L0
    rw [ifd_neg (by omega)]
    unfold finR
    cases b2 <;> rfl) x.length FUEL 0 (false, 0, 0, 0) (by omega) (fuel_lt (by omega)) trivial
  rw [List.drop_zero] at this
  exact this
/-- the reference's state behind the program's -/
def rep (s : Spl) : BSpl := if s.2.1 < 0 then (false, 0, 0, 0) else (true, s)
theorem ptRP_st {p : Y51} (h : st p = true) : ptRP p = (ptyP p).1 := by
  unfold st at h
  unfold ptRP ptR
  rw [if_pos h]
theorem ptRP_no {p : Y51} (h : st p = false) : ptRP p = -1 := by
  unfold st at h
  unfold ptRP ptR
  rw [if_neg (by simp [h])]
def skP (p : Y51) (a : Int) (y : Y51) : Bool := (((!(ptyP y).2) || decide ((ptyP y).1 < a)) || (slot p != slot y)) || (txtP p == txtP y)
theorem sk_eq {p y : Y51} (h : st p = true) : skR p y = skP p (ptyP p).1 y := by
  unfold skR skP
  congr 2
  rw [ptRP_st h]
  have h0 : 0 ≤ (ptyP p).1 := pty_nn _ _
  cases hy : st y with
  | true =>
    rw [ptRP_st hy]
    unfold st at hy
    rw [show (ptyP y).2 = true from hy, decide_eq_false (by omega)]
    rfl
  | false =>
    rw [ptRP_no hy]
    unfold st at hy
    rw [show (ptyP y).2 = false from hy, decide_eq_true (show (-1 : Int) < (ptyP p).1 from by omega)]
    simp
theorem cmp3_lt (a b c d e f : Int) : cmp3 (a, b, c) (d, e, f) < 0 ↔ (a < d ∨ a = d ∧ (b < e ∨ b = e ∧ c < f)) := by
  unfold cmp3 cmp1
  dsimp only
  repeat' split
  all_goals omega
theorem hI_rep {p : Y51} (h : st p = true) (s : Spl) (y : Y51) : hI p (rep s) y = rep (gI p (ptyP p).1 s y) := by
  unfold hI
  rw [sk_eq h]
  have hg : gI p (ptyP p).1 s y = if skP p (ptyP p).1 y = true then s else if s.2.1 < 0 then (slot p, (ptyP p).1, (ptyP y).1) else if cmp3 (slot p, (ptyP p).1, (ptyP y).1) s < 0 then (slot p, (ptyP p).1, (ptyP y).1) else s := rfl
  rw [hg]
  by_cases hk : skP p (ptyP p).1 y = true
  · rw [if_pos hk, if_pos hk]
  · rw [if_neg hk, if_neg hk]
    have hy : st y = true := by
      cases hy : st y with
      | true => rfl
      | false =>
        exfalso; apply hk
        unfold skP
        unfold st at hy
        rw [show (ptyP y).2 = false from hy]; rfl
    have h0 : 0 ≤ (ptyP p).1 := pty_nn _ _
    have hn : rep (slot p, (ptyP p).1, (ptyP y).1) = (true, slot p, ptRP p, ptRP y) := by
      unfold rep
      rw [if_neg (by show ¬ (ptyP p).1 < 0; omega), ptRP_st h, ptRP_st hy]
    by_cases hs : s.2.1 < 0
    · rw [if_pos hs, hn]
      unfold ltR rep
      rw [if_pos hs]
      rfl
    · rw [if_neg hs]
      have hr : rep s = (true, s) := by unfold rep; rw [if_neg hs]
      obtain ⟨s1, s2, s3⟩ := s
      by_cases hc : cmp3 (slot p, (ptyP p).1, (ptyP y).1) (s1, s2, s3) < 0
      · rw [if_pos hc, hn, if_pos]
        rw [hr]
        rw [cmp3_lt] at hc
        unfold ltR
        rw [ptRP_st h, ptRP_st hy]
        simpa using hc
      · rw [if_neg hc, if_neg]
        rw [hr]
        rw [cmp3_lt] at hc
        unfold ltR
        rw [ptRP_st h, ptRP_st hy]
        simpa using hc
theorem hI_no {p : Y51} (h : st p = false) (s : BSpl) (y : Y51) : hI p s y = s := by
  unfold hI skR
  rw [ptRP_no h]
  rfl
theorem fold_rep {p : Y51} (h : st p = true) : ∀ (x : List Y51) (s : Spl), x.foldl (hI p) (rep s) = rep (x.foldl (gI p (ptyP p).1) s)
  | [], _ => rfl
  | y :: x, s => by
    rw [List.foldl_cons, List.foldl_cons, hI_rep h]
    exact fold_rep h x _
theorem fold_no {p : Y51} (h : st p = false) : ∀ (x : List Y51) (s : BSpl), x.foldl (hI p) s = s
  | [], _ => rfl
  | y :: x, s => by
    rw [List.foldl_cons, hI_no h]
    exact fold_no h x s
theorem foldO_rep (x : List Y51) : ∀ (l : List Y51) (s : Spl), l.foldl (hO x) (rep s) = rep (l.foldl (gO x) s)
  | [], _ => rfl
  | p :: l, s => by
    rw [List.foldl_cons, List.foldl_cons]
    have e : hO x (rep s) p = rep (gO x s p) := by
      unfold hO gO
      cases h : st p with
      | true => rw [if_pos rfl]; exact fold_rep h x s
      | false => rw [if_neg (by simp)]; exact fold_no h x _
    rw [e]
    exact foldO_rep x l _
theorem fork_ref (x : List Y51) (hx : x.length ≤ 1000000) : f23 x = f22 x := by
  rw [f23_eq x hx, f22_eq x hx]
  have := foldO_rep x x (0, -1, 0)
  rw [show rep (0, -1, 0) = (false, 0, 0, 0) from rfl] at this
  rw [this]
  congr 1
  generalize x.foldl (gO x) (0, -1, 0) = s
  unfold finR finS rep
  by_cases h : s.2.1 < 0
  · rw [if_pos h, if_pos h]; rfl
  · rw [if_neg h, if_neg h]; rfl
/-- where a fork is found -/
theorem gI_A (p : Y51) (a : Int) (ha : 0 ≤ a) (s : Spl) (y : Y51) : 0 ≤ (gI p a s y).2.1 ↔ (0 ≤ s.2.1 ∨ skP p a y = false) := by
  have hg : gI p a s y = if skP p a y = true then s else if s.2.1 < 0 then (slot p, a, (ptyP y).1) else if cmp3 (slot p, a, (ptyP y).1) s < 0 then (slot p, a, (ptyP y).1) else s := rfl
  rw [hg]
  cases hk : skP p a y with
  | true => rw [if_pos rfl]; simp
  | false =>
    rw [if_neg (by simp)]
    refine iff_of_true ?_ (.inr rfl)
    split
    · exact ha
    · split
      · exact ha
      · omega
theorem foldI_A (p : Y51) (a : Int) (ha : 0 ≤ a) : ∀ (x : List Y51) (s : Spl), 0 ≤ (x.foldl (gI p a) s).2.1 ↔ (0 ≤ s.2.1 ∨ ∃ y, y ∈ x ∧ skP p a y = false)
  | [], s => by simp
  | y :: x, s => by
    rw [List.foldl_cons, foldI_A p a ha x, gI_A p a ha]
    constructor
    · rintro ((h | h) | ⟨z, hz, h⟩)
      · exact .inl h
      · exact .inr ⟨y, List.mem_cons_self .., h⟩
      · exact .inr ⟨z, List.mem_cons_of_mem _ hz, h⟩
    · rintro (h | ⟨z, hz, h⟩)
      · exact .inl (.inl h)
      · rcases List.mem_cons.1 hz with rfl | hz
        · exact .inl (.inr h)
        · exact .inr ⟨z, hz, h⟩
theorem foldO_A (x : List Y51) : ∀ (l : List Y51) (s : Spl), 0 ≤ (l.foldl (gO x) s).2.1 ↔ (0 ≤ s.2.1 ∨ ∃ p, p ∈ l ∧ st p = true ∧ ∃ y, y ∈ x ∧ skP p (ptyP p).1 y = false)
  | [], s => by simp
  | p :: l, s => by
    rw [List.foldl_cons, foldO_A x l]
    have e : 0 ≤ (gO x s p).2.1 ↔ (0 ≤ s.2.1 ∨ st p = true ∧ ∃ y, y ∈ x ∧ skP p (ptyP p).1 y = false) := by
      unfold gO
      cases h : st p with
      | true => rw [if_pos rfl, foldI_A p _ (pty_nn _ _)]; simp
      | false => rw [if_neg (by simp)]; simp
    rw [e]
    constructor
    · rintro ((h | h) | ⟨z, hz, h⟩)
      · exact .inl h
      · exact .inr ⟨p, List.mem_cons_self .., h⟩
      · exact .inr ⟨z, List.mem_cons_of_mem _ hz, h⟩
    · rintro (h | ⟨z, hz, h⟩)
      · exact .inl (.inl h)
      · rcases List.mem_cons.1 hz with rfl | hz
        · exact .inl (.inr h)
        · exact .inr ⟨z, hz, h⟩
def Cnf (x : List Y51) : Prop := ∃ p, p ∈ x ∧ ∃ y, y ∈ x ∧ st p = true ∧ st y = true ∧ slot p = slot y ∧ txtP p ≠ txtP y
theorem skP_no {p y : Y51} (h : skP p (ptyP p).1 y = false) : st y = true ∧ slot p = slot y ∧ txtP p ≠ txtP y := by
  unfold skP at h
  simp only [Bool.or_eq_false_iff, Bool.not_eq_false', bne_eq_false_iff_eq, beq_eq_false_iff_ne] at h
  exact ⟨h.1.1.1, h.1.2, h.2⟩
theorem skP_yes {p y : Y51} (hy : st y = true) (hs : slot p = slot y) (ht : txtP p ≠ txtP y) (hab : (ptyP p).1 ≤ (ptyP y).1) : skP p (ptyP p).1 y = false := by
  unfold skP
  unfold st at hy
  simp only [Bool.or_eq_false_iff, Bool.not_eq_false', bne_eq_false_iff_eq, beq_eq_false_iff_ne]
  exact ⟨⟨⟨hy, by simpa using hab⟩, hs⟩, ht⟩
theorem fork_iff (x : List Y51) : 0 ≤ (x.foldl (gO x) (0, -1, 0)).2.1 ↔ Cnf x := by
  rw [foldO_A]
  constructor
  · rintro (h | ⟨p, hp, h1, y, hy, h2⟩)
    · exact absurd h (by decide)
    · obtain ⟨h3, h4, h5⟩ := skP_no h2
      exact ⟨p, hp, y, hy, h1, h3, h4, h5⟩
  · rintro ⟨p, hp, y, hy, h1, h3, h4, h5⟩
    refine .inr ?_
    rcases Int.le_total (ptyP p).1 (ptyP y).1 with h | h
    · exact ⟨p, hp, h1, y, hy, skP_yes h3 h4 h5 h⟩
    · exact ⟨y, hy, h3, p, hp, skP_yes h1 h4.symm (fun e => h5 e.symm) h⟩
/-- First on points of servers -/
def vk (x3 x4 : Int) (x6 : List UInt8) (a : MV_) (b : MX_) : Int := if (pty 4 x3).2 = true ∧ hM a x4 = true ∧ (gM a [] x4 ≠ x6 ∨ gM b false x4 = true) then 1 else 0
theorem f43_d {x1 x3 x4 x5 x6 x7} (a : MV_) (b : MX_) (c : MS_) (d : MA_) (e : MS_) (f : MQ_) (g : MK_) : f43 x1 4 x3 x4 x5 x6 x7 a b c d e f g = some (vk x3 x4 x6 a b, a, b, c, d, e, f, g) := by
  unfold f43 vk
  rw [jn_eq, f50_eq, some_bind]
  have e1 : (((4 : Int) == 2) == true) = false := rfl
  have e2 : ((4 : Int) == 2) = false := rfl
  have e3 : ((4 : Int) == 3) = false := rfl
  simp only [jn_eq, e2, e3, optc_f, Bool.false_and, Bool.false_eq_true, if_false, false_implies, implies_true, show (false == true) = false from rfl]
  cases h1 : (pty 4 x3).2 with
  | false => simp
  | true =>
    cases h2 : hM a x4 with
    | false => simp [chk]
    | true =>
      by_cases h3 : gM a [] x4 = x6
      · cases h4 : gM b false x4 with
        | false => simp [h3]
        | true => simp [h3]
      · simp [h3]
def InvV (P : List Y51) (V : MV_) : Prop := (∀ s, hM V s = true → ∃ q, q ∈ P ∧ st q = true ∧ slot q = s ∧ gM V [] s = txtP q) ∧ ∀ p, p ∈ P → st p = true → hM V (slot p) = true ∧ gM V [] (slot p) = txtP p
theorem inv_step {P : List Y51} {V : MV_} {p : Y51} (hi : InvV P V) (hs : st p = true) (hv : hM V (slot p) = true → gM V [] (slot p) = txtP p) : InvV (P ++ [p]) (seeV V (slot p) (txtP p)) := by
  unfold seeV
  by_cases h : hM V (slot p) = true
  · rw [if_pos h]
    refine ⟨fun s h1 => ?_, fun q hq h1 => ?_⟩
    · obtain ⟨q, hq, h2⟩ := hi.1 s h1
      exact ⟨q, List.mem_append_left _ hq, h2⟩
    · rcases List.mem_append.1 hq with hq | hq
      · exact hi.2 q hq h1
      · obtain rfl : q = p := by simpa using hq
        exact ⟨h, hv h⟩
  · rw [if_neg h]
    refine ⟨fun s h1 => ?_, fun q hq h1 => ?_⟩
    · rw [hM_upd] at h1
      rw [gM_upd]
      by_cases e : s = slot p
      · rw [if_pos e]
        exact ⟨p, by simp, hs, e.symm, rfl⟩
      · rw [if_neg e]
        obtain ⟨q, hq, h2⟩ := hi.1 s (by simpa [e] using h1)
        exact ⟨q, List.mem_append_left _ hq, h2⟩
    · rw [hM_upd, gM_upd]
      rcases List.mem_append.1 hq with hq | hq
      · obtain ⟨h2, h3⟩ := hi.2 q hq h1
        have e : ¬ slot q = slot p := fun e => h (by rw [← e]; exact h2)
        rw [if_neg e, h2]
        exact ⟨by simp, h3⟩
      · obtain rfl : q = p := by simpa using hq
        simp
theorem take_mem {α : Type} {l : List α} {n : Nat} {p : α} (h : p ∈ l.take n) : p ∈ l := List.mem_of_mem_take h
theorem f41_L0_eq (x : List Y51) (hx : x.length ≤ 1000000) (h4 : ∀ p, p ∈ x → p.2.1 = 4) (K : Int → Option (Int × Int × Int)) :
    ∀ (m k n : Nat) (a : MV_) (c : MS_) (d : MA_) (e : MS_) (f : MQ_) (g : MK_), n + m = x.length → m < k → (∀ w, 0 ≤ gM d 0 w ∧ gM d 0 w ≤ n) → InvV (x.take n) a →
      (∃ i : Int, f41_L0 x K k (n, 0, a, [], c, d, e, f, g) = some (i, 0, 1) ∧ Cnf x) ∨ (f41_L0 x K k (n, 0, a, [], c, d, e, f, g) = K 0 ∧ ¬ Cnf x)
  | 0, k, n, a, c, d, e, f, g, hn, hk, hd, hi => by
    obtain ⟨k, rfl⟩ : ∃ z, k = z + 1 := ⟨k - 1, by omega⟩
    rw [List.take_of_length_le (by omega)] at hi
    refine .inr ⟨?_, ?_⟩
    · conv => lhs; unfold f41_L0
      rw [ifd_neg (by omega)]
    · rintro ⟨p, hp, y, hy, h1, h2, h3, h5⟩
      have a1 := (hi.2 p hp h1).2
      have a2 := (hi.2 y hy h2).2
      rw [h3] at a1
      exact h5 (a1.symm.trans a2)
  | m + 1, k, n, a, c, d, e, f, g, hn, hk, hd, hi => by
    obtain ⟨k, rfl⟩ : ∃ z, k = z + 1 := ⟨k - 1, by omega⟩
    have hmem : x.getD n default ∈ x := by
      rw [List.getD_eq_getElem?_getD, List.getElem?_eq_getElem (by omega)]
      exact List.getElem_mem _
    have hk4 : (x.getD n (default : Y51)).2.1 = 4 := h4 _ hmem
    have ht := take_snoc x n (default : Y51) (by omega)
    have e0 : f41_L0 x K (k + 1) (n, 0, a, [], c, d, e, f, g) = if vk (x.getD n (default : Y51)).2.2.1 (slot (x.getD n default)) (txtP (x.getD n default)) a [] ≠ 0 then some ((n : Int), 0, vk (x.getD n (default : Y51)).2.2.1 (slot (x.getD n default)) (txtP (x.getD n default)) a []) else
        (f45 (x.getD n (default : Y51)).1 (x.getD n (default : Y51)).2.1 (x.getD n (default : Y51)).2.2.1 (slot (x.getD n default)) (x.getD n (default : Y51)).2.2.2.2.1 (txtP (x.getD n default)) (x.getD n (default : Y51)).2.2.2.2.2.2 a [] c d e f g).bind fun r14 => f41_L0 x K k (n + 1, vk (x.getD n (default : Y51)).2.2.1 (slot (x.getD n default)) (txtP (x.getD n default)) a [], r14) := by
      conv => lhs; unfold f41_L0
      rw [ifd_pos (by omega), chk_pos (by omega)]
      unfold f42
      rw [hk4, f43_d, some_bind, some_bind]
      dsimp only
      by_cases hv : vk (x.getD n (default : Y51)).2.2.1 (slot (x.getD n default)) (txtP (x.getD n default)) a [] = 0
      · rw [if_neg (by rw [hv]; simp), if_neg (by rw [hv]; simp)]
        refine congrArg (Option.bind _) (funext fun r14 => ?_)
        exact chk_pos (by omega)
      · rw [if_pos (by simpa using hv), if_pos hv]
    rw [e0]
    by_cases hv : (pty 4 (x.getD n (default : Y51)).2.2.1).2 = true ∧ hM a (slot (x.getD n default)) = true ∧ (gM a [] (slot (x.getD n default)) ≠ txtP (x.getD n default) ∨ gM ([] : MX_) false (slot (x.getD n default)) = true)
    · have hv1 : vk (x.getD n (default : Y51)).2.2.1 (slot (x.getD n default)) (txtP (x.getD n default)) a [] = 1 := by unfold vk; rw [if_pos hv]
      rw [hv1, if_pos (by decide)]
      refine .inl ⟨n, rfl, ?_⟩
      obtain ⟨q, hq, g1, g2, g3⟩ := hi.1 _ hv.2.1
      refine ⟨q, take_mem hq, _, hmem, g1, by unfold st; rw [hk4]; exact hv.1, g2, ?_⟩
      rw [← g3]
      rcases hv.2.2 with h | h
      · exact h
      · cases h
    · have hv1 : vk (x.getD n (default : Y51)).2.2.1 (slot (x.getD n default)) (txtP (x.getD n default)) a [] = 0 := by unfold vk; rw [if_neg hv]
      rw [hv1, if_neg (by decide)]
      by_cases hs : st (x.getD n default) = true
      · have hd' := hd (x.getD n (default : Y51)).2.2.1
        have hs' := hs
        unfold st at hs'
        rw [hk4] at hs'
        have hg : hM a (slot (x.getD n default)) = true → gM a [] (slot (x.getD n default)) = txtP (x.getD n default) := fun h => by
          refine Classical.byContradiction fun h2 => hv ⟨hs', h, .inl h2⟩
        have hX : seeX a [] (slot (x.getD n default)) (txtP (x.getD n default)) = [] := by
          unfold seeX
          split
          · rename_i h
            rw [if_pos (by rw [hg h]; simp)]
          · rfl
        rw [f45_st a [] c d e f g hs (by omega), some_bind, hX]
        refine f41_L0_eq x hx h4 K m k (n + 1) _ _ _ e f g (by omega) (by omega) (fun w => ?_) ?_
        · unfold seeA
          split
          · rw [gM_upd]
            split
            · constructor <;> omega
            · have := hd w; constructor <;> omega
          · have := hd w; constructor <;> omega
        · rw [ht]
          exact inv_step hi hs hg
      · have hs' : st (x.getD n default) = false := by simpa using hs
        obtain ⟨e', f', g', h1⟩ := f45_no (x1 := (x.getD n (default : Y51)).1) (x4 := slot (x.getD n default)) (x5 := (x.getD n (default : Y51)).2.2.2.2.1) (x6 := txtP (x.getD n default)) (x7 := (x.getD n (default : Y51)).2.2.2.2.2.2) a [] c d e f g hs'
        rw [h1, some_bind]
        refine f41_L0_eq x hx h4 K m k (n + 1) a c d e' f' g' (by omega) (by omega) (fun w => by have := hd w; constructor <;> omega) ?_
        rw [ht]
        refine ⟨fun s h => ?_, fun q hq h => ?_⟩
        · obtain ⟨q, hq, h2⟩ := hi.1 s h
          exact ⟨q, List.mem_append_left _ hq, h2⟩
        · rcases List.mem_append.1 hq with hq | hq
          · exact hi.2 q hq h
          · obtain rfl : q = x.getD n default := by simpa using hq
            rw [hs'] at h; cases h
theorem f13_eq (x : List Y51) (hx : x.length ≤ 1000000) (h4 : ∀ p, p ∈ x → p.2.1 = 4) {a b c d e f} :
    (∃ i : Int, f13 a b c d e f x = some (i, 1, 0) ∧ Cnf x) ∨ (f13 a b c d e f x = some (0, 0, 13) ∧ ¬ Cnf x) := by
  unfold f13 f41 f44
  rw [some_bind, jn_eq]
  rcases f41_L0_eq x hx h4 (fun i15 => some ((0 : Int), (13 : Int), i15)) x.length FUEL 0 [] [] [] [] [] [] (by omega) (fuel_lt (by omega)) (fun w => ⟨Int.le_refl _, Int.le_refl _⟩) ⟨fun s h => absurd h (by simp [hM]), fun p hp => absurd hp List.not_mem_nil⟩ with ⟨i, h1, h2⟩ | ⟨h1, h2⟩
  · refine .inl ⟨i, ?_, h2⟩
    dsimp only
    rw [h1]; rfl
  · refine .inr ⟨?_, h2⟩
    dsimp only
    rw [h1]; rfl
/-- the law -/
theorem f7_true (x : List Y51) (hx : x.length ≤ 9223372036854775807) : f7 x = some true := by
  obtain ⟨b, hb, hl⟩ := f16_some x hx
  unfold f7
  rw [f11_true, some_bind, show ((!true) == false) = true from rfl, optc_t, hb, some_bind]
  cases b with
  | false => rw [if_pos (by rfl)]; rfl
  | true =>
    have h60 := hl rfl
    have hf : (x.filter kp4).length ≤ 60 := Nat.le_trans (List.length_filter_le _ _) h60
    have h4 : ∀ p, p ∈ x.filter kp4 → p.2.1 = 4 := fun p hp => by
      have := (List.mem_filter.1 hp).2
      unfold kp4 dl4 at this
      simpa using this
    rw [if_neg (by simp), fork_ref x (by omega), f22_eq x (by omega), some_bind, some_bind, if_neg (by simp), f25_eq x (by omega), some_bind, f24a_eq x (by omega), some_bind]
    have hi := fork_iff (x.filter kp4)
    rcases f13_eq (x.filter kp4) (by omega) h4 (a := []) (b := []) (c := BitVec.ofInt 16 0) (d := []) (e := []) (f := []) with ⟨i, h1, h2⟩ | ⟨h1, h2⟩
    · rw [h1, some_bind, f22_eq _ (by omega), some_bind]
      have := hi.2 h2
      unfold finS
      rw [if_neg (by omega)]; rfl
    · rw [h1, some_bind, f22_eq _ (by omega), some_bind]
      have : ¬ 0 ≤ ((x.filter kp4).foldl (gO (x.filter kp4)) (0, -1, 0)).2.1 := fun h => h2 (hi.1 h)
      unfold finS
      rw [if_pos (by omega)]; rfl
end Go.Abs
