/- Part 16 of the proof: X54s, Aw54s, Pl, Map54, Mon54a, Mon54b, Mon54c. -/
import Derived.Test.YtfkhgbcggabkjaaGreatDoorMonothZ15
namespace Go.Abs
open Go Go.Proofs
set_option maxHeartbeats 4000000
set_option maxRecDepth 100000 in
theorem f11_ok   (r : Bool) (h : f11 = some r)  : Spec1 Tryz.prog 11 [] [] [] [] (.bool r) [] := by
  unfold f11 at h
  refine Spec1.body 0 _ _ Tryz.func11 rfl Tryz.ntmps11 rfl rfl ?_
  refine q1rq [] [] ⟨107, [], [], [], 0⟩ trivial ?_
  refine q1rq [] [] ⟨107, [(1, .ptr 1 0)], [(1, .cells 37 [.nils, .nils, .b16 (q1w16 0), .nils, .nils, .nils])], [], 0⟩ (an1 trivial) ?_
  refine q1rq [] [] ⟨107, [(1, .ptr 1 0), (2, .own 21)], [(1, .cells 37 [.nils, .nils, .b16 (q1w16 0), .nils, .nils, .nils]), (21, .rows 51 28 2 (lstF 28 [.i (0 : Int), .i (4 : Int), .i (0 : Int), .i (0 : Int), .i (0 : Int), .str (f11z3), .str [], .i (0 : Int), .i (0 : Int), .i (0 : Int), .i (0 : Int), .i (0 : Int), .str [], .i (0 : Int), .i (0 : Int), .i (0 : Int), .i (0 : Int), .i (0 : Int), .str [], .str [], .nils, .nils, .i (0 : Int), .str [], .nils, .nils, .nils, .nils, .i (0 : Int), .i (3 : Int), .i (0 : Int), .i (0 : Int), .i (0 : Int), .str (f11z4), .str [], .i (0 : Int), .i (0 : Int), .i (0 : Int), .i (0 : Int), .i (0 : Int), .str [], .i (0 : Int), .i (0 : Int), .i (0 : Int), .i (0 : Int), .i (0 : Int), .str [], .str [], .nils, .nils, .i (0 : Int), .str [], .nils, .nils, .nils, .nils]))], [], 0⟩ trivial ?_
  refine AWp.le (Le.mk (s' := ⟨107, [(1, .ptr 1 0), (2, .own 21)], [(1, .cells 37 [.nils, .nils, .b16 (q1w16 0), .nils, .nils, .nils]), (21, q1bT51_51 [(((0 : Int), (4 : Int), (0 : Int), (0 : Int), (0 : Int), (f11z3), []) : Y51), (((0 : Int), (3 : Int), (0 : Int), (0 : Int), (0 : Int), (f11z4), []) : Y51)])], [], 0⟩) rfl rfl ⟨.refl _, .refl _, trivial⟩ ⟨⟨_, rfl, .refl _⟩, ⟨_, rfl, (BLe.of (RL.lstV (enc := eT51) [(((0 : Int), (4 : Int), (0 : Int), (0 : Int), (0 : Int), (f11z3), []) : Y51), (((0 : Int), (3 : Int), (0 : Int), (0 : Int), (0 : Int), (f11z4), []) : Y51)] rfl ⟨.refl _, .refl _, .refl _, .refl _, .refl _, .refl _, .refl _, VLe.opq rfl, VLe.opq rfl, VLe.opq rfl, VLe.opq rfl, VLe.opq rfl, VLe.opq rfl, VLe.opq rfl, VLe.opq rfl, VLe.opq rfl, VLe.opq rfl, VLe.opq rfl, VLe.opq rfl, VLe.opq rfl, VLe.opq rfl, VLe.opq rfl, VLe.opq rfl, VLe.opq rfl, VLe.opq rfl, VLe.opq rfl, VLe.opq rfl, VLe.opq rfl, .refl _, .refl _, .refl _, .refl _, .refl _, .refl _, .refl _, VLe.opq rfl, VLe.opq rfl, VLe.opq rfl, VLe.opq rfl, VLe.opq rfl, VLe.opq rfl, VLe.opq rfl, VLe.opq rfl, VLe.opq rfl, VLe.opq rfl, VLe.opq rfl, VLe.opq rfl, VLe.opq rfl, VLe.opq rfl, VLe.opq rfl, VLe.opq rfl, VLe.opq rfl, VLe.opq rfl, VLe.opq rfl, VLe.opq rfl, VLe.opq rfl, trivial⟩ (fun _ => rfl)))⟩, trivial⟩) ?_
  refine AWp.seq ?_
  obtain ⟨r1, hr1, h⟩ := bind_ok h
  refine q1rr [] [(1, ⟨[q1aT51 [(((0 : Int), (4 : Int), (0 : Int), (0 : Int), (0 : Int), (f11z3), []) : Y51), (((0 : Int), (3 : Int), (0 : Int), (0 : Int), (0 : Int), (f11z4), []) : Y51)]], [], [], [], .tup [.agg (f11z7 r1), .i r1.2.2.2], [], [21], []⟩)] ⟨107, [(1, .ptr 1 0), (2, .own 21), (3, .ptr 3 0), (4, .i r1.2.2.2)], [(1, .cells 37 [.nils, .nils, .b16 (q1w16 0), .nils, .nils, .nils]), (3, .cells 60 (f11z7 r1)), (21, q1bT51_51 [(((0 : Int), (4 : Int), (0 : Int), (0 : Int), (0 : Int), (f11z3), []) : Y51), (((0 : Int), (3 : Int), (0 : Int), (0 : Int), (0 : Int), (f11z4), []) : Y51)])], [], 0⟩ (an2 (cpL (c := true) [(21, q1bT51_51 [(((0 : Int), (4 : Int), (0 : Int), (0 : Int), (0 : Int), (f11z3), []) : Y51), (((0 : Int), (3 : Int), (0 : Int), (0 : Int), (0 : Int), (f11z4), []) : Y51)])] [21] [.own 21] (fun _ => (f22_ok _ _ hr1)) (fun _ => ⟨.refl _, trivial⟩) (.inr ⟨rfl, trivial⟩)) trivial) ?_
  refine thenQ_normal ?_
  refine AWp.seq ?_
  obtain ⟨r2, hr2, h⟩ := bind_ok h
  refine q1rr [] [(2, ⟨[.agg [q1aS [], q1aSW [], .b16 (q1w16 0), vL 6 eT73 (default : List UInt8 × Int × BitVec 16 × List (BitVec 16) × List (BitVec 16) × (f11z9)) [], q1aI [], vL 3 eSBLWWJ (default : List UInt8 × Bool × (f11z9)) []], q1aT51 [(((0 : Int), (4 : Int), (0 : Int), (0 : Int), (0 : Int), (f11z3), []) : Y51), (((0 : Int), (3 : Int), (0 : Int), (0 : Int), (0 : Int), (f11z4), []) : Y51)]], [], [], [], .tup [.i r2.1, .i r2.2.1, .i r2.2.2], [], [21], []⟩)] ⟨107, [(1, .ptr 1 0), (2, .own 21), (3, .ptr 3 0), (4, .i r1.2.2.2), (5, .i r2.1), (6, .i r2.2.1), (7, .i r2.2.2)], [(1, .cells 37 [.nils, .nils, .b16 (q1w16 0), .nils, .nils, .nils]), (3, .cells 60 (f11z7 r1)), (21, q1bT51_51 [(((0 : Int), (4 : Int), (0 : Int), (0 : Int), (0 : Int), (f11z3), []) : Y51), (((0 : Int), (3 : Int), (0 : Int), (0 : Int), (0 : Int), (f11z4), []) : Y51)])], [], 0⟩ (an1 (cpL (c := true) [(21, q1bT51_51 [(((0 : Int), (4 : Int), (0 : Int), (0 : Int), (0 : Int), (f11z3), []) : Y51), (((0 : Int), (3 : Int), (0 : Int), (0 : Int), (0 : Int), (f11z4), []) : Y51)])] [21] [.agg [.nils, .nils, .b16 (q1w16 0), .nils, .nils, .nils], .own 21] (fun _ => (f13_ok _ _ _ _ _ _ _ _ hr2)) (fun _ => ⟨(.aggs ⟨.nilL, .nilL, .refl _, .nilL, .nilL, .nilL, trivial⟩), .refl _, trivial⟩) (.inr ⟨rfl, trivial⟩))) ?_
  refine thenQ_normal ?_
  refine AWp.seq ?_
  obtain ⟨ob0p, h⟩ := chk_some h
  have ob0 : 0 ≤ (0 : Int) ∧ (0 : Int) < ((([(((0 : Int), (4 : Int), (0 : Int), (0 : Int), (0 : Int), ([118] : List UInt8), []) : Y51), (((0 : Int), (3 : Int), (0 : Int), (0 : Int), (0 : Int), ([119] : List UInt8), []) : Y51)]).length : Nat) : Int) := ⟨by omega, ob0p⟩
  obtain ⟨ob1, h⟩ := chk_some h
  refine q1rr [] [] ⟨107, [(1, .ptr 1 0), (3, .ptr 3 0), (4, .i r1.2.2.2), (5, .i r2.1), (6, .i r2.2.1), (7, .i r2.2.2), (8, .own 38)], [(1, .cells 37 [.nils, .nils, .b16 (q1w16 0), .nils, .nils, .nils]), (3, .cells 60 (f11z7 r1)), (38, .rows 51 28 2 (lstF 28 [.i (([(((0 : Int), (4 : Int), (0 : Int), (0 : Int), (0 : Int), (f11z3), []) : Y51), (((0 : Int), (3 : Int), (0 : Int), (0 : Int), (0 : Int), (f11z4), []) : Y51)]).getD 0 q1dT51).1, .i (([(((0 : Int), (4 : Int), (0 : Int), (0 : Int), (0 : Int), (f11z3), []) : Y51), (((0 : Int), (3 : Int), (0 : Int), (0 : Int), (0 : Int), (f11z4), []) : Y51)]).getD 0 q1dT51).2.1, .i (([(((0 : Int), (4 : Int), (0 : Int), (0 : Int), (0 : Int), (f11z3), []) : Y51), (((0 : Int), (3 : Int), (0 : Int), (0 : Int), (0 : Int), (f11z4), []) : Y51)]).getD 0 q1dT51).2.2.1, .i (([(((0 : Int), (4 : Int), (0 : Int), (0 : Int), (0 : Int), (f11z3), []) : Y51), (((0 : Int), (3 : Int), (0 : Int), (0 : Int), (0 : Int), (f11z4), []) : Y51)]).getD 0 q1dT51).2.2.2.1, .i (([(((0 : Int), (4 : Int), (0 : Int), (0 : Int), (0 : Int), (f11z3), []) : Y51), (((0 : Int), (3 : Int), (0 : Int), (0 : Int), (0 : Int), (f11z4), []) : Y51)]).getD 0 q1dT51).2.2.2.2.1, .str (([(((0 : Int), (4 : Int), (0 : Int), (0 : Int), (0 : Int), (f11z3), []) : Y51), (((0 : Int), (3 : Int), (0 : Int), (0 : Int), (0 : Int), (f11z4), []) : Y51)]).getD 0 q1dT51).2.2.2.2.2.1, .str (([(((0 : Int), (4 : Int), (0 : Int), (0 : Int), (0 : Int), (f11z3), []) : Y51), (((0 : Int), (3 : Int), (0 : Int), (0 : Int), (0 : Int), (f11z4), []) : Y51)]).getD 0 q1dT51).2.2.2.2.2.2, .opq, .opq, .opq, .opq, .opq, .opq, .opq, .opq, .opq, .opq, .opq, .opq, .opq, .opq, .opq, .opq, .opq, .opq, .opq, .opq, .opq, .i (0 : Int), .i (3 : Int), .i (0 : Int), .i (0 : Int), .i (0 : Int), .str (f11z3), .str [], .i (0 : Int), .i (0 : Int), .i (0 : Int), .i (0 : Int), .i (0 : Int), .str [], .i (0 : Int), .i (0 : Int), .i (0 : Int), .i (0 : Int), .i (0 : Int), .str [], .str [], .nils, .nils, .i (0 : Int), .str [], .nils, .nils, .nils, .nils]))], [], 0⟩ (an2 ob0 ob1) ?_
  refine thenQ_normal ?_
  refine AWp.le (Le.mk (s' := ⟨107, [(1, .ptr 1 0), (3, .ptr 3 0), (4, .i r1.2.2.2), (5, .i r2.1), (6, .i r2.2.1), (7, .i r2.2.2), (8, .own 38)], [(1, .cells 37 [.nils, .nils, .b16 (q1w16 0), .nils, .nils, .nils]), (3, .cells 60 (f11z7 r1)), (38, q1bT51_51 [(((([(((0 : Int), (4 : Int), (0 : Int), (0 : Int), (0 : Int), (f11z3), []) : Y51), (((0 : Int), (3 : Int), (0 : Int), (0 : Int), (0 : Int), (f11z4), []) : Y51)]).getD 0 q1dT51).1, (([(((0 : Int), (4 : Int), (0 : Int), (0 : Int), (0 : Int), (f11z3), []) : Y51), (((0 : Int), (3 : Int), (0 : Int), (0 : Int), (0 : Int), (f11z4), []) : Y51)]).getD 0 q1dT51).2.1, (([(((0 : Int), (4 : Int), (0 : Int), (0 : Int), (0 : Int), (f11z3), []) : Y51), (((0 : Int), (3 : Int), (0 : Int), (0 : Int), (0 : Int), (f11z4), []) : Y51)]).getD 0 q1dT51).2.2.1, (([(((0 : Int), (4 : Int), (0 : Int), (0 : Int), (0 : Int), (f11z3), []) : Y51), (((0 : Int), (3 : Int), (0 : Int), (0 : Int), (0 : Int), (f11z4), []) : Y51)]).getD 0 q1dT51).2.2.2.1, (([(((0 : Int), (4 : Int), (0 : Int), (0 : Int), (0 : Int), (f11z3), []) : Y51), (((0 : Int), (3 : Int), (0 : Int), (0 : Int), (0 : Int), (f11z4), []) : Y51)]).getD 0 q1dT51).2.2.2.2.1, (([(((0 : Int), (4 : Int), (0 : Int), (0 : Int), (0 : Int), (f11z3), []) : Y51), (((0 : Int), (3 : Int), (0 : Int), (0 : Int), (0 : Int), (f11z4), []) : Y51)]).getD 0 q1dT51).2.2.2.2.2.1, (([(((0 : Int), (4 : Int), (0 : Int), (0 : Int), (0 : Int), (f11z3), []) : Y51), (((0 : Int), (3 : Int), (0 : Int), (0 : Int), (0 : Int), (f11z4), []) : Y51)]).getD 0 q1dT51).2.2.2.2.2.2) : Y51), (((0 : Int), (3 : Int), (0 : Int), (0 : Int), (0 : Int), (f11z3), []) : Y51)])], [], 0⟩) rfl rfl ⟨.refl _, .refl _, .refl _, .refl _, .refl _, .refl _, .refl _, trivial⟩ ⟨⟨_, rfl, .refl _⟩, ⟨_, rfl, .refl _⟩, ⟨_, rfl, (BLe.of (RL.lstV (enc := eT51) [(((([(((0 : Int), (4 : Int), (0 : Int), (0 : Int), (0 : Int), (f11z3), []) : Y51), (((0 : Int), (3 : Int), (0 : Int), (0 : Int), (0 : Int), (f11z4), []) : Y51)]).getD 0 q1dT51).1, (([(((0 : Int), (4 : Int), (0 : Int), (0 : Int), (0 : Int), (f11z3), []) : Y51), (((0 : Int), (3 : Int), (0 : Int), (0 : Int), (0 : Int), (f11z4), []) : Y51)]).getD 0 q1dT51).2.1, (([(((0 : Int), (4 : Int), (0 : Int), (0 : Int), (0 : Int), (f11z3), []) : Y51), (((0 : Int), (3 : Int), (0 : Int), (0 : Int), (0 : Int), (f11z4), []) : Y51)]).getD 0 q1dT51).2.2.1, (([(((0 : Int), (4 : Int), (0 : Int), (0 : Int), (0 : Int), (f11z3), []) : Y51), (((0 : Int), (3 : Int), (0 : Int), (0 : Int), (0 : Int), (f11z4), []) : Y51)]).getD 0 q1dT51).2.2.2.1, (([(((0 : Int), (4 : Int), (0 : Int), (0 : Int), (0 : Int), (f11z3), []) : Y51), (((0 : Int), (3 : Int), (0 : Int), (0 : Int), (0 : Int), (f11z4), []) : Y51)]).getD 0 q1dT51).2.2.2.2.1, (([(((0 : Int), (4 : Int), (0 : Int), (0 : Int), (0 : Int), (f11z3), []) : Y51), (((0 : Int), (3 : Int), (0 : Int), (0 : Int), (0 : Int), (f11z4), []) : Y51)]).getD 0 q1dT51).2.2.2.2.2.1, (([(((0 : Int), (4 : Int), (0 : Int), (0 : Int), (0 : Int), (f11z3), []) : Y51), (((0 : Int), (3 : Int), (0 : Int), (0 : Int), (0 : Int), (f11z4), []) : Y51)]).getD 0 q1dT51).2.2.2.2.2.2) : Y51), (((0 : Int), (3 : Int), (0 : Int), (0 : Int), (0 : Int), (f11z3), []) : Y51)] rfl ⟨.refl _, .refl _, .refl _, .refl _, .refl _, .refl _, .refl _, .refl _, .refl _, .refl _, .refl _, .refl _, .refl _, .refl _, .refl _, .refl _, .refl _, .refl _, .refl _, .refl _, .refl _, .refl _, .refl _, .refl _, .refl _, .refl _, .refl _, .refl _, .refl _, .refl _, .refl _, .refl _, .refl _, .refl _, .refl _, VLe.opq rfl, VLe.opq rfl, VLe.opq rfl, VLe.opq rfl, VLe.opq rfl, VLe.opq rfl, VLe.opq rfl, VLe.opq rfl, VLe.opq rfl, VLe.opq rfl, VLe.opq rfl, VLe.opq rfl, VLe.opq rfl, VLe.opq rfl, VLe.opq rfl, VLe.opq rfl, VLe.opq rfl, VLe.opq rfl, VLe.opq rfl, VLe.opq rfl, VLe.opq rfl, trivial⟩ (fun _ => rfl)))⟩, trivial⟩) ?_
  refine AWp.seq ?_
  obtain ⟨r3, hr3, h⟩ := bind_ok h
  refine q1rr [] [(2, ⟨[.agg [q1aS [], q1aSW [], .b16 (q1w16 0), vL 6 eT73 (default : List UInt8 × Int × BitVec 16 × List (BitVec 16) × List (BitVec 16) × (f11z9)) [], q1aI [], vL 3 eSBLWWJ (default : List UInt8 × Bool × (f11z9)) []], q1aT51 [(((([(((0 : Int), (4 : Int), (0 : Int), (0 : Int), (0 : Int), (f11z3), []) : Y51), (((0 : Int), (3 : Int), (0 : Int), (0 : Int), (0 : Int), (f11z4), []) : Y51)]).getD 0 q1dT51).1, (([(((0 : Int), (4 : Int), (0 : Int), (0 : Int), (0 : Int), (f11z3), []) : Y51), (((0 : Int), (3 : Int), (0 : Int), (0 : Int), (0 : Int), (f11z4), []) : Y51)]).getD 0 q1dT51).2.1, (([(((0 : Int), (4 : Int), (0 : Int), (0 : Int), (0 : Int), (f11z3), []) : Y51), (((0 : Int), (3 : Int), (0 : Int), (0 : Int), (0 : Int), (f11z4), []) : Y51)]).getD 0 q1dT51).2.2.1, (([(((0 : Int), (4 : Int), (0 : Int), (0 : Int), (0 : Int), (f11z3), []) : Y51), (((0 : Int), (3 : Int), (0 : Int), (0 : Int), (0 : Int), (f11z4), []) : Y51)]).getD 0 q1dT51).2.2.2.1, (([(((0 : Int), (4 : Int), (0 : Int), (0 : Int), (0 : Int), (f11z3), []) : Y51), (((0 : Int), (3 : Int), (0 : Int), (0 : Int), (0 : Int), (f11z4), []) : Y51)]).getD 0 q1dT51).2.2.2.2.1, (([(((0 : Int), (4 : Int), (0 : Int), (0 : Int), (0 : Int), (f11z3), []) : Y51), (((0 : Int), (3 : Int), (0 : Int), (0 : Int), (0 : Int), (f11z4), []) : Y51)]).getD 0 q1dT51).2.2.2.2.2.1, (([(((0 : Int), (4 : Int), (0 : Int), (0 : Int), (0 : Int), (f11z3), []) : Y51), (((0 : Int), (3 : Int), (0 : Int), (0 : Int), (0 : Int), (f11z4), []) : Y51)]).getD 0 q1dT51).2.2.2.2.2.2) : Y51), (((0 : Int), (3 : Int), (0 : Int), (0 : Int), (0 : Int), (f11z3), []) : Y51)]], [], [], [], .tup [.i r3.1, .i r3.2.1, .i r3.2.2], [], [38], []⟩)] ⟨107, [(1, .ptr 1 0), (3, .ptr 3 0), (4, .i r1.2.2.2), (5, .i r2.1), (6, .i r2.2.1), (7, .i r2.2.2), (8, .own 38), (11, .i r3.2.2)], [(1, .cells 37 [.nils, .nils, .b16 (q1w16 0), .nils, .nils, .nils]), (3, .cells 60 (f11z7 r1)), (38, q1bT51_51 [(((([(((0 : Int), (4 : Int), (0 : Int), (0 : Int), (0 : Int), (f11z3), []) : Y51), (((0 : Int), (3 : Int), (0 : Int), (0 : Int), (0 : Int), (f11z4), []) : Y51)]).getD 0 q1dT51).1, (([(((0 : Int), (4 : Int), (0 : Int), (0 : Int), (0 : Int), (f11z3), []) : Y51), (((0 : Int), (3 : Int), (0 : Int), (0 : Int), (0 : Int), (f11z4), []) : Y51)]).getD 0 q1dT51).2.1, (([(((0 : Int), (4 : Int), (0 : Int), (0 : Int), (0 : Int), (f11z3), []) : Y51), (((0 : Int), (3 : Int), (0 : Int), (0 : Int), (0 : Int), (f11z4), []) : Y51)]).getD 0 q1dT51).2.2.1, (([(((0 : Int), (4 : Int), (0 : Int), (0 : Int), (0 : Int), (f11z3), []) : Y51), (((0 : Int), (3 : Int), (0 : Int), (0 : Int), (0 : Int), (f11z4), []) : Y51)]).getD 0 q1dT51).2.2.2.1, (([(((0 : Int), (4 : Int), (0 : Int), (0 : Int), (0 : Int), (f11z3), []) : Y51), (((0 : Int), (3 : Int), (0 : Int), (0 : Int), (0 : Int), (f11z4), []) : Y51)]).getD 0 q1dT51).2.2.2.2.1, (([(((0 : Int), (4 : Int), (0 : Int), (0 : Int), (0 : Int), (f11z3), []) : Y51), (((0 : Int), (3 : Int), (0 : Int), (0 : Int), (0 : Int), (f11z4), []) : Y51)]).getD 0 q1dT51).2.2.2.2.2.1, (([(((0 : Int), (4 : Int), (0 : Int), (0 : Int), (0 : Int), (f11z3), []) : Y51), (((0 : Int), (3 : Int), (0 : Int), (0 : Int), (0 : Int), (f11z4), []) : Y51)]).getD 0 q1dT51).2.2.2.2.2.2) : Y51), (((0 : Int), (3 : Int), (0 : Int), (0 : Int), (0 : Int), (f11z3), []) : Y51)])], [], 0⟩ (an1 (cpL (c := true) [(38, q1bT51_51 [(((([(((0 : Int), (4 : Int), (0 : Int), (0 : Int), (0 : Int), (f11z3), []) : Y51), (((0 : Int), (3 : Int), (0 : Int), (0 : Int), (0 : Int), (f11z4), []) : Y51)]).getD 0 q1dT51).1, (([(((0 : Int), (4 : Int), (0 : Int), (0 : Int), (0 : Int), (f11z3), []) : Y51), (((0 : Int), (3 : Int), (0 : Int), (0 : Int), (0 : Int), (f11z4), []) : Y51)]).getD 0 q1dT51).2.1, (([(((0 : Int), (4 : Int), (0 : Int), (0 : Int), (0 : Int), (f11z3), []) : Y51), (((0 : Int), (3 : Int), (0 : Int), (0 : Int), (0 : Int), (f11z4), []) : Y51)]).getD 0 q1dT51).2.2.1, (([(((0 : Int), (4 : Int), (0 : Int), (0 : Int), (0 : Int), (f11z3), []) : Y51), (((0 : Int), (3 : Int), (0 : Int), (0 : Int), (0 : Int), (f11z4), []) : Y51)]).getD 0 q1dT51).2.2.2.1, (([(((0 : Int), (4 : Int), (0 : Int), (0 : Int), (0 : Int), (f11z3), []) : Y51), (((0 : Int), (3 : Int), (0 : Int), (0 : Int), (0 : Int), (f11z4), []) : Y51)]).getD 0 q1dT51).2.2.2.2.1, (([(((0 : Int), (4 : Int), (0 : Int), (0 : Int), (0 : Int), (f11z3), []) : Y51), (((0 : Int), (3 : Int), (0 : Int), (0 : Int), (0 : Int), (f11z4), []) : Y51)]).getD 0 q1dT51).2.2.2.2.2.1, (([(((0 : Int), (4 : Int), (0 : Int), (0 : Int), (0 : Int), (f11z3), []) : Y51), (((0 : Int), (3 : Int), (0 : Int), (0 : Int), (0 : Int), (f11z4), []) : Y51)]).getD 0 q1dT51).2.2.2.2.2.2) : Y51), (((0 : Int), (3 : Int), (0 : Int), (0 : Int), (0 : Int), (f11z3), []) : Y51)])] [38] [.agg [.nils, .nils, .b16 (q1w16 0), .nils, .nils, .nils], .own 38] (fun _ => (f13_ok _ _ _ _ _ _ _ _ hr3)) (fun _ => ⟨(.aggs ⟨.nilL, .nilL, .refl _, .nilL, .nilL, .nilL, trivial⟩), .refl _, trivial⟩) (.inr ⟨rfl, trivial⟩))) ?_
  refine thenQ_normal ?_
  refine AWp.seq ?_
  obtain ⟨r4, hr4, h⟩ := bind_ok h
  refine q1rr [] [(3, ⟨[.agg [q1aS [], q1aSW [], .b16 (q1w16 0), vL 6 eT73 (default : List UInt8 × Int × BitVec 16 × List (BitVec 16) × List (BitVec 16) × (f11z9)) [], q1aI [], vL 3 eSBLWWJ (default : List UInt8 × Bool × (f11z9)) []], q1aT51 [(((0 : Int), (2 : Int), (0 : Int), (0 : Int), (1 : Int), [], ([111, 107, 32, 49] : List UInt8)) : Y51)]], [], [], [], .tup [.i r4.1, .i r4.2.1, .i r4.2.2], [], [49], []⟩)] ⟨107, [(1, .ptr 1 0), (3, .ptr 3 0), (4, .i r1.2.2.2), (5, .i r2.1), (6, .i r2.2.1), (7, .i r2.2.2), (8, .own 38), (11, .i r3.2.2), (13, .i r4.2.1), (14, .i r4.2.2)], [(1, .cells 37 [.nils, .nils, .b16 (q1w16 0), .nils, .nils, .nils]), (3, .cells 60 (f11z7 r1)), (38, q1bT51_51 [(((([(((0 : Int), (4 : Int), (0 : Int), (0 : Int), (0 : Int), (f11z3), []) : Y51), (((0 : Int), (3 : Int), (0 : Int), (0 : Int), (0 : Int), (f11z4), []) : Y51)]).getD 0 q1dT51).1, (([(((0 : Int), (4 : Int), (0 : Int), (0 : Int), (0 : Int), (f11z3), []) : Y51), (((0 : Int), (3 : Int), (0 : Int), (0 : Int), (0 : Int), (f11z4), []) : Y51)]).getD 0 q1dT51).2.1, (([(((0 : Int), (4 : Int), (0 : Int), (0 : Int), (0 : Int), (f11z3), []) : Y51), (((0 : Int), (3 : Int), (0 : Int), (0 : Int), (0 : Int), (f11z4), []) : Y51)]).getD 0 q1dT51).2.2.1, (([(((0 : Int), (4 : Int), (0 : Int), (0 : Int), (0 : Int), (f11z3), []) : Y51), (((0 : Int), (3 : Int), (0 : Int), (0 : Int), (0 : Int), (f11z4), []) : Y51)]).getD 0 q1dT51).2.2.2.1, (([(((0 : Int), (4 : Int), (0 : Int), (0 : Int), (0 : Int), (f11z3), []) : Y51), (((0 : Int), (3 : Int), (0 : Int), (0 : Int), (0 : Int), (f11z4), []) : Y51)]).getD 0 q1dT51).2.2.2.2.1, (([(((0 : Int), (4 : Int), (0 : Int), (0 : Int), (0 : Int), (f11z3), []) : Y51), (((0 : Int), (3 : Int), (0 : Int), (0 : Int), (0 : Int), (f11z4), []) : Y51)]).getD 0 q1dT51).2.2.2.2.2.1, (([(((0 : Int), (4 : Int), (0 : Int), (0 : Int), (0 : Int), (f11z3), []) : Y51), (((0 : Int), (3 : Int), (0 : Int), (0 : Int), (0 : Int), (f11z4), []) : Y51)]).getD 0 q1dT51).2.2.2.2.2.2) : Y51), (((0 : Int), (3 : Int), (0 : Int), (0 : Int), (0 : Int), (f11z3), []) : Y51)])], [], 0⟩ (an1 (cpL (c := true) [(49, .rows 51 28 1 (lstF 28 [.i (0 : Int), .i (2 : Int), .i (0 : Int), .i (0 : Int), .i (1 : Int), .str [], .str ([111, 107, 32, 49] : List UInt8), .i (0 : Int), .i (0 : Int), .i (0 : Int), .i (0 : Int), .i (0 : Int), .str [], .i (0 : Int), .i (0 : Int), .i (0 : Int), .i (0 : Int), .i (0 : Int), .str [], .str [], .nils, .nils, .i (0 : Int), .str [], .nils, .nils, .nils, .nils]))] [49] [.agg [.nils, .nils, .b16 (q1w16 0), .nils, .nils, .nils], .own 49] (fun _ => (f13_ok _ _ _ _ _ _ _ _ hr4)) (fun _ => ⟨(.aggs ⟨.nilL, .nilL, .refl _, .nilL, .nilL, .nilL, trivial⟩), (VLe.of (RL.lstV (enc := eT51) [(((0 : Int), (2 : Int), (0 : Int), (0 : Int), (1 : Int), [], ([111, 107, 32, 49] : List UInt8)) : Y51)] rfl ⟨.refl _, .refl _, .refl _, .refl _, .refl _, .refl _, .refl _, VLe.opq rfl, VLe.opq rfl, VLe.opq rfl, VLe.opq rfl, VLe.opq rfl, VLe.opq rfl, VLe.opq rfl, VLe.opq rfl, VLe.opq rfl, VLe.opq rfl, VLe.opq rfl, VLe.opq rfl, VLe.opq rfl, VLe.opq rfl, VLe.opq rfl, VLe.opq rfl, VLe.opq rfl, VLe.opq rfl, VLe.opq rfl, VLe.opq rfl, VLe.opq rfl, trivial⟩ (fun _ => rfl))), trivial⟩) (.inr ⟨rfl, trivial⟩))) ?_
  refine thenQ_normal ?_
  refine AWp.seq ?_
  obtain ⟨r5, hr5, h⟩ := bind_ok h
  refine q1rr [] [(3, ⟨[.agg [q1aS [], q1aSW [], .b16 (q1w16 0), vL 6 eT73 (default : List UInt8 × Int × BitVec 16 × List (BitVec 16) × List (BitVec 16) × (f11z9)) [], q1aI [], vL 3 eSBLWWJ (default : List UInt8 × Bool × (f11z9)) []], q1aT51 [(((0 : Int), (3 : Int), (0 : Int), (1 : Int), (0 : Int), (f11z3), []) : Y51)]], [], [], [], .tup [.i r5.1, .i r5.2.1, .i r5.2.2], [], [57], []⟩)] ⟨107, [(3, .ptr 3 0), (4, .i r1.2.2.2), (5, .i r2.1), (6, .i r2.2.1), (7, .i r2.2.2), (8, .own 38), (11, .i r3.2.2), (13, .i r4.2.1), (14, .i r4.2.2), (16, .i r5.2.1), (17, .i r5.2.2)], [(3, .cells 60 (f11z7 r1)), (38, q1bT51_51 [(((([(((0 : Int), (4 : Int), (0 : Int), (0 : Int), (0 : Int), (f11z3), []) : Y51), (((0 : Int), (3 : Int), (0 : Int), (0 : Int), (0 : Int), (f11z4), []) : Y51)]).getD 0 q1dT51).1, (([(((0 : Int), (4 : Int), (0 : Int), (0 : Int), (0 : Int), (f11z3), []) : Y51), (((0 : Int), (3 : Int), (0 : Int), (0 : Int), (0 : Int), (f11z4), []) : Y51)]).getD 0 q1dT51).2.1, (([(((0 : Int), (4 : Int), (0 : Int), (0 : Int), (0 : Int), (f11z3), []) : Y51), (((0 : Int), (3 : Int), (0 : Int), (0 : Int), (0 : Int), (f11z4), []) : Y51)]).getD 0 q1dT51).2.2.1, (([(((0 : Int), (4 : Int), (0 : Int), (0 : Int), (0 : Int), (f11z3), []) : Y51), (((0 : Int), (3 : Int), (0 : Int), (0 : Int), (0 : Int), (f11z4), []) : Y51)]).getD 0 q1dT51).2.2.2.1, (([(((0 : Int), (4 : Int), (0 : Int), (0 : Int), (0 : Int), (f11z3), []) : Y51), (((0 : Int), (3 : Int), (0 : Int), (0 : Int), (0 : Int), (f11z4), []) : Y51)]).getD 0 q1dT51).2.2.2.2.1, (([(((0 : Int), (4 : Int), (0 : Int), (0 : Int), (0 : Int), (f11z3), []) : Y51), (((0 : Int), (3 : Int), (0 : Int), (0 : Int), (0 : Int), (f11z4), []) : Y51)]).getD 0 q1dT51).2.2.2.2.2.1, (([(((0 : Int), (4 : Int), (0 : Int), (0 : Int), (0 : Int), (f11z3), []) : Y51), (((0 : Int), (3 : Int), (0 : Int), (0 : Int), (0 : Int), (f11z4), []) : Y51)]).getD 0 q1dT51).2.2.2.2.2.2) : Y51), (((0 : Int), (3 : Int), (0 : Int), (0 : Int), (0 : Int), (f11z3), []) : Y51)])], [], 0⟩ (an1 (cpL (c := true) [(57, .rows 51 28 1 (lstF 28 [.i (0 : Int), .i (3 : Int), .i (0 : Int), .i (1 : Int), .i (0 : Int), .str (f11z3), .str [], .i (0 : Int), .i (0 : Int), .i (0 : Int), .i (0 : Int), .i (0 : Int), .str [], .i (0 : Int), .i (0 : Int), .i (0 : Int), .i (0 : Int), .i (0 : Int), .str [], .str [], .nils, .nils, .i (0 : Int), .str [], .nils, .nils, .nils, .nils]))] [57] [.agg [.nils, .nils, .b16 (q1w16 0), .nils, .nils, .nils], .own 57] (fun _ => (f13_ok _ _ _ _ _ _ _ _ hr5)) (fun _ => ⟨(.aggs ⟨.nilL, .nilL, .refl _, .nilL, .nilL, .nilL, trivial⟩), (VLe.of (RL.lstV (enc := eT51) [(((0 : Int), (3 : Int), (0 : Int), (1 : Int), (0 : Int), (f11z3), []) : Y51)] rfl ⟨.refl _, .refl _, .refl _, .refl _, .refl _, .refl _, .refl _, VLe.opq rfl, VLe.opq rfl, VLe.opq rfl, VLe.opq rfl, VLe.opq rfl, VLe.opq rfl, VLe.opq rfl, VLe.opq rfl, VLe.opq rfl, VLe.opq rfl, VLe.opq rfl, VLe.opq rfl, VLe.opq rfl, VLe.opq rfl, VLe.opq rfl, VLe.opq rfl, VLe.opq rfl, VLe.opq rfl, VLe.opq rfl, VLe.opq rfl, VLe.opq rfl, trivial⟩ (fun _ => rfl))), trivial⟩) (.inr ⟨rfl, trivial⟩))) ?_
  refine thenQ_normal ?_
  refine AWp.seq ?_
  by_cases hg9_39 : ((((((((((r1.2.2.2 == (0 : Int)) && ((r1.1 == (0 : Int)) && ((r1.2.1 == (0 : Int)) && ((r1.2.2.1 == (12 : Int)) && true)))) && (r2.2.2 == (0 : Int))) && (r2.1 == (1 : Int))) && (r2.2.1 == (1 : Int))) && (r3.2.2 == (13 : Int))) && (r4.2.2 == (0 : Int))) && (r4.2.1 == (3 : Int))) && (r5.2.2 == (0 : Int))) && (r5.2.1 == (2 : Int))) = true
  ·
    replace h := ite_t hg9_39 h
    obtain ⟨r6, hr6, h⟩ := bind_ok h
    obtain ⟨r7, hr7, h⟩ := bind_ok h
    have ob2 := idA ((f11z8 r1) = true)
    have ob3 := idA ((f11z8 r1) = true)
    have ob4 : true = true → (r1.2.2.2 == (0 : Int)) = true → (f11z8 r1) = true := fun _ h => beq_iff_eq.2 h
    have ob5 := idA (((f11z2 r1) == true) = true)
    have ob6 := bqA (f11z2 r1) true
    have ob7 := idA ((f11z10 r1 r2) = true)
    have ob8 : true = true → ((f11z2 r1) && (r2.2.2 == (0 : Int))) = true → (f11z10 r1 r2) = true := fun _ h => beq_iff_eq.2 h
    have ob9 := idA (((f11z0 r1 r2) == true) = true)
    have ob10 := bqA (f11z0 r1 r2) true
    have ob11 := idA (((f11z6 r1 r2) == true) = true)
    have ob12 := bqA (f11z6 r1 r2) true
    have ob13 := idA ((f11z11 r1 r2 r3) = true)
    have ob14 : true = true → ((f11z6 r1 r2) && (r3.2.2 == (13 : Int))) = true → (f11z11 r1 r2 r3) = true := fun _ h => beq_iff_eq.2 h
    have ob15 := idA (((f11z1 r1 r2 r3 r4) == true) = true)
    have ob16 := bqA (f11z1 r1 r2 r3 r4) true
    have ob17 := idA (((f11z5 r1 r2 r3 r4) == true) = true)
    have ob18 := bqA (f11z5 r1 r2 r3 r4) true
    have ob19 := idA ((((f11z5 r1 r2 r3 r4) && (r5.2.2 == (0 : Int))) == true) = true)
    have ob20 := bqA ((f11z5 r1 r2 r3 r4) && (r5.2.2 == (0 : Int))) true
    have ob21 := idA (true = true)
    have ob22 : true = true → true = true → true = true := fun _ h => h
    refine q1rr [] [(39, ⟨[], [], [], [], (.bool true), [], [0], []⟩), (41, ⟨[q1aT51 [(((([(((0 : Int), (4 : Int), (0 : Int), (0 : Int), (0 : Int), (f11z3), []) : Y51), (((0 : Int), (3 : Int), (0 : Int), (0 : Int), (0 : Int), (f11z4), []) : Y51)]).getD 0 q1dT51).1, (([(((0 : Int), (4 : Int), (0 : Int), (0 : Int), (0 : Int), (f11z3), []) : Y51), (((0 : Int), (3 : Int), (0 : Int), (0 : Int), (0 : Int), (f11z4), []) : Y51)]).getD 0 q1dT51).2.1, (([(((0 : Int), (4 : Int), (0 : Int), (0 : Int), (0 : Int), (f11z3), []) : Y51), (((0 : Int), (3 : Int), (0 : Int), (0 : Int), (0 : Int), (f11z4), []) : Y51)]).getD 0 q1dT51).2.2.1, (([(((0 : Int), (4 : Int), (0 : Int), (0 : Int), (0 : Int), (f11z3), []) : Y51), (((0 : Int), (3 : Int), (0 : Int), (0 : Int), (0 : Int), (f11z4), []) : Y51)]).getD 0 q1dT51).2.2.2.1, (([(((0 : Int), (4 : Int), (0 : Int), (0 : Int), (0 : Int), (f11z3), []) : Y51), (((0 : Int), (3 : Int), (0 : Int), (0 : Int), (0 : Int), (f11z4), []) : Y51)]).getD 0 q1dT51).2.2.2.2.1, (([(((0 : Int), (4 : Int), (0 : Int), (0 : Int), (0 : Int), (f11z3), []) : Y51), (((0 : Int), (3 : Int), (0 : Int), (0 : Int), (0 : Int), (f11z4), []) : Y51)]).getD 0 q1dT51).2.2.2.2.2.1, (([(((0 : Int), (4 : Int), (0 : Int), (0 : Int), (0 : Int), (f11z3), []) : Y51), (((0 : Int), (3 : Int), (0 : Int), (0 : Int), (0 : Int), (f11z4), []) : Y51)]).getD 0 q1dT51).2.2.2.2.2.2) : Y51), (((0 : Int), (3 : Int), (0 : Int), (0 : Int), (0 : Int), (f11z3), []) : Y51)]], [], [], [(6001, q1bS_9 r6)], .own 6001, [6001], [38], []⟩), (43, ⟨[q1aS r6, q1aS [(f11z3)]], [], [], [], .bool r7, [], [6001, 104], []⟩)] ⟨107, [(0, .bool r7)], [], [], 0⟩ (ac6 (an2 ob2 ob3) ob4 (an1 ob5) ob6 (an1 ob7) ob8 (ac6 (an1 ob9) ob10 (an1 ob11) ob12 (an1 ob13) ob14 (ac6 (an1 ob15) ob16 (an1 ob17) ob18 (an1 ob19) ob20 (an4 (show ((.bool (((f11z5 r1 r2 r3 r4) && (r5.2.2 == (0 : Int))) && (r5.2.1 == (2 : Int)))) : V) = (.bool true) from (congrArg (fun x => ((.bool x) : V)) hg9_39)) (And.intro (cpL (c := true) [(38, q1bT51_51 [(((([(((0 : Int), (4 : Int), (0 : Int), (0 : Int), (0 : Int), (f11z3), []) : Y51), (((0 : Int), (3 : Int), (0 : Int), (0 : Int), (0 : Int), (f11z4), []) : Y51)]).getD 0 q1dT51).1, (([(((0 : Int), (4 : Int), (0 : Int), (0 : Int), (0 : Int), (f11z3), []) : Y51), (((0 : Int), (3 : Int), (0 : Int), (0 : Int), (0 : Int), (f11z4), []) : Y51)]).getD 0 q1dT51).2.1, (([(((0 : Int), (4 : Int), (0 : Int), (0 : Int), (0 : Int), (f11z3), []) : Y51), (((0 : Int), (3 : Int), (0 : Int), (0 : Int), (0 : Int), (f11z4), []) : Y51)]).getD 0 q1dT51).2.2.1, (([(((0 : Int), (4 : Int), (0 : Int), (0 : Int), (0 : Int), (f11z3), []) : Y51), (((0 : Int), (3 : Int), (0 : Int), (0 : Int), (0 : Int), (f11z4), []) : Y51)]).getD 0 q1dT51).2.2.2.1, (([(((0 : Int), (4 : Int), (0 : Int), (0 : Int), (0 : Int), (f11z3), []) : Y51), (((0 : Int), (3 : Int), (0 : Int), (0 : Int), (0 : Int), (f11z4), []) : Y51)]).getD 0 q1dT51).2.2.2.2.1, (([(((0 : Int), (4 : Int), (0 : Int), (0 : Int), (0 : Int), (f11z3), []) : Y51), (((0 : Int), (3 : Int), (0 : Int), (0 : Int), (0 : Int), (f11z4), []) : Y51)]).getD 0 q1dT51).2.2.2.2.2.1, (([(((0 : Int), (4 : Int), (0 : Int), (0 : Int), (0 : Int), (f11z3), []) : Y51), (((0 : Int), (3 : Int), (0 : Int), (0 : Int), (0 : Int), (f11z4), []) : Y51)]).getD 0 q1dT51).2.2.2.2.2.2) : Y51), (((0 : Int), (3 : Int), (0 : Int), (0 : Int), (0 : Int), (f11z3), []) : Y51)])] [38] [.own 38] (fun _ => (Spec1.ren (swapN 3000 6001) (swapN_inv 3000 6001) rfl (f14_ok _ _ hr6))) (fun _ => ⟨.refl _, trivial⟩) (.inr ⟨rfl, ⟨(fun _ _ _ _ => eS_flat _ _), trivial⟩⟩)) (an1 ob21)) (cpL (c := true) [(6001, q1bS_9 r6), (104, .rows 9 1 1 (lstF 1 [.str (f11z3)]))] [6001, 104] [.own 6001, .own 104] (fun _ => (f15_ok _ _ _ hr7)) (fun _ => ⟨.refl _, (VLe.of (RL.lst (enc := eS) [(f11z3)] rfl rfl (fun _ => rfl))), trivial⟩) (.inr ⟨rfl, trivial⟩)) ob22)))) ?_
    refine thenQ_normal ?_
    have hret := Option.some.inj h
    subst hret
    refine AWp.le (Le.mk (s' := ⟨107, [(0, .bool r7)], [], [], 0⟩) rfl rfl ⟨.refl _, trivial⟩ trivial) ?_
    refine AWp.ret ?_
    exact bodyQ_ret _ rfl ⟨rfl, rfl⟩ rfl
  ·
    replace h := ite_f hg9_39 h
    have ob2 := idA ((f11z8 r1) = true)
    have ob3 := idA ((f11z8 r1) = true)
    have ob4 : true = true → (r1.2.2.2 == (0 : Int)) = true → (f11z8 r1) = true := fun _ h => beq_iff_eq.2 h
    have ob5 := idA (((f11z2 r1) == true) = true)
    have ob6 := bqA (f11z2 r1) true
    have ob7 := idA ((f11z10 r1 r2) = true)
    have ob8 : true = true → ((f11z2 r1) && (r2.2.2 == (0 : Int))) = true → (f11z10 r1 r2) = true := fun _ h => beq_iff_eq.2 h
    have ob9 := idA (((f11z0 r1 r2) == true) = true)
    have ob10 := bqA (f11z0 r1 r2) true
    have ob11 := idA (((f11z6 r1 r2) == true) = true)
    have ob12 := bqA (f11z6 r1 r2) true
    have ob13 := idA ((f11z11 r1 r2 r3) = true)
    have ob14 : true = true → ((f11z6 r1 r2) && (r3.2.2 == (13 : Int))) = true → (f11z11 r1 r2 r3) = true := fun _ h => beq_iff_eq.2 h
    have ob15 := idA (((f11z1 r1 r2 r3 r4) == true) = true)
    have ob16 := bqA (f11z1 r1 r2 r3 r4) true
    have ob17 := idA (((f11z5 r1 r2 r3 r4) == true) = true)
    have ob18 := bqA (f11z5 r1 r2 r3 r4) true
    have ob19 := idA ((((f11z5 r1 r2 r3 r4) && (r5.2.2 == (0 : Int))) == true) = true)
    have ob20 := bqA ((f11z5 r1 r2 r3 r4) && (r5.2.2 == (0 : Int))) true
    have ob21 := idA (false = true)
    have ob22 := idA (false = true)
    have ob23 := idA (false = true)
    have ob24 : true = true → false = true → false = true := fun _ h => h
    refine q1rr [] [(39, ⟨[], [], [], [], (.bool false), [], [0], []⟩), (41, ⟨[], [], [], [], .any, [], [], []⟩), (43, ⟨[], [], [], [], .bool false, [], [], []⟩)] ⟨107, [(0, .bool false)], [], [], 0⟩ (ac6 (an2 ob2 ob3) ob4 (an1 ob5) ob6 (an1 ob7) ob8 (ac6 (an1 ob9) ob10 (an1 ob11) ob12 (an1 ob13) ob14 (ac6 (an1 ob15) ob16 (an1 ob17) ob18 (an1 ob19) ob20 (an4 (show ((.bool (((f11z5 r1 r2 r3 r4) && (r5.2.2 == (0 : Int))) && (r5.2.1 == (2 : Int)))) : V) = (.bool false) from (congrArg (fun x => ((.bool x) : V)) (Bool.eq_false_iff.2 hg9_39))) (And.intro (show (callP Tryz.prog false 14 [] [] [] [] [] [.own 38] [] (.any) []) from ⟨nofun, nofun, .inl rfl⟩) (an1 ob21)) (And.intro (show (callP Tryz.prog false 15 [] [] [] [] [] [.any, .bool false] [] (.bool false) []) from ⟨nofun, nofun, .inl rfl⟩) (an2 ob22 ob23)) ob24)))) ?_
    refine thenQ_normal ?_
    have hret := Option.some.inj h
    subst hret
    refine AWp.le (Le.mk (s' := ⟨107, [(0, .bool false)], [], [], 0⟩) rfl rfl ⟨.refl _, trivial⟩ trivial) ?_
    refine AWp.ret ?_
    exact bodyQ_ret _ rfl ⟨rfl, rfl⟩ rfl
def f16_L0 (x1 : List Y51) (K1 : Int → Option Bool) : Nat → (Int × Nat) → Option Bool
  | 0, _ => none
  | k + 1, (i2, n3) =>
    if (decide ((n3 : Int) < (((x1).length : Nat) : Int))) then (
    chk ((n3 : Int) < (((x1).length : Nat) : Int)) <|
    chk ((n3 : Int) < (((x1).length : Nat) : Int)) <|
    chk (((n3 : Int) + (1 : Int)) ≤ 9223372036854775807) <|
    (f16_L0 x1 K1 k) ((IntKind.wrap .i64 ((IntKind.wrap .i64 (i2 + ((((x1.getD n3 (default : Y51)).2.2.2.2.2.1).length : Nat) : Int))) + ((((x1.getD n3 (default : Y51)).2.2.2.2.2.2).length : Nat) : Int))), (n3 + 1))
    ) else (
    K1 i2
    )
def f16 (x1 : List Y51) : Option Bool :=
  jn (fun (i4 : Int) =>
  some ((decide ((((x1).length : Nat) : Int) ≤ (60 : Int))) && (decide (i4 ≤ (20000 : Int))))
  ) fun (K1 : Int → Option Bool) =>
  f16_L0 x1 K1 FUEL ((0 : Int), 0)
set_option maxRecDepth 100000 in
theorem f16_ok  (x1 : List Y51) (r : Bool) (h : f16 x1 = some r)  : Spec1 Tryz.prog 16 [] [] [] [vL 28 eT51 (default : Y51) x1] (.bool r) [] := by
  unfold f16 at h
  refine Spec1.body 0 _ _ Tryz.func16 rfl Tryz.ntmps16 rfl rfl ?_
  refine q1rq [18, 25] [] ⟨33, [(0, q1aT51 x1)], [], [], 0⟩ trivial ?_
  refine q1rq [18, 25] [] ⟨33, [(0, q1aT51 x1), (3, .i (0 : Int))], [], [], 0⟩ trivial ?_
  obtain ⟨K1, hK1, h⟩ := jn_some h
  refine AWp.join (α := Int) (fun (i4 : Int) => ⟨33, [(0, q1aT51 x1), (3, .i i4)], [], [], 0⟩) (fun x => K1 x = some r) ?_ ?_
  ·
    refine q1rq [18, 25] [] ⟨33, [(0, q1aT51 x1), (3, .i (0 : Int)), (4, .i (0 : Int))], [], [], 0⟩ trivial ?_
    refine AWp.block ?_
    refine AWp.loopL (α := Nat × (Int × Nat)) (fun x => match x with | (_, i2, n3) => ⟨33, [(0, q1aT51 x1), (3, .i i2), (4, .i (n3 : Int))], [], [], 0⟩) (fun x => f16_L0 x1 K1 x.1 x.2 = some r) (fun x => x.1) (FUEL, (0 : Int), 0) (Le.mk (s' := ⟨33, [(0, q1aT51 x1), (3, .i (0 : Int)), (4, .i (0 : Int))], [], [], 0⟩) rfl rfl ⟨.refl _, .refl _, .refl _, trivial⟩ trivial) h ?_
    rintro ⟨k0, i2, n3⟩ h
    cases k0 with
    | zero => exact nomatch (show (none : Option Bool) = some r from h)
    | succ k0 =>
    obtain ⟨C0, hC0⟩ : ∃ C, C = f16_L0 x1 K1 k0 := ⟨_, rfl⟩
    replace h := (f16_L0.eq_2 ..).symm.trans h
    try rw [← hC0] at h
    refine AWp.seq ?_
    refine q1rq [18, 25] [] ⟨33, [(0, q1aT51 x1), (3, .i i2), (4, .i (n3 : Int)), (8, .bool (decide ((n3 : Int) < (lZ x1))))], [], [], 0⟩ trivial ?_
    refine AWp.cond (b := (decide ((n3 : Int) < (lZ x1)))) (by kernel_rfl) (fun hc1 => ?_) (fun hc1 => ?_)
    ·
      replace h := ite_tb hc1 h
      refine AWp.skip ?_
      refine thenQ_normal ?_
      refine AWp.seq ?_
      refine AWp.block ?_
      obtain ⟨ob0p, h⟩ := chk_some h
      have ob0 : 0 ≤ (n3 : Int) ∧ (n3 : Int) < (((x1).length : Nat) : Int) := ⟨by omega, ob0p⟩
      obtain ⟨ob1p, h⟩ := chk_some h
      have ob1 : 0 ≤ (n3 : Int) ∧ (n3 : Int) < (((x1).length : Nat) : Int) := ⟨by omega, ob1p⟩
      refine q1rr [18, 25] [] ⟨33, [(0, q1aT51 x1), (3, .i (IntKind.wrap .i64 ((IntKind.wrap .i64 (i2 + ((((x1.getD n3 q1dT51).2.2.2.2.2.1).length : Nat) : Int))) + ((((x1.getD n3 q1dT51).2.2.2.2.2.2).length : Nat) : Int)))), (4, .i (n3 : Int))], [], [], 0⟩ (an4 ob0 trivial ob1 trivial) ?_
      refine blockQ_normal ?_
      refine thenQ_normal ?_
      obtain ⟨ob2p, h⟩ := chk_some h
      have ob2 : -9223372036854775808 ≤ ((n3 : Int) + (1 : Int)) ∧ ((n3 : Int) + (1 : Int)) ≤ 9223372036854775807 := ⟨by omega, ob2p⟩
      refine q1rr [18, 25] [] ⟨33, [(0, q1aT51 x1), (3, .i (IntKind.wrap .i64 ((IntKind.wrap .i64 (i2 + ((((x1.getD n3 q1dT51).2.2.2.2.2.1).length : Nat) : Int))) + ((((x1.getD n3 q1dT51).2.2.2.2.2.2).length : Nat) : Int)))), (4, .i (((n3 + 1) : Nat) : Int))], [], [], 0⟩ (an1 ob2) ?_
      rw [hC0] at h
      exact loopQ_normal (_, (IntKind.wrap .i64 ((IntKind.wrap .i64 (i2 + ((((x1.getD n3 q1dT51).2.2.2.2.2.1).length : Nat) : Int))) + ((((x1.getD n3 q1dT51).2.2.2.2.2.2).length : Nat) : Int))), (n3 + 1)) (Le.mk rfl rfl ⟨.refl _, .refl _, .refl _, trivial⟩ trivial) h (Nat.lt_succ_self _)
    ·
      replace h := ite_fb hc1 h
      refine AWp.exit ?_
      refine thenQ_exit ?_
      refine thenQ_exit ?_
      refine blockQ_same ?_
      exact joinQ_normal (i2) (Le.mk rfl rfl ⟨.refl _, .refl _, trivial⟩ trivial) h
  ·
    rintro i4 h
    replace h := (congrFun hK1 _).symm.trans h
    refine AWp.seq ?_
    have ob3 := idA (((decide ((lZ x1) ≤ (60 : Int))) == true) = true)
    have ob4 := bqA (decide ((lZ x1) ≤ (60 : Int))) true
    refine q1rr [18, 25] [] ⟨33, [(2, .bool ((decide ((lZ x1) ≤ (60 : Int))) && (decide (i4 ≤ (20000 : Int)))))], [], [], 0⟩ (an2 (an1 ob3) ob4) ?_
    refine thenQ_normal ?_
    have hret := Option.some.inj h
    subst hret
    refine AWp.le (Le.mk (s' := ⟨33, [(2, .bool ((decide ((lZ x1) ≤ (60 : Int))) && (decide (i4 ≤ (20000 : Int)))))], [], [], 0⟩) rfl rfl ⟨.refl _, trivial⟩ trivial) ?_
    refine AWp.ret ?_
    exact bodyQ_ret _ rfl ⟨rfl, rfl⟩ rfl
def f25 (x1 : List Y51) : Option (List Y51) :=
  abc ((x1).length = 0) (
  some []
  ) (
  chk ((0 + (x1).length) * 368 ≤ 140737488355328) <|
  some ([] ++ x1)
  )
set_option maxRecDepth 100000 in
theorem f25_ok  (x1 : List Y51) (r : List Y51) (h : f25 x1 = some r)  : Spec1 Tryz.prog 25 [] [] [] [vL 28 eT51 (default : Y51) x1] (.own 3000) [(3000, bL 51 28 eT51 (default : Y51) r)] := by
  unfold f25 at h
  refine Spec1.body 0 _ _ Tryz.func25 rfl Tryz.ntmps25 rfl rfl ?_
  refine q1rq [] [] ⟨8, [(0, q1aT51 x1)], [], [], 0⟩ trivial ?_
  refine AWp.seq ?_
  refine q1rq [] [] ⟨8, [(0, q1aT51 x1), (4, .abool (fun b => b = true → (x1).length = 0))], [], [], 0⟩ trivial ?_
  obtain ⟨hA1, hB1⟩ := abc_some h
  refine AWp.condAb (fun b => b = true → (x1).length = 0) (by kernel_rfl) (fun hc1 => ?_) (fun hc1 => ?_)
  ·
    have h := hA1 (hc1 rfl)
    refine q1rq [] [] ⟨8, [(2, .nils)], [], [], 0⟩ trivial ?_
    refine AWp.le (Le.trans (Le.nilOwn 2 3000 51 28 (encF eT51 q1dT51 []) rfl rfl (Nat.le_of_ble_eq_true rfl)) (Le.mk (s' := ⟨8, [(2, .own 3000)], [(3000, q1bT51_51 [])], [], 0⟩) rfl rfl ⟨.refl _, trivial⟩ ⟨⟨_, rfl, .refl _⟩, trivial⟩)) ?_
    have hret := Option.some.inj h
    subst hret
    refine AWp.le (Le.mk (s' := ⟨8, [(2, .own 3000)], [(3000, q1bT51_51 [])], [], 0⟩) rfl rfl ⟨.refl _, trivial⟩ ⟨⟨_, rfl, .refl _⟩, trivial⟩) ?_
    refine AWp.ret ?_
    refine thenQ_ret ?_
    exact bodyQ_ret _ rfl ⟨rfl, rfl⟩ rfl
  ·
    have h := hB1
    refine AWp.skip ?_
    refine thenQ_normal ?_
    refine AWp.seq ?_
    obtain ⟨ob0, h⟩ := chk_some h
    refine q1rr [] [] ⟨8, [(2, .own 5)], [(5, .rows 51 28 (0 + (x1).length) (appF 0 (lstF 28 []) (encF eT51 q1dT51 x1)))], [], 0⟩ (an1 ob0) ?_
    refine thenQ_normal ?_
    refine AWp.le (Le.mk (s' := ⟨8, [(2, .own 5)], [(5, q1bT51_51 ([] ++ x1))], [], 0⟩) rfl rfl ⟨.refl _, trivial⟩ ⟨⟨_, rfl, (BLe.of (RL.app (RL.lstV (enc := eT51) [] rfl trivial (fun _ => rfl)) (RL.self _)))⟩, trivial⟩) ?_
    refine AWp.le (Le.trans (Le.ren (swapN 5 3000) (swapN_inv 5 3000) rfl) (Le.mk (s' := ⟨8, [(2, .own 3000)], [(3000, q1bT51_51 ([] ++ x1))], [], 0⟩) rfl rfl ⟨.refl _, trivial⟩ ⟨⟨_, rfl, .refl _⟩, trivial⟩)) ?_
    have hret := Option.some.inj h
    subst hret
    refine AWp.le (Le.mk (s' := ⟨8, [(2, .own 3000)], [(3000, q1bT51_51 ([] ++ x1))], [], 0⟩) rfl rfl ⟨.refl _, trivial⟩ ⟨⟨_, rfl, .refl _⟩, trivial⟩) ?_
    refine AWp.ret ?_
    exact bodyQ_ret _ rfl ⟨rfl, rfl⟩ rfl
def f27 (_x1 : Int) (x2 : Int) (_x3 : Int) (_x4 : Int) (_x5 : Int) (_x6 : List UInt8) (_x7 : List UInt8) : Option Bool :=
  some ((x2 != (4 : Int)) && (x2 != (3 : Int)))
set_option maxRecDepth 100000 in
theorem f27_ok  (x1 : Int) (x2 : Int) (x3 : Int) (x4 : Int) (x5 : Int) (x6 : List UInt8) (x7 : List UInt8) (r : Bool) (h : f27 x1 x2 x3 x4 x5 x6 x7 = some r)  : Spec1 Tryz.prog 27 [] [] [] [.agg [.int .i64 x1, .int .i64 x2, .int .i64 x3, .int .i64 x4, .int .i64 x5, .str x6, .str x7, .opq, .opq, .opq, .opq, .opq, .opq, .opq, .opq, .opq, .opq, .opq, .opq, .opq, .opq, .opq, .opq, .opq, .opq, .opq, .opq, .opq]] (.bool r) [] := by
  unfold f27 at h
  refine Spec1.body 0 _ _ Tryz.func27 rfl Tryz.ntmps27 rfl rfl ?_
  refine q1rq [] [] ⟨11, [(1, .ptr 1 0)], [(1, .cells 51 [.i x1, .i x2, .i x3, .i x4, .i x5, .str x6, .str x7, .opq, .opq, .opq, .opq, .opq, .opq, .opq, .opq, .opq, .opq, .opq, .opq, .opq, .opq, .opq, .opq, .opq, .opq, .opq, .opq, .opq])], [], 0⟩ trivial ?_
  refine AWp.seq ?_
  have ob0 := idA (((x2 != (4 : Int)) == true) = true)
  have ob1 := idA (((x2 != (4 : Int)) == true) = true)
  have ob2 := bqA (x2 != (4 : Int)) true
  refine q1rr [] [] ⟨11, [(2, .bool ((x2 != (4 : Int)) && (x2 != (3 : Int))))], [], [], 0⟩ (an3 (an1 ob0) (an1 ob1) ob2) ?_
  refine thenQ_normal ?_
  have hret := Option.some.inj h
  subst hret
  refine AWp.le (Le.mk (s' := ⟨11, [(2, .bool ((x2 != (4 : Int)) && (x2 != (3 : Int))))], [], [], 0⟩) rfl rfl ⟨.refl _, trivial⟩ trivial) ?_
  refine AWp.ret ?_
  exact bodyQ_ret _ rfl ⟨rfl, rfl⟩ rfl
def f53_L0 (x1 : List Y51) (K1 : Unit → Option Int) : Nat → Nat → Option Int
  | 0, _ => none
  | k + 1, n2 =>
    if (decide ((n2 : Int) < (((x1).length : Nat) : Int))) then (
    (f27 ((x1.getD n2 (default : Y51)).1) ((x1.getD n2 (default : Y51)).2.1) ((x1.getD n2 (default : Y51)).2.2.1) ((x1.getD n2 (default : Y51)).2.2.2.1) ((x1.getD n2 (default : Y51)).2.2.2.2.1) ((x1.getD n2 (default : Y51)).2.2.2.2.2.1) ((x1.getD n2 (default : Y51)).2.2.2.2.2.2)).bind fun (r3 : Bool) =>
    chk ((n2 : Int) < (((x1).length : Nat) : Int)) <|
    if r3 then (
    some (n2 : Int)
    ) else (
    chk (((n2 : Int) + (1 : Int)) ≤ 9223372036854775807) <|
    (f53_L0 x1 K1 k) (n2 + 1)
    )
    ) else (
    K1 ()
    )
def f53 (x1 : List Y51) : Option Int :=
  jn (fun (_ : Unit) =>
  some (-1 : Int)
  ) fun (K1 : Unit → Option Int) =>
  f53_L0 x1 K1 FUEL 0
set_option maxRecDepth 100000 in
theorem f53_ok  (x1 : List Y51) (r : Int) (h : f53 x1 = some r)  : Spec1 Tryz.prog 53 [] [] [] [vL 28 eT51 (default : Y51) x1, .fn (.func 27) []] (.int .i64 r) [] := by
  unfold f53 at h
  refine Spec1.body 0 _ _ Tryz.func53 rfl Tryz.ntmps53 rfl rfl ?_
  refine q1rq [] [] ⟨19, [(0, q1aT51 x1), (1, .fn (.func 27) [])], [], [], 0⟩ trivial ?_
  obtain ⟨K1, hK1, h⟩ := jn_some h
  refine AWp.join (α := Unit) (fun (x : Unit) => match x with | () => ⟨19, [], [], [], 0⟩) (fun x => K1 x = some r) ?_ ?_
  ·
    refine q1rq [] [] ⟨19, [(0, q1aT51 x1), (1, .fn (.func 27) []), (7, .i (lZ x1)), (8, .i (0 : Int))], [], [], 0⟩ trivial ?_
    refine AWp.block ?_
    refine AWp.loopL (α := Nat × Nat) (fun x => match x with | (_, n2) => ⟨19, [(0, q1aT51 x1), (1, .fn (.func 27) []), (7, .i (lZ x1)), (8, .i (n2 : Int))], [], [], 0⟩) (fun x => f53_L0 x1 K1 x.1 x.2 = some r) (fun x => x.1) (FUEL, 0) (Le.mk (s' := ⟨19, [(0, q1aT51 x1), (1, .fn (.func 27) []), (7, .i (lZ x1)), (8, .i (0 : Int))], [], [], 0⟩) rfl rfl ⟨.refl _, .refl _, .refl _, .refl _, trivial⟩ trivial) h ?_
    rintro ⟨k0, n2⟩ h
    cases k0 with
    | zero => exact nomatch (show (none : Option Int) = some r from h)
    | succ k0 =>
    obtain ⟨C0, hC0⟩ : ∃ C, C = f53_L0 x1 K1 k0 := ⟨_, rfl⟩
    replace h := (f53_L0.eq_2 ..).symm.trans h
    try rw [← hC0] at h
    refine q1rq [] [] ⟨19, [(0, q1aT51 x1), (1, .fn (.func 27) []), (7, .i (lZ x1)), (8, .i (n2 : Int)), (9, .bool (decide ((n2 : Int) < (lZ x1))))], [], [], 0⟩ trivial ?_
    refine AWp.seq ?_
    refine AWp.cond (b := (decide ((n2 : Int) < (lZ x1)))) (by kernel_rfl) (fun hc1 => ?_) (fun hc1 => ?_)
    ·
      replace h := ite_tb hc1 h
      refine AWp.skip ?_
      refine thenQ_normal ?_
      refine AWp.seq ?_
      refine AWp.block ?_
      refine q1rq [] [] ⟨19, [(0, q1aT51 x1), (1, .fn (.func 27) []), (5, .i (n2 : Int)), (7, .i (lZ x1)), (8, .i (n2 : Int))], [], [], 0⟩ trivial ?_
      refine AWp.seq ?_
      obtain ⟨r3, hr3, h⟩ := bind_ok h
      obtain ⟨ob0p, h⟩ := chk_some h
      have ob0 : 0 ≤ (n2 : Int) ∧ (n2 : Int) < (((x1).length : Nat) : Int) := ⟨by omega, ob0p⟩
      refine q1rr [] [(5, ⟨[.agg [.i (x1.getD n2 q1dT51).1, .i (x1.getD n2 q1dT51).2.1, .i (x1.getD n2 q1dT51).2.2.1, .i (x1.getD n2 q1dT51).2.2.2.1, .i (x1.getD n2 q1dT51).2.2.2.2.1, .str (x1.getD n2 q1dT51).2.2.2.2.2.1, .str (x1.getD n2 q1dT51).2.2.2.2.2.2, .opq, .opq, .opq, .opq, .opq, .opq, .opq, .opq, .opq, .opq, .opq, .opq, .opq, .opq, .opq, .opq, .opq, .opq, .opq, .opq, .opq]], [], [], [], .bool r3, [], [], []⟩)] ⟨19, [(0, q1aT51 x1), (1, .fn (.func 27) []), (5, .i (n2 : Int)), (7, .i (lZ x1)), (8, .i (n2 : Int)), (16, .bool r3)], [], [], 0⟩ (an2 ob0 (cpT (f27_ok _ _ _ _ _ _ _ _ hr3))) ?_
      refine thenQ_normal ?_
      refine AWp.cond (b := r3) (by kernel_rfl) (fun hc2 => ?_) (fun hc2 => ?_)
      ·
        replace h := ite_tb hc2 h
        refine q1rq [] [] ⟨19, [(4, .i (n2 : Int))], [], [], 0⟩ trivial ?_
        have hret := Option.some.inj h
        subst hret
        refine AWp.le (Le.mk (s' := ⟨19, [(4, .i (n2 : Int))], [], [], 0⟩) rfl rfl ⟨.refl _, trivial⟩ trivial) ?_
        refine AWp.ret ?_
        refine blockQ_ret ?_
        refine thenQ_ret ?_
        refine thenQ_ret ?_
        refine blockQ_ret ?_
        refine joinQ_ret ?_
        exact bodyQ_ret _ rfl ⟨rfl, rfl⟩ rfl
      ·
        replace h := ite_fb hc2 h
        refine AWp.skip ?_
        refine blockQ_normal ?_
        refine thenQ_normal ?_
        obtain ⟨ob1p, h⟩ := chk_some h
        have ob1 : -9223372036854775808 ≤ ((n2 : Int) + (1 : Int)) ∧ ((n2 : Int) + (1 : Int)) ≤ 9223372036854775807 := ⟨by omega, ob1p⟩
        refine q1rr [] [] ⟨19, [(0, q1aT51 x1), (1, .fn (.func 27) []), (7, .i (lZ x1)), (8, .i (((n2 + 1) : Nat) : Int))], [], [], 0⟩ (an1 ob1) ?_
        rw [hC0] at h
        exact loopQ_normal (_, (n2 + 1)) (Le.mk rfl rfl ⟨.refl _, .refl _, .refl _, .refl _, trivial⟩ trivial) h (Nat.lt_succ_self _)
    ·
      replace h := ite_fb hc1 h
      refine AWp.exit ?_
      refine thenQ_exit ?_
      refine thenQ_exit ?_
      refine blockQ_same ?_
      exact joinQ_normal () (Le.mk rfl rfl trivial trivial) h
  ·
    rintro ⟨⟩ h
    replace h := (congrFun hK1 _).symm.trans h
    refine q1rq [] [] ⟨19, [(4, .i (-1 : Int))], [], [], 0⟩ trivial ?_
    have hret := Option.some.inj h
    subst hret
    refine AWp.le (Le.mk (s' := ⟨19, [(4, .i (-1 : Int))], [], [], 0⟩) rfl rfl ⟨.refl _, trivial⟩ trivial) ?_
    refine AWp.ret ?_
    exact bodyQ_ret _ rfl ⟨rfl, rfl⟩ rfl
def f24_L0 (K1 : (Int × List Y51) → Option (List Y51)) : Nat → (Int × Int × List Y51) → Option (List Y51)
  | 0, _ => none
  | k + 1, (i3, i4, l5) =>
    if (decide (i4 < (((l5).length : Nat) : Int))) then (
    jn (fun ((i7, l8) : Int × List Y51) =>
    chk (-9223372036854775808 ≤ (i4 + (1 : Int)) ∧ (i4 + (1 : Int)) ≤ 9223372036854775807) <|
    (f24_L0 K1 k) (i7, (i4 + (1 : Int)), l8)
    ) fun (K2 : (Int × List Y51) → Option (List Y51)) =>
    chk (0 ≤ i4 ∧ i4 < (((l5).length : Nat) : Int)) <|
    chk (((i4).toNat) < (l5).length) <|
    (f27 ((l5.getD ((i4).toNat) (default : Y51)).1) ((l5.getD ((i4).toNat) (default : Y51)).2.1) ((l5.getD ((i4).toNat) (default : Y51)).2.2.1) ((l5.getD ((i4).toNat) (default : Y51)).2.2.2.1) ((l5.getD ((i4).toNat) (default : Y51)).2.2.2.2.1) ((l5.getD ((i4).toNat) (default : Y51)).2.2.2.2.2.1) ((l5.getD ((i4).toNat) (default : Y51)).2.2.2.2.2.2)).bind fun (r6 : Bool) =>
    if (!r6) then (
    chk (0 ≤ i3 ∧ i3 < (((l5).length : Nat) : Int)) <|
    chk (((i3).toNat) < (l5).length) <|
    chk (-9223372036854775808 ≤ (i3 + (1 : Int)) ∧ (i3 + (1 : Int)) ≤ 9223372036854775807) <|
    K2 ((i3 + (1 : Int)), (l5.set ((i3).toNat) (((l5.getD ((i4).toNat) (default : Y51)).1, (l5.getD ((i4).toNat) (default : Y51)).2.1, (l5.getD ((i4).toNat) (default : Y51)).2.2.1, (l5.getD ((i4).toNat) (default : Y51)).2.2.2.1, (l5.getD ((i4).toNat) (default : Y51)).2.2.2.2.1, (l5.getD ((i4).toNat) (default : Y51)).2.2.2.2.2.1, (l5.getD ((i4).toNat) (default : Y51)).2.2.2.2.2.2) : Y51)))
    ) else (
    K2 (i3, l5)
    )
    ) else (
    K1 (i3, l5)
    )
def f24 (x1 : List Y51) : Option (List Y51) :=
  (f53 x1).bind fun (r2 : Int) =>
  if (r2 == (-1 : Int)) then (
  some x1
  ) else (
  jn (fun ((i9, l10) : Int × List Y51) =>
  chk (0 ≤ i9 ∧ i9 ≤ (((l10).length : Nat) : Int)) <|
  chk (((i9).toNat) + ((l10).length - (i9).toNat) ≤ (l10).length ∧ 0 < ((l10).length - (i9).toNat)) <|
  chk (0 ≤ i9 ∧ i9 ≤ ((((l10.take ((i9).toNat) ++ List.replicate ((l10).length - (i9).toNat) (((0 : Int), (0 : Int), (0 : Int), (0 : Int), (0 : Int), [], []) : Y51))).length : Nat) : Int)) <|
  chk (((i9).toNat) ≤ (l10.take ((i9).toNat) ++ List.replicate ((l10).length - (i9).toNat) (((0 : Int), (0 : Int), (0 : Int), (0 : Int), (0 : Int), [], []) : Y51)).length) <|
  some ((l10.take ((i9).toNat) ++ List.replicate ((l10).length - (i9).toNat) (((0 : Int), (0 : Int), (0 : Int), (0 : Int), (0 : Int), [], []) : Y51)).take ((i9).toNat))
  ) fun (K1 : (Int × List Y51) → Option (List Y51)) =>
  chk (-9223372036854775808 ≤ (r2 + (1 : Int)) ∧ (r2 + (1 : Int)) ≤ 9223372036854775807) <|
  f24_L0 K1 FUEL (r2, (r2 + (1 : Int)), x1)
  )
set_option maxRecDepth 100000 in
theorem f24_ok  (x1 : List Y51) (r : List Y51) (h : f24 x1 = some r)  : Spec1 Tryz.prog 24 [] [] [(2000, bL 51 28 eT51 (default : Y51) x1)] [.own 2000, .fn (.func 27) []] (.own 2000) [(2000, bL 51 28 eT51 (default : Y51) r)] := by
  unfold f24 at h
  refine Spec1.body 0 _ _ Tryz.func24 rfl Tryz.ntmps24 rfl rfl ?_
  refine q1rq [] [] ⟨42, [(0, .own 2000), (1, .fn (.func 27) [])], [(2000, q1bT51_51 x1)], [], 0⟩ trivial ?_
  refine AWp.seq ?_
  obtain ⟨r2, hr2, h⟩ := bind_ok h
  refine q1rr [] [(2, ⟨[q1aT51 x1, .fn (.func 27) []], [], [], [], .i r2, [], [2000], []⟩)] ⟨42, [(0, .own 2000), (1, .fn (.func 27) []), (5, .i r2)], [(2000, q1bT51_51 x1)], [], 0⟩ (an1 (cpL (c := true) [(2000, q1bT51_51 x1)] [2000] [.own 2000, .fn (.func 27) []] (fun _ => (f53_ok _ _ hr2)) (fun _ => ⟨.refl _, .refl _, trivial⟩) (.inr ⟨rfl, trivial⟩))) ?_
  refine thenQ_normal ?_
  refine AWp.seq ?_
  refine q1rq [] [] ⟨42, [(0, .own 2000), (1, .fn (.func 27) []), (5, .i r2), (12, .bool (r2 == (-1 : Int)))], [(2000, q1bT51_51 x1)], [], 0⟩ trivial ?_
  refine AWp.cond (b := (r2 == (-1 : Int))) (by kernel_rfl) (fun hc1 => ?_) (fun hc1 => ?_)
  ·
    replace h := ite_tb hc1 h
    refine q1rq [] [] ⟨42, [(4, .own 2000)], [(2000, q1bT51_51 x1)], [], 0⟩ trivial ?_
    have hret := Option.some.inj h
    subst hret
    refine AWp.le (Le.mk (s' := ⟨42, [(4, .own 2000)], [(2000, q1bT51_51 x1)], [], 0⟩) rfl rfl ⟨.refl _, trivial⟩ ⟨⟨_, rfl, .refl _⟩, trivial⟩) ?_
    refine AWp.ret ?_
    refine thenQ_ret ?_
    exact bodyQ_ret _ rfl ⟨rfl, rfl⟩ rfl
  ·
    replace h := ite_fb hc1 h
    refine AWp.skip ?_
    refine thenQ_normal ?_
    obtain ⟨K1, hK1, h⟩ := jn_some h
    refine AWp.join (α := Int × List Y51) (fun (x : Int × List Y51) => match x with | (i9, l10) => ⟨42, [(0, .own 2000), (5, .i i9)], [(2000, q1bT51_51 l10)], [], 0⟩) (fun x => K1 x = some r) ?_ ?_
    ·
      refine AWp.seq ?_
      obtain ⟨ob0, h⟩ := chk_some h
      refine q1rr [] [] ⟨42, [(0, .own 2000), (1, .fn (.func 27) []), (5, .i r2), (6, .i (r2 + (1 : Int)))], [(2000, q1bT51_51 x1)], [], 0⟩ (an1 ob0) ?_
      refine thenQ_normal ?_
      refine AWp.block ?_
      refine AWp.loopL (α := Nat × (Int × Int × List Y51)) (fun x => match x with | (_, i3, i4, l5) => ⟨42, [(0, .own 2000), (1, .fn (.func 27) []), (5, .i i3), (6, .i i4)], [(2000, q1bT51_51 l5)], [], 0⟩) (fun x => f24_L0 K1 x.1 x.2 = some r) (fun x => x.1) (FUEL, r2, (r2 + (1 : Int)), x1) (Le.mk (s' := ⟨42, [(0, .own 2000), (1, .fn (.func 27) []), (5, .i r2), (6, .i (r2 + (1 : Int)))], [(2000, q1bT51_51 x1)], [], 0⟩) rfl rfl ⟨.refl _, .refl _, .refl _, .refl _, trivial⟩ ⟨⟨_, rfl, .refl _⟩, trivial⟩) h ?_
      rintro ⟨k0, i3, i4, l5⟩ h
      cases k0 with
      | zero => exact nomatch (show (none : Option (List Y51)) = some r from h)
      | succ k0 =>
      obtain ⟨C0, hC0⟩ : ∃ C, C = f24_L0 K1 k0 := ⟨_, rfl⟩
      replace h := (f24_L0.eq_2 ..).symm.trans h
      try rw [← hC0] at h
      refine AWp.seq ?_
      refine q1rq [] [] ⟨42, [(0, .own 2000), (1, .fn (.func 27) []), (5, .i i3), (6, .i i4), (19, .bool (decide (i4 < (lZ l5))))], [(2000, q1bT51_51 l5)], [], 0⟩ trivial ?_
      refine AWp.cond (b := (decide (i4 < (lZ l5)))) (by kernel_rfl) (fun hc2 => ?_) (fun hc2 => ?_)
      ·
        replace h := ite_tb hc2 h
        refine AWp.skip ?_
        refine thenQ_normal ?_
        obtain ⟨K2, hK2, h⟩ := jn_some h
        refine AWp.join (α := Int × List Y51) (fun (x : Int × List Y51) => match x with | (i7, l8) => ⟨42, [(0, .own 2000), (1, .fn (.func 27) []), (5, .i i7), (6, .i i4)], [(2000, q1bT51_51 l8)], [], 0⟩) (fun x => K2 x = some r) ?_ ?_
        ·
          refine AWp.block ?_
          refine AWp.seq ?_
          obtain ⟨ob1, ob2, h⟩ := ck2 h
          refine q1rr [] [] ⟨42, [(0, .own 2000), (1, .fn (.func 27) []), (5, .i i3), (6, .i i4), (7, .ptr 7 0)], [(7, .cells 51 [.i (l5.getD ((i4).toNat) q1dT51).1, .i (l5.getD ((i4).toNat) q1dT51).2.1, .i (l5.getD ((i4).toNat) q1dT51).2.2.1, .i (l5.getD ((i4).toNat) q1dT51).2.2.2.1, .i (l5.getD ((i4).toNat) q1dT51).2.2.2.2.1, .str (l5.getD ((i4).toNat) q1dT51).2.2.2.2.2.1, .str (l5.getD ((i4).toNat) q1dT51).2.2.2.2.2.2, .opq, .opq, .opq, .opq, .opq, .opq, .opq, .opq, .opq, .opq, .opq, .opq, .opq, .opq, .opq, .opq, .opq, .opq, .opq, .opq, .opq]), (2000, q1bT51_51 l5)], [], 0⟩ (an3 ob1 ob2 trivial) ?_
          refine thenQ_normal ?_
          refine AWp.seq ?_
          obtain ⟨r6, hr6, h⟩ := bind_ok h
          refine q1rr [] [(2, ⟨[.agg [.i (l5.getD ((i4).toNat) q1dT51).1, .i (l5.getD ((i4).toNat) q1dT51).2.1, .i (l5.getD ((i4).toNat) q1dT51).2.2.1, .i (l5.getD ((i4).toNat) q1dT51).2.2.2.1, .i (l5.getD ((i4).toNat) q1dT51).2.2.2.2.1, .str (l5.getD ((i4).toNat) q1dT51).2.2.2.2.2.1, .str (l5.getD ((i4).toNat) q1dT51).2.2.2.2.2.2, .opq, .opq, .opq, .opq, .opq, .opq, .opq, .opq, .opq, .opq, .opq, .opq, .opq, .opq, .opq, .opq, .opq, .opq, .opq, .opq, .opq]], [], [], [], .bool r6, [], [], []⟩)] ⟨42, [(0, .own 2000), (1, .fn (.func 27) []), (5, .i i3), (6, .i i4), (7, .ptr 7 0), (29, .bool (!r6))], [(7, .cells 51 [.i (l5.getD ((i4).toNat) q1dT51).1, .i (l5.getD ((i4).toNat) q1dT51).2.1, .i (l5.getD ((i4).toNat) q1dT51).2.2.1, .i (l5.getD ((i4).toNat) q1dT51).2.2.2.1, .i (l5.getD ((i4).toNat) q1dT51).2.2.2.2.1, .str (l5.getD ((i4).toNat) q1dT51).2.2.2.2.2.1, .str (l5.getD ((i4).toNat) q1dT51).2.2.2.2.2.2, .opq, .opq, .opq, .opq, .opq, .opq, .opq, .opq, .opq, .opq, .opq, .opq, .opq, .opq, .opq, .opq, .opq, .opq, .opq, .opq, .opq]), (2000, q1bT51_51 l5)], [], 0⟩ (an1 (cpT (f27_ok _ _ _ _ _ _ _ _ hr6))) ?_
          refine thenQ_normal ?_
          refine AWp.cond (b := (!r6)) (by kernel_rfl) (fun hc3 => ?_) (fun hc3 => ?_)
          ·
            replace h := ite_tb hc3 h
            refine AWp.seq ?_
            obtain ⟨ob3, ob4, h⟩ := ck2 h
            refine q1rr [] [] ⟨42, [(0, .own 2000), (1, .fn (.func 27) []), (5, .i i3), (6, .i i4)], [(2000, .rows 51 28 (l5).length (updF (encF eT51 q1dT51 l5) ((i3).toNat) 0 [.i (l5.getD ((i4).toNat) q1dT51).1, .i (l5.getD ((i4).toNat) q1dT51).2.1, .i (l5.getD ((i4).toNat) q1dT51).2.2.1, .i (l5.getD ((i4).toNat) q1dT51).2.2.2.1, .i (l5.getD ((i4).toNat) q1dT51).2.2.2.2.1, .str (l5.getD ((i4).toNat) q1dT51).2.2.2.2.2.1, .str (l5.getD ((i4).toNat) q1dT51).2.2.2.2.2.2, .opq, .opq, .opq, .opq, .opq, .opq, .opq, .opq, .opq, .opq, .opq, .opq, .opq, .opq, .opq, .opq, .opq, .opq, .opq, .opq, .opq]))], [], 0⟩ (an2 ob3 ob4) ?_
            refine thenQ_normal ?_
            refine AWp.le (Le.mk (s' := ⟨42, [(0, .own 2000), (1, .fn (.func 27) []), (5, .i i3), (6, .i i4)], [(2000, q1bT51_51 (l5.set ((i3).toNat) (((l5.getD ((i4).toNat) q1dT51).1, (l5.getD ((i4).toNat) q1dT51).2.1, (l5.getD ((i4).toNat) q1dT51).2.2.1, (l5.getD ((i4).toNat) q1dT51).2.2.2.1, (l5.getD ((i4).toNat) q1dT51).2.2.2.2.1, (l5.getD ((i4).toNat) q1dT51).2.2.2.2.2.1, (l5.getD ((i4).toNat) q1dT51).2.2.2.2.2.2) : Y51)))], [], 0⟩) rfl rfl ⟨.refl _, .refl _, .refl _, .refl _, trivial⟩ ⟨⟨_, rfl, (BLe.of (RL.setW (((l5.getD ((i4).toNat) q1dT51).1, (l5.getD ((i4).toNat) q1dT51).2.1, (l5.getD ((i4).toNat) q1dT51).2.2.1, (l5.getD ((i4).toNat) q1dT51).2.2.2.1, (l5.getD ((i4).toNat) q1dT51).2.2.2.2.1, (l5.getD ((i4).toNat) q1dT51).2.2.2.2.2.1, (l5.getD ((i4).toNat) q1dT51).2.2.2.2.2.2) : Y51) (RL.self _) rfl ⟨.refl _, .refl _, .refl _, .refl _, .refl _, .refl _, .refl _, .refl _, .refl _, .refl _, .refl _, .refl _, .refl _, .refl _, .refl _, .refl _, .refl _, .refl _, .refl _, .refl _, .refl _, .refl _, .refl _, .refl _, .refl _, .refl _, .refl _, .refl _, trivial⟩))⟩, trivial⟩) ?_
            obtain ⟨ob5, h⟩ := chk_some h
            refine q1rr [] [] ⟨42, [(0, .own 2000), (1, .fn (.func 27) []), (5, .i (i3 + (1 : Int))), (6, .i i4)], [(2000, q1bT51_51 (l5.set ((i3).toNat) (((l5.getD ((i4).toNat) q1dT51).1, (l5.getD ((i4).toNat) q1dT51).2.1, (l5.getD ((i4).toNat) q1dT51).2.2.1, (l5.getD ((i4).toNat) q1dT51).2.2.2.1, (l5.getD ((i4).toNat) q1dT51).2.2.2.2.1, (l5.getD ((i4).toNat) q1dT51).2.2.2.2.2.1, (l5.getD ((i4).toNat) q1dT51).2.2.2.2.2.2) : Y51)))], [], 0⟩ (an1 ob5) ?_
            refine blockQ_normal ?_
            exact joinQ_normal ((i3 + (1 : Int)), (l5.set ((i3).toNat) (((l5.getD ((i4).toNat) q1dT51).1, (l5.getD ((i4).toNat) q1dT51).2.1, (l5.getD ((i4).toNat) q1dT51).2.2.1, (l5.getD ((i4).toNat) q1dT51).2.2.2.1, (l5.getD ((i4).toNat) q1dT51).2.2.2.2.1, (l5.getD ((i4).toNat) q1dT51).2.2.2.2.2.1, (l5.getD ((i4).toNat) q1dT51).2.2.2.2.2.2) : Y51))) (Le.mk rfl rfl ⟨.refl _, .refl _, .refl _, .refl _, trivial⟩ ⟨⟨_, rfl, .refl _⟩, trivial⟩) h
          ·
            replace h := ite_fb hc3 h
            refine AWp.skip ?_
            refine blockQ_normal ?_
            exact joinQ_normal (i3, l5) (Le.mk rfl rfl ⟨.refl _, .refl _, .refl _, .refl _, trivial⟩ ⟨⟨_, rfl, .refl _⟩, trivial⟩) h
        ·
          rintro ⟨i7, l8⟩ h
          replace h := (congrFun hK2 _).symm.trans h
          obtain ⟨ob6, h⟩ := chk_some h
          refine q1rr [] [] ⟨42, [(0, .own 2000), (1, .fn (.func 27) []), (5, .i i7), (6, .i (i4 + (1 : Int)))], [(2000, q1bT51_51 l8)], [], 0⟩ (an1 ob6) ?_
          rw [hC0] at h
          exact loopQ_normal (_, i7, (i4 + (1 : Int)), l8) (Le.mk rfl rfl ⟨.refl _, .refl _, .refl _, .refl _, trivial⟩ ⟨⟨_, rfl, .refl _⟩, trivial⟩) h (Nat.lt_succ_self _)
      ·
        replace h := ite_fb hc2 h
        refine AWp.exit ?_
        refine thenQ_exit ?_
        refine thenQ_exit ?_
        refine blockQ_same ?_
        exact joinQ_normal (i3, l5) (Le.mk rfl rfl ⟨.refl _, .refl _, trivial⟩ ⟨⟨_, rfl, .refl _⟩, trivial⟩) h
    ·
      rintro ⟨i9, l10⟩ h
      replace h := (congrFun hK1 _).symm.trans h
      refine AWp.seq ?_
      obtain ⟨ob7, ob8, h⟩ := ck2 h
      refine q1rr [] [] ⟨42, [(0, .own 2000), (5, .i i9)], [(2000, .rows 51 28 (l10).length (clrF (encF eT51 q1dT51 l10) ((i9).toNat) ((l10).length - (i9).toNat) [.i (0 : Int), .i (0 : Int), .i (0 : Int), .i (0 : Int), .i (0 : Int), .str [], .str [], .i (0 : Int), .i (0 : Int), .i (0 : Int), .i (0 : Int), .i (0 : Int), .str [], .i (0 : Int), .i (0 : Int), .i (0 : Int), .i (0 : Int), .i (0 : Int), .str [], .str [], .nils, .nils, .i (0 : Int), .str [], .nils, .nils, .nils, .nils]))], [], 0⟩ (an2 ob7 ob8) ?_
      refine thenQ_normal ?_
      refine AWp.le (Le.mk (s' := ⟨42, [(0, .own 2000), (5, .i i9)], [(2000, q1bT51_51 (l10.take ((i9).toNat) ++ List.replicate ((l10).length - (i9).toNat) (((0 : Int), (0 : Int), (0 : Int), (0 : Int), (0 : Int), [], []) : Y51)))], [], 0⟩) rfl rfl ⟨.refl _, .refl _, trivial⟩ ⟨⟨_, rfl, (BLe.of (RL.clrV (((0 : Int), (0 : Int), (0 : Int), (0 : Int), (0 : Int), [], []) : Y51) (RL.self _) (by first | omega | (simp only [List.length_append, List.length_cons, List.length_nil, List.length_take, List.length_drop] at *; omega) | (simp; done) | (simp_all; done) | (simp_all; omega) | rfl) ⟨.refl _, .refl _, .refl _, .refl _, .refl _, .refl _, .refl _, VLe.opq rfl, VLe.opq rfl, VLe.opq rfl, VLe.opq rfl, VLe.opq rfl, VLe.opq rfl, VLe.opq rfl, VLe.opq rfl, VLe.opq rfl, VLe.opq rfl, VLe.opq rfl, VLe.opq rfl, VLe.opq rfl, VLe.opq rfl, VLe.opq rfl, VLe.opq rfl, VLe.opq rfl, VLe.opq rfl, VLe.opq rfl, VLe.opq rfl, VLe.opq rfl, trivial⟩))⟩, trivial⟩) ?_
      refine AWp.seq ?_
      obtain ⟨ob9, h⟩ := chk_some h
      refine q1rr [] [] ⟨42, [(4, .osl 2000 28 0 ((i9).toNat))], [(2000, q1bT51_51 (l10.take ((i9).toNat) ++ List.replicate ((l10).length - (i9).toNat) (((0 : Int), (0 : Int), (0 : Int), (0 : Int), (0 : Int), [], []) : Y51)))], [], 0⟩ (an1 ob9) ?_
      refine thenQ_normal ?_
      obtain ⟨hk4, h⟩ := chk_some h
      refine AWp.le (Le.trans (Le.cutOwn 4 2000 ((i9).toNat) hk4 rfl rfl rfl) (Le.mk (s' := ⟨42, [(4, .own 2000)], [(2000, q1bT51_51 ((l10.take ((i9).toNat) ++ List.replicate ((l10).length - (i9).toNat) (((0 : Int), (0 : Int), (0 : Int), (0 : Int), (0 : Int), [], []) : Y51)).take ((i9).toNat)))], [], 0⟩) rfl rfl ⟨.refl _, trivial⟩ ⟨⟨_, rfl, (BLe.of (RL.take (RL.self _) hk4))⟩, trivial⟩)) ?_
      have hret := Option.some.inj h
      subst hret
      refine AWp.le (Le.mk (s' := ⟨42, [(4, .own 2000)], [(2000, q1bT51_51 ((l10.take ((i9).toNat) ++ List.replicate ((l10).length - (i9).toNat) (((0 : Int), (0 : Int), (0 : Int), (0 : Int), (0 : Int), [], []) : Y51)).take ((i9).toNat)))], [], 0⟩) rfl rfl ⟨.refl _, trivial⟩ ⟨⟨_, rfl, .refl _⟩, trivial⟩) ?_
      refine AWp.ret ?_
      exact bodyQ_ret _ rfl ⟨rfl, rfl⟩ rfl
abbrev f8z0 (r7 : Int × Int × Int × Int) (r8 : Int × Int × Int × Int) := ((r7.1 == r8.1) && ((r7.2.1 == r8.2.1) && ((r7.2.2.1 == r8.2.2.1) && true)))
def f8 (x1 : List Y51) : Option Bool :=
  (f11 ).bind fun (r2 : Bool) =>
  optc ((!r2) == false) (f16 x1) fun (r3 : Bool) =>
  if ((!r2) || (!r3)) then (
  (f11 ).bind fun (r4 : Bool) =>
  some r4
  ) else (
  (f25 x1).bind fun (r5 : List Y51) =>
  (f24 r5).bind fun (r6 : List Y51) =>
  (f22 x1).bind fun (r7 : Int × Int × Int × Int) =>
  (f22 r6).bind fun (r8 : Int × Int × Int × Int) =>
  if (((r7.1 == r8.1) && ((r7.2.1 == r8.2.1) && ((r7.2.2.1 == r8.2.2.1) && true))) && (r7.2.2.2 == r8.2.2.2)) = true then (
  (f14 x1).bind fun (r9 : List (List UInt8)) =>
  (f14 r6).bind fun (r10 : List (List UInt8)) =>
  (f15 r9 r10).bind fun (r11 : Bool) =>
  some r11
  ) else (
  some false
  )
  )
set_option maxRecDepth 100000 in
theorem f8_ok  (x1 : List Y51) (r : Bool) (h : f8 x1 = some r)  : Spec1 Tryz.prog 8 [] [] [] [vL 28 eT51 (default : Y51) x1] (.bool r) [] := by
  unfold f8 at h
  refine Spec1.body 0 _ _ Tryz.func8 rfl Tryz.ntmps8 rfl rfl ?_
  refine q1rq [] [] ⟨44, [(0, q1aT51 x1)], [], [], 0⟩ trivial ?_
  refine AWp.seq ?_
  refine AWp.seq ?_
  obtain ⟨r2, hr2, h⟩ := bind_ok h
  obtain ⟨r3, hr3, h⟩ := optc_some h
  have ob0 := idA (((!r2) == false) = true)
  have ob1 := idA (((!r2) == false) = true)
  have ob2 := bqA (!r2) false
  refine q1rr [] [(0, ⟨[], [], [], [], .bool r2, [], [], []⟩), (4, ⟨[q1aT51 x1], [], [], [], .bool r3, [], [], []⟩)] ⟨44, [(0, q1aT51 x1), (14, .bool ((!r2) || (!r3)))], [], [], 0⟩ (an4 (cpT (f11_ok _ hr2)) (And.intro (cpC fun hc => (f16_ok _ _ (hr3 hc))) (an1 ob0)) (an1 ob1) ob2) ?_
  refine thenQ_normal ?_
  refine AWp.cond (b := ((!r2) || (!r3))) (by kernel_rfl) (fun hc1 => ?_) (fun hc1 => ?_)
  ·
    replace h := ite_tb hc1 h
    refine AWp.seq ?_
    obtain ⟨r4, hr4, h⟩ := bind_ok h
    refine q1rr [] [(0, ⟨[], [], [], [], .bool r4, [], [], []⟩)] ⟨44, [(2, .bool r4)], [], [], 0⟩ (an1 (cpT (f11_ok _ hr4))) ?_
    refine thenQ_normal ?_
    have hret := Option.some.inj h
    subst hret
    refine AWp.le (Le.mk (s' := ⟨44, [(2, .bool r4)], [], [], 0⟩) rfl rfl ⟨.refl _, trivial⟩ trivial) ?_
    refine AWp.ret ?_
    refine thenQ_ret ?_
    exact bodyQ_ret _ rfl ⟨rfl, rfl⟩ rfl
  ·
    replace h := ite_fb hc1 h
    refine AWp.skip ?_
    refine thenQ_normal ?_
    refine AWp.seq ?_
    obtain ⟨r5, hr5, h⟩ := bind_ok h
    obtain ⟨r6, hr6, h⟩ := bind_ok h
    refine q1rr [] [(1, ⟨[q1aT51 x1], [], [], [(6001, q1bT51_51 r5)], .own 6001, [6001], [], []⟩), (2, ⟨[.own 6001, .fn (.func 27) []], [6001], [], [(6001, q1bT51_51 r6)], .own 6001, [6001], [], []⟩)] ⟨44, [(0, q1aT51 x1), (3, .own 6001)], [(6001, q1bT51_51 r6)], [], 0⟩ (an2 (cpT (Spec1.ren (swapN 3000 6001) (swapN_inv 3000 6001) rfl (f25_ok _ _ hr5))) (cpT (Spec1.ren (swapN 2000 6001) (swapN_inv 2000 6001) rfl (f24_ok _ _ hr6)))) ?_
    refine thenQ_normal ?_
    refine AWp.seq ?_
    obtain ⟨r7, hr7, h⟩ := bind_ok h
    refine q1rr [] [(1, ⟨[q1aT51 x1], [], [], [], .tup [.agg [.i r7.1, .i r7.2.1, .i r7.2.2.1], .i r7.2.2.2], [], [], []⟩)] ⟨44, [(0, q1aT51 x1), (3, .own 6001), (4, .ptr 4 0), (5, .i r7.2.2.2)], [(4, .cells 60 [.i r7.1, .i r7.2.1, .i r7.2.2.1]), (6001, q1bT51_51 r6)], [], 0⟩ (an2 (cpT (f22_ok _ _ hr7)) trivial) ?_
    refine thenQ_normal ?_
    refine AWp.seq ?_
    obtain ⟨r8, hr8, h⟩ := bind_ok h
    refine q1rr [] [(1, ⟨[q1aT51 r6], [], [], [], .tup [.agg [.i r8.1, .i r8.2.1, .i r8.2.2.1], .i r8.2.2.2], [], [6001], []⟩)] ⟨44, [(0, q1aT51 x1), (3, .own 6001), (4, .ptr 4 0), (5, .i r7.2.2.2), (6, .ptr 6 0), (7, .i r8.2.2.2)], [(4, .cells 60 [.i r7.1, .i r7.2.1, .i r7.2.2.1]), (6, .cells 60 [.i r8.1, .i r8.2.1, .i r8.2.2.1]), (6001, q1bT51_51 r6)], [], 0⟩ (an2 (cpL (c := true) [(6001, q1bT51_51 r6)] [6001] [.own 6001] (fun _ => (f22_ok _ _ hr8)) (fun _ => ⟨.refl _, trivial⟩) (.inr ⟨rfl, trivial⟩)) trivial) ?_
    refine thenQ_normal ?_
    refine AWp.seq ?_
    by_cases hg6_8 : (((r7.1 == r8.1) && ((r7.2.1 == r8.2.1) && ((r7.2.2.1 == r8.2.2.1) && true))) && (r7.2.2.2 == r8.2.2.2)) = true
    ·
      replace h := ite_t hg6_8 h
      obtain ⟨r9, hr9, h⟩ := bind_ok h
      obtain ⟨r10, hr10, h⟩ := bind_ok h
      obtain ⟨r11, hr11, h⟩ := bind_ok h
      have ob3 := idA (((f8z0 r7 r8) == true) = true)
      have ob4 := idA (((f8z0 r7 r8) == true) = true)
      have ob5 := bqA (f8z0 r7 r8) true
      have ob6 := idA (true = true)
      have ob7 := idA (true = true)
      have ob8 : true = true → true = true → true = true := fun _ h => h
      refine q1rr [] [(8, ⟨[], [], [], [], (.bool true), [], [0], []⟩), (10, ⟨[q1aT51 x1], [], [], [(6002, q1bS_9 r9)], .own 6002, [6002], [], []⟩), (12, ⟨[q1aT51 r6], [], [], [(6003, q1bS_9 r10)], .own 6003, [6003], [6001], []⟩), (13, ⟨[q1aS r9, q1aS r10], [], [], [], .bool r11, [], [6002, 6003], []⟩)] ⟨44, [(2, .bool r11)], [], [], 0⟩ (ac6 (an2 ob3 ob4) ob5 (show ((.bool ((f8z0 r7 r8) && (r7.2.2.2 == r8.2.2.2))) : V) = (.bool true) from (congrArg (fun x => ((.bool x) : V)) hg6_8)) (And.intro (cpT (Spec1.ren (swapN 3000 6002) (swapN_inv 3000 6002) rfl (f14_ok _ _ hr9))) (an1 ob6)) (And.intro (cpL (c := true) [(6001, q1bT51_51 r6)] [6001] [.own 6001] (fun _ => (Spec1.ren (swapN 3000 6003) (swapN_inv 3000 6003) rfl (f14_ok _ _ hr10))) (fun _ => ⟨.refl _, trivial⟩) (.inr ⟨rfl, ⟨(fun _ _ _ _ => eS_flat _ _), trivial⟩⟩)) (an1 ob7)) (cpL (c := true) [(6002, q1bS_9 r9), (6003, q1bS_9 r10)] [6002, 6003] [.own 6002, .own 6003] (fun _ => (f15_ok _ _ _ hr11)) (fun _ => ⟨.refl _, .refl _, trivial⟩) (.inr ⟨rfl, trivial⟩)) (an1 ob8)) ?_
      refine thenQ_normal ?_
      have hret := Option.some.inj h
      subst hret
      refine AWp.le (Le.mk (s' := ⟨44, [(2, .bool r11)], [], [], 0⟩) rfl rfl ⟨.refl _, trivial⟩ trivial) ?_
      refine AWp.ret ?_
      exact bodyQ_ret _ rfl ⟨rfl, rfl⟩ rfl
    ·
      replace h := ite_f hg6_8 h
      have ob3 := idA (((f8z0 r7 r8) == true) = true)
      have ob4 := idA (((f8z0 r7 r8) == true) = true)
      have ob5 := bqA (f8z0 r7 r8) true
      have ob6 := idA (false = true)
      have ob7 := idA (false = true)
      have ob8 := idA (false = true)
      have ob9 := idA (false = true)
      have ob10 : true = true → false = true → false = true := fun _ h => h
      refine q1rr [] [(8, ⟨[], [], [], [], (.bool false), [], [0], []⟩), (10, ⟨[], [], [], [], .any, [], [], []⟩), (12, ⟨[], [], [], [], .any, [], [], []⟩), (13, ⟨[], [], [], [], .bool false, [], [], []⟩)] ⟨44, [(2, .bool false)], [], [], 0⟩ (ac6 (an2 ob3 ob4) ob5 (show ((.bool ((f8z0 r7 r8) && (r7.2.2.2 == r8.2.2.2))) : V) = (.bool false) from (congrArg (fun x => ((.bool x) : V)) (Bool.eq_false_iff.2 hg6_8))) (And.intro (show (callP Tryz.prog false 14 [] [] [] [] [] [q1aT51 x1] [] (.any) []) from ⟨nofun, nofun, .inl rfl⟩) (an1 ob6)) (And.intro (show (callP Tryz.prog false 14 [] [] [] [] [] [.own 6001] [] (.any) []) from ⟨nofun, nofun, .inl rfl⟩) (an1 ob7)) (And.intro (show (callP Tryz.prog false 15 [] [] [] [] [] [.any, .any] [] (.bool false) []) from ⟨nofun, nofun, .inl rfl⟩) (an2 ob8 ob9)) (an1 ob10)) ?_
      refine thenQ_normal ?_
      have hret := Option.some.inj h
      subst hret
      refine AWp.le (Le.mk (s' := ⟨44, [(2, .bool false)], [], [], 0⟩) rfl rfl ⟨.refl _, trivial⟩ trivial) ?_
      refine AWp.ret ?_
      exact bodyQ_ret _ rfl ⟨rfl, rfl⟩ rfl
end Go.Abs
namespace Go.Abs
theorem f11_true : f11 = some true := by kernel_rfl
end Go.Abs
namespace Go.Abs
theorem chk_pos {p : Prop} [Decidable p] {α : Type} {x : Option α} (h : p) : chk p x = x := if_pos h
theorem ifd_pos {p : Prop} [Decidable p] {α : Type} {x y : α} (h : p) : (if decide p = true then x else y) = x := if_pos (decide_eq_true h)
theorem ifd_neg {p : Prop} [Decidable p] {α : Type} {x y : α} (h : ¬ p) : (if decide p = true then x else y) = y := if_neg (by simpa using h)
theorem jn_eq {α β : Type} (K : α → Option β) (x : (α → Option β) → Option β) : jn K x = x K := rfl
theorem optc_t {α β : Type} [Inhabited α] {x : Option α} {k : α → Option β} : optc true x k = x.bind k := rfl
theorem optc_f {α β : Type} [Inhabited α] {x : Option α} {k : α → Option β} : optc false x k = k default := rfl
theorem some_bind {α β : Type} (a : α) (f : α → Option β) : (some a).bind f = f a := rfl
theorem abc_eq {α : Type} [DecidableEq α] {q : Prop} [Decidable q] {x y : Option α} (h : q → x = y) : abc q x y = y := by
  unfold abc both
  split
  · rename_i hq; rw [h hq]; simp
  · rfl
theorem fuel_lt {n : Nat} (h : n ≤ 18446744073709551615) : n < FUEL := by unfold FUEL; omega
theorem getD_drop {α : Type} (x : List α) (n : Nat) (d : α) (h : n < x.length) : x.drop n = x.getD n d :: x.drop (n + 1) := by
  rw [List.drop_eq_getElem_cons h]
  simp [List.getD_eq_getElem?_getD, h]
/-- .. without ways out. -/
theorem fold_up {α S R : Type} (L : Nat → Nat × S → Option R) (x : List α) (d : α) (Inv : Nat → S → Prop) (g : S → α → S) (K : S → Option R)
    (h : ∀ k n s, n < x.length → Inv n s → L (k + 1) (n, s) = L k (n + 1, g s (x.getD n d)))
    (hI : ∀ n s, n < x.length → Inv n s → Inv (n + 1) (g s (x.getD n d)))
    (he : ∀ k s, Inv x.length s → L (k + 1) (x.length, s) = K s) : ∀ c k n s, n + c = x.length → c < k → Inv n s → L k (n, s) = K ((x.drop n).foldl g s)
  | 0, k, n, s, hn, hk, hi => by
    obtain ⟨k, rfl⟩ : ∃ q, k = q + 1 := ⟨k - 1, by omega⟩
    obtain rfl : n = x.length := by omega
    rw [he k s hi, List.drop_eq_nil_of_le (Nat.le_refl _)]; rfl
  | c + 1, k, n, s, hn, hk, hi => by
    obtain ⟨k, rfl⟩ : ∃ q, k = q + 1 := ⟨k - 1, by omega⟩
    have hlt : n < x.length := by omega
    rw [h k n s hlt hi, getD_drop x n d hlt]
    exact fold_up L x d Inv g K h hI he c k (n + 1) _ (by omega) (by omega) (hI n s hlt hi)
end Go.Abs
namespace Go.Abs
section
variable {α β : Type} [DecidableEq α]
theorem idxL_none (x : α) : ∀ (l : List (α × β)) (i : Nat), idxL x (l.map (·.1)) i = none → ∀ p, p ∈ l → x ≠ p.1
  | [], _, _, p, hp => by cases hp
  | q :: l, i, h, p, hp => by
    simp only [List.map_cons, idxL] at h
    by_cases e : x = q.1
    · rw [if_pos e] at h; cases h
    · rw [if_neg e] at h
      rcases List.mem_cons.1 hp with rfl | hp
      · exact e
      · exact idxL_none x l (i + 1) h p hp
theorem idxL_some (x : α) : ∀ (l : List (α × β)) (i j : Nat), idxL x (l.map (·.1)) i = some j → ∃ A p B, l = A ++ p :: B ∧ j = i + A.length ∧ x = p.1 ∧ ∀ q, q ∈ A → x ≠ q.1
  | [], _, _, h => by cases h
  | q :: l, i, j, h => by
    simp only [List.map_cons, idxL] at h
    by_cases e : x = q.1
    · rw [if_pos e] at h; cases h
      exact ⟨[], q, l, rfl, rfl, e, by simp⟩
    · rw [if_neg e] at h
      obtain ⟨A, p, B, h1, h2, h3, h4⟩ := idxL_some x l (i + 1) j h
      refine ⟨q :: A, p, B, by rw [h1]; rfl, by simp; omega, h3, fun r hr => ?_⟩
      rcases List.mem_cons.1 hr with rfl | hr
      · exact e
      · exact h4 r hr
theorem find_skip (x : α) : ∀ (A : List (α × β)) (B : List (α × β)), (∀ q, q ∈ A → x ≠ q.1) → (A ++ B).find? (fun p => decide (x = p.1)) = B.find? (fun p => decide (x = p.1))
  | [], _, _ => rfl
  | a :: A, B, h => by
    rw [List.cons_append, List.find?_cons]
    have : decide (x = a.1) = false := decide_eq_false (h a (List.mem_cons_self ..))
    rw [this]
    exact find_skip x A B fun q hq => h q (List.mem_cons_of_mem _ hq)
theorem find_upd (l : List (α × β)) (x k : α) (y : β) : (updM l x y).find? (fun p => decide (k = p.1)) = if k = x then some (x, y) else l.find? (fun p => decide (k = p.1)) := by
  unfold updM
  cases hi : idxL x (l.map (·.1)) 0 with
  | none =>
    have h := idxL_none x l 0 hi
    simp only []
    by_cases e : k = x
    · subst e
      rw [if_pos rfl, find_skip _ _ _ h, List.find?_cons]
      simp
    · rw [if_neg e, List.find?_append]
      cases l.find? (fun p => decide (k = p.1)) with
      | some _ => rfl
      | none => simp [e]
  | some j =>
    obtain ⟨A, p, B, rfl, h2, h3, h4⟩ := idxL_some x l 0 j hi
    have ej : j = A.length := by omega
    subst ej
    simp only []
    have es : (A ++ p :: B).set A.length (x, y) = A ++ (x, y) :: B := by
      rw [List.set_append_right _ _ (Nat.le_refl _)]; simp
    rw [es]
    by_cases e : k = x
    · subst e
      rw [if_pos rfl, find_skip _ _ _ h4, List.find?_cons]
      simp
    · rw [if_neg e, List.find?_append, List.find?_append, List.find?_cons, List.find?_cons]
      have h5 : decide (k = x) = false := decide_eq_false e
      have h6 : decide (k = p.1) = false := decide_eq_false (fun h => e (by rw [h, h3]))
      simp only [h5, h6]
theorem gM_upd (l : List (α × β)) (x k : α) (y z : β) : gM (updM l x y) z k = if k = x then y else gM l z k := by
  unfold gM
  rw [find_upd]
  by_cases e : k = x
  · rw [if_pos e, if_pos e]
  · rw [if_neg e, if_neg e]
theorem hM_mem {l : List (α × β)} {k : α} (h : hM l k = true) : ∃ p, p ∈ l ∧ p.1 = k := by
  unfold hM at h
  obtain ⟨p, hp, e⟩ := List.any_eq_true.1 h
  exact ⟨p, hp, (of_decide_eq_true e).symm⟩
theorem updM_len (l : List (α × β)) (x : α) (y : β) : (updM l x y).length ≤ l.length + 1 := by
  unfold updM
  cases idxL x (l.map (·.1)) 0 with
  | none => simp
  | some j => simp
end
/-- as many slots as there are from 0 on -/
theorem slots_len {β : Type} : ∀ (k : Nat) (l : List (Int × β)), (∀ i, i < k → ∃ p, p ∈ l ∧ p.1 = ((i : Nat) : Int)) → k ≤ l.length
  | 0, _, _ => Nat.zero_le _
  | k + 1, l, h => by
    obtain ⟨p, hp, e⟩ := h k (by omega)
    have ih := slots_len k (l.filter fun q => !decide (q.1 = ((k : Nat) : Int))) fun i hi => by
      obtain ⟨q, hq, eq⟩ := h i (by omega)
      exact ⟨q, List.mem_filter.2 ⟨hq, by simp; omega⟩, eq⟩
    have hlt : (l.filter fun q => !decide (q.1 = ((k : Nat) : Int))).length < l.length := by
      rcases Nat.lt_or_ge (l.filter fun q => !decide (q.1 = ((k : Nat) : Int))).length l.length with h2 | h2
      · exact h2
      · have := List.length_filter_eq_length_iff.1 (Nat.le_antisymm (List.length_filter_le _ l) h2) p hp
        simp [e] at this
    omega
end Go.Abs
namespace Go.Abs
def pty (k w : Int) : Int × Bool := if k = 4 ∧ 0 ≤ w ∧ w < 12 then (w, true) else if k = 3 ∧ 0 ≤ w ∧ w < 6 then (12 + w, true) else (0, false)
theorem f50_eq {x1 x2 x3 x4 x5 x6 x7} :
    f50 x1 x2 x3 x4 x5 x6 x7 = some (pty x2 x3) := by
  unfold f50 pty f57
  by_cases h4 : x2 = 4 ∧ 0 ≤ x3 ∧ x3 < 12
  · rw [if_pos h4, if_pos (by simp [h4.1, h4.2.1, h4.2.2])]
  · rw [if_neg h4, if_neg (by simp; omega)]
    by_cases h3 : x2 = 3
    · have e : ((x2 == (3 : Int)) == true) = true := by simp [h3]
      rw [e, optc_t, some_bind]
      by_cases hw : 0 ≤ x3 ∧ x3 < 6
      · rw [if_pos (by simp [h3, hw.1, hw.2]), if_pos ⟨h3, hw⟩, chk_pos (by omega)]
      · rw [if_neg (by simp; omega), if_neg (by omega)]
    · have e : ((x2 == (3 : Int)) == true) = false := by simp [h3]
      rw [e, optc_f, if_neg (by simp), if_neg (fun h => h3 h.1)]
/-- whether a point states a value -/
def st (p : Y51) : Bool := (pty p.2.1 p.2.2.1).2
abbrev ptyP (p : Y51) : Int × Bool := pty p.2.1 p.2.2.1
abbrev slot (p : Y51) : Int := p.2.2.2.1
abbrev txtP (p : Y51) : List UInt8 := p.2.2.2.2.2.1
theorem st_kind {p : Y51} (h : st p = true) : p.2.1 = 4 ∨ p.2.1 = 3 := by
  unfold st pty at h
  by_cases h4 : p.2.1 = 4 ∧ 0 ≤ p.2.2.1 ∧ p.2.2.1 < 12
  · exact .inl h4.1
  · rw [if_neg h4] at h
    by_cases h3 : p.2.1 = 3 ∧ 0 ≤ p.2.2.1 ∧ p.2.2.1 < 6
    · exact .inr h3.1
    · rw [if_neg h3] at h; cases h
def cmp1 (a b : Int) : Int := if a < b then -1 else if b < a then 1 else 0
def cmp3 (a b : Int × Int × Int) : Int := if cmp1 a.1 b.1 ≠ 0 then cmp1 a.1 b.1 else if cmp1 a.2.1 b.2.1 ≠ 0 then cmp1 a.2.1 b.2.1 else cmp1 a.2.2 b.2.2
theorem f71_eq (a b : Int) : f71 a b = some (cmp1 a b) := by
  unfold f71 f101 cmp1
  have e : ∀ x : Int, (x != x) = false := fun x => by simp
  rw [e, e, some_bind, some_bind, if_neg (by simp), if_neg (by simp)]
  by_cases h : a < b
  · rw [ifd_pos h, if_pos h]
  · rw [ifd_neg h, if_neg h]
    by_cases h2 : b < a
    · rw [ifd_pos h2, if_pos h2]
    · rw [ifd_neg h2, if_neg h2]
theorem f51_step (x y : List Int) (K : Unit → Option Int) (k n : Nat) (h1 : n < x.length) (h2 : n < y.length) (hx : x.length ≤ 1000) : f51_L0 x y K (k + 1) n = if cmp1 (x.getD n 0) (y.getD n 0) ≠ 0 then some (cmp1 (x.getD n 0) (y.getD n 0)) else f51_L0 x y K k (n + 1) := by
  conv => lhs; unfold f51_L0
  rw [ifd_pos (by omega), chk_pos (by omega), ifd_neg (by omega), chk_pos (by omega), f71_eq, some_bind]
  generalize cmp1 (x.getD n 0) (y.getD n 0) = v
  by_cases h : v = 0
  · rw [if_neg (by simp [h]), if_neg (by simp [h]), chk_pos (by omega)]
  · rw [if_pos (by simp [h]), if_pos h]
theorem f51_eq (a b c d e f : Int) : f51 [a, b, c] [d, e, f] = some (cmp3 (a, b, c) (d, e, f)) := by
  unfold f51
  rw [jn_eq]
  have hF : FUEL = (FUEL - 4) + 4 := by unfold FUEL; rfl
  rw [hF]
  rw [f51_step _ _ _ _ _ (by simp) (by simp) (by simp), f51_step _ _ _ _ _ (by simp) (by simp) (by simp), f51_step _ _ _ _ _ (by simp) (by simp) (by simp)]
  conv => lhs; unfold f51_L0
  rw [ifd_neg (by simp)]
  unfold cmp3
  show (if cmp1 a d ≠ 0 then some (cmp1 a d) else if cmp1 b e ≠ 0 then some (cmp1 b e) else if cmp1 c f ≠ 0 then some (cmp1 c f) else _) = some (if cmp1 a d ≠ 0 then cmp1 a d else if cmp1 b e ≠ 0 then cmp1 b e else cmp1 c f)
  by_cases h1 : cmp1 a d = 0
  · by_cases h2 : cmp1 b e = 0
    · by_cases h3 : cmp1 c f = 0
      · simp [h1, h2, h3]
      · simp [h1, h2, h3]
    · simp [h1, h2]
  · simp [h1]
abbrev Spl := Int × Int × Int
def gI (x : Y51) (a : Int) (s : Spl) (y : Y51) : Spl :=
  if (((!(ptyP y).2) || decide ((ptyP y).1 < a)) || (slot x != slot y)) || (txtP x == txtP y) then s
  else if s.2.1 < 0 then (slot x, a, (ptyP y).1)
  else if cmp3 (slot x, a, (ptyP y).1) s < 0 then (slot x, a, (ptyP y).1) else s
theorem f22_L1_eq (x : List Y51) (n2 : Nat) (K2 : Spl → Option (Int × Int × Int × Int)) (r6 : Int × Bool) (hx : x.length ≤ 1000000) (F : Nat) (hF : x.length < F) (s : Spl) :
    f22_L1 x n2 K2 r6 F (0, s) = K2 (x.foldl (gI (x.getD n2 default) r6.1) s) := by
  have := fold_up (f22_L1 x n2 K2 r6) x (default : Y51) (fun _ _ => True) (gI (x.getD n2 default) r6.1) K2 (fun k n s hn _ => by
    obtain ⟨i11, i12, i13⟩ := s
    conv => lhs; unfold f22_L1
    rw [ifd_pos (by omega), jn_eq, chk_pos (by omega), f50_eq, some_bind]
    unfold gI
    by_cases h1 : ((((!(ptyP (x.getD n default)).2) || decide ((ptyP (x.getD n default)).1 < r6.1)) || (slot (x.getD n2 default) != slot (x.getD n default))) || (txtP (x.getD n2 default) == txtP (x.getD n default))) = true
    · rw [if_pos h1, if_pos h1]
      simp only []
      rw [chk_pos (by omega)]
    · rw [if_neg h1, if_neg h1]
      by_cases h2 : i12 < 0
      · rw [ifd_pos h2, if_pos h2]
        simp only []
        rw [chk_pos (by omega)]
      · rw [ifd_neg h2, if_neg h2, f51_eq, some_bind]
        by_cases h3 : cmp3 (slot (x.getD n2 default), r6.1, (ptyP (x.getD n default)).1) (i11, i12, i13) < 0
        · rw [ifd_pos h3, if_pos h3]
          simp only []
          rw [chk_pos (by omega)]
        · rw [ifd_neg h3, if_neg h3]
          simp only []
          rw [chk_pos (by omega)]) (fun _ _ _ _ => trivial) (fun k s _ => by
    obtain ⟨i11, i12, i13⟩ := s
    conv => lhs; unfold f22_L1
    rw [ifd_neg (by omega)]) x.length F 0 s (by omega) hF trivial
  simpa using this
def gO (x : List Y51) (s : Spl) (p : Y51) : Spl := if st p = true then x.foldl (gI p (ptyP p).1) s else s
def finS (s : Spl) : Int × Int × Int × Int := if s.2.1 < 0 then (0, 0, 0, 13) else (s.1, s.2.1, s.2.2, 0)
theorem f22_eq (x : List Y51) (hx : x.length ≤ 1000000) : f22 x = some (finS (x.foldl (gO x) (0, -1, 0))) := by
  unfold f22
  rw [jn_eq]
  have := fold_up (f22_L0 x (fun ((i19, i20, i21) : Int × Int × Int) => if (decide (i20 < (0 : Int))) then some ((0 : Int), (0 : Int), (0 : Int), (13 : Int)) else some (i19, i20, i21, (0 : Int)))) x (default : Y51) (fun _ _ => True) (gO x) (fun s => some (finS s)) (fun k n s hn _ => by
    obtain ⟨i3, i4, i5⟩ := s
    conv => lhs; unfold f22_L0
    rw [ifd_pos (by omega), jn_eq, chk_pos (by omega), f50_eq, some_bind]
    unfold gO st
    by_cases h : (pty (x.getD n default).2.1 (x.getD n default).2.2.1).2 = true
    · rw [if_neg (by rw [h]; simp), if_pos h, f22_L1_eq x n _ _ hx FUEL (fuel_lt (by omega))]
      dsimp only
      rw [chk_pos (by omega)]
    · rw [if_pos (by rw [Bool.not_eq_true] at h; rw [h]; rfl), if_neg h]
      dsimp only
      rw [chk_pos (by omega)]) (fun _ _ _ _ => trivial) (fun k s _ => by
    obtain ⟨i3, i4, i5⟩ := s
    conv => lhs; unfold f22_L0
    rw [ifd_neg (by omega)]
    unfold finS
    dsimp only
    by_cases h : i4 < 0
    · rw [ifd_pos h, if_pos h]
    · rw [ifd_neg h, if_neg h]) x.length FUEL 0 (0, -1, 0) (by omega) (fuel_lt (by omega)) trivial
  rw [List.drop_zero] at this
  exact this
theorem fold_skip {α S : Type} (p : α → Bool) (g : S → α → S) (h : ∀ s a, p a = false → g s a = s) : ∀ (l : List α) (s : S), l.foldl g s = (l.filter p).foldl g s
  | [], _ => rfl
  | a :: l, s => by
    rw [List.foldl_cons]
    by_cases e : p a = true
    · rw [List.filter_cons_of_pos e, List.foldl_cons]
      exact fold_skip p g h l _
    · have e' : p a = false := by simpa using e
      rw [List.filter_cons_of_neg e, h s a e']
      exact fold_skip p g h l s
theorem gI_skip (q : Y51) (a : Int) (s : Spl) (y : Y51) (h : st y = false) : gI q a s y = s := by
  unfold gI
  unfold st at h
  rw [if_pos (by simp [ptyP, h])]
theorem gO_skip (x : List Y51) (s : Spl) (y : Y51) (h : st y = false) : gO x s y = s := by
  unfold gO
  rw [if_neg (by simp [h])]
/-- the fork depends on the points that state a value alone -/
theorem fork_st (x : List Y51) : x.foldl (gO x) (0, -1, 0) = (x.filter st).foldl (gO (x.filter st)) (0, -1, 0) := by
  rw [fold_skip st (gO x) (fun s a h => gO_skip x s a h)]
  congr 1
  funext s p
  unfold gO
  rw [fold_skip st (gI p (ptyP p).1) (fun s a h => gI_skip p _ s a h) x]
end Go.Abs
namespace Go.Abs
abbrev MV_ := List (Int × List UInt8)
abbrev MX_ := List (Int × Bool)
abbrev MS_ := List ((Int × Int) × List UInt8)
abbrev MA_ := List (Int × Int)
abbrev MQ_ := List ((Int × Int × List UInt8) × Bool)
abbrev MK_ := List ((Int × Int) × Bool)
def seeV (a : MV_) (s : Int) (t : List UInt8) : MV_ := if hM a s = true then a else updM a s t
def seeX (a : MV_) (b : MX_) (s : Int) (t : List UInt8) : MX_ := if hM a s = true then (if (gM a [] s == t) = true then b else updM b s true) else b
def seeS (c : MS_) (q s : Int) (t : List UInt8) : MS_ := if hM c (q, s) = true then c else updM c (q, s) t
def seeA (d : MA_) (k w : Int) : MA_ := if (k == 3) = true then updM d w (gM d 0 w + 1) else d
theorem f57_eq {x1 x2 x3 x4 x5 x6 x7} :
    f57 x1 x2 x3 x4 x5 x6 x7 = some (decide (x3 ≥ 0) && decide (x3 < 6)) := rfl
theorem optc_bnd {α β : Type} [Inhabited α] {c : Bool} {a : α} {k : α → Option β} : optc c (some a) k = k (if c = true then a else default) := by
  cases c <;> rfl
theorem f45_st {x1 x2 x3 x4 x5 x6 x7} (a : MV_) (b : MX_) (c : MS_) (d : MA_) (e : MS_) (f : MQ_) (g : MK_) (h : (pty x2 x3).2 = true) (hb : -9223372036854775808 ≤ gM d 0 x3 + 1 ∧ gM d 0 x3 + 1 ≤ 9223372036854775807) :
    f45 x1 x2 x3 x4 x5 x6 x7 a b c d e f g = some (seeV a x4 x6, seeX a b x4 x6, seeS c (pty x2 x3).1 x4 x6, seeA d x2 x3, e, f, g) := by
  have hk : x2 ≠ 1 ∧ x2 ≠ 2 := by
    unfold pty at h
    by_cases h4 : x2 = 4 ∧ 0 ≤ x3 ∧ x3 < 12
    · omega
    · rw [if_neg h4] at h
      by_cases h3 : x2 = 3 ∧ 0 ≤ x3 ∧ x3 < 6
      · omega
      · rw [if_neg h3] at h; cases h
  have e1 : (x2 == (1 : Int)) = false := by simp [hk.1]
  have e2 : (x2 == (2 : Int)) = false := by simp [hk.2]
  unfold f45
  rw [jn_eq, f50_eq, some_bind, if_pos h]
  simp only [jn_eq, e1, e2, optc_f, Bool.false_and, show (false == true) = false from rfl]
  unfold seeV seeX seeS seeA
  cases h1 : hM a x4 with
  | false =>
    cases h3 : hM c ((pty x2 x3).1, x4) with
    | false =>
      cases h4 : (x2 == 3) with
      | false => rfl
      | true => simp [chk_pos hb]
    | true =>
      cases h4 : (x2 == 3) with
      | false => rfl
      | true => simp [chk_pos hb]
  | true =>
    cases h2 : (gM a [] x4 == x6) with
    | false =>
      cases h3 : hM c ((pty x2 x3).1, x4) with
      | false =>
        cases h4 : (x2 == 3) with
        | false => rfl
        | true => simp [chk_pos hb]
      | true =>
        cases h4 : (x2 == 3) with
        | false => rfl
        | true => simp [chk_pos hb]
    | true =>
      cases h3 : hM c ((pty x2 x3).1, x4) with
      | false =>
        cases h4 : (x2 == 3) with
        | false => rfl
        | true => simp [chk_pos hb]
      | true =>
        cases h4 : (x2 == 3) with
        | false => rfl
        | true => simp [chk_pos hb]
theorem f45_no {x1 x2 x3 x4 x5 x6 x7} (a : MV_) (b : MX_) (c : MS_) (d : MA_) (e : MS_) (f : MQ_) (g : MK_) (h : (pty x2 x3).2 = false) :
    ∃ e' f' g', f45 x1 x2 x3 x4 x5 x6 x7 a b c d e f g = some (a, b, c, d, e', f', g') := by
  unfold f45
  rw [jn_eq, f50_eq, some_bind, if_neg (by rw [h]; simp)]
  dsimp only
  simp only [f57_eq, optc_bnd]
  repeat' split
  all_goals exact ⟨_, _, _, rfl⟩
theorem f45_no_bind {R : Type} {x1 x2 x3 x4 x5 x6 x7} (a : MV_) (b : MX_) (c : MS_) (d : MA_) (e : MS_) (f : MQ_) (g : MK_) (h : (pty x2 x3).2 = false)
    {k : MV_ × MX_ × MS_ × MA_ × MS_ × MQ_ × MK_ → Option R} {r : Option R} (hk : ∀ e' f' g', k (a, b, c, d, e', f', g') = r) :
    (f45 x1 x2 x3 x4 x5 x6 x7 a b c d e f g).bind k = r := by
  obtain ⟨e', f', g', h1⟩ := f45_no (x1 := x1) (x4 := x4) (x5 := x5) (x6 := x6) (x7 := x7) a b c d e f g h
  rw [h1]
  exact hk e' f' g'
/-- what is seen of the values -/
def gV (s : MV_ × MX_) (p : Y51) : MV_ × MX_ := if st p = true then (seeV s.1 (slot p) (txtP p), seeX s.1 s.2 (slot p) (txtP p)) else s
abbrev RCom := Option (List (List UInt8))
theorem f14_L0_eq (x : List Y51) (hx : x.length ≤ 1000000) (K : MV_ × MX_ × MS_ × MA_ × MS_ × MQ_ × MK_ → RCom) (J : MV_ × MX_ → RCom) (hK : ∀ a b c d e f g, K (a, b, c, d, e, f, g) = J (a, b)) :
    ∀ (m k n : Nat) (a : MV_) (b : MX_) (c : MS_) (d : MA_) (e : MS_) (f : MQ_) (g : MK_), n + m = x.length → m < k → (∀ w, 0 ≤ gM d 0 w ∧ gM d 0 w ≤ n) → f14_L0 x K k (n, a, b, c, d, e, f, g) = J ((x.drop n).foldl gV (a, b))
  | 0, k, n, a, b, c, d, e, f, g, hn, hk, hd => by
    obtain ⟨k, rfl⟩ : ∃ z, k = z + 1 := ⟨k - 1, by omega⟩
    rw [List.drop_eq_nil_of_le (by omega)]
    conv => lhs; unfold f14_L0
    rw [ifd_neg (by omega), hK]
    rfl
  | m + 1, k, n, a, b, c, d, e, f, g, hn, hk, hd => by
    obtain ⟨k, rfl⟩ : ∃ z, k = z + 1 := ⟨k - 1, by omega⟩
    rw [getD_drop x n (default : Y51) (by omega), List.foldl_cons]
    conv => lhs; unfold f14_L0
    rw [ifd_pos (by omega), chk_pos (by omega)]
    by_cases hs : st (x.getD n default) = true
    · have hd' := hd (x.getD n (default : Y51)).2.2.1
      rw [f45_st a b c d e f g hs (by omega), some_bind, chk_pos (by omega)]
      have ih := f14_L0_eq x hx K J hK m k (n + 1) (seeV a (slot (x.getD n default)) (txtP (x.getD n default))) (seeX a b (slot (x.getD n default)) (txtP (x.getD n default))) (seeS c (ptyP (x.getD n default)).1 (slot (x.getD n default)) (txtP (x.getD n default))) (seeA d (x.getD n default).2.1 (x.getD n default).2.2.1) e f g (by omega) (by omega) (fun w => by
        unfold seeA
        split
        · rw [gM_upd]
          split
          · constructor <;> omega
          · have := hd w; constructor <;> omega
        · have := hd w; constructor <;> omega)
      refine Eq.trans ih ?_
      unfold gV
      rw [if_pos hs]
    · have hs' : st (x.getD n default) = false := by simpa using hs
      refine f45_no_bind a b c d e f g hs' fun e' f' g' => ?_
      rw [chk_pos (by omega)]
      refine (f14_L0_eq x hx K J hK m k (n + 1) a b c d e' f' g' (by omega) (by omega) (fun w => by have := hd w; constructor <;> omega)).trans ?_
      unfold gV
      rw [if_neg hs]
def comV (x : List Y51) : MV_ × MX_ := x.foldl gV ([], [])
theorem comV_len : ∀ (x : List Y51) (s : MV_ × MX_), (x.foldl gV s).1.length ≤ s.1.length + x.length
  | [], s => by simp
  | p :: x, s => by
    rw [List.foldl_cons]
    have ih := comV_len x (gV s p)
    have h : (gV s p).1.length ≤ s.1.length + 1 := by
      unfold gV
      split
      · show (seeV s.1 (slot p) (txtP p)).length ≤ _
        unfold seeV
        split
        · omega
        · exact updM_len _ _ _
      · omega
    simp only [List.length_cons]
    omega
theorem f14_L1_some (A : MV_) (B : MX_) (hA : A.length ≤ 1000000) : ∀ (m k : Nat) (l : List (List UInt8)), l.length + m = A.length + 1 → m < k → (∀ i, i < l.length → hM A ((i : Nat) : Int) = true) → ∃ out, f14_L1 A B k l = some out ∧ out.length ≤ A.length
  | 0, k, l, hl, hk, h => by
    exfalso
    have := slots_len l.length A fun i hi => hM_mem (h i hi)
    omega
  | m + 1, k, l, hl, hk, h => by
    obtain ⟨k, rfl⟩ : ∃ z, k = z + 1 := ⟨k - 1, by omega⟩
    have hlA := slots_len l.length A fun i hi => hM_mem (h i hi)
    conv => enter [1, out, 1, 1]; unfold f14_L1
    by_cases hh : hM A (((l).length : Nat) : Int) = true
    · rw [if_neg (by rw [hh]; simp)]
      by_cases hg : gM B false (((l).length : Nat) : Int) = true
      · rw [if_pos hg]
        exact ⟨l, rfl, hlA⟩
      rw [if_neg hg]
      obtain ⟨out, h1, h2⟩ := f14_L1_some A B hA m k (l ++ [gM A [] (((l).length : Nat) : Int)]) (by simp; omega) (by omega) (fun i hi => by
        rw [List.length_append] at hi
        simp only [List.length_cons, List.length_nil] at hi
        rcases Nat.lt_or_ge i l.length with h3 | h3
        · exact h i h3
        · obtain rfl : i = l.length := by omega
          exact hh)
      rw [chk_pos (by omega)]
      exact ⟨out, h1, h2⟩
    · rw [if_pos (by simpa using hh)]
      exact ⟨l, rfl, hlA⟩
theorem f14_eq (x : List Y51) (hx : x.length ≤ 1000000) : f14 x = f14_L1 (comV x).1 (comV x).2 FUEL [] := by
  unfold f14 f44
  rw [some_bind, jn_eq]
  exact f14_L0_eq x hx _ (fun s => f14_L1 s.1 s.2 FUEL []) (fun _ _ _ _ _ _ _ => rfl) x.length FUEL 0 [] [] [] [] [] [] [] (by omega) (fuel_lt (by omega)) (fun w => ⟨Int.le_refl _, Int.le_refl _⟩)
theorem f14_some (x : List Y51) (hx : x.length ≤ 1000000) : ∃ out, f14 x = some out ∧ out.length ≤ 1000000 := by
  have hl := comV_len x ([], [])
  simp only [List.length_nil] at hl
  have hl' : (comV x).1.length ≤ 1000000 := by unfold comV; omega
  obtain ⟨out, h1, h2⟩ := f14_L1_some (comV x).1 (comV x).2 hl' ((comV x).1.length + 1) FUEL [] (by simp) (fuel_lt (by omega)) (by simp)
  exact ⟨out, by rw [f14_eq x hx, h1], by omega⟩
theorem com_st (x : List Y51) : comV x = comV (x.filter st) := by
  unfold comV
  exact fold_skip st gV (fun s p h => by unfold gV; rw [if_neg (by simp [h])]) x _
end Go.Abs
namespace Go.Abs
def dl (p : Y51) : Bool := p.2.1 != 4 && p.2.1 != 3
def kp (p : Y51) : Bool := !dl p
theorem f53_L0_eq (x : List Y51) (hx : x.length ≤ 1000000) (K : Unit → Option Int) : ∀ (m k n : Nat), n + m = x.length → m < k →
    (∃ i, n ≤ i ∧ i < x.length ∧ dl (x.getD i default) = true ∧ (∀ j, n ≤ j → j < i → dl (x.getD j default) = false) ∧ f53_L0 x K k n = some ((i : Nat) : Int)) ∨ ((∀ j, n ≤ j → j < x.length → dl (x.getD j default) = false) ∧ f53_L0 x K k n = K ())
  | 0, k, n, hn, hk => by
    obtain ⟨k, rfl⟩ : ∃ z, k = z + 1 := ⟨k - 1, by omega⟩
    refine .inr ⟨fun j h1 h2 => absurd h1 (by omega), ?_⟩
    conv => lhs; unfold f53_L0
    rw [ifd_neg (by omega)]
  | m + 1, k, n, hn, hk => by
    obtain ⟨k, rfl⟩ : ∃ z, k = z + 1 := ⟨k - 1, by omega⟩
    have e : f53_L0 x K (k + 1) n = if dl (x.getD n default) = true then some ((n : Nat) : Int) else f53_L0 x K k (n + 1) := by
      conv => lhs; unfold f53_L0
      rw [ifd_pos (by omega)]
      unfold f27
      rw [some_bind, chk_pos (by omega)]
      by_cases h : dl (x.getD n default) = true
      · rw [if_pos h]; exact if_pos h
      · rw [if_neg h]
        refine (if_neg h).trans ?_
        rw [chk_pos (by omega)]
    rw [e]
    by_cases h : dl (x.getD n default) = true
    · rw [if_pos h]
      exact .inl ⟨n, Nat.le_refl _, by omega, h, fun j h1 h2 => absurd h1 (by omega), rfl⟩
    · rw [if_neg h]
      have h' : dl (x.getD n default) = false := by simpa using h
      rcases f53_L0_eq x hx K m k (n + 1) (by omega) (by omega) with ⟨i, h1, h2, h3, h4, h5⟩ | ⟨h1, h2⟩
      · refine .inl ⟨i, by omega, h2, h3, fun j h6 h7 => ?_, h5⟩
        rcases Nat.lt_or_ge n j with h8 | h8
        · exact h4 j (by omega) h7
        · obtain rfl : j = n := by omega
          exact h'
      · refine .inr ⟨fun j h6 h7 => ?_, h2⟩
        rcases Nat.lt_or_ge n j with h8 | h8
        · exact h1 j (by omega) h7
        · obtain rfl : j = n := by omega
          exact h'
theorem take_snoc {α : Type} (l : List α) (j : Nat) (d : α) (h : j < l.length) : l.take (j + 1) = l.take j ++ [l.getD j d] := by
  rw [List.take_add_one]
  simp [List.getD_eq_getElem?_getD, h]
theorem f24_L0_eq (x : List Y51) (hx : x.length ≤ 1000000) (K : Int × List Y51 → Option (List Y51)) : ∀ (m k i j : Nat) (l : List Y51), j + m = x.length → m < k → i < j → l.length = x.length → l.take i = (x.take j).filter kp → l.drop j = x.drop j →
    ∃ i' l', i' < x.length ∧ l'.length = x.length ∧ l'.take i' = x.filter kp ∧ f24_L0 K k ((i : Int), (j : Int), l) = K ((i' : Int), l')
  | 0, k, i, j, l, hn, hk, hij, hl, ht, hd => by
    obtain ⟨k, rfl⟩ : ∃ z, k = z + 1 := ⟨k - 1, by omega⟩
    refine ⟨i, l, by omega, hl, ?_, ?_⟩
    · rw [ht, List.take_of_length_le (by omega)]
    · conv => lhs; unfold f24_L0
      rw [ifd_neg (by omega)]
  | m + 1, k, i, j, l, hn, hk, hij, hl, ht, hd => by
    obtain ⟨k, rfl⟩ : ∃ z, k = z + 1 := ⟨k - 1, by omega⟩
    have hg : l.getD j default = x.getD j default := by
      have := congrArg (fun z : List Y51 => z.getD 0 default) hd
      simpa [List.getD_eq_getElem?_getD, List.getElem?_drop] using this
    have hd1 : l.drop (j + 1) = x.drop (j + 1) := by
      rw [← List.drop_drop, ← List.drop_drop, hd]
    have hx1 : (x.take (j + 1)).filter kp = (x.take j).filter kp ++ (if kp (x.getD j default) = true then [x.getD j default] else []) := by
      rw [take_snoc x j default (by omega), List.filter_append]
      congr 1
      by_cases h : kp (x.getD j default) = true
      · rw [if_pos h, List.filter_cons_of_pos h]; rfl
      · rw [if_neg h, List.filter_cons_of_neg h]; rfl
    by_cases h : dl (x.getD j default) = true
    · have hk' : ¬ kp (x.getD j default) = true := by unfold kp; rw [h]; simp
      rw [if_neg hk', List.append_nil] at hx1
      obtain ⟨i', l', h1, h2, h3, h4⟩ := f24_L0_eq x hx K m k i (j + 1) l (by omega) (by omega) (by omega) hl (ht.trans hx1.symm) hd1
      refine ⟨i', l', h1, h2, h3, ?_⟩
      conv => lhs; unfold f24_L0
      rw [ifd_pos (by omega), jn_eq, chk_pos (by omega), Int.toNat_natCast, chk_pos (by omega)]
      unfold f27
      rw [some_bind, hg]
      refine (if_neg (by
        show ¬ (!dl (x.getD j default)) = true
        rw [h]; simp)).trans ?_
      dsimp only
      rw [chk_pos (by omega)]
      exact h4
    · have h' : dl (x.getD j default) = false := by simpa using h
      have hk' : kp (x.getD j default) = true := by unfold kp; rw [h']; rfl
      rw [if_pos hk'] at hx1
      obtain ⟨i', l', h1, h2, h3, h4⟩ := f24_L0_eq x hx K m k (i + 1) (j + 1) (l.set i (x.getD j default)) (by omega) (by omega) (by omega) (by simpa using hl) (by
        rw [hx1, ← ht, take_snoc _ i default (by simp; omega), List.take_set_of_le (Nat.le_refl _)]
        simp [List.getD_eq_getElem?_getD, show i < l.length by omega]) (by
        rw [List.drop_set_of_lt (by omega)]; exact hd1)
      refine ⟨i', l', h1, h2, h3, ?_⟩
      conv => lhs; unfold f24_L0
      rw [ifd_pos (by omega), jn_eq, chk_pos (by omega), Int.toNat_natCast, chk_pos (by omega)]
      unfold f27
      rw [some_bind, hg]
      refine (if_pos (by
        show (!dl (x.getD j default)) = true
        rw [h']; rfl)).trans ?_
      rw [chk_pos (by omega), Int.toNat_natCast, chk_pos (by omega), chk_pos (by omega)]
      dsimp only
      rw [chk_pos (by omega)]
      exact h4
theorem f24_eq (x : List Y51) (hx : x.length ≤ 1000000) : f24 x = some (x.filter kp) := by
  have hF : x.length < FUEL := fuel_lt (by omega)
  have h := f53_L0_eq x hx (fun _ => some (-1)) x.length FUEL 0 (by omega) hF
  unfold f24 f53
  rw [jn_eq]
  rcases h with ⟨i, _, h2, h3, h4, h5⟩ | ⟨h1, h2⟩
  · rw [h5, some_bind, if_neg (by simp), jn_eq, chk_pos (by omega)]
    have hf : (x.take i).filter kp = x.take i := by
      refine List.filter_eq_self.2 fun a ha => ?_
      obtain ⟨j, hj, rfl⟩ := List.getElem_of_mem ha
      rw [List.length_take] at hj
      have := h4 j (by omega) (by omega)
      unfold kp
      rw [List.getElem_take]
      rw [List.getD_eq_getElem?_getD, List.getElem?_eq_getElem (by omega)] at this
      rw [show dl x[j] = false from this]; rfl
    obtain ⟨i', l', g1, g2, g3, g4⟩ := f24_L0_eq x hx (fun ((i9, l10) : Int × List Y51) =>
      chk (0 ≤ i9 ∧ i9 ≤ (((l10).length : Nat) : Int)) <| (show Option (List Y51) from
      chk (((i9).toNat) + ((l10).length - (i9).toNat) ≤ (l10).length ∧ 0 < ((l10).length - (i9).toNat)) <|
      chk (0 ≤ i9 ∧ i9 ≤ ((((l10.take ((i9).toNat) ++ List.replicate ((l10).length - (i9).toNat) (default : Y51)).length : Nat) : Int))) <|
      chk (((i9).toNat) ≤ (l10.take ((i9).toNat) ++ List.replicate ((l10).length - (i9).toNat) (default : Y51)).length) <|
      some ((l10.take ((i9).toNat) ++ List.replicate ((l10).length - (i9).toNat) (default : Y51)).take ((i9).toNat)))) (x.length - (i + 1)) FUEL i (i + 1) x (by omega) (by omega) (by omega) rfl (by
        rw [take_snoc x i default h2, List.filter_append, hf, List.filter_cons_of_neg (by unfold kp; rw [h3]; simp)]
        simp) rfl
    refine Eq.trans (Eq.trans ?_ g4) ?_
    · rfl
    · dsimp only
      rw [Int.toNat_natCast]
      have hlen : (l'.take i' ++ List.replicate (l'.length - i') (default : Y51)).length = x.length := by simp; omega
      rw [chk_pos (by omega), chk_pos (by omega), hlen, chk_pos (by omega), chk_pos (by omega), List.take_append_of_le_length (by simp; omega), List.take_of_length_le (by rw [List.length_take]; omega), g3]
  · rw [h2, some_bind, if_pos (show ((-1 : Int) == -1) = true from rfl)]
    congr 1
    refine (List.filter_eq_self.2 fun a ha => ?_).symm
    obtain ⟨j, hj, rfl⟩ := List.getElem_of_mem ha
    have := h1 j (by omega) hj
    rw [List.getD_eq_getElem?_getD, List.getElem?_eq_getElem hj] at this
    unfold kp
    rw [show dl x[j] = false from this]; rfl
theorem f25_eq (x : List Y51) (hx : x.length ≤ 1000000) : f25 x = some x := by
  unfold f25
  rw [abc_eq (fun h => by
    rw [chk_pos (by omega)]
    rw [List.eq_nil_of_length_eq_zero h]; rfl), chk_pos (by omega), List.nil_append]
theorem f16_L0_some (x : List Y51) (hx : x.length ≤ 9223372036854775807) (K : Int → Option Bool) (hK : ∀ i, ∃ b, K i = some b ∧ (b = true → x.length ≤ 60)) : ∀ (m k n : Nat) (i : Int), n + m = x.length → m < k → ∃ b, f16_L0 x K k (i, n) = some b ∧ (b = true → x.length ≤ 60)
  | 0, k, n, i, hn, hk => by
    obtain ⟨k, rfl⟩ : ∃ z, k = z + 1 := ⟨k - 1, by omega⟩
    conv => enter [1, b, 1, 1]; unfold f16_L0
    rw [ifd_neg (by omega)]
    exact hK i
  | m + 1, k, n, i, hn, hk => by
    obtain ⟨k, rfl⟩ : ∃ z, k = z + 1 := ⟨k - 1, by omega⟩
    conv => enter [1, b, 1, 1]; unfold f16_L0
    rw [ifd_pos (by omega), chk_pos (by omega), chk_pos (by omega), chk_pos (by omega)]
    exact f16_L0_some x hx K hK m k (n + 1) _ (by omega) (by omega)
theorem f16_some (x : List Y51) (hx : x.length ≤ 9223372036854775807) : ∃ b, f16 x = some b ∧ (b = true → x.length ≤ 60) := by
  unfold f16
  rw [jn_eq]
  exact f16_L0_some x hx _ (fun i => ⟨_, rfl, fun h => by
    simp only [Bool.and_eq_true, decide_eq_true_eq] at h
    omega⟩) x.length FUEL 0 0 (by omega) (fuel_lt (by omega))
theorem f15_refl (l : List (List UInt8)) (hl : l.length ≤ 1000000) : f15 l l = some true := by
  unfold f15
  rw [if_neg (by simp), jn_eq]
  have : ∀ (m k n : Nat), n + m = l.length → m < k → f15_L0 l l (fun _ => some true) k n = some true := by
    intro m
    induction m with
    | zero =>
      intro k n hn hk
      obtain ⟨k, rfl⟩ : ∃ z, k = z + 1 := ⟨k - 1, by omega⟩
      conv => lhs; unfold f15_L0
      rw [ifd_neg (by omega)]
    | succ m ih =>
      intro k n hn hk
      obtain ⟨k, rfl⟩ : ∃ z, k = z + 1 := ⟨k - 1, by omega⟩
      conv => lhs; unfold f15_L0
      rw [ifd_pos (by omega), chk_pos (by omega), chk_pos (by omega), if_neg (by simp), chk_pos (by omega)]
      exact ih k (n + 1) (by omega) (by omega)
  exact this l.length FUEL 0 (by omega) (fuel_lt (by omega))
theorem st_kp (x : List Y51) : (x.filter kp).filter st = x.filter st := by
  rw [List.filter_filter]
  refine List.filter_congr fun p _ => ?_
  by_cases h : st p = true
  · rw [h, Bool.true_and]
    unfold kp dl
    rcases st_kind h with e | e <;> rw [e] <;> rfl
  · have h' : st p = false := by simpa using h
    rw [h', Bool.false_and]
/-- the law -/
theorem f8_true (x : List Y51) (hx : x.length ≤ 9223372036854775807) : f8 x = some true := by
  obtain ⟨b, hb, hl⟩ := f16_some x hx
  unfold f8
  rw [f11_true, some_bind, show ((!true) == false) = true from rfl, optc_t, hb, some_bind]
  cases b with
  | false => rw [if_pos (by rfl)]; rfl
  | true =>
    have h60 := hl rfl
    have hf : (x.filter kp).length ≤ 60 := Nat.le_trans (List.length_filter_le _ _) h60
    rw [if_neg (by simp), f25_eq x (by omega), some_bind, f24_eq x (by omega), some_bind, f22_eq x (by omega), some_bind, f22_eq (x.filter kp) (by omega), some_bind]
    have e : x.foldl (gO x) (0, -1, 0) = (x.filter kp).foldl (gO (x.filter kp)) (0, -1, 0) := by rw [fork_st x, fork_st (x.filter kp), st_kp]
    rw [e]
    rw [if_pos (by simp)]
    obtain ⟨out, h1, h2⟩ := f14_some x (by omega)
    have e2 : f14 (x.filter kp) = some out := by
      rw [f14_eq _ (by omega), com_st, st_kp, ← com_st, ← f14_eq x (by omega), h1]
    rw [h1, some_bind, e2, some_bind, f15_refl out (by omega), some_bind]
end Go.Abs
