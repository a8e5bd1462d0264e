/- set.Compare walked in the kit's own way: the world behind it, to the draw. -/
import Derived.Test.YtncjecbhohcfoaaDoorPure1
import Derived.Test.YtncjecbhohcfoaaDoorProg
import Derived.WalkKit
import Derived.LoopN
import Derived.Sort.Grow
import Derived.Deep.Draws
namespace Go.Abs
open Go Go.Proofs Go.RowKit Go.Sort
set_option maxHeartbeats 4000000
theorem and255 (x : Int) (h0 : 0 ≤ x) (h1 : x ≤ 65535) : bits BinOp.and IntKind.u16 x 255 = x % 256 := by
  obtain ⟨n, rfl⟩ := Int.eq_ofNat_of_zero_le h0
  unfold bits
  have e : ((BitVec.ofInt 16 (n : Int)) &&& (BitVec.ofInt 16 255)).toNat = n % 256 := by
    rw [BitVec.toNat_and]
    have h2 : (BitVec.ofInt 16 (n : Int)).toNat = n := by simp; omega
    rw [h2]
    exact Nat.and_two_pow_sub_one_eq_mod n 8
  show IntKind.u16.wrap ((((BitVec.ofInt 16 (n : Int)) &&& (BitVec.ofInt 16 255)).toNat : Nat) : Int) = _
  rw [e]
  simp [IntKind.wrap, IntKind.bits, IntKind.signed]
  omega
def popB : ByteArray := ⟨pop8.toArray⟩
set_option maxRecDepth 100000 in
theorem popB_at (b : Nat) (h : b < popB.size) : (popB[b]).toNat = bsum b 0 8 := by
  have h2 : b < 256 := h
  rw [← pop8_at b h2]
  have h3 : b < pop8.length := h2
  simp [List.getD_eq_getElem?_getD, h3]
  rfl
set_option maxRecDepth 100000 in
theorem w82 (n : Nat) (w : World) (h1 : n ≤ 65535) : Calls Tryd.prog 82 #[.int .u16 (n : Int)] w fun e w' => e = .returned (.int .i64 (bsum n 0 16 : Nat)) ∧ w' = w.drew := by
  have a1 : (n : Int) / 256 < 256 := by omega
  have a2 : 0 ≤ (n : Int) / 256 := by omega
  have a3 : (n : Int) % 256 < 256 := by omega
  have a4 : 0 ≤ (n : Int) % 256 := by omega
  have a5 := and255 (n : Int) (by omega) (by omega)
  go_enter Tryd.func82, Tryd.ntmps82
  go_wp2
  go_region
  go_wp2
  go_ret
  refine ⟨congrArg Ending.returned (congrArg (Value.int IntKind.i64) ?_), rfl⟩
  have e1 := popB_at ((n : Int) / 256).toNat (show ((n : Int) / 256).toNat < 256 by omega)
  have e2 := popB_at ((n : Int) % 256).toNat (show ((n : Int) % 256).toNat < 256 by omega)
  change (((popB[((n : Int) / 256).toNat]'(show ((n : Int) / 256).toNat < 256 by omega)).toNat : Int) + ((popB[((n : Int) % 256).toNat]'(show ((n : Int) % 256).toNat < 256 by omega)).toNat : Int)) % 256 = _
  rw [e1, e2]
  have e3 : ((n : Int) / 256).toNat = n / 256 := by omega
  have e4 : ((n : Int) % 256).toNat = n % 256 := by omega
  rw [e3, e4]
  have l1 := bsum_le (n / 256) 8 0
  have l2 := bsum_le (n % 256) 8 0
  have := bsum_split n
  omega
set_option maxRecDepth 100000 in
theorem w64 (n : Nat) (w : World) (h1 : n ≤ 65535) : Calls Tryd.prog 64 #[.int .u16 (n : Int)] w fun e w' => e = .returned (.int .i64 (bsum n 0 16 : Nat)) ∧ w' = w.drew := by
  have hcon := w82 n w h1
  go_enter Tryd.func64, Tryd.ntmps64
  go_wp2_with (go_at_call 82; refine hcon.mono ?_; rintro e w' ⟨rfl, rfl⟩)
  go_ret
  exact ⟨rfl, rfl⟩
set_option maxRecDepth 100000 in
theorem w81 (n : Int) (w : World) : Calls Tryd.prog 81 #[.int .i64 n] w fun e w' => e = .returned (.bool false) ∧ w' = w := by
  go_enter Tryd.func81, Tryd.ntmps81
  go_wp2
  go_ret
  exact ⟨rfl, rfl⟩
set_option maxRecDepth 100000 in
theorem w83 (n : Int) (w : World) : Calls Tryd.prog 83 #[.int .u16 n] w fun e w' => e = .returned (.bool false) ∧ w' = w := by
  go_enter Tryd.func83, Tryd.ntmps83
  go_wp2
  go_ret
  exact ⟨rfl, rfl⟩
set_option maxRecDepth 100000 in
theorem w63 (a b : Int) (w : World) : Calls Tryd.prog 63 #[.int .i64 a, .int .i64 b] w fun e w' => e = .returned (.int .i64 (cmpI a b)) ∧ w' = w := by
  have ha := w81 a w
  have hb := w81 b w
  unfold cmpI
  go_enter Tryd.func63, Tryd.ntmps63
  go_wp2_with (first | (go_at_call 81; refine ha.mono ?_; rintro e w' ⟨rfl, rfl⟩) | (go_at_call 81; refine hb.mono ?_; rintro e w' ⟨rfl, rfl⟩))
  all_goals (go_ret; exact ⟨rfl, rfl⟩)
set_option maxRecDepth 100000 in
theorem w65 (a b : Int) (w : World) : Calls Tryd.prog 65 #[.int .u16 a, .int .u16 b] w fun e w' => e = .returned (.int .i64 (cmpI a b)) ∧ w' = w := by
  have ha := w83 a w
  have hb := w83 b w
  unfold cmpI
  go_enter Tryd.func65, Tryd.ntmps65
  go_wp2_with (first | (go_at_call 83; refine ha.mono ?_; rintro e w' ⟨rfl, rfl⟩) | (go_at_call 83; refine hb.mono ?_; rintro e w' ⟨rfl, rfl⟩))
  all_goals (go_ret; exact ⟨rfl, rfl⟩)
set_option maxRecDepth 100000 in
theorem w62 (a b : Int) (k c : Nat) (w : World) (h0 : w.cell? ⟨k, 0, none⟩ = some (.int .i64 a)) (h1 : w.cell? ⟨k, 1, none⟩ = some (.int .i64 b)) :
    Calls Tryd.prog 62 #[.slice (some ⟨k, 0, none⟩) 2 c] w fun e w' => e = .returned (.int .i64 (if a ≠ 0 then a else b)) ∧ w' = w := by
  by_cases ha : a = 0
  · subst ha
    rw [if_neg (by simp)]
    by_cases hb : b = 0
    · subst hb
      go_enter Tryd.func62, Tryd.ntmps62
      go_wp2
      refine wp_loop_rounds 4 ?_
      rw [rounds_succ]
      go_wp2
      rw [rounds_succ]
      go_wp2
      rw [rounds_succ]
      go_wp2
      go_ret; exact ⟨rfl, rfl⟩
    · have hb' : (b != 0) = true := by simpa using hb
      go_enter Tryd.func62, Tryd.ntmps62
      go_wp2
      refine wp_loop_rounds 4 ?_
      rw [rounds_succ]
      go_wp2
      rw [rounds_succ]
      go_wp2
      go_ret; exact ⟨rfl, rfl⟩
  · have ha' : (a != 0) = true := by simpa using ha
    rw [if_pos ha]
    go_enter Tryd.func62, Tryd.ntmps62
    go_wp2
    refine wp_loop_rounds 4 ?_
    rw [rounds_succ]
    go_wp2
    go_ret; exact ⟨rfl, rfl⟩
set_option maxRecDepth 100000 in
theorem w38 (a b : Nat) (ha : a ≤ 65535) (hb : b ≤ 65535) (w : World) :
    Calls Tryd.prog 38 #[.int .u16 (a : Int), .int .u16 (b : Int)] w fun e w' => e = .returned (.int .i64 (if cmpI (bsum a 0 16 : Nat) (bsum b 0 16 : Nat) ≠ 0 then cmpI (bsum a 0 16 : Nat) (bsum b 0 16 : Nat) else cmpI a b)) ∧ ∃ q os, w' = grow (w.drewN q) os := by
  have ca := fun W => w64 a W ha
  have cb := fun W => w64 b W hb
  have c65 := fun W => w65 a b W
  generalize (bsum a 0 16 : Int) = x at ca ⊢
  generalize (bsum b 0 16 : Int) = y at cb ⊢
  have c63 := fun W => w63 x y W
  generalize cmpI x y = p at c63 ⊢
  generalize cmpI a b = q at c65 ⊢
  have c62 := fun k c W h0 h1 => w62 p q k c W h0 h1
  generalize (if p ≠ 0 then p else q) = r at c62 ⊢
  go_enter Tryd.func38, Tryd.ntmps38
  go_wp2_with (first
    | (go_at_call 64; first | (refine (ca _).mono ?_; rintro e w' ⟨rfl, rfl⟩) | (refine (cb _).mono ?_; rintro e w' ⟨rfl, rfl⟩))
    | (go_at_call 63; refine (c63 _).mono ?_; rintro e w' ⟨rfl, rfl⟩)
    | (go_at_call 65; refine (c65 _).mono ?_; rintro e w' ⟨rfl, rfl⟩)
    | (go_at_call 62; refine (c62 _ _ _ (by simp) (by simp)).mono ?_; rintro e w' ⟨rfl, rfl⟩))
  go_ret
  refine ⟨rfl, 2, #[.cells #[.int .i64 p, .int .i64 q] 3], ?_⟩
  rw [← alloc_eq_grow]
  rfl
end Go.Abs
