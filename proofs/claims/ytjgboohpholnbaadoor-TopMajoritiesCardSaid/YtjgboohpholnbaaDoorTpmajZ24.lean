/- Part 24 of the proof: FtpLaw4. -/
import Derived.Test.YtjgboohpholnbaaDoorTpmajZ23
namespace Go.Abs
theorem f4_of (x1 : Int) (h0 : 0 ≤ x1) (h1 : x1 ≤ 255) (k : Nat) (hk : 1 + x1 % 9 = (k : Int)) (h9 : 1 ≤ k ∧ k ≤ 9) (hp : PM k) : f4 x1 = some true := by
  obtain ⟨X, R, l, e1, e2, e3, e4, e5, e6, e7⟩ := hp
  unfold f4
  rw [chk_pos (by omega), chk_pos (by omega), chk_pos (by omega), hk, e1, some_bind, e2, some_bind]
  dsimp only
  rw [show (((0 : Int) != (0 : Int)) || ((0 : Int) != (0 : Int))) = false from rfl, show ((false : Bool) == false) = true from rfl, optc_t, e3, some_bind]
  rw [if_neg (by simp), jn_eq]
  have hm2 : ((k : Int) % 2 == 0) = decide (k % 2 = 0) := by rw [Bool.eq_iff_iff, beq_iff_eq, decide_eq_true_iff]; omega
  have hm3 : ((k : Int) % 2 == 1) = decide (k % 2 = 1) := by rw [Bool.eq_iff_iff, beq_iff_eq, decide_eq_true_iff]; omega
  have hl : ∀ (K : Unit → Option Bool) c q n, n + c = l.length → c < q → f4_L0 x1 (l, 0) K q n = K () := by
    intro K c
    induction c with
    | zero =>
      intro q n hn hq
      obtain ⟨q, rfl⟩ : ∃ z, q = z + 1 := ⟨q - 1, by omega⟩
      rw [f4_L0.eq_2, ifd_neg (by dsimp only; omega)]
    | succ c ih =>
      intro q n hn hq
      obtain ⟨q, rfl⟩ : ∃ z, q = z + 1 := ⟨q - 1, by omega⟩
      have hs := e7 (l.getD n 0#16) (getD_memS (by omega))
      rw [f4_L0.eq_2, ifd_pos (by dsimp only; omega), chk_pos (by dsimp only; omega)]
      dsimp only
      rw [f17_eq, some_bind, hk, hs, chk_pos (by omega), chk_pos (by omega), if_neg (by
        have : ((k / 2 + 1 : Nat) : Int) = (k : Int) / 2 + 1 := by omega
        rw [this]; simp), chk_pos (by omega), ih q (n + 1) (by omega) (by omega)]
  rw [hl _ l.length FUEL 0 (by omega) (fuel_lt (by omega)), e4, some_bind]
  dsimp only
  rw [hm2, hm3]
  have hb : (((0 : Int) == 0) && (decide (k % 2 = 0) == decide (k % 2 = 0))) = true := by simp
  rw [hb, show ((true : Bool) == true) = true from rfl, optc_t, e5, some_bind, chk_pos (by intro; omega), chk_pos (by intro; omega)]
  simp
theorem f4_true (x1 : Int) (h0 : 0 ≤ x1) (h1 : x1 ≤ 255) : f4 x1 = some true := by
  have h : x1 % 9 = 0 ∨ x1 % 9 = 1 ∨ x1 % 9 = 2 ∨ x1 % 9 = 3 ∨ x1 % 9 = 4 ∨ x1 % 9 = 5 ∨ x1 % 9 = 6 ∨ x1 % 9 = 7 ∨ x1 % 9 = 8 := by omega
  rcases h with h | h | h | h | h | h | h | h | h
  · exact f4_of x1 h0 h1 1 (by omega) (by omega) hPm1
  · exact f4_of x1 h0 h1 2 (by omega) (by omega) hPm2
  · exact f4_of x1 h0 h1 3 (by omega) (by omega) hPm3
  · exact f4_of x1 h0 h1 4 (by omega) (by omega) hPm4
  · exact f4_of x1 h0 h1 5 (by omega) (by omega) hPm5
  · exact f4_of x1 h0 h1 6 (by omega) (by omega) hPm6
  · exact f4_of x1 h0 h1 7 (by omega) (by omega) hPm7
  · exact f4_of x1 h0 h1 8 (by omega) (by omega) hPm8
  · exact f4_of x1 h0 h1 9 (by omega) (by omega) hPm9
end Go.Abs
