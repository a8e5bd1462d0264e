/- awake of chapter 08 returns true: by evaluation. -/
import Derived.Test.YtncjecbhohcfoaaDoorX08P3
namespace Go.Abs
def scan : Nat → List Bool → List (BitVec 16)
  | _, [] => []
  | i, b :: t => if b then BitVec.ofInt 16 ((i : Nat) : Int) :: scan (i + 1) t else scan (i + 1) t
theorem scan_len : ∀ (l : List Bool) (i : Nat), (scan i l).length ≤ l.length
  | [], i => by simp [scan]
  | b :: t, i => by
    have := scan_len t (i + 1)
    unfold scan
    split <;> simp <;> omega
theorem f21_L2_eq (l9 : List Bool) (K3 : (List (BitVec 16)) → Option (List (BitVec 16) × Int)) : ∀ (k n : Nat) (acc : List (BitVec 16)), n ≤ l9.length → l9.length - n < k → l9.length ≤ 65536 → acc.length ≤ n →
    f21_L2 l9 K3 k (n, acc) = K3 (acc ++ scan n (l9.drop n)) := by
  intro k
  induction k with
  | zero => intro n acc hn hk; omega
  | succ k ih =>
    intro n acc hn hk hl ha
    rw [f21_L2.eq_2]
    by_cases h : n < l9.length
    · rw [if_pos (by simp; omega)]
      rw [List.drop_eq_getElem_cons h]
      have hg : l9.getD n false = l9[n] := by simp [List.getD_eq_getElem?_getD, h]
      unfold jn
      simp only [scan]
      unfold chk
      rw [if_pos (by omega), if_pos h, hg]
      split
      · rw [if_pos (by omega), if_pos (by omega), ih (n + 1) _ (by omega) (by omega) hl (by simp; omega)]
        simp
      · rw [if_pos (by omega), ih (n + 1) _ (by omega) (by omega) hl (by omega)]
    · have e : n = l9.length := by omega
      subst e
      rw [if_neg (by simp)]
      simp [scan]
def f21' (x1 : List (BitVec 16)) (x2 : List (BitVec 16)) : Option (List (BitVec 16) × Int) :=
  (f48 x1 x2).bind fun (r3 : Int) =>
  if (r3 != (0 : Int)) then (
  some ([], r3)
  ) else (
  jn (fun (l9 : List Bool) =>
  jn (fun (l13 : List (BitVec 16)) =>
  (f43 l13).bind fun (r14 : List (BitVec 16)) =>
  (f49 r14).bind fun (r15 : List (BitVec 16) × Int) =>
  some (r15.1, r15.2)
  ) fun (K3 : (List (BitVec 16)) → Option (List (BitVec 16) × Int)) =>
  if l9.length ≤ 65536 then K3 (scan 0 l9) else f21_L2 l9 K3 FUEL (0, [])
  ) fun (K1 : (List Bool) → Option (List (BitVec 16) × Int)) =>
  f21_L0 x1 x2 K1 FUEL (0, (List.replicate 4096 false))
  )
theorem f21_eq (x1 x2 : List (BitVec 16)) : f21 x1 x2 = f21' x1 x2 := by
  unfold f21 f21'
  refine congrArg (Option.bind (f48 x1 x2)) (funext fun r3 => ?_)
  by_cases h : (r3 != (0 : Int)) = true
  · rw [if_pos h, if_pos h]
  · rw [if_neg h, if_neg h]
    refine congrArg (fun K1 => f21_L0 x1 x2 K1 FUEL (0, List.replicate 4096 false)) (funext fun l9 => ?_)
    unfold jn
    dsimp only
    by_cases hl : l9.length ≤ 65536
    · rw [if_pos hl, f21_L2_eq l9 _ FUEL 0 [] (by omega) (by unfold FUEL; omega) hl (by simp)]
      simp
    · rw [if_neg hl]
theorem t21 : f21 [BitVec.ofInt 16 3, BitVec.ofInt 16 5, BitVec.ofInt 16 6] [BitVec.ofInt 16 8] = some ([11#16, 13#16, 14#16], 0) := by
  rw [f21_eq]; kernel_rfl
theorem f10_true : f10 = some true := by
  unfold f10
  rw [t21]
  kernel_rfl
end Go.Abs
