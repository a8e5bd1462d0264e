/- Part 20 of the proof: Pl48a. -/
import Derived.Test.YtgdmeopfikaboaaDoorStparseZ19
namespace Go.Abs
def badB (b : UInt8) : Bool := decide (((b.toNat : Nat) : Int) < 33) || decide (((b.toNat : Nat) : Int) > 126)
/-- 1 to n bytes from 33 to 126 -/
def gr (s : List UInt8) (n : Int) : Bool := !s.any badB && (!(s == []) && decide (((s.length : Nat) : Int) ≤ n))
theorem gr_ne {s : List UInt8} {n : Int} (h : gr s n = true) : (s == []) = false := by
  unfold gr at h
  cases hs : s == []
  · rfl
  · rw [hs] at h; simp at h
theorem f37_eq (s : List UInt8) (n : Int) (hs : s.length ≤ 9223372036854775807) : f37 s n = some (gr s n) := by
  simp only [f37, jn]
  rw [any_up (fun k n => f37_L0 s _ k n) s 0 badB (some false) _ (fun k n hn => by
    show f37_L0 s _ (k + 1) n = _
    conv => lhs; unfold f37_L0
    rw [ifd_pos (by omega), chk_pos (by omega), chk_pos (fun _ => by omega)]
    show (if badB (s.getD n 0) = true then some false else _) = _
    rw [chk_pos (by omega)]) (fun k => by
    show f37_L0 s _ (k + 1) _ = _
    conv => lhs; unfold f37_L0
    rw [ifd_neg (by omega)]) FUEL (fuel_lt (by omega))]
  unfold gr
  cases s.any badB <;> simp
theorem f39_eq (s : List UInt8) (n : Int) (hs : s.length ≤ 9223372036854775807) : f39 s n = some (gr s n) := by
  simp only [f39, jn]
  rw [any_up (fun k n => f39_L0 s _ k n) s 0 badB (some false) _ (fun k n hn => by
    show f39_L0 s _ (k + 1) n = _
    conv => lhs; unfold f39_L0
    rw [ifd_pos (by omega), chk_pos (by omega), chk_pos (fun _ => by omega)]
    show (if badB (s.getD n 0) = true then some false else _) = _
    rw [chk_pos (by omega)]) (fun k => by
    show f39_L0 s _ (k + 1) _ = _
    conv => lhs; unfold f39_L0
    rw [ifd_neg (by omega)]) FUEL (fuel_lt (by omega))]
  have e : decide (((s.length : Nat) : Int) ≥ 1) = !(s == []) := by
    cases s <;> simp <;> omega
  unfold gr
  rw [e]
  cases s.any badB <;> simp
def fld (s : List UInt8) (b : Bool) : Bool := if b then gr s 64 else s == []
theorem f50_eq (s : List UInt8) (b : Bool) (hs : s.length ≤ 9223372036854775807) : f50 s b = some (fld s b) := by
  unfold f50 fld
  cases b
  · rfl
  · rw [f37_eq s 64 hs]; rfl
def kd (k : Int) : List UInt8 × Bool × Bool × Bool :=
  if k = 1 then ([112, 117, 116], true, false, true) else if k = 2 then ([103, 101, 116], true, false, false) else if k = 3 then (cs8, true, false, false) else
  if k = 4 then (cs9, true, false, true) else if k = 5 then ([99, 97, 115], true, true, true) else if k = 6 then (cs6, false, false, false) else ([], false, false, false)
def isK (k : Int) : Bool := decide (1 ≤ k) && decide (k ≤ 6)
def okOp (k : Int) (a b c : List UInt8) : Bool := isK k && fld a (kd k).2.1 && fld b (kd k).2.2.1 && fld c (kd k).2.2.2
theorem kinds (k : Int) : k = 1 ∨ k = 2 ∨ k = 3 ∨ k = 4 ∨ k = 5 ∨ k = 6 ∨ isK k = false := by
  unfold isK
  by_cases h1 : 1 ≤ k
  · by_cases h2 : k ≤ 6
    · omega
    · simp [h1, h2]
  · simp [h1]
theorem isK_not {k : Int} (h : isK k = false) : k ≠ 1 ∧ k ≠ 2 ∧ k ≠ 3 ∧ k ≠ 4 ∧ k ≠ 5 ∧ k ≠ 6 := by
  refine ⟨?_, ?_, ?_, ?_, ?_, ?_⟩ <;> (rintro rfl; cases h)
theorem hasM31 (k : Int) : hasM mk31 k = isK k := by
  rcases kinds k with rfl | rfl | rfl | rfl | rfl | rfl | h
  iterate 6 rfl
  rw [h]
  obtain ⟨h1, h2, h3, h4, h5, h6⟩ := isK_not h
  simp [hasM, mk31, idxL, h1, h2, h3, h4, h5, h6]
theorem getM31 (k : Int) : getM mk31 mv31 (default : List UInt8 × Bool × Bool × Bool) ([], false, false, false) k = kd k := by
  rcases kinds k with rfl | rfl | rfl | rfl | rfl | rfl | h
  iterate 6 rfl
  obtain ⟨h1, h2, h3, h4, h5, h6⟩ := isK_not h
  simp [getM, mk31, idxL, kd, h1, h2, h3, h4, h5, h6]
theorem f35_eq (k : Int) (a b c : List UInt8) (ha : a.length ≤ 9223372036854775807) (hb : b.length ≤ 9223372036854775807) (hc : c.length ≤ 9223372036854775807) :
    f35 k a b c = some ((kd k).1, (kd k).2.1, (kd k).2.2.1, (kd k).2.2.2, okOp k a b c) := by
  unfold f35 f31 okOp
  rw [some_bind, hasM31, getM31, f50_eq a _ ha, f50_eq b _ hb, f50_eq c _ hc]
  cases isK k <;> cases fld a (kd k).2.1 <;> cases fld b (kd k).2.2.1 <;> cases fld c (kd k).2.2.2 <;> rfl
/-- the text of an operation -/
def txt (k : Int) (a b c : List UInt8) : List UInt8 := (kd k).1 ++ (if a == [] then [] else 32 :: a) ++ (if b == [] then [] else 32 :: b) ++ (if c == [] then [] else 32 :: c)
theorem kd_len (k : Int) : (kd k).1.length ≤ 6 := by
  rcases kinds k with rfl | rfl | rfl | rfl | rfl | rfl | h
  iterate 6 decide
  obtain ⟨h1, h2, h3, h4, h5, h6⟩ := isK_not h
  simp [kd, h1, h2, h3, h4, h5, h6]
theorem gr_len {s : List UInt8} {n : Int} (h : gr s n = true) : (s.length : Int) ≤ n := by
  unfold gr at h
  simp only [Bool.and_eq_true, decide_eq_true_eq] at h
  exact h.2.2
theorem fld_len {s : List UInt8} {b : Bool} (h : fld s b = true) : s.length ≤ 64 := by
  unfold fld at h
  cases b
  · simp at h; subst h; simp
  · have := gr_len h; omega
theorem ok_len {k : Int} {a b c : List UInt8} (h : okOp k a b c = true) : a.length ≤ 64 ∧ b.length ≤ 64 ∧ c.length ≤ 64 := by
  unfold okOp at h
  simp only [Bool.and_eq_true] at h
  exact ⟨fld_len h.1.1.2, fld_len h.1.2, fld_len h.2⟩
theorem fuel_succ : ∃ k, FUEL = k + 5 := ⟨FUEL - 5, by unfold FUEL; omega⟩
theorem joinP_some {l : List (List UInt8)} {r : List UInt8} (h : Lib.join l [32] = r) (h1 : r.length ≤ 140737488355328) (h2 : l.length ≤ 140737488355328) : joinP l [32] = some r := by
  unfold joinP
  rw [h, if_pos ⟨h1, h2⟩]
theorem f13_eq (k : Int) (a b c : List UInt8) (ha : a.length ≤ 9223372036854775807) (hb : b.length ≤ 9223372036854775807) (hc : c.length ≤ 9223372036854775807) :
    f13 k a b c = some (if okOp k a b c = true then (txt k a b c, 0) else ([], 1)) := by
  unfold f13
  rw [f35_eq k a b c ha hb hc, some_bind]
  have hlen := @ok_len k a b c
  revert hlen
  cases okOp k a b c
  · intro _; rfl
  intro hlen
  have hlen := hlen rfl
  have hk := kd_len k
  simp only [Bool.not_true, Bool.false_eq_true, if_false, if_true]
  obtain ⟨q, hq⟩ := fuel_succ
  simp only [jn]
  rw [hq]
  generalize hw : (kd k).1 = w at hk
  have step : ∀ K, f13_L0 a b c K (q + 5) (0, [w]) = K ([w] ++ (if a == [] then [] else [a]) ++ (if b == [] then [] else [b]) ++ (if c == [] then [] else [c])) := by
    intro K
    cases ha : a == [] <;> cases hb : b == [] <;> cases hc : c == [] <;> simp [f13_L0, ha, hb, hc, chk, jn]
  rw [step]
  unfold f36
  have hj : Lib.join ([w] ++ (if a == [] then [] else [a]) ++ (if b == [] then [] else [b]) ++ (if c == [] then [] else [c])) [32] = txt k a b c := by
    unfold txt
    rw [hw]
    cases ha : a == [] <;> cases hb : b == [] <;> cases hc : c == [] <;> simp [Lib.join, List.intercalate]
  have hl : (txt k a b c).length ≤ 140737488355328 := by
    unfold txt
    rw [hw]
    cases ha : a == [] <;> cases hb : b == [] <;> cases hc : c == [] <;> simp <;> omega
  rw [joinP_some hj hl (by cases ha : a == [] <;> cases hb : b == [] <;> cases hc : c == [] <;> simp)]
  rfl
theorem f34_eq (k : Int) : f34 k = some (kd k).1 := by
  rcases kinds k with rfl | rfl | rfl | rfl | rfl | rfl | h
  iterate 6 rfl
  have h0 := h
  unfold isK at h0
  have h' : (decide (k < 1) || decide (k > 6)) = true := by
    simp only [Bool.and_eq_false_iff, decide_eq_false_iff_not, Bool.or_eq_true, decide_eq_true_eq] at h0 ⊢
    omega
  obtain ⟨h1, h2, h3, h4, h5, h6⟩ := isK_not h
  unfold f34
  rw [if_pos h']
  simp [kd, h1, h2, h3, h4, h5, h6]
theorem kd_ne (k : Int) : ((kd k).1 == []) = !isK k := by
  rcases kinds k with rfl | rfl | rfl | rfl | rfl | rfl | h
  iterate 6 rfl
  obtain ⟨h1, h2, h3, h4, h5, h6⟩ := isK_not h
  simp [kd, h, h1, h2, h3, h4, h5, h6]
theorem f22_eq (k : Int) (a b c : List UInt8) (ha : a.length ≤ 9223372036854775807) (hb : b.length ≤ 9223372036854775807) (hc : c.length ≤ 9223372036854775807) :
    f22 k a b c = some (if okOp k a b c = true then (txt k a b c, 0) else ([], 1)) := by
  have e38 : ∀ s : List UInt8, s.length ≤ 9223372036854775807 → f38 s = some (gr s 64) := fun s hs => by unfold f38; rw [f39_eq s 64 hs]; rfl
  unfold f22
  rw [f34_eq, some_bind, e38 a ha, e38 b hb, e38 c hc, kd_ne]
  have na := @gr_ne a 64
  have nb := @gr_ne b 64
  have nc := @gr_ne c 64
  have hk := kd_len k
  unfold okOp fld txt
  have la := @gr_len a 64
  have lb := @gr_len b 64
  have lc := @gr_len c 64
  generalize ga : gr a 64 = va at *
  generalize gb : gr b 64 = vb at *
  generalize gc : gr c 64 = vc at *
  generalize ea : (a == []) = wa at *
  generalize eb : (b == []) = wb at *
  generalize ec : (c == []) = wc at *
  rcases kinds k with rfl | rfl | rfl | rfl | rfl | rfl | h
  iterate 6
    cases va <;> cases vb <;> cases vc <;> cases wa <;> cases wb <;> cases wc <;> first | (exfalso; simp at na; done) | (exfalso; simp at nb; done) | (exfalso; simp at nc; done) | (simp [optc, chk, isK, kd, jn, cs6, cs8, cs9]; done) | (simp [optc, chk, isK, kd, jn, cs8, cs9]; simp at la lb lc; omega) | (simp [optc, chk, isK, kd, jn, some_bind, cs6, cs8, cs9]; simp at la lc; omega) | (simp [optc, chk, isK, kd, jn, some_bind, cs6, cs8, cs9]; simp at la; omega)
  · rw [h]; rfl
end Go.Abs
