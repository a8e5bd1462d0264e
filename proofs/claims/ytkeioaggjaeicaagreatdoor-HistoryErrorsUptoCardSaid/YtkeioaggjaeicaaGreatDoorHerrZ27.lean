/- Part 27 of the proof: PlU. -/
import Derived.Test.YtkeioaggjaeicaaGreatDoorHerrZ26
import Derived.Lib.SplitLaws
import Derived.Lib.ItoaLen
import Derived.Lib.ItoaMem
namespace Go.Abs
def badB (b : UInt8) : Bool := decide (((b.toNat : Nat) : Int) < 33) || decide (((b.toNat : Nat) : Int) > 126)
/-- 1 to n bytes from 33 to 126 -/
def gr (s : List UInt8) (n : Int) : Bool := !s.any badB && (!(s == []) && decide (((s.length : Nat) : Int) ≤ n))
theorem gr_ne {s : List UInt8} {n : Int} (h : gr s n = true) : (s == []) = false := by
  unfold gr at h
  cases hs : s == []
  · rfl
  · rw [hs] at h; simp at h
theorem f132_eq (s : List UInt8) (n : Int) (hs : s.length ≤ 9223372036854775807) : f132 s n = some (gr s n) := by
  simp only [f132, jn]
  rw [any_up (fun k n => f132_L0 s _ k n) s 0 badB (some false) _ (fun k n hn => by
    show f132_L0 s _ (k + 1) n = _
    conv => lhs; unfold f132_L0
    rw [ifd_pos (by omega), chk_pos (by omega), chk_pos (fun _ => by omega)]
    show (if badB (s.getD n 0) = true then some false else _) = _
    rw [chk_pos (by omega)]) (fun k => by
    show f132_L0 s _ (k + 1) _ = _
    conv => lhs; unfold f132_L0
    rw [ifd_neg (by omega)]) FUEL (fuel_lt (by omega))]
  unfold gr
  cases s.any badB <;> simp
theorem f104_eq (s : List UInt8) (n : Int) (hs : s.length ≤ 9223372036854775807) : f104 s n = some (gr s n) := by
  simp only [f104, jn]
  rw [any_up (fun k n => f104_L0 s _ k n) s 0 badB (some false) _ (fun k n hn => by
    show f104_L0 s _ (k + 1) n = _
    conv => lhs; unfold f104_L0
    rw [ifd_pos (by omega), chk_pos (by omega), chk_pos (fun _ => by omega)]
    show (if badB (s.getD n 0) = true then some false else _) = _
    rw [chk_pos (by omega)]) (fun k => by
    show f104_L0 s _ (k + 1) _ = _
    conv => lhs; unfold f104_L0
    rw [ifd_neg (by omega)]) FUEL (fuel_lt (by omega))]
  have e : decide (((s.length : Nat) : Int) ≥ 1) = !(s == []) := by
    cases s <;> simp <;> omega
  unfold gr
  rw [e]
  cases s.any badB <;> simp
def fld (s : List UInt8) (b : Bool) : Bool := if b then gr s 64 else s == []
theorem f110_eq (s : List UInt8) (b : Bool) (hs : s.length ≤ 9223372036854775807) : f110 s b = some (fld s b) := by
  unfold f110 fld
  cases b
  · rfl
  · rw [f132_eq s 64 hs]; rfl
def kd (k : Int) : List UInt8 × Bool × Bool × Bool :=
  if k = 1 then ([112, 117, 116], true, false, true) else if k = 2 then ([103, 101, 116], true, false, false) else if k = 3 then (cs3, true, false, false) else
  if k = 4 then (cs4, true, false, true) else if k = 5 then ([99, 97, 115], true, true, true) else if k = 6 then (cs5, false, false, false) else ([], false, false, false)
def isK (k : Int) : Bool := decide (1 ≤ k) && decide (k ≤ 6)
def okOp (k : Int) (a b c : List UInt8) : Bool := isK k && fld a (kd k).2.1 && fld b (kd k).2.2.1 && fld c (kd k).2.2.2
theorem kinds (k : Int) : k = 1 ∨ k = 2 ∨ k = 3 ∨ k = 4 ∨ k = 5 ∨ k = 6 ∨ isK k = false := by
  unfold isK
  by_cases h1 : 1 ≤ k
  · by_cases h2 : k ≤ 6
    · omega
    · simp [h1, h2]
  · simp [h1]
theorem isK_not {k : Int} (h : isK k = false) : k ≠ 1 ∧ k ≠ 2 ∧ k ≠ 3 ∧ k ≠ 4 ∧ k ≠ 5 ∧ k ≠ 6 := by
  refine ⟨?_, ?_, ?_, ?_, ?_, ?_⟩ <;> (rintro rfl; cases h)
theorem hasM31 (k : Int) : hasM mk65 k = isK k := by
  rcases kinds k with rfl | rfl | rfl | rfl | rfl | rfl | h
  iterate 6 rfl
  rw [h]
  obtain ⟨h1, h2, h3, h4, h5, h6⟩ := isK_not h
  simp [hasM, mk65, idxL, h1, h2, h3, h4, h5, h6]
theorem getM31 (k : Int) : getM mk65 mv65 (default : List UInt8 × Bool × Bool × Bool) ([], false, false, false) k = kd k := by
  rcases kinds k with rfl | rfl | rfl | rfl | rfl | rfl | h
  iterate 6 rfl
  obtain ⟨h1, h2, h3, h4, h5, h6⟩ := isK_not h
  simp [getM, mk65, idxL, kd, h1, h2, h3, h4, h5, h6]
theorem f83_eq (k : Int) (a b c : List UInt8) (ha : a.length ≤ 9223372036854775807) (hb : b.length ≤ 9223372036854775807) (hc : c.length ≤ 9223372036854775807) :
    f83 k a b c = some ((kd k).1, (kd k).2.1, (kd k).2.2.1, (kd k).2.2.2, okOp k a b c) := by
  unfold f83 f65 okOp
  rw [some_bind, hasM31, getM31, f110_eq a _ ha, f110_eq b _ hb, f110_eq c _ hc]
  cases isK k <;> cases fld a (kd k).2.1 <;> cases fld b (kd k).2.2.1 <;> cases fld c (kd k).2.2.2 <;> rfl
/-- the text of an operation -/
def txt (k : Int) (a b c : List UInt8) : List UInt8 := (kd k).1 ++ (if a == [] then [] else 32 :: a) ++ (if b == [] then [] else 32 :: b) ++ (if c == [] then [] else 32 :: c)
theorem kd_len (k : Int) : (kd k).1.length ≤ 6 := by
  rcases kinds k with rfl | rfl | rfl | rfl | rfl | rfl | h
  iterate 6 decide
  obtain ⟨h1, h2, h3, h4, h5, h6⟩ := isK_not h
  simp [kd, h1, h2, h3, h4, h5, h6]
theorem gr_len {s : List UInt8} {n : Int} (h : gr s n = true) : (s.length : Int) ≤ n := by
  unfold gr at h
  simp only [Bool.and_eq_true, decide_eq_true_eq] at h
  exact h.2.2
theorem fld_len {s : List UInt8} {b : Bool} (h : fld s b = true) : s.length ≤ 64 := by
  unfold fld at h
  cases b
  · simp at h; subst h; simp
  · have := gr_len h; omega
theorem ok_len {k : Int} {a b c : List UInt8} (h : okOp k a b c = true) : a.length ≤ 64 ∧ b.length ≤ 64 ∧ c.length ≤ 64 := by
  unfold okOp at h
  simp only [Bool.and_eq_true] at h
  exact ⟨fld_len h.1.1.2, fld_len h.1.2, fld_len h.2⟩
theorem fuel_succ : ∃ k, FUEL = k + 5 := ⟨FUEL - 5, by unfold FUEL; omega⟩
theorem joinP_some {l : List (List UInt8)} {r : List UInt8} (h : Lib.join l [32] = r) (h1 : r.length ≤ 140737488355328) (h2 : l.length ≤ 140737488355328) : joinP l [32] = some r := by
  unfold joinP
  rw [h, if_pos ⟨h1, h2⟩]
theorem f67_eq (k : Int) (a b c : List UInt8) (ha : a.length ≤ 9223372036854775807) (hb : b.length ≤ 9223372036854775807) (hc : c.length ≤ 9223372036854775807) :
    f67 k a b c = some (if okOp k a b c = true then (txt k a b c, 0) else ([], 1)) := by
  unfold f67
  rw [f83_eq k a b c ha hb hc, some_bind]
  have hlen := @ok_len k a b c
  revert hlen
  cases okOp k a b c
  · intro _; rfl
  intro hlen
  have hlen := hlen rfl
  have hk := kd_len k
  simp only [Bool.not_true, Bool.false_eq_true, if_false, if_true]
  obtain ⟨q, hq⟩ := fuel_succ
  simp only [jn]
  rw [hq]
  generalize hw : (kd k).1 = w at hk
  have step : ∀ K, f67_L0 a b c K (q + 5) (0, [w]) = K ([w] ++ (if a == [] then [] else [a]) ++ (if b == [] then [] else [b]) ++ (if c == [] then [] else [c])) := by
    intro K
    cases ha : a == [] <;> cases hb : b == [] <;> cases hc : c == [] <;> simp [f67_L0, ha, hb, hc, chk, jn]
  rw [step]
  unfold f103
  have hj : Lib.join ([w] ++ (if a == [] then [] else [a]) ++ (if b == [] then [] else [b]) ++ (if c == [] then [] else [c])) [32] = txt k a b c := by
    unfold txt
    rw [hw]
    cases ha : a == [] <;> cases hb : b == [] <;> cases hc : c == [] <;> simp [Lib.join, List.intercalate]
  have hl : (txt k a b c).length ≤ 140737488355328 := by
    unfold txt
    rw [hw]
    cases ha : a == [] <;> cases hb : b == [] <;> cases hc : c == [] <;> simp <;> omega
  rw [joinP_some hj hl (by cases ha : a == [] <;> cases hb : b == [] <;> cases hc : c == [] <;> simp)]
  rfl
theorem f52_eq (k : Int) : f52 k = some (kd k).1 := by
  rcases kinds k with rfl | rfl | rfl | rfl | rfl | rfl | h
  iterate 6 rfl
  have h0 := h
  unfold isK at h0
  have h' : (decide (k < 1) || decide (k > 6)) = true := by
    simp only [Bool.and_eq_false_iff, decide_eq_false_iff_not, Bool.or_eq_true, decide_eq_true_eq] at h0 ⊢
    omega
  obtain ⟨h1, h2, h3, h4, h5, h6⟩ := isK_not h
  unfold f52
  rw [if_pos h']
  simp [kd, h1, h2, h3, h4, h5, h6]
theorem kd_ne (k : Int) : ((kd k).1 == []) = !isK k := by
  rcases kinds k with rfl | rfl | rfl | rfl | rfl | rfl | h
  iterate 6 rfl
  obtain ⟨h1, h2, h3, h4, h5, h6⟩ := isK_not h
  simp [kd, h, h1, h2, h3, h4, h5, h6]
theorem f53_eq (k : Int) (a b c : List UInt8) (ha : a.length ≤ 9223372036854775807) (hb : b.length ≤ 9223372036854775807) (hc : c.length ≤ 9223372036854775807) :
    f53 k a b c = some (if okOp k a b c = true then (txt k a b c, 0) else ([], 1)) := by
  have e38 : ∀ s : List UInt8, s.length ≤ 9223372036854775807 → f68 s = some (gr s 64) := fun s hs => by unfold f68; rw [f104_eq s 64 hs]; rfl
  unfold f53
  rw [f52_eq, some_bind, e38 a ha, e38 b hb, e38 c hc, kd_ne]
  have na := @gr_ne a 64
  have nb := @gr_ne b 64
  have nc := @gr_ne c 64
  have hk := kd_len k
  unfold okOp fld txt
  have la := @gr_len a 64
  have lb := @gr_len b 64
  have lc := @gr_len c 64
  generalize ga : gr a 64 = va at *
  generalize gb : gr b 64 = vb at *
  generalize gc : gr c 64 = vc at *
  generalize ea : (a == []) = wa at *
  generalize eb : (b == []) = wb at *
  generalize ec : (c == []) = wc at *
  rcases kinds k with rfl | rfl | rfl | rfl | rfl | rfl | h
  iterate 6
    cases va <;> cases vb <;> cases vc <;> cases wa <;> cases wb <;> cases wc <;> first | (exfalso; simp at na; done) | (exfalso; simp at nb; done) | (exfalso; simp at nc; done) | (simp [optc, chk, isK, kd, jn, cs5, cs3, cs4]; done) | (simp [optc, chk, isK, kd, jn, cs3, cs4]; simp at la lb lc; omega) | (simp [optc, chk, isK, kd, jn, some_bind, cs5, cs3, cs4]; simp at la lc; omega) | (simp [optc, chk, isK, kd, jn, some_bind, cs5, cs3, cs4]; simp at la; omega)
  · rw [h]; rfl

/-- the parts between spaces -/
def spl : List UInt8 → List (List UInt8)
  | [] => [[]]
  | c :: l => if c = 32 then [] :: spl l else match spl l with
    | [] => [[c]]
    | w :: r => (c :: w) :: r
theorem spl_ne (l : List UInt8) : ∃ w r, spl l = w :: r := by
  cases l with
  | nil => exact ⟨_, _, rfl⟩
  | cons c l =>
    unfold spl
    split
    · exact ⟨_, _, rfl⟩
    · split <;> exact ⟨_, _, rfl⟩
theorem spl_cons {c : UInt8} {l w : List UInt8} {r : List (List UInt8)} (hc : c ≠ 32) (h : spl l = w :: r) : spl (c :: l) = (c :: w) :: r := by
  conv => lhs; unfold spl
  rw [if_neg hc, h]
theorem spl_sp (l : List UInt8) : spl (32 :: l) = [] :: spl l := rfl
theorem split_spl : ∀ l : List UInt8, Lib.split l [32] = spl l
  | [] => by
    unfold Lib.split
    rw [Lib.count_one]; rfl
  | b :: l => by
    have ih := split_spl l
    have hp : ([32] : List UInt8).isPrefixOf (b :: l) = (b == 32) := by simp [List.isPrefixOf, BEq.comm]
    by_cases h : b = 32
    · subst h
      have hix : Lib.index (32 :: l) [32] = 0 := by rw [Lib.index]; simp [List.isPrefixOf]
      have hc : Lib.count (32 :: l) [32] = Lib.count l [32] + 1 := by rw [Lib.count_cons_eq]; omega
      unfold Lib.split at ih ⊢
      rw [hc]
      unfold Lib.splitK
      rw [hix, if_neg (by decide), spl_sp, ← ih]
      rfl
    · have hix : Lib.index (b :: l) [32] = if Lib.index l [32] == -1 then -1 else Lib.index l [32] + 1 := by
        rw [Lib.index, hp]; simp [h]
      have hc : Lib.count (b :: l) [32] = Lib.count l [32] := Lib.count_cons_ne b 32 l h
      unfold Lib.split at ih ⊢
      rw [hc]
      by_cases hm : Lib.index l [32] = -1
      · rw [Lib.count_miss hm] at ih ⊢
        rw [spl_cons h ih.symm]
        rfl
      · have hge := Lib.index_ge l [32]
        obtain ⟨j, hj⟩ : ∃ j : Nat, Lib.index l [32] = j := ⟨(Lib.index l [32]).toNat, by omega⟩
        obtain ⟨m, hm'⟩ : ∃ m, Lib.count l [32] = m + 1 := ⟨Lib.count (l.drop (j + ([32] : List UInt8).length)) [32], by rw [Lib.count_hit (by simp) hj]; omega⟩
        rw [hm'] at ih ⊢
        unfold Lib.splitK at ih ⊢
        have hm1 : ¬ (Lib.index l [32] == -1) = true := by simpa using hm
        rw [hix, if_neg hm1]
        rw [if_neg hm1] at ih
        rw [spl_cons h ih.symm, if_neg (by simp; omega)]
        have e1 : (Lib.index l [32] + 1).toNat + 0 = (Lib.index l [32]).toNat + 0 + 1 := by omega
        have e2 : (Lib.index l [32] + 1).toNat + [32].length = (Lib.index l [32]).toNat + ([32] : List UInt8).length + 1 := by simp; omega
        rw [e1, List.take_succ_cons]
        congr 1
        have e2' : (Lib.index l [32] + 1).toNat + ([32] : List UInt8).length = ((Lib.index l [32]).toNat + ([32] : List UInt8).length) + 1 := by simp; omega
        rw [e2', List.drop_succ_cons]
theorem spl_mem : ∀ (l : List UInt8) (w : List UInt8), w ∈ spl l → w.length ≤ l.length
  | [], w, h => by
    simp [spl] at h; subst h; exact Nat.le_refl _
  | c :: l, w, h => by
    by_cases hc : c = 32
    · subst hc
      rw [spl_sp] at h
      rcases List.mem_cons.1 h with rfl | h
      · exact Nat.zero_le _
      · have := spl_mem l w h; simp; omega
    · obtain ⟨v, r, hv⟩ := spl_ne l
      rw [spl_cons hc hv] at h
      rcases List.mem_cons.1 h with rfl | h
      · have := spl_mem l v (by rw [hv]; exact List.mem_cons_self ..); simp; omega
      · have := spl_mem l w (by rw [hv]; exact List.mem_cons_of_mem _ h); simp; omega
/-- a word has no space -/
def noSp (w : List UInt8) : Prop := ∀ c, c ∈ w → c ≠ 32
theorem spl_word : ∀ (w : List UInt8), noSp w → spl w = [w]
  | [], _ => rfl
  | c :: w, h => spl_cons (h c (List.mem_cons_self ..)) (spl_word w fun d hd => h d (List.mem_cons_of_mem _ hd))
theorem spl_app : ∀ (w l : List UInt8), noSp w → spl (w ++ 32 :: l) = w :: spl l
  | [], _l, _ => rfl
  | c :: w, l, h => spl_cons (h c (List.mem_cons_self ..)) (spl_app w l fun d hd => h d (List.mem_cons_of_mem _ hd))
theorem gr_sp {s : List UInt8} {n : Int} (h : gr s n = true) : noSp s := by
  rintro c hc rfl
  unfold gr at h
  have : s.any badB = true := List.any_eq_true.2 ⟨32, hc, by decide⟩
  rw [this] at h
  cases h
theorem kd_sp (k : Int) : noSp (kd k).1 := by
  have : ∀ c, c ∈ (kd k).1 → (c == 32) = false := by
    have : (kd k).1.all (fun c => !(c == 32)) = true := by
      rcases kinds k with rfl | rfl | rfl | rfl | rfl | rfl | h
      iterate 6 rfl
      obtain ⟨h1, h2, h3, h4, h5, h6⟩ := isK_not h
      simp [kd, h1, h2, h3, h4, h5, h6]
    intro c hc
    simpa using List.all_eq_true.1 this c hc
  intro c hc e
  have := this c hc
  simp [e] at this
/-- Split of the specification -/
theorem f51_eq (x : List UInt8) (hx : x.length ≤ 1048576) : f51 x = some (spl x) := by
  have main : ∀ (K : List (List UInt8) → Option (List (List UInt8))) (c k n b : Nat) (l : List (List UInt8)) (w : List UInt8) (r : List (List UInt8)), n + c = x.length → b ≤ n → c + 1 < k → l.length ≤ n → spl (x.drop n) = w :: r →
      f51_L0 x K k (b, n, l) = K (l ++ (((x.take n).drop b ++ w) :: r)) := by
    intro K c
    induction c with
    | zero =>
      intro k n b l w r hn hb hk hl hs
      obtain ⟨k, rfl⟩ : ∃ q, k = q + 2 := ⟨k - 2, by omega⟩
      obtain rfl : n = x.length := by omega
      rw [List.drop_eq_nil_of_le (Nat.le_refl _)] at hs
      cases hs
      conv => lhs; unfold f51_L0
      rw [ifd_pos (by omega), jn_eq, chk_pos (fun h => by simp at h)]
      have e : (((x.length : Nat) : Int) == ((x.length : Nat) : Int) || (((x.getD x.length 0).toNat : Nat) : Int) == 32) = true := by simp
      rw [if_pos e, chk_pos (by omega), chk_pos (by omega), chk_pos (by omega)]
      simp only []
      rw [chk_pos (by omega)]
      conv => lhs; unfold f51_L0
      rw [ifd_neg (by omega)]
      simp
    | succ c ih =>
      intro k n b l w r hn hb hk hl hs
      obtain ⟨k, rfl⟩ : ∃ q, k = q + 1 := ⟨k - 1, by omega⟩
      have hlt : n < x.length := by omega
      rw [getD_drop x n 0 hlt] at hs
      conv => lhs; unfold f51_L0
      rw [ifd_pos (by omega), jn_eq, chk_pos (fun _ => by omega)]
      have e0 : (((n : Nat) : Int) == ((x.length : Nat) : Int)) = false := by simp; omega
      rw [e0, Bool.false_or]
      have et : (x.take (n + 1)) = x.take n ++ [x.getD n 0] := by
        rw [List.take_add_one]; simp [List.getD_eq_getElem?_getD, hlt]
      by_cases hc : x.getD n 0 = 32
      · rw [hc, spl_sp] at hs
        obtain ⟨w', r', hw'⟩ := spl_ne (x.drop (n + 1))
        rw [hw'] at hs
        cases hs
        rw [if_pos (by rw [hc]; rfl), chk_pos (by omega), chk_pos (by omega), chk_pos (by omega)]
        simp only []
        rw [chk_pos (by omega), ih k (n + 1) (n + 1) _ w' r' (by omega) (Nat.le_refl _) (by omega) (by simp; omega) hw']
        congr 1
        rw [List.drop_eq_nil_of_le (show (x.take (n + 1)).length ≤ n + 1 by rw [List.length_take]; omega)]
        simp
      · have hc' : (x.getD n 0).toNat ≠ 32 := fun h => hc (by
          apply UInt8.toNat.inj; rw [h]; rfl)
        rw [if_neg (by simp only [beq_iff_eq]; omega)]
        simp only []
        obtain ⟨w', r', hw'⟩ := spl_ne (x.drop (n + 1))
        rw [spl_cons hc hw'] at hs
        cases hs
        rw [chk_pos (by omega), ih k (n + 1) b _ w' r (by omega) (by omega) (by omega) (by omega) hw']
        congr 2
        rw [et, List.drop_append_of_le_length (by simp; omega)]
        simp
  obtain ⟨w, r, hw⟩ := spl_ne x
  unfold f51
  simp only [jn]
  rw [main _ x.length FUEL 0 0 [] w r (by omega) (Nat.le_refl _) (by unfold FUEL; omega) (Nat.le_refl _) (by simpa using hw)]
  rw [hw]
  simp

abbrev OpR := Int × List UInt8 × List UInt8 × List UInt8 × Int
theorem nextO_of {R : Type} [DecidableEq R] {n : Nat} {seen : List Nat} {K : Nat → Option R} {E : Option R} {r : R} (h1 : ∀ j, j < n → j ∉ seen → K j = some r) (h2 : (∀ j, j < n → j ∈ seen) → E = some r) : nextO n seen K E = some r := by
  have hm : ∀ j, j ∈ (List.range n).filter (fun j => !seen.contains j) ↔ j < n ∧ j ∉ seen := by
    intro j
    rw [List.mem_filter, List.mem_range]
    simp
  unfold nextO
  split
  · rename_i he
    refine h2 fun j hj => Decidable.byContradiction fun hs => ?_
    have := (hm j).2 ⟨hj, hs⟩
    rw [he] at this; cases this
  · rename_i l hl
    have hall : ∀ y, y ∈ ((List.range n).filter (fun j => !seen.contains j)).map K → y = some r := by
      intro y hy
      obtain ⟨j, hj, rfl⟩ := List.mem_map.1 hy
      have := (hm j).1 hj
      exact h1 j this.1 this.2
    revert hall
    generalize (List.range n).filter (fun j => !seen.contains j) = l at hl
    intro hall
    cases l with
    | nil => exact absurd rfl hl
    | cons a l =>
      simp only [List.map_cons, agree]
      rw [hall (K a) (List.mem_cons_self ..), if_pos]
      rw [List.all_eq_true]
      intro y hy
      exact decide_eq_true (hall y (List.mem_cons_of_mem _ hy))
def tk (b : Bool) (l : List (List UInt8)) : List UInt8 × List (List UInt8) := if (!b || l.length == 0) = true then ([], l) else (l.getD 0 [], l.drop 1)
theorem f66_eq (b : Bool) (l : List (List UInt8)) : f66 b l = some (tk b l) := by
  unfold f66 tk
  cases b
  · rfl
  · cases l with
    | nil => rfl
    | cons a l =>
      simp [chk]
      rw [if_neg (by omega), if_pos (by omega)]
theorem tk_len (b : Bool) (l : List (List UInt8)) (m : Nat) (h : ∀ w, w ∈ l → w.length ≤ m) : (tk b l).1.length ≤ m ∧ ∀ w, w ∈ (tk b l).2 → w.length ≤ m := by
  unfold tk
  split
  · exact ⟨Nat.zero_le _, h⟩
  · cases l with
    | nil => exact ⟨Nat.zero_le _, fun w hw => by simp at hw⟩
    | cons a l => exact ⟨h a (List.mem_cons_self ..), fun w hw => h w (List.mem_cons_of_mem _ (by simpa using hw))⟩
/-- what the program tries at an entry of the forms -/
def tryP (x : List UInt8) (l : List (List UInt8)) (j : Nat) : Option OpR :=
  let v := mv65.getD j (default : List UInt8 × Bool × Bool × Bool)
  if v.1 == l.getD 0 [] then
    let r7 := tk v.2.1 (l.drop 1); let r8 := tk v.2.2.1 r7.2; let r9 := tk v.2.2.2 r8.2
    if okOp (mk65.getD j 0) r7.1 r8.1 r9.1 && (txt (mk65.getD j 0) r7.1 r8.1 r9.1 == x) then some (mk65.getD j 0, r7.1, r8.1, r9.1, 0) else none
  else none
theorem f50_step (x : List UInt8) (K : Unit → Option OpR) (k : Nat) (l : List (List UInt8)) (seen : List Nat) (m : Nat) (hm : m ≤ 1048576) (h0 : 0 < l.length) (hl : ∀ w, w ∈ l → w.length ≤ m) :
    f50_L0 x K (k + 1) (l, seen) = nextO 6 seen (fun j => match tryP x l j with | some r => some r | none => f50_L0 x K k (l, seen ++ [j])) (K ()) := by
  have h6 : mk65.length = 6 := rfl
  conv => lhs; unfold f50_L0
  rw [h6]
  congr 1
  funext j
  rw [chk_pos (by omega)]
  unfold tryP
  simp only []
  cases hw : (mv65.getD j (default : List UInt8 × Bool × Bool × Bool)).1 == l.getD 0 []
  · rfl
  · simp only [Bool.not_true, Bool.false_eq_true, if_false, if_true]
    rw [chk_pos (by omega), f66_eq, some_bind, f66_eq, some_bind, f66_eq, some_bind]
    obtain ⟨a1, a2⟩ := tk_len (mv65.getD j (default : List UInt8 × Bool × Bool × Bool)).2.1 (l.drop 1) m (fun w hw => hl w (List.mem_of_mem_drop hw))
    generalize tk (mv65.getD j (default : List UInt8 × Bool × Bool × Bool)).2.1 (l.drop 1) = r7 at *
    obtain ⟨b1, b2⟩ := tk_len (mv65.getD j (default : List UInt8 × Bool × Bool × Bool)).2.2.1 r7.2 m a2
    generalize tk (mv65.getD j (default : List UInt8 × Bool × Bool × Bool)).2.2.1 r7.2 = r8 at *
    obtain ⟨c1, c2⟩ := tk_len (mv65.getD j (default : List UInt8 × Bool × Bool × Bool)).2.2.2 r8.2 m b2
    generalize tk (mv65.getD j (default : List UInt8 × Bool × Bool × Bool)).2.2.2 r8.2 = r9 at *
    rw [f67_eq _ _ _ _ (by omega) (by omega) (by omega), some_bind]
    cases okOp (mk65.getD j 0) r7.1 r8.1 r9.1
    · rfl
    · simp only [if_true, Bool.true_and, beq_self_eq_true]
      cases txt (mk65.getD j 0) r7.1 r8.1 r9.1 == x <;> rfl
theorem f50_all (x : List UInt8) (K : Unit → Option OpR) (l : List (List UInt8)) (m : Nat) (hm : m ≤ 1048576) (h0 : 0 < l.length) (hl : ∀ w, w ∈ l → w.length ≤ m) (r : OpR) (S : Nat → Prop)
    (h1 : ∀ j, j < 6 → S j → tryP x l j = some r) (h2 : ∀ j, j < 6 → ¬ S j → tryP x l j = none) (h3 : (∀ j, j < 6 → ¬ S j) → K () = some r) :
    ∀ k seen, seen.Nodup → (∀ j, j ∈ seen → j < 6 ∧ ¬ S j) → 6 < k + seen.length → f50_L0 x K k (l, seen) = some r
  | 0, seen, hn, hs, hk => by
    have : seen.length ≤ (List.range 6).length := hn.length_le_of_subset fun j hj => List.mem_range.2 (hs j hj).1
    simp at this
    omega
  | k + 1, seen, hn, hs, hk => by
    rw [f50_step x K k l seen m hm h0 hl]
    refine nextO_of (fun j hj hns => ?_) fun hall => h3 fun j hj => (hs j (hall j hj)).2
    by_cases hS : S j
    · rw [h1 j hj hS]
    · rw [h2 j hj hS]
      refine f50_all x K l m hm h0 hl r S h1 h2 h3 k (seen ++ [j]) ?_ ?_ (by simp; omega)
      · rw [List.nodup_append]
        exact ⟨hn, by simp, fun a ha b hb => by rintro rfl; simp at hb; subst hb; exact hns ha⟩
      · intro i hi
        rcases List.mem_append.1 hi with hi | hi
        · exact hs i hi
        · simp at hi; subst hi; exact ⟨hj, hS⟩
/-- the parts of the text of a valid operation -/
def flds (a b c : List UInt8) : List (List UInt8) := (if a == [] then [] else [a]) ++ (if b == [] then [] else [b]) ++ (if c == [] then [] else [c])
theorem fld_sp {s : List UInt8} {b : Bool} (h : fld s b = true) : noSp s := by
  unfold fld at h
  cases b
  · simp at h; subst h; intro c hc; cases hc
  · exact gr_sp h
theorem spl_txt {k : Int} {a b c : List UInt8} (h : okOp k a b c = true) : spl (txt k a b c) = (kd k).1 :: flds a b c := by
  unfold okOp at h
  simp only [Bool.and_eq_true] at h
  obtain ⟨⟨⟨h0, h1⟩, h2⟩, h3⟩ := h
  have s0 := kd_sp k
  have s1 := fld_sp h1
  have s2 := fld_sp h2
  have s3 := fld_sp h3
  unfold txt flds
  cases a == [] <;> cases b == [] <;> cases c == [] <;> simp [spl_app, spl_word, s0, s1, s2, s3, List.append_assoc]
theorem f64_eq (x : List UInt8) (hx : x.length ≤ 1048576) : f64 x [32] = some (spl x) := by
  unfold f64 splitO
  simp only []
  rw [if_pos (by omega), split_spl]
theorem fldT {s : List UInt8} (h : fld s true = true) : (s == []) = false := gr_ne h
theorem fldF {s : List UInt8} (h : fld s false = true) : s = [] := by simpa [fld] using h
theorem okOp_kd {k : Int} {a b c : List UInt8} (h : okOp k a b c = true) : isK k = true ∧ fld a (kd k).2.1 = true ∧ fld b (kd k).2.2.1 = true ∧ fld c (kd k).2.2.2 = true := by
  unfold okOp at h
  simp only [Bool.and_eq_true] at h
  exact ⟨h.1.1.1, h.1.1.2, h.1.2, h.2⟩
set_option maxHeartbeats 1048576 in
theorem tryP_hit {k : Int} {a b c : List UInt8} (h : okOp k a b c = true) : ∃ j0, j0 < 6 ∧ tryP (txt k a b c) (spl (txt k a b c)) j0 = some (k, a, b, c, 0) ∧ ∀ j, j < 6 → j ≠ j0 → tryP (txt k a b c) (spl (txt k a b c)) j = none := by
  rw [spl_txt h]
  obtain ⟨h0, h1, h2, h3⟩ := okOp_kd h
  have nope : ∀ (w : List UInt8) (l : List (List UInt8)) j, ((mv65.getD j (default : List UInt8 × Bool × Bool × Bool)).1 == w) = false → tryP (txt k a b c) (w :: l) j = none := by
    intro w l j hj
    unfold tryP
    simp only [List.getD_cons_zero]
    rw [hj]
    rfl
  rcases kinds k with rfl | rfl | rfl | rfl | rfl | rfl | hn
  · refine ⟨0, by decide, ?_, fun j hj hne => nope _ _ j ?_⟩
    · obtain rfl := fldF h2
      have e1 := fldT h1
      have e3 := fldT h3
      simp [tryP, flds, e1, e3, tk, mv65, mk65, kd, h]
    · match j, hj, hne with | 1, _, _ => rfl | 2, _, _ => rfl | 3, _, _ => rfl | 4, _, _ => rfl | 5, _, _ => rfl
  · refine ⟨1, by decide, ?_, fun j hj hne => nope _ _ j ?_⟩
    · obtain rfl := fldF h2
      obtain rfl := fldF h3
      have e1 := fldT h1
      simp [tryP, flds, e1, tk, mv65, mk65, kd, h]
    · match j, hj, hne with | 0, _, _ => rfl | 2, _, _ => rfl | 3, _, _ => rfl | 4, _, _ => rfl | 5, _, _ => rfl
  · refine ⟨2, by decide, ?_, fun j hj hne => nope _ _ j ?_⟩
    · obtain rfl := fldF h2
      obtain rfl := fldF h3
      have e1 := fldT h1
      simp [tryP, flds, e1, tk, mv65, mk65, kd, h]
    · match j, hj, hne with | 0, _, _ => rfl | 1, _, _ => rfl | 3, _, _ => rfl | 4, _, _ => rfl | 5, _, _ => rfl
  · refine ⟨3, by decide, ?_, fun j hj hne => nope _ _ j ?_⟩
    · obtain rfl := fldF h2
      have e1 := fldT h1
      have e3 := fldT h3
      simp [tryP, flds, e1, e3, tk, mv65, mk65, kd, h]
    · match j, hj, hne with | 0, _, _ => rfl | 1, _, _ => rfl | 2, _, _ => rfl | 4, _, _ => rfl | 5, _, _ => rfl
  · refine ⟨4, by decide, ?_, fun j hj hne => nope _ _ j ?_⟩
    · have e1 := fldT h1
      have e2 := fldT h2
      have e3 := fldT h3
      simp [tryP, flds, e1, e2, e3, tk, mv65, mk65, kd, h]
    · match j, hj, hne with | 0, _, _ => rfl | 1, _, _ => rfl | 2, _, _ => rfl | 3, _, _ => rfl | 5, _, _ => rfl
  · refine ⟨5, by decide, ?_, fun j hj hne => nope _ _ j ?_⟩
    · obtain rfl := fldF h1
      obtain rfl := fldF h2
      obtain rfl := fldF h3
      simp [tryP, flds, tk, mv65, mk65, kd, h]
    · match j, hj, hne with | 0, _, _ => rfl | 1, _, _ => rfl | 2, _, _ => rfl | 3, _, _ => rfl | 4, _, _ => rfl | 5, _, hne => exact absurd rfl hne
  · rw [hn] at h0; cases h0
theorem spl_pos (x : List UInt8) : 0 < (spl x).length := by
  obtain ⟨w, r, h⟩ := spl_ne x
  rw [h]; exact Nat.succ_pos _
def NoOp (x : List UInt8) : Prop := ∀ k a b c, okOp k a b c = true → txt k a b c ≠ x
theorem tryP_none {x : List UInt8} (h : NoOp x) (l : List (List UInt8)) (j : Nat) : tryP x l j = none := by
  unfold tryP
  simp only []
  split
  · split
    · rename_i h'
      simp only [Bool.and_eq_true, beq_iff_eq] at h'
      exact absurd h'.2 (h _ _ _ _ h'.1)
    · rfl
  · rfl
theorem f50_hit {k : Int} {a b c : List UInt8} (h : okOp k a b c = true) (hx : (txt k a b c).length ≤ 1048576) : f50 (txt k a b c) = some (k, a, b, c, 0) := by
  obtain ⟨j0, hj0, h1, h2⟩ := tryP_hit h
  unfold f50 f65
  rw [f64_eq _ hx, some_bind]
  simp only [jn, some_bind]
  exact f50_all _ _ _ _ hx (spl_pos _) (spl_mem _) _ (fun j => j = j0) (fun j _ e => e ▸ h1) (fun j hj e => h2 j hj e) (fun hall => absurd rfl (hall j0 hj0)) FUEL [] List.nodup_nil (fun j hj => by cases hj) (by unfold FUEL; simp)
theorem f50_miss {x : List UInt8} (h : NoOp x) (hx : x.length ≤ 1048576) : f50 x = some (0, [], [], [], 2) := by
  unfold f50 f65
  rw [f64_eq _ hx, some_bind]
  simp only [jn, some_bind]
  exact f50_all _ _ _ _ hx (spl_pos _) (spl_mem _) _ (fun _ => False) (fun j _ e => e.elim) (fun j hj e => tryP_none h _ _) (fun _ => rfl) FUEL [] List.nodup_nil (fun j hj => by cases hj) (by unfold FUEL; simp)
/-- what the specification tries at a kind -/
def tryR (x : List UInt8) (l : List (List UInt8)) (n : Nat) : Option OpR :=
  if l.getD 0 [] == (kd n).1 then
    let a := l.getD 1 []
    let b := if n = 5 then l.getD 2 [] else []
    let c := if n = 5 then l.getD 3 [] else l.getD 2 []
    if okOp n a b c && (txt n a b c == x) then some ((n : Int), a, b, c, 0) else none
  else none
theorem getD_len (l : List (List UInt8)) (i m : Nat) (hl : ∀ w, w ∈ l → w.length ≤ m) : (l.getD i []).length ≤ m := by
  by_cases h : i < l.length
  · rw [List.getD_eq_getElem?_getD, List.getElem?_eq_getElem h]
    exact hl _ (List.getElem_mem ..)
  · rw [List.getD_eq_getElem?_getD, List.getElem?_eq_none (by omega)]
    exact Nat.zero_le _
theorem getD_out (l : List (List UInt8)) (i : Nat) (h : ¬ i < l.length) : l.getD i [] = [] := by
  rw [List.getD_eq_getElem?_getD, List.getElem?_eq_none (by omega)]; rfl
set_option maxHeartbeats 1048576 in
theorem f35_step (x : List UInt8) (l : List (List UInt8)) (K : Unit → Option OpR) (k n m : Nat) (hm : m ≤ 1048576) (h0 : 0 < l.length) (hl : ∀ w, w ∈ l → w.length ≤ m) (hn : n ≤ 6) :
    f35_L0 x l K (k + 1) n = match tryR x l n with | some r => some r | none => f35_L0 x l K k (n + 1) := by
  have hg := fun i => getD_len l i m hl
  have ho := getD_out l
  conv => lhs; unfold f35_L0
  rw [ifd_pos (by omega), jn_eq, f52_eq, some_bind, chk_pos (by omega), chk_pos (by omega), chk_pos (by omega)]
  unfold tryR
  cases hw : l.getD 0 [] == (kd n).1
  · rfl
  · simp only [Bool.not_true, Bool.false_eq_true, if_false, if_true, jn]
    have fin : ∀ a b c : List UInt8, a.length ≤ m → b.length ≤ m → c.length ≤ m → ((f53 n a b c).bind fun (r9 : List UInt8 × Int) => if ((r9.2 == (0 : Int)) && (r9.1 == x)) = true then some ((n : Int), a, b, c, (0 : Int)) else f35_L0 x l K k (n + 1)) =
        match (if okOp n a b c && (txt n a b c == x) then some ((n : Int), a, b, c, (0 : Int)) else none) with | some r => some r | none => f35_L0 x l K k (n + 1) := by
      intro a b c ha hb hc
      rw [f53_eq _ _ _ _ (by omega) (by omega) (by omega), some_bind]
      cases okOp n a b c
      · rfl
      · cases h : txt n a b c == x <;> simp [h]
    by_cases h5 : n = 5
    · subst h5
      by_cases l1 : 1 < l.length
      · by_cases l2 : 2 < l.length
        · by_cases l3 : 3 < l.length
          · rw [ifd_pos (by omega), chk_pos (by omega), chk_pos l1, if_pos (by simp; omega), chk_pos (by omega), chk_pos l2, if_neg (by simp), if_pos (by simp; omega), chk_pos (by omega), chk_pos l3]
            exact fin _ _ _ (hg _) (hg _) (hg _)
          · rw [ifd_pos (by omega), chk_pos (by omega), chk_pos l1, if_pos (by simp; omega), chk_pos (by omega), chk_pos l2, if_neg (by simp), if_neg (by simp; omega), ho 3 l3]
            exact fin _ _ _ (hg _) (hg _) (Nat.zero_le _)
        · rw [ifd_pos (by omega), chk_pos (by omega), chk_pos l1, if_neg (by simp; omega), if_neg (by simp), if_neg (by simp; omega), ho 2 l2, ho 3 (by omega)]
          exact fin _ _ _ (hg _) (Nat.zero_le _) (Nat.zero_le _)
      · rw [ifd_neg (by omega), if_neg (by simp; omega), if_neg (by simp), if_neg (by simp; omega), ho 1 l1, ho 2 (by omega), ho 3 (by omega)]
        exact fin _ _ _ (Nat.zero_le _) (Nat.zero_le _) (Nat.zero_le _)
    · have e5 : ((n : Int) == 5) = false := by simp; omega
      have e5' : ((n : Int) != 5) = true := by simp; omega
      rw [if_neg h5, if_neg h5, e5, e5']
      simp only [Bool.false_and, Bool.true_and, Bool.false_eq_true, if_false]
      by_cases l1 : 1 < l.length
      · by_cases l2 : 2 < l.length
        · rw [ifd_pos (by omega), chk_pos (by omega), chk_pos l1, ifd_pos (by omega), chk_pos (by omega), chk_pos l2]
          exact fin _ _ _ (hg _) (Nat.zero_le _) (hg _)
        · rw [ifd_pos (by omega), chk_pos (by omega), chk_pos l1, ifd_neg (by omega), ho 2 l2]
          exact fin _ _ _ (hg _) (Nat.zero_le _) (Nat.zero_le _)
      · rw [ifd_neg (by omega), ifd_neg (by omega), ho 1 l1, ho 2 (by omega)]
        exact fin _ _ _ (Nat.zero_le _) (Nat.zero_le _) (Nat.zero_le _)
theorem f35_end (x : List UInt8) (l : List (List UInt8)) (K : Unit → Option OpR) (k : Nat) : f35_L0 x l K (k + 1) 7 = K () := by
  conv => lhs; unfold f35_L0
  rw [ifd_neg (by omega)]
theorem f35_all (x : List UInt8) (l : List (List UInt8)) (K : Unit → Option OpR) (m : Nat) (hm : m ≤ 1048576) (h0 : 0 < l.length) (hl : ∀ w, w ∈ l → w.length ≤ m) (r : OpR) (S : Nat → Prop)
    (h1 : ∀ j, 1 ≤ j → j ≤ 6 → S j → tryR x l j = some r) (h2 : ∀ j, 1 ≤ j → j ≤ 6 → ¬ S j → tryR x l j = none) (h3 : (∀ j, 1 ≤ j → j ≤ 6 → ¬ S j) → K () = some r) :
    ∀ c k n, n + c = 7 → c < k → 1 ≤ n → (∀ j, 1 ≤ j → j < n → ¬ S j) → f35_L0 x l K k n = some r
  | 0, k, n, hn, hk, h1n, hs => by
    obtain ⟨k, rfl⟩ : ∃ q, k = q + 1 := ⟨k - 1, by omega⟩
    obtain rfl : n = 7 := by omega
    rw [f35_end]
    exact h3 fun j a b => hs j a (by omega)
  | c + 1, k, n, hn, hk, h1n, hs => by
    obtain ⟨k, rfl⟩ : ∃ q, k = q + 1 := ⟨k - 1, by omega⟩
    rw [f35_step x l K k n m hm h0 hl (by omega)]
    by_cases hS : S n
    · rw [h1 n h1n (by omega) hS]
    · rw [h2 n h1n (by omega) hS]
      refine f35_all x l K m hm h0 hl r S h1 h2 h3 c k (n + 1) (by omega) (by omega) (by omega) fun j hj hjn => ?_
      by_cases e : j = n
      · rw [e]; exact hS
      · exact hs j hj (by omega)
theorem tryR_none {x : List UInt8} (h : NoOp x) (l : List (List UInt8)) (j : Nat) : tryR x l j = none := by
  unfold tryR
  simp only []
  generalize (if j = 5 then l.getD 2 [] else []) = b
  generalize (if j = 5 then l.getD 3 [] else l.getD 2 []) = c
  split
  · split
    · rename_i h'
      simp only [Bool.and_eq_true, beq_iff_eq] at h'
      exact absurd h'.2 (h _ _ _ _ h'.1)
    · rfl
  · rfl
set_option maxHeartbeats 1048576 in
theorem tryR_hit {k : Int} {a b c : List UInt8} (h : okOp k a b c = true) : ∃ j0, 1 ≤ j0 ∧ j0 ≤ 6 ∧ tryR (txt k a b c) (spl (txt k a b c)) j0 = some (k, a, b, c, 0) ∧ ∀ j, 1 ≤ j → j ≤ 6 → j ≠ j0 → tryR (txt k a b c) (spl (txt k a b c)) j = none := by
  rw [spl_txt h]
  obtain ⟨h0, h1, h2, h3⟩ := okOp_kd h
  have nope : ∀ (w : List UInt8) (l : List (List UInt8)) (j : Nat), (w == (kd j).1) = false → tryR (txt k a b c) (w :: l) j = none := by
    intro w l j hj
    unfold tryR
    simp only [List.getD_cons_zero]
    rw [hj]
    rfl
  rcases kinds k with rfl | rfl | rfl | rfl | rfl | rfl | hn
  · refine ⟨1, by decide, by decide, ?_, fun j h1 hj hne => nope _ _ j ?_⟩
    · obtain rfl := fldF h2
      have e1 := fldT h1
      have e3 := fldT h3
      have h' : okOp (1 : Nat) a [] c = true := h
      simp [tryR, flds, e1, e3, kd, h]
    · match j, h1, hj, hne with | 2, _, _, _ => rfl | 3, _, _, _ => rfl | 4, _, _, _ => rfl | 5, _, _, _ => rfl | 6, _, _, _ => rfl
  · refine ⟨2, by decide, by decide, ?_, fun j h1 hj hne => nope _ _ j ?_⟩
    · obtain rfl := fldF h2
      obtain rfl := fldF h3
      have e1 := fldT h1
      simp [tryR, flds, e1, kd, h]
    · match j, h1, hj, hne with | 1, _, _, _ => rfl | 3, _, _, _ => rfl | 4, _, _, _ => rfl | 5, _, _, _ => rfl | 6, _, _, _ => rfl
  · refine ⟨3, by decide, by decide, ?_, fun j h1 hj hne => nope _ _ j ?_⟩
    · obtain rfl := fldF h2
      obtain rfl := fldF h3
      have e1 := fldT h1
      simp [tryR, flds, e1, kd, h]
    · match j, h1, hj, hne with | 1, _, _, _ => rfl | 2, _, _, _ => rfl | 4, _, _, _ => rfl | 5, _, _, _ => rfl | 6, _, _, _ => rfl
  · refine ⟨4, by decide, by decide, ?_, fun j h1 hj hne => nope _ _ j ?_⟩
    · obtain rfl := fldF h2
      have e1 := fldT h1
      have e3 := fldT h3
      simp [tryR, flds, e1, e3, kd, h]
    · match j, h1, hj, hne with | 1, _, _, _ => rfl | 2, _, _, _ => rfl | 3, _, _, _ => rfl | 5, _, _, _ => rfl | 6, _, _, _ => rfl
  · refine ⟨5, by decide, by decide, ?_, fun j h1 hj hne => nope _ _ j ?_⟩
    · have e1 := fldT h1
      have e2 := fldT h2
      have e3 := fldT h3
      simp [tryR, flds, e1, e2, e3, kd, h]
    · match j, h1, hj, hne with | 1, _, _, _ => rfl | 2, _, _, _ => rfl | 3, _, _, _ => rfl | 4, _, _, _ => rfl | 6, _, _, _ => rfl
  · refine ⟨6, by decide, by decide, ?_, fun j h1 hj hne => nope _ _ j ?_⟩
    · obtain rfl := fldF h1
      obtain rfl := fldF h2
      obtain rfl := fldF h3
      simp [tryR, flds, kd, h]
    · match j, h1, hj, hne with | 1, _, _, _ => rfl | 2, _, _, _ => rfl | 3, _, _, _ => rfl | 4, _, _, _ => rfl | 5, _, _, _ => rfl | 6, _, _, hne => exact absurd rfl hne
  · rw [hn] at h0; cases h0
theorem f35_hit {k : Int} {a b c : List UInt8} (h : okOp k a b c = true) (hx : (txt k a b c).length ≤ 1048576) : f35 (txt k a b c) = some (k, a, b, c, 0) := by
  obtain ⟨j0, hj0, hj1, h1, h2⟩ := tryR_hit h
  unfold f35
  rw [f51_eq _ hx, some_bind]
  simp only [jn]
  exact f35_all _ _ _ _ hx (spl_pos _) (spl_mem _) _ (fun j => j = j0) (fun j _ _ e => e ▸ h1) (fun j a b e => h2 j a b e) (fun hall => absurd rfl (hall j0 hj0 hj1)) 6 FUEL 1 (by omega) (by unfold FUEL; omega) (by omega) (fun j a b => by omega)
theorem f35_miss {x : List UInt8} (h : NoOp x) (hx : x.length ≤ 1048576) : f35 x = some (0, [], [], [], 2) := by
  unfold f35
  rw [f51_eq _ hx, some_bind]
  simp only [jn]
  exact f35_all _ _ _ _ hx (spl_pos _) (spl_mem _) _ (fun _ => False) (fun j _ _ e => e.elim) (fun j _ _ e => tryR_none h _ _) (fun _ => rfl) 6 FUEL 1 (by omega) (by unfold FUEL; omega) (by omega) (fun j a b => by omega)
abbrev Pr := List UInt8 × List UInt8 × Int
abbrev less (a b : List UInt8) : Bool := Op.bytesLess a b
theorem less_irrefl : ∀ a, less a a = false
  | [] => rfl
  | a :: x => by
    show (decide (a < a) || (a == a && less x x)) = false
    rw [less_irrefl x]; simp
theorem less_nil (a : List UInt8) : less a [] = false := by cases a <;> rfl
theorem less_trans : ∀ {a b c : List UInt8}, less a b = true → less b c = true → less a c = true
  | a, [], _, h, _ => by rw [less_nil] at h; cases h
  | _, b :: y, [], _, h => by rw [less_nil] at h; cases h
  | [], _ :: _, _ :: _, _, _ => rfl
  | a :: x, b :: y, c :: z, h1, h2 => by
    have g1 : (decide (a < b) || (a == b && less x y)) = true := h1
    have g2 : (decide (b < c) || (b == c && less y z)) = true := h2
    clear h1 h2
    show (decide (a < c) || (a == c && less x z)) = true
    simp only [Bool.or_eq_true, Bool.and_eq_true, decide_eq_true_eq, beq_iff_eq, UInt8.lt_iff_toNat_lt] at g1 g2 ⊢
    rcases g1 with k1 | ⟨e1, k1⟩
    · rcases g2 with k2 | ⟨e2, k2⟩
      · left; omega
      · left; rw [← e2]; exact k1
    · rcases g2 with k2 | ⟨e2, k2⟩
      · left; rw [e1]; exact k2
      · exact .inr ⟨e1.trans e2, less_trans k1 k2⟩
theorem less_total : ∀ a b : List UInt8, less a b = true ∨ a = b ∨ less b a = true
  | [], [] => .inr (.inl rfl)
  | [], _ :: _ => .inl rfl
  | _ :: _, [] => .inr (.inr rfl)
  | a :: x, b :: y => by
    show (decide (a < b) || (a == b && less x y)) = true ∨ _ ∨ (decide (b < a) || (b == a && less y x)) = true
    simp only [Bool.or_eq_true, Bool.and_eq_true, decide_eq_true_eq, beq_iff_eq, UInt8.lt_iff_toNat_lt]
    by_cases h : a = b
    · subst h
      rcases less_total x y with h | h | h
      · exact .inl (.inr ⟨rfl, h⟩)
      · exact .inr (.inl (by rw [h]))
      · exact .inr (.inr (.inr ⟨rfl, h⟩))
    · have : a.toNat ≠ b.toNat := fun e => h (UInt8.toNat.inj e)
      by_cases h1 : a.toNat < b.toNat
      · exact .inl (.inl h1)
      · exact .inr (.inr (.inl (by omega)))
theorem less_asymm {a b : List UInt8} (h : less a b = true) : less b a = false := by
  cases h' : less b a
  · rfl
  · have := less_trans h h'
    rw [less_irrefl] at this; cases this
theorem less_ne {a b : List UInt8} (h : less a b = true) : (a == b) = false := by
  cases e : a == b
  · rfl
  · have := eq_of_beq e; subst this; rw [less_irrefl] at h; cases h
theorem cmp_less : ∀ a b : List UInt8, Lib.compareBytes a b = if less a b = true then -1 else if a = b then 0 else 1
  | [], [] => rfl
  | [], _ :: _ => rfl
  | _ :: _, [] => rfl
  | a :: x, b :: y => by
    show (if a < b then (-1 : Int) else if b < a then 1 else Lib.compareBytes x y) = if (decide (a < b) || (a == b && less x y)) = true then -1 else _
    by_cases h : a < b
    · simp [h]
    · by_cases h2 : b < a
      · have : a ≠ b := by rintro rfl; simp at h2
        simp [h, h2, this]
      · have e : a = b := by
          apply UInt8.toNat.inj
          simp only [UInt8.lt_iff_toNat_lt] at h h2
          omega
        subst e
        rw [if_neg h, if_neg h2, cmp_less x y]
        simp
/-- strictly rising keys -/
abbrev Srtd (l : List Pr) : Prop := l.Pairwise (fun p q => less p.1 q.1 = true)
def okp (p : Pr) : Prop := gr p.1 64 = true ∧ gr p.2.1 256 = true ∧ 1 ≤ p.2.2 ∧ p.2.2 ≤ 1000000000000
/-- a valid state -/
structure StV (l : List Pr) : Prop where
  len : l.length ≤ 64
  each : ∀ p, p ∈ l → okp p
  srt : Srtd l
theorem StV.nil : StV [] := ⟨by simp, by simp, .nil⟩
/-- where a key is or belongs -/
inductive View (l : List Pr) (k : List UInt8) : Prop
  | hit (A C : List Pr) (v : List UInt8) (n : Int) (h : l = A ++ (k, v, n) :: C) (hA : ∀ a, a ∈ A → less a.1 k = true) (hC : ∀ c, c ∈ C → less k c.1 = true) : View l k
  | miss (A C : List Pr) (h : l = A ++ C) (hA : ∀ a, a ∈ A → less a.1 k = true) (hC : ∀ c, c ∈ C → less k c.1 = true) : View l k
theorem view : ∀ (l : List Pr) (k : List UInt8), Srtd l → View l k
  | [], k, _ => .miss [] [] rfl (by simp) (by simp)
  | (x, v, n) :: l, k, h => by
    obtain ⟨h1, h2⟩ := List.pairwise_cons.1 h
    rcases less_total x k with hx | rfl | hx
    · cases view l k h2 with
      | hit A C v' n' e hA hC => exact .hit ((x, v, n) :: A) C v' n' (by rw [e]; rfl) (by intro a ha; rcases List.mem_cons.1 ha with rfl | ha; exact hx; exact hA a ha) hC
      | miss A C e hA hC => exact .miss ((x, v, n) :: A) C (by rw [e]; rfl) (by intro a ha; rcases List.mem_cons.1 ha with rfl | ha; exact hx; exact hA a ha) hC
    · exact .hit [] l v n rfl (by simp) h1
    · exact .miss [] ((x, v, n) :: l) rfl (by simp) (by intro c hc; rcases List.mem_cons.1 hc with rfl | hc; exact hx; exact less_trans hx (h1 c hc))
theorem getD_app {α : Type} (A B : List α) (i : Nat) (d : α) : (A ++ B).getD i d = if i < A.length then A.getD i d else B.getD (i - A.length) d := by
  split
  · simp [List.getD_eq_getElem?_getD, List.getElem?_append_left, *]
  · rename_i h; simp [List.getD_eq_getElem?_getD, List.getElem?_append_right (Nat.le_of_not_lt h)]
theorem getD_mem {α : Type} (l : List α) (i : Nat) (d : α) (h : i < l.length) : l.getD i d ∈ l := by
  rw [List.getD_eq_getElem?_getD, List.getElem?_eq_getElem h]; exact List.getElem_mem ..
/-- the search of the program: A are the keys that are less -/
theorem f111_eq (A B : List Pr) (k : List UInt8) (hlen : (A ++ B).length ≤ 1048576) (hA : ∀ a, a ∈ A → less a.1 k = true) (hB : ∀ b, b ∈ B → less b.1 k = false) :
    f84 (A ++ B) k = some ((A.length : Int), decide (0 < B.length) && ((B.getD 0 (default : Pr)).1 == k)) := by
  have h55 : ∀ (a b : List UInt8) (n : Int) (y : List UInt8), f112 a b n y = some (Lib.compareBytes a y) := fun _ _ _ _ => rfl
  have main : ∀ (K : Int → Option (Int × Bool)) (c q i j : Nat), j - i ≤ c → c < q → i ≤ A.length → A.length ≤ j → j ≤ (A ++ B).length → f111_L0 (A ++ B) k K q ((i : Int), (j : Int)) = K (A.length : Int) := by
    intro K c
    induction c with
    | zero =>
      intro q i j hc hq h1 h2 h3
      obtain ⟨q, rfl⟩ : ∃ z, q = z + 1 := ⟨q - 1, by omega⟩
      conv => lhs; unfold f111_L0
      rw [ifd_neg (by omega)]
      congr 1; omega
    | succ c ih =>
      intro q i j hc hq h1 h2 h3
      obtain ⟨q, rfl⟩ : ∃ z, q = z + 1 := ⟨q - 1, by omega⟩
      conv => lhs; unfold f111_L0
      by_cases hij : i < j
      · have em : ((i : Int) + (j : Int)) / 2 ^ 1 = (((i + j) / 2 : Nat) : Int) := by omega
        rw [ifd_pos (by omega), chk_pos (by omega), chk_pos (by omega), chk_pos (by decide), em, chk_pos (by omega), h55, some_bind, chk_pos (by omega), Int.toNat_natCast, cmp_less]
        generalize hm : (i + j) / 2 = m
        have hm1 : i ≤ m := by omega
        have hm2 : m < j := by omega
        by_cases hmA : m < A.length
        · have hl : less ((A ++ B).getD m (default : Pr)).1 k = true := by
            rw [getD_app, if_pos hmA]; exact hA _ (getD_mem _ _ _ hmA)
          rw [if_pos hl, ifd_pos (by decide), chk_pos (by omega)]
          have := ih q (m + 1) j (by omega) (by omega) (by omega) h2 h3
          rw [← this]; rfl
        · have hl : less ((A ++ B).getD m (default : Pr)).1 k = false := by
            rw [getD_app, if_neg hmA]; exact hB _ (getD_mem _ _ _ (by rw [List.length_append] at h3; omega))
          rw [hl, ifd_neg (by split <;> simp_all <;> split <;> simp)]
          exact ih q i m (by omega) (by omega) h1 (by omega) (by omega)
      · rw [ifd_neg (by omega)]
        congr 1; omega
  unfold f84 f111
  simp only [jn]
  have e0 : (0 : Int) = ((0 : Nat) : Int) := rfl
  rw [e0, main _ (A ++ B).length FUEL 0 (A ++ B).length (by omega) (by unfold FUEL; omega) (Nat.zero_le _) (by simp) (Nat.le_refl _)]
  rw [h55, Int.toNat_natCast, getD_app, if_neg (Nat.lt_irrefl _), Nat.sub_self]
  by_cases hb : 0 < B.length
  · have h1 : decide ((A.length : Int) < (((A ++ B).length : Nat) : Int)) = true := by rw [List.length_append]; simp; omega
    rw [h1]
    simp only [beq_self_eq_true, Bool.true_and, optc_t, some_bind]
    rw [chk_pos (fun _ => by rw [List.length_append]; omega), some_bind, cmp_less, hB _ (getD_mem _ _ _ hb)]
    have hd : decide (0 < B.length) = true := by simp [hb]
    rw [hd]
    simp only [Bool.false_eq_true, if_false, Bool.true_and]
    by_cases e : (B.getD 0 (default : Pr)).1 = k
    · have e' : ((B.getD 0 (default : Pr)).1 == k) = true := by simpa using e
      rw [if_pos e, e']; rfl
    · have e' : ((B.getD 0 (default : Pr)).1 == k) = false := by simpa using e
      rw [if_neg e, e']; rfl
  · have h1 : decide ((A.length : Int) < (((A ++ B).length : Nat) : Int)) = false := by rw [List.length_append]; simp; omega
    rw [h1]
    have hd : decide (0 < B.length) = false := by simp [hb]
    rw [hd]
    simp [optc, chk]

abbrev MV : Int := 1000000000000
theorem getD_at (A C : List Pr) (x d : Pr) : (A ++ x :: C).getD A.length d = x := by
  rw [getD_app, if_neg (Nat.lt_irrefl _), Nat.sub_self]; rfl
theorem set_at : ∀ (A C : List Pr) (x y : Pr), (A ++ x :: C).set A.length y = A ++ y :: C
  | [], _, _, _ => rfl
  | a :: A, C, x, y => by
    show a :: (A ++ x :: C).set A.length y = _
    rw [set_at A C x y]; rfl
theorem len_at (A C : List Pr) (x : Pr) : (A ++ x :: C).length = A.length + C.length + 1 := by simp; omega
theorem drop_at (A C : List Pr) (x : Pr) : (A ++ x :: C).drop (A.length + 1) = C := by
  rw [List.drop_append]; simp
theorem take_at (A C : List Pr) : (A ++ C).take A.length = A := by simp
theorem dropA_at (A C : List Pr) : (A ++ C).drop A.length = C := by simp
/-- decimal digits of the specification -/
theorem f81_eq : ∀ (q n : Nat), n < 10 ^ (q + 1) → n ≤ 1000000000000000 → ∀ k, q + 1 ≤ k → f81 k (n : Int) = some (Lib.itoa (n : Int))
  | q, n, hn, hb, k, hk => by
    obtain ⟨k, rfl⟩ : ∃ z, k = z + 1 := ⟨k - 1, by omega⟩
    conv => lhs; unfold f81
    rw [Lib.itoa_nonneg]
    by_cases h : n < 10
    · rw [ifd_pos (by omega), chk_pos (by omega), chk_pos (by omega), Lib.decDigits_one h]
      congr 3
    · rw [ifd_neg (by omega)]
      match q, hn, hk with
      | 0, hn, _ => omega
      | q + 1, hn, hk =>
        have e1 : (n : Int) / 10 = ((n / 10 : Nat) : Int) := by omega
        have e2 : (n : Int) % 10 = ((n % 10 : Nat) : Int) := by omega
        rw [e1, e2, f81_eq q (n / 10) (by rw [Nat.pow_succ] at hn; omega) (by omega) k (by omega), some_bind, chk_pos (by omega), chk_pos (by omega), chk_pos (by omega), chk_pos (by omega)]
        have hl := Lib.itoa_length_le ((n / 10 : Nat) : Int) (by omega) (by omega)
        rw [chk_pos (by rw [List.length_singleton]; omega), Lib.itoa_nonneg]
        conv => rhs; rw [Lib.decDigits, dif_neg h]
        congr 3
theorem dig {n : Int} (h0 : 0 ≤ n) (h1 : n ≤ 1000000000000000) : f81 FUEL n = some (Lib.itoa n) := by
  obtain ⟨m, rfl⟩ : ∃ m : Nat, n = m := ⟨n.toNat, by omega⟩
  exact f81_eq 15 m (by omega) (by omega) FUEL (by unfold FUEL; omega)
theorem ito {n : Int} (h0 : 0 ≤ n) (h1 : n ≤ 1000000000000000) : f85 n = some (Lib.itoa n) := by
  unfold f85 itoaO
  rw [if_pos ⟨by omega, by omega⟩]
theorem ilen {n : Int} (h0 : 0 ≤ n) (h1 : n ≤ 1000000000000000) : (Lib.itoa n).length ≤ 21 := Lib.itoa_length_le n (by omega) (by omega)
/-- Find of the specification -/
theorem f80_hit (A C : List Pr) (k v : List UInt8) (n : Int) (hlen : (A ++ (k, v, n) :: C).length ≤ 1048576) (hA : ∀ a, a ∈ A → (a.1 == k) = false) (hC : ∀ c, c ∈ C → (c.1 == k) = false) : f80 (A ++ (k, v, n) :: C) k = some (A.length : Int) := by
  unfold f80
  simp only [jn]
  rcases find_up (fun q i => f80_L0 (A ++ (k, v, n) :: C) k (fun _ => some (-1)) q i) (A ++ (k, v, n) :: C) (default : Pr) (fun p => p.1 == k) (fun i => some (i : Int)) (some (-1)) (fun q i hi => by
      show f80_L0 _ _ _ (q + 1) i = _
      conv => lhs; unfold f80_L0
      rw [ifd_pos (by omega), chk_pos (by omega), chk_pos (by omega)]) (fun q => by
      show f80_L0 _ _ _ (q + 1) _ = _
      conv => lhs; unfold f80_L0
      rw [ifd_neg (by omega)]) (A ++ (k, v, n) :: C).length FUEL 0 (by omega) (fuel_lt (by omega)) with ⟨m, h1, h2, h3, h4, h5⟩ | ⟨h4, h5⟩
  · rw [h4]
    rw [getD_app] at h3
    by_cases e : m < A.length
    · rw [if_pos e, hA _ (getD_mem _ _ _ e)] at h3; cases h3
    · rw [if_neg e] at h3
      by_cases e2 : m = A.length
      · rw [e2]
      · obtain ⟨z, hz⟩ : ∃ z, m - A.length = z + 1 := ⟨m - A.length - 1, by omega⟩
        rw [hz, List.getD_cons_succ, hC _ (getD_mem _ _ _ (by rw [len_at] at h2; omega))] at h3
        cases h3
  · exfalso
    rw [List.drop_zero] at h5
    have := List.any_eq_false.1 h5 (k, v, n) (by simp)
    simp at this
theorem f80_miss (l : List Pr) (k : List UInt8) (hlen : l.length ≤ 1048576) (h : ∀ a, a ∈ l → (a.1 == k) = false) : f80 l k = some (-1) := by
  unfold f80
  simp only [jn]
  rw [any_up (fun q i => f80_L0 l k (fun _ => some (-1)) q i) l (default : Pr) (fun _ => false) none (some (-1)) (fun q i hi => by
      show f80_L0 _ _ _ (q + 1) i = _
      conv => lhs; unfold f80_L0
      rw [ifd_pos (by omega), chk_pos (by omega), h _ (getD_mem _ _ _ hi), chk_pos (by omega)]
      rfl) (fun q => by
      show f80_L0 _ _ _ (q + 1) _ = _
      conv => lhs; unfold f80_L0
      rw [ifd_neg (by omega)]) FUEL (fuel_lt (by omega))]
  simp
/-- Put of the specification, step by step -/
def gPut (k s : List UInt8) (z : Bool × List Pr) (a : Pr) : Bool × List Pr :=
  if a.1 == k then (true, z.2 ++ [(k, s, min (a.2.2 + 1) MV)]) else
  if (!(less a.1 k || a.1 == k)) && !z.1 then (true, (z.2 ++ [(k, s, 1)]) ++ [(a.1, a.2.1, a.2.2)]) else (z.1, z.2 ++ [(a.1, a.2.1, a.2.2)])
theorem f82_fold (l : List Pr) (k s : List UInt8) (hlen : l.length ≤ 1048576) (hv : ∀ a, a ∈ l → 1 ≤ a.2.2 ∧ a.2.2 ≤ MV) :
    f82 l k s = some (let z := l.foldl (gPut k s) (false, []); if z.1 then z.2 else z.2 ++ [(k, s, 1)]) := by
  unfold f82
  simp only [jn]
  have hI : ∀ n (z : Bool × List Pr), n < l.length → z.2.length ≤ 2 * n → (gPut k s z (l.getD n (default : Pr))).2.length ≤ 2 * (n + 1) := by
    intro n z hn hz
    unfold gPut
    split
    · simp; omega
    · split
      · simp; omega
      · simp; omega
  have := fold_up (fun q (y : Nat × (Bool × List Pr)) => f82_L0 l k s (fun y => if (!y.1) = true then chk ((y.2.length + 1) * 40 ≤ 140737488355328) (some (y.2 ++ [(k, s, 1)])) else some y.2) q (y.2.1, y.1, y.2.2)) l (default : Pr) (fun n z => z.2.length ≤ 2 * n) (gPut k s)
    (fun y => if (!y.1) = true then chk ((y.2.length + 1) * 40 ≤ 140737488355328) (some (y.2 ++ [(k, s, 1)])) else some y.2)
    (fun q n z hn hz => by
      obtain ⟨b, w⟩ := z
      simp only at hz
      show f82_L0 l k s _ (q + 1) (b, n, w) = _
      conv => lhs; unfold f82_L0
      have hh := hv _ (getD_mem l n (default : Pr) hn)
      simp only [MV] at hh
      rw [ifd_pos (by omega)]
      simp only [jn]
      rw [chk_pos (by omega)]
      unfold gPut
      simp only []
      by_cases e : ((l.getD n (default : Pr)).1 == k) = true
      · rw [if_pos e, if_pos e, chk_pos (by omega), chk_pos (by omega), chk_pos (by omega), chk_pos (by omega)]
      · rw [if_neg e, if_neg e, chk_pos (by omega)]
        by_cases e2 : ((!(less (l.getD n (default : Pr)).1 k || (l.getD n (default : Pr)).1 == k)) && !b) = true
        · rw [if_pos e2, if_pos e2, chk_pos (by omega), chk_pos (by omega), chk_pos (by simp; omega), chk_pos (by omega)]
        · rw [if_neg e2, if_neg e2, chk_pos (by omega), chk_pos (by omega), chk_pos (by omega)])
    hI (fun q z hz => by
      obtain ⟨b, w⟩ := z
      show f82_L0 l k s _ (q + 1) (b, l.length, w) = _
      conv => lhs; unfold f82_L0
      rw [ifd_neg (by omega)]) l.length FUEL 0 (false, []) (by omega) (fuel_lt (by omega)) (Nat.zero_le _)
  refine Eq.trans this ?_
  rw [List.drop_zero]
  have hl := foldl_inv (fun n (z : Bool × List Pr) => z.2.length ≤ 2 * n) (gPut k s) (default : Pr) l hI (false, []) (Nat.zero_le _)
  generalize l.foldl (gPut k s) (false, []) = z at hl
  obtain ⟨b, w⟩ := z
  simp only at hl
  cases b
  · simp only [Bool.not_false, if_true, Bool.false_eq_true, if_false]
    rw [chk_pos (by omega)]
  · rfl
theorem fold_lt (k s : List UInt8) (b : Bool) : ∀ (A w : List Pr), (∀ a, a ∈ A → less a.1 k = true) → A.foldl (gPut k s) (b, w) = (b, w ++ A)
  | [], w, _ => by simp
  | a :: A, w, h => by
    have ha := h a (List.mem_cons_self ..)
    have e : gPut k s (b, w) a = (b, w ++ [a]) := by
      unfold gPut
      rw [less_ne ha, ha]
      simp
    rw [List.foldl_cons, e, fold_lt k s b A _ fun x hx => h x (List.mem_cons_of_mem _ hx)]
    simp
theorem gt_ne {a b : List UInt8} (h : less b a = true) : (a == b) = false := by
  have := less_ne h
  cases e : a == b
  · rfl
  · have := eq_of_beq e; subst this; rw [less_irrefl] at h; cases h
theorem fold_gt (k s : List UInt8) : ∀ (C w : List Pr), (∀ a, a ∈ C → less k a.1 = true) → C.foldl (gPut k s) (true, w) = (true, w ++ C)
  | [], w, _ => by simp
  | a :: C, w, h => by
    have ha := h a (List.mem_cons_self ..)
    have e : gPut k s (true, w) a = (true, w ++ [a]) := by
      unfold gPut
      rw [gt_ne ha]
      simp
    rw [List.foldl_cons, e, fold_gt k s C _ fun x hx => h x (List.mem_cons_of_mem _ hx)]
    simp
theorem put_hit (A C : List Pr) (k v s : List UInt8) (n : Int) (hlen : (A ++ (k, v, n) :: C).length ≤ 1048576) (hv : ∀ a, a ∈ (A ++ (k, v, n) :: C) → 1 ≤ a.2.2 ∧ a.2.2 ≤ MV) (hA : ∀ a, a ∈ A → less a.1 k = true) (hC : ∀ c, c ∈ C → less k c.1 = true) :
    f82 (A ++ (k, v, n) :: C) k s = some (A ++ (k, s, min (n + 1) MV) :: C) := by
  rw [f82_fold _ k s hlen hv, List.foldl_append, fold_lt k s false A [] hA, List.foldl_cons]
  have e : gPut k s (false, [] ++ A) (k, v, n) = (true, A ++ [(k, s, min (n + 1) MV)]) := by
    unfold gPut
    simp
  rw [e, fold_gt k s C _ hC]
  simp
theorem put_miss (A C : List Pr) (k s : List UInt8) (hlen : (A ++ C).length ≤ 1048576) (hv : ∀ a, a ∈ (A ++ C) → 1 ≤ a.2.2 ∧ a.2.2 ≤ MV) (hA : ∀ a, a ∈ A → less a.1 k = true) (hC : ∀ c, c ∈ C → less k c.1 = true) :
    f82 (A ++ C) k s = some (A ++ (k, s, 1) :: C) := by
  rw [f82_fold _ k s hlen hv, List.foldl_append, fold_lt k s false A [] hA]
  cases C with
  | nil => simp
  | cons c C =>
    have hc := hC c (List.mem_cons_self ..)
    have e : gPut k s (false, [] ++ A) c = (true, A ++ [(k, s, 1), c]) := by
      unfold gPut
      rw [gt_ne hc, less_asymm hc]
      simp
    rw [List.foldl_cons, e, fold_gt k s C _ fun x hx => hC x (List.mem_cons_of_mem _ hx)]
    simp
theorem f88_eq (l : List Pr) (h : l.length ≤ 1048576) : f88 l = some l := by
  unfold f88
  rw [abc_eq, chk_pos (by omega)]
  · rfl
  · intro hl
    rw [chk_pos (by omega)]
    have : l = [] := List.length_eq_zero_iff.1 hl
    rw [this]; rfl

abbrev okW : List UInt8 := [111, 107, 32]
abbrev fullW : List UInt8 := [102, 117, 108, 108]
theorem find_hit (A C : List Pr) (k v : List UInt8) (n : Int) (hlen : (A ++ (k, v, n) :: C).length ≤ 1048576) (hA : ∀ a, a ∈ A → less a.1 k = true) (hC : ∀ c, c ∈ C → less k c.1 = true) : f84 (A ++ (k, v, n) :: C) k = some ((A.length : Int), true) := by
  rw [f111_eq A _ k hlen hA]
  · simp
  · intro b hb
    rcases List.mem_cons.1 hb with rfl | hb
    · exact less_irrefl _
    · exact less_asymm (hC b hb)
theorem find_miss (A C : List Pr) (k : List UInt8) (hlen : (A ++ C).length ≤ 1048576) (hA : ∀ a, a ∈ A → less a.1 k = true) (hC : ∀ c, c ∈ C → less k c.1 = true) : f84 (A ++ C) k = some ((A.length : Int), false) := by
  rw [f111_eq A _ k hlen hA fun b hb => less_asymm (hC b hb)]
  cases C with
  | nil => simp
  | cons c C => simp [gt_ne (hC c (List.mem_cons_self ..))]
theorem putP_hit (A C : List Pr) (k v s : List UInt8) (n : Int) (hlen : (A ++ (k, v, n) :: C).length ≤ 64) (h1 : 1 ≤ n) (h2 : n ≤ MV) (hA : ∀ a, a ∈ A → less a.1 k = true) (hC : ∀ c, c ∈ C → less k c.1 = true) :
    f86 (A ++ (k, v, n) :: C) k s = some (A ++ (k, s, min (n + 1) MV) :: C, okW ++ Lib.itoa (min (n + 1) MV)) := by
  simp only [MV] at *
  have hmin : 0 ≤ min (n + 1) 1000000000000 ∧ min (n + 1) 1000000000000 ≤ 1000000000000000 := by omega
  have hl := ilen hmin.1 hmin.2
  unfold f86
  rw [find_hit A C k v n (by omega) hA hC, some_bind]
  simp only [Bool.not_true, Bool.false_and, Bool.false_eq_true, if_false]
  rw [f88_eq _ (by omega), some_bind]
  simp only [jn, Int.toNat_natCast, set_at, getD_at]
  rw [len_at] at hlen
  rw [chk_pos (by rw [len_at]; omega), chk_pos (by rw [len_at]; omega), chk_pos (by rw [len_at]; omega), chk_pos (by rw [len_at]; omega), chk_pos (by omega), chk_pos (by rw [len_at]; omega), chk_pos (by rw [len_at]; omega),
    ito hmin.1 hmin.2, some_bind, chk_pos (by rw [len_at]; omega), chk_pos (by rw [len_at]; omega), chk_pos (by simp; omega)]
theorem putP_miss (A C : List Pr) (k s : List UInt8) (hlen : (A ++ C).length ≤ 64) (hA : ∀ a, a ∈ A → less a.1 k = true) (hC : ∀ c, c ∈ C → less k c.1 = true) :
    f86 (A ++ C) k s = if 64 ≤ (A ++ C).length then some (A ++ C, fullW) else some (A ++ (k, s, 1) :: C, okW ++ Lib.itoa 1) := by
  have hl := ilen (n := 1) (by omega) (by omega)
  unfold f86
  rw [find_miss A C k (by omega) hA hC, some_bind]
  by_cases hf : 64 ≤ (A ++ C).length
  · rw [if_pos hf, if_pos (by simp only [Bool.not_false, Bool.true_and, decide_eq_true_eq]; omega)]
  rw [if_neg hf, if_neg (by simp only [Bool.not_false, Bool.true_and, decide_eq_true_eq]; omega), f88_eq _ (by omega), some_bind]
  simp only [jn]
  have e58 : f115 (A.length : Int) (A ++ C) [(k, [], (0 : Int))] = some (A ++ (k, [], 0) :: C, [(k, [], 0)]) := by
    unfold f115
    by_cases hc : A.length < (A ++ C).length
    · rw [if_pos ⟨by omega, by rw [Int.toNat_natCast]; exact hc, by simp, by simp; simp at hlen; omega⟩, Int.toNat_natCast, take_at, dropA_at]
      simp
    · have : C = [] := by
        cases C with
        | nil => rfl
        | cons c C => simp at hc
      subst this
      rw [if_neg (by rw [Int.toNat_natCast]; omega)]
      unfold f115e
      rw [List.append_nil, chk_pos (by omega), if_neg (by simp), if_pos (by simp), chk_pos (by simp; simp at hlen; omega)]
  simp only [Bool.not_false, if_true, e58, some_bind, Int.toNat_natCast, set_at, getD_at]
  rw [List.length_append] at hlen hf
  have e1 : min ((0 : Int) + 1) 1000000000000 = 1 := by decide
  rw [e1]
  rw [chk_pos (by rw [len_at]; omega), chk_pos (by rw [len_at]; omega), chk_pos (by rw [len_at]; omega), chk_pos (by rw [len_at]; omega), chk_pos (by omega), chk_pos (by rw [len_at]; omega), chk_pos (by rw [len_at]; omega),
    ito (by omega) (by omega), some_bind, chk_pos (by rw [len_at]; omega), chk_pos (by rw [len_at]; omega), chk_pos (by simp; omega)]
/-- the end of Execute in the specification -/
def tailR (x1 : List Pr) (x3 : List UInt8) (r7 : Int) (s10 : List UInt8) : Option (List UInt8 × List Pr) :=
  if ((decide (r7 < (0 : Int))) && (decide ((((x1).length : Nat) : Int) ≥ (64 : Int)))) then (
  some (([102, 117, 108, 108] : List UInt8), ([] ++ x1))
  ) else (
  (f82 x1 x3 s10).bind fun (r12 : List (List UInt8 × List UInt8 × Int)) =>
  (f80 r12 x3).bind fun (r13 : Int) =>
  (f81 FUEL ((r12.getD ((r13).toNat) (default : List UInt8 × List UInt8 × Int)).2.2)).bind fun (r14 : List UInt8) =>
  chk (0 ≤ r13 ∧ r13 < (((r12).length : Nat) : Int)) <|
  chk (((r13).toNat) < (r12).length) <|
  chk (([111, 107, 32] : List UInt8).length + r14.length ≤ 9223372036854775807) <|
  some ((([111, 107, 32] : List UInt8) ++ r14), r12)
  )
theorem tail_hit (A C : List Pr) (k v s : List UInt8) (n : Int) (hlen : (A ++ (k, v, n) :: C).length ≤ 64) (hv : ∀ a, a ∈ (A ++ (k, v, n) :: C) → 1 ≤ a.2.2 ∧ a.2.2 ≤ MV) (hA : ∀ a, a ∈ A → less a.1 k = true) (hC : ∀ c, c ∈ C → less k c.1 = true) :
    tailR (A ++ (k, v, n) :: C) k (A.length : Int) s = some (okW ++ Lib.itoa (min (n + 1) MV), A ++ (k, s, min (n + 1) MV) :: C) := by
  have hn := hv (k, v, n) (by simp)
  simp only [MV] at hn
  have hmin : 0 ≤ min (n + 1) 1000000000000 ∧ min (n + 1) 1000000000000 ≤ 1000000000000000 := by omega
  have hl := ilen hmin.1 hmin.2
  unfold tailR
  rw [if_neg (by simp; omega), put_hit A C k v s n (by omega) hv hA hC, some_bind]
  simp only [MV]
  rw [len_at] at hlen
  rw [f80_hit A C k s _ (by rw [len_at]; omega) (fun a ha => less_ne (hA a ha)) (fun c hc => gt_ne (hC c hc)), some_bind, Int.toNat_natCast, getD_at, dig hmin.1 hmin.2, some_bind, chk_pos (by rw [len_at]; omega), chk_pos (by rw [len_at]; omega), chk_pos (by simp; omega)]
theorem tail_miss (A C : List Pr) (k s : List UInt8) (hlen : (A ++ C).length ≤ 64) (hv : ∀ a, a ∈ (A ++ C) → 1 ≤ a.2.2 ∧ a.2.2 ≤ MV) (hA : ∀ a, a ∈ A → less a.1 k = true) (hC : ∀ c, c ∈ C → less k c.1 = true) :
    tailR (A ++ C) k (-1) s = if 64 ≤ (A ++ C).length then some (fullW, A ++ C) else some (okW ++ Lib.itoa 1, A ++ (k, s, 1) :: C) := by
  have hl := ilen (n := 1) (by omega) (by omega)
  unfold tailR
  by_cases hf : 64 ≤ (A ++ C).length
  · rw [if_pos hf, if_pos (by simp only [Bool.and_eq_true, decide_eq_true_eq]; omega)]
    rfl
  rw [if_neg hf, if_neg (by simp only [Bool.and_eq_true, decide_eq_true_eq]; omega), put_miss A C k s (by omega) hv hA hC, some_bind]
  rw [List.length_append] at hlen hf
  rw [f80_hit A C k s _ (by rw [len_at]; omega) (fun a ha => less_ne (hA a ha)) (fun c hc => gt_ne (hC c hc)), some_bind, Int.toNat_natCast, getD_at, dig (n := 1) (by omega) (by omega), some_bind, chk_pos (by rw [len_at]; omega), chk_pos (by rw [len_at]; omega), chk_pos (by simp; omega)]

theorem gr_app {v c : List UInt8} (hv : gr v 256 = true) (hc : gr c 64 = true) (h : (v ++ c).length ≤ 256) : gr (v ++ c) 256 = true := by
  unfold gr at *
  simp only [Bool.and_eq_true, Bool.not_eq_true', decide_eq_true_eq] at *
  refine ⟨by rw [List.any_append, hv.1, hc.1]; rfl, ?_, by omega⟩
  cases v with
  | nil => have := hv.2.1; simp at this
  | cons x v => rfl
theorem gr_up {c : List UInt8} (hc : gr c 64 = true) : gr c 256 = true := by
  unfold gr at *
  simp only [Bool.and_eq_true, decide_eq_true_eq] at *
  exact ⟨hc.1, hc.2.1, by omega⟩
theorem stv_set {A C : List Pr} {k v s : List UInt8} {n m : Int} (h : StV (A ++ (k, v, n) :: C)) (hs : gr s 256 = true) (h1 : 1 ≤ m) (h2 : m ≤ MV) : StV (A ++ (k, s, m) :: C) := by
  refine ⟨by have := h.len; rw [len_at] at this ⊢; exact this, fun p hp => ?_, ?_⟩
  · rcases List.mem_append.1 hp with hp | hp
    · exact h.each p (List.mem_append_left _ hp)
    · rcases List.mem_cons.1 hp with rfl | hp
      · have := h.each (k, v, n) (by simp)
        exact ⟨this.1, hs, h1, h2⟩
      · exact h.each p (by simp [hp])
  · have := h.srt
    simp only [Srtd, List.pairwise_append, List.pairwise_cons] at this ⊢
    refine ⟨this.1, this.2.1, fun a ha b hb => ?_⟩
    rcases List.mem_cons.1 hb with rfl | hb
    · exact this.2.2 a ha (k, v, n) (List.mem_cons_self ..)
    · exact this.2.2 a ha b (List.mem_cons_of_mem _ hb)
theorem stv_ins {A C : List Pr} {k s : List UInt8} (h : StV (A ++ C)) (hl : (A ++ C).length < 64) (hk : gr k 64 = true) (hs : gr s 256 = true) (hA : ∀ a, a ∈ A → less a.1 k = true) (hC : ∀ c, c ∈ C → less k c.1 = true) : StV (A ++ (k, s, 1) :: C) := by
  refine ⟨by rw [List.length_append] at hl; rw [len_at]; omega, fun p hp => ?_, ?_⟩
  · rcases List.mem_append.1 hp with hp | hp
    · exact h.each p (List.mem_append_left _ hp)
    · rcases List.mem_cons.1 hp with rfl | hp
      · exact ⟨hk, hs, by simp, by simp⟩
      · exact h.each p (List.mem_append_right _ hp)
  · have := h.srt
    simp only [Srtd, List.pairwise_append, List.pairwise_cons] at this ⊢
    refine ⟨this.1, ⟨hC, this.2.1⟩, fun a ha b hb => ?_⟩
    rcases List.mem_cons.1 hb with rfl | hb
    · exact hA a ha
    · exact this.2.2 a ha b hb
theorem stv_del {A C : List Pr} {x : Pr} (h : StV (A ++ x :: C)) : StV (A ++ C) := by
  refine ⟨by have := h.len; rw [len_at] at this; rw [List.length_append]; omega, fun p hp => h.each p (by rcases List.mem_append.1 hp with hp | hp <;> simp [hp]), ?_⟩
  have := h.srt
  simp only [Srtd, List.pairwise_append, List.pairwise_cons] at this ⊢
  exact ⟨this.1, this.2.1.2, fun a ha b hb => this.2.2 a ha b (List.mem_cons_of_mem _ hb)⟩
/-- what a key has -/
def ent (l : List Pr) (k : List UInt8) : Option (List UInt8 × Int) := (l.find? fun p => p.1 == k).map (·.2)
theorem ent_hit {A C : List Pr} {k v : List UInt8} {n : Int} (hA : ∀ a, a ∈ A → less a.1 k = true) : ent (A ++ (k, v, n) :: C) k = some (v, n) := by
  unfold ent
  rw [List.find?_append, List.find?_eq_none.2 fun a ha => by simp [less_ne (hA a ha)]]
  simp
theorem ent_miss {A C : List Pr} {k : List UInt8} (hA : ∀ a, a ∈ A → less a.1 k = true) (hC : ∀ c, c ∈ C → less k c.1 = true) : ent (A ++ C) k = none := by
  unfold ent
  rw [List.find?_eq_none.2 fun a ha => by rcases List.mem_append.1 ha with ha | ha; simp [less_ne (hA a ha)]; simp [gt_ne (hC a ha)]]
  rfl
theorem ent_other {A C : List Pr} {k k' v : List UInt8} {n : Int} (h : k' ≠ k) : ent (A ++ (k, v, n) :: C) k' = ent (A ++ C) k' := by
  unfold ent
  rw [List.find?_append, List.find?_append, List.find?_cons]
  have : (k == k') = false := beq_false_of_ne fun e => h e.symm
  simp only [this]
/-- what Execute answers, and what its key has then -/
def R (e : Option (List UInt8 × Int)) (cnt : Nat) (k : Int) (a b c : List UInt8) : List UInt8 × Option (List UInt8 × Int) :=
  if okOp k a b c = false then (cs6, e) else
  if k = 6 then (cs7 ++ Lib.itoa (cnt : Int), e) else
  match e with
  | none => if k = 1 ∨ k = 4 then (if 64 ≤ cnt then (fullW, none) else (okW ++ Lib.itoa 1, some (c, 1))) else ([110, 111, 110, 101], none)
  | some (v, n) =>
    if k = 1 then (okW ++ Lib.itoa (min (n + 1) MV), some (c, min (n + 1) MV)) else
    if k = 2 then (cs8 ++ v ++ [32] ++ Lib.itoa n, some (v, n)) else
    if k = 3 then ([111, 107], none) else
    if k = 4 then (if (v ++ c).length > 256 then ([108, 111, 110, 103], some (v, n)) else (okW ++ Lib.itoa (min (n + 1) MV), some (v ++ c, min (n + 1) MV))) else
    if v = b then (okW ++ Lib.itoa (min (n + 1) MV), some (c, min (n + 1) MV)) else ([110, 111, 32] ++ v, some (v, n))
structure Ex (l : List Pr) (k : Int) (a b c : List UInt8) (l' : List Pr) : Prop where
  prog : f57 l k a b c = some (l', (R (ent l a) l.length k a b c).1)
  spec : f56 l k a b c = some ((R (ent l a) l.length k a b c).1, l')
  ok : StV l'
  here : ent l' a = (R (ent l a) l.length k a b c).2
  there : ∀ k', k' ≠ a → ent l' k' = ent l k'
  keys : ∀ p, p ∈ l' → p.1 = a ∨ ∃ q, q ∈ l ∧ q.1 = p.1
  read : (k = 2 ∨ k = 6) → l' = l
theorem R_bad {e : Option (List UInt8 × Int)} {cnt : Nat} {k : Int} {a b c : List UInt8} (h : okOp k a b c = false) : R e cnt k a b c = (cs6, e) := by
  unfold R
  rw [if_pos h]
theorem nmin {n : Int} (h1 : 1 ≤ n) (h2 : n ≤ MV) : 1 ≤ min (n + 1) MV ∧ min (n + 1) MV ≤ MV := by
  simp only [MV] at *
  omega
theorem spec_head (l : List Pr) (k : Int) (a b c : List UInt8) (hl : l.length ≤ 64) (ha : a.length ≤ 9223372036854775807) (hb : b.length ≤ 9223372036854775807) (hc : c.length ≤ 9223372036854775807) (h : okOp k a b c = false) : f56 l k a b c = some (cs6, l) := by
  unfold f56
  rw [chk_pos (by omega), f53_eq k a b c ha hb hc, some_bind, h]
  rfl
theorem prog_head (l : List Pr) (k : Int) (a b c : List UInt8) (ha : a.length ≤ 9223372036854775807) (hb : b.length ≤ 9223372036854775807) (hc : c.length ≤ 9223372036854775807) (h : okOp k a b c = false) : f57 l k a b c = some (l, cs6) := by
  unfold f57
  rw [f83_eq k a b c ha hb hc, some_bind, h]
  rfl
/-- the specification at a key that is there -/
theorem spec_hit (A C : List Pr) (k : Int) (a b c v : List UInt8) (n : Int) (hV : StV (A ++ (a, v, n) :: C)) (ha : a.length ≤ 9223372036854775807) (hb : b.length ≤ 9223372036854775807) (hc : c.length ≤ 9223372036854775807) (h : okOp k a b c = true)
    (hA : ∀ x, x ∈ A → less x.1 a = true) (hC : ∀ x, x ∈ C → less a x.1 = true) :
    f56 (A ++ (a, v, n) :: C) k a b c =
      if k = 6 then some (cs7 ++ Lib.itoa ((A ++ (a, v, n) :: C).length : Int), A ++ (a, v, n) :: C) else
      if k = 2 then some (cs8 ++ v ++ [32] ++ Lib.itoa n, A ++ (a, v, n) :: C) else
      if k = 3 then some ([111, 107], A ++ C) else
      if k = 5 then (if v = b then some (okW ++ Lib.itoa (min (n + 1) MV), A ++ (a, c, min (n + 1) MV) :: C) else some ([110, 111, 32] ++ v, A ++ (a, v, n) :: C)) else
      if k = 4 then (if (v ++ c).length > 256 then some ([108, 111, 110, 103], A ++ (a, v, n) :: C) else some (okW ++ Lib.itoa (min (n + 1) MV), A ++ (a, v ++ c, min (n + 1) MV) :: C)) else
      some (okW ++ Lib.itoa (min (n + 1) MV), A ++ (a, c, min (n + 1) MV) :: C) := by
  have hl := hV.len
  have hp := hV.each (a, v, n) (by simp)
  obtain ⟨p1, p2, p3, p4⟩ := hp
  simp only at p1 p2 p3 p4
  have hvl := gr_len p2
  have hil := ilen (n := n) (by omega) (by omega)
  have hcl := (ok_len h).2.2
  have hl2 := ilen (n := (((A ++ (a, v, n) :: C).length : Nat) : Int)) (by omega) (by omega)
  have tl : ∀ s, tailR (A ++ (a, v, n) :: C) a (A.length : Int) s = some (okW ++ Lib.itoa (min (n + 1) MV), A ++ (a, s, min (n + 1) MV) :: C) := fun s =>
    tail_hit A C a v s n hl (fun x hx => ⟨(hV.each x hx).2.2.1, (hV.each x hx).2.2.2⟩) hA hC
  have hla := len_at A C (a, v, n)
  unfold f56
  rw [chk_pos (by omega), f53_eq k a b c ha hb hc, some_bind, h, f80_hit A C a v n (by omega) (fun x hx => less_ne (hA x hx)) (fun x hx => gt_ne (hC x hx))]
  simp only [if_true, bne_self_eq_false, Bool.false_eq_true, if_false, some_bind, jn, Int.toNat_natCast, getD_at, List.nil_append, beq_iff_eq]
  rw [dig (n := (((A ++ (a, v, n) :: C).length : Nat) : Int)) (by omega) (by omega), some_bind, chk_pos (by have : cs7.length = 6 := rfl; omega)]
  have hneg : decide ((A.length : Int) < 0) = false := by simp
  simp only [hneg, Bool.false_eq_true, if_false]
  split
  · rfl
  split
  · rw [dig (n := n) (by omega) (by omega), some_bind, chk_pos (by rw [hla]; omega), chk_pos (by simp [cs8]; omega), chk_pos (by simp [cs8]; omega), chk_pos (by rw [hla]; omega), chk_pos (by simp [cs8]; omega)]
  split
  · rw [chk_pos (by rw [hla]; omega), chk_pos (by omega), chk_pos (by omega), chk_pos (by rw [hla]; omega), chk_pos (by rw [hla]; omega)]
    have e1 : ((A.length : Int) + 1).toNat = A.length + 1 := by omega
    rw [e1, take_at, drop_at]
  split
  · rw [chk_pos (by rw [hla]; omega)]
    by_cases e : v = b
    · rw [if_pos e, if_neg (by simp [e])]
      exact tl c
    · rw [if_neg e, if_pos (by simp [e]), chk_pos (by rw [hla]; omega), chk_pos (by simp; omega)]
  split
  · rw [ifd_pos (by omega), chk_pos (by rw [hla]; omega), chk_pos (by omega)]
    by_cases e : (v ++ c).length > 256
    · rw [if_pos e, ifd_pos (by omega)]
    · rw [if_neg e, ifd_neg (by omega)]
      exact tl (v ++ c)
  · exact tl c
/-- .. that is not there -/
theorem spec_miss (A C : List Pr) (k : Int) (a b c : List UInt8) (hV : StV (A ++ C)) (ha : a.length ≤ 9223372036854775807) (hb : b.length ≤ 9223372036854775807) (hc : c.length ≤ 9223372036854775807) (h : okOp k a b c = true)
    (hA : ∀ x, x ∈ A → less x.1 a = true) (hC : ∀ x, x ∈ C → less a x.1 = true) :
    f56 (A ++ C) k a b c =
      if k = 6 then some (cs7 ++ Lib.itoa ((A ++ C).length : Int), A ++ C) else
      if k = 2 ∨ k = 3 ∨ k = 5 then some ([110, 111, 110, 101], A ++ C) else
      if 64 ≤ (A ++ C).length then some (fullW, A ++ C) else some (okW ++ Lib.itoa 1, A ++ (a, c, 1) :: C) := by
  have hl := hV.len
  have hcl := (ok_len h).2.2
  have hl2 := ilen (n := (((A ++ C).length : Nat) : Int)) (by omega) (by omega)
  have tl : tailR (A ++ C) a (-1) c = if 64 ≤ (A ++ C).length then some (fullW, A ++ C) else some (okW ++ Lib.itoa 1, A ++ (a, c, 1) :: C) :=
    tail_miss A C a c hl (fun x hx => ⟨(hV.each x hx).2.2.1, (hV.each x hx).2.2.2⟩) hA hC
  unfold f56
  rw [chk_pos (by omega), f53_eq k a b c ha hb hc, some_bind, h, f80_miss (A ++ C) a (by omega) (fun x hx => by rcases List.mem_append.1 hx with hx | hx; exact less_ne (hA x hx); exact gt_ne (hC x hx))]
  simp only [if_true, bne_self_eq_false, Bool.false_eq_true, if_false, some_bind, jn, List.nil_append, beq_iff_eq]
  rw [dig (n := (((A ++ C).length : Nat) : Int)) (by omega) (by omega), some_bind, chk_pos (by have : cs7.length = 6 := rfl; omega)]
  have hneg : decide ((-1 : Int) < 0) = true := by decide
  have hneg2 : decide ((-1 : Int) ≥ 0) = false := by decide
  simp only [hneg, hneg2, if_true, Bool.false_eq_true, if_false]
  by_cases h6 : k = 6
  · rw [if_pos h6, if_pos h6]
  rw [if_neg h6, if_neg h6]
  by_cases h2 : k = 2
  · rw [if_pos h2, if_pos (.inl h2)]
  rw [if_neg h2]
  by_cases h3 : k = 3
  · rw [if_pos h3, if_pos (.inr (.inl h3))]
  rw [if_neg h3]
  by_cases h5 : k = 5
  · rw [if_pos h5, if_pos (.inr (.inr h5))]
  rw [if_neg h5, if_neg (show ¬ (k = 2 ∨ k = 3 ∨ k = 5) by omega)]
  split
  · rw [ifd_neg (by omega)]
    exact tl
  · exact tl
theorem okOp_is {k : Int} {a b c : List UInt8} (h : okOp k a b c = true) : isK k = true := by
  unfold okOp at h
  simp only [Bool.and_eq_true] at h
  exact h.1.1.1
theorem okK {k : Int} {a b c : List UInt8} (h : okOp k a b c = true) : k = 1 ∨ k = 2 ∨ k = 3 ∨ k = 4 ∨ k = 5 ∨ k = 6 := by
  have h0 := (okOp_is h)
  rcases kinds k with h | h | h | h | h | h | h
  · exact .inl h
  · exact .inr (.inl h)
  · exact .inr (.inr (.inl h))
  · exact .inr (.inr (.inr (.inl h)))
  · exact .inr (.inr (.inr (.inr (.inl h))))
  · exact .inr (.inr (.inr (.inr (.inr h))))
  · rw [h] at h0; cases h0

theorem prog_hit (A C : List Pr) (k : Int) (a b c v : List UInt8) (n : Int) (hV : StV (A ++ (a, v, n) :: C)) (ha : a.length ≤ 9223372036854775807) (hb : b.length ≤ 9223372036854775807) (hc : c.length ≤ 9223372036854775807) (h : okOp k a b c = true)
    (hA : ∀ x, x ∈ A → less x.1 a = true) (hC : ∀ x, x ∈ C → less a x.1 = true) :
    f57 (A ++ (a, v, n) :: C) k a b c =
      if k = 6 then some (A ++ (a, v, n) :: C, cs7 ++ Lib.itoa ((A ++ (a, v, n) :: C).length : Int)) else
      if k = 1 then some (A ++ (a, c, min (n + 1) MV) :: C, okW ++ Lib.itoa (min (n + 1) MV)) else
      if k = 2 then some (A ++ (a, v, n) :: C, cs8 ++ v ++ [32] ++ Lib.itoa n) else
      if k = 3 then some (A ++ C, [111, 107]) else
      if k = 4 then (if (v ++ c).length > 256 then some (A ++ (a, v, n) :: C, [108, 111, 110, 103]) else some (A ++ (a, v ++ c, min (n + 1) MV) :: C, okW ++ Lib.itoa (min (n + 1) MV))) else
      if v = b then some (A ++ (a, c, min (n + 1) MV) :: C, okW ++ Lib.itoa (min (n + 1) MV)) else some (A ++ (a, v, n) :: C, [110, 111, 32] ++ v) := by
  have hl := hV.len
  have hp := hV.each (a, v, n) (by simp)
  obtain ⟨p1, p2, p3, p4⟩ := hp
  simp only at p1 p2 p3 p4
  have hvl := gr_len p2
  have hil := ilen (n := n) (by omega) (by omega)
  have hcl := (ok_len h).2.2
  have hl2 := ilen (n := (((A ++ (a, v, n) :: C).length : Nat) : Int)) (by omega) (by omega)
  have hla := len_at A C (a, v, n)
  have put : ∀ s, f86 (A ++ (a, v, n) :: C) a s = some (A ++ (a, s, min (n + 1) MV) :: C, okW ++ Lib.itoa (min (n + 1) MV)) := fun s => putP_hit A C a v s n hl p3 p4 hA hC
  unfold f57
  rw [f83_eq k a b c ha hb hc, some_bind, h]
  simp only [Bool.not_true, Bool.false_eq_true, if_false]
  rw [find_hit A C a v n (by omega) hA hC, some_bind]
  simp only [beq_iff_eq, Bool.not_true, Bool.and_false, Bool.false_eq_true, if_false, Int.toNat_natCast, getD_at]
  split
  · rw [ito (n := (((A ++ (a, v, n) :: C).length : Nat) : Int)) (by omega) (by omega), some_bind, chk_pos (by have : cs7.length = 6 := rfl; omega)]
  split
  · rw [put, some_bind]
  rw [chk_pos (by rw [hla]; omega)]
  split
  · rw [ito (n := n) (by omega) (by omega), some_bind, chk_pos (by have : cs8.length = 6 := rfl; omega), chk_pos (by simp [cs8]; omega), chk_pos (by simp [cs8]; omega)]
  split
  · rw [f88_eq _ (by omega), some_bind]
    unfold f87
    have e1 : ((A.length : Int) + 1).toNat = A.length + 1 := by omega
    rw [if_pos ⟨by omega, by omega, by rw [e1, hla]; omega⟩, some_bind, chk_pos (by omega), e1, Int.toNat_natCast, take_at, drop_at]
  split
  · rw [chk_pos (by omega)]
    by_cases e : (v ++ c).length > 256
    · rw [if_pos e, ifd_pos (by rw [List.length_append] at e; omega)]
    · rw [if_neg e, ifd_neg (by rw [List.length_append] at e; omega), put, some_bind, chk_pos (by omega)]
  · by_cases e : v = b
    · rw [if_pos e, if_neg (by simp [e]), put, some_bind]
    · rw [if_neg e, if_pos (by simp [e]), chk_pos (by simp; omega)]
theorem prog_miss (A C : List Pr) (k : Int) (a b c : List UInt8) (hV : StV (A ++ C)) (ha : a.length ≤ 9223372036854775807) (hb : b.length ≤ 9223372036854775807) (hc : c.length ≤ 9223372036854775807) (h : okOp k a b c = true)
    (hA : ∀ x, x ∈ A → less x.1 a = true) (hC : ∀ x, x ∈ C → less a x.1 = true) :
    f57 (A ++ C) k a b c =
      if k = 6 then some (A ++ C, cs7 ++ Lib.itoa ((A ++ C).length : Int)) else
      if k = 1 ∨ k = 4 then (if 64 ≤ (A ++ C).length then some (A ++ C, fullW) else some (A ++ (a, c, 1) :: C, okW ++ Lib.itoa 1)) else
      some (A ++ C, [110, 111, 110, 101]) := by
  have hl := hV.len
  have hl2 := ilen (n := (((A ++ C).length : Nat) : Int)) (by omega) (by omega)
  have put := putP_miss A C a c hl hA hC
  have put' : ((f86 (A ++ C) a c).bind fun r => some (r.1, r.2)) = if 64 ≤ (A ++ C).length then some (A ++ C, fullW) else some (A ++ (a, c, 1) :: C, okW ++ Lib.itoa 1) := by
    rw [put]
    split <;> rfl
  unfold f57
  rw [f83_eq k a b c ha hb hc, some_bind, h]
  simp only [Bool.not_true, Bool.false_eq_true, if_false]
  rw [find_miss A C a (by omega) hA hC, some_bind]
  simp only [beq_iff_eq, Bool.not_false, Bool.and_true, if_true]
  split
  · rw [ito (n := (((A ++ C).length : Nat) : Int)) (by omega) (by omega), some_bind, chk_pos (by have : cs7.length = 6 := rfl; omega)]
  by_cases h1 : k = 1
  · rw [if_pos h1, if_pos (.inl h1)]
    exact put'
  by_cases h4 : k = 4
  · rw [if_neg h1, if_pos h4, if_pos (.inr h4)]
    exact put'
  · rw [if_neg h1, if_neg h4, if_neg (by omega)]
theorem exec (l : List Pr) (k : Int) (a b c : List UInt8) (hV : StV l) (ha : a.length ≤ 9223372036854775807) (hb : b.length ≤ 9223372036854775807) (hc : c.length ≤ 9223372036854775807) : ∃ l', Ex l k a b c l' := by
  cases h : okOp k a b c
  · exact ⟨l, by rw [R_bad h]; exact prog_head l k a b c ha hb hc h, by rw [R_bad h]; exact spec_head l k a b c hV.len ha hb hc h, hV, by rw [R_bad h], fun _ _ => rfl, fun p hp => .inr ⟨p, hp, rfl⟩, fun _ => rfl⟩
  have hk := okK h
  have hcg : k = 1 ∨ k = 4 ∨ k = 5 → gr c 64 = true := by
    unfold okOp at h
    simp only [Bool.and_eq_true] at h
    have := h.2
    rintro (rfl | rfl | rfl) <;> exact this
  have hag : k ≠ 6 → gr a 64 = true := by
    unfold okOp at h
    simp only [Bool.and_eq_true] at h
    have := h.1.1.2
    rcases hk with rfl | rfl | rfl | rfl | rfl | rfl <;> intro h6 <;> first | exact this | exact absurd rfl h6
  have hf : okOp k a b c = false ↔ False := by rw [h]; simp
  cases view l a hV.srt with
  | hit A C v n e hA hC =>
    subst e
    have p := prog_hit A C k a b c v n hV ha hb hc h hA hC
    have s := spec_hit A C k a b c v n hV ha hb hc h hA hC
    have hp := hV.each (a, v, n) (by simp)
    have e0 := ent_hit (C := C) (v := v) (n := n) hA
    have hm := nmin hp.2.2.1 hp.2.2.2
    have keysS : ∀ s m, ∀ p, p ∈ A ++ (a, s, m) :: C → p.1 = a ∨ ∃ q, q ∈ A ++ (a, v, n) :: C ∧ q.1 = p.1 := by
      intro s m p hp
      rcases List.mem_append.1 hp with hp | hp
      · exact .inr ⟨p, List.mem_append_left _ hp, rfl⟩
      · rcases List.mem_cons.1 hp with rfl | hp
        · exact .inl rfl
        · exact .inr ⟨p, by simp [hp], rfl⟩
    have setS : ∀ s, gr s 256 = true → StV (A ++ (a, s, min (n + 1) MV) :: C) := fun s hs => stv_set hV hs hm.1 hm.2
    have there : ∀ (s : List UInt8) (m : Int), ∀ k', k' ≠ a → ent (A ++ (a, s, m) :: C) k' = ent (A ++ (a, v, n) :: C) k' := fun s m k' hk' => by rw [ent_other hk', ent_other hk']
    rcases hk with rfl | rfl | rfl | rfl | rfl | rfl
    · refine ⟨A ++ (a, c, min (n + 1) MV) :: C, ?_, ?_, setS c (gr_up (hcg (.inl rfl))), ?_, there _ _, keysS _ _, fun h => by omega⟩
      · rw [p, e0]; simp [R, hf]
      · rw [s, e0]; simp [R, hf]
      · rw [e0, ent_hit hA]; simp [R, hf]
    · refine ⟨A ++ (a, v, n) :: C, ?_, ?_, hV, ?_, there _ _, keysS _ _, fun _ => rfl⟩
      · rw [p, e0]; simp [R, hf]
      · rw [s, e0]; simp [R, hf]
      · rw [e0]; simp [R, hf]
    · refine ⟨A ++ C, ?_, ?_, stv_del hV, ?_, fun k' hk' => by rw [ent_other hk'], fun p hp => .inr ⟨p, by rcases List.mem_append.1 hp with hp | hp <;> simp [hp], rfl⟩, fun h => by omega⟩
      · rw [p, e0]; simp [R, hf]
      · rw [s, e0]; simp [R, hf]
      · rw [e0, ent_miss hA hC]; simp [R, hf]
    · by_cases hlong : (v ++ c).length > 256
      · refine ⟨A ++ (a, v, n) :: C, ?_, ?_, hV, ?_, there _ _, keysS _ _, fun h => by omega⟩
        · rw [p, e0]; simp only [R, hf, hlong]; simp
        · rw [s, e0]; simp only [R, hf, hlong]; simp
        · rw [e0]; simp only [R, hf, hlong]; simp
      · refine ⟨A ++ (a, v ++ c, min (n + 1) MV) :: C, ?_, ?_, setS _ (gr_app hp.2.1 (hcg (.inr (.inl rfl))) (by omega)), ?_, there _ _, keysS _ _, fun h => by omega⟩
        · rw [p, e0]; simp only [R, hf, hlong]; simp
        · rw [s, e0]; simp only [R, hf, hlong]; simp
        · rw [e0, ent_hit hA]; simp only [R, hf, hlong]; simp
    · by_cases hvb : v = b
      · refine ⟨A ++ (a, c, min (n + 1) MV) :: C, ?_, ?_, setS c (gr_up (hcg (.inr (.inr rfl)))), ?_, there _ _, keysS _ _, fun h => by omega⟩
        · rw [p, e0]; simp [R, hf, hvb]
        · rw [s, e0]; simp [R, hf, hvb]
        · rw [e0, ent_hit hA]; simp [R, hf, hvb]
      · refine ⟨A ++ (a, v, n) :: C, ?_, ?_, hV, ?_, there _ _, keysS _ _, fun h => by omega⟩
        · rw [p, e0]; simp [R, hf, hvb]
        · rw [s, e0]; simp [R, hf, hvb]
        · rw [e0]; simp [R, hf, hvb]
    · refine ⟨A ++ (a, v, n) :: C, ?_, ?_, hV, ?_, there _ _, keysS _ _, fun _ => rfl⟩
      · rw [p, e0]; simp only [R, hf, if_true, if_false]
      · rw [s, e0]; simp only [R, hf, if_true, if_false]
      · rw [e0]; simp only [R, hf, if_true, if_false]
  | miss A C e hA hC =>
    subst e
    have p := prog_miss A C k a b c hV ha hb hc h hA hC
    have s := spec_miss A C k a b c hV ha hb hc h hA hC
    have e0 := ent_miss hA hC
    have keep : ∀ p, p ∈ A ++ C → p.1 = a ∨ ∃ q, q ∈ A ++ C ∧ q.1 = p.1 := fun p hp => .inr ⟨p, hp, rfl⟩
    have keysS : ∀ s m, ∀ p, p ∈ A ++ (a, s, m) :: C → p.1 = a ∨ ∃ q, q ∈ A ++ C ∧ q.1 = p.1 := by
      intro s m p hp
      rcases List.mem_append.1 hp with hp | hp
      · exact .inr ⟨p, List.mem_append_left _ hp, rfl⟩
      · rcases List.mem_cons.1 hp with rfl | hp
        · exact .inl rfl
        · exact .inr ⟨p, by simp [hp], rfl⟩
    have ins : (k = 1 ∨ k = 4) → ∃ l', Ex (A ++ C) k a b c l' := by
      intro h14
      have h6 : k ≠ 6 := by omega
      have h235 : ¬ (k = 2 ∨ k = 3 ∨ k = 5) := by omega
      by_cases hfull : 64 ≤ (A ++ C).length
      · refine ⟨A ++ C, ?_, ?_, hV, ?_, fun _ _ => rfl, keep, fun _ => rfl⟩
        · rw [p, e0, if_neg h6, if_pos h14, if_pos hfull]; simp only [R, hf, if_false, if_neg h6, if_pos h14, if_pos hfull]
        · rw [s, e0, if_neg h6, if_neg h235, if_pos hfull]; simp only [R, hf, if_false, if_neg h6, if_pos h14, if_pos hfull]
        · rw [e0]; simp only [R, hf, if_false, if_neg h6, if_pos h14, if_pos hfull]
      · refine ⟨A ++ (a, c, 1) :: C, ?_, ?_, stv_ins hV (by omega) (hag h6) (gr_up (hcg (by omega))) hA hC, ?_, fun k' hk' => by rw [ent_other hk'], keysS _ _, fun h => by omega⟩
        · rw [p, e0, if_neg h6, if_pos h14, if_neg hfull]; simp only [R, hf, if_false, if_neg h6, if_pos h14, if_neg hfull]
        · rw [s, e0, if_neg h6, if_neg h235, if_neg hfull]; simp only [R, hf, if_false, if_neg h6, if_pos h14, if_neg hfull]
        · rw [e0, ent_hit hA]; simp only [R, hf, if_false, if_neg h6, if_pos h14, if_neg hfull]
    have non : (k = 2 ∨ k = 3 ∨ k = 5) → ∃ l', Ex (A ++ C) k a b c l' := by
      intro h235
      have h6 : k ≠ 6 := by omega
      have h14 : ¬ (k = 1 ∨ k = 4) := by omega
      refine ⟨A ++ C, ?_, ?_, hV, ?_, fun _ _ => rfl, keep, fun _ => rfl⟩
      · rw [p, e0, if_neg h6, if_neg h14]; simp only [R, hf, if_false, if_neg h6, if_neg h14]
      · rw [s, e0, if_neg h6, if_pos h235]; simp only [R, hf, if_false, if_neg h6, if_neg h14]
      · rw [e0]; simp only [R, hf, if_false, if_neg h6, if_neg h14]
    rcases hk with h | h | h | h | h | rfl
    · exact ins (.inl h)
    · exact non (.inl h)
    · exact non (.inr (.inl h))
    · exact ins (.inr h)
    · exact non (.inr (.inr h))
    · refine ⟨A ++ C, ?_, ?_, hV, ?_, fun _ _ => rfl, keep, fun _ => rfl⟩
      · rw [p, e0]; simp only [R, hf, if_true, if_false]
      · rw [s, e0]; simp only [R, hf, if_true, if_false]
      · rw [e0]; simp only [R, hf, if_true, if_false]


end Go.Abs
