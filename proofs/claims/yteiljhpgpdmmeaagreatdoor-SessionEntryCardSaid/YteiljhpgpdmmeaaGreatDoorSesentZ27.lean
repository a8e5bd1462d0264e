/- Part 27 of the proof: Pl49z, Aw49z, Ses49z, App49z, Spe49z, Bot49z, Ab49z, Open4, F49zLaw4, AtoiW, IdxW, X49y. -/
import Derived.Test.YteiljhpgpdmmeaaGreatDoorSesentZ26
import Derived.Lib.SplitLaws
import Derived.Lib.ItoaLen
import Derived.Lib.ItoaMem
import Derived.Shelf.Strconv.AtoiAll
import Derived.Lib.Bytealg
namespace Go.Abs
def badB (b : UInt8) : Bool := decide (((b.toNat : Nat) : Int) < 33) || decide (((b.toNat : Nat) : Int) > 126)
def gr (s : List UInt8) (n : Int) : Bool := !s.any badB && (!(s == []) && decide (((s.length : Nat) : Int) ≤ n))
theorem gr_ne {s : List UInt8} {n : Int} (h : gr s n = true) : (s == []) = false := by
 unfold gr at h
 cases hs : s == []
 ·rfl
 ·rw [hs] at h; simp at h
theorem f125_eq (s : List UInt8) (n : Int) (hs : s.length ≤ 9223372036854775807) : f125 s n = some (gr s n) := by
 simp only [f125, jn]
 rw [any_up (fun k n => f125_L0 s _ k n) s 0 badB (some false) _ (fun k n hn => by
  show f125_L0 s _ (k + 1) n = _
  conv => lhs; unfold f125_L0
  rw [ifd_pos (by omega), chk_pos (by omega), chk_pos (fun _ => by omega)]
  show (if badB (s.getD n 0) = true then some false else _) = _
  rw [chk_pos (by omega)]) (fun k => by
  show f125_L0 s _ (k + 1) _ = _
  conv => lhs; unfold f125_L0
  rw [ifd_neg (by omega)]) FUEL (fuel_lt (by omega))]
 unfold gr
 cases s.any badB <;> simp
theorem f126_eq (s : List UInt8) (n : Int) (hs : s.length ≤ 9223372036854775807) : f126 s n = some (gr s n) := by
 simp only [f126, jn]
 rw [any_up (fun k n => f126_L0 s _ k n) s 0 badB (some false) _ (fun k n hn => by
  show f126_L0 s _ (k + 1) n = _
  conv => lhs; unfold f126_L0
  rw [ifd_pos (by omega), chk_pos (by omega), chk_pos (fun _ => by omega)]
  show (if badB (s.getD n 0) = true then some false else _) = _
  rw [chk_pos (by omega)]) (fun k => by
  show f126_L0 s _ (k + 1) _ = _
  conv => lhs; unfold f126_L0
  rw [ifd_neg (by omega)]) FUEL (fuel_lt (by omega))]
 have e : decide (((s.length : Nat) : Int) ≥ 1) = !(s == []) := by
  cases s <;> simp <;> omega
 unfold gr
 rw [e]
 cases s.any badB <;> simp
def fld (s : List UInt8) (b : Bool) : Bool := if b then gr s 64 else s == []
theorem f108_eq (s : List UInt8) (b : Bool) (hs : s.length ≤ 9223372036854775807) : f108 s b = some (fld s b) := by
 unfold f108 fld
 cases b
 ·rfl
 ·rw [f125_eq s 64 hs]; rfl
def kd (k : Int) : List UInt8 × Bool × Bool × Bool :=
 if k = 1 then ([112, 117, 116], true, false, true) else if k = 2 then ([103, 101, 116], true, false, false) else if k = 3 then (cs4, true, false, false) else
 if k = 4 then (cs5, true, false, true) else if k = 5 then ([99, 97, 115], true, true, true) else if k = 6 then (cs6, false, false, false) else ([], false, false, false)
def isK (k : Int) : Bool := decide (1 ≤ k) && decide (k ≤ 6)
def okOp (k : Int) (a b c : List UInt8) : Bool := isK k && fld a (kd k).2.1 && fld b (kd k).2.2.1 && fld c (kd k).2.2.2
theorem kinds (k : Int) : k = 1 ∨ k = 2 ∨ k = 3 ∨ k = 4 ∨ k = 5 ∨ k = 6 ∨ isK k = false := by
 unfold isK
 by_cases h1 : 1 ≤ k
 ·by_cases h2 : k ≤ 6
  ·omega
  ·simp [h1, h2]
 ·simp [h1]
theorem isK_not {k : Int} (h : isK k = false) : k ≠ 1 ∧ k ≠ 2 ∧ k ≠ 3 ∧ k ≠ 4 ∧ k ≠ 5 ∧ k ≠ 6 := by
 refine ⟨?_, ?_, ?_, ?_, ?_, ?_⟩ <;> (rintro rfl; cases h)
theorem hasM31 (k : Int) : hasM mk64 k = isK k := by
 rcases kinds k with rfl | rfl | rfl | rfl | rfl | rfl | h
 iterate 6 rfl
 rw [h]
 obtain ⟨h1, h2, h3, h4, h5, h6⟩ := isK_not h
 simp [hasM, mk64, idxL, h1, h2, h3, h4, h5, h6]
theorem getM31 (k : Int) : getM mk64 mv64 (default : Tq2) ([], false, false, false) k = kd k := by
 rcases kinds k with rfl | rfl | rfl | rfl | rfl | rfl | h
 iterate 6 rfl
 obtain ⟨h1, h2, h3, h4, h5, h6⟩ := isK_not h
 simp [getM, mk64, idxL, kd, h1, h2, h3, h4, h5, h6]
theorem f67_eq (k : Int) (a b c : List UInt8) (ha : a.length ≤ 9223372036854775807) (hb : b.length ≤ 9223372036854775807) (hc : c.length ≤ 9223372036854775807) :
  f67 k a b c = some ((kd k).1, (kd k).2.1, (kd k).2.2.1, (kd k).2.2.2, okOp k a b c) := by
 unfold f67 f64 okOp
 rw [some_bind, hasM31, getM31, f108_eq a _ ha, f108_eq b _ hb, f108_eq c _ hc]
 cases isK k <;> cases fld a (kd k).2.1 <;> cases fld b (kd k).2.2.1 <;> cases fld c (kd k).2.2.2 <;> rfl
def txt (k : Int) (a b c : List UInt8) : List UInt8 := (kd k).1 ++ (if a == [] then [] else 32 :: a) ++ (if b == [] then [] else 32 :: b) ++ (if c == [] then [] else 32 :: c)
theorem kd_len (k : Int) : (kd k).1.length ≤ 6 := by
 rcases kinds k with rfl | rfl | rfl | rfl | rfl | rfl | h
 iterate 6 decide
 obtain ⟨h1, h2, h3, h4, h5, h6⟩ := isK_not h
 simp [kd, h1, h2, h3, h4, h5, h6]
theorem gr_len {s : List UInt8} {n : Int} (h : gr s n = true) : (s.length : Int) ≤ n := by
 unfold gr at h
 simp only [Bool.and_eq_true, decide_eq_true_eq] at h
 exact h.2.2
theorem fld_len {s : List UInt8} {b : Bool} (h : fld s b = true) : s.length ≤ 64 := by
 unfold fld at h
 cases b
 ·simp at h; subst h; simp
 ·have := gr_len h; omega
theorem ok_len {k : Int} {a b c : List UInt8} (h : okOp k a b c = true) : a.length ≤ 64 ∧ b.length ≤ 64 ∧ c.length ≤ 64 := by
 unfold okOp at h
 simp only [Bool.and_eq_true] at h
 exact ⟨fld_len h.1.1.2, fld_len h.1.2, fld_len h.2⟩
theorem fuel_succ : ∃ k, FUEL = k + 5 := ⟨FUEL - 5, by unfold FUEL; omega⟩
theorem joinP_some {l : List (List UInt8)} {r : List UInt8} (h : Lib.join l [32] = r) (h1 : r.length ≤ 140737488355328) (h2 : l.length ≤ 140737488355328) : joinP l [32] = some r := by
 unfold joinP
 rw [h, if_pos ⟨h1, h2⟩]
theorem f66_eq (k : Int) (a b c : List UInt8) (ha : a.length ≤ 9223372036854775807) (hb : b.length ≤ 9223372036854775807) (hc : c.length ≤ 9223372036854775807) :
  f66 k a b c = some (if okOp k a b c = true then (txt k a b c, 0) else ([], 1)) := by
 unfold f66
 rw [f67_eq k a b c ha hb hc, some_bind]
 have hlen := @ok_len k a b c
 revert hlen
 cases okOp k a b c
 ·intro _; rfl
 intro hlen
 have hlen := hlen rfl
 have hk := kd_len k
 simp only [Bool.not_true, Bool.false_eq_true, if_false, if_true]
 obtain ⟨q, hq⟩ := fuel_succ
 simp only [jn]
 rw [hq]
 generalize hw : (kd k).1 = w at hk
 have step : ∀ K, f66_L0 a b c K (q + 5) (0, [w]) = K ([w] ++ (if a == [] then [] else [a]) ++ (if b == [] then [] else [b]) ++ (if c == [] then [] else [c])) := by
  intro K
  cases ha : a == [] <;> cases hb : b == [] <;> cases hc : c == [] <;> simp [f66_L0, ha, hb, hc, chk, jn]
 rw [step]
 unfold f107
 have hj : Lib.join ([w] ++ (if a == [] then [] else [a]) ++ (if b == [] then [] else [b]) ++ (if c == [] then [] else [c])) [32] = txt k a b c := by
  unfold txt
  rw [hw]
  cases ha : a == [] <;> cases hb : b == [] <;> cases hc : c == [] <;> simp [Lib.join, List.intercalate]
 have hl : (txt k a b c).length ≤ 140737488355328 := by
  unfold txt
  rw [hw]
  cases ha : a == [] <;> cases hb : b == [] <;> cases hc : c == [] <;> simp <;> omega
 rw [joinP_some hj hl (by cases ha : a == [] <;> cases hb : b == [] <;> cases hc : c == [] <;> simp)]
 rfl
theorem f76_eq (k : Int) : f76 k = some (kd k).1 := by
 rcases kinds k with rfl | rfl | rfl | rfl | rfl | rfl | h
 iterate 6 rfl
 have h0 := h
 unfold isK at h0
 have h' : (decide (k < 1) || decide (k > 6)) = true := by
  simp only [Bool.and_eq_false_iff, decide_eq_false_iff_not, Bool.or_eq_true, decide_eq_true_eq] at h0 ⊢
  omega
 obtain ⟨h1, h2, h3, h4, h5, h6⟩ := isK_not h
 unfold f76
 rw [if_pos h']
 simp [kd, h1, h2, h3, h4, h5, h6]
theorem kd_ne (k : Int) : ((kd k).1 == []) = !isK k := by
 rcases kinds k with rfl | rfl | rfl | rfl | rfl | rfl | h
 iterate 6 rfl
 obtain ⟨h1, h2, h3, h4, h5, h6⟩ := isK_not h
 simp [kd, h, h1, h2, h3, h4, h5, h6]
theorem f77_eq (k : Int) (a b c : List UInt8) (ha : a.length ≤ 9223372036854775807) (hb : b.length ≤ 9223372036854775807) (hc : c.length ≤ 9223372036854775807) :
  f77 k a b c = some (if okOp k a b c = true then (txt k a b c, 0) else ([], 1)) := by
 have e38 : ∀ s : List UInt8, s.length ≤ 9223372036854775807 → f117 s = some (gr s 64) := fun s hs => by unfold f117; rw [f126_eq s 64 hs]; rfl
 unfold f77
 rw [f76_eq, some_bind, e38 a ha, e38 b hb, e38 c hc, kd_ne]
 have na := @gr_ne a 64
 have nb := @gr_ne b 64
 have nc := @gr_ne c 64
 have hk := kd_len k
 unfold okOp fld txt
 have la := @gr_len a 64
 have lb := @gr_len b 64
 have lc := @gr_len c 64
 generalize ga : gr a 64 = va at *
 generalize gb : gr b 64 = vb at *
 generalize gc : gr c 64 = vc at *
 generalize ea : (a == []) = wa at *
 generalize eb : (b == []) = wb at *
 generalize ec : (c == []) = wc at *
 rcases kinds k with rfl | rfl | rfl | rfl | rfl | rfl | h
 iterate 6
  cases va <;> cases vb <;> cases vc <;> cases wa <;> cases wb <;> cases wc <;> first | (exfalso; simp at na; done) | (exfalso; simp at nb; done) | (exfalso; simp at nc; done) | (simp [optc, chk, isK, kd, jn, cs6, cs4, cs5]; done) | (simp [optc, chk, isK, kd, jn, cs4, cs5]; simp at la lb lc; omega) | (simp [optc, chk, isK, kd, jn, some_bind, cs6, cs4, cs5]; simp at la lc; omega) | (simp [optc, chk, isK, kd, jn, some_bind, cs6, cs4, cs5]; simp at la; omega)
 ·rw [h]; rfl

def spl : List UInt8 → List (List UInt8)
 | [] => [[]]
 | c :: l => if c = 32 then [] :: spl l else match spl l with
  | [] => [[c]]
  | w :: r => (c :: w) :: r
theorem spl_ne (l : List UInt8) : ∃ w r, spl l = w :: r := by
 cases l with
 | nil => exact ⟨_, _, rfl⟩
 | cons c l =>
  unfold spl
  split
  ·exact ⟨_, _, rfl⟩
  ·split <;> exact ⟨_, _, rfl⟩
theorem spl_cons {c : UInt8} {l w : List UInt8} {r : List (List UInt8)} (hc : c ≠ 32) (h : spl l = w :: r) : spl (c :: l) = (c :: w) :: r := by
 conv => lhs; unfold spl
 rw [if_neg hc, h]
theorem spl_sp (l : List UInt8) : spl (32 :: l) = [] :: spl l := rfl
theorem split_spl : ∀ l : List UInt8, Lib.split l [32] = spl l
 | [] => by
  unfold Lib.split
  rw [Lib.count_one]; rfl
 | b :: l => by
  have ih := split_spl l
  have hp : ([32] : List UInt8).isPrefixOf (b :: l) = (b == 32) := by simp [List.isPrefixOf, BEq.comm]
  by_cases h : b = 32
  ·subst h
   have hix : Lib.index (32 :: l) [32] = 0 := by rw [Lib.index]; simp [List.isPrefixOf]
   have hc : Lib.count (32 :: l) [32] = Lib.count l [32] + 1 := by rw [Lib.count_cons_eq]; omega
   unfold Lib.split at ih ⊢
   rw [hc]
   unfold Lib.splitK
   rw [hix, if_neg (by decide), spl_sp, ← ih]
   rfl
  ·have hix : Lib.index (b :: l) [32] = if Lib.index l [32] == -1 then -1 else Lib.index l [32] + 1 := by
    rw [Lib.index, hp]; simp [h]
   have hc : Lib.count (b :: l) [32] = Lib.count l [32] := Lib.count_cons_ne b 32 l h
   unfold Lib.split at ih ⊢
   rw [hc]
   by_cases hm : Lib.index l [32] = -1
   ·rw [Lib.count_miss hm] at ih ⊢
    rw [spl_cons h ih.symm]
    rfl
   ·have hge := Lib.index_ge l [32]
    obtain ⟨j, hj⟩ : ∃ j : Nat, Lib.index l [32] = j := ⟨(Lib.index l [32]).toNat, by omega⟩
    obtain ⟨m, hm'⟩ : ∃ m, Lib.count l [32] = m + 1 := ⟨Lib.count (l.drop (j + ([32] : List UInt8).length)) [32], by rw [Lib.count_hit (by simp) hj]; omega⟩
    rw [hm'] at ih ⊢
    unfold Lib.splitK at ih ⊢
    have hm1 : ¬ (Lib.index l [32] == -1) = true := by simpa using hm
    rw [hix, if_neg hm1]
    rw [if_neg hm1] at ih
    rw [spl_cons h ih.symm, if_neg (by simp; omega)]
    have e1 : (Lib.index l [32] + 1).toNat + 0 = (Lib.index l [32]).toNat + 0 + 1 := by omega
    have e2 : (Lib.index l [32] + 1).toNat + [32].length = (Lib.index l [32]).toNat + ([32] : List UInt8).length + 1 := by simp; omega
    rw [e1, List.take_succ_cons]
    congr 1
    have e2' : (Lib.index l [32] + 1).toNat + ([32] : List UInt8).length = ((Lib.index l [32]).toNat + ([32] : List UInt8).length) + 1 := by simp; omega
    rw [e2', List.drop_succ_cons]
theorem spl_mem : ∀ (l : List UInt8) (w : List UInt8), w ∈ spl l → w.length ≤ l.length
 | [], w, h => by
  simp [spl] at h; subst h; exact Nat.le_refl _
 | c :: l, w, h => by
  by_cases hc : c = 32
  ·subst hc
   rw [spl_sp] at h
   rcases List.mem_cons.1 h with rfl | h
   ·exact Nat.zero_le _
   ·have := spl_mem l w h; simp; omega
  ·obtain ⟨v, r, hv⟩ := spl_ne l
   rw [spl_cons hc hv] at h
   rcases List.mem_cons.1 h with rfl | h
   ·have := spl_mem l v (by rw [hv]; exact List.mem_cons_self ..); simp; omega
   ·have := spl_mem l w (by rw [hv]; exact List.mem_cons_of_mem _ h); simp; omega
def noSp (w : List UInt8) : Prop := ∀ c, c ∈ w → c ≠ 32
theorem spl_word : ∀ (w : List UInt8), noSp w → spl w = [w]
 | [], _ => rfl
 | c :: w, h => spl_cons (h c (List.mem_cons_self ..)) (spl_word w fun d hd => h d (List.mem_cons_of_mem _ hd))
theorem spl_app : ∀ (w l : List UInt8), noSp w → spl (w ++ 32 :: l) = w :: spl l
 | [], _l, _ => rfl
 | c :: w, l, h => spl_cons (h c (List.mem_cons_self ..)) (spl_app w l fun d hd => h d (List.mem_cons_of_mem _ hd))
theorem gr_sp {s : List UInt8} {n : Int} (h : gr s n = true) : noSp s := by
 rintro c hc rfl
 unfold gr at h
 have : s.any badB = true := List.any_eq_true.2 ⟨32, hc, by decide⟩
 rw [this] at h
 cases h
theorem kd_sp (k : Int) : noSp (kd k).1 := by
 have : ∀ c, c ∈ (kd k).1 → (c == 32) = false := by
  have : (kd k).1.all (fun c => !(c == 32)) = true := by
   rcases kinds k with rfl | rfl | rfl | rfl | rfl | rfl | h
   iterate 6 rfl
   obtain ⟨h1, h2, h3, h4, h5, h6⟩ := isK_not h
   simp [kd, h1, h2, h3, h4, h5, h6]
  intro c hc
  simpa using List.all_eq_true.1 this c hc
 intro c hc e
 have := this c hc
 simp [e] at this
theorem f75_eq (x : List UInt8) (hx : x.length ≤ 1000000) : f75 x = some (spl x) := by
 have main : ∀ (K : List (List UInt8) → Option (List (List UInt8))) (c k n b : Nat) (l : List (List UInt8)) (w : List UInt8) (r : List (List UInt8)), n + c = x.length → b ≤ n → c + 1 < k → l.length ≤ n → spl (x.drop n) = w :: r →
   f75_L0 x K k (b, n, l) = K (l ++ (((x.take n).drop b ++ w) :: r)) := by
  intro K c
  induction c with
  | zero =>
   intro k n b l w r hn hb hk hl hs
   obtain ⟨k, rfl⟩ : ∃ q, k = q + 2 := ⟨k - 2, by omega⟩
   obtain rfl : n = x.length := by omega
   rw [List.drop_eq_nil_of_le (Nat.le_refl _)] at hs
   cases hs
   conv => lhs; unfold f75_L0
   rw [ifd_pos (by omega), jn_eq, chk_pos (fun h => by simp at h)]
   have e : (((x.length : Nat) : Int) == ((x.length : Nat) : Int) || (((x.getD x.length 0).toNat : Nat) : Int) == 32) = true := by simp
   rw [if_pos e, chk_pos (by omega), chk_pos (by omega), chk_pos (by omega)]
   simp only []
   rw [chk_pos (by omega)]
   conv => lhs; unfold f75_L0
   rw [ifd_neg (by omega)]
   simp
  | succ c ih =>
   intro k n b l w r hn hb hk hl hs
   obtain ⟨k, rfl⟩ : ∃ q, k = q + 1 := ⟨k - 1, by omega⟩
   have hlt : n < x.length := by omega
   rw [getD_drop x n 0 hlt] at hs
   conv => lhs; unfold f75_L0
   rw [ifd_pos (by omega), jn_eq, chk_pos (fun _ => by omega)]
   have e0 : (((n : Nat) : Int) == ((x.length : Nat) : Int)) = false := by simp; omega
   rw [e0, Bool.false_or]
   have et : (x.take (n + 1)) = x.take n ++ [x.getD n 0] := by
    rw [List.take_add_one]; simp [List.getD_eq_getElem?_getD, hlt]
   by_cases hc : x.getD n 0 = 32
   ·rw [hc, spl_sp] at hs
    obtain ⟨w', r', hw'⟩ := spl_ne (x.drop (n + 1))
    rw [hw'] at hs
    cases hs
    rw [if_pos (by rw [hc]; rfl), chk_pos (by omega), chk_pos (by omega), chk_pos (by omega)]
    simp only []
    rw [chk_pos (by omega), ih k (n + 1) (n + 1) _ w' r' (by omega) (Nat.le_refl _) (by omega) (by simp; omega) hw']
    congr 1
    rw [List.drop_eq_nil_of_le (show (x.take (n + 1)).length ≤ n + 1 by rw [List.length_take]; omega)]
    simp
   ·have hc' : (x.getD n 0).toNat ≠ 32 := fun h => hc (by
     apply UInt8.toNat.inj; rw [h]; rfl)
    rw [if_neg (by simp only [beq_iff_eq]; omega)]
    simp only []
    obtain ⟨w', r', hw'⟩ := spl_ne (x.drop (n + 1))
    rw [spl_cons hc hw'] at hs
    cases hs
    rw [chk_pos (by omega), ih k (n + 1) b _ w' r (by omega) (by omega) (by omega) (by omega) hw']
    congr 2
    rw [et, List.drop_append_of_le_length (by simp; omega)]
    simp
 obtain ⟨w, r, hw⟩ := spl_ne x
 unfold f75
 simp only [jn]
 rw [main _ x.length FUEL 0 0 [] w r (by omega) (Nat.le_refl _) (by unfold FUEL; omega) (Nat.le_refl _) (by simpa using hw)]
 rw [hw]
 simp

abbrev OpR := Int × List UInt8 × List UInt8 × List UInt8 × Int
theorem nextO_of {R : Type} [DecidableEq R] {n : Nat} {seen : List Nat} {K : Nat → Option R} {E : Option R} {r : R} (h1 : ∀ j, j < n → j ∉ seen → K j = some r) (h2 : (∀ j, j < n → j ∈ seen) → E = some r) : nextO n seen K E = some r := by
 have hm : ∀ j, j ∈ (List.range n).filter (fun j => !seen.contains j) ↔ j < n ∧ j ∉ seen := by
  intro j
  rw [List.mem_filter, List.mem_range]
  simp
 unfold nextO
 split
 ·rename_i he
  refine h2 fun j hj => Decidable.byContradiction fun hs => ?_
  have := (hm j).2 ⟨hj, hs⟩
  rw [he] at this; cases this
 ·rename_i l hl
  have hall : ∀ y, y ∈ ((List.range n).filter (fun j => !seen.contains j)).map K → y = some r := by
   intro y hy
   obtain ⟨j, hj, rfl⟩ := List.mem_map.1 hy
   have := (hm j).1 hj
   exact h1 j this.1 this.2
  revert hall
  generalize (List.range n).filter (fun j => !seen.contains j) = l at hl
  intro hall
  cases l with
  | nil => exact absurd rfl hl
  | cons a l =>
   simp only [List.map_cons, agree]
   rw [hall (K a) (List.mem_cons_self ..), if_pos]
   rw [List.all_eq_true]
   intro y hy
   exact decide_eq_true (hall y (List.mem_cons_of_mem _ hy))
def tk (b : Bool) (l : List (List UInt8)) : List UInt8 × List (List UInt8) := if (!b || l.length == 0) = true then ([], l) else (l.getD 0 [], l.drop 1)
theorem f65_eq (b : Bool) (l : List (List UInt8)) : f65 b l = some (tk b l) := by
 unfold f65 tk
 cases b
 ·rfl
 ·cases l with
  | nil => rfl
  | cons a l =>
   simp [chk]
   rw [if_neg (by omega), if_pos (by omega)]
theorem tk_len (b : Bool) (l : List (List UInt8)) (m : Nat) (h : ∀ w, w ∈ l → w.length ≤ m) : (tk b l).1.length ≤ m ∧ ∀ w, w ∈ (tk b l).2 → w.length ≤ m := by
 unfold tk
 split
 ·exact ⟨Nat.zero_le _, h⟩
 ·cases l with
  | nil => exact ⟨Nat.zero_le _, fun w hw => by simp at hw⟩
  | cons a l => exact ⟨h a (List.mem_cons_self ..), fun w hw => h w (List.mem_cons_of_mem _ (by simpa using hw))⟩
def tryP (x : List UInt8) (l : List (List UInt8)) (j : Nat) : Option OpR :=
 let v := mv64.getD j (default : Tq2)
 if v.1 == l.getD 0 [] then
  let r7 := tk v.2.1 (l.drop 1); let r8 := tk v.2.2.1 r7.2; let r9 := tk v.2.2.2 r8.2
  if okOp (mk64.getD j 0) r7.1 r8.1 r9.1 && (txt (mk64.getD j 0) r7.1 r8.1 r9.1 == x) then some (mk64.getD j 0, r7.1, r8.1, r9.1, 0) else none
 else none
theorem f36_step (x : List UInt8) (K : Unit → Option OpR) (k : Nat) (l : List (List UInt8)) (seen : List Nat) (m : Nat) (hm : m ≤ 1000000) (h0 : 0 < l.length) (hl : ∀ w, w ∈ l → w.length ≤ m) :
  f36_L0 x K (k + 1) (l, seen) = nextO 6 seen (fun j => match tryP x l j with | some r => some r | none => f36_L0 x K k (l, seen ++ [j])) (K ()) := by
 have h6 : mk64.length = 6 := rfl
 conv => lhs; unfold f36_L0
 rw [h6]
 congr 1
 funext j
 rw [chk_pos (by omega)]
 unfold tryP
 simp only []
 cases hw : (mv64.getD j (default : Tq2)).1 == l.getD 0 []
 ·rfl
 ·simp only [Bool.not_true, Bool.false_eq_true, if_false, if_true]
  rw [chk_pos (by omega), f65_eq, some_bind, f65_eq, some_bind, f65_eq, some_bind]
  obtain ⟨a1, a2⟩ := tk_len (mv64.getD j (default : Tq2)).2.1 (l.drop 1) m (fun w hw => hl w (List.mem_of_mem_drop hw))
  generalize tk (mv64.getD j (default : Tq2)).2.1 (l.drop 1) = r7 at *
  obtain ⟨b1, b2⟩ := tk_len (mv64.getD j (default : Tq2)).2.2.1 r7.2 m a2
  generalize tk (mv64.getD j (default : Tq2)).2.2.1 r7.2 = r8 at *
  obtain ⟨c1, c2⟩ := tk_len (mv64.getD j (default : Tq2)).2.2.2 r8.2 m b2
  generalize tk (mv64.getD j (default : Tq2)).2.2.2 r8.2 = r9 at *
  rw [f66_eq _ _ _ _ (by omega) (by omega) (by omega), some_bind]
  cases okOp (mk64.getD j 0) r7.1 r8.1 r9.1
  ·rfl
  ·simp only [if_true, Bool.true_and, beq_self_eq_true]
   cases txt (mk64.getD j 0) r7.1 r8.1 r9.1 == x <;> rfl
theorem f36_all (x : List UInt8) (K : Unit → Option OpR) (l : List (List UInt8)) (m : Nat) (hm : m ≤ 1000000) (h0 : 0 < l.length) (hl : ∀ w, w ∈ l → w.length ≤ m) (r : OpR) (S : Nat → Prop)
  (h1 : ∀ j, j < 6 → S j → tryP x l j = some r) (h2 : ∀ j, j < 6 → ¬ S j → tryP x l j = none) (h3 : (∀ j, j < 6 → ¬ S j) → K () = some r) :
  ∀ k seen, seen.Nodup → (∀ j, j ∈ seen → j < 6 ∧ ¬ S j) → 6 < k + seen.length → f36_L0 x K k (l, seen) = some r
 | 0, seen, hn, hs, hk => by
  have : seen.length ≤ (List.range 6).length := hn.length_le_of_subset fun j hj => List.mem_range.2 (hs j hj).1
  simp at this
  omega
 | k + 1, seen, hn, hs, hk => by
  rw [f36_step x K k l seen m hm h0 hl]
  refine nextO_of (fun j hj hns => ?_) fun hall => h3 fun j hj => (hs j (hall j hj)).2
  by_cases hS : S j
  ·rw [h1 j hj hS]
  ·rw [h2 j hj hS]
   refine f36_all x K l m hm h0 hl r S h1 h2 h3 k (seen ++ [j]) ?_ ?_ (by simp; omega)
   ·rw [List.nodup_append]
    exact ⟨hn, by simp, fun a ha b hb => by rintro rfl; simp at hb; subst hb; exact hns ha⟩
   ·intro i hi
    rcases List.mem_append.1 hi with hi | hi
    ·exact hs i hi
    ·simp at hi; subst hi; exact ⟨hj, hS⟩
def flds (a b c : List UInt8) : List (List UInt8) := (if a == [] then [] else [a]) ++ (if b == [] then [] else [b]) ++ (if c == [] then [] else [c])
theorem fld_sp {s : List UInt8} {b : Bool} (h : fld s b = true) : noSp s := by
 unfold fld at h
 cases b
 ·simp at h; subst h; intro c hc; cases hc
 ·exact gr_sp h
theorem spl_txt {k : Int} {a b c : List UInt8} (h : okOp k a b c = true) : spl (txt k a b c) = (kd k).1 :: flds a b c := by
 unfold okOp at h
 simp only [Bool.and_eq_true] at h
 obtain ⟨⟨⟨h0, h1⟩, h2⟩, h3⟩ := h
 have s0 := kd_sp k
 have s1 := fld_sp h1
 have s2 := fld_sp h2
 have s3 := fld_sp h3
 unfold txt flds
 cases a == [] <;> cases b == [] <;> cases c == [] <;> simp [spl_app, spl_word, s0, s1, s2, s3, List.append_assoc]
theorem f63_eq (x : List UInt8) (hx : x.length ≤ 1000000) : f63 x [32] = some (spl x) := by
 unfold f63 splitO
 simp only []
 rw [if_pos (by omega), split_spl]
theorem fldT {s : List UInt8} (h : fld s true = true) : (s == []) = false := gr_ne h
theorem fldF {s : List UInt8} (h : fld s false = true) : s = [] := by simpa [fld] using h
theorem okOp_kd {k : Int} {a b c : List UInt8} (h : okOp k a b c = true) : isK k = true ∧ fld a (kd k).2.1 = true ∧ fld b (kd k).2.2.1 = true ∧ fld c (kd k).2.2.2 = true := by
 unfold okOp at h
 simp only [Bool.and_eq_true] at h
 exact ⟨h.1.1.1, h.1.1.2, h.1.2, h.2⟩
set_option maxHeartbeats 1000000 in
theorem tryP_hit {k : Int} {a b c : List UInt8} (h : okOp k a b c = true) : ∃ j0, j0 < 6 ∧ tryP (txt k a b c) (spl (txt k a b c)) j0 = some (k, a, b, c, 0) ∧ ∀ j, j < 6 → j ≠ j0 → tryP (txt k a b c) (spl (txt k a b c)) j = none := by
 rw [spl_txt h]
 obtain ⟨h0, h1, h2, h3⟩ := okOp_kd h
 have nope : ∀ (w : List UInt8) (l : List (List UInt8)) j, ((mv64.getD j (default : Tq2)).1 == w) = false → tryP (txt k a b c) (w :: l) j = none := by
  intro w l j hj
  unfold tryP
  simp only [List.getD_cons_zero]
  rw [hj]
  rfl
 rcases kinds k with rfl | rfl | rfl | rfl | rfl | rfl | hn
 ·refine ⟨0, by decide, ?_, fun j hj hne => nope _ _ j ?_⟩
  ·obtain rfl := fldF h2
   have e1 := fldT h1
   have e3 := fldT h3
   simp [tryP, flds, e1, e3, tk, mv64, mk64, kd, h]
  ·match j, hj, hne with | 1, _, _ => rfl | 2, _, _ => rfl | 3, _, _ => rfl | 4, _, _ => rfl | 5, _, _ => rfl
 ·refine ⟨1, by decide, ?_, fun j hj hne => nope _ _ j ?_⟩
  ·obtain rfl := fldF h2
   obtain rfl := fldF h3
   have e1 := fldT h1
   simp [tryP, flds, e1, tk, mv64, mk64, kd, h]
  ·match j, hj, hne with | 0, _, _ => rfl | 2, _, _ => rfl | 3, _, _ => rfl | 4, _, _ => rfl | 5, _, _ => rfl
 ·refine ⟨2, by decide, ?_, fun j hj hne => nope _ _ j ?_⟩
  ·obtain rfl := fldF h2
   obtain rfl := fldF h3
   have e1 := fldT h1
   simp [tryP, flds, e1, tk, mv64, mk64, kd, h]
  ·match j, hj, hne with | 0, _, _ => rfl | 1, _, _ => rfl | 3, _, _ => rfl | 4, _, _ => rfl | 5, _, _ => rfl
 ·refine ⟨3, by decide, ?_, fun j hj hne => nope _ _ j ?_⟩
  ·obtain rfl := fldF h2
   have e1 := fldT h1
   have e3 := fldT h3
   simp [tryP, flds, e1, e3, tk, mv64, mk64, kd, h]
  ·match j, hj, hne with | 0, _, _ => rfl | 1, _, _ => rfl | 2, _, _ => rfl | 4, _, _ => rfl | 5, _, _ => rfl
 ·refine ⟨4, by decide, ?_, fun j hj hne => nope _ _ j ?_⟩
  ·have e1 := fldT h1
   have e2 := fldT h2
   have e3 := fldT h3
   simp [tryP, flds, e1, e2, e3, tk, mv64, mk64, kd, h]
  ·match j, hj, hne with | 0, _, _ => rfl | 1, _, _ => rfl | 2, _, _ => rfl | 3, _, _ => rfl | 5, _, _ => rfl
 ·refine ⟨5, by decide, ?_, fun j hj hne => nope _ _ j ?_⟩
  ·obtain rfl := fldF h1
   obtain rfl := fldF h2
   obtain rfl := fldF h3
   simp [tryP, flds, tk, mv64, mk64, kd, h]
  ·match j, hj, hne with | 0, _, _ => rfl | 1, _, _ => rfl | 2, _, _ => rfl | 3, _, _ => rfl | 4, _, _ => rfl | 5, _, hne => exact absurd rfl hne
 ·rw [hn] at h0; cases h0
theorem spl_pos (x : List UInt8) : 0 < (spl x).length := by
 obtain ⟨w, r, h⟩ := spl_ne x
 rw [h]; exact Nat.succ_pos _
def NoOp (x : List UInt8) : Prop := ∀ k a b c, okOp k a b c = true → txt k a b c ≠ x
theorem tryP_none {x : List UInt8} (h : NoOp x) (l : List (List UInt8)) (j : Nat) : tryP x l j = none := by
 unfold tryP
 simp only []
 split
 ·split
  ·rename_i h'
   simp only [Bool.and_eq_true, beq_iff_eq] at h'
   exact absurd h'.2 (h _ _ _ _ h'.1)
  ·rfl
 ·rfl
theorem f36_hit {k : Int} {a b c : List UInt8} (h : okOp k a b c = true) (hx : (txt k a b c).length ≤ 1000000) : f36 (txt k a b c) = some (k, a, b, c, 0) := by
 obtain ⟨j0, hj0, h1, h2⟩ := tryP_hit h
 unfold f36 f64
 rw [f63_eq _ hx, some_bind]
 simp only [jn, some_bind]
 exact f36_all _ _ _ _ hx (spl_pos _) (spl_mem _) _ (fun j => j = j0) (fun j _ e => e ▸ h1) (fun j hj e => h2 j hj e) (fun hall => absurd rfl (hall j0 hj0)) FUEL [] List.nodup_nil (fun j hj => by cases hj) (by unfold FUEL; simp)
theorem f36_miss {x : List UInt8} (h : NoOp x) (hx : x.length ≤ 1000000) : f36 x = some (0, [], [], [], 2) := by
 unfold f36 f64
 rw [f63_eq _ hx, some_bind]
 simp only [jn, some_bind]
 exact f36_all _ _ _ _ hx (spl_pos _) (spl_mem _) _ (fun _ => False) (fun j _ e => e.elim) (fun j hj e => tryP_none h _ _) (fun _ => rfl) FUEL [] List.nodup_nil (fun j hj => by cases hj) (by unfold FUEL; simp)
def tryR (x : List UInt8) (l : List (List UInt8)) (n : Nat) : Option OpR :=
 if l.getD 0 [] == (kd n).1 then
  let a := l.getD 1 []
  let b := if n = 5 then l.getD 2 [] else []
  let c := if n = 5 then l.getD 3 [] else l.getD 2 []
  if okOp n a b c && (txt n a b c == x) then some ((n : Int), a, b, c, 0) else none
 else none
theorem getD_len (l : List (List UInt8)) (i m : Nat) (hl : ∀ w, w ∈ l → w.length ≤ m) : (l.getD i []).length ≤ m := by
 by_cases h : i < l.length
 ·rw [List.getD_eq_getElem?_getD, List.getElem?_eq_getElem h]
  exact hl _ (List.getElem_mem ..)
 ·rw [List.getD_eq_getElem?_getD, List.getElem?_eq_none (by omega)]
  exact Nat.zero_le _
theorem getD_out (l : List (List UInt8)) (i : Nat) (h : ¬ i < l.length) : l.getD i [] = [] := by
 rw [List.getD_eq_getElem?_getD, List.getElem?_eq_none (by omega)]; rfl
set_option maxHeartbeats 1000000 in
theorem f43_step (x : List UInt8) (l : List (List UInt8)) (K : Unit → Option OpR) (k n m : Nat) (hm : m ≤ 1000000) (h0 : 0 < l.length) (hl : ∀ w, w ∈ l → w.length ≤ m) (hn : n ≤ 6) :
  f43_L0 x l K (k + 1) n = match tryR x l n with | some r => some r | none => f43_L0 x l K k (n + 1) := by
 have hg := fun i => getD_len l i m hl
 have ho := getD_out l
 conv => lhs; unfold f43_L0
 rw [ifd_pos (by omega), jn_eq, f76_eq, some_bind, chk_pos (by omega), chk_pos (by omega), chk_pos (by omega)]
 unfold tryR
 cases hw : l.getD 0 [] == (kd n).1
 ·rfl
 ·simp only [Bool.not_true, Bool.false_eq_true, if_false, if_true, jn]
  have fin : ∀ a b c : List UInt8, a.length ≤ m → b.length ≤ m → c.length ≤ m → ((f77 n a b c).bind fun (r9 : List UInt8 × Int) => if ((r9.2 == (0 : Int)) && (r9.1 == x)) = true then some ((n : Int), a, b, c, (0 : Int)) else f43_L0 x l K k (n + 1)) =
    match (if okOp n a b c && (txt n a b c == x) then some ((n : Int), a, b, c, (0 : Int)) else none) with | some r => some r | none => f43_L0 x l K k (n + 1) := by
   intro a b c ha hb hc
   rw [f77_eq _ _ _ _ (by omega) (by omega) (by omega), some_bind]
   cases okOp n a b c
   ·rfl
   ·cases h : txt n a b c == x <;> simp [h]
  by_cases h5 : n = 5
  ·subst h5
   by_cases l1 : 1 < l.length
   ·by_cases l2 : 2 < l.length
    ·by_cases l3 : 3 < l.length
     ·rw [ifd_pos (by omega), chk_pos (by omega), chk_pos l1, if_pos (by simp; omega), chk_pos (by omega), chk_pos l2, if_neg (by simp), if_pos (by simp; omega), chk_pos (by omega), chk_pos l3]
      exact fin _ _ _ (hg _) (hg _) (hg _)
     ·rw [ifd_pos (by omega), chk_pos (by omega), chk_pos l1, if_pos (by simp; omega), chk_pos (by omega), chk_pos l2, if_neg (by simp), if_neg (by simp; omega), ho 3 l3]
      exact fin _ _ _ (hg _) (hg _) (Nat.zero_le _)
    ·rw [ifd_pos (by omega), chk_pos (by omega), chk_pos l1, if_neg (by simp; omega), if_neg (by simp), if_neg (by simp; omega), ho 2 l2, ho 3 (by omega)]
     exact fin _ _ _ (hg _) (Nat.zero_le _) (Nat.zero_le _)
   ·rw [ifd_neg (by omega), if_neg (by simp; omega), if_neg (by simp), if_neg (by simp; omega), ho 1 l1, ho 2 (by omega), ho 3 (by omega)]
    exact fin _ _ _ (Nat.zero_le _) (Nat.zero_le _) (Nat.zero_le _)
  ·have e5 : ((n : Int) == 5) = false := by simp; omega
   have e5' : ((n : Int) != 5) = true := by simp; omega
   rw [if_neg h5, if_neg h5, e5, e5']
   simp only [Bool.false_and, Bool.true_and, Bool.false_eq_true, if_false]
   by_cases l1 : 1 < l.length
   ·by_cases l2 : 2 < l.length
    ·rw [ifd_pos (by omega), chk_pos (by omega), chk_pos l1, ifd_pos (by omega), chk_pos (by omega), chk_pos l2]
     exact fin _ _ _ (hg _) (Nat.zero_le _) (hg _)
    ·rw [ifd_pos (by omega), chk_pos (by omega), chk_pos l1, ifd_neg (by omega), ho 2 l2]
     exact fin _ _ _ (hg _) (Nat.zero_le _) (Nat.zero_le _)
   ·rw [ifd_neg (by omega), ifd_neg (by omega), ho 1 l1, ho 2 (by omega)]
    exact fin _ _ _ (Nat.zero_le _) (Nat.zero_le _) (Nat.zero_le _)
theorem f43_end (x : List UInt8) (l : List (List UInt8)) (K : Unit → Option OpR) (k : Nat) : f43_L0 x l K (k + 1) 7 = K () := by
 conv => lhs; unfold f43_L0
 rw [ifd_neg (by omega)]
theorem f43_all (x : List UInt8) (l : List (List UInt8)) (K : Unit → Option OpR) (m : Nat) (hm : m ≤ 1000000) (h0 : 0 < l.length) (hl : ∀ w, w ∈ l → w.length ≤ m) (r : OpR) (S : Nat → Prop)
  (h1 : ∀ j, 1 ≤ j → j ≤ 6 → S j → tryR x l j = some r) (h2 : ∀ j, 1 ≤ j → j ≤ 6 → ¬ S j → tryR x l j = none) (h3 : (∀ j, 1 ≤ j → j ≤ 6 → ¬ S j) → K () = some r) :
  ∀ c k n, n + c = 7 → c < k → 1 ≤ n → (∀ j, 1 ≤ j → j < n → ¬ S j) → f43_L0 x l K k n = some r
 | 0, k, n, hn, hk, h1n, hs => by
  obtain ⟨k, rfl⟩ : ∃ q, k = q + 1 := ⟨k - 1, by omega⟩
  obtain rfl : n = 7 := by omega
  rw [f43_end]
  exact h3 fun j a b => hs j a (by omega)
 | c + 1, k, n, hn, hk, h1n, hs => by
  obtain ⟨k, rfl⟩ : ∃ q, k = q + 1 := ⟨k - 1, by omega⟩
  rw [f43_step x l K k n m hm h0 hl (by omega)]
  by_cases hS : S n
  ·rw [h1 n h1n (by omega) hS]
  ·rw [h2 n h1n (by omega) hS]
   refine f43_all x l K m hm h0 hl r S h1 h2 h3 c k (n + 1) (by omega) (by omega) (by omega) fun j hj hjn => ?_
   by_cases e : j = n
   ·rw [e]; exact hS
   ·exact hs j hj (by omega)
theorem tryR_none {x : List UInt8} (h : NoOp x) (l : List (List UInt8)) (j : Nat) : tryR x l j = none := by
 unfold tryR
 simp only []
 generalize (if j = 5 then l.getD 2 [] else []) = b
 generalize (if j = 5 then l.getD 3 [] else l.getD 2 []) = c
 split
 ·split
  ·rename_i h'
   simp only [Bool.and_eq_true, beq_iff_eq] at h'
   exact absurd h'.2 (h _ _ _ _ h'.1)
  ·rfl
 ·rfl
set_option maxHeartbeats 1000000 in
theorem tryR_hit {k : Int} {a b c : List UInt8} (h : okOp k a b c = true) : ∃ j0, 1 ≤ j0 ∧ j0 ≤ 6 ∧ tryR (txt k a b c) (spl (txt k a b c)) j0 = some (k, a, b, c, 0) ∧ ∀ j, 1 ≤ j → j ≤ 6 → j ≠ j0 → tryR (txt k a b c) (spl (txt k a b c)) j = none := by
 rw [spl_txt h]
 obtain ⟨h0, h1, h2, h3⟩ := okOp_kd h
 have nope : ∀ (w : List UInt8) (l : List (List UInt8)) (j : Nat), (w == (kd j).1) = false → tryR (txt k a b c) (w :: l) j = none := by
  intro w l j hj
  unfold tryR
  simp only [List.getD_cons_zero]
  rw [hj]
  rfl
 rcases kinds k with rfl | rfl | rfl | rfl | rfl | rfl | hn
 ·refine ⟨1, by decide, by decide, ?_, fun j h1 hj hne => nope _ _ j ?_⟩
  ·obtain rfl := fldF h2
   have e1 := fldT h1
   have e3 := fldT h3
   have h' : okOp (1 : Nat) a [] c = true := h
   simp [tryR, flds, e1, e3, kd, h]
  ·match j, h1, hj, hne with | 2, _, _, _ => rfl | 3, _, _, _ => rfl | 4, _, _, _ => rfl | 5, _, _, _ => rfl | 6, _, _, _ => rfl
 ·refine ⟨2, by decide, by decide, ?_, fun j h1 hj hne => nope _ _ j ?_⟩
  ·obtain rfl := fldF h2
   obtain rfl := fldF h3
   have e1 := fldT h1
   simp [tryR, flds, e1, kd, h]
  ·match j, h1, hj, hne with | 1, _, _, _ => rfl | 3, _, _, _ => rfl | 4, _, _, _ => rfl | 5, _, _, _ => rfl | 6, _, _, _ => rfl
 ·refine ⟨3, by decide, by decide, ?_, fun j h1 hj hne => nope _ _ j ?_⟩
  ·obtain rfl := fldF h2
   obtain rfl := fldF h3
   have e1 := fldT h1
   simp [tryR, flds, e1, kd, h]
  ·match j, h1, hj, hne with | 1, _, _, _ => rfl | 2, _, _, _ => rfl | 4, _, _, _ => rfl | 5, _, _, _ => rfl | 6, _, _, _ => rfl
 ·refine ⟨4, by decide, by decide, ?_, fun j h1 hj hne => nope _ _ j ?_⟩
  ·obtain rfl := fldF h2
   have e1 := fldT h1
   have e3 := fldT h3
   simp [tryR, flds, e1, e3, kd, h]
  ·match j, h1, hj, hne with | 1, _, _, _ => rfl | 2, _, _, _ => rfl | 3, _, _, _ => rfl | 5, _, _, _ => rfl | 6, _, _, _ => rfl
 ·refine ⟨5, by decide, by decide, ?_, fun j h1 hj hne => nope _ _ j ?_⟩
  ·have e1 := fldT h1
   have e2 := fldT h2
   have e3 := fldT h3
   simp [tryR, flds, e1, e2, e3, kd, h]
  ·match j, h1, hj, hne with | 1, _, _, _ => rfl | 2, _, _, _ => rfl | 3, _, _, _ => rfl | 4, _, _, _ => rfl | 6, _, _, _ => rfl
 ·refine ⟨6, by decide, by decide, ?_, fun j h1 hj hne => nope _ _ j ?_⟩
  ·obtain rfl := fldF h1
   obtain rfl := fldF h2
   obtain rfl := fldF h3
   simp [tryR, flds, kd, h]
  ·match j, h1, hj, hne with | 1, _, _, _ => rfl | 2, _, _, _ => rfl | 3, _, _, _ => rfl | 4, _, _, _ => rfl | 5, _, _, _ => rfl | 6, _, _, hne => exact absurd rfl hne
 ·rw [hn] at h0; cases h0
theorem f43_hit {k : Int} {a b c : List UInt8} (h : okOp k a b c = true) (hx : (txt k a b c).length ≤ 1000000) : f43 (txt k a b c) = some (k, a, b, c, 0) := by
 obtain ⟨j0, hj0, hj1, h1, h2⟩ := tryR_hit h
 unfold f43
 rw [f75_eq _ hx, some_bind]
 simp only [jn]
 exact f43_all _ _ _ _ hx (spl_pos _) (spl_mem _) _ (fun j => j = j0) (fun j _ _ e => e ▸ h1) (fun j a b e => h2 j a b e) (fun hall => absurd rfl (hall j0 hj0 hj1)) 6 FUEL 1 (by omega) (by unfold FUEL; omega) (by omega) (fun j a b => by omega)
theorem f43_miss {x : List UInt8} (h : NoOp x) (hx : x.length ≤ 1000000) : f43 x = some (0, [], [], [], 2) := by
 unfold f43
 rw [f75_eq _ hx, some_bind]
 simp only [jn]
 exact f43_all _ _ _ _ hx (spl_pos _) (spl_mem _) _ (fun _ => False) (fun j _ _ e => e.elim) (fun j _ _ e => tryR_none h _ _) (fun _ => rfl) 6 FUEL 1 (by omega) (by unfold FUEL; omega) (by omega) (fun j a b => by omega)
theorem txt_len {k : Int} {a b c : List UInt8} : a.length ≤ (txt k a b c).length ∧ b.length ≤ (txt k a b c).length ∧ c.length ≤ (txt k a b c).length := by
 unfold txt
 cases ha : a == [] <;> cases hb : b == [] <;> cases hc : c == [] <;> simp at ha hb hc <;> simp [*] <;> omega
abbrev Pr := List UInt8 × List UInt8 × Int
abbrev less (a b : List UInt8) : Bool := Op.bytesLess a b
theorem less_irrefl : ∀ a, less a a = false
 | [] => rfl
 | a :: x => by
  show (decide (a < a) || (a == a && less x x)) = false
  rw [less_irrefl x]; simp
theorem less_nil (a : List UInt8) : less a [] = false := by cases a <;> rfl
theorem less_trans : ∀ {a b c : List UInt8}, less a b = true → less b c = true → less a c = true
 | a, [], _, h, _ => by rw [less_nil] at h; cases h
 | _, b :: y, [], _, h => by rw [less_nil] at h; cases h
 | [], _ :: _, _ :: _, _, _ => rfl
 | a :: x, b :: y, c :: z, h1, h2 => by
  have g1 : (decide (a < b) || (a == b && less x y)) = true := h1
  have g2 : (decide (b < c) || (b == c && less y z)) = true := h2
  clear h1 h2
  show (decide (a < c) || (a == c && less x z)) = true
  simp only [Bool.or_eq_true, Bool.and_eq_true, decide_eq_true_eq, beq_iff_eq, UInt8.lt_iff_toNat_lt] at g1 g2 ⊢
  rcases g1 with k1 | ⟨e1, k1⟩
  ·rcases g2 with k2 | ⟨e2, k2⟩
   ·left; omega
   ·left; rw [← e2]; exact k1
  ·rcases g2 with k2 | ⟨e2, k2⟩
   ·left; rw [e1]; exact k2
   ·exact .inr ⟨e1.trans e2, less_trans k1 k2⟩
theorem less_total : ∀ a b : List UInt8, less a b = true ∨ a = b ∨ less b a = true
 | [], [] => .inr (.inl rfl)
 | [], _ :: _ => .inl rfl
 | _ :: _, [] => .inr (.inr rfl)
 | a :: x, b :: y => by
  show (decide (a < b) || (a == b && less x y)) = true ∨ _ ∨ (decide (b < a) || (b == a && less y x)) = true
  simp only [Bool.or_eq_true, Bool.and_eq_true, decide_eq_true_eq, beq_iff_eq, UInt8.lt_iff_toNat_lt]
  by_cases h : a = b
  ·subst h
   rcases less_total x y with h | h | h
   ·exact .inl (.inr ⟨rfl, h⟩)
   ·exact .inr (.inl (by rw [h]))
   ·exact .inr (.inr (.inr ⟨rfl, h⟩))
  ·have : a.toNat ≠ b.toNat := fun e => h (UInt8.toNat.inj e)
   by_cases h1 : a.toNat < b.toNat
   ·exact .inl (.inl h1)
   ·exact .inr (.inr (.inl (by omega)))
theorem less_asymm {a b : List UInt8} (h : less a b = true) : less b a = false := by
 cases h' : less b a
 ·rfl
 ·have := less_trans h h'
  rw [less_irrefl] at this; cases this
theorem less_ne {a b : List UInt8} (h : less a b = true) : (a == b) = false := by
 cases e : a == b
 ·rfl
 ·have := eq_of_beq e; subst this; rw [less_irrefl] at h; cases h
theorem cmp_less : ∀ a b : List UInt8, Lib.compareBytes a b = if less a b = true then -1 else if a = b then 0 else 1
 | [], [] => rfl
 | [], _ :: _ => rfl
 | _ :: _, [] => rfl
 | a :: x, b :: y => by
  show (if a < b then (-1 : Int) else if b < a then 1 else Lib.compareBytes x y) = if (decide (a < b) || (a == b && less x y)) = true then -1 else _
  by_cases h : a < b
  ·simp [h]
  ·by_cases h2 : b < a
   ·have : a ≠ b := by rintro rfl; simp at h2
    simp [h, h2, this]
   ·have e : a = b := by
     apply UInt8.toNat.inj
     simp only [UInt8.lt_iff_toNat_lt] at h h2
     omega
    subst e
    rw [if_neg h, if_neg h2, cmp_less x y]
    simp
abbrev Srtd (l : List Pr) : Prop := l.Pairwise (fun p q => less p.1 q.1 = true)
def okp (p : Pr) : Prop := gr p.1 64 = true ∧ gr p.2.1 256 = true ∧ 1 ≤ p.2.2 ∧ p.2.2 ≤ 1000000000000
structure StV (l : List Pr) : Prop where
 len : l.length ≤ 64
 each : ∀ p, p ∈ l → okp p
 srt : Srtd l
theorem StV.nil : StV [] := ⟨by simp, by simp, .nil⟩
inductive View (l : List Pr) (k : List UInt8) : Prop
 | hit (A C : List Pr) (v : List UInt8) (n : Int) (h : l = A ++ (k, v, n) :: C) (hA : ∀ a, a ∈ A → less a.1 k = true) (hC : ∀ c, c ∈ C → less k c.1 = true) : View l k
 | miss (A C : List Pr) (h : l = A ++ C) (hA : ∀ a, a ∈ A → less a.1 k = true) (hC : ∀ c, c ∈ C → less k c.1 = true) : View l k
theorem view : ∀ (l : List Pr) (k : List UInt8), Srtd l → View l k
 | [], k, _ => .miss [] [] rfl (by simp) (by simp)
 | (x, v, n) :: l, k, h => by
  obtain ⟨h1, h2⟩ := List.pairwise_cons.1 h
  rcases less_total x k with hx | rfl | hx
  ·cases view l k h2 with
   | hit A C v' n' e hA hC => exact .hit ((x, v, n) :: A) C v' n' (by rw [e]; rfl) (by intro a ha; rcases List.mem_cons.1 ha with rfl | ha; exact hx; exact hA a ha) hC
   | miss A C e hA hC => exact .miss ((x, v, n) :: A) C (by rw [e]; rfl) (by intro a ha; rcases List.mem_cons.1 ha with rfl | ha; exact hx; exact hA a ha) hC
  ·exact .hit [] l v n rfl (by simp) h1
  ·exact .miss [] ((x, v, n) :: l) rfl (by simp) (by intro c hc; rcases List.mem_cons.1 hc with rfl | hc; exact hx; exact less_trans hx (h1 c hc))
theorem getD_app {α : Type} (A B : List α) (i : Nat) (d : α) : (A ++ B).getD i d = if i < A.length then A.getD i d else B.getD (i - A.length) d := by
 split
 ·simp [List.getD_eq_getElem?_getD, List.getElem?_append_left, *]
 ·rename_i h; simp [List.getD_eq_getElem?_getD, List.getElem?_append_right (Nat.le_of_not_lt h)]
theorem getD_mem {α : Type} (l : List α) (i : Nat) (d : α) (h : i < l.length) : l.getD i d ∈ l := by
 rw [List.getD_eq_getElem?_getD, List.getElem?_eq_getElem h]; exact List.getElem_mem ..
theorem f109_eq (A B : List Pr) (k : List UInt8) (hlen : (A ++ B).length ≤ 1000000) (hA : ∀ a, a ∈ A → less a.1 k = true) (hB : ∀ b, b ∈ B → less b.1 k = false) :
  f68 (A ++ B) k = some ((A.length : Int), decide (0 < B.length) && ((B.getD 0 (default : Pr)).1 == k)) := by
 have h55 : ∀ (a b : List UInt8) (n : Int) (y : List UInt8), f110 a b n y = some (Lib.compareBytes a y) := fun _ _ _ _ => rfl
 have main : ∀ (K : Int → Option (Int × Bool)) (c q i j : Nat), j - i ≤ c → c < q → i ≤ A.length → A.length ≤ j → j ≤ (A ++ B).length → f109_L0 (A ++ B) k K q ((i : Int), (j : Int)) = K (A.length : Int) := by
  intro K c
  induction c with
  | zero =>
   intro q i j hc hq h1 h2 h3
   obtain ⟨q, rfl⟩ : ∃ z, q = z + 1 := ⟨q - 1, by omega⟩
   conv => lhs; unfold f109_L0
   rw [ifd_neg (by omega)]
   congr 1; omega
  | succ c ih =>
   intro q i j hc hq h1 h2 h3
   obtain ⟨q, rfl⟩ : ∃ z, q = z + 1 := ⟨q - 1, by omega⟩
   conv => lhs; unfold f109_L0
   by_cases hij : i < j
   ·have em : ((i : Int) + (j : Int)) / 2 ^ 1 = (((i + j) / 2 : Nat) : Int) := by omega
    rw [ifd_pos (by omega), chk_pos (by omega), chk_pos (by omega), chk_pos (by decide), em, chk_pos (by omega), h55, some_bind, chk_pos (by omega), Int.toNat_natCast, cmp_less]
    generalize hm : (i + j) / 2 = m
    have hm1 : i ≤ m := by omega
    have hm2 : m < j := by omega
    by_cases hmA : m < A.length
    ·have hl : less ((A ++ B).getD m (default : Pr)).1 k = true := by
      rw [getD_app, if_pos hmA]; exact hA _ (getD_mem _ _ _ hmA)
     rw [if_pos hl, ifd_pos (by decide), chk_pos (by omega)]
     have := ih q (m + 1) j (by omega) (by omega) (by omega) h2 h3
     rw [← this]; rfl
    ·have hl : less ((A ++ B).getD m (default : Pr)).1 k = false := by
      rw [getD_app, if_neg hmA]; exact hB _ (getD_mem _ _ _ (by rw [List.length_append] at h3; omega))
     rw [hl, ifd_neg (by split <;> simp_all <;> split <;> simp)]
     exact ih q i m (by omega) (by omega) h1 (by omega) (by omega)
   ·rw [ifd_neg (by omega)]
    congr 1; omega
 unfold f68 f109
 simp only [jn]
 have e0 : (0 : Int) = ((0 : Nat) : Int) := rfl
 rw [e0, main _ (A ++ B).length FUEL 0 (A ++ B).length (by omega) (by unfold FUEL; omega) (Nat.zero_le _) (by simp) (Nat.le_refl _)]
 rw [h55, Int.toNat_natCast, getD_app, if_neg (Nat.lt_irrefl _), Nat.sub_self]
 by_cases hb : 0 < B.length
 ·have h1 : decide ((A.length : Int) < (((A ++ B).length : Nat) : Int)) = true := by rw [List.length_append]; simp; omega
  rw [h1]
  simp only [beq_self_eq_true, Bool.true_and, optc_t, some_bind]
  rw [chk_pos (fun _ => by rw [List.length_append]; omega), some_bind, cmp_less, hB _ (getD_mem _ _ _ hb)]
  have hd : decide (0 < B.length) = true := by simp [hb]
  rw [hd]
  simp only [Bool.false_eq_true, if_false, Bool.true_and]
  by_cases e : (B.getD 0 (default : Pr)).1 = k
  ·have e' : ((B.getD 0 (default : Pr)).1 == k) = true := by simpa using e
   rw [if_pos e, e']; rfl
  ·have e' : ((B.getD 0 (default : Pr)).1 == k) = false := by simpa using e
   rw [if_neg e, e']; rfl
 ·have h1 : decide ((A.length : Int) < (((A ++ B).length : Nat) : Int)) = false := by rw [List.length_append]; simp; omega
  rw [h1]
  have hd : decide (0 < B.length) = false := by simp [hb]
  rw [hd]
  simp [optc, chk]

abbrev MV : Int := 1000000000000
theorem getD_at (A C : List Pr) (x d : Pr) : (A ++ x :: C).getD A.length d = x := by
 rw [getD_app, if_neg (Nat.lt_irrefl _), Nat.sub_self]; rfl
theorem set_at : ∀ (A C : List Pr) (x y : Pr), (A ++ x :: C).set A.length y = A ++ y :: C
 | [], _, _, _ => rfl
 | a :: A, C, x, y => by
  show a :: (A ++ x :: C).set A.length y = _
  rw [set_at A C x y]; rfl
theorem len_at (A C : List Pr) (x : Pr) : (A ++ x :: C).length = A.length + C.length + 1 := by simp; omega
theorem drop_at (A C : List Pr) (x : Pr) : (A ++ x :: C).drop (A.length + 1) = C := by
 rw [List.drop_append]; simp
theorem take_at (A C : List Pr) : (A ++ C).take A.length = A := by simp
theorem dropA_at (A C : List Pr) : (A ++ C).drop A.length = C := by simp
theorem f79_eq : ∀ (q n : Nat), n < 10 ^ (q + 1) → n ≤ 1000000000000000 → ∀ k, q + 1 ≤ k → f79 k (n : Int) = some (Lib.itoa (n : Int))
 | q, n, hn, hb, k, hk => by
  obtain ⟨k, rfl⟩ : ∃ z, k = z + 1 := ⟨k - 1, by omega⟩
  conv => lhs; unfold f79
  rw [Lib.itoa_nonneg]
  by_cases h : n < 10
  ·rw [ifd_pos (by omega), chk_pos (by omega), chk_pos (by omega), Lib.decDigits_one h]
   congr 3
  ·rw [ifd_neg (by omega)]
   match q, hn, hk with
   | 0, hn, _ => omega
   | q + 1, hn, hk =>
    have e1 : (n : Int) / 10 = ((n / 10 : Nat) : Int) := by omega
    have e2 : (n : Int) % 10 = ((n % 10 : Nat) : Int) := by omega
    rw [e1, e2, f79_eq q (n / 10) (by rw [Nat.pow_succ] at hn; omega) (by omega) k (by omega), some_bind, chk_pos (by omega), chk_pos (by omega), chk_pos (by omega), chk_pos (by omega)]
    have hl := Lib.itoa_length_le ((n / 10 : Nat) : Int) (by omega) (by omega)
    rw [chk_pos (by rw [List.length_singleton]; omega), Lib.itoa_nonneg]
    conv => rhs; rw [Lib.decDigits, dif_neg h]
    congr 3
theorem dig {n : Int} (h0 : 0 ≤ n) (h1 : n ≤ 1000000000000000) : f79 FUEL n = some (Lib.itoa n) := by
 obtain ⟨m, rfl⟩ : ∃ m : Nat, n = m := ⟨n.toNat, by omega⟩
 exact f79_eq 15 m (by omega) (by omega) FUEL (by unfold FUEL; omega)
theorem ito {n : Int} (h0 : 0 ≤ n) (h1 : n ≤ 1000000000000000) : f56 n = some (Lib.itoa n) := by
 unfold f56 itoaO
 rw [if_pos ⟨by omega, by omega⟩]
theorem ilen {n : Int} (h0 : 0 ≤ n) (h1 : n ≤ 1000000000000000) : (Lib.itoa n).length ≤ 21 := Lib.itoa_length_le n (by omega) (by omega)
theorem f78_hit (A C : List Pr) (k v : List UInt8) (n : Int) (hlen : (A ++ (k, v, n) :: C).length ≤ 1000000) (hA : ∀ a, a ∈ A → (a.1 == k) = false) (hC : ∀ c, c ∈ C → (c.1 == k) = false) : f78 (A ++ (k, v, n) :: C) k = some (A.length : Int) := by
 unfold f78
 simp only [jn]
 rcases find_up (fun q i => f78_L0 (A ++ (k, v, n) :: C) k (fun _ => some (-1)) q i) (A ++ (k, v, n) :: C) (default : Pr) (fun p => p.1 == k) (fun i => some (i : Int)) (some (-1)) (fun q i hi => by
   show f78_L0 _ _ _ (q + 1) i = _
   conv => lhs; unfold f78_L0
   rw [ifd_pos (by omega), chk_pos (by omega), chk_pos (by omega)]) (fun q => by
   show f78_L0 _ _ _ (q + 1) _ = _
   conv => lhs; unfold f78_L0
   rw [ifd_neg (by omega)]) (A ++ (k, v, n) :: C).length FUEL 0 (by omega) (fuel_lt (by omega)) with ⟨m, h1, h2, h3, h4, h5⟩ | ⟨h4, h5⟩
 ·rw [h4]
  rw [getD_app] at h3
  by_cases e : m < A.length
  ·rw [if_pos e, hA _ (getD_mem _ _ _ e)] at h3; cases h3
  ·rw [if_neg e] at h3
   by_cases e2 : m = A.length
   ·rw [e2]
   ·obtain ⟨z, hz⟩ : ∃ z, m - A.length = z + 1 := ⟨m - A.length - 1, by omega⟩
    rw [hz, List.getD_cons_succ, hC _ (getD_mem _ _ _ (by rw [len_at] at h2; omega))] at h3
    cases h3
 ·exfalso
  rw [List.drop_zero] at h5
  have := List.any_eq_false.1 h5 (k, v, n) (by simp)
  simp at this
theorem f78_miss (l : List Pr) (k : List UInt8) (hlen : l.length ≤ 1000000) (h : ∀ a, a ∈ l → (a.1 == k) = false) : f78 l k = some (-1) := by
 unfold f78
 simp only [jn]
 rw [any_up (fun q i => f78_L0 l k (fun _ => some (-1)) q i) l (default : Pr) (fun _ => false) none (some (-1)) (fun q i hi => by
   show f78_L0 _ _ _ (q + 1) i = _
   conv => lhs; unfold f78_L0
   rw [ifd_pos (by omega), chk_pos (by omega), h _ (getD_mem _ _ _ hi), chk_pos (by omega)]
   rfl) (fun q => by
   show f78_L0 _ _ _ (q + 1) _ = _
   conv => lhs; unfold f78_L0
   rw [ifd_neg (by omega)]) FUEL (fuel_lt (by omega))]
 simp
def gPut (k s : List UInt8) (z : Bool × List Pr) (a : Pr) : Bool × List Pr :=
 if a.1 == k then (true, z.2 ++ [(k, s, min (a.2.2 + 1) MV)]) else
 if (!(less a.1 k || a.1 == k)) && !z.1 then (true, (z.2 ++ [(k, s, 1)]) ++ [(a.1, a.2.1, a.2.2)]) else (z.1, z.2 ++ [(a.1, a.2.1, a.2.2)])
theorem f80_fold (l : List Pr) (k s : List UInt8) (hlen : l.length ≤ 1000000) (hv : ∀ a, a ∈ l → 1 ≤ a.2.2 ∧ a.2.2 ≤ MV) :
  f80 l k s = some (let z := l.foldl (gPut k s) (false, []); if z.1 then z.2 else z.2 ++ [(k, s, 1)]) := by
 unfold f80
 simp only [jn]
 have hI : ∀ n (z : Bool × List Pr), n < l.length → z.2.length ≤ 2 * n → (gPut k s z (l.getD n (default : Pr))).2.length ≤ 2 * (n + 1) := by
  intro n z hn hz
  unfold gPut
  split
  ·simp; omega
  ·split
   ·simp; omega
   ·simp; omega
 have := fold_up (fun q (y : Nat × (Bool × List Pr)) => f80_L0 l k s (fun y => if (!y.1) = true then chk ((y.2.length + 1) * 40 ≤ 140737488355328) (some (y.2 ++ [(k, s, 1)])) else some y.2) q (y.2.1, y.1, y.2.2)) l (default : Pr) (fun n z => z.2.length ≤ 2 * n) (gPut k s)
  (fun y => if (!y.1) = true then chk ((y.2.length + 1) * 40 ≤ 140737488355328) (some (y.2 ++ [(k, s, 1)])) else some y.2)
  (fun q n z hn hz => by
   obtain ⟨b, w⟩ := z
   simp only at hz
   show f80_L0 l k s _ (q + 1) (b, n, w) = _
   conv => lhs; unfold f80_L0
   have hh := hv _ (getD_mem l n (default : Pr) hn)
   simp only [MV] at hh
   rw [ifd_pos (by omega)]
   simp only [jn]
   rw [chk_pos (by omega)]
   unfold gPut
   simp only []
   by_cases e : ((l.getD n (default : Pr)).1 == k) = true
   ·rw [if_pos e, if_pos e, chk_pos (by omega), chk_pos (by omega), chk_pos (by omega), chk_pos (by omega)]
   ·rw [if_neg e, if_neg e, chk_pos (by omega)]
    by_cases e2 : ((!(less (l.getD n (default : Pr)).1 k || (l.getD n (default : Pr)).1 == k)) && !b) = true
    ·rw [if_pos e2, if_pos e2, chk_pos (by omega), chk_pos (by omega), chk_pos (by simp; omega), chk_pos (by omega)]
    ·rw [if_neg e2, if_neg e2, chk_pos (by omega), chk_pos (by omega), chk_pos (by omega)])
  hI (fun q z hz => by
   obtain ⟨b, w⟩ := z
   show f80_L0 l k s _ (q + 1) (b, l.length, w) = _
   conv => lhs; unfold f80_L0
   rw [ifd_neg (by omega)]) l.length FUEL 0 (false, []) (by omega) (fuel_lt (by omega)) (Nat.zero_le _)
 refine Eq.trans this ?_
 rw [List.drop_zero]
 have hl := foldl_inv (fun n (z : Bool × List Pr) => z.2.length ≤ 2 * n) (gPut k s) (default : Pr) l hI (false, []) (Nat.zero_le _)
 generalize l.foldl (gPut k s) (false, []) = z at hl
 obtain ⟨b, w⟩ := z
 simp only at hl
 cases b
 ·simp only [Bool.not_false, if_true, Bool.false_eq_true, if_false]
  rw [chk_pos (by omega)]
 ·rfl
theorem fold_lt (k s : List UInt8) (b : Bool) : ∀ (A w : List Pr), (∀ a, a ∈ A → less a.1 k = true) → A.foldl (gPut k s) (b, w) = (b, w ++ A)
 | [], w, _ => by simp
 | a :: A, w, h => by
  have ha := h a (List.mem_cons_self ..)
  have e : gPut k s (b, w) a = (b, w ++ [a]) := by
   unfold gPut
   rw [less_ne ha, ha]
   simp
  rw [List.foldl_cons, e, fold_lt k s b A _ fun x hx => h x (List.mem_cons_of_mem _ hx)]
  simp
theorem gt_ne {a b : List UInt8} (h : less b a = true) : (a == b) = false := by
 have := less_ne h
 cases e : a == b
 ·rfl
 ·have := eq_of_beq e; subst this; rw [less_irrefl] at h; cases h
theorem fold_gt (k s : List UInt8) : ∀ (C w : List Pr), (∀ a, a ∈ C → less k a.1 = true) → C.foldl (gPut k s) (true, w) = (true, w ++ C)
 | [], w, _ => by simp
 | a :: C, w, h => by
  have ha := h a (List.mem_cons_self ..)
  have e : gPut k s (true, w) a = (true, w ++ [a]) := by
   unfold gPut
   rw [gt_ne ha]
   simp
  rw [List.foldl_cons, e, fold_gt k s C _ fun x hx => h x (List.mem_cons_of_mem _ hx)]
  simp
theorem put_hit (A C : List Pr) (k v s : List UInt8) (n : Int) (hlen : (A ++ (k, v, n) :: C).length ≤ 1000000) (hv : ∀ a, a ∈ (A ++ (k, v, n) :: C) → 1 ≤ a.2.2 ∧ a.2.2 ≤ MV) (hA : ∀ a, a ∈ A → less a.1 k = true) (hC : ∀ c, c ∈ C → less k c.1 = true) :
  f80 (A ++ (k, v, n) :: C) k s = some (A ++ (k, s, min (n + 1) MV) :: C) := by
 rw [f80_fold _ k s hlen hv, List.foldl_append, fold_lt k s false A [] hA, List.foldl_cons]
 have e : gPut k s (false, [] ++ A) (k, v, n) = (true, A ++ [(k, s, min (n + 1) MV)]) := by
  unfold gPut
  simp
 rw [e, fold_gt k s C _ hC]
 simp
theorem put_miss (A C : List Pr) (k s : List UInt8) (hlen : (A ++ C).length ≤ 1000000) (hv : ∀ a, a ∈ (A ++ C) → 1 ≤ a.2.2 ∧ a.2.2 ≤ MV) (hA : ∀ a, a ∈ A → less a.1 k = true) (hC : ∀ c, c ∈ C → less k c.1 = true) :
  f80 (A ++ C) k s = some (A ++ (k, s, 1) :: C) := by
 rw [f80_fold _ k s hlen hv, List.foldl_append, fold_lt k s false A [] hA]
 cases C with
 | nil => simp
 | cons c C =>
  have hc := hC c (List.mem_cons_self ..)
  have e : gPut k s (false, [] ++ A) c = (true, A ++ [(k, s, 1), c]) := by
   unfold gPut
   rw [gt_ne hc, less_asymm hc]
   simp
  rw [List.foldl_cons, e, fold_gt k s C _ fun x hx => hC x (List.mem_cons_of_mem _ hx)]
  simp
theorem f40_eq (l : List Pr) (h : l.length ≤ 1000000) : f40 l = some l := by
 unfold f40
 rw [abc_eq, chk_pos (by omega)]
 ·rfl
 ·intro hl
  rw [chk_pos (by omega)]
  have : l = [] := List.length_eq_zero_iff.1 hl
  rw [this]; rfl

abbrev okW : List UInt8 := [111, 107, 32]
abbrev fullW : List UInt8 := [102, 117, 108, 108]
theorem find_hit (A C : List Pr) (k v : List UInt8) (n : Int) (hlen : (A ++ (k, v, n) :: C).length ≤ 1000000) (hA : ∀ a, a ∈ A → less a.1 k = true) (hC : ∀ c, c ∈ C → less k c.1 = true) : f68 (A ++ (k, v, n) :: C) k = some ((A.length : Int), true) := by
 rw [f109_eq A _ k hlen hA]
 ·simp
 ·intro b hb
  rcases List.mem_cons.1 hb with rfl | hb
  ·exact less_irrefl _
  ·exact less_asymm (hC b hb)
theorem find_miss (A C : List Pr) (k : List UInt8) (hlen : (A ++ C).length ≤ 1000000) (hA : ∀ a, a ∈ A → less a.1 k = true) (hC : ∀ c, c ∈ C → less k c.1 = true) : f68 (A ++ C) k = some ((A.length : Int), false) := by
 rw [f109_eq A _ k hlen hA fun b hb => less_asymm (hC b hb)]
 cases C with
 | nil => simp
 | cons c C => simp [gt_ne (hC c (List.mem_cons_self ..))]
theorem putP_hit (A C : List Pr) (k v s : List UInt8) (n : Int) (hlen : (A ++ (k, v, n) :: C).length ≤ 64) (h1 : 1 ≤ n) (h2 : n ≤ MV) (hA : ∀ a, a ∈ A → less a.1 k = true) (hC : ∀ c, c ∈ C → less k c.1 = true) :
  f69 (A ++ (k, v, n) :: C) k s = some (A ++ (k, s, min (n + 1) MV) :: C, okW ++ Lib.itoa (min (n + 1) MV)) := by
 simp only [MV] at *
 have hmin : 0 ≤ min (n + 1) 1000000000000 ∧ min (n + 1) 1000000000000 ≤ 1000000000000000 := by omega
 have hl := ilen hmin.1 hmin.2
 unfold f69
 rw [find_hit A C k v n (by omega) hA hC, some_bind]
 simp only [Bool.not_true, Bool.false_and, Bool.false_eq_true, if_false]
 rw [f40_eq _ (by omega), some_bind]
 simp only [jn, Int.toNat_natCast, set_at, getD_at]
 rw [len_at] at hlen
 rw [chk_pos (by rw [len_at]; omega), chk_pos (by rw [len_at]; omega), chk_pos (by rw [len_at]; omega), chk_pos (by rw [len_at]; omega), chk_pos (by omega), chk_pos (by rw [len_at]; omega), chk_pos (by rw [len_at]; omega),
  ito hmin.1 hmin.2, some_bind, chk_pos (by rw [len_at]; omega), chk_pos (by rw [len_at]; omega), chk_pos (by simp; omega)]
theorem putP_miss (A C : List Pr) (k s : List UInt8) (hlen : (A ++ C).length ≤ 64) (hA : ∀ a, a ∈ A → less a.1 k = true) (hC : ∀ c, c ∈ C → less k c.1 = true) :
  f69 (A ++ C) k s = if 64 ≤ (A ++ C).length then some (A ++ C, fullW) else some (A ++ (k, s, 1) :: C, okW ++ Lib.itoa 1) := by
 have hl := ilen (n := 1) (by omega) (by omega)
 unfold f69
 rw [find_miss A C k (by omega) hA hC, some_bind]
 by_cases hf : 64 ≤ (A ++ C).length
 ·rw [if_pos hf, if_pos (by simp only [Bool.not_false, Bool.true_and, decide_eq_true_eq]; omega)]
 rw [if_neg hf, if_neg (by simp only [Bool.not_false, Bool.true_and, decide_eq_true_eq]; omega), f40_eq _ (by omega), some_bind]
 simp only [jn]
 have e58 : f112 (A.length : Int) (A ++ C) [(k, [], (0 : Int))] = some (A ++ (k, [], 0) :: C, [(k, [], 0)]) := by
  unfold f112
  by_cases hc : A.length < (A ++ C).length
  ·rw [if_pos ⟨by omega, by rw [Int.toNat_natCast]; exact hc, by simp, by simp; simp at hlen; omega⟩, Int.toNat_natCast, take_at, dropA_at]
   simp
  ·have : C = [] := by
    cases C with
    | nil => rfl
    | cons c C => simp at hc
   subst this
   rw [if_neg (by rw [Int.toNat_natCast]; omega)]
   unfold f112e
   rw [List.append_nil, chk_pos (by omega), if_neg (by simp), if_pos (by simp), chk_pos (by simp; simp at hlen; omega)]
 simp only [Bool.not_false, if_true, e58, some_bind, Int.toNat_natCast, set_at, getD_at]
 rw [List.length_append] at hlen hf
 have e1 : min ((0 : Int) + 1) 1000000000000 = 1 := by decide
 rw [e1]
 rw [chk_pos (by rw [len_at]; omega), chk_pos (by rw [len_at]; omega), chk_pos (by rw [len_at]; omega), chk_pos (by rw [len_at]; omega), chk_pos (by omega), chk_pos (by rw [len_at]; omega), chk_pos (by rw [len_at]; omega),
  ito (by omega) (by omega), some_bind, chk_pos (by rw [len_at]; omega), chk_pos (by rw [len_at]; omega), chk_pos (by simp; omega)]
def tailR (x1 : List Pr) (x3 : List UInt8) (r7 : Int) (s10 : List UInt8) : Option (List UInt8 × List Pr) :=
 if ((decide (r7 < (0 : Int))) && (decide ((((x1).length : Nat) : Int) ≥ (64 : Int)))) then (
 some (([102, 117, 108, 108] : List UInt8), ([] ++ x1))
 ) else (
 (f80 x1 x3 s10).bind fun (r12 : List Tq0) =>
 (f78 r12 x3).bind fun (r13 : Int) =>
 (f79 FUEL ((r12.getD ((r13).toNat) (default : Tq0)).2.2)).bind fun (r14 : List UInt8) =>
 chk (0 ≤ r13 ∧ r13 < (((r12).length : Nat) : Int)) <|
 chk (((r13).toNat) < (r12).length) <|
 chk (([111, 107, 32] : List UInt8).length + r14.length ≤ 9223372036854775807) <|
 some ((([111, 107, 32] : List UInt8) ++ r14), r12)
 )
theorem tail_hit (A C : List Pr) (k v s : List UInt8) (n : Int) (hlen : (A ++ (k, v, n) :: C).length ≤ 64) (hv : ∀ a, a ∈ (A ++ (k, v, n) :: C) → 1 ≤ a.2.2 ∧ a.2.2 ≤ MV) (hA : ∀ a, a ∈ A → less a.1 k = true) (hC : ∀ c, c ∈ C → less k c.1 = true) :
  tailR (A ++ (k, v, n) :: C) k (A.length : Int) s = some (okW ++ Lib.itoa (min (n + 1) MV), A ++ (k, s, min (n + 1) MV) :: C) := by
 have hn := hv (k, v, n) (by simp)
 simp only [MV] at hn
 have hmin : 0 ≤ min (n + 1) 1000000000000 ∧ min (n + 1) 1000000000000 ≤ 1000000000000000 := by omega
 have hl := ilen hmin.1 hmin.2
 unfold tailR
 rw [if_neg (by simp; omega), put_hit A C k v s n (by omega) hv hA hC, some_bind]
 simp only [MV]
 rw [len_at] at hlen
 rw [f78_hit A C k s _ (by rw [len_at]; omega) (fun a ha => less_ne (hA a ha)) (fun c hc => gt_ne (hC c hc)), some_bind, Int.toNat_natCast, getD_at, dig hmin.1 hmin.2, some_bind, chk_pos (by rw [len_at]; omega), chk_pos (by rw [len_at]; omega), chk_pos (by simp; omega)]
theorem tail_miss (A C : List Pr) (k s : List UInt8) (hlen : (A ++ C).length ≤ 64) (hv : ∀ a, a ∈ (A ++ C) → 1 ≤ a.2.2 ∧ a.2.2 ≤ MV) (hA : ∀ a, a ∈ A → less a.1 k = true) (hC : ∀ c, c ∈ C → less k c.1 = true) :
  tailR (A ++ C) k (-1) s = if 64 ≤ (A ++ C).length then some (fullW, A ++ C) else some (okW ++ Lib.itoa 1, A ++ (k, s, 1) :: C) := by
 have hl := ilen (n := 1) (by omega) (by omega)
 unfold tailR
 by_cases hf : 64 ≤ (A ++ C).length
 ·rw [if_pos hf, if_pos (by simp only [Bool.and_eq_true, decide_eq_true_eq]; omega)]
  rfl
 rw [if_neg hf, if_neg (by simp only [Bool.and_eq_true, decide_eq_true_eq]; omega), put_miss A C k s (by omega) hv hA hC, some_bind]
 rw [List.length_append] at hlen hf
 rw [f78_hit A C k s _ (by rw [len_at]; omega) (fun a ha => less_ne (hA a ha)) (fun c hc => gt_ne (hC c hc)), some_bind, Int.toNat_natCast, getD_at, dig (n := 1) (by omega) (by omega), some_bind, chk_pos (by rw [len_at]; omega), chk_pos (by rw [len_at]; omega), chk_pos (by simp; omega)]

theorem gr_app {v c : List UInt8} (hv : gr v 256 = true) (hc : gr c 64 = true) (h : (v ++ c).length ≤ 256) : gr (v ++ c) 256 = true := by
 unfold gr at *
 simp only [Bool.and_eq_true, Bool.not_eq_true', decide_eq_true_eq] at *
 refine ⟨by rw [List.any_append, hv.1, hc.1]; rfl, ?_, by omega⟩
 cases v with
 | nil => have := hv.2.1; simp at this
 | cons x v => rfl
theorem gr_up {c : List UInt8} (hc : gr c 64 = true) : gr c 256 = true := by
 unfold gr at *
 simp only [Bool.and_eq_true, decide_eq_true_eq] at *
 exact ⟨hc.1, hc.2.1, by omega⟩
theorem stv_set {A C : List Pr} {k v s : List UInt8} {n m : Int} (h : StV (A ++ (k, v, n) :: C)) (hs : gr s 256 = true) (h1 : 1 ≤ m) (h2 : m ≤ MV) : StV (A ++ (k, s, m) :: C) := by
 refine ⟨by have := h.len; rw [len_at] at this ⊢; exact this, fun p hp => ?_, ?_⟩
 ·rcases List.mem_append.1 hp with hp | hp
  ·exact h.each p (List.mem_append_left _ hp)
  ·rcases List.mem_cons.1 hp with rfl | hp
   ·have := h.each (k, v, n) (by simp)
    exact ⟨this.1, hs, h1, h2⟩
   ·exact h.each p (by simp [hp])
 ·have := h.srt
  simp only [Srtd, List.pairwise_append, List.pairwise_cons] at this ⊢
  refine ⟨this.1, this.2.1, fun a ha b hb => ?_⟩
  rcases List.mem_cons.1 hb with rfl | hb
  ·exact this.2.2 a ha (k, v, n) (List.mem_cons_self ..)
  ·exact this.2.2 a ha b (List.mem_cons_of_mem _ hb)
theorem stv_ins {A C : List Pr} {k s : List UInt8} (h : StV (A ++ C)) (hl : (A ++ C).length < 64) (hk : gr k 64 = true) (hs : gr s 256 = true) (hA : ∀ a, a ∈ A → less a.1 k = true) (hC : ∀ c, c ∈ C → less k c.1 = true) : StV (A ++ (k, s, 1) :: C) := by
 refine ⟨by rw [List.length_append] at hl; rw [len_at]; omega, fun p hp => ?_, ?_⟩
 ·rcases List.mem_append.1 hp with hp | hp
  ·exact h.each p (List.mem_append_left _ hp)
  ·rcases List.mem_cons.1 hp with rfl | hp
   ·exact ⟨hk, hs, by simp, by simp⟩
   ·exact h.each p (List.mem_append_right _ hp)
 ·have := h.srt
  simp only [Srtd, List.pairwise_append, List.pairwise_cons] at this ⊢
  refine ⟨this.1, ⟨hC, this.2.1⟩, fun a ha b hb => ?_⟩
  rcases List.mem_cons.1 hb with rfl | hb
  ·exact hA a ha
  ·exact this.2.2 a ha b hb
theorem stv_del {A C : List Pr} {x : Pr} (h : StV (A ++ x :: C)) : StV (A ++ C) := by
 refine ⟨by have := h.len; rw [len_at] at this; rw [List.length_append]; omega, fun p hp => h.each p (by rcases List.mem_append.1 hp with hp | hp <;> simp [hp]), ?_⟩
 have := h.srt
 simp only [Srtd, List.pairwise_append, List.pairwise_cons] at this ⊢
 exact ⟨this.1, this.2.1.2, fun a ha b hb => this.2.2 a ha b (List.mem_cons_of_mem _ hb)⟩
def ent (l : List Pr) (k : List UInt8) : Option (List UInt8 × Int) := (l.find? fun p => p.1 == k).map (·.2)
theorem ent_hit {A C : List Pr} {k v : List UInt8} {n : Int} (hA : ∀ a, a ∈ A → less a.1 k = true) : ent (A ++ (k, v, n) :: C) k = some (v, n) := by
 unfold ent
 rw [List.find?_append, List.find?_eq_none.2 fun a ha => by simp [less_ne (hA a ha)]]
 simp
theorem ent_miss {A C : List Pr} {k : List UInt8} (hA : ∀ a, a ∈ A → less a.1 k = true) (hC : ∀ c, c ∈ C → less k c.1 = true) : ent (A ++ C) k = none := by
 unfold ent
 rw [List.find?_eq_none.2 fun a ha => by rcases List.mem_append.1 ha with ha | ha; simp [less_ne (hA a ha)]; simp [gt_ne (hC a ha)]]
 rfl
theorem ent_other {A C : List Pr} {k k' v : List UInt8} {n : Int} (h : k' ≠ k) : ent (A ++ (k, v, n) :: C) k' = ent (A ++ C) k' := by
 unfold ent
 rw [List.find?_append, List.find?_append, List.find?_cons]
 have : (k == k') = false := beq_false_of_ne fun e => h e.symm
 simp only [this]
def R (e : Option (List UInt8 × Int)) (cnt : Nat) (k : Int) (a b c : List UInt8) : List UInt8 × Option (List UInt8 × Int) :=
 if okOp k a b c = false then (cs1, e) else
 if k = 6 then (cs7 ++ Lib.itoa (cnt : Int), e) else
 match e with
 | none => if k = 1 ∨ k = 4 then (if 64 ≤ cnt then (fullW, none) else (okW ++ Lib.itoa 1, some (c, 1))) else ([110, 111, 110, 101], none)
 | some (v, n) =>
  if k = 1 then (okW ++ Lib.itoa (min (n + 1) MV), some (c, min (n + 1) MV)) else
  if k = 2 then (cs8 ++ v ++ [32] ++ Lib.itoa n, some (v, n)) else
  if k = 3 then ([111, 107], none) else
  if k = 4 then (if (v ++ c).length > 256 then ([108, 111, 110, 103], some (v, n)) else (okW ++ Lib.itoa (min (n + 1) MV), some (v ++ c, min (n + 1) MV))) else
  if v = b then (okW ++ Lib.itoa (min (n + 1) MV), some (c, min (n + 1) MV)) else ([110, 111, 32] ++ v, some (v, n))
structure Ex (l : List Pr) (k : Int) (a b c : List UInt8) (l' : List Pr) : Prop where
 prog : f37 l k a b c = some (l', (R (ent l a) l.length k a b c).1)
 spec : f44 l k a b c = some ((R (ent l a) l.length k a b c).1, l')
 ok : StV l'
 here : ent l' a = (R (ent l a) l.length k a b c).2
 there : ∀ k', k' ≠ a → ent l' k' = ent l k'
 keys : ∀ p, p ∈ l' → p.1 = a ∨ ∃ q, q ∈ l ∧ q.1 = p.1
 read : (k = 2 ∨ k = 6) → l' = l
theorem R_bad {e : Option (List UInt8 × Int)} {cnt : Nat} {k : Int} {a b c : List UInt8} (h : okOp k a b c = false) : R e cnt k a b c = (cs1, e) := by
 unfold R
 rw [if_pos h]
theorem nmin {n : Int} (h1 : 1 ≤ n) (h2 : n ≤ MV) : 1 ≤ min (n + 1) MV ∧ min (n + 1) MV ≤ MV := by
 simp only [MV] at *
 omega
theorem spec_head (l : List Pr) (k : Int) (a b c : List UInt8) (hl : l.length ≤ 64) (ha : a.length ≤ 9223372036854775807) (hb : b.length ≤ 9223372036854775807) (hc : c.length ≤ 9223372036854775807) (h : okOp k a b c = false) : f44 l k a b c = some (cs1, l) := by
 unfold f44
 rw [chk_pos (by omega), f77_eq k a b c ha hb hc, some_bind, h]
 rfl
theorem prog_head (l : List Pr) (k : Int) (a b c : List UInt8) (ha : a.length ≤ 9223372036854775807) (hb : b.length ≤ 9223372036854775807) (hc : c.length ≤ 9223372036854775807) (h : okOp k a b c = false) : f37 l k a b c = some (l, cs1) := by
 unfold f37
 rw [f67_eq k a b c ha hb hc, some_bind, h]
 rfl
theorem spec_hit (A C : List Pr) (k : Int) (a b c v : List UInt8) (n : Int) (hV : StV (A ++ (a, v, n) :: C)) (ha : a.length ≤ 9223372036854775807) (hb : b.length ≤ 9223372036854775807) (hc : c.length ≤ 9223372036854775807) (h : okOp k a b c = true)
  (hA : ∀ x, x ∈ A → less x.1 a = true) (hC : ∀ x, x ∈ C → less a x.1 = true) :
  f44 (A ++ (a, v, n) :: C) k a b c =
   if k = 6 then some (cs7 ++ Lib.itoa ((A ++ (a, v, n) :: C).length : Int), A ++ (a, v, n) :: C) else
   if k = 2 then some (cs8 ++ v ++ [32] ++ Lib.itoa n, A ++ (a, v, n) :: C) else
   if k = 3 then some ([111, 107], A ++ C) else
   if k = 5 then (if v = b then some (okW ++ Lib.itoa (min (n + 1) MV), A ++ (a, c, min (n + 1) MV) :: C) else some ([110, 111, 32] ++ v, A ++ (a, v, n) :: C)) else
   if k = 4 then (if (v ++ c).length > 256 then some ([108, 111, 110, 103], A ++ (a, v, n) :: C) else some (okW ++ Lib.itoa (min (n + 1) MV), A ++ (a, v ++ c, min (n + 1) MV) :: C)) else
   some (okW ++ Lib.itoa (min (n + 1) MV), A ++ (a, c, min (n + 1) MV) :: C) := by
 have hl := hV.len
 have hp := hV.each (a, v, n) (by simp)
 obtain ⟨p1, p2, p3, p4⟩ := hp
 simp only at p1 p2 p3 p4
 have hvl := gr_len p2
 have hil := ilen (n := n) (by omega) (by omega)
 have hcl := (ok_len h).2.2
 have hl2 := ilen (n := (((A ++ (a, v, n) :: C).length : Nat) : Int)) (by omega) (by omega)
 have tl : ∀ s, tailR (A ++ (a, v, n) :: C) a (A.length : Int) s = some (okW ++ Lib.itoa (min (n + 1) MV), A ++ (a, s, min (n + 1) MV) :: C) := fun s =>
  tail_hit A C a v s n hl (fun x hx => ⟨(hV.each x hx).2.2.1, (hV.each x hx).2.2.2⟩) hA hC
 have hla := len_at A C (a, v, n)
 unfold f44
 rw [chk_pos (by omega), f77_eq k a b c ha hb hc, some_bind, h, f78_hit A C a v n (by omega) (fun x hx => less_ne (hA x hx)) (fun x hx => gt_ne (hC x hx))]
 simp only [if_true, bne_self_eq_false, Bool.false_eq_true, if_false, some_bind, jn, Int.toNat_natCast, getD_at, List.nil_append, beq_iff_eq]
 rw [dig (n := (((A ++ (a, v, n) :: C).length : Nat) : Int)) (by omega) (by omega), some_bind, chk_pos (by have : cs7.length = 6 := rfl; omega)]
 have hneg : decide ((A.length : Int) < 0) = false := by simp
 simp only [hneg, Bool.false_eq_true, if_false]
 split
 ·rfl
 split
 ·rw [dig (n := n) (by omega) (by omega), some_bind, chk_pos (by rw [hla]; omega), chk_pos (by simp [cs8]; omega), chk_pos (by simp [cs8]; omega), chk_pos (by rw [hla]; omega), chk_pos (by simp [cs8]; omega)]
 split
 ·rw [chk_pos (by rw [hla]; omega), chk_pos (by omega), chk_pos (by omega), chk_pos (by rw [hla]; omega), chk_pos (by rw [hla]; omega)]
  have e1 : ((A.length : Int) + 1).toNat = A.length + 1 := by omega
  rw [e1, take_at, drop_at]
 split
 ·rw [chk_pos (by rw [hla]; omega)]
  by_cases e : v = b
  ·rw [if_pos e, if_neg (by simp [e])]
   exact tl c
  ·rw [if_neg e, if_pos (by simp [e]), chk_pos (by rw [hla]; omega), chk_pos (by simp; omega)]
 split
 ·rw [ifd_pos (by omega), chk_pos (by rw [hla]; omega), chk_pos (by omega)]
  by_cases e : (v ++ c).length > 256
  ·rw [if_pos e, ifd_pos (by omega)]
  ·rw [if_neg e, ifd_neg (by omega)]
   exact tl (v ++ c)
 ·exact tl c
theorem spec_miss (A C : List Pr) (k : Int) (a b c : List UInt8) (hV : StV (A ++ C)) (ha : a.length ≤ 9223372036854775807) (hb : b.length ≤ 9223372036854775807) (hc : c.length ≤ 9223372036854775807) (h : okOp k a b c = true)
  (hA : ∀ x, x ∈ A → less x.1 a = true) (hC : ∀ x, x ∈ C → less a x.1 = true) :
  f44 (A ++ C) k a b c =
   if k = 6 then some (cs7 ++ Lib.itoa ((A ++ C).length : Int), A ++ C) else
   if k = 2 ∨ k = 3 ∨ k = 5 then some ([110, 111, 110, 101], A ++ C) else
   if 64 ≤ (A ++ C).length then some (fullW, A ++ C) else some (okW ++ Lib.itoa 1, A ++ (a, c, 1) :: C) := by
 have hl := hV.len
 have hcl := (ok_len h).2.2
 have hl2 := ilen (n := (((A ++ C).length : Nat) : Int)) (by omega) (by omega)
 have tl : tailR (A ++ C) a (-1) c = if 64 ≤ (A ++ C).length then some (fullW, A ++ C) else some (okW ++ Lib.itoa 1, A ++ (a, c, 1) :: C) :=
  tail_miss A C a c hl (fun x hx => ⟨(hV.each x hx).2.2.1, (hV.each x hx).2.2.2⟩) hA hC
 unfold f44
 rw [chk_pos (by omega), f77_eq k a b c ha hb hc, some_bind, h, f78_miss (A ++ C) a (by omega) (fun x hx => by rcases List.mem_append.1 hx with hx | hx; exact less_ne (hA x hx); exact gt_ne (hC x hx))]
 simp only [if_true, bne_self_eq_false, Bool.false_eq_true, if_false, some_bind, jn, List.nil_append, beq_iff_eq]
 rw [dig (n := (((A ++ C).length : Nat) : Int)) (by omega) (by omega), some_bind, chk_pos (by have : cs7.length = 6 := rfl; omega)]
 have hneg : decide ((-1 : Int) < 0) = true := by decide
 have hneg2 : decide ((-1 : Int) ≥ 0) = false := by decide
 simp only [hneg, hneg2, if_true, Bool.false_eq_true, if_false]
 by_cases h6 : k = 6
 ·rw [if_pos h6, if_pos h6]
 rw [if_neg h6, if_neg h6]
 by_cases h2 : k = 2
 ·rw [if_pos h2, if_pos (.inl h2)]
 rw [if_neg h2]
 by_cases h3 : k = 3
 ·rw [if_pos h3, if_pos (.inr (.inl h3))]
 rw [if_neg h3]
 by_cases h5 : k = 5
 ·rw [if_pos h5, if_pos (.inr (.inr h5))]
 rw [if_neg h5, if_neg (show ¬ (k = 2 ∨ k = 3 ∨ k = 5) by omega)]
 split
 ·rw [ifd_neg (by omega)]
  exact tl
 ·exact tl
theorem okOp_is {k : Int} {a b c : List UInt8} (h : okOp k a b c = true) : isK k = true := by
 unfold okOp at h
 simp only [Bool.and_eq_true] at h
 exact h.1.1.1
theorem okK {k : Int} {a b c : List UInt8} (h : okOp k a b c = true) : k = 1 ∨ k = 2 ∨ k = 3 ∨ k = 4 ∨ k = 5 ∨ k = 6 := by
 have h0 := (okOp_is h)
 rcases kinds k with h | h | h | h | h | h | h
 ·exact .inl h
 ·exact .inr (.inl h)
 ·exact .inr (.inr (.inl h))
 ·exact .inr (.inr (.inr (.inl h)))
 ·exact .inr (.inr (.inr (.inr (.inl h))))
 ·exact .inr (.inr (.inr (.inr (.inr h))))
 ·rw [h] at h0; cases h0

theorem prog_hit (A C : List Pr) (k : Int) (a b c v : List UInt8) (n : Int) (hV : StV (A ++ (a, v, n) :: C)) (ha : a.length ≤ 9223372036854775807) (hb : b.length ≤ 9223372036854775807) (hc : c.length ≤ 9223372036854775807) (h : okOp k a b c = true)
  (hA : ∀ x, x ∈ A → less x.1 a = true) (hC : ∀ x, x ∈ C → less a x.1 = true) :
  f37 (A ++ (a, v, n) :: C) k a b c =
   if k = 6 then some (A ++ (a, v, n) :: C, cs7 ++ Lib.itoa ((A ++ (a, v, n) :: C).length : Int)) else
   if k = 1 then some (A ++ (a, c, min (n + 1) MV) :: C, okW ++ Lib.itoa (min (n + 1) MV)) else
   if k = 2 then some (A ++ (a, v, n) :: C, cs8 ++ v ++ [32] ++ Lib.itoa n) else
   if k = 3 then some (A ++ C, [111, 107]) else
   if k = 4 then (if (v ++ c).length > 256 then some (A ++ (a, v, n) :: C, [108, 111, 110, 103]) else some (A ++ (a, v ++ c, min (n + 1) MV) :: C, okW ++ Lib.itoa (min (n + 1) MV))) else
   if v = b then some (A ++ (a, c, min (n + 1) MV) :: C, okW ++ Lib.itoa (min (n + 1) MV)) else some (A ++ (a, v, n) :: C, [110, 111, 32] ++ v) := by
 have hl := hV.len
 have hp := hV.each (a, v, n) (by simp)
 obtain ⟨p1, p2, p3, p4⟩ := hp
 simp only at p1 p2 p3 p4
 have hvl := gr_len p2
 have hil := ilen (n := n) (by omega) (by omega)
 have hcl := (ok_len h).2.2
 have hl2 := ilen (n := (((A ++ (a, v, n) :: C).length : Nat) : Int)) (by omega) (by omega)
 have hla := len_at A C (a, v, n)
 have put : ∀ s, f69 (A ++ (a, v, n) :: C) a s = some (A ++ (a, s, min (n + 1) MV) :: C, okW ++ Lib.itoa (min (n + 1) MV)) := fun s => putP_hit A C a v s n hl p3 p4 hA hC
 unfold f37
 rw [f67_eq k a b c ha hb hc, some_bind, h]
 simp only [Bool.not_true, Bool.false_eq_true, if_false]
 rw [find_hit A C a v n (by omega) hA hC, some_bind]
 simp only [beq_iff_eq, Bool.not_true, Bool.and_false, Bool.false_eq_true, if_false, Int.toNat_natCast, getD_at]
 split
 ·rw [ito (n := (((A ++ (a, v, n) :: C).length : Nat) : Int)) (by omega) (by omega), some_bind, chk_pos (by have : cs7.length = 6 := rfl; omega)]
 split
 ·rw [put, some_bind]
 rw [chk_pos (by rw [hla]; omega)]
 split
 ·rw [ito (n := n) (by omega) (by omega), some_bind, chk_pos (by have : cs8.length = 6 := rfl; omega), chk_pos (by simp [cs8]; omega), chk_pos (by simp [cs8]; omega)]
 split
 ·rw [f40_eq _ (by omega), some_bind]
  unfold f70
  have e1 : ((A.length : Int) + 1).toNat = A.length + 1 := by omega
  rw [if_pos ⟨by omega, by omega, by rw [e1, hla]; omega⟩, some_bind, chk_pos (by omega), e1, Int.toNat_natCast, take_at, drop_at]
 split
 ·rw [chk_pos (by omega)]
  by_cases e : (v ++ c).length > 256
  ·rw [if_pos e, ifd_pos (by rw [List.length_append] at e; omega)]
  ·rw [if_neg e, ifd_neg (by rw [List.length_append] at e; omega), put, some_bind, chk_pos (by omega)]
 ·by_cases e : v = b
  ·rw [if_pos e, if_neg (by simp [e]), put, some_bind]
  ·rw [if_neg e, if_pos (by simp [e]), chk_pos (by simp; omega)]
theorem prog_miss (A C : List Pr) (k : Int) (a b c : List UInt8) (hV : StV (A ++ C)) (ha : a.length ≤ 9223372036854775807) (hb : b.length ≤ 9223372036854775807) (hc : c.length ≤ 9223372036854775807) (h : okOp k a b c = true)
  (hA : ∀ x, x ∈ A → less x.1 a = true) (hC : ∀ x, x ∈ C → less a x.1 = true) :
  f37 (A ++ C) k a b c =
   if k = 6 then some (A ++ C, cs7 ++ Lib.itoa ((A ++ C).length : Int)) else
   if k = 1 ∨ k = 4 then (if 64 ≤ (A ++ C).length then some (A ++ C, fullW) else some (A ++ (a, c, 1) :: C, okW ++ Lib.itoa 1)) else
   some (A ++ C, [110, 111, 110, 101]) := by
 have hl := hV.len
 have hl2 := ilen (n := (((A ++ C).length : Nat) : Int)) (by omega) (by omega)
 have put := putP_miss A C a c hl hA hC
 have put' : ((f69 (A ++ C) a c).bind fun r => some (r.1, r.2)) = if 64 ≤ (A ++ C).length then some (A ++ C, fullW) else some (A ++ (a, c, 1) :: C, okW ++ Lib.itoa 1) := by
  rw [put]
  split <;> rfl
 unfold f37
 rw [f67_eq k a b c ha hb hc, some_bind, h]
 simp only [Bool.not_true, Bool.false_eq_true, if_false]
 rw [find_miss A C a (by omega) hA hC, some_bind]
 simp only [beq_iff_eq, Bool.not_false, Bool.and_true, if_true]
 split
 ·rw [ito (n := (((A ++ C).length : Nat) : Int)) (by omega) (by omega), some_bind, chk_pos (by have : cs7.length = 6 := rfl; omega)]
 by_cases h1 : k = 1
 ·rw [if_pos h1, if_pos (.inl h1)]
  exact put'
 by_cases h4 : k = 4
 ·rw [if_neg h1, if_pos h4, if_pos (.inr h4)]
  exact put'
 ·rw [if_neg h1, if_neg h4, if_neg (by omega)]
theorem exec (l : List Pr) (k : Int) (a b c : List UInt8) (hV : StV l) (ha : a.length ≤ 9223372036854775807) (hb : b.length ≤ 9223372036854775807) (hc : c.length ≤ 9223372036854775807) : ∃ l', Ex l k a b c l' := by
 cases h : okOp k a b c
 ·exact ⟨l, by rw [R_bad h]; exact prog_head l k a b c ha hb hc h, by rw [R_bad h]; exact spec_head l k a b c hV.len ha hb hc h, hV, by rw [R_bad h], fun _ _ => rfl, fun p hp => .inr ⟨p, hp, rfl⟩, fun _ => rfl⟩
 have hk := okK h
 have hcg : k = 1 ∨ k = 4 ∨ k = 5 → gr c 64 = true := by
  unfold okOp at h
  simp only [Bool.and_eq_true] at h
  have := h.2
  rintro (rfl | rfl | rfl) <;> exact this
 have hag : k ≠ 6 → gr a 64 = true := by
  unfold okOp at h
  simp only [Bool.and_eq_true] at h
  have := h.1.1.2
  rcases hk with rfl | rfl | rfl | rfl | rfl | rfl <;> intro h6 <;> first | exact this | exact absurd rfl h6
 have hf : okOp k a b c = false ↔ False := by rw [h]; simp
 cases view l a hV.srt with
 | hit A C v n e hA hC =>
  subst e
  have p := prog_hit A C k a b c v n hV ha hb hc h hA hC
  have s := spec_hit A C k a b c v n hV ha hb hc h hA hC
  have hp := hV.each (a, v, n) (by simp)
  have e0 := ent_hit (C := C) (v := v) (n := n) hA
  have hm := nmin hp.2.2.1 hp.2.2.2
  have keysS : ∀ s m, ∀ p, p ∈ A ++ (a, s, m) :: C → p.1 = a ∨ ∃ q, q ∈ A ++ (a, v, n) :: C ∧ q.1 = p.1 := by
   intro s m p hp
   rcases List.mem_append.1 hp with hp | hp
   ·exact .inr ⟨p, List.mem_append_left _ hp, rfl⟩
   ·rcases List.mem_cons.1 hp with rfl | hp
    ·exact .inl rfl
    ·exact .inr ⟨p, by simp [hp], rfl⟩
  have setS : ∀ s, gr s 256 = true → StV (A ++ (a, s, min (n + 1) MV) :: C) := fun s hs => stv_set hV hs hm.1 hm.2
  have there : ∀ (s : List UInt8) (m : Int), ∀ k', k' ≠ a → ent (A ++ (a, s, m) :: C) k' = ent (A ++ (a, v, n) :: C) k' := fun s m k' hk' => by rw [ent_other hk', ent_other hk']
  rcases hk with rfl | rfl | rfl | rfl | rfl | rfl
  ·refine ⟨A ++ (a, c, min (n + 1) MV) :: C, ?_, ?_, setS c (gr_up (hcg (.inl rfl))), ?_, there _ _, keysS _ _, fun h => by omega⟩
   ·rw [p, e0]; simp [R, hf]
   ·rw [s, e0]; simp [R, hf]
   ·rw [e0, ent_hit hA]; simp [R, hf]
  ·refine ⟨A ++ (a, v, n) :: C, ?_, ?_, hV, ?_, there _ _, keysS _ _, fun _ => rfl⟩
   ·rw [p, e0]; simp [R, hf]
   ·rw [s, e0]; simp [R, hf]
   ·rw [e0]; simp [R, hf]
  ·refine ⟨A ++ C, ?_, ?_, stv_del hV, ?_, fun k' hk' => by rw [ent_other hk'], fun p hp => .inr ⟨p, by rcases List.mem_append.1 hp with hp | hp <;> simp [hp], rfl⟩, fun h => by omega⟩
   ·rw [p, e0]; simp [R, hf]
   ·rw [s, e0]; simp [R, hf]
   ·rw [e0, ent_miss hA hC]; simp [R, hf]
  ·by_cases hlong : (v ++ c).length > 256
   ·refine ⟨A ++ (a, v, n) :: C, ?_, ?_, hV, ?_, there _ _, keysS _ _, fun h => by omega⟩
    ·rw [p, e0]; simp only [R, hf, hlong]; simp
    ·rw [s, e0]; simp only [R, hf, hlong]; simp
    ·rw [e0]; simp only [R, hf, hlong]; simp
   ·refine ⟨A ++ (a, v ++ c, min (n + 1) MV) :: C, ?_, ?_, setS _ (gr_app hp.2.1 (hcg (.inr (.inl rfl))) (by omega)), ?_, there _ _, keysS _ _, fun h => by omega⟩
    ·rw [p, e0]; simp only [R, hf, hlong]; simp
    ·rw [s, e0]; simp only [R, hf, hlong]; simp
    ·rw [e0, ent_hit hA]; simp only [R, hf, hlong]; simp
  ·by_cases hvb : v = b
   ·refine ⟨A ++ (a, c, min (n + 1) MV) :: C, ?_, ?_, setS c (gr_up (hcg (.inr (.inr rfl)))), ?_, there _ _, keysS _ _, fun h => by omega⟩
    ·rw [p, e0]; simp [R, hf, hvb]
    ·rw [s, e0]; simp [R, hf, hvb]
    ·rw [e0, ent_hit hA]; simp [R, hf, hvb]
   ·refine ⟨A ++ (a, v, n) :: C, ?_, ?_, hV, ?_, there _ _, keysS _ _, fun h => by omega⟩
    ·rw [p, e0]; simp [R, hf, hvb]
    ·rw [s, e0]; simp [R, hf, hvb]
    ·rw [e0]; simp [R, hf, hvb]
  ·refine ⟨A ++ (a, v, n) :: C, ?_, ?_, hV, ?_, there _ _, keysS _ _, fun _ => rfl⟩
   ·rw [p, e0]; simp only [R, hf, if_true, if_false]
   ·rw [s, e0]; simp only [R, hf, if_true, if_false]
   ·rw [e0]; simp only [R, hf, if_true, if_false]
 | miss A C e hA hC =>
  subst e
  have p := prog_miss A C k a b c hV ha hb hc h hA hC
  have s := spec_miss A C k a b c hV ha hb hc h hA hC
  have e0 := ent_miss hA hC
  have keep : ∀ p, p ∈ A ++ C → p.1 = a ∨ ∃ q, q ∈ A ++ C ∧ q.1 = p.1 := fun p hp => .inr ⟨p, hp, rfl⟩
  have keysS : ∀ s m, ∀ p, p ∈ A ++ (a, s, m) :: C → p.1 = a ∨ ∃ q, q ∈ A ++ C ∧ q.1 = p.1 := by
   intro s m p hp
   rcases List.mem_append.1 hp with hp | hp
   ·exact .inr ⟨p, List.mem_append_left _ hp, rfl⟩
   ·rcases List.mem_cons.1 hp with rfl | hp
    ·exact .inl rfl
    ·exact .inr ⟨p, by simp [hp], rfl⟩
  have ins : (k = 1 ∨ k = 4) → ∃ l', Ex (A ++ C) k a b c l' := by
   intro h14
   have h6 : k ≠ 6 := by omega
   have h235 : ¬ (k = 2 ∨ k = 3 ∨ k = 5) := by omega
   by_cases hfull : 64 ≤ (A ++ C).length
   ·refine ⟨A ++ C, ?_, ?_, hV, ?_, fun _ _ => rfl, keep, fun _ => rfl⟩
    ·rw [p, e0, if_neg h6, if_pos h14, if_pos hfull]; simp only [R, hf, if_false, if_neg h6, if_pos h14, if_pos hfull]
    ·rw [s, e0, if_neg h6, if_neg h235, if_pos hfull]; simp only [R, hf, if_false, if_neg h6, if_pos h14, if_pos hfull]
    ·rw [e0]; simp only [R, hf, if_false, if_neg h6, if_pos h14, if_pos hfull]
   ·refine ⟨A ++ (a, c, 1) :: C, ?_, ?_, stv_ins hV (by omega) (hag h6) (gr_up (hcg (by omega))) hA hC, ?_, fun k' hk' => by rw [ent_other hk'], keysS _ _, fun h => by omega⟩
    ·rw [p, e0, if_neg h6, if_pos h14, if_neg hfull]; simp only [R, hf, if_false, if_neg h6, if_pos h14, if_neg hfull]
    ·rw [s, e0, if_neg h6, if_neg h235, if_neg hfull]; simp only [R, hf, if_false, if_neg h6, if_pos h14, if_neg hfull]
    ·rw [e0, ent_hit hA]; simp only [R, hf, if_false, if_neg h6, if_pos h14, if_neg hfull]
  have non : (k = 2 ∨ k = 3 ∨ k = 5) → ∃ l', Ex (A ++ C) k a b c l' := by
   intro h235
   have h6 : k ≠ 6 := by omega
   have h14 : ¬ (k = 1 ∨ k = 4) := by omega
   refine ⟨A ++ C, ?_, ?_, hV, ?_, fun _ _ => rfl, keep, fun _ => rfl⟩
   ·rw [p, e0, if_neg h6, if_neg h14]; simp only [R, hf, if_false, if_neg h6, if_neg h14]
   ·rw [s, e0, if_neg h6, if_pos h235]; simp only [R, hf, if_false, if_neg h6, if_neg h14]
   ·rw [e0]; simp only [R, hf, if_false, if_neg h6, if_neg h14]
  rcases hk with h | h | h | h | h | rfl
  ·exact ins (.inl h)
  ·exact non (.inl h)
  ·exact non (.inr (.inl h))
  ·exact ins (.inr h)
  ·exact non (.inr (.inr h))
  ·refine ⟨A ++ C, ?_, ?_, hV, ?_, fun _ _ => rfl, keep, fun _ => rfl⟩
   ·rw [p, e0]; simp only [R, hf, if_true, if_false]
   ·rw [s, e0]; simp only [R, hf, if_true, if_false]
   ·rw [e0]; simp only [R, hf, if_true, if_false]

end Go.Abs
namespace Go.Abs
theorem f9_true : f9 = some true := by kernel_rfl
end Go.Abs
namespace Go.Abs
abbrev Ss := Int × Int × List UInt8
structure SesV (l : List Ss) : Prop where
 rng : ∀ p, p ∈ l → 0 ≤ p.1 ∧ p.1 < 6
 srt : l.Pairwise (fun p q => p.1 < q.1)
theorem SesV.nil : SesV [] := ⟨by simp, .nil⟩
theorem ses_len : ∀ (l : List Ss) (k : Int), l.Pairwise (fun p q => p.1 < q.1) → (∀ p, p ∈ l → k ≤ p.1 ∧ p.1 < 6) → (l.length : Int) ≤ max 0 (6 - k)
 | [], k, _, _ => by simp; omega
 | a :: l, k, h, hr => by
  obtain ⟨h1, h2⟩ := List.pairwise_cons.1 h
  have ha := hr a (List.mem_cons_self ..)
  have := ses_len l (a.1 + 1) h2 fun p hp => ⟨by have := h1 p hp; omega, (hr p (List.mem_cons_of_mem _ hp)).2⟩
  simp only [List.length_cons]
  omega
theorem SesV.len {l : List Ss} (h : SesV l) : l.length ≤ 6 := by
 have := ses_len l 0 h.srt h.rng
 omega
inductive SView (l : List Ss) (c : Int) : Prop
 | hit (A C : List Ss) (n : Int) (r : List UInt8) (h : l = A ++ (c, n, r) :: C) (hA : ∀ a, a ∈ A → a.1 < c) (hC : ∀ b, b ∈ C → c < b.1) : SView l c
 | miss (A C : List Ss) (h : l = A ++ C) (hA : ∀ a, a ∈ A → a.1 < c) (hC : ∀ b, b ∈ C → c < b.1) : SView l c
theorem sview : ∀ (l : List Ss) (c : Int), l.Pairwise (fun p q => p.1 < q.1) → SView l c
 | [], c, _ => .miss [] [] rfl (by simp) (by simp)
 | (x, n, r) :: l, c, h => by
  obtain ⟨h1, h2⟩ := List.pairwise_cons.1 h
  by_cases hx : x < c
  ·cases sview l c h2 with
   | hit A C n' r' e hA hC => exact .hit ((x, n, r) :: A) C n' r' (by rw [e]; rfl) (by intro a ha; rcases List.mem_cons.1 ha with rfl | ha; exact hx; exact hA a ha) hC
   | miss A C e hA hC => exact .miss ((x, n, r) :: A) C (by rw [e]; rfl) (by intro a ha; rcases List.mem_cons.1 ha with rfl | ha; exact hx; exact hA a ha) hC
  ·by_cases he : x = c
   ·subst he
    exact .hit [] l n r rfl (by simp) h1
   ·exact .miss [] ((x, n, r) :: l) rfl (by simp) (by intro b hb; rcases List.mem_cons.1 hb with rfl | hb; simp only; omega; have := h1 b hb; simp only at this; omega)
theorem getD_appS (A B : List Ss) (i : Nat) (d : Ss) : (A ++ B).getD i d = if i < A.length then A.getD i d else B.getD (i - A.length) d := by
 split
 ·simp [List.getD_eq_getElem?_getD, List.getElem?_append_left, *]
 ·rename_i h; simp [List.getD_eq_getElem?_getD, List.getElem?_append_right (Nat.le_of_not_lt h)]
theorem f35_eq (A B : List Ss) (c : Int) (hc : 0 ≤ c ∧ c < 6) (hr : ∀ p, p ∈ A ++ B → 0 ≤ p.1 ∧ p.1 < 6) (hlen : (A ++ B).length ≤ 1000000) (hA : ∀ a, a ∈ A → a.1 < c) (hB : ∀ b, b ∈ B → ¬ b.1 < c) :
  f35 (A ++ B) c = some ((A.length : Int), decide (0 < B.length) && ((B.getD 0 (default : Ss)).1 == c)) := by
 have h24 : ∀ (p : Ss), p ∈ A ++ B → f62 p.1 p.2.1 p.2.2 c = some (p.1 - c) := fun p hp => by
  have := hr p hp
  unfold f62
  rw [wrap_in (k := .i64) (show -9223372036854775808 ≤ p.1 - c ∧ p.1 - c ≤ 9223372036854775807 by omega)]
 have main : ∀ (K : Int → Option (Int × Bool)) (d q i j : Nat), j - i ≤ d → d < q → i ≤ A.length → A.length ≤ j → j ≤ (A ++ B).length → f61_L0 (A ++ B) c K q ((i : Int), (j : Int)) = K (A.length : Int) := by
  intro K d
  induction d with
  | zero =>
   intro q i j hd hq h1 h2 h3
   obtain ⟨q, rfl⟩ : ∃ z, q = z + 1 := ⟨q - 1, by omega⟩
   conv => lhs; unfold f61_L0
   rw [ifd_neg (by omega)]
   congr 1; omega
  | succ d ih =>
   intro q i j hd hq h1 h2 h3
   obtain ⟨q, rfl⟩ : ∃ z, q = z + 1 := ⟨q - 1, by omega⟩
   conv => lhs; unfold f61_L0
   by_cases hij : i < j
   ·have em : ((i : Int) + (j : Int)) / 2 ^ 1 = (((i + j) / 2 : Nat) : Int) := by omega
    rw [ifd_pos (by omega), chk_pos (by omega), chk_pos (by omega), chk_pos (by decide), em, chk_pos (by omega), Int.toNat_natCast]
    generalize hm : (i + j) / 2 = m
    have hm1 : i ≤ m := by omega
    have hm2 : m < j := by omega
    rw [h24 _ (getD_mem _ _ _ (by omega)), some_bind, chk_pos (by omega)]
    by_cases hmA : m < A.length
    ·have hl : ((A ++ B).getD m (default : Ss)).1 < c := by
      rw [getD_appS, if_pos hmA]; exact hA _ (getD_mem _ _ _ hmA)
     rw [ifd_pos (by omega), chk_pos (by omega)]
     have := ih q (m + 1) j (by omega) (by omega) (by omega) h2 h3
     rw [← this]; rfl
    ·have hl : ¬ ((A ++ B).getD m (default : Ss)).1 < c := by
      rw [getD_appS, if_neg hmA]; exact hB _ (getD_mem _ _ _ (by rw [List.length_append] at h3; omega))
     rw [ifd_neg (by omega)]
     exact ih q i m (by omega) (by omega) h1 (by omega) (by omega)
   ·rw [ifd_neg (by omega)]
    congr 1; omega
 unfold f35 f61
 simp only [jn]
 have e0 : (0 : Int) = ((0 : Nat) : Int) := rfl
 rw [e0, main _ (A ++ B).length FUEL 0 (A ++ B).length (by omega) (by unfold FUEL; omega) (Nat.zero_le _) (by simp) (Nat.le_refl _)]
 rw [Int.toNat_natCast]
 by_cases hb : 0 < B.length
 ·have h1 : decide ((A.length : Int) < (((A ++ B).length : Nat) : Int)) = true := by rw [List.length_append]; simp; omega
  rw [h24 _ (getD_mem _ _ _ (by rw [List.length_append]; omega)), h1, getD_appS, if_neg (Nat.lt_irrefl _), Nat.sub_self]
  simp only [beq_self_eq_true, Bool.true_and, optc_t, some_bind]
  rw [chk_pos (fun _ => by rw [List.length_append]; omega), some_bind]
  have hd : decide (0 < B.length) = true := by simp [hb]
  rw [hd]
  by_cases e : (B.getD 0 (default : Ss)).1 = c
  ·have e' : ((B.getD 0 (default : Ss)).1 == c) = true := by simpa using e
   have e2 : ((B.getD 0 (default : Ss)).1 - c == ((0 : Nat) : Int)) = true := by simp only [beq_iff_eq]; omega
   rw [e', e2]; rfl
  ·have e' : ((B.getD 0 (default : Ss)).1 == c) = false := by simpa using e
   have e2 : ((B.getD 0 (default : Ss)).1 - c == ((0 : Nat) : Int)) = false := by
    cases h : ((B.getD 0 (default : Ss)).1 - c == ((0 : Nat) : Int))
    ·rfl
    ·simp only [beq_iff_eq] at h; omega
   rw [e', e2]; rfl
 ·have h1 : decide ((A.length : Int) < (((A ++ B).length : Nat) : Int)) = false := by rw [List.length_append]; simp; omega
  rw [h1]
  have hd : decide (0 < B.length) = false := by simp [hb]
  rw [hd]
  simp [optc, chk]
end Go.Abs
namespace Go.Abs
def num (l : List Ss) (c : Int) : Int := match l.find? (fun p => p.1 == c) with | some p => p.2.1 | none => 0
theorem num_hit {A C : List Ss} {c n : Int} {r : List UInt8} (hA : ∀ a, a ∈ A → a.1 < c) : num (A ++ (c, n, r) :: C) c = n := by
 unfold num
 rw [List.find?_append, List.find?_eq_none.2 fun a ha => by have := hA a ha; simp; omega]
 simp
theorem num_miss {A C : List Ss} {c : Int} (hA : ∀ a, a ∈ A → a.1 < c) (hC : ∀ b, b ∈ C → c < b.1) : num (A ++ C) c = 0 := by
 unfold num
 rw [List.find?_eq_none.2 fun a ha => by
  rcases List.mem_append.1 ha with ha | ha
  ·have := hA a ha; simp; omega
  ·have := hC a ha; simp; omega]
theorem num_other {A C : List Ss} {c c' n : Int} {r : List UInt8} (h : c' ≠ c) : num (A ++ (c, n, r) :: C) c' = num (A ++ C) c' := by
 unfold num
 have e : ((c, n, r).1 == c') = false := by simp; omega
 rw [List.find?_append, List.find?_append, List.find?_cons]
 simp only [e]
def good (q : Ss) : Bool := (((((decide (q.1 ≥ 0)) && (decide (q.1 < 6))) && (decide (q.2.1 ≥ 1))) && (decide (q.2.1 ≤ 1000000))) && !(q.2.2 == [])) && decide (((q.2.2.length : Nat) : Int) ≤ 200)
theorem good_of {q : Ss} (h : good q = true) : 0 ≤ q.1 ∧ q.1 < 6 ∧ 1 ≤ q.2.1 ∧ q.2.1 ≤ 1000000 ∧ q.2.2.length ≤ 200 := by
 unfold good at h
 simp only [Bool.and_eq_true, decide_eq_true_eq] at h
 omega
abbrev Mc := List Pr × List Ss
structure McV (m : Mc) : Prop where
 st : StV m.1
 se : SesV m.2
theorem ses_set {A C : List Ss} {c n n' : Int} {r r' : List UInt8} (h : SesV (A ++ (c, n, r) :: C)) : SesV (A ++ (c, n', r') :: C) := by
 refine ⟨fun p hp => ?_, ?_⟩
 ·rcases List.mem_append.1 hp with hp | hp
  ·exact h.rng p (List.mem_append_left _ hp)
  ·rcases List.mem_cons.1 hp with rfl | hp
   ·exact h.rng (c, n, r) (by simp)
   ·exact h.rng p (by simp [hp])
 ·have := h.srt
  simp only [List.pairwise_append, List.pairwise_cons] at this ⊢
  refine ⟨this.1, this.2.1, fun a ha b hb => ?_⟩
  rcases List.mem_cons.1 hb with rfl | hb
  ·exact this.2.2 a ha (c, n, r) (List.mem_cons_self ..)
  ·exact this.2.2 a ha b (List.mem_cons_of_mem _ hb)
theorem ses_ins {A C : List Ss} {c n : Int} {r : List UInt8} (h : SesV (A ++ C)) (hc : 0 ≤ c ∧ c < 6) (hA : ∀ a, a ∈ A → a.1 < c) (hC : ∀ b, b ∈ C → c < b.1) : SesV (A ++ (c, n, r) :: C) := by
 refine ⟨fun p hp => ?_, ?_⟩
 ·rcases List.mem_append.1 hp with hp | hp
  ·exact h.rng p (List.mem_append_left _ hp)
  ·rcases List.mem_cons.1 hp with rfl | hp
   ·exact hc
   ·exact h.rng p (List.mem_append_right _ hp)
 ·have := h.srt
  simp only [List.pairwise_append, List.pairwise_cons] at this ⊢
  refine ⟨this.1, ⟨hC, this.2.1⟩, fun a ha b hb => ?_⟩
  rcases List.mem_cons.1 hb with rfl | hb
  ·exact hA a ha
  ·exact this.2.2 a ha b hb
theorem setS_at : ∀ (A C : List Ss) (x y : Ss), (A ++ x :: C).set A.length y = A ++ y :: C
 | [], _, _, _ => rfl
 | a :: A, C, x, y => by
  show a :: (A ++ x :: C).set A.length y = _
  rw [setS_at A C x y]; rfl
theorem getS_at (A C : List Ss) (x d : Ss) : (A ++ x :: C).getD A.length d = x := by
 rw [getD_appS, if_neg (Nat.lt_irrefl _), Nat.sub_self]; rfl
theorem f38_eq (l : List Ss) (h : l.length ≤ 1000000) : f38 l = some l := by
 unfold f38
 rw [abc_eq, chk_pos (by omega)]
 ·rfl
 ·intro hl
  rw [chk_pos (by omega)]
  have : l = [] := List.length_eq_zero_iff.1 hl
  rw [this]; rfl
structure Ap (m : Mc) (q : Ss) (m' : Mc) : Prop where
 ok : McV m'
 bad : good q = false → m' = m
 old : good q = true → q.2.1 ≤ num m.2 q.1 → m' = m
 new : good q = true → q.2.1 ≤ num m'.2 q.1
 mono : ∀ c, num m.2 c ≤ num m'.2 c
end Go.Abs
namespace Go.Abs
theorem parse_both (x : List UInt8) (hx : x.length ≤ 1000) : ∃ k a b c e, f36 x = some (k, a, b, c, e) ∧ f43 x = some (k, a, b, c, e) ∧ a.length ≤ 1000 ∧ b.length ≤ 1000 ∧ c.length ≤ 1000 := by
 by_cases h : NoOp x
 ·exact ⟨_, _, _, _, _, f36_miss h (by omega), f43_miss h (by omega), by simp, by simp, by simp⟩
 ·obtain ⟨k, a, b, c, hk, rfl⟩ : ∃ k a b c, okOp k a b c = true ∧ txt k a b c = x := by
   refine Classical.byContradiction fun hn => h fun k a b c hk hx => hn ⟨k, a, b, c, hk, hx⟩
  obtain ⟨t1, t2, t3⟩ := @txt_len k a b c
  exact ⟨_, _, _, _, _, f36_hit hk (by omega), f43_hit hk (by omega), by omega, by omega, by omega⟩
theorem dig116_eq : ∀ (q n : Nat), n < 10 ^ (q + 1) → n ≤ 1000000000000000 → ∀ k, q + 1 ≤ k → f116 k (n : Int) = some (Lib.itoa (n : Int))
 | q, n, hn, hb, k, hk => by
  obtain ⟨k, rfl⟩ : ∃ z, k = z + 1 := ⟨k - 1, by omega⟩
  conv => lhs; unfold f116
  rw [Lib.itoa_nonneg]
  by_cases h : n < 10
  ·rw [ifd_pos (by omega), chk_pos (by omega), chk_pos (by omega), Lib.decDigits_one h]
   congr 3
  ·rw [ifd_neg (by omega)]
   match q, hn, hk with
   | 0, hn, _ => omega
   | q + 1, hn, hk =>
    have e1 : (n : Int) / 10 = ((n / 10 : Nat) : Int) := by omega
    have e2 : (n : Int) % 10 = ((n % 10 : Nat) : Int) := by omega
    rw [e1, e2, dig116_eq q (n / 10) (by rw [Nat.pow_succ] at hn; omega) (by omega) k (by omega), some_bind, chk_pos (by omega), chk_pos (by omega), chk_pos (by omega), chk_pos (by omega)]
    have hl := Lib.itoa_length_le ((n / 10 : Nat) : Int) (by omega) (by omega)
    rw [chk_pos (by rw [List.length_singleton]; omega), Lib.itoa_nonneg]
    conv => rhs; rw [Lib.decDigits, dif_neg h]
    congr 3
theorem dig116 {n : Int} (h0 : 0 ≤ n) (h1 : n ≤ 1000000000000000) : f116 FUEL n = some (Lib.itoa n) := by
 obtain ⟨m, rfl⟩ : ∃ m : Nat, n = m := ⟨n.toNat, by omega⟩
 exact dig116_eq 15 m (by omega) (by omega) FUEL (by unfold FUEL; omega)
theorem f145_small (n : Nat) (hn : n < 128) (k : Nat) : f145 (k + 1) (n : Int) = some [UInt8.ofNat n] := by
 conv => lhs; unfold f145
 rw [ifd_pos (by omega), chk_pos (by omega), Int.toNat_natCast]
theorem f145_len (n : Nat) (hn : n < 16384) : ∃ r, f145 FUEL (n : Int) = some r ∧ r.length ≤ 2 := by
 obtain ⟨k, hk⟩ : ∃ k, FUEL = k + 2 := ⟨FUEL - 2, by unfold FUEL; omega⟩
 rw [hk]
 by_cases h : n < 128
 ·exact ⟨_, f145_small n h (k + 1), by simp⟩
 ·conv => arg 1; intro r; lhs; lhs; unfold f145
  have e1 : (n : Int) / 128 = ((n / 128 : Nat) : Int) := by omega
  rw [ifd_neg (by omega), e1, f145_small (n / 128) (by omega) k, some_bind, chk_pos (by omega), chk_pos (by omega), chk_pos (by omega), chk_pos (by omega), chk_pos (by simp)]
  exact ⟨_, rfl, by simp⟩
theorem f115_len (x : List (List UInt8)) (hx : ∀ s, s ∈ x → s.length ≤ 200) (hl : x.length ≤ 100) (K : List UInt8 → Option (List UInt8)) : ∀ c k n s, n + c = x.length → c < k → s.length ≤ 2000000 - c * 10000 → ∃ r, f115_L0 x K k (s, n) = K r ∧ r.length ≤ s.length + c * 202
 | 0, k, n, s, hn, hk, hs => by
  obtain ⟨k, rfl⟩ : ∃ z, k = z + 1 := ⟨k - 1, by omega⟩
  obtain rfl : n = x.length := by omega
  refine ⟨s, ?_, by omega⟩
  conv => lhs; unfold f115_L0
  rw [ifd_neg (by omega)]
 | c + 1, k, n, s, hn, hk, hs => by
  obtain ⟨k, rfl⟩ : ∃ z, k = z + 1 := ⟨k - 1, by omega⟩
  have hlt : n < x.length := by omega
  have hxn : (x.getD n []).length ≤ 200 := by
   rw [List.getD_eq_getElem?_getD, List.getElem?_eq_getElem hlt]
   exact hx _ (List.getElem_mem ..)
  obtain ⟨r, hr, hr2⟩ := f145_len (x.getD n []).length (by omega)
  have hsl : (s ++ r).length = s.length + r.length := List.length_append
  have hsl2 : ((s ++ r) ++ x.getD n []).length = s.length + r.length + (x.getD n []).length := by rw [List.length_append, List.length_append]
  obtain ⟨r', h1, h2⟩ := f115_len x hx hl K c k (n + 1) ((s ++ r) ++ x.getD n []) (by omega) (by omega) (by omega)
  refine ⟨r', ?_, by omega⟩
  conv => lhs; unfold f115_L0
  rw [ifd_pos (by omega), hr, some_bind, chk_pos (by omega), chk_pos (by omega), chk_pos (by omega), chk_pos (by omega), chk_pos (by omega)]
  exact h1
theorem f115_tot (x : List (List UInt8)) (hx : ∀ s, s ∈ x → s.length ≤ 200) (hl : x.length ≤ 4) : ∃ r, f115 x = some r ∧ r.length ≤ 2000 := by
 obtain ⟨r0, h0, h02⟩ := f145_len x.length (by omega)
 unfold f115
 rw [h0, some_bind, jn_eq]
 obtain ⟨r, h1, h2⟩ := f115_len x hx (by omega) (fun s6 => some s6) x.length FUEL 0 r0 (by omega) (fuel_lt (by omega)) (by omega)
 exact ⟨r, h1, by omega⟩
theorem f74_tot (c n : Int) (op : List UInt8) (hc : 0 ≤ c ∧ c < 6) (hn : 1 ≤ n ∧ n ≤ 1000000) (hop : op.length ≤ 200) : ∃ r, f74 1 0 [(c, n, op)] = some r ∧ r.length ≤ 2000 := by
 have l1 := Lib.itoa_length_le c (by omega) (by omega)
 have l2 := Lib.itoa_length_le n (by omega) (by omega)
 obtain ⟨r, hr, hr2⟩ := f115_tot [cs12, Lib.itoa c, Lib.itoa n, op] (by
  intro s hs
  simp only [List.mem_cons, List.not_mem_nil, or_false] at hs
  rcases hs with rfl | rfl | rfl | rfl
  ·decide
  ·omega
  ·omega
  ·exact hop) (by simp)
 obtain ⟨k, hk⟩ : ∃ k, FUEL = k + 2 := ⟨FUEL - 2, by unfold FUEL; omega⟩
 have hd1 := dig116 (n := c) (by omega) (by omega)
 have hd2 := dig116 (n := n) (by omega) (by omega)
 have hL : ∀ K : List (List UInt8) → Option (List UInt8), f74_L0 [(c, n, op)] K FUEL (0, [cs12]) = K [cs12, Lib.itoa c, Lib.itoa n, op] := by
  intro K
  rw [hk]
  conv => lhs; unfold f74_L0
  rw [ifd_pos (by simp)]
  simp only [List.getD_cons_zero, List.length_cons, List.length_nil]
  rw [chk_pos (by omega), hd1, some_bind, hd2, some_bind, chk_pos (by omega), chk_pos (by omega)]
  conv => lhs; unfold f74_L0
  rw [ifd_neg (by simp)]
  rfl
 unfold f74
 rw [if_neg (by decide), if_neg (by decide), jn_eq, hL, hr]
 exact ⟨r, rfl, hr2⟩
theorem f41_eq (c n : Int) (op : List UInt8) : ∃ v, f41 1 0 [(c, n, op)] = some v ∧ (v = 0 ↔ good (c, n, op) = true) := by
 have hg : good (c, n, op) = true ↔ (0 ≤ c ∧ c < 6 ∧ 1 ≤ n ∧ n ≤ 1000000 ∧ op ≠ [] ∧ op.length ≤ 200) := by
  unfold good
  simp only [Bool.and_eq_true, decide_eq_true_eq, Bool.not_eq_true', beq_eq_false_iff_ne]
  constructor
  ·rintro ⟨⟨⟨⟨⟨h1, h2⟩, h3⟩, h4⟩, h5⟩, h6⟩
   exact ⟨h1, h2, h3, h4, h5, by omega⟩
  ·rintro ⟨h1, h2, h3, h4, h5, h6⟩
   exact ⟨⟨⟨⟨⟨h1, h2⟩, h3⟩, h4⟩, h5⟩, by omega⟩
 obtain ⟨k, hk⟩ : ∃ k, FUEL = k + 2 := ⟨FUEL - 2, by unfold FUEL; omega⟩
 have h47 : f47 [] c n op = some false := by
  unfold f47
  rw [jn_eq, hk]
  conv => lhs; unfold f47_L0
  rw [ifd_neg (by simp)]
 have h114 : ∃ v, f114 c n op = some v ∧ (v = 0 ↔ good (c, n, op) = true) := by
  unfold f114
  rw [hg]
  by_cases h1 : 0 ≤ c ∧ c < 6 ∧ 1 ≤ n ∧ n ≤ 1000000
  ·rw [if_neg (by simp; omega)]
   by_cases h2 : op = []
   ·rw [if_pos (by simp [h2])]
    exact ⟨_, rfl, by simp [h2]⟩
   ·rw [if_neg (by simpa using h2)]
    by_cases h3 : op.length ≤ 200
    ·rw [ifd_neg (by omega)]
     exact ⟨_, rfl, by simp [h1, h2, h3]⟩
    ·rw [ifd_pos (by omega)]
     exact ⟨_, rfl, by simp; omega⟩
  ·rw [if_pos (by simp; omega)]
   exact ⟨_, rfl, by simp; omega⟩
 obtain ⟨v, hv, hvg⟩ := h114
 have h73 : f73 [(c, n, op)] = some v := by
  unfold f73
  rw [jn_eq, hk]
  conv => lhs; unfold f73_L0
  rw [ifd_pos (by simp)]
  simp only [List.getD_cons_zero, List.length_cons, List.length_nil]
  rw [hv, some_bind, chk_pos (by omega)]
  by_cases h0 : v = 0
  ·subst h0
   rw [if_neg (by simp), show List.take 0 [(c, n, op)] = [] from rfl, h47, some_bind, chk_pos (by omega), chk_pos (by omega), if_neg (by simp), chk_pos (by omega)]
   conv => lhs; unfold f73_L0
   rw [ifd_neg (by simp)]
  ·rw [if_pos (by simpa using h0)]
 unfold f41
 rw [chk_pos (by simp), chk_pos (by simp), if_neg (by simp), ifd_neg (by simp), h73, some_bind]
 by_cases h0 : v = 0
 ·have := good_of (hvg.1 h0)
  simp only at this
  obtain ⟨r, hr, hr2⟩ := f74_tot c n op (by omega) (by omega) (by omega)
  rw [if_neg (by simpa using h0), hr, some_bind, ifd_neg (by omega)]
  exact ⟨0, rfl, by rw [← hvg]; simp [h0]⟩
 ·rw [if_pos (by simpa using h0)]
  exact ⟨v, rfl, hvg⟩
end Go.Abs
namespace Go.Abs
theorem f42_hit (p : List Pr) (A C : List Ss) (c n : Int) (r : List UInt8) (hlen : (A ++ (c, n, r) :: C).length ≤ 1000000) (hA : ∀ a, a ∈ A → a.1 < c) (hC : ∀ b, b ∈ C → c < b.1) : f42 p (A ++ (c, n, r) :: C) c = some (c, n, r, true) := by
 have hla : (A ++ (c, n, r) :: C).length = A.length + C.length + 1 := by simp; omega
 unfold f42
 rw [jn_eq]
 rcases find_up (fun q i => f42_L0 (A ++ (c, n, r) :: C) c (fun _ => some (0, 0, [], false)) q i) (A ++ (c, n, r) :: C) (default : Ss) (fun x => x.1 == c) (fun i => some ((((A ++ (c, n, r) :: C).getD i (default : Ss)).1), (((A ++ (c, n, r) :: C).getD i (default : Ss)).2.1), (((A ++ (c, n, r) :: C).getD i (default : Ss)).2.2), true)) (some (0, 0, [], false)) (fun q i hi => by
   show f42_L0 _ _ _ (q + 1) i = _
   conv => lhs; unfold f42_L0
   rw [ifd_pos (by omega), chk_pos (by omega), chk_pos (by omega), chk_pos (by omega)]) (fun q => by
   show f42_L0 _ _ _ (q + 1) _ = _
   conv => lhs; unfold f42_L0
   rw [ifd_neg (by omega)]) (A ++ (c, n, r) :: C).length FUEL 0 (by omega) (fuel_lt (by omega)) with ⟨m, h1, h2, h3, h4, h5⟩ | ⟨h4, h5⟩
 ·rw [h4]
  have hm : m = A.length := by
   rw [getD_appS] at h3
   by_cases e : m < A.length
   ·rw [if_pos e] at h3
    have := hA _ (getD_mem A m (default : Ss) e)
    have h6 : (A.getD m (default : Ss)).1 = c := beq_iff_eq.1 h3
    omega
   ·rw [if_neg e] at h3
    by_cases e2 : m = A.length
    ·exact e2
    ·obtain ⟨z, hz⟩ : ∃ z, m - A.length = z + 1 := ⟨m - A.length - 1, by omega⟩
     rw [hz, List.getD_cons_succ] at h3
     have := hC _ (getD_mem C z (default : Ss) (by omega))
     have h6 : (C.getD z (default : Ss)).1 = c := beq_iff_eq.1 h3
     omega
  rw [hm, getS_at]
 ·exfalso
  rw [List.drop_zero] at h5
  have := List.any_eq_false.1 h5 (c, n, r) (by simp)
  simp at this
theorem f42_miss (p : List Pr) (l : List Ss) (c : Int) (hlen : l.length ≤ 1000000) (h : ∀ a, a ∈ l → (a.1 == c) = false) : f42 p l c = some (0, 0, [], false) := by
 unfold f42
 rw [jn_eq, any_up (fun q i => f42_L0 l c (fun _ => some (0, 0, [], false)) q i) l (default : Ss) (fun _ => false) none (some (0, 0, [], false)) (fun q i hi => by
   show f42_L0 _ _ _ (q + 1) i = _
   conv => lhs; unfold f42_L0
   rw [ifd_pos (by omega), chk_pos (by omega), h _ (getD_mem _ _ _ hi), if_neg (by simp), chk_pos (by omega), if_neg (by simp)]) (fun q => by
   show f42_L0 _ _ _ (q + 1) _ = _
   conv => lhs; unfold f42_L0
   rw [ifd_neg (by omega)]) FUEL (fuel_lt (by omega))]
 simp
abbrev RApp := Option (List Pr × List Ss × List UInt8)
theorem f15_L0_eq (x : List Ss) (c : Int) (K : List Ss → RApp) (hl : x.length ≤ 1000) (F : Nat) (hF : x.length < F) : f15_L0 x c K F (0, []) = K (x.foldl (fun s a => if a.1 < c then s ++ [a] else s) []) := by
 have := fold_up (f15_L0 x c K) x default (fun n s => s.length ≤ n) (fun s a => if a.1 < c then s ++ [a] else s) K (fun k n s hn hi => by
  conv => lhs; unfold f15_L0
  rw [ifd_pos (by omega), jn_eq, chk_pos (by omega)]
  by_cases h : (x.getD n (default : Ss)).1 < c
  ·rw [ifd_pos h, if_pos h, chk_pos (by omega), chk_pos (by omega)]
   simp only []
   rw [chk_pos (by omega)]
  ·rw [ifd_neg h, if_neg h]
   simp only []
   rw [chk_pos (by omega)]) (fun n s hn hi => by
  split
  ·simp; omega
  ·omega) (fun k s _ => by
  conv => lhs; unfold f15_L0
  rw [ifd_neg (by omega)]) x.length F 0 [] (by omega) hF (Nat.le_refl _)
 rw [List.drop_zero] at this
 exact this
theorem f15_L1_eq (x : List Ss) (c : Int) (K : List Ss → RApp) (hl : x.length ≤ 1000) (s0 : List Ss) (hs : s0.length ≤ 1000) (F : Nat) (hF : x.length < F) : f15_L1 x c K F (0, s0) = K (x.foldl (fun s a => if a.1 > c then s ++ [a] else s) s0) := by
 have := fold_up (f15_L1 x c K) x default (fun n s => s.length ≤ n + 1000) (fun s a => if a.1 > c then s ++ [a] else s) K (fun k n s hn hi => by
  conv => lhs; unfold f15_L1
  rw [ifd_pos (by omega), jn_eq, chk_pos (by omega)]
  by_cases h : (x.getD n (default : Ss)).1 > c
  ·rw [ifd_pos h, if_pos h, chk_pos (by omega), chk_pos (by omega)]
   simp only []
   rw [chk_pos (by omega)]
  ·rw [ifd_neg h, if_neg h]
   simp only []
   rw [chk_pos (by omega)]) (fun n s hn hi => by
  split
  ·simp; omega
  ·omega) (fun k s _ => by
  conv => lhs; unfold f15_L1
  rw [ifd_neg (by omega)]) x.length F 0 s0 (by omega) hF (by omega)
 rw [List.drop_zero] at this
 exact this
theorem fl_keep (p : Ss → Prop) [DecidablePred p] : ∀ (A s : List Ss), (∀ a, a ∈ A → p a) → A.foldl (fun s a => if p a then s ++ [a] else s) s = s ++ A
 | [], s, _ => by simp
 | a :: A, s, h => by
  rw [List.foldl_cons, if_pos (h a (List.mem_cons_self ..)), fl_keep p A _ fun x hx => h x (List.mem_cons_of_mem _ hx)]
  simp
theorem fl_drop (p : Ss → Prop) [DecidablePred p] : ∀ (A s : List Ss), (∀ a, a ∈ A → ¬ p a) → A.foldl (fun s a => if p a then s ++ [a] else s) s = s
 | [], s, _ => rfl
 | a :: A, s, h => by
  rw [List.foldl_cons, if_neg (h a (List.mem_cons_self ..)), fl_drop p A _ fun x hx => h x (List.mem_cons_of_mem _ hx)]
theorem spec_ses (A C : List Ss) (mid : List Ss) (c n : Int) (s : List UInt8) (hmid : ∀ a, a ∈ mid → a.1 = c) (hA : ∀ a, a ∈ A → a.1 < c) (hC : ∀ b, b ∈ C → c < b.1) :
  ((A ++ mid ++ C).foldl (fun s a => if a.1 > c then s ++ [a] else s) (((A ++ mid ++ C).foldl (fun s a => if a.1 < c then s ++ [a] else s) []) ++ [(c, n, s)])) = A ++ (c, n, s) :: C := by
 have e1 : (A ++ mid ++ C).foldl (fun s a => if a.1 < c then s ++ [a] else s) [] = A := by
  rw [List.foldl_append, List.foldl_append, fl_keep (fun a : Ss => a.1 < c) A [] hA, fl_drop (fun a : Ss => a.1 < c) mid _ (fun a ha => by have := hmid a ha; omega), fl_drop (fun a : Ss => a.1 < c) C _ (fun a ha => by have := hC a ha; omega)]
  simp
 rw [e1, List.foldl_append, List.foldl_append, fl_drop (fun a : Ss => a.1 > c) A _ (fun a ha => by have := hA a ha; omega), fl_drop (fun a : Ss => a.1 > c) mid _ (fun a ha => by have := hmid a ha; omega), fl_keep (fun a : Ss => a.1 > c) C _ (fun a ha => by have := hC a ha; omega)]
 simp
theorem pars_both (l1 : List Pr) (op : List UInt8) (hop : op.length ≤ 200) (hst : StV l1) : ∃ s l1', StV l1' ∧
  (∀ K : List UInt8 × List Pr → RApp, ((f36 op).bind fun (r8 : Tq3) =>
   if (r8.2.2.2.2 == (0 : Int)) = true then (f37 l1 r8.1 r8.2.1 r8.2.2.1 r8.2.2.2.1).bind fun (r9 : List Pr × List UInt8) => K (r9.2, r9.1) else K (cs3, l1)) = K (s, l1')) ∧
  (∀ K : List UInt8 × List Pr → RApp, ((f43 op).bind fun (r8 : Tq3) =>
   if (r8.2.2.2.2 == (0 : Int)) = true then (f44 l1 r8.1 r8.2.1 r8.2.2.1 r8.2.2.2.1).bind fun (r9 : List UInt8 × List Pr) => K (r9.1, r9.2) else K (cs3, l1)) = K (s, l1')) := by
 obtain ⟨k, a, b, d, e, hp, hp2, ha, hb, hd⟩ := parse_both op (by omega)
 obtain ⟨l', hx⟩ := exec l1 k a b d hst (by omega) (by omega) (by omega)
 rw [hp, hp2]
 cases he : e == 0
 ·refine ⟨cs3, l1, hst, fun K => ?_, fun K => ?_⟩
  ·show (if (e == 0) = true then (f37 l1 k a b d).bind (fun r9 => K (r9.2, r9.1)) else K (cs3, l1)) = _
   rw [he]; rfl
  ·show (if (e == 0) = true then (f44 l1 k a b d).bind (fun r9 => K (r9.1, r9.2)) else K (cs3, l1)) = _
   rw [he]; rfl
 ·refine ⟨(R (ent l1 a) l1.length k a b d).1, l', hx.ok, fun K => ?_, fun K => ?_⟩
  ·show (if (e == 0) = true then (f37 l1 k a b d).bind (fun r9 => K (r9.2, r9.1)) else K (cs3, l1)) = _
   rw [he, if_pos rfl, hx.prog]; rfl
  ·show (if (e == 0) = true then (f44 l1 k a b d).bind (fun r9 => K (r9.1, r9.2)) else K (cs3, l1)) = _
   rw [he, if_pos rfl, hx.spec]; rfl
theorem spec_bad (l1 : List Pr) (l2 : List Ss) (c n : Int) (op : List UInt8) (hg : good (c, n, op) = false) : f15 l1 l2 c n op = some (l1, l2, cs1) := by
 obtain ⟨v, hv, hvg⟩ := f41_eq c n op
 have h0 : v ≠ 0 := fun h => Bool.noConfusion (hg.symm.trans (hvg.1 h))
 unfold f15
 rw [hv, some_bind, if_pos (by simpa using h0)]
theorem spec_good (l1 : List Pr) (l2 A mid C : List Ss) (c n : Int) (op : List UInt8) (hg : good (c, n, op) = true) (hl2 : l2 = A ++ mid ++ C) (hl6 : l2.length ≤ 6) (hmid : ∀ a, a ∈ mid → a.1 = c) (hA : ∀ a, a ∈ A → a.1 < c) (hC : ∀ b, b ∈ C → c < b.1)
  (x n' : Int) (r' : List UInt8) (has : Bool) (hf : f42 l1 l2 c = some (x, n', r', has)) (s : List UInt8) (l1' : List Pr)
  (hK : ∀ K : List UInt8 × List Pr → RApp, ((f43 op).bind fun (r8 : Tq3) =>
   if (r8.2.2.2.2 == (0 : Int)) = true then (f44 l1 r8.1 r8.2.1 r8.2.2.1 r8.2.2.2.1).bind fun (r9 : List UInt8 × List Pr) => K (r9.1, r9.2) else K (cs3, l1)) = K (s, l1')) :
  f15 l1 l2 c n op = if (has && decide (n' > n)) = true then some (l1, l2, cs2) else if (has && (n' == n)) = true then some (l1, l2, r') else some (l1', A ++ (c, n, s) :: C, s) := by
 obtain ⟨v, hv, hvg⟩ := f41_eq c n op
 have h0 : v = 0 := hvg.2 hg
 subst h0
 unfold f15
 have hF : 1000 < FUEL := fuel_lt (by omega)
 generalize FUEL = F at hF
 rw [hv, some_bind, if_neg (by simp), hf, some_bind]
 simp only []
 split
 ·rfl
 split
 ·rfl
 have hj : ∀ (J : List UInt8 × List Pr → RApp), ((f43 op).bind fun (r8 : Tq3) => jn J fun K1 =>
   if (r8.2.2.2.2 == (0 : Int)) = true then (f44 l1 r8.1 r8.2.1 r8.2.2.1 r8.2.2.2.1).bind fun (r9 : List UInt8 × List Pr) => K1 (r9.1, r9.2) else K1 (cs3, l1)) = J (s, l1') := hK
 rw [hj]
 simp only []
 rw [jn_eq, f15_L0_eq l2 c _ (by omega) F (by omega)]
 have hle : ((l2.foldl (fun s a => if a.1 < c then s ++ [a] else s) []).length) ≤ 6 := by
  rw [hl2, List.foldl_append, List.foldl_append, fl_keep (fun a : Ss => a.1 < c) A [] hA, fl_drop (fun a : Ss => a.1 < c) mid _ (fun a ha => by have := hmid a ha; omega), fl_drop (fun a : Ss => a.1 < c) C _ (fun a ha => by have := hC a ha; omega)]
  rw [hl2, List.length_append, List.length_append] at hl6
  simp; omega
 rw [chk_pos (by omega), jn_eq, f15_L1_eq l2 c _ (by omega) _ (by simp; omega) F (by omega), hl2, spec_ses A C mid c n s hmid hA hC]
end Go.Abs
namespace Go.Abs
theorem apply_both (m : Mc) (q : Ss) (hm : McV m) : ∃ m' s, f11 m.1 m.2 q.1 q.2.1 q.2.2 = some (m'.1, m'.2, s) ∧ f15 m.1 m.2 q.1 q.2.1 q.2.2 = some (m'.1, m'.2, s) ∧ Ap m q m' := by
 obtain ⟨l1, l2⟩ := m
 obtain ⟨c, n, op⟩ := q
 obtain ⟨hst, hse⟩ := hm
 simp only at hst hse ⊢
 have hgd : (((!((((decide (c ≥ 0)) && (decide (c < 6))) && (decide (n ≥ 1))) && (decide (n ≤ 1000000)))) || (op == [])) || decide (((op.length : Nat) : Int) > 200)) = !good (c, n, op) := by
  unfold good
  simp only
  have e : decide (((op.length : Nat) : Int) > 200) = !decide (((op.length : Nat) : Int) ≤ 200) := by
   by_cases h : ((op.length : Nat) : Int) ≤ 200
   ·simp [h] <;> omega
   ·simp [h] <;> omega
  rw [e]
  cases (((decide (c ≥ 0)) && (decide (c < 6))) && (decide (n ≥ 1))) && (decide (n ≤ 1000000)) <;> cases op == [] <;> cases decide (((op.length : Nat) : Int) ≤ 200) <;> rfl
 unfold f11 f34
 rw [some_bind, hgd]
 cases hg : good (c, n, op)
 ·refine ⟨(l1, l2), cs1, by simp, spec_bad l1 l2 c n op hg, ⟨⟨hst, hse⟩, fun _ => rfl, fun h => Bool.noConfusion (hg.symm.trans h), fun h => Bool.noConfusion (hg.symm.trans h), fun _ => Int.le_refl _⟩⟩
 obtain ⟨c0, c6, n1, n2, hop⟩ := good_of hg
 simp only at c0 c6 n1 n2 hop
 have hl6 := hse.len
 rw [if_neg (by simp)]
 obtain ⟨s, l1', hv', hK, hK2⟩ := pars_both l1 op hop hst
 simp only [hK]
 cases sview l2 c hse.srt with
 | hit A C n' r' e hA hC =>
  subst e
  have hf := f35_eq A ((c, n', r') :: C) c ⟨c0, c6⟩ hse.rng (by omega) hA (fun b hb => by
   rcases List.mem_cons.1 hb with rfl | hb
   ·simp
   ·have := hC b hb; omega)
  have hf' : f35 (A ++ (c, n', r') :: C) c = some ((A.length : Int), true) := by rw [hf]; simp
  have hla : (A ++ (c, n', r') :: C).length = A.length + C.length + 1 := by simp; omega
  have hnum := num_hit (n := n') (r := r') (C := C) hA
  have hsp := spec_good l1 (A ++ (c, n', r') :: C) A [(c, n', r')] C c n op hg (by simp) hl6 (fun a ha => by rw [List.mem_singleton.1 ha]) hA hC c n' r' true (f42_hit l1 A C c n' r' (by omega) hA hC) s l1' hK2
  simp only [Bool.true_and] at hsp
  rw [hf', some_bind]
  simp only [Int.toNat_natCast, getS_at, Bool.true_and]
  rw [chk_pos (fun _ => by rw [hla]; omega)]
  by_cases h1 : n' > n
  ·rw [ifd_pos h1]
   rw [ifd_pos h1] at hsp
   exact ⟨(l1, A ++ (c, n', r') :: C), _, rfl, hsp, ⟨⟨hst, hse⟩, fun _ => rfl, fun _ _ => rfl, fun _ => (by simp only; rw [hnum]; omega), fun _ => Int.le_refl _⟩⟩
  rw [ifd_neg h1, chk_pos (fun _ => by rw [hla]; omega)]
  rw [ifd_neg h1] at hsp
  by_cases h2 : n' = n
  ·have e2 : (n' == n) = true := by simp [h2]
   rw [e2, if_pos rfl, chk_pos (by rw [hla]; omega)]
   rw [e2, if_pos rfl] at hsp
   exact ⟨(l1, A ++ (c, n', r') :: C), _, rfl, hsp, ⟨⟨hst, hse⟩, fun _ => rfl, fun _ _ => rfl, fun _ => (by simp only; rw [hnum]; omega), fun _ => Int.le_refl _⟩⟩
  ·have e2 : (n' == n) = false := by simp [h2]
   rw [e2, if_neg (by simp), jn_eq]
   rw [e2, if_neg (by simp)] at hsp
   refine ⟨(l1', A ++ (c, n, s) :: C), s, ?_, hsp, ⟨⟨hv', ses_set hse⟩, fun h => Bool.noConfusion (hg.symm.trans h), fun _ h => (by simp only at h; rw [hnum] at h; omega), fun _ => (by simp only; rw [num_hit hA]; exact Int.le_refl _), fun c' => ?_⟩⟩
   ·simp only []
    rw [f38_eq _ (by omega), some_bind, jn_eq, if_pos (by simp), chk_pos (by rw [hla]; omega), chk_pos (by rw [hla]; omega), setS_at]
   ·simp only
    by_cases hc : c' = c
    ·rw [hc, hnum, num_hit hA]; omega
    ·rw [num_other hc, num_other hc]; exact Int.le_refl _
 | miss A C e hA hC =>
  subst e
  have hf := f35_eq A C c ⟨c0, c6⟩ hse.rng (by omega) hA (fun b hb => by have := hC b hb; omega)
  have hf' : f35 (A ++ C) c = some ((A.length : Int), false) := by
   rw [hf]
   cases C with
   | nil => simp
   | cons b C =>
    have := hC b (List.mem_cons_self ..)
    have e : (b.1 == c) = false := by simp; omega
    simp [e]
  have hnum := num_miss hA hC
  have hsp := spec_good l1 (A ++ C) A [] C c n op hg (by simp) hl6 (fun a ha => (List.not_mem_nil ha).elim) hA hC 0 0 [] false (f42_miss l1 (A ++ C) c (by omega) (fun a ha => beq_eq_false_iff_ne.2 (by rcases List.mem_append.1 ha with ha | ha; have := hA a ha; omega; have := hC a ha; omega))) s l1' hK2
  rw [Bool.false_and, Bool.false_and, if_neg (by simp), if_neg (by simp)] at hsp
  rw [hf', some_bind]
  simp only [Bool.false_and, Bool.false_eq_true, if_false]
  rw [chk_pos (fun h => by cases h), chk_pos (fun h => by cases h), jn_eq]
  have e16 : f39 (A.length : Int) (A ++ C) [(c, n, s)] = some (A ++ (c, n, s) :: C, [(c, n, s)]) := by
   unfold f39
   by_cases hc : A.length < (A ++ C).length
   ·rw [if_pos ⟨by omega, by rw [Int.toNat_natCast]; exact hc, by simp, by simp; simp at hl6; omega⟩, Int.toNat_natCast]
    simp
   ·have : C = [] := by
     cases C with
     | nil => rfl
     | cons b C => simp at hc
    subst this
    rw [if_neg (by rw [Int.toNat_natCast]; omega)]
    unfold f39e
    rw [List.append_nil, chk_pos (by omega), if_neg (by simp), if_pos (by simp), chk_pos (by simp; simp at hl6; omega)]
  refine ⟨(l1', A ++ (c, n, s) :: C), s, ?_, hsp, ⟨⟨hv', ses_ins hse ⟨c0, c6⟩ hA hC⟩, fun h => Bool.noConfusion (hg.symm.trans h), fun _ h => (by simp only at h; rw [hnum] at h; omega), fun _ => (by simp only; rw [num_hit hA]; exact Int.le_refl _), fun c' => ?_⟩⟩
  ·simp only []
   rw [f38_eq _ (by omega), some_bind, jn_eq, e16, some_bind]
  ·simp only
   by_cases hc : c' = c
   ·rw [hc, num_hit hA, hnum]; omega
   ·rw [num_other hc]; exact Int.le_refl _
end Go.Abs
namespace Go.Abs
open Go Go.RowKit Go.ChangeShapes Go.WideShapes Go.ChangeAt Go.Deep
section
variable {P : Program} {W : World} {t e : TypeId} {base : Nat} {v : Value}
end
def okR (x : Tq1) : Prop := (-9223372036854775808 ≤ x.1 ∧ x.1 ≤ 9223372036854775807) ∧ (-9223372036854775808 ≤ x.2.1 ∧ x.2.1 ≤ 9223372036854775807) ∧ x.2.2.length ≤ 9223372036854775807
theorem mkR {W : World} (cs : List Value) (_h : cs.length = [false, false, true].length) (hf : ∀ i, i < [false, false, true].length → fldV ([false, false, true].getD i true) (cs.getD i undef)) :
  ∃ a : Tq1, okR a ∧ ∀ i, i < [false, false, true].length → Rel (allSt W) W noGh (([.int .i64 a.1, .int .i64 a.2.1, .str a.2.2] : List V).getD i .any) (cs.getD i undef) := by
 obtain ⟨n, h0, b0⟩ := hf 0 (by decide)
 obtain ⟨m, h1, b1⟩ := hf 1 (by decide)
 obtain ⟨s, h2, b2⟩ := hf 2 (by decide)
 refine ⟨(n, m, s.data.toList), ⟨b0, b1, ?_⟩, fun i hi => ?_⟩
 ·exact b2
 ·match i, hi with
  | 0, _ => rw [h0]; exact .int _ _ _
  | 1, _ => rw [h1]; exact .int _ _ _
  | 2, _ => rw [h2]; exact .str _ _ _ rfl
end Go.Abs
namespace Go.Abs
def stpR (m : Mc) (q : Ss) : Mc := let t := (f15 m.1 m.2 q.1 q.2.1 q.2.2).getD ([], [], []); (t.1, t.2.1)
theorem stpR_ex {m : Mc} (q : Ss) (hm : McV m) : ∃ s, f11 m.1 m.2 q.1 q.2.1 q.2.2 = some ((stpR m q).1, (stpR m q).2, s) ∧ f15 m.1 m.2 q.1 q.2.1 q.2.2 = some ((stpR m q).1, (stpR m q).2, s) ∧ Ap m q (stpR m q) := by
 obtain ⟨m', s, h1, h2, ha⟩ := apply_both m q hm
 have e : stpR m q = m' := by
  unfold stpR
  rw [h2]; rfl
 rw [e]
 exact ⟨s, h1, h2, ha⟩
def mchR (x : List Ss) (n : Nat) : Mc := (x.take n).foldl stpR ([], [])
theorem mchR_succ {x : List Ss} {n : Nat} (h : n < x.length) : mchR x (n + 1) = stpR (mchR x n) (x.getD n default) := by
 unfold mchR
 have e : x[n]? = some (x.getD n default) := by simp [List.getD_eq_getElem?_getD, h]
 rw [List.take_add_one, List.foldl_append, e]
 rfl
theorem mchR_ok (x : List Ss) : ∀ n, n ≤ x.length → McV (mchR x n)
 | 0, _ => ⟨StV.nil, SesV.nil⟩
 | n + 1, h => by
  rw [mchR_succ (by omega)]
  obtain ⟨_, _, _, ha⟩ := stpR_ex (x.getD n default) (mchR_ok x n (by omega))
  exact ha.ok
theorem f13_L0_eq (x : List Ss) (hl : x.length ≤ 1000) (K : List Pr × List Ss → Option (List Pr × List Ss)) : ∀ c k n, n + c = x.length → c < k → f13_L0 x K k (n, (mchR x n).1, (mchR x n).2) = K ((mchR x x.length).1, (mchR x x.length).2)
 | 0, k, n, hn, hk => by
  obtain ⟨k, rfl⟩ : ∃ z, k = z + 1 := ⟨k - 1, by omega⟩
  obtain rfl : n = x.length := by omega
  conv => lhs; unfold f13_L0
  rw [ifd_neg (by omega)]
 | c + 1, k, n, hn, hk => by
  obtain ⟨k, rfl⟩ : ∃ z, k = z + 1 := ⟨k - 1, by omega⟩
  have hlt : n < x.length := by omega
  obtain ⟨s, _, hs, _⟩ := stpR_ex (x.getD n default) (mchR_ok x n (by omega))
  conv => lhs; unfold f13_L0
  rw [ifd_pos (by omega), hs, some_bind, chk_pos (by omega), chk_pos (by omega), ← mchR_succ hlt]
  exact f13_L0_eq x hl K c k (n + 1) (by omega) (by omega)
theorem f13_eq (x : List Ss) (hl : x.length ≤ 1000) : f13 x = some ((mchR x x.length).1, (mchR x x.length).2) := by
 have h := fun K F (hF : x.length < F) => f13_L0_eq x hl K x.length F 0 (by omega) hF
 have e0 : mchR x 0 = ([], []) := rfl
 rw [e0] at h
 unfold f13 jn
 exact (h _ FUEL (fuel_lt (by omega))).trans rfl
theorem f12_own (m : Mc) (hm : McV m) : f12 m.1 m.2 = some (m.1, m.2) := by
 have h1 := hm.st.len
 have h2 := hm.se.len
 unfold f12
 rw [f40_eq _ (by omega), some_bind, f38_eq _ (by omega), some_bind]
theorem f20_refl (l : List Pr) (h : l.length ≤ 1000000) : f20 l l = some true := by
 unfold f20
 rw [if_neg (by simp), jn_eq, any_up (fun q i => f20_L0 l l (fun _ => some true) q i) l (default : Pr) (fun _ => false) none (some true) (fun q i hi => by
   show f20_L0 _ _ _ (q + 1) i = _
   conv => lhs; unfold f20_L0
   rw [ifd_pos (by omega), chk_pos (by omega), chk_pos (by omega), if_neg (by simp), chk_pos (by omega)]
   rfl) (fun q => by
   show f20_L0 _ _ _ (q + 1) _ = _
   conv => lhs; unfold f20_L0
   rw [ifd_neg (by omega)]) FUEL (fuel_lt (by omega))]
 simp
theorem f14_refl (a : List Pr) (l : List Ss) (ha : a.length ≤ 1000000) (h : l.length ≤ 1000000) : f14 a l a l = some true := by
 unfold f14
 rw [if_neg (by simp), jn_eq, f20_refl a ha, some_bind, any_up (fun q i => f14_L0 l l (fun _ => some true) q i) l (default : Ss) (fun _ => false) none (some true) (fun q i hi => by
   show f14_L0 _ _ _ (q + 1) i = _
   conv => lhs; unfold f14_L0
   rw [ifd_pos (by omega), chk_pos (by omega), chk_pos (by omega), if_neg (by simp), chk_pos (by omega)]
   rfl) (fun q => by
   show f14_L0 _ _ _ (q + 1) _ = _
   conv => lhs; unfold f14_L0
   rw [ifd_neg (by omega)]) FUEL (fuel_lt (by omega))]
 simp
theorem f10_some (x : List Ss) (hl : x.length ≤ 9223372036854775807) : ∃ r, f10 x = some r ∧ (r = true → x.length ≤ 30) := by
 unfold f10
 rw [jn_eq, any_up (fun q i => f10_L0 x (fun _ => some (decide (((x.length : Nat) : Int) ≤ 30))) q i) x (default : Ss) (fun p => decide (((p.2.2.length : Nat) : Int) > 300)) (some false) (some (decide (((x.length : Nat) : Int) ≤ 30))) (fun q i hi => by
   show f10_L0 _ _ (q + 1) i = _
   conv => lhs; unfold f10_L0
   rw [ifd_pos (by omega), chk_pos (by omega), chk_pos (by omega)]) (fun q => by
   show f10_L0 _ _ (q + 1) _ = _
   conv => lhs; unfold f10_L0
   rw [ifd_neg (by omega)]) FUEL (fuel_lt (by omega))]
 split
 ·exact ⟨_, rfl, fun h => by cases h⟩
 ·exact ⟨_, rfl, fun h => by simp only [decide_eq_true_eq] at h; omega⟩
end Go.Abs
namespace Go.Abs
open Go Go.RowKit Go.Lib Go.Shelf Go.Proofs
def errG : V := .elem 1 1 (fun _ _ => .ifc true) 0 0
theorem errG_cell {St : Nat → Prop} {w : World} {g : Gh} {G : Nat} (h : Rel St w g errG (.pointer (some ⟨G, 0, none⟩))) : ∃ t v, w.cell? ⟨G, 0, none⟩ = some (.iface t v) := by
 unfold errG at h
 generalize hp : Value.pointer (some ⟨G, 0, none⟩) = p at h
 cases h with
 | elem _ _ _ _ _ _ b o x hi hs hc h1 hr =>
  have e1 := hc 0 0 (by omega) (by omega)
  have e2 := hr 0 0 (by omega) (by omega)
  simp only [Value.pointer.injEq, Option.some.injEq, Addr.mk.injEq] at hp
  obtain ⟨rfl, hp, _⟩ := hp
  have e3 : o + 0 * 1 + 0 = 0 := hp.symm
  rw [e3] at e1
  cases e2 with
  | ifc _ _ _ hx =>
   obtain ⟨t, v, hx⟩ := hx
   exact ⟨t, v, e1.trans (congrArg some hx)⟩
def atoiO (s : List UInt8) : Option (Int × Bool) :=
 if s.length ≤ 281474976710656 then
  match Lib.atoiAll s with
  | .ok v => some (v, false)
  | .range => some (Lib.atoiSat s, true)
  | _ => some (0, true)
 else none
theorem atoi_spec {P : Program} {ρ : Ren} (L : LaysC.n172 P ρ) {f : FuncId} (hf : ρ.f 172 = f) {g1 g2 : Nat} (hg1 : ρ.g 15 = g1) (hg2 : ρ.g 16 = g2)
  (s : List UInt8) (r : Int × Bool) (hr : atoiO s = some r) : Spec1 P f [(g1, errG), (g2, errG)] [] [] [.str s] (.tup [.int .i64 r.1, .ifc r.2]) [] := by
 subst hf hg1 hg2
 unfold atoiO at hr
 split at hr
 case isFalse => cases hr
 rename_i hn
 intro z vals hW hl hv hgs
 have e0 := hv 0 (by simp)
 simp only [List.getD_cons_zero] at e0
 obtain ⟨b, hs1, hs2⟩ := e0.str_inv
 have hv' : vals = #[vals.getD 0 undef] := by
  apply Array.ext
  ·simpa using hl
  ·intro i h1 h2
   have : i = 0 := by simp at h2; omega
   subst this; simp [h1]
 rw [hv', hs1]
 have hsz : b.size = s.length := by rw [← hs2]; simp
 obtain ⟨t1, v1, hc1⟩ := errG_cell (hgs (ρ.g 15, errG) (by simp))
 obtain ⟨t2, v2, hc2⟩ := errG_cell (hgs (ρ.g 16, errG) (by simp))
 cases hq : Lib.atoiAll s with
 | ok v =>
  rw [hq] at hr
  cases hr
  refine (Any.strconv_Atoi_ok L b (by omega) v (by rw [hs2]; exact hq) z.w).mono ?_
  rintro e w' ⟨rfl, hw⟩
  have hb : Go.RowKit.Below z.w.heap.size z.w w' := by
   rcases hw with rfl | ⟨t, rfl⟩
   ·exact Below.refl _ _
   ·exact Lib.bytesWorld_below _ _ _
  refine ⟨_, _, _, z.St, _, rfl, ⟨rfl, rfl⟩, hW.below hb, .tup _ _ _ rfl fun i hi => ?_, fun k hk => by cases hk⟩
  match i, hi with
  | 0, _ => exact .int _ _ _
  | 1, _ => exact .ifc _ _ _ rfl
 | range =>
  rw [hq] at hr
  cases hr
  refine (Any.strconv_Atoi_range L b (by omega) (by rw [hs2]; exact hq) _ z.w hc2 (.inr ⟨_, _, rfl⟩)).mono ?_
  rintro e w' ⟨N, rfl, _, _, hb⟩
  refine ⟨_, _, _, z.St, _, rfl, ⟨rfl, rfl⟩, hW.below hb, .tup _ _ _ rfl fun i hi => ?_, fun k hk => by cases hk⟩
  match i, hi with
  | 0, _ => rw [hs2]; exact .int _ _ _
  | 1, _ => exact .ifc _ _ _ ⟨_, _, rfl⟩
 | _ =>
  rw [hq] at hr
  cases hr
  refine (Any.strconv_Atoi_syntax L b (by omega) (by rw [hs2]; exact hq) _ z.w hc1 (.inr ⟨_, _, rfl⟩)).mono ?_
  rintro e w' ⟨N, rfl, _, _, hb⟩
  refine ⟨_, _, _, z.St, _, rfl, ⟨rfl, rfl⟩, hW.below hb, .tup _ _ _ rfl fun i hi => ?_, fun k hk => by cases hk⟩
  match i, hi with
  | 0, _ => exact .int _ _ _
  | 1, _ => exact .ifc _ _ _ ⟨_, _, rfl⟩
end Go.Abs
namespace Go.Abs
open Go Go.RowKit
end Go.Abs
namespace Go.Abs
open Go Go.Proofs
set_option maxRecDepth 100000
set_option maxHeartbeats 4000000
abbrev q2aIIS (l : List Tq1) : V := vL 3 eIIS (default : Tq1) l
abbrev q2bIIS_24 (l : List Tq1) : Blk := bL 24 3 eIIS (default : Tq1) l
abbrev q2dIIS : Int × Int × List UInt8 := default
abbrev q2bS_9 (l : List (List UInt8)) : Blk := bL 9 1 eS [] l
theorem q2rq {Q : Exit → S → Prop} {id : Nat} {draw : Bool} {y : Code} (W : List Nat) (calls : List (Nat × CC)) (ds rs : List Nat) {l : List Oper} {s : S} (s' : S) {φ : Prop} (hφ : φ) (hQ : AWp Tryz.prog y Q s') (h : Abs.regC Tryz.prog W draw calls ds rs l s = some (s', φ) := by kernel_rfl) : AWp Tryz.prog (.seq (.region id l.toArray draw) y) Q s := AWp.sq W calls ds rs s' φ Tryz_mixed h hφ hQ
theorem q2rr {Q : Exit → S → Prop} {id : Nat} {draw : Bool} (W : List Nat) (calls : List (Nat × CC)) (ds rs : List Nat) {l : List Oper} {s : S} (s' : S) {φ : Prop} (hφ : φ) (hQ : Q .normal s') (h : Abs.regC Tryz.prog W draw calls ds rs l s = some (s', φ) := by kernel_rfl) : AWp Tryz.prog (.region id l.toArray draw) Q s := AWp.regC W calls ds rs s' φ Tryz_mixed h hφ hQ
def f118 (x1 : List UInt8) (x2 : Int) : Option (Int × Int) :=
 if (x1 == []) then (
 some ((0 : Int), (0 : Int))
 ) else (
 chk ((0 : Int) < ((x1.length : Nat) : Int)) <|
 chk ((((x1.getD 0 0).toNat : Nat) : Int) ≤ 9223372036854775807) <|
 jn (fun ((i3, n4) : Int × Nat) =>
 if (decide (i3 > x2)) then (
 some ((0 : Int), (0 : Int))
 ) else (
 some (i3, (n4 : Int))
 )
 ) fun (K1 : (Int × Nat) → Option (Int × Int)) =>
 if (decide ((((x1.getD 0 0).toNat : Nat) : Int) ≥ (128 : Int))) then (
 chk (((decide (((x1.length : Nat) : Int) < (2 : Int))) == false) = true → 0 ≤ (1 : Int) ∧ (1 : Int) < ((x1.length : Nat) : Int)) <|
 chk ((((decide (((x1.length : Nat) : Int) < (2 : Int))) || ((((x1.getD 1 0).toNat : Nat) : Int) == (0 : Int))) == false) = true → 0 ≤ (1 : Int) ∧ (1 : Int) < ((x1.length : Nat) : Int)) <|
 if (((decide (((x1.length : Nat) : Int) < (2 : Int))) || ((((x1.getD 1 0).toNat : Nat) : Int) == (0 : Int))) || (decide ((((x1.getD 1 0).toNat : Nat) : Int) ≥ (128 : Int)))) then (
 some ((0 : Int), (0 : Int))
 ) else (
 chk (-9223372036854775808 ≤ ((((x1.getD 0 0).toNat : Nat) : Int) - (128 : Int)) ∧ ((((x1.getD 0 0).toNat : Nat) : Int) - (128 : Int)) ≤ 9223372036854775807) <|
 chk ((1 : Int) < ((x1.length : Nat) : Int)) <|
 chk ((((x1.getD 1 0).toNat : Nat) : Int) ≤ 9223372036854775807) <|
 chk (-9223372036854775808 ≤ ((128 : Int) * (((x1.getD 1 0).toNat : Nat) : Int)) ∧ ((128 : Int) * (((x1.getD 1 0).toNat : Nat) : Int)) ≤ 9223372036854775807) <|
 chk (-9223372036854775808 ≤ (((((x1.getD 0 0).toNat : Nat) : Int) - (128 : Int)) + (((128 * (x1.getD 1 0).toNat) : Nat) : Int)) ∧ (((((x1.getD 0 0).toNat : Nat) : Int) - (128 : Int)) + (((128 * (x1.getD 1 0).toNat) : Nat) : Int)) ≤ 9223372036854775807) <|
 K1 ((((((x1.getD 0 0).toNat : Nat) : Int) - (128 : Int)) + (((128 * (x1.getD 1 0).toNat) : Nat) : Int)), 2)
 )
 ) else (
 K1 ((((x1.getD 0 0).toNat : Nat) : Int), 1)
 )
 )
theorem f118_ok  (x1 : List UInt8) (x2 : Int) (r : Int × Int) (h : f118 x1 x2 = some r)  : Spec1 Tryz.prog 118 [] [] [] [.str x1, .int .i64 x2] (.tup [.int .i64 r.1, .int .i64 r.2]) [] := by
 unfold f118 at h
 refine Spec1.body 0 _ _ Tryz.func118 rfl Tryz.ntmps118 rfl rfl ?_
 refine q2rq [] [] [0, 1] [] ⟨40, [(0, .str x1), (1, .int .i64 x2)], [], [], 0⟩ trivial ?_
 refine AWp.seq ?_
 refine q2rq [] [] [0, 1, 9] [] ⟨40, [(0, .str x1), (1, .int .i64 x2), (9, .bool (x1 == []))], [], [], 0⟩ trivial ?_
 refine AWp.cond (b := (x1 == [])) (by kernel_rfl) (fun hc1 => ?_) (fun hc1 => ?_)
 ·
  replace h := ite_tb hc1 h
  refine q2rq [] [] [4, 5] [] ⟨40, [(4, .int .i64 (0 : Int)), (5, .int .i64 (0 : Int))], [], [], 0⟩ trivial ?_
  have hret := Option.some.inj h
  subst hret
  refine AWp.le (Le.mk (s' := ⟨40, [(4, .int .i64 (0 : Int)), (5, .int .i64 (0 : Int))], [], [], 0⟩) rfl rfl ⟨.refl _, .refl _, trivial⟩ trivial) ?_
  refine AWp.ret ?_
  refine thenQ_ret ?_
  exact bodyQ_ret _ rfl ⟨rfl, rfl⟩ rfl
 ·
  replace h := ite_fb hc1 h
  refine AWp.skip ?_
  refine thenQ_normal ?_
  refine AWp.seq ?_
  obtain ⟨ob0p, h⟩ := chk_some h
  have ob0 : 0 ≤ (0 : Int) ∧ (0 : Int) < ((x1.length : Nat) : Int) := ⟨by omega, ob0p⟩
  obtain ⟨ob1p, h⟩ := chk_some h
  have ob1 : -9223372036854775808 ≤ (((x1.getD 0 0).toNat : Nat) : Int) ∧ (((x1.getD 0 0).toNat : Nat) : Int) ≤ 9223372036854775807 := ⟨by omega, ob1p⟩
  refine q2rr [] [] [0, 1, 6, 7] [] ⟨40, [(0, .str x1), (1, .int .i64 x2), (6, .int .i64 (((x1.getD 0 0).toNat : Nat) : Int)), (7, .int .i64 (1 : Int))], [], [], 0⟩ (an2 ob0 ob1) ?_
  refine thenQ_normal ?_
  obtain ⟨K1, hK1, h⟩ := jn_some h
  refine AWp.join (α := Int × Nat) (fun (x : Int × Nat) => match x with | (i3, n4) => ⟨40, [(1, .int .i64 x2), (6, .int .i64 i3), (7, .int .i64 (n4 : Int))], [], [], 0⟩) (fun x => K1 x = some r) ?_ ?_
  ·
   refine q2rq [] [] [0, 1, 6, 7, 14] [] ⟨40, [(0, .str x1), (1, .int .i64 x2), (6, .int .i64 (((x1.getD 0 0).toNat : Nat) : Int)), (7, .int .i64 (1 : Int)), (14, .bool (decide ((((x1.getD 0 0).toNat : Nat) : Int) ≥ (128 : Int))))], [], [], 0⟩ trivial ?_
   refine AWp.cond (b := (decide ((((x1.getD 0 0).toNat : Nat) : Int) ≥ (128 : Int)))) (by kernel_rfl) (fun hc2 => ?_) (fun hc2 => ?_)
   ·
    replace h := ite_tb hc2 h
    refine AWp.seq ?_
    refine AWp.seq ?_
    obtain ⟨ob2, h⟩ := chk_some h
    have ob3 := idA (((decide (((x1.length : Nat) : Int) < (2 : Int))) == false) = true)
    have ob4 := ob3
    have ob5 := bqA (decide (((x1.length : Nat) : Int) < (2 : Int))) false
    obtain ⟨ob6, h⟩ := chk_some h
    have ob7 := idA ((((decide (((x1.length : Nat) : Int) < (2 : Int))) || ((((x1.getD 1 0).toNat : Nat) : Int) == (0 : Int))) == false) = true)
    have ob8 := ob7
    have ob9 := bqA ((decide (((x1.length : Nat) : Int) < (2 : Int))) || ((((x1.getD 1 0).toNat : Nat) : Int) == (0 : Int))) false
    refine q2rr [] [] [0, 1, 6, 27] [] ⟨40, [(0, .str x1), (1, .int .i64 x2), (6, .int .i64 (((x1.getD 0 0).toNat : Nat) : Int)), (27, .bool (((decide (((x1.length : Nat) : Int) < (2 : Int))) || ((((x1.getD 1 0).toNat : Nat) : Int) == (0 : Int))) || (decide ((((x1.getD 1 0).toNat : Nat) : Int) ≥ (128 : Int)))))], [], [], 0⟩ (an6 (And.intro ob2 (an1 ob3)) (an1 ob4) ob5 (And.intro ob6 (an1 ob7)) (an1 ob8) ob9) ?_
    refine thenQ_normal ?_
    refine AWp.cond (b := (((decide (((x1.length : Nat) : Int) < (2 : Int))) || ((((x1.getD 1 0).toNat : Nat) : Int) == (0 : Int))) || (decide ((((x1.getD 1 0).toNat : Nat) : Int) ≥ (128 : Int))))) (by kernel_rfl) (fun hc3 => ?_) (fun hc3 => ?_)
    ·
     replace h := ite_tb hc3 h
     refine q2rq [] [] [4, 5] [] ⟨40, [(4, .int .i64 (0 : Int)), (5, .int .i64 (0 : Int))], [], [], 0⟩ trivial ?_
     have hret := Option.some.inj h
     subst hret
     refine AWp.le (Le.mk (s' := ⟨40, [(4, .int .i64 (0 : Int)), (5, .int .i64 (0 : Int))], [], [], 0⟩) rfl rfl ⟨.refl _, .refl _, trivial⟩ trivial) ?_
     refine AWp.ret ?_
     refine thenQ_ret ?_
     refine joinQ_ret ?_
     exact bodyQ_ret _ rfl ⟨rfl, rfl⟩ rfl
    ·
     replace h := ite_fb hc3 h
     refine AWp.skip ?_
     refine thenQ_normal ?_
     obtain ⟨ob10, h⟩ := chk_some h
     obtain ⟨ob11p, h⟩ := chk_some h
     have ob11 : 0 ≤ (1 : Int) ∧ (1 : Int) < ((x1.length : Nat) : Int) := ⟨by omega, ob11p⟩
     obtain ⟨ob12p, h⟩ := chk_some h
     have ob12 : -9223372036854775808 ≤ (((x1.getD 1 0).toNat : Nat) : Int) ∧ (((x1.getD 1 0).toNat : Nat) : Int) ≤ 9223372036854775807 := ⟨by omega, ob12p⟩
     obtain ⟨ob13, h⟩ := chk_some h
     obtain ⟨ob14, h⟩ := chk_some h
     refine q2rr [] [] [1, 6, 7] [] ⟨40, [(1, .int .i64 x2), (6, .int .i64 (((((x1.getD 0 0).toNat : Nat) : Int) - (128 : Int)) + (((128 * (x1.getD 1 0).toNat) : Nat) : Int))), (7, .int .i64 (2 : Int))], [], [], 0⟩ (an5 ob10 ob11 ob12 ob13 ob14) ?_
     exact joinQ_normal ((((((x1.getD 0 0).toNat : Nat) : Int) - (128 : Int)) + (((128 * (x1.getD 1 0).toNat) : Nat) : Int)), 2) (Le.mk rfl rfl ⟨.refl _, .refl _, .refl _, trivial⟩ trivial) h
   ·
    replace h := ite_fb hc2 h
    refine AWp.skip ?_
    exact joinQ_normal ((((x1.getD 0 0).toNat : Nat) : Int), 1) (Le.mk rfl rfl ⟨.refl _, .refl _, .refl _, trivial⟩ trivial) h
  ·
   rintro ⟨i3, n4⟩ h
   replace h := (congrFun hK1 _).symm.trans h
   refine AWp.seq ?_
   refine q2rq [] [] [6, 7, 37] [] ⟨40, [(6, .int .i64 i3), (7, .int .i64 (n4 : Int)), (37, .bool (decide (i3 > x2)))], [], [], 0⟩ trivial ?_
   refine AWp.cond (b := (decide (i3 > x2))) (by kernel_rfl) (fun hc4 => ?_) (fun hc4 => ?_)
   ·
    replace h := ite_tb hc4 h
    refine q2rq [] [] [4, 5] [] ⟨40, [(4, .int .i64 (0 : Int)), (5, .int .i64 (0 : Int))], [], [], 0⟩ trivial ?_
    have hret := Option.some.inj h
    subst hret
    refine AWp.le (Le.mk (s' := ⟨40, [(4, .int .i64 (0 : Int)), (5, .int .i64 (0 : Int))], [], [], 0⟩) rfl rfl ⟨.refl _, .refl _, trivial⟩ trivial) ?_
    refine AWp.ret ?_
    refine thenQ_ret ?_
    exact bodyQ_ret _ rfl ⟨rfl, rfl⟩ rfl
   ·
    replace h := ite_fb hc4 h
    refine AWp.skip ?_
    refine thenQ_normal ?_
    refine q2rq [] [] [4, 5] [] ⟨40, [(4, .int .i64 i3), (5, .int .i64 (n4 : Int))], [], [], 0⟩ trivial ?_
    have hret := Option.some.inj h
    subst hret
    refine AWp.le (Le.mk (s' := ⟨40, [(4, .int .i64 i3), (5, .int .i64 (n4 : Int))], [], [], 0⟩) rfl rfl ⟨.refl _, .refl _, trivial⟩ trivial) ?_
    refine AWp.ret ?_
    exact bodyQ_ret _ rfl ⟨rfl, rfl⟩ rfl
def f81_L0 (x1 : List UInt8) (r2 : Int × Int) (K1 : (Int × List (List UInt8)) → Option (Bool × List (List UInt8))) : Nat → (Int × Nat × List (List UInt8)) → Option (Bool × List (List UInt8))
 | 0, _ => none
 | k + 1, (i3, n4, l5) =>
  if (decide ((n4 : Int) < r2.1)) then (
  (f118 (x1.drop ((i3).toNat)) (200 : Int)).bind fun (r6 : Int × Int) =>
  chk (0 ≤ i3 ∧ i3 ≤ ((x1.length : Nat) : Int)) <|
  chk (((r6.2 == (0 : Int)) == false) = true → -9223372036854775808 ≤ (i3 + r6.2) ∧ (i3 + r6.2) ≤ 9223372036854775807) <|
  chk (((r6.2 == (0 : Int)) == false) = true → -9223372036854775808 ≤ ((i3 + r6.2) + r6.1) ∧ ((i3 + r6.2) + r6.1) ≤ 9223372036854775807) <|
  if ((r6.2 == (0 : Int)) || (decide (((i3 + r6.2) + r6.1) > ((x1.length : Nat) : Int)))) then (
  some (false, [])
  ) else (
  chk (-9223372036854775808 ≤ (i3 + r6.2) ∧ (i3 + r6.2) ≤ 9223372036854775807) <|
  chk (-9223372036854775808 ≤ (i3 + r6.2) ∧ (i3 + r6.2) ≤ 9223372036854775807) <|
  chk (-9223372036854775808 ≤ ((i3 + r6.2) + r6.1) ∧ ((i3 + r6.2) + r6.1) ≤ 9223372036854775807) <|
  chk (0 ≤ (i3 + r6.2) ∧ (i3 + r6.2) ≤ ((i3 + r6.2) + r6.1) ∧ ((i3 + r6.2) + r6.1) ≤ ((x1.length : Nat) : Int)) <|
  chk (((l5).length + 1) * 16 ≤ 140737488355328) <|
  chk (-9223372036854775808 ≤ (i3 + r6.2) ∧ (i3 + r6.2) ≤ 9223372036854775807) <|
  chk (-9223372036854775808 ≤ ((i3 + r6.2) + r6.1) ∧ ((i3 + r6.2) + r6.1) ≤ 9223372036854775807) <|
  chk (((n4 : Int) + (1 : Int)) ≤ 9223372036854775807) <|
  (f81_L0 x1 r2 K1 k) (((i3 + r6.2) + r6.1), (n4 + 1), (l5 ++ [((x1.take ((((i3 + r6.2) + r6.1)).toNat)).drop (((i3 + r6.2)).toNat))]))
  )
  ) else (
  K1 (i3, l5)
  )
def f81 (x1 : List UInt8) : Option (Bool × List (List UInt8)) :=
 (f118 x1 (25 : Int)).bind fun (r2 : Int × Int) =>
 if (r2.2 == (0 : Int)) then (
 some (false, [])
 ) else (
 jn (fun ((i7, l8) : Int × List (List UInt8)) =>
 some ((i7 == ((x1.length : Nat) : Int)), l8)
 ) fun (K1 : (Int × List (List UInt8)) → Option (Bool × List (List UInt8))) =>
 f81_L0 x1 r2 K1 FUEL (r2.2, 0, [])
 )
theorem f81_ok  (x1 : List UInt8) (r : Bool × List (List UInt8)) (h : f81 x1 = some r)  : Spec1 Tryz.prog 81 [] [] [] [.str x1] (.tup [.own 3000, .bool r.1]) [(3000, bL 9 1 eS [] r.2)] := by
 unfold f81 at h
 refine Spec1.body 0 _ _ Tryz.func81 rfl Tryz.ntmps81 rfl rfl ?_
 refine q2rq [] [] [0] [] ⟨64, [(0, .str x1)], [], [], 0⟩ trivial ?_
 refine AWp.seq ?_
 obtain ⟨r2, hr2, h⟩ := bind_ok h
 refine q2rr [] [(1, ⟨[.str x1, .int .i64 (25 : Int)], [], [], [], .tup [.int .i64 r2.1, .int .i64 r2.2], [], [], []⟩)] [0, 4, 5] [] ⟨64, [(0, .str x1), (4, .int .i64 r2.1), (5, .int .i64 r2.2)], [], [], 0⟩ (an1 (cpT (f118_ok _ _ _ hr2))) ?_
 refine thenQ_normal ?_
 refine AWp.seq ?_
 refine q2rq [] [] [0, 4, 5, 16] [] ⟨64, [(0, .str x1), (4, .int .i64 r2.1), (5, .int .i64 r2.2), (16, .bool (r2.2 == (0 : Int)))], [], [], 0⟩ trivial ?_
 refine AWp.cond (b := (r2.2 == (0 : Int))) (by kernel_rfl) (fun hc1 => ?_) (fun hc1 => ?_)
 ·
  replace h := ite_tb hc1 h
  refine q2rq [] [] [2, 3] [] ⟨64, [(2, .nils), (3, .bool false)], [], [], 0⟩ trivial ?_
  refine AWp.le (Le.trans (Le.nilOwn 2 3000 9 1 (encF eS [] []) rfl rfl (Nat.le_of_ble_eq_true rfl)) (Le.mk (s' := ⟨64, [(2, .own 3000), (3, .bool false)], [(3000, q2bS_9 [])], [], 0⟩) rfl rfl ⟨.refl _, .refl _, trivial⟩ ⟨⟨_, rfl, .refl _⟩, trivial⟩)) ?_
  have hret := Option.some.inj h
  subst hret
  refine AWp.le (Le.mk (s' := ⟨64, [(2, .own 3000), (3, .bool false)], [(3000, q2bS_9 [])], [], 0⟩) rfl rfl ⟨.refl _, .refl _, trivial⟩ ⟨⟨_, rfl, .refl _⟩, trivial⟩) ?_
  refine AWp.ret ?_
  refine thenQ_ret ?_
  exact bodyQ_ret _ rfl ⟨rfl, rfl⟩ rfl
 ·
  replace h := ite_fb hc1 h
  refine AWp.skip ?_
  refine thenQ_normal ?_
  refine q2rq [] [] [0, 4, 5, 6] [] ⟨64, [(0, .str x1), (4, .int .i64 r2.1), (5, .int .i64 r2.2), (6, .nils)], [], [], 0⟩ trivial ?_
  obtain ⟨K1, hK1, h⟩ := jn_some h
  refine AWp.join (α := Int × List (List UInt8)) (fun (x : Int × List (List UInt8)) => match x with | (i7, l8) => ⟨64, [(0, .str x1), (5, .int .i64 i7), (6, .own 5006)], [(5006, q2bS_9 l8)], [], 0⟩) (fun x => K1 x = some r) ?_ ?_
  ·
   refine q2rq [] [] [0, 4, 5, 6, 7] [] ⟨64, [(0, .str x1), (4, .int .i64 r2.1), (5, .int .i64 r2.2), (6, .nils), (7, .int .i64 (0 : Int))], [], [], 0⟩ trivial ?_
   refine AWp.block ?_
   refine AWp.loopL (α := Nat × (Int × Nat × List (List UInt8))) (fun x => match x with | (_, i3, n4, l5) => ⟨64, [(0, .str x1), (4, .int .i64 r2.1), (5, .int .i64 i3), (6, .own 5006), (7, .int .i64 (n4 : Int))], [(5006, q2bS_9 l5)], [], 0⟩) (fun x => f81_L0 x1 r2 K1 x.1 x.2 = some r) (fun x => x.1) (FUEL, r2.2, 0, []) (Le.trans (Le.trans (Le.nilOwn 6 5006 9 1 (encF eS [] []) rfl rfl (Nat.le_of_ble_eq_true rfl)) (Le.mk (s' := ⟨64, [(0, .str x1), (4, .int .i64 r2.1), (5, .int .i64 r2.2), (6, .own 5006), (7, .int .i64 (0 : Int))], [(5006, q2bS_9 [])], [], 0⟩) rfl rfl ⟨.refl _, .refl _, .refl _, .refl _, .refl _, trivial⟩ ⟨⟨_, rfl, .refl _⟩, trivial⟩)) (Le.mk (s' := ⟨64, [(0, .str x1), (4, .int .i64 r2.1), (5, .int .i64 r2.2), (6, .own 5006), (7, .int .i64 (0 : Int))], [(5006, q2bS_9 [])], [], 0⟩) rfl rfl ⟨.refl _, .refl _, .refl _, .refl _, .refl _, trivial⟩ ⟨⟨_, rfl, .refl _⟩, trivial⟩)) h ?_
   rintro ⟨k0, i3, n4, l5⟩ h
   cases k0 with
   | zero => exact nomatch (show (none : Option (Bool × List (List UInt8))) = some r from h)
   | succ k0 =>
   obtain ⟨C0, hC0⟩ : ∃ C, C = f81_L0 x1 r2 K1 k0 := ⟨_, rfl⟩
   replace h := (f81_L0.eq_2 ..).symm.trans h
   try rw [← hC0] at h
   refine AWp.seq ?_
   refine q2rq [] [] [0, 4, 5, 6, 7, 19] [5006] ⟨64, [(0, .str x1), (4, .int .i64 r2.1), (5, .int .i64 i3), (6, .own 5006), (7, .int .i64 (n4 : Int)), (19, .bool (decide ((n4 : Int) < r2.1)))], [(5006, q2bS_9 l5)], [], 0⟩ trivial ?_
   refine AWp.cond (b := (decide ((n4 : Int) < r2.1))) (by kernel_rfl) (fun hc2 => ?_) (fun hc2 => ?_)
   ·
    replace h := ite_tb hc2 h
    refine AWp.skip ?_
    refine thenQ_normal ?_
    refine AWp.seq ?_
    refine AWp.block ?_
    refine AWp.seq ?_
    obtain ⟨r6, hr6, h⟩ := bind_ok h
    obtain ⟨ob0, h⟩ := chk_some h
    refine q2rr [] [(3, ⟨[.str (x1.drop ((i3).toNat)), .int .i64 (200 : Int)], [], [], [], .tup [.int .i64 r6.1, .int .i64 r6.2], [], [], []⟩)] [0, 4, 5, 6, 7, 8, 9] [5006] ⟨64, [(0, .str x1), (4, .int .i64 r2.1), (5, .int .i64 i3), (6, .own 5006), (7, .int .i64 (n4 : Int)), (8, .int .i64 r6.1), (9, .int .i64 r6.2)], [(5006, q2bS_9 l5)], [], 0⟩ (an2 ob0 (cpT (f118_ok _ _ _ hr6))) ?_
    refine thenQ_normal ?_
    refine AWp.seq ?_
    refine AWp.seq ?_
    obtain ⟨ob1, h⟩ := chk_some h
    have ob2 := idA (((r6.2 == (0 : Int)) == false) = true)
    have ob3 := ob2
    obtain ⟨ob4, h⟩ := chk_some h
    have ob5 := ob2
    have ob6 := ob2
    have ob7 := ob2
    have ob8 := ob2
    have ob9 := ob2
    have ob10 := bqA (r6.2 == (0 : Int)) false
    refine q2rr [] [] [0, 4, 5, 6, 7, 8, 9, 40] [5006] ⟨64, [(0, .str x1), (4, .int .i64 r2.1), (5, .int .i64 i3), (6, .own 5006), (7, .int .i64 (n4 : Int)), (8, .int .i64 r6.1), (9, .int .i64 r6.2), (40, .bool ((r6.2 == (0 : Int)) || (decide (((i3 + r6.2) + r6.1) > ((x1.length : Nat) : Int)))))], [(5006, q2bS_9 l5)], [], 0⟩ (an5 (And.intro ob1 (an2 ob2 ob3)) (And.intro ob4 (an2 ob5 ob6)) (an1 ob7) (an2 ob8 ob9) ob10) ?_
    refine thenQ_normal ?_
    refine AWp.cond (b := ((r6.2 == (0 : Int)) || (decide (((i3 + r6.2) + r6.1) > ((x1.length : Nat) : Int))))) (by kernel_rfl) (fun hc3 => ?_) (fun hc3 => ?_)
    ·
     replace h := ite_tb hc3 h
     refine q2rq [] [] [2, 3] [] ⟨64, [(2, .nils), (3, .bool false)], [], [], 0⟩ trivial ?_
     refine AWp.le (Le.trans (Le.nilOwn 2 3000 9 1 (encF eS [] []) rfl rfl (Nat.le_of_ble_eq_true rfl)) (Le.mk (s' := ⟨64, [(2, .own 3000), (3, .bool false)], [(3000, q2bS_9 [])], [], 0⟩) rfl rfl ⟨.refl _, .refl _, trivial⟩ ⟨⟨_, rfl, .refl _⟩, trivial⟩)) ?_
     have hret := Option.some.inj h
     subst hret
     refine AWp.le (Le.mk (s' := ⟨64, [(2, .own 3000), (3, .bool false)], [(3000, q2bS_9 [])], [], 0⟩) rfl rfl ⟨.refl _, .refl _, trivial⟩ ⟨⟨_, rfl, .refl _⟩, trivial⟩) ?_
     refine AWp.ret ?_
     refine thenQ_ret ?_
     refine blockQ_ret ?_
     refine thenQ_ret ?_
     refine thenQ_ret ?_
     refine blockQ_ret ?_
     refine joinQ_ret ?_
     exact bodyQ_ret _ rfl ⟨rfl, rfl⟩ rfl
    ·
     replace h := ite_fb hc3 h
     refine AWp.skip ?_
     refine thenQ_normal ?_
     refine AWp.seq ?_
     obtain ⟨ob11, h⟩ := chk_some h
     obtain ⟨ob12, h⟩ := chk_some h
     obtain ⟨ob13, h⟩ := chk_some h
     obtain ⟨ob14, h⟩ := chk_some h
     obtain ⟨ob15, h⟩ := chk_some h
     refine q2rr [] [] [0, 4, 5, 6, 7, 8, 9] [5006] ⟨64, [(0, .str x1), (4, .int .i64 r2.1), (5, .int .i64 i3), (6, .own 5006), (7, .int .i64 (n4 : Int)), (8, .int .i64 r6.1), (9, .int .i64 r6.2)], [(5006, .rows 9 1 ((l5).length + 1) (appF (l5).length (encF eS [] l5) (lstF 1 [.str ((x1.take ((((i3 + r6.2) + r6.1)).toNat)).drop (((i3 + r6.2)).toNat))])))], [], 0⟩ (an5 ob11 ob12 ob13 ob14 ob15) ?_
     refine thenQ_normal ?_
     refine AWp.le (Le.mk (s' := ⟨64, [(0, .str x1), (4, .int .i64 r2.1), (5, .int .i64 i3), (6, .own 5006), (7, .int .i64 (n4 : Int)), (8, .int .i64 r6.1), (9, .int .i64 r6.2)], [(5006, q2bS_9 (l5 ++ [((x1.take ((((i3 + r6.2) + r6.1)).toNat)).drop (((i3 + r6.2)).toNat))]))], [], 0⟩) rfl rfl ⟨.refl _, .refl _, .refl _, .refl _, .refl _, .refl _, .refl _, trivial⟩ ⟨⟨_, rfl, (BLe.of (RL.app (RL.self _) (RL.lst (enc := eS) [((x1.take ((((i3 + r6.2) + r6.1)).toNat)).drop (((i3 + r6.2)).toNat))] rfl rfl (fun _ => rfl))))⟩, trivial⟩) ?_
     obtain ⟨ob16, h⟩ := chk_some h
     obtain ⟨ob17, h⟩ := chk_some h
     refine q2rr [] [] [0, 4, 5, 6, 7] [5006] ⟨64, [(0, .str x1), (4, .int .i64 r2.1), (5, .int .i64 ((i3 + r6.2) + r6.1)), (6, .own 5006), (7, .int .i64 (n4 : Int))], [(5006, q2bS_9 (l5 ++ [((x1.take ((((i3 + r6.2) + r6.1)).toNat)).drop (((i3 + r6.2)).toNat))]))], [], 0⟩ (an2 ob16 ob17) ?_
     refine blockQ_normal ?_
     refine thenQ_normal ?_
     obtain ⟨ob18p, h⟩ := chk_some h
     have ob18 : -9223372036854775808 ≤ ((n4 : Int) + (1 : Int)) ∧ ((n4 : Int) + (1 : Int)) ≤ 9223372036854775807 := ⟨by omega, ob18p⟩
     refine q2rr [] [] [0, 4, 5, 6, 7] [5006] ⟨64, [(0, .str x1), (4, .int .i64 r2.1), (5, .int .i64 ((i3 + r6.2) + r6.1)), (6, .own 5006), (7, .int .i64 (((n4 + 1) : Nat) : Int))], [(5006, q2bS_9 (l5 ++ [((x1.take ((((i3 + r6.2) + r6.1)).toNat)).drop (((i3 + r6.2)).toNat))]))], [], 0⟩ (an1 ob18) ?_
     rw [hC0] at h
     exact loopQ_normal (_, ((i3 + r6.2) + r6.1), (n4 + 1), (l5 ++ [((x1.take ((((i3 + r6.2) + r6.1)).toNat)).drop (((i3 + r6.2)).toNat))])) (Le.mk rfl rfl ⟨.refl _, .refl _, .refl _, .refl _, .refl _, trivial⟩ ⟨⟨_, rfl, .refl _⟩, trivial⟩) h (Nat.lt_succ_self _)
   ·
    replace h := ite_fb hc2 h
    refine AWp.exit ?_
    refine thenQ_exit ?_
    refine thenQ_exit ?_
    refine blockQ_same ?_
    exact joinQ_normal (i3, l5) (Le.mk rfl rfl ⟨.refl _, .refl _, .refl _, trivial⟩ ⟨⟨_, rfl, .refl _⟩, trivial⟩) h
  ·
   rintro ⟨i7, l8⟩ h
   replace h := (congrFun hK1 _).symm.trans h
   refine q2rq [] [] [2, 3] [5006] ⟨64, [(2, .own 5006), (3, .bool (i7 == ((x1.length : Nat) : Int)))], [(5006, q2bS_9 l8)], [], 0⟩ trivial ?_
   refine AWp.le (Le.trans (Le.ren (swapN 5006 3000) (swapN_inv 5006 3000) rfl) (Le.mk (s' := ⟨64, [(2, .own 3000), (3, .bool (i7 == ((x1.length : Nat) : Int)))], [(3000, q2bS_9 l8)], [], 0⟩) rfl rfl ⟨.refl _, .refl _, trivial⟩ ⟨⟨_, rfl, .refl _⟩, trivial⟩)) ?_
   have hret := Option.some.inj h
   subst hret
   refine AWp.le (Le.mk (s' := ⟨64, [(2, .own 3000), (3, .bool (i7 == ((x1.length : Nat) : Int)))], [(3000, q2bS_9 l8)], [], 0⟩) rfl rfl ⟨.refl _, .refl _, trivial⟩ ⟨⟨_, rfl, .refl _⟩, trivial⟩) ?_
   refine AWp.ret ?_
   exact bodyQ_ret _ rfl ⟨rfl, rfl⟩ rfl
def f82_L0 (x1 : List UInt8) (K1 : Int → Option Int) : Nat → (Int × Nat) → Option Int
 | 0, _ => none
 | k + 1, (i2, n3) =>
  if (decide ((n3 : Int) < ((x1.length : Nat) : Int))) then (
  chk ((n3 : Int) < ((x1.length : Nat) : Int)) <|
  chk (((decide ((((x1.getD n3 0).toNat : Nat) : Int) < (48 : Int))) == false) = true → 0 ≤ (n3 : Int) ∧ (n3 : Int) < ((x1.length : Nat) : Int)) <|
  if (((decide ((((x1.getD n3 0).toNat : Nat) : Int) < (48 : Int))) || (decide ((((x1.getD n3 0).toNat : Nat) : Int) > (57 : Int)))) || (decide ((n3 : Int) > (6 : Int)))) then (
  some (-1 : Int)
  ) else (
  chk (-9223372036854775808 ≤ ((10 : Int) * i2) ∧ ((10 : Int) * i2) ≤ 9223372036854775807) <|
  chk ((n3 : Int) < ((x1.length : Nat) : Int)) <|
  chk (0 ≤ ((((x1.getD n3 0).toNat : Nat) : Int) - (48 : Int)) ∧ ((((x1.getD n3 0).toNat : Nat) : Int) - (48 : Int)) ≤ 255) <|
  chk (-9223372036854775808 ≤ ((((x1.getD n3 0).toNat : Nat) : Int) - (48 : Int)) ∧ ((((x1.getD n3 0).toNat : Nat) : Int) - (48 : Int)) ≤ 9223372036854775807) <|
  chk (-9223372036854775808 ≤ (((10 : Int) * i2) + ((((x1.getD n3 0).toNat : Nat) : Int) - (48 : Int))) ∧ (((10 : Int) * i2) + ((((x1.getD n3 0).toNat : Nat) : Int) - (48 : Int))) ≤ 9223372036854775807) <|
  chk (((n3 : Int) + (1 : Int)) ≤ 9223372036854775807) <|
  (f82_L0 x1 K1 k) ((((10 : Int) * i2) + ((((x1.getD n3 0).toNat : Nat) : Int) - (48 : Int))), (n3 + 1))
  )
  ) else (
  K1 i2
  )
def f82 (x1 : List UInt8) : Option Int :=
 jn (fun (i4 : Int) =>
 optc ((x1 == []) == false) (f116 FUEL i4) fun (r5 : List UInt8) =>
 if ((x1 == []) || (!(r5 == x1))) then (
 some (-1 : Int)
 ) else (
 some i4
 )
 ) fun (K1 : Int → Option Int) =>
 f82_L0 x1 K1 FUEL ((0 : Int), 0)
theorem f82_ok  (x1 : List UInt8) (r : Int) (h : f82 x1 = some r)  : Spec1 Tryz.prog 82 [] [] [] [.str x1] (.int .i64 r) [] := by
 unfold f82 at h
 refine Spec1.body 0 _ _ Tryz.func82 rfl Tryz.ntmps82 rfl rfl ?_
 refine q2rq [] [] [0] [] ⟨42, [(0, .str x1)], [], [], 0⟩ trivial ?_
 refine q2rq [] [] [0, 3] [] ⟨42, [(0, .str x1), (3, .int .i64 (0 : Int))], [], [], 0⟩ trivial ?_
 obtain ⟨K1, hK1, h⟩ := jn_some h
 refine AWp.join (α := Int) (fun (i4 : Int) => ⟨42, [(0, .str x1), (3, .int .i64 i4)], [], [], 0⟩) (fun x => K1 x = some r) ?_ ?_
 ·
  refine q2rq [] [] [0, 3, 4] [] ⟨42, [(0, .str x1), (3, .int .i64 (0 : Int)), (4, .int .i64 (0 : Int))], [], [], 0⟩ trivial ?_
  refine AWp.block ?_
  refine AWp.loopL (α := Nat × (Int × Nat)) (fun x => match x with | (_, i2, n3) => ⟨42, [(0, .str x1), (3, .int .i64 i2), (4, .int .i64 (n3 : Int))], [], [], 0⟩) (fun x => f82_L0 x1 K1 x.1 x.2 = some r) (fun x => x.1) (FUEL, (0 : Int), 0) (Le.mk (s' := ⟨42, [(0, .str x1), (3, .int .i64 (0 : Int)), (4, .int .i64 (0 : Int))], [], [], 0⟩) rfl rfl ⟨.refl _, .refl _, .refl _, trivial⟩ trivial) h ?_
  rintro ⟨k0, i2, n3⟩ h
  cases k0 with
  | zero => exact nomatch (show (none : Option Int) = some r from h)
  | succ k0 =>
  obtain ⟨C0, hC0⟩ : ∃ C, C = f82_L0 x1 K1 k0 := ⟨_, rfl⟩
  replace h := (f82_L0.eq_2 ..).symm.trans h
  try rw [← hC0] at h
  refine AWp.seq ?_
  refine q2rq [] [] [0, 3, 4, 8] [] ⟨42, [(0, .str x1), (3, .int .i64 i2), (4, .int .i64 (n3 : Int)), (8, .bool (decide ((n3 : Int) < ((x1.length : Nat) : Int))))], [], [], 0⟩ trivial ?_
  refine AWp.cond (b := (decide ((n3 : Int) < ((x1.length : Nat) : Int)))) (by kernel_rfl) (fun hc1 => ?_) (fun hc1 => ?_)
  ·
   replace h := ite_tb hc1 h
   refine AWp.skip ?_
   refine thenQ_normal ?_
   refine AWp.seq ?_
   refine AWp.block ?_
   refine AWp.seq ?_
   refine AWp.seq ?_
   obtain ⟨ob0p, h⟩ := chk_some h
   have ob0 : 0 ≤ (n3 : Int) ∧ (n3 : Int) < ((x1.length : Nat) : Int) := ⟨by omega, ob0p⟩
   obtain ⟨ob1, h⟩ := chk_some h
   have ob2 := idA (((decide ((((x1.getD n3 0).toNat : Nat) : Int) < (48 : Int))) == false) = true)
   have ob3 := ob2
   have ob4 := ob2
   have ob5 := bqA (decide ((((x1.getD n3 0).toNat : Nat) : Int) < (48 : Int))) false
   have ob6 := idA ((((decide ((((x1.getD n3 0).toNat : Nat) : Int) < (48 : Int))) || (decide ((((x1.getD n3 0).toNat : Nat) : Int) > (57 : Int)))) == false) = true)
   have ob7 := bqA ((decide ((((x1.getD n3 0).toNat : Nat) : Int) < (48 : Int))) || (decide ((((x1.getD n3 0).toNat : Nat) : Int) > (57 : Int)))) false
   refine q2rr [] [] [0, 3, 4, 24] [] ⟨42, [(0, .str x1), (3, .int .i64 i2), (4, .int .i64 (n3 : Int)), (24, .bool (((decide ((((x1.getD n3 0).toNat : Nat) : Int) < (48 : Int))) || (decide ((((x1.getD n3 0).toNat : Nat) : Int) > (57 : Int)))) || (decide ((n3 : Int) > (6 : Int)))))], [], [], 0⟩ (an6 ob0 (And.intro ob1 (an2 ob2 ob3)) (an1 ob4) ob5 (an1 ob6) ob7) ?_
   refine thenQ_normal ?_
   refine AWp.cond (b := (((decide ((((x1.getD n3 0).toNat : Nat) : Int) < (48 : Int))) || (decide ((((x1.getD n3 0).toNat : Nat) : Int) > (57 : Int)))) || (decide ((n3 : Int) > (6 : Int))))) (by kernel_rfl) (fun hc2 => ?_) (fun hc2 => ?_)
   ·
    replace h := ite_tb hc2 h
    refine q2rq [] [] [2] [] ⟨42, [(2, .int .i64 (-1 : Int))], [], [], 0⟩ trivial ?_
    have hret := Option.some.inj h
    subst hret
    refine AWp.le (Le.mk (s' := ⟨42, [(2, .int .i64 (-1 : Int))], [], [], 0⟩) rfl rfl ⟨.refl _, trivial⟩ trivial) ?_
    refine AWp.ret ?_
    refine thenQ_ret ?_
    refine blockQ_ret ?_
    refine thenQ_ret ?_
    refine thenQ_ret ?_
    refine blockQ_ret ?_
    refine joinQ_ret ?_
    exact bodyQ_ret _ rfl ⟨rfl, rfl⟩ rfl
   ·
    replace h := ite_fb hc2 h
    refine AWp.skip ?_
    refine thenQ_normal ?_
    obtain ⟨ob8, h⟩ := chk_some h
    obtain ⟨ob9p, h⟩ := chk_some h
    have ob9 : 0 ≤ (n3 : Int) ∧ (n3 : Int) < ((x1.length : Nat) : Int) := ⟨by omega, ob9p⟩
    obtain ⟨ob10, h⟩ := chk_some h
    obtain ⟨ob11, h⟩ := chk_some h
    obtain ⟨ob12, h⟩ := chk_some h
    refine q2rr [] [] [0, 3, 4] [] ⟨42, [(0, .str x1), (3, .int .i64 (((10 : Int) * i2) + ((((x1.getD n3 0).toNat : Nat) : Int) - (48 : Int)))), (4, .int .i64 (n3 : Int))], [], [], 0⟩ (an5 ob8 ob9 ob10 ob11 ob12) ?_
    refine blockQ_normal ?_
    refine thenQ_normal ?_
    obtain ⟨ob13p, h⟩ := chk_some h
    have ob13 : -9223372036854775808 ≤ ((n3 : Int) + (1 : Int)) ∧ ((n3 : Int) + (1 : Int)) ≤ 9223372036854775807 := ⟨by omega, ob13p⟩
    refine q2rr [] [] [0, 3, 4] [] ⟨42, [(0, .str x1), (3, .int .i64 (((10 : Int) * i2) + ((((x1.getD n3 0).toNat : Nat) : Int) - (48 : Int)))), (4, .int .i64 (((n3 + 1) : Nat) : Int))], [], [], 0⟩ (an1 ob13) ?_
    rw [hC0] at h
    exact loopQ_normal (_, (((10 : Int) * i2) + ((((x1.getD n3 0).toNat : Nat) : Int) - (48 : Int))), (n3 + 1)) (Le.mk rfl rfl ⟨.refl _, .refl _, .refl _, trivial⟩ trivial) h (Nat.lt_succ_self _)
  ·
   replace h := ite_fb hc1 h
   refine AWp.exit ?_
   refine thenQ_exit ?_
   refine thenQ_exit ?_
   refine blockQ_same ?_
   exact joinQ_normal (i2) (Le.mk rfl rfl ⟨.refl _, .refl _, trivial⟩ trivial) h
 ·
  rintro i4 h
  replace h := (congrFun hK1 _).symm.trans h
  refine AWp.seq ?_
  refine AWp.seq ?_
  obtain ⟨r5, hr5, h⟩ := optc_some h
  have ob14 := idA (((x1 == []) == false) = true)
  have ob15 := ob14
  have ob16 := ob14
  have ob17 := bqA (x1 == []) false
  refine q2rr [] [(4, ⟨[.int .i64 i4], [], [], [], .str r5, [], [], []⟩)] [3, 40] [] ⟨42, [(3, .int .i64 i4), (40, .bool ((x1 == []) || (!(r5 == x1))))], [], [], 0⟩ (an3 (And.intro (cpC fun hc => (f116_ok FUEL _ _ (hr5 hc))) (an1 ob14)) (an2 ob15 ob16) ob17) ?_
  refine thenQ_normal ?_
  refine AWp.cond (b := ((x1 == []) || (!(r5 == x1)))) (by kernel_rfl) (fun hc3 => ?_) (fun hc3 => ?_)
  ·
   replace h := ite_tb hc3 h
   refine q2rq [] [] [2] [] ⟨42, [(2, .int .i64 (-1 : Int))], [], [], 0⟩ trivial ?_
   have hret := Option.some.inj h
   subst hret
   refine AWp.le (Le.mk (s' := ⟨42, [(2, .int .i64 (-1 : Int))], [], [], 0⟩) rfl rfl ⟨.refl _, trivial⟩ trivial) ?_
   refine AWp.ret ?_
   refine thenQ_ret ?_
   exact bodyQ_ret _ rfl ⟨rfl, rfl⟩ rfl
  ·
   replace h := ite_fb hc3 h
   refine AWp.skip ?_
   refine thenQ_normal ?_
   refine q2rq [] [] [2] [] ⟨42, [(2, .int .i64 i4)], [], [], 0⟩ trivial ?_
   have hret := Option.some.inj h
   subst hret
   refine AWp.le (Le.mk (s' := ⟨42, [(2, .int .i64 i4)], [], [], 0⟩) rfl rfl ⟨.refl _, trivial⟩ trivial) ?_
   refine AWp.ret ?_
   exact bodyQ_ret _ rfl ⟨rfl, rfl⟩ rfl
def f46_L0 (r2 : Bool × List (List UInt8)) (K1 : (Nat × Int × (List Tq1)) → Option (Int × Int × (List Tq1) × Int)) : Nat → (Nat × (List Tq1)) → Option (Int × Int × (List Tq1) × Int)
 | 0, _ => none
 | k + 1, (n7, l8) =>
  if (decide ((n7 : Int) < (((r2.2).length : Nat) : Int))) then (
  (f82 (r2.2.getD n7 [])).bind fun (r9 : Int) =>
  (f82 (r2.2.getD (n7 + 1) [])).bind fun (r10 : Int) =>
  chk ((n7 : Int) < (((r2.2).length : Nat) : Int)) <|
  chk (n7 < (r2.2).length) <|
  chk (((n7 : Int) + (1 : Int)) ≤ 9223372036854775807) <|
  chk ((((n7 + 1) : Nat) : Int) < (((r2.2).length : Nat) : Int)) <|
  chk ((n7 + 1) < (r2.2).length) <|
  chk (((n7 : Int) + (2 : Int)) ≤ 9223372036854775807) <|
  chk ((((n7 + 2) : Nat) : Int) < (((r2.2).length : Nat) : Int)) <|
  chk ((n7 + 2) < (r2.2).length) <|
  chk (((l8).length + 1) * 32 ≤ 140737488355328) <|
  chk (((n7 : Int) + (3 : Int)) ≤ 9223372036854775807) <|
  (f46_L0 r2 K1 k) ((n7 + 3), (l8 ++ [(r9, r10, (r2.2.getD (n7 + 2) []))]))
  ) else (
  K1 (1, (0 : Int), l8)
  )
def f46 (x1 : List UInt8) : Option (Int × Int × (List Tq1) × Int) :=
 (f81 x1).bind fun (r2 : Bool × List (List UInt8)) =>
 if ((!r2.1) || ((((r2.2).length : Nat) : Int) == (0 : Int))) then (
 some ((0 : Int), (0 : Int), [], (2 : Int))
 ) else (
 jn (fun ((n3, i4, l5) : Nat × Int × (List Tq1)) =>
 (f41 (n3 : Int) i4 l5).bind fun (r11 : Int) =>
 optc ((r11 != (0 : Int)) == false) (f74 (n3 : Int) i4 l5) fun (r12 : List UInt8) =>
 if ((r11 != (0 : Int)) || (!(r12 == x1))) then (
 some ((0 : Int), (0 : Int), [], (2 : Int))
 ) else (
 some ((n3 : Int), i4, l5, (0 : Int))
 )
 ) fun (K1 : (Nat × Int × (List Tq1)) → Option (Int × Int × (List Tq1) × Int)) =>
 chk ((0 : Int) < (((r2.2).length : Nat) : Int)) <|
 chk (0 < (r2.2).length) <|
 if ((r2.2.getD 0 []) == cs11) then (
 K1 (3, (0 : Int), [])
 ) else (
 chk ((0 : Int) < (((r2.2).length : Nat) : Int)) <|
 chk (0 < (r2.2).length) <|
 if (((r2.2.getD 0 []) == ([106, 111, 105, 110] : List UInt8)) && ((((r2.2).length : Nat) : Int) == (2 : Int))) then (
 (f82 (r2.2.getD 1 [])).bind fun (r6 : Int) =>
 chk ((1 : Int) < (((r2.2).length : Nat) : Int)) <|
 chk (1 < (r2.2).length) <|
 K1 (2, r6, [])
 ) else (
 chk ((0 : Int) < (((r2.2).length : Nat) : Int)) <|
 chk (0 < (r2.2).length) <|
 chk ((((r2.2.getD 0 []) == cs12) == true) = true → 0 ≤ (((r2.2).length : Nat) : Int) ∧ 1 ≤ (3 : Int)) <|
 if (((r2.2.getD 0 []) == cs12) && (((((r2.2).length % 3) : Nat) : Int) == (1 : Int))) then (
 f46_L0 r2 K1 FUEL (1, [])
 ) else (
 K1 (0, (0 : Int), [])
 )
 )
 )
 )
theorem f46_ok  (x1 : List UInt8) (r : Int × Int × (List Tq1) × Int) (h : f46 x1 = some r)  : Spec1 Tryz.prog 46 [] [] [] [.str x1] (.tup [.agg [.int .i64 r.1, .int .i64 r.2.1, vL 3 eIIS (default : Tq1) r.2.2.1], .int .i64 r.2.2.2]) [] := by
 unfold f46 at h
 refine Spec1.bodyD [2] 0 _ _ Tryz.func46 rfl Tryz.ntmps46 rfl rfl ?_
 refine q2rq [] [] [0, 2] [2] ⟨94, [(0, .str x1), (2, .ptr 2 0)], [(2, .cells 79 [.int .i64 (0 : Int), .int .i64 (0 : Int), .nils])], [], 0⟩ trivial ?_
 refine AWp.seq ?_
 obtain ⟨r2, hr2, h⟩ := bind_ok h
 refine q2rr [] [(1, ⟨[.str x1], [], [], [(6001, q2bS_9 r2.2)], .tup [.own 6001, .bool r2.1], [6001], [], []⟩)] [0, 2, 4, 5] [2, 6001] ⟨94, [(0, .str x1), (2, .ptr 2 0), (4, .own 6001), (5, .bool r2.1)], [(2, .cells 79 [.int .i64 (0 : Int), .int .i64 (0 : Int), .nils]), (6001, q2bS_9 r2.2)], [], 0⟩ (an1 (cpT (Spec1.ren (swapN 3000 6001) (swapN_inv 3000 6001) rfl (f81_ok _ _ hr2)))) ?_
 refine thenQ_normal ?_
 refine AWp.seq ?_
 refine AWp.seq ?_
 have ob0 := idA (((!r2.1) == false) = true)
 have ob1 := ob0
 have ob2 := bqA (!r2.1) false
 refine q2rr [] [] [0, 2, 4, 19] [2, 6001] ⟨94, [(0, .str x1), (2, .ptr 2 0), (4, .own 6001), (19, .bool ((!r2.1) || ((((r2.2).length : Nat) : Int) == (0 : Int))))], [(2, .cells 79 [.int .i64 (0 : Int), .int .i64 (0 : Int), .nils]), (6001, q2bS_9 r2.2)], [], 0⟩ (an3 (an1 ob0) (an1 ob1) ob2) ?_
 refine thenQ_normal ?_
 refine AWp.cond (b := ((!r2.1) || ((((r2.2).length : Nat) : Int) == (0 : Int)))) (by kernel_rfl) (fun hc1 => ?_) (fun hc1 => ?_)
 ·
  replace h := ite_tb hc1 h
  refine q2rq [] [] [2, 3] [2] ⟨94, [(2, .ptr 2 0), (3, .int .i64 (2 : Int))], [(2, .cells 79 [.int .i64 (0 : Int), .int .i64 (0 : Int), .nils])], [], 0⟩ (an1 trivial) ?_
  have hret := Option.some.inj h
  subst hret
  refine AWp.le (Le.mk (s' := ⟨94, [(2, .ptr 2 0), (3, .int .i64 (2 : Int))], [(2, .cells 79 [.int .i64 (0 : Int), .int .i64 (0 : Int), q2aIIS []])], [], 0⟩) rfl rfl ⟨.refl _, .refl _, trivial⟩ ⟨⟨_, rfl, (.cellsL ⟨.refl _, .refl _, .nilL, trivial⟩)⟩, trivial⟩) ?_
  refine AWp.ret ?_
  refine thenQ_ret ?_
  exact bodyQ_ret _ rfl ⟨rfl, rfl⟩ rfl
 ·
  replace h := ite_fb hc1 h
  refine AWp.skip ?_
  refine thenQ_normal ?_
  refine q2rq [] [] [0, 2, 4, 6] [2, 6, 6001] ⟨94, [(0, .str x1), (2, .ptr 2 0), (4, .own 6001), (6, .ptr 6 0)], [(2, .cells 79 [.int .i64 (0 : Int), .int .i64 (0 : Int), .nils]), (6, .cells 79 [.int .i64 (0 : Int), .int .i64 (0 : Int), .nils]), (6001, q2bS_9 r2.2)], [], 0⟩ trivial ?_
  obtain ⟨K1, hK1, h⟩ := jn_some h
  refine AWp.join (α := Nat × Int × (List Tq1)) (fun (x : Nat × Int × (List Tq1)) => match x with | (n3, i4, l5) => ⟨94, [(0, .str x1), (2, .ptr 2 0), (6, .ptr 6 0)], [(2, .cells 79 [.int .i64 (0 : Int), .int .i64 (0 : Int), .nils]), (6, .cells 79 [.int .i64 (n3 : Int), .int .i64 i4, .own 6102]), (6102, q2bIIS_24 l5)], [], 0⟩) (fun x => K1 x = some r) ?_ ?_
  ·
   refine AWp.block ?_
   refine AWp.seq ?_
   obtain ⟨ob3p, h⟩ := chk_some h
   have ob3 : 0 ≤ (0 : Int) ∧ (0 : Int) < (((r2.2).length : Nat) : Int) := ⟨by omega, ob3p⟩
   obtain ⟨ob4, h⟩ := chk_some h
   refine q2rr [] [] [0, 2, 4, 6, 21] [2, 6, 6001] ⟨94, [(0, .str x1), (2, .ptr 2 0), (4, .own 6001), (6, .ptr 6 0), (21, .bool ((r2.2.getD 0 []) == cs11))], [(2, .cells 79 [.int .i64 (0 : Int), .int .i64 (0 : Int), .nils]), (6, .cells 79 [.int .i64 (0 : Int), .int .i64 (0 : Int), .nils]), (6001, q2bS_9 r2.2)], [], 0⟩ (an2 ob3 ob4) ?_
   refine thenQ_normal ?_
   refine AWp.cond (b := ((r2.2.getD 0 []) == cs11)) (by kernel_rfl) (fun hc2 => ?_) (fun hc2 => ?_)
   ·
    replace h := ite_tb hc2 h
    refine q2rr [] [] [0, 2, 6] [2, 6] ⟨94, [(0, .str x1), (2, .ptr 2 0), (6, .ptr 6 0)], [(2, .cells 79 [.int .i64 (0 : Int), .int .i64 (0 : Int), .nils]), (6, .cells 79 [.int .i64 (3 : Int), .int .i64 (0 : Int), .nils])], [], 0⟩ (an1 trivial) ?_
    refine blockQ_normal ?_
    exact joinQ_normal (3, (0 : Int), []) (Le.trans (Le.trans (Le.nilOwnC 6 2 6102 24 3 (encF eIIS q2dIIS []) rfl rfl rfl) (Le.mk (s' := ⟨94, [(0, .str x1), (2, .ptr 2 0), (6, .ptr 6 0)], [(2, .cells 79 [.int .i64 (0 : Int), .int .i64 (0 : Int), .nils]), (6, .cells 79 [.int .i64 (3 : Int), .int .i64 (0 : Int), .own 6102]), (6102, q2bIIS_24 [])], [], 0⟩) rfl rfl ⟨.refl _, .refl _, .refl _, trivial⟩ ⟨⟨_, rfl, .refl _⟩, ⟨_, rfl, .refl _⟩, ⟨_, rfl, .refl _⟩, trivial⟩)) (Le.mk rfl rfl ⟨.refl _, .refl _, .refl _, trivial⟩ ⟨⟨_, rfl, .refl _⟩, ⟨_, rfl, .refl _⟩, ⟨_, rfl, .refl _⟩, trivial⟩)) h
   ·
    replace h := ite_fb hc2 h
    refine AWp.seq ?_
    obtain ⟨ob5p, h⟩ := chk_some h
    have ob5 : 0 ≤ (0 : Int) ∧ (0 : Int) < (((r2.2).length : Nat) : Int) := ⟨by omega, ob5p⟩
    obtain ⟨ob6, h⟩ := chk_some h
    have ob7 := idA ((((r2.2.getD 0 []) == ([106, 111, 105, 110] : List UInt8)) == true) = true)
    have ob8 := ob7
    have ob9 := bqA ((r2.2.getD 0 []) == ([106, 111, 105, 110] : List UInt8)) true
    refine q2rr [] [] [0, 2, 4, 6, 27] [2, 6, 6001] ⟨94, [(0, .str x1), (2, .ptr 2 0), (4, .own 6001), (6, .ptr 6 0), (27, .bool (((r2.2.getD 0 []) == ([106, 111, 105, 110] : List UInt8)) && ((((r2.2).length : Nat) : Int) == (2 : Int))))], [(2, .cells 79 [.int .i64 (0 : Int), .int .i64 (0 : Int), .nils]), (6, .cells 79 [.int .i64 (0 : Int), .int .i64 (0 : Int), .nils]), (6001, q2bS_9 r2.2)], [], 0⟩ (an5 ob5 ob6 (an1 ob7) (an1 ob8) ob9) ?_
    refine thenQ_normal ?_
    refine AWp.cond (b := (((r2.2.getD 0 []) == ([106, 111, 105, 110] : List UInt8)) && ((((r2.2).length : Nat) : Int) == (2 : Int)))) (by kernel_rfl) (fun hc3 => ?_) (fun hc3 => ?_)
    ·
     replace h := ite_tb hc3 h
     obtain ⟨r6, hr6, h⟩ := bind_ok h
     obtain ⟨ob10p, h⟩ := chk_some h
     have ob10 : 0 ≤ (1 : Int) ∧ (1 : Int) < (((r2.2).length : Nat) : Int) := ⟨by omega, ob10p⟩
     obtain ⟨ob11, h⟩ := chk_some h
     refine q2rr [] [(3, ⟨[.str (r2.2.getD 1 [])], [], [], [], .int .i64 r6, [], [], []⟩)] [0, 2, 6] [2, 6] ⟨94, [(0, .str x1), (2, .ptr 2 0), (6, .ptr 6 0)], [(2, .cells 79 [.int .i64 (0 : Int), .int .i64 (0 : Int), .nils]), (6, .cells 79 [.int .i64 (2 : Int), .int .i64 r6, .nils])], [], 0⟩ (an5 ob10 ob11 (cpT (f82_ok _ _ hr6)) trivial trivial) ?_
     refine blockQ_normal ?_
     exact joinQ_normal (2, r6, []) (Le.trans (Le.trans (Le.nilOwnC 6 2 6102 24 3 (encF eIIS q2dIIS []) rfl rfl rfl) (Le.mk (s' := ⟨94, [(0, .str x1), (2, .ptr 2 0), (6, .ptr 6 0)], [(2, .cells 79 [.int .i64 (0 : Int), .int .i64 (0 : Int), .nils]), (6, .cells 79 [.int .i64 (2 : Int), .int .i64 r6, .own 6102]), (6102, q2bIIS_24 [])], [], 0⟩) rfl rfl ⟨.refl _, .refl _, .refl _, trivial⟩ ⟨⟨_, rfl, .refl _⟩, ⟨_, rfl, .refl _⟩, ⟨_, rfl, .refl _⟩, trivial⟩)) (Le.mk rfl rfl ⟨.refl _, .refl _, .refl _, trivial⟩ ⟨⟨_, rfl, .refl _⟩, ⟨_, rfl, .refl _⟩, ⟨_, rfl, .refl _⟩, trivial⟩)) h
    ·
     replace h := ite_fb hc3 h
     refine AWp.seq ?_
     obtain ⟨ob12p, h⟩ := chk_some h
     have ob12 : 0 ≤ (0 : Int) ∧ (0 : Int) < (((r2.2).length : Nat) : Int) := ⟨by omega, ob12p⟩
     obtain ⟨ob13, h⟩ := chk_some h
     have ob14 := idA ((((r2.2.getD 0 []) == cs12) == true) = true)
     obtain ⟨ob15, h⟩ := chk_some h
     have ob16 := ob14
     have ob17 := ob14
     have ob18 := bqA ((r2.2.getD 0 []) == cs12) true
     refine q2rr [] [] [0, 2, 4, 6, 43] [2, 6, 6001] ⟨94, [(0, .str x1), (2, .ptr 2 0), (4, .own 6001), (6, .ptr 6 0), (43, .bool (((r2.2.getD 0 []) == cs12) && (((((r2.2).length % 3) : Nat) : Int) == (1 : Int))))], [(2, .cells 79 [.int .i64 (0 : Int), .int .i64 (0 : Int), .nils]), (6, .cells 79 [.int .i64 (0 : Int), .int .i64 (0 : Int), .nils]), (6001, q2bS_9 r2.2)], [], 0⟩ (an6 ob12 ob13 (an1 ob14) (And.intro ob15 (an1 ob16)) (an1 ob17) ob18) ?_
     refine thenQ_normal ?_
     refine AWp.cond (b := (((r2.2.getD 0 []) == cs12) && (((((r2.2).length % 3) : Nat) : Int) == (1 : Int)))) (by kernel_rfl) (fun hc4 => ?_) (fun hc4 => ?_)
     ·
      replace h := ite_tb hc4 h
      refine q2rq [] [] [0, 2, 4, 6] [2, 6, 6001] ⟨94, [(0, .str x1), (2, .ptr 2 0), (4, .own 6001), (6, .ptr 6 0)], [(2, .cells 79 [.int .i64 (0 : Int), .int .i64 (0 : Int), .nils]), (6, .cells 79 [.int .i64 (1 : Int), .int .i64 (0 : Int), .nils]), (6001, q2bS_9 r2.2)], [], 0⟩ (an1 trivial) ?_
      refine q2rq [] [] [0, 2, 4, 6, 7] [2, 6, 6001] ⟨94, [(0, .str x1), (2, .ptr 2 0), (4, .own 6001), (6, .ptr 6 0), (7, .int .i64 (1 : Int))], [(2, .cells 79 [.int .i64 (0 : Int), .int .i64 (0 : Int), .nils]), (6, .cells 79 [.int .i64 (1 : Int), .int .i64 (0 : Int), .nils]), (6001, q2bS_9 r2.2)], [], 0⟩ trivial ?_
      refine AWp.block ?_
      refine AWp.loopL (α := Nat × (Nat × (List Tq1))) (fun x => match x with | (_, n7, l8) => ⟨94, [(0, .str x1), (2, .ptr 2 0), (4, .own 6001), (6, .ptr 6 0), (7, .int .i64 (n7 : Int))], [(2, .cells 79 [.int .i64 (0 : Int), .int .i64 (0 : Int), .nils]), (6, .cells 79 [.int .i64 (1 : Int), .int .i64 (0 : Int), .own 6102]), (6001, q2bS_9 r2.2), (6102, q2bIIS_24 l8)], [], 0⟩) (fun x => f46_L0 r2 K1 x.1 x.2 = some r) (fun x => x.1) (FUEL, 1, []) (Le.trans (Le.trans (Le.nilOwnC 6 2 6102 24 3 (encF eIIS q2dIIS []) rfl rfl rfl) (Le.mk (s' := ⟨94, [(0, .str x1), (2, .ptr 2 0), (4, .own 6001), (6, .ptr 6 0), (7, .int .i64 (1 : Int))], [(2, .cells 79 [.int .i64 (0 : Int), .int .i64 (0 : Int), .nils]), (6, .cells 79 [.int .i64 (1 : Int), .int .i64 (0 : Int), .own 6102]), (6001, q2bS_9 r2.2), (6102, q2bIIS_24 [])], [], 0⟩) rfl rfl ⟨.refl _, .refl _, .refl _, .refl _, .refl _, trivial⟩ ⟨⟨_, rfl, .refl _⟩, ⟨_, rfl, .refl _⟩, ⟨_, rfl, .refl _⟩, ⟨_, rfl, .refl _⟩, trivial⟩)) (Le.mk (s' := ⟨94, [(0, .str x1), (2, .ptr 2 0), (4, .own 6001), (6, .ptr 6 0), (7, .int .i64 (1 : Int))], [(2, .cells 79 [.int .i64 (0 : Int), .int .i64 (0 : Int), .nils]), (6, .cells 79 [.int .i64 (1 : Int), .int .i64 (0 : Int), .own 6102]), (6001, q2bS_9 r2.2), (6102, q2bIIS_24 [])], [], 0⟩) rfl rfl ⟨.refl _, .refl _, .refl _, .refl _, .refl _, trivial⟩ ⟨⟨_, rfl, .refl _⟩, ⟨_, rfl, .refl _⟩, ⟨_, rfl, .refl _⟩, ⟨_, rfl, .refl _⟩, trivial⟩)) h ?_
      rintro ⟨k0, n7, l8⟩ h
      cases k0 with
      | zero => exact nomatch (show (none : Option (Int × Int × (List Tq1) × Int)) = some r from h)
      | succ k0 =>
      obtain ⟨C0, hC0⟩ : ∃ C, C = f46_L0 r2 K1 k0 := ⟨_, rfl⟩
      replace h := (f46_L0.eq_2 ..).symm.trans h
      try rw [← hC0] at h
      refine AWp.seq ?_
      refine q2rq [] [] [0, 2, 4, 6, 7, 58] [2, 6, 6001, 6102] ⟨94, [(0, .str x1), (2, .ptr 2 0), (4, .own 6001), (6, .ptr 6 0), (7, .int .i64 (n7 : Int)), (58, .bool (decide ((n7 : Int) < (((r2.2).length : Nat) : Int))))], [(2, .cells 79 [.int .i64 (0 : Int), .int .i64 (0 : Int), .nils]), (6, .cells 79 [.int .i64 (1 : Int), .int .i64 (0 : Int), .own 6102]), (6001, q2bS_9 r2.2), (6102, q2bIIS_24 l8)], [], 0⟩ trivial ?_
      refine AWp.cond (b := (decide ((n7 : Int) < (((r2.2).length : Nat) : Int)))) (by kernel_rfl) (fun hc5 => ?_) (fun hc5 => ?_)
      ·
       replace h := ite_tb hc5 h
       refine AWp.skip ?_
       refine thenQ_normal ?_
       refine AWp.seq ?_
       refine AWp.block ?_
       obtain ⟨r9, hr9, h⟩ := bind_ok h
       obtain ⟨r10, hr10, h⟩ := bind_ok h
       obtain ⟨ob19p, h⟩ := chk_some h
       have ob19 : 0 ≤ (n7 : Int) ∧ (n7 : Int) < (((r2.2).length : Nat) : Int) := ⟨by omega, ob19p⟩
       obtain ⟨ob20, h⟩ := chk_some h
       obtain ⟨ob21p, h⟩ := chk_some h
       have ob21 : -9223372036854775808 ≤ ((n7 : Int) + (1 : Int)) ∧ ((n7 : Int) + (1 : Int)) ≤ 9223372036854775807 := ⟨by omega, ob21p⟩
       obtain ⟨ob22p, h⟩ := chk_some h
       have ob22 : 0 ≤ (((n7 + 1) : Nat) : Int) ∧ (((n7 + 1) : Nat) : Int) < (((r2.2).length : Nat) : Int) := ⟨by omega, ob22p⟩
       obtain ⟨ob23, h⟩ := chk_some h
       obtain ⟨ob24p, h⟩ := chk_some h
       have ob24 : -9223372036854775808 ≤ ((n7 : Int) + (2 : Int)) ∧ ((n7 : Int) + (2 : Int)) ≤ 9223372036854775807 := ⟨by omega, ob24p⟩
       obtain ⟨ob25p, h⟩ := chk_some h
       have ob25 : 0 ≤ (((n7 + 2) : Nat) : Int) ∧ (((n7 + 2) : Nat) : Int) < (((r2.2).length : Nat) : Int) := ⟨by omega, ob25p⟩
       obtain ⟨ob26, h⟩ := chk_some h
       obtain ⟨ob27, h⟩ := chk_some h
       refine q2rr [] [(6, ⟨[.str (r2.2.getD n7 [])], [], [], [], .int .i64 r9, [], [], []⟩), (12, ⟨[.str (r2.2.getD (n7 + 1) [])], [], [], [], .int .i64 r10, [], [], []⟩)] [0, 2, 4, 6, 7] [2, 6, 6001, 6102] ⟨94, [(0, .str x1), (2, .ptr 2 0), (4, .own 6001), (6, .ptr 6 0), (7, .int .i64 (n7 : Int))], [(2, .cells 79 [.int .i64 (0 : Int), .int .i64 (0 : Int), .nils]), (6, .cells 79 [.int .i64 (1 : Int), .int .i64 (0 : Int), .own 6102]), (6001, q2bS_9 r2.2), (6102, .rows 24 3 ((l8).length + 1) (appF (l8).length (encF eIIS q2dIIS l8) (lstF 3 [.int .i64 r9, .int .i64 r10, .str (r2.2.getD (n7 + 2) [])])))], [], 0⟩ (ac6 ob19 ob20 (cpT (f82_ok _ _ hr9)) ob21 ob22 ob23 (an6 (cpT (f82_ok _ _ hr10)) ob24 ob25 ob26 ob27 trivial)) ?_
       refine blockQ_normal ?_
       refine thenQ_normal ?_
       refine AWp.le (Le.mk (s' := ⟨94, [(0, .str x1), (2, .ptr 2 0), (4, .own 6001), (6, .ptr 6 0), (7, .int .i64 (n7 : Int))], [(2, .cells 79 [.int .i64 (0 : Int), .int .i64 (0 : Int), .nils]), (6, .cells 79 [.int .i64 (1 : Int), .int .i64 (0 : Int), .own 6102]), (6001, q2bS_9 r2.2), (6102, q2bIIS_24 (l8 ++ [(r9, r10, (r2.2.getD (n7 + 2) []))]))], [], 0⟩) rfl rfl ⟨.refl _, .refl _, .refl _, .refl _, .refl _, trivial⟩ ⟨⟨_, rfl, .refl _⟩, ⟨_, rfl, .refl _⟩, ⟨_, rfl, .refl _⟩, ⟨_, rfl, (BLe.of (RL.app (RL.self _) (RL.lst (enc := eIIS) [(r9, r10, (r2.2.getD (n7 + 2) []))] rfl rfl (fun _ => rfl))))⟩, trivial⟩) ?_
       obtain ⟨ob28p, h⟩ := chk_some h
       have ob28 : -9223372036854775808 ≤ ((n7 : Int) + (3 : Int)) ∧ ((n7 : Int) + (3 : Int)) ≤ 9223372036854775807 := ⟨by omega, ob28p⟩
       refine q2rr [] [] [0, 2, 4, 6, 7] [2, 6, 6001, 6102] ⟨94, [(0, .str x1), (2, .ptr 2 0), (4, .own 6001), (6, .ptr 6 0), (7, .int .i64 (((n7 + 3) : Nat) : Int))], [(2, .cells 79 [.int .i64 (0 : Int), .int .i64 (0 : Int), .nils]), (6, .cells 79 [.int .i64 (1 : Int), .int .i64 (0 : Int), .own 6102]), (6001, q2bS_9 r2.2), (6102, q2bIIS_24 (l8 ++ [(r9, r10, (r2.2.getD (n7 + 2) []))]))], [], 0⟩ (an1 ob28) ?_
       rw [hC0] at h
       exact loopQ_normal (_, (n7 + 3), (l8 ++ [(r9, r10, (r2.2.getD (n7 + 2) []))])) (Le.mk rfl rfl ⟨.refl _, .refl _, .refl _, .refl _, .refl _, trivial⟩ ⟨⟨_, rfl, .refl _⟩, ⟨_, rfl, .refl _⟩, ⟨_, rfl, .refl _⟩, ⟨_, rfl, .refl _⟩, trivial⟩) h (Nat.lt_succ_self _)
      ·
       replace h := ite_fb hc5 h
       refine AWp.exit ?_
       refine thenQ_exit ?_
       refine thenQ_exit ?_
       refine blockQ_same ?_
       refine blockQ_normal ?_
       exact joinQ_normal (1, (0 : Int), l8) (Le.mk rfl rfl ⟨.refl _, .refl _, .refl _, trivial⟩ ⟨⟨_, rfl, .refl _⟩, ⟨_, rfl, .refl _⟩, ⟨_, rfl, .refl _⟩, trivial⟩) h
     ·
      replace h := ite_fb hc4 h
      refine AWp.skip ?_
      refine blockQ_normal ?_
      exact joinQ_normal (0, (0 : Int), []) (Le.trans (Le.trans (Le.nilOwnC 6 2 6102 24 3 (encF eIIS q2dIIS []) rfl rfl rfl) (Le.mk (s' := ⟨94, [(0, .str x1), (2, .ptr 2 0), (4, .own 6001), (6, .ptr 6 0), (43, .bool (((r2.2.getD 0 []) == cs12) && (((((r2.2).length % 3) : Nat) : Int) == (1 : Int))))], [(2, .cells 79 [.int .i64 (0 : Int), .int .i64 (0 : Int), .nils]), (6, .cells 79 [.int .i64 (0 : Int), .int .i64 (0 : Int), .own 6102]), (6001, q2bS_9 r2.2), (6102, q2bIIS_24 [])], [], 0⟩) rfl rfl ⟨.refl _, .refl _, .refl _, .refl _, .refl _, trivial⟩ ⟨⟨_, rfl, .refl _⟩, ⟨_, rfl, .refl _⟩, ⟨_, rfl, .refl _⟩, ⟨_, rfl, .refl _⟩, trivial⟩)) (Le.mk rfl rfl ⟨.refl _, .refl _, .refl _, trivial⟩ ⟨⟨_, rfl, .refl _⟩, ⟨_, rfl, .refl _⟩, ⟨_, rfl, .refl _⟩, trivial⟩)) h
  ·
   rintro ⟨n3, i4, l5⟩ h
   replace h := (congrFun hK1 _).symm.trans h
   refine AWp.seq ?_
   refine AWp.seq ?_
   obtain ⟨r11, hr11, h⟩ := bind_ok h
   obtain ⟨r12, hr12, h⟩ := optc_some h
   have ob29 := idA (((r11 != (0 : Int)) == false) = true)
   have ob30 := ob29
   have ob31 := ob29
   have ob32 := bqA (r11 != (0 : Int)) false
   refine q2rr [] [(1, ⟨[.agg [.int .i64 (n3 : Int), .int .i64 i4, q2aIIS l5]], [], [], [], .int .i64 r11, [], [6102], []⟩), (5, ⟨[.agg [.int .i64 (n3 : Int), .int .i64 i4, q2aIIS l5]], [], [], [], .str r12, [], [6102], []⟩)] [2, 6, 91] [2, 6, 6102] ⟨94, [(2, .ptr 2 0), (6, .ptr 6 0), (91, .bool ((r11 != (0 : Int)) || (!(r12 == x1))))], [(2, .cells 79 [.int .i64 (0 : Int), .int .i64 (0 : Int), .nils]), (6, .cells 79 [.int .i64 (n3 : Int), .int .i64 i4, .own 6102]), (6102, q2bIIS_24 l5)], [], 0⟩ (an4 (cpL (c := true) [(6102, q2bIIS_24 l5)] [6102] [.agg [.int .i64 (n3 : Int), .int .i64 i4, .own 6102]] (fun _ => (f41_ok _ _ _ _ hr11)) (fun _ => ⟨.refl _, trivial⟩) (.inr ⟨rfl, trivial⟩)) (And.intro (cpL [(6102, q2bIIS_24 l5)] [6102] [.agg [.int .i64 (n3 : Int), .int .i64 i4, .own 6102]] (fun hc => (f74_ok _ _ _ _ (hr12 hc))) (fun _ => ⟨.refl _, trivial⟩) (.inr ⟨rfl, trivial⟩)) (an1 ob29)) (an2 ob30 ob31) ob32) ?_
   refine thenQ_normal ?_
   refine AWp.cond (b := ((r11 != (0 : Int)) || (!(r12 == x1)))) (by kernel_rfl) (fun hc6 => ?_) (fun hc6 => ?_)
   ·
    replace h := ite_tb hc6 h
    refine q2rq [] [] [2, 3] [2] ⟨94, [(2, .ptr 2 0), (3, .int .i64 (2 : Int))], [(2, .cells 79 [.int .i64 (0 : Int), .int .i64 (0 : Int), .nils])], [], 0⟩ (an1 trivial) ?_
    have hret := Option.some.inj h
    subst hret
    refine AWp.le (Le.mk (s' := ⟨94, [(2, .ptr 2 0), (3, .int .i64 (2 : Int))], [(2, .cells 79 [.int .i64 (0 : Int), .int .i64 (0 : Int), q2aIIS []])], [], 0⟩) rfl rfl ⟨.refl _, .refl _, trivial⟩ ⟨⟨_, rfl, (.cellsL ⟨.refl _, .refl _, .nilL, trivial⟩)⟩, trivial⟩) ?_
    refine AWp.ret ?_
    refine thenQ_ret ?_
    exact bodyQ_ret _ rfl ⟨rfl, rfl⟩ rfl
   ·
    replace h := ite_fb hc6 h
    refine AWp.skip ?_
    refine thenQ_normal ?_
    refine q2rq [] [] [2, 3] [2, 6102] ⟨94, [(2, .ptr 2 0), (3, .int .i64 (0 : Int))], [(2, .cells 79 [.int .i64 (n3 : Int), .int .i64 i4, .own 6102]), (6102, q2bIIS_24 l5)], [], 0⟩ (an1 trivial) ?_
    refine AWp.le (Le.trans (Le.freeze 6102 rfl rfl) (Le.mk (s' := ⟨94, [(2, .ptr 2 0), (3, .int .i64 (0 : Int))], [(2, .cells 79 [.int .i64 (n3 : Int), .int .i64 i4, q2aIIS l5])], [], 0⟩) rfl rfl ⟨.refl _, .refl _, trivial⟩ ⟨⟨_, rfl, .refl _⟩, trivial⟩)) ?_
    have hret := Option.some.inj h
    subst hret
    refine AWp.le (Le.mk (s' := ⟨94, [(2, .ptr 2 0), (3, .int .i64 (0 : Int))], [(2, .cells 79 [.int .i64 (n3 : Int), .int .i64 i4, q2aIIS l5])], [], 0⟩) rfl rfl ⟨.refl _, .refl _, trivial⟩ ⟨⟨_, rfl, .refl _⟩, trivial⟩) ?_
    refine AWp.ret ?_
    exact bodyQ_ret _ rfl ⟨rfl, rfl⟩ rfl
end Go.Abs
