/- Part 26 of the proof: Pl49, Aw49, Ses49, App49, Open4, F49Law3. -/
import Derived.Test.YteiljhpgpdmmeaaDoorSerepZ25
import Derived.Lib.SplitLaws
import Derived.Lib.ItoaLen
import Derived.Lib.ItoaMem
namespace Go.Abs
def badB (b : UInt8) : Bool := decide (((b.toNat : Nat) : Int) < 33) || decide (((b.toNat : Nat) : Int) > 126)
/-- 1 to n bytes from 33 to 126 -/
def gr (s : List UInt8) (n : Int) : Bool := !s.any badB && (!(s == []) && decide (((s.length : Nat) : Int) ≤ n))
theorem gr_ne {s : List UInt8} {n : Int} (h : gr s n = true) : (s == []) = false := by
  unfold gr at h
  cases hs : s == []
  · rfl
  · rw [hs] at h; simp at h
theorem f52_eq (s : List UInt8) (n : Int) (hs : s.length ≤ 9223372036854775807) : f52 s n = some (gr s n) := by
  simp only [f52, jn]
  rw [any_up (fun k n => f52_L0 s _ k n) s 0 badB (some false) _ (fun k n hn => by
    show f52_L0 s _ (k + 1) n = _
    conv => lhs; unfold f52_L0
    rw [ifd_pos (by omega), chk_pos (by omega), chk_pos (fun _ => by omega)]
    show (if badB (s.getD n 0) = true then some false else _) = _
    rw [chk_pos (by omega)]) (fun k => by
    show f52_L0 s _ (k + 1) _ = _
    conv => lhs; unfold f52_L0
    rw [ifd_neg (by omega)]) FUEL (fuel_lt (by omega))]
  unfold gr
  cases s.any badB <;> simp
def fld (s : List UInt8) (b : Bool) : Bool := if b then gr s 64 else s == []
theorem f45_eq (s : List UInt8) (b : Bool) (hs : s.length ≤ 9223372036854775807) : f45 s b = some (fld s b) := by
  unfold f45 fld
  cases b
  · rfl
  · rw [f52_eq s 64 hs]; rfl
def kd (k : Int) : List UInt8 × Bool × Bool × Bool :=
  if k = 1 then ([112, 117, 116], true, false, true) else if k = 2 then ([103, 101, 116], true, false, false) else if k = 3 then (cs4, true, false, false) else
  if k = 4 then (cs5, true, false, true) else if k = 5 then ([99, 97, 115], true, true, true) else if k = 6 then (cs6, false, false, false) else ([], false, false, false)
def isK (k : Int) : Bool := decide (1 ≤ k) && decide (k ≤ 6)
def okOp (k : Int) (a b c : List UInt8) : Bool := isK k && fld a (kd k).2.1 && fld b (kd k).2.2.1 && fld c (kd k).2.2.2
theorem kinds (k : Int) : k = 1 ∨ k = 2 ∨ k = 3 ∨ k = 4 ∨ k = 5 ∨ k = 6 ∨ isK k = false := by
  unfold isK
  by_cases h1 : 1 ≤ k
  · by_cases h2 : k ≤ 6
    · omega
    · simp [h1, h2]
  · simp [h1]
theorem isK_not {k : Int} (h : isK k = false) : k ≠ 1 ∧ k ≠ 2 ∧ k ≠ 3 ∧ k ≠ 4 ∧ k ≠ 5 ∧ k ≠ 6 := by
  refine ⟨?_, ?_, ?_, ?_, ?_, ?_⟩ <;> (rintro rfl; cases h)
theorem hasM31 (k : Int) : hasM mk26 k = isK k := by
  rcases kinds k with rfl | rfl | rfl | rfl | rfl | rfl | h
  iterate 6 rfl
  rw [h]
  obtain ⟨h1, h2, h3, h4, h5, h6⟩ := isK_not h
  simp [hasM, mk26, idxL, h1, h2, h3, h4, h5, h6]
theorem getM31 (k : Int) : getM mk26 mv26 (default : List UInt8 × Bool × Bool × Bool) ([], false, false, false) k = kd k := by
  rcases kinds k with rfl | rfl | rfl | rfl | rfl | rfl | h
  iterate 6 rfl
  obtain ⟨h1, h2, h3, h4, h5, h6⟩ := isK_not h
  simp [getM, mk26, idxL, kd, h1, h2, h3, h4, h5, h6]
theorem f29_eq (k : Int) (a b c : List UInt8) (ha : a.length ≤ 9223372036854775807) (hb : b.length ≤ 9223372036854775807) (hc : c.length ≤ 9223372036854775807) :
    f29 k a b c = some ((kd k).1, (kd k).2.1, (kd k).2.2.1, (kd k).2.2.2, okOp k a b c) := by
  unfold f29 f26 okOp
  rw [some_bind, hasM31, getM31, f45_eq a _ ha, f45_eq b _ hb, f45_eq c _ hc]
  cases isK k <;> cases fld a (kd k).2.1 <;> cases fld b (kd k).2.2.1 <;> cases fld c (kd k).2.2.2 <;> rfl
/-- the text of an operation -/
def txt (k : Int) (a b c : List UInt8) : List UInt8 := (kd k).1 ++ (if a == [] then [] else 32 :: a) ++ (if b == [] then [] else 32 :: b) ++ (if c == [] then [] else 32 :: c)
theorem kd_len (k : Int) : (kd k).1.length ≤ 6 := by
  rcases kinds k with rfl | rfl | rfl | rfl | rfl | rfl | h
  iterate 6 decide
  obtain ⟨h1, h2, h3, h4, h5, h6⟩ := isK_not h
  simp [kd, h1, h2, h3, h4, h5, h6]
theorem gr_len {s : List UInt8} {n : Int} (h : gr s n = true) : (s.length : Int) ≤ n := by
  unfold gr at h
  simp only [Bool.and_eq_true, decide_eq_true_eq] at h
  exact h.2.2
theorem fld_len {s : List UInt8} {b : Bool} (h : fld s b = true) : s.length ≤ 64 := by
  unfold fld at h
  cases b
  · simp at h; subst h; simp
  · have := gr_len h; omega
theorem ok_len {k : Int} {a b c : List UInt8} (h : okOp k a b c = true) : a.length ≤ 64 ∧ b.length ≤ 64 ∧ c.length ≤ 64 := by
  unfold okOp at h
  simp only [Bool.and_eq_true] at h
  exact ⟨fld_len h.1.1.2, fld_len h.1.2, fld_len h.2⟩
theorem fuel_succ : ∃ k, FUEL = k + 5 := ⟨FUEL - 5, by unfold FUEL; omega⟩
theorem joinP_some {l : List (List UInt8)} {r : List UInt8} (h : Lib.join l [32] = r) (h1 : r.length ≤ 140737488355328) (h2 : l.length ≤ 140737488355328) : joinP l [32] = some r := by
  unfold joinP
  rw [h, if_pos ⟨h1, h2⟩]
theorem f28_eq (k : Int) (a b c : List UInt8) (ha : a.length ≤ 9223372036854775807) (hb : b.length ≤ 9223372036854775807) (hc : c.length ≤ 9223372036854775807) :
    f28 k a b c = some (if okOp k a b c = true then (txt k a b c, 0) else ([], 1)) := by
  unfold f28
  rw [f29_eq k a b c ha hb hc, some_bind]
  have hlen := @ok_len k a b c
  revert hlen
  cases okOp k a b c
  · intro _; rfl
  intro hlen
  have hlen := hlen rfl
  have hk := kd_len k
  simp only [Bool.not_true, Bool.false_eq_true, if_false, if_true]
  obtain ⟨q, hq⟩ := fuel_succ
  simp only [jn]
  rw [hq]
  generalize hw : (kd k).1 = w at hk
  have step : ∀ K, f28_L0 a b c K (q + 5) (0, [w]) = K ([w] ++ (if a == [] then [] else [a]) ++ (if b == [] then [] else [b]) ++ (if c == [] then [] else [c])) := by
    intro K
    cases ha : a == [] <;> cases hb : b == [] <;> cases hc : c == [] <;> simp [f28_L0, ha, hb, hc, chk, jn]
  rw [step]
  unfold f44
  have hj : Lib.join ([w] ++ (if a == [] then [] else [a]) ++ (if b == [] then [] else [b]) ++ (if c == [] then [] else [c])) [32] = txt k a b c := by
    unfold txt
    rw [hw]
    cases ha : a == [] <;> cases hb : b == [] <;> cases hc : c == [] <;> simp [Lib.join, List.intercalate]
  have hl : (txt k a b c).length ≤ 140737488355328 := by
    unfold txt
    rw [hw]
    cases ha : a == [] <;> cases hb : b == [] <;> cases hc : c == [] <;> simp <;> omega
  rw [joinP_some hj hl (by cases ha : a == [] <;> cases hb : b == [] <;> cases hc : c == [] <;> simp)]
  rfl
/-- the parts between spaces -/
def spl : List UInt8 → List (List UInt8)
  | [] => [[]]
  | c :: l => if c = 32 then [] :: spl l else match spl l with
    | [] => [[c]]
    | w :: r => (c :: w) :: r
theorem spl_ne (l : List UInt8) : ∃ w r, spl l = w :: r := by
  cases l with
  | nil => exact ⟨_, _, rfl⟩
  | cons c l =>
    unfold spl
    split
    · exact ⟨_, _, rfl⟩
    · split <;> exact ⟨_, _, rfl⟩
theorem spl_cons {c : UInt8} {l w : List UInt8} {r : List (List UInt8)} (hc : c ≠ 32) (h : spl l = w :: r) : spl (c :: l) = (c :: w) :: r := by
  conv => lhs; unfold spl
  rw [if_neg hc, h]
theorem spl_sp (l : List UInt8) : spl (32 :: l) = [] :: spl l := rfl
theorem split_spl : ∀ l : List UInt8, Lib.split l [32] = spl l
  | [] => by
    unfold Lib.split
    rw [Lib.count_one]; rfl
  | b :: l => by
    have ih := split_spl l
    have hp : ([32] : List UInt8).isPrefixOf (b :: l) = (b == 32) := by simp [List.isPrefixOf, BEq.comm]
    by_cases h : b = 32
    · subst h
      have hix : Lib.index (32 :: l) [32] = 0 := by rw [Lib.index]; simp [List.isPrefixOf]
      have hc : Lib.count (32 :: l) [32] = Lib.count l [32] + 1 := by rw [Lib.count_cons_eq]; omega
      unfold Lib.split at ih ⊢
      rw [hc]
      unfold Lib.splitK
      rw [hix, if_neg (by decide), spl_sp, ← ih]
      rfl
    · have hix : Lib.index (b :: l) [32] = if Lib.index l [32] == -1 then -1 else Lib.index l [32] + 1 := by
        rw [Lib.index, hp]; simp [h]
      have hc : Lib.count (b :: l) [32] = Lib.count l [32] := Lib.count_cons_ne b 32 l h
      unfold Lib.split at ih ⊢
      rw [hc]
      by_cases hm : Lib.index l [32] = -1
      · rw [Lib.count_miss hm] at ih ⊢
        rw [spl_cons h ih.symm]
        rfl
      · have hge := Lib.index_ge l [32]
        obtain ⟨j, hj⟩ : ∃ j : Nat, Lib.index l [32] = j := ⟨(Lib.index l [32]).toNat, by omega⟩
        obtain ⟨m, hm'⟩ : ∃ m, Lib.count l [32] = m + 1 := ⟨Lib.count (l.drop (j + ([32] : List UInt8).length)) [32], by rw [Lib.count_hit (by simp) hj]; omega⟩
        rw [hm'] at ih ⊢
        unfold Lib.splitK at ih ⊢
        have hm1 : ¬ (Lib.index l [32] == -1) = true := by simpa using hm
        rw [hix, if_neg hm1]
        rw [if_neg hm1] at ih
        rw [spl_cons h ih.symm, if_neg (by simp; omega)]
        have e1 : (Lib.index l [32] + 1).toNat + 0 = (Lib.index l [32]).toNat + 0 + 1 := by omega
        have e2 : (Lib.index l [32] + 1).toNat + [32].length = (Lib.index l [32]).toNat + ([32] : List UInt8).length + 1 := by simp; omega
        rw [e1, List.take_succ_cons]
        congr 1
        have e2' : (Lib.index l [32] + 1).toNat + ([32] : List UInt8).length = ((Lib.index l [32]).toNat + ([32] : List UInt8).length) + 1 := by simp; omega
        rw [e2', List.drop_succ_cons]
theorem spl_mem : ∀ (l : List UInt8) (w : List UInt8), w ∈ spl l → w.length ≤ l.length
  | [], w, h => by
    simp [spl] at h; subst h; exact Nat.le_refl _
  | c :: l, w, h => by
    by_cases hc : c = 32
    · subst hc
      rw [spl_sp] at h
      rcases List.mem_cons.1 h with rfl | h
      · exact Nat.zero_le _
      · have := spl_mem l w h; simp; omega
    · obtain ⟨v, r, hv⟩ := spl_ne l
      rw [spl_cons hc hv] at h
      rcases List.mem_cons.1 h with rfl | h
      · have := spl_mem l v (by rw [hv]; exact List.mem_cons_self ..); simp; omega
      · have := spl_mem l w (by rw [hv]; exact List.mem_cons_of_mem _ h); simp; omega
/-- a word has no space -/
def noSp (w : List UInt8) : Prop := ∀ c, c ∈ w → c ≠ 32
theorem spl_word : ∀ (w : List UInt8), noSp w → spl w = [w]
  | [], _ => rfl
  | c :: w, h => spl_cons (h c (List.mem_cons_self ..)) (spl_word w fun d hd => h d (List.mem_cons_of_mem _ hd))
theorem spl_app : ∀ (w l : List UInt8), noSp w → spl (w ++ 32 :: l) = w :: spl l
  | [], _l, _ => rfl
  | c :: w, l, h => spl_cons (h c (List.mem_cons_self ..)) (spl_app w l fun d hd => h d (List.mem_cons_of_mem _ hd))
theorem gr_sp {s : List UInt8} {n : Int} (h : gr s n = true) : noSp s := by
  rintro c hc rfl
  unfold gr at h
  have : s.any badB = true := List.any_eq_true.2 ⟨32, hc, by decide⟩
  rw [this] at h
  cases h
theorem kd_sp (k : Int) : noSp (kd k).1 := by
  have : ∀ c, c ∈ (kd k).1 → (c == 32) = false := by
    have : (kd k).1.all (fun c => !(c == 32)) = true := by
      rcases kinds k with rfl | rfl | rfl | rfl | rfl | rfl | h
      iterate 6 rfl
      obtain ⟨h1, h2, h3, h4, h5, h6⟩ := isK_not h
      simp [kd, h1, h2, h3, h4, h5, h6]
    intro c hc
    simpa using List.all_eq_true.1 this c hc
  intro c hc e
  have := this c hc
  simp [e] at this
abbrev OpR := Int × List UInt8 × List UInt8 × List UInt8 × Int
theorem nextO_of {R : Type} [DecidableEq R] {n : Nat} {seen : List Nat} {K : Nat → Option R} {E : Option R} {r : R} (h1 : ∀ j, j < n → j ∉ seen → K j = some r) (h2 : (∀ j, j < n → j ∈ seen) → E = some r) : nextO n seen K E = some r := by
  have hm : ∀ j, j ∈ (List.range n).filter (fun j => !seen.contains j) ↔ j < n ∧ j ∉ seen := by
    intro j
    rw [List.mem_filter, List.mem_range]
    simp
  unfold nextO
  split
  · rename_i he
    refine h2 fun j hj => Decidable.byContradiction fun hs => ?_
    have := (hm j).2 ⟨hj, hs⟩
    rw [he] at this; cases this
  · rename_i l hl
    have hall : ∀ y, y ∈ ((List.range n).filter (fun j => !seen.contains j)).map K → y = some r := by
      intro y hy
      obtain ⟨j, hj, rfl⟩ := List.mem_map.1 hy
      have := (hm j).1 hj
      exact h1 j this.1 this.2
    revert hall
    generalize (List.range n).filter (fun j => !seen.contains j) = l at hl
    intro hall
    cases l with
    | nil => exact absurd rfl hl
    | cons a l =>
      simp only [List.map_cons, agree]
      rw [hall (K a) (List.mem_cons_self ..), if_pos]
      rw [List.all_eq_true]
      intro y hy
      exact decide_eq_true (hall y (List.mem_cons_of_mem _ hy))
def tk (b : Bool) (l : List (List UInt8)) : List UInt8 × List (List UInt8) := if (!b || l.length == 0) = true then ([], l) else (l.getD 0 [], l.drop 1)
theorem f27_eq (b : Bool) (l : List (List UInt8)) : f27 b l = some (tk b l) := by
  unfold f27 tk
  cases b
  · rfl
  · cases l with
    | nil => rfl
    | cons a l =>
      simp [chk]
      rw [if_neg (by omega), if_pos (by omega)]
theorem tk_len (b : Bool) (l : List (List UInt8)) (m : Nat) (h : ∀ w, w ∈ l → w.length ≤ m) : (tk b l).1.length ≤ m ∧ ∀ w, w ∈ (tk b l).2 → w.length ≤ m := by
  unfold tk
  split
  · exact ⟨Nat.zero_le _, h⟩
  · cases l with
    | nil => exact ⟨Nat.zero_le _, fun w hw => by simp at hw⟩
    | cons a l => exact ⟨h a (List.mem_cons_self ..), fun w hw => h w (List.mem_cons_of_mem _ (by simpa using hw))⟩
/-- what the program tries at an entry of the forms -/
def tryP (x : List UInt8) (l : List (List UInt8)) (j : Nat) : Option OpR :=
  let v := mv26.getD j (default : List UInt8 × Bool × Bool × Bool)
  if v.1 == l.getD 0 [] then
    let r7 := tk v.2.1 (l.drop 1); let r8 := tk v.2.2.1 r7.2; let r9 := tk v.2.2.2 r8.2
    if okOp (mk26.getD j 0) r7.1 r8.1 r9.1 && (txt (mk26.getD j 0) r7.1 r8.1 r9.1 == x) then some (mk26.getD j 0, r7.1, r8.1, r9.1, 0) else none
  else none
theorem f13_step (x : List UInt8) (K : Unit → Option OpR) (k : Nat) (l : List (List UInt8)) (seen : List Nat) (m : Nat) (hm : m ≤ 1000000) (h0 : 0 < l.length) (hl : ∀ w, w ∈ l → w.length ≤ m) :
    f13_L0 x K (k + 1) (l, seen) = nextO 6 seen (fun j => match tryP x l j with | some r => some r | none => f13_L0 x K k (l, seen ++ [j])) (K ()) := by
  have h6 : mk26.length = 6 := rfl
  conv => lhs; unfold f13_L0
  rw [h6]
  congr 1
  funext j
  rw [chk_pos (by omega)]
  unfold tryP
  simp only []
  cases hw : (mv26.getD j (default : List UInt8 × Bool × Bool × Bool)).1 == l.getD 0 []
  · rfl
  · simp only [Bool.not_true, Bool.false_eq_true, if_false, if_true]
    rw [chk_pos (by omega), f27_eq, some_bind, f27_eq, some_bind, f27_eq, some_bind]
    obtain ⟨a1, a2⟩ := tk_len (mv26.getD j (default : List UInt8 × Bool × Bool × Bool)).2.1 (l.drop 1) m (fun w hw => hl w (List.mem_of_mem_drop hw))
    generalize tk (mv26.getD j (default : List UInt8 × Bool × Bool × Bool)).2.1 (l.drop 1) = r7 at *
    obtain ⟨b1, b2⟩ := tk_len (mv26.getD j (default : List UInt8 × Bool × Bool × Bool)).2.2.1 r7.2 m a2
    generalize tk (mv26.getD j (default : List UInt8 × Bool × Bool × Bool)).2.2.1 r7.2 = r8 at *
    obtain ⟨c1, c2⟩ := tk_len (mv26.getD j (default : List UInt8 × Bool × Bool × Bool)).2.2.2 r8.2 m b2
    generalize tk (mv26.getD j (default : List UInt8 × Bool × Bool × Bool)).2.2.2 r8.2 = r9 at *
    rw [f28_eq _ _ _ _ (by omega) (by omega) (by omega), some_bind]
    cases okOp (mk26.getD j 0) r7.1 r8.1 r9.1
    · rfl
    · simp only [if_true, Bool.true_and, beq_self_eq_true]
      cases txt (mk26.getD j 0) r7.1 r8.1 r9.1 == x <;> rfl
theorem f13_all (x : List UInt8) (K : Unit → Option OpR) (l : List (List UInt8)) (m : Nat) (hm : m ≤ 1000000) (h0 : 0 < l.length) (hl : ∀ w, w ∈ l → w.length ≤ m) (r : OpR) (S : Nat → Prop)
    (h1 : ∀ j, j < 6 → S j → tryP x l j = some r) (h2 : ∀ j, j < 6 → ¬ S j → tryP x l j = none) (h3 : (∀ j, j < 6 → ¬ S j) → K () = some r) :
    ∀ k seen, seen.Nodup → (∀ j, j ∈ seen → j < 6 ∧ ¬ S j) → 6 < k + seen.length → f13_L0 x K k (l, seen) = some r
  | 0, seen, hn, hs, hk => by
    have : seen.length ≤ (List.range 6).length := hn.length_le_of_subset fun j hj => List.mem_range.2 (hs j hj).1
    simp at this
    omega
  | k + 1, seen, hn, hs, hk => by
    rw [f13_step x K k l seen m hm h0 hl]
    refine nextO_of (fun j hj hns => ?_) fun hall => h3 fun j hj => (hs j (hall j hj)).2
    by_cases hS : S j
    · rw [h1 j hj hS]
    · rw [h2 j hj hS]
      refine f13_all x K l m hm h0 hl r S h1 h2 h3 k (seen ++ [j]) ?_ ?_ (by simp; omega)
      · rw [List.nodup_append]
        exact ⟨hn, by simp, fun a ha b hb => by rintro rfl; simp at hb; subst hb; exact hns ha⟩
      · intro i hi
        rcases List.mem_append.1 hi with hi | hi
        · exact hs i hi
        · simp at hi; subst hi; exact ⟨hj, hS⟩
/-- the parts of the text of a valid operation -/
def flds (a b c : List UInt8) : List (List UInt8) := (if a == [] then [] else [a]) ++ (if b == [] then [] else [b]) ++ (if c == [] then [] else [c])
theorem fld_sp {s : List UInt8} {b : Bool} (h : fld s b = true) : noSp s := by
  unfold fld at h
  cases b
  · simp at h; subst h; intro c hc; cases hc
  · exact gr_sp h
theorem spl_txt {k : Int} {a b c : List UInt8} (h : okOp k a b c = true) : spl (txt k a b c) = (kd k).1 :: flds a b c := by
  unfold okOp at h
  simp only [Bool.and_eq_true] at h
  obtain ⟨⟨⟨h0, h1⟩, h2⟩, h3⟩ := h
  have s0 := kd_sp k
  have s1 := fld_sp h1
  have s2 := fld_sp h2
  have s3 := fld_sp h3
  unfold txt flds
  cases a == [] <;> cases b == [] <;> cases c == [] <;> simp [spl_app, spl_word, s0, s1, s2, s3, List.append_assoc]
theorem f25_eq (x : List UInt8) (hx : x.length ≤ 1000000) : f25 x [32] = some (spl x) := by
  unfold f25 splitO
  simp only []
  rw [if_pos (by omega), split_spl]
theorem fldT {s : List UInt8} (h : fld s true = true) : (s == []) = false := gr_ne h
theorem fldF {s : List UInt8} (h : fld s false = true) : s = [] := by simpa [fld] using h
theorem okOp_kd {k : Int} {a b c : List UInt8} (h : okOp k a b c = true) : isK k = true ∧ fld a (kd k).2.1 = true ∧ fld b (kd k).2.2.1 = true ∧ fld c (kd k).2.2.2 = true := by
  unfold okOp at h
  simp only [Bool.and_eq_true] at h
  exact ⟨h.1.1.1, h.1.1.2, h.1.2, h.2⟩
set_option maxHeartbeats 1000000 in
theorem tryP_hit {k : Int} {a b c : List UInt8} (h : okOp k a b c = true) : ∃ j0, j0 < 6 ∧ tryP (txt k a b c) (spl (txt k a b c)) j0 = some (k, a, b, c, 0) ∧ ∀ j, j < 6 → j ≠ j0 → tryP (txt k a b c) (spl (txt k a b c)) j = none := by
  rw [spl_txt h]
  obtain ⟨h0, h1, h2, h3⟩ := okOp_kd h
  have nope : ∀ (w : List UInt8) (l : List (List UInt8)) j, ((mv26.getD j (default : List UInt8 × Bool × Bool × Bool)).1 == w) = false → tryP (txt k a b c) (w :: l) j = none := by
    intro w l j hj
    unfold tryP
    simp only [List.getD_cons_zero]
    rw [hj]
    rfl
  rcases kinds k with rfl | rfl | rfl | rfl | rfl | rfl | hn
  · refine ⟨0, by decide, ?_, fun j hj hne => nope _ _ j ?_⟩
    · obtain rfl := fldF h2
      have e1 := fldT h1
      have e3 := fldT h3
      simp [tryP, flds, e1, e3, tk, mv26, mk26, kd, h]
    · match j, hj, hne with | 1, _, _ => rfl | 2, _, _ => rfl | 3, _, _ => rfl | 4, _, _ => rfl | 5, _, _ => rfl
  · refine ⟨1, by decide, ?_, fun j hj hne => nope _ _ j ?_⟩
    · obtain rfl := fldF h2
      obtain rfl := fldF h3
      have e1 := fldT h1
      simp [tryP, flds, e1, tk, mv26, mk26, kd, h]
    · match j, hj, hne with | 0, _, _ => rfl | 2, _, _ => rfl | 3, _, _ => rfl | 4, _, _ => rfl | 5, _, _ => rfl
  · refine ⟨2, by decide, ?_, fun j hj hne => nope _ _ j ?_⟩
    · obtain rfl := fldF h2
      obtain rfl := fldF h3
      have e1 := fldT h1
      simp [tryP, flds, e1, tk, mv26, mk26, kd, h]
    · match j, hj, hne with | 0, _, _ => rfl | 1, _, _ => rfl | 3, _, _ => rfl | 4, _, _ => rfl | 5, _, _ => rfl
  · refine ⟨3, by decide, ?_, fun j hj hne => nope _ _ j ?_⟩
    · obtain rfl := fldF h2
      have e1 := fldT h1
      have e3 := fldT h3
      simp [tryP, flds, e1, e3, tk, mv26, mk26, kd, h]
    · match j, hj, hne with | 0, _, _ => rfl | 1, _, _ => rfl | 2, _, _ => rfl | 4, _, _ => rfl | 5, _, _ => rfl
  · refine ⟨4, by decide, ?_, fun j hj hne => nope _ _ j ?_⟩
    · have e1 := fldT h1
      have e2 := fldT h2
      have e3 := fldT h3
      simp [tryP, flds, e1, e2, e3, tk, mv26, mk26, kd, h]
    · match j, hj, hne with | 0, _, _ => rfl | 1, _, _ => rfl | 2, _, _ => rfl | 3, _, _ => rfl | 5, _, _ => rfl
  · refine ⟨5, by decide, ?_, fun j hj hne => nope _ _ j ?_⟩
    · obtain rfl := fldF h1
      obtain rfl := fldF h2
      obtain rfl := fldF h3
      simp [tryP, flds, tk, mv26, mk26, kd, h]
    · match j, hj, hne with | 0, _, _ => rfl | 1, _, _ => rfl | 2, _, _ => rfl | 3, _, _ => rfl | 4, _, _ => rfl | 5, _, hne => exact absurd rfl hne
  · rw [hn] at h0; cases h0
theorem spl_pos (x : List UInt8) : 0 < (spl x).length := by
  obtain ⟨w, r, h⟩ := spl_ne x
  rw [h]; exact Nat.succ_pos _
def NoOp (x : List UInt8) : Prop := ∀ k a b c, okOp k a b c = true → txt k a b c ≠ x
theorem tryP_none {x : List UInt8} (h : NoOp x) (l : List (List UInt8)) (j : Nat) : tryP x l j = none := by
  unfold tryP
  simp only []
  split
  · split
    · rename_i h'
      simp only [Bool.and_eq_true, beq_iff_eq] at h'
      exact absurd h'.2 (h _ _ _ _ h'.1)
    · rfl
  · rfl
theorem f13_hit {k : Int} {a b c : List UInt8} (h : okOp k a b c = true) (hx : (txt k a b c).length ≤ 1000000) : f13 (txt k a b c) = some (k, a, b, c, 0) := by
  obtain ⟨j0, hj0, h1, h2⟩ := tryP_hit h
  unfold f13 f26
  rw [f25_eq _ hx, some_bind]
  simp only [jn, some_bind]
  exact f13_all _ _ _ _ hx (spl_pos _) (spl_mem _) _ (fun j => j = j0) (fun j _ e => e ▸ h1) (fun j hj e => h2 j hj e) (fun hall => absurd rfl (hall j0 hj0)) FUEL [] List.nodup_nil (fun j hj => by cases hj) (by unfold FUEL; simp)
theorem f13_miss {x : List UInt8} (h : NoOp x) (hx : x.length ≤ 1000000) : f13 x = some (0, [], [], [], 2) := by
  unfold f13 f26
  rw [f25_eq _ hx, some_bind]
  simp only [jn, some_bind]
  exact f13_all _ _ _ _ hx (spl_pos _) (spl_mem _) _ (fun _ => False) (fun j _ e => e.elim) (fun j hj e => tryP_none h _ _) (fun _ => rfl) FUEL [] List.nodup_nil (fun j hj => by cases hj) (by unfold FUEL; simp)
theorem txt_len {k : Int} {a b c : List UInt8} : a.length ≤ (txt k a b c).length ∧ b.length ≤ (txt k a b c).length ∧ c.length ≤ (txt k a b c).length := by
  unfold txt
  cases ha : a == [] <;> cases hb : b == [] <;> cases hc : c == [] <;> simp at ha hb hc <;> simp [*] <;> omega
abbrev Pr := List UInt8 × List UInt8 × Int
abbrev less (a b : List UInt8) : Bool := Op.bytesLess a b
theorem less_irrefl : ∀ a, less a a = false
  | [] => rfl
  | a :: x => by
    show (decide (a < a) || (a == a && less x x)) = false
    rw [less_irrefl x]; simp
theorem less_nil (a : List UInt8) : less a [] = false := by cases a <;> rfl
theorem less_trans : ∀ {a b c : List UInt8}, less a b = true → less b c = true → less a c = true
  | a, [], _, h, _ => by rw [less_nil] at h; cases h
  | _, b :: y, [], _, h => by rw [less_nil] at h; cases h
  | [], _ :: _, _ :: _, _, _ => rfl
  | a :: x, b :: y, c :: z, h1, h2 => by
    have g1 : (decide (a < b) || (a == b && less x y)) = true := h1
    have g2 : (decide (b < c) || (b == c && less y z)) = true := h2
    clear h1 h2
    show (decide (a < c) || (a == c && less x z)) = true
    simp only [Bool.or_eq_true, Bool.and_eq_true, decide_eq_true_eq, beq_iff_eq, UInt8.lt_iff_toNat_lt] at g1 g2 ⊢
    rcases g1 with k1 | ⟨e1, k1⟩
    · rcases g2 with k2 | ⟨e2, k2⟩
      · left; omega
      · left; rw [← e2]; exact k1
    · rcases g2 with k2 | ⟨e2, k2⟩
      · left; rw [e1]; exact k2
      · exact .inr ⟨e1.trans e2, less_trans k1 k2⟩
theorem less_total : ∀ a b : List UInt8, less a b = true ∨ a = b ∨ less b a = true
  | [], [] => .inr (.inl rfl)
  | [], _ :: _ => .inl rfl
  | _ :: _, [] => .inr (.inr rfl)
  | a :: x, b :: y => by
    show (decide (a < b) || (a == b && less x y)) = true ∨ _ ∨ (decide (b < a) || (b == a && less y x)) = true
    simp only [Bool.or_eq_true, Bool.and_eq_true, decide_eq_true_eq, beq_iff_eq, UInt8.lt_iff_toNat_lt]
    by_cases h : a = b
    · subst h
      rcases less_total x y with h | h | h
      · exact .inl (.inr ⟨rfl, h⟩)
      · exact .inr (.inl (by rw [h]))
      · exact .inr (.inr (.inr ⟨rfl, h⟩))
    · have : a.toNat ≠ b.toNat := fun e => h (UInt8.toNat.inj e)
      by_cases h1 : a.toNat < b.toNat
      · exact .inl (.inl h1)
      · exact .inr (.inr (.inl (by omega)))
theorem less_asymm {a b : List UInt8} (h : less a b = true) : less b a = false := by
  cases h' : less b a
  · rfl
  · have := less_trans h h'
    rw [less_irrefl] at this; cases this
theorem less_ne {a b : List UInt8} (h : less a b = true) : (a == b) = false := by
  cases e : a == b
  · rfl
  · have := eq_of_beq e; subst this; rw [less_irrefl] at h; cases h
theorem cmp_less : ∀ a b : List UInt8, Lib.compareBytes a b = if less a b = true then -1 else if a = b then 0 else 1
  | [], [] => rfl
  | [], _ :: _ => rfl
  | _ :: _, [] => rfl
  | a :: x, b :: y => by
    show (if a < b then (-1 : Int) else if b < a then 1 else Lib.compareBytes x y) = if (decide (a < b) || (a == b && less x y)) = true then -1 else _
    by_cases h : a < b
    · simp [h]
    · by_cases h2 : b < a
      · have : a ≠ b := by rintro rfl; simp at h2
        simp [h, h2, this]
      · have e : a = b := by
          apply UInt8.toNat.inj
          simp only [UInt8.lt_iff_toNat_lt] at h h2
          omega
        subst e
        rw [if_neg h, if_neg h2, cmp_less x y]
        simp
/-- strictly rising keys -/
abbrev Srtd (l : List Pr) : Prop := l.Pairwise (fun p q => less p.1 q.1 = true)
def okp (p : Pr) : Prop := gr p.1 64 = true ∧ gr p.2.1 256 = true ∧ 1 ≤ p.2.2 ∧ p.2.2 ≤ 1000000000000
/-- a valid state -/
structure StV (l : List Pr) : Prop where
  len : l.length ≤ 64
  each : ∀ p, p ∈ l → okp p
  srt : Srtd l
theorem StV.nil : StV [] := ⟨by simp, by simp, .nil⟩
/-- where a key is or belongs -/
inductive View (l : List Pr) (k : List UInt8) : Prop
  | hit (A C : List Pr) (v : List UInt8) (n : Int) (h : l = A ++ (k, v, n) :: C) (hA : ∀ a, a ∈ A → less a.1 k = true) (hC : ∀ c, c ∈ C → less k c.1 = true) : View l k
  | miss (A C : List Pr) (h : l = A ++ C) (hA : ∀ a, a ∈ A → less a.1 k = true) (hC : ∀ c, c ∈ C → less k c.1 = true) : View l k
theorem view : ∀ (l : List Pr) (k : List UInt8), Srtd l → View l k
  | [], k, _ => .miss [] [] rfl (by simp) (by simp)
  | (x, v, n) :: l, k, h => by
    obtain ⟨h1, h2⟩ := List.pairwise_cons.1 h
    rcases less_total x k with hx | rfl | hx
    · cases view l k h2 with
      | hit A C v' n' e hA hC => exact .hit ((x, v, n) :: A) C v' n' (by rw [e]; rfl) (by intro a ha; rcases List.mem_cons.1 ha with rfl | ha; exact hx; exact hA a ha) hC
      | miss A C e hA hC => exact .miss ((x, v, n) :: A) C (by rw [e]; rfl) (by intro a ha; rcases List.mem_cons.1 ha with rfl | ha; exact hx; exact hA a ha) hC
    · exact .hit [] l v n rfl (by simp) h1
    · exact .miss [] ((x, v, n) :: l) rfl (by simp) (by intro c hc; rcases List.mem_cons.1 hc with rfl | hc; exact hx; exact less_trans hx (h1 c hc))
theorem getD_app {α : Type} (A B : List α) (i : Nat) (d : α) : (A ++ B).getD i d = if i < A.length then A.getD i d else B.getD (i - A.length) d := by
  split
  · simp [List.getD_eq_getElem?_getD, List.getElem?_append_left, *]
  · rename_i h; simp [List.getD_eq_getElem?_getD, List.getElem?_append_right (Nat.le_of_not_lt h)]
theorem getD_mem {α : Type} (l : List α) (i : Nat) (d : α) (h : i < l.length) : l.getD i d ∈ l := by
  rw [List.getD_eq_getElem?_getD, List.getElem?_eq_getElem h]; exact List.getElem_mem ..
/-- the search of the program: A are the keys that are less -/
theorem f46_eq (A B : List Pr) (k : List UInt8) (hlen : (A ++ B).length ≤ 1000000) (hA : ∀ a, a ∈ A → less a.1 k = true) (hB : ∀ b, b ∈ B → less b.1 k = false) :
    f30 (A ++ B) k = some ((A.length : Int), decide (0 < B.length) && ((B.getD 0 (default : Pr)).1 == k)) := by
  have h55 : ∀ (a b : List UInt8) (n : Int) (y : List UInt8), f47 a b n y = some (Lib.compareBytes a y) := fun _ _ _ _ => rfl
  have main : ∀ (K : Int → Option (Int × Bool)) (c q i j : Nat), j - i ≤ c → c < q → i ≤ A.length → A.length ≤ j → j ≤ (A ++ B).length → f46_L0 (A ++ B) k K q ((i : Int), (j : Int)) = K (A.length : Int) := by
    intro K c
    induction c with
    | zero =>
      intro q i j hc hq h1 h2 h3
      obtain ⟨q, rfl⟩ : ∃ z, q = z + 1 := ⟨q - 1, by omega⟩
      conv => lhs; unfold f46_L0
      rw [ifd_neg (by omega)]
      congr 1; omega
    | succ c ih =>
      intro q i j hc hq h1 h2 h3
      obtain ⟨q, rfl⟩ : ∃ z, q = z + 1 := ⟨q - 1, by omega⟩
      conv => lhs; unfold f46_L0
      by_cases hij : i < j
      · have em : ((i : Int) + (j : Int)) / 2 ^ 1 = (((i + j) / 2 : Nat) : Int) := by omega
        rw [ifd_pos (by omega), chk_pos (by omega), chk_pos (by omega), chk_pos (by decide), em, chk_pos (by omega), h55, some_bind, chk_pos (by omega), Int.toNat_natCast, cmp_less]
        generalize hm : (i + j) / 2 = m
        have hm1 : i ≤ m := by omega
        have hm2 : m < j := by omega
        by_cases hmA : m < A.length
        · have hl : less ((A ++ B).getD m (default : Pr)).1 k = true := by
            rw [getD_app, if_pos hmA]; exact hA _ (getD_mem _ _ _ hmA)
          rw [if_pos hl, ifd_pos (by decide), chk_pos (by omega)]
          have := ih q (m + 1) j (by omega) (by omega) (by omega) h2 h3
          rw [← this]; rfl
        · have hl : less ((A ++ B).getD m (default : Pr)).1 k = false := by
            rw [getD_app, if_neg hmA]; exact hB _ (getD_mem _ _ _ (by rw [List.length_append] at h3; omega))
          rw [hl, ifd_neg (by split <;> simp_all <;> split <;> simp)]
          exact ih q i m (by omega) (by omega) h1 (by omega) (by omega)
      · rw [ifd_neg (by omega)]
        congr 1; omega
  unfold f30 f46
  simp only [jn]
  have e0 : (0 : Int) = ((0 : Nat) : Int) := rfl
  rw [e0, main _ (A ++ B).length FUEL 0 (A ++ B).length (by omega) (by unfold FUEL; omega) (Nat.zero_le _) (by simp) (Nat.le_refl _)]
  rw [h55, Int.toNat_natCast, getD_app, if_neg (Nat.lt_irrefl _), Nat.sub_self]
  by_cases hb : 0 < B.length
  · have h1 : decide ((A.length : Int) < (((A ++ B).length : Nat) : Int)) = true := by rw [List.length_append]; simp; omega
    rw [h1]
    simp only [beq_self_eq_true, Bool.true_and, optc_t, some_bind]
    rw [chk_pos (fun _ => by rw [List.length_append]; omega), some_bind, cmp_less, hB _ (getD_mem _ _ _ hb)]
    have hd : decide (0 < B.length) = true := by simp [hb]
    rw [hd]
    simp only [Bool.false_eq_true, if_false, Bool.true_and]
    by_cases e : (B.getD 0 (default : Pr)).1 = k
    · have e' : ((B.getD 0 (default : Pr)).1 == k) = true := by simpa using e
      rw [if_pos e, e']; rfl
    · have e' : ((B.getD 0 (default : Pr)).1 == k) = false := by simpa using e
      rw [if_neg e, e']; rfl
  · have h1 : decide ((A.length : Int) < (((A ++ B).length : Nat) : Int)) = false := by rw [List.length_append]; simp; omega
    rw [h1]
    have hd : decide (0 < B.length) = false := by simp [hb]
    rw [hd]
    simp [optc, chk]

abbrev MV : Int := 1000000000000
theorem getD_at (A C : List Pr) (x d : Pr) : (A ++ x :: C).getD A.length d = x := by
  rw [getD_app, if_neg (Nat.lt_irrefl _), Nat.sub_self]; rfl
theorem set_at : ∀ (A C : List Pr) (x y : Pr), (A ++ x :: C).set A.length y = A ++ y :: C
  | [], _, _, _ => rfl
  | a :: A, C, x, y => by
    show a :: (A ++ x :: C).set A.length y = _
    rw [set_at A C x y]; rfl
theorem len_at (A C : List Pr) (x : Pr) : (A ++ x :: C).length = A.length + C.length + 1 := by simp; omega
theorem drop_at (A C : List Pr) (x : Pr) : (A ++ x :: C).drop (A.length + 1) = C := by
  rw [List.drop_append]; simp
theorem take_at (A C : List Pr) : (A ++ C).take A.length = A := by simp
theorem dropA_at (A C : List Pr) : (A ++ C).drop A.length = C := by simp
theorem ito {n : Int} (h0 : 0 ≤ n) (h1 : n ≤ 1000000000000000) : f20 n = some (Lib.itoa n) := by
  unfold f20 itoaO
  rw [if_pos ⟨by omega, by omega⟩]
theorem ilen {n : Int} (h0 : 0 ≤ n) (h1 : n ≤ 1000000000000000) : (Lib.itoa n).length ≤ 21 := Lib.itoa_length_le n (by omega) (by omega)
theorem gt_ne {a b : List UInt8} (h : less b a = true) : (a == b) = false := by
  have := less_ne h
  cases e : a == b
  · rfl
  · have := eq_of_beq e; subst this; rw [less_irrefl] at h; cases h
theorem f33_eq (l : List Pr) (h : l.length ≤ 1000000) : f33 l = some l := by
  unfold f33
  rw [abc_eq, chk_pos (by omega)]
  · rfl
  · intro hl
    rw [chk_pos (by omega)]
    have : l = [] := List.length_eq_zero_iff.1 hl
    rw [this]; rfl

abbrev okW : List UInt8 := [111, 107, 32]
abbrev fullW : List UInt8 := [102, 117, 108, 108]
theorem find_hit (A C : List Pr) (k v : List UInt8) (n : Int) (hlen : (A ++ (k, v, n) :: C).length ≤ 1000000) (hA : ∀ a, a ∈ A → less a.1 k = true) (hC : ∀ c, c ∈ C → less k c.1 = true) : f30 (A ++ (k, v, n) :: C) k = some ((A.length : Int), true) := by
  rw [f46_eq A _ k hlen hA]
  · simp
  · intro b hb
    rcases List.mem_cons.1 hb with rfl | hb
    · exact less_irrefl _
    · exact less_asymm (hC b hb)
theorem find_miss (A C : List Pr) (k : List UInt8) (hlen : (A ++ C).length ≤ 1000000) (hA : ∀ a, a ∈ A → less a.1 k = true) (hC : ∀ c, c ∈ C → less k c.1 = true) : f30 (A ++ C) k = some ((A.length : Int), false) := by
  rw [f46_eq A _ k hlen hA fun b hb => less_asymm (hC b hb)]
  cases C with
  | nil => simp
  | cons c C => simp [gt_ne (hC c (List.mem_cons_self ..))]
theorem putP_hit (A C : List Pr) (k v s : List UInt8) (n : Int) (hlen : (A ++ (k, v, n) :: C).length ≤ 64) (h1 : 1 ≤ n) (h2 : n ≤ MV) (hA : ∀ a, a ∈ A → less a.1 k = true) (hC : ∀ c, c ∈ C → less k c.1 = true) :
    f31 (A ++ (k, v, n) :: C) k s = some (A ++ (k, s, min (n + 1) MV) :: C, okW ++ Lib.itoa (min (n + 1) MV)) := by
  simp only [MV] at *
  have hmin : 0 ≤ min (n + 1) 1000000000000 ∧ min (n + 1) 1000000000000 ≤ 1000000000000000 := by omega
  have hl := ilen hmin.1 hmin.2
  unfold f31
  rw [find_hit A C k v n (by omega) hA hC, some_bind]
  simp only [Bool.not_true, Bool.false_and, Bool.false_eq_true, if_false]
  rw [f33_eq _ (by omega), some_bind]
  simp only [jn, Int.toNat_natCast, set_at, getD_at]
  rw [len_at] at hlen
  rw [chk_pos (by rw [len_at]; omega), chk_pos (by rw [len_at]; omega), chk_pos (by rw [len_at]; omega), chk_pos (by rw [len_at]; omega), chk_pos (by omega), chk_pos (by rw [len_at]; omega), chk_pos (by rw [len_at]; omega),
    ito hmin.1 hmin.2, some_bind, chk_pos (by rw [len_at]; omega), chk_pos (by rw [len_at]; omega), chk_pos (by simp; omega)]
theorem putP_miss (A C : List Pr) (k s : List UInt8) (hlen : (A ++ C).length ≤ 64) (hA : ∀ a, a ∈ A → less a.1 k = true) (hC : ∀ c, c ∈ C → less k c.1 = true) :
    f31 (A ++ C) k s = if 64 ≤ (A ++ C).length then some (A ++ C, fullW) else some (A ++ (k, s, 1) :: C, okW ++ Lib.itoa 1) := by
  have hl := ilen (n := 1) (by omega) (by omega)
  unfold f31
  rw [find_miss A C k (by omega) hA hC, some_bind]
  by_cases hf : 64 ≤ (A ++ C).length
  · rw [if_pos hf, if_pos (by simp only [Bool.not_false, Bool.true_and, decide_eq_true_eq]; omega)]
  rw [if_neg hf, if_neg (by simp only [Bool.not_false, Bool.true_and, decide_eq_true_eq]; omega), f33_eq _ (by omega), some_bind]
  simp only [jn]
  have e58 : f49 (A.length : Int) (A ++ C) [(k, [], (0 : Int))] = some (A ++ (k, [], 0) :: C, [(k, [], 0)]) := by
    unfold f49
    by_cases hc : A.length < (A ++ C).length
    · rw [if_pos ⟨by omega, by rw [Int.toNat_natCast]; exact hc, by simp, by simp; simp at hlen; omega⟩, Int.toNat_natCast, take_at, dropA_at]
      simp
    · have : C = [] := by
        cases C with
        | nil => rfl
        | cons c C => simp at hc
      subst this
      rw [if_neg (by rw [Int.toNat_natCast]; omega)]
      unfold f49e
      rw [List.append_nil, chk_pos (by omega), if_neg (by simp), if_pos (by simp), chk_pos (by simp; simp at hlen; omega)]
  simp only [Bool.not_false, if_true, e58, some_bind, Int.toNat_natCast, set_at, getD_at]
  rw [List.length_append] at hlen hf
  have e1 : min ((0 : Int) + 1) 1000000000000 = 1 := by decide
  rw [e1]
  rw [chk_pos (by rw [len_at]; omega), chk_pos (by rw [len_at]; omega), chk_pos (by rw [len_at]; omega), chk_pos (by rw [len_at]; omega), chk_pos (by omega), chk_pos (by rw [len_at]; omega), chk_pos (by rw [len_at]; omega),
    ito (by omega) (by omega), some_bind, chk_pos (by rw [len_at]; omega), chk_pos (by rw [len_at]; omega), chk_pos (by simp; omega)]
theorem gr_app {v c : List UInt8} (hv : gr v 256 = true) (hc : gr c 64 = true) (h : (v ++ c).length ≤ 256) : gr (v ++ c) 256 = true := by
  unfold gr at *
  simp only [Bool.and_eq_true, Bool.not_eq_true', decide_eq_true_eq] at *
  refine ⟨by rw [List.any_append, hv.1, hc.1]; rfl, ?_, by omega⟩
  cases v with
  | nil => have := hv.2.1; simp at this
  | cons x v => rfl
theorem gr_up {c : List UInt8} (hc : gr c 64 = true) : gr c 256 = true := by
  unfold gr at *
  simp only [Bool.and_eq_true, decide_eq_true_eq] at *
  exact ⟨hc.1, hc.2.1, by omega⟩
theorem stv_set {A C : List Pr} {k v s : List UInt8} {n m : Int} (h : StV (A ++ (k, v, n) :: C)) (hs : gr s 256 = true) (h1 : 1 ≤ m) (h2 : m ≤ MV) : StV (A ++ (k, s, m) :: C) := by
  refine ⟨by have := h.len; rw [len_at] at this ⊢; exact this, fun p hp => ?_, ?_⟩
  · rcases List.mem_append.1 hp with hp | hp
    · exact h.each p (List.mem_append_left _ hp)
    · rcases List.mem_cons.1 hp with rfl | hp
      · have := h.each (k, v, n) (by simp)
        exact ⟨this.1, hs, h1, h2⟩
      · exact h.each p (by simp [hp])
  · have := h.srt
    simp only [Srtd, List.pairwise_append, List.pairwise_cons] at this ⊢
    refine ⟨this.1, this.2.1, fun a ha b hb => ?_⟩
    rcases List.mem_cons.1 hb with rfl | hb
    · exact this.2.2 a ha (k, v, n) (List.mem_cons_self ..)
    · exact this.2.2 a ha b (List.mem_cons_of_mem _ hb)
theorem stv_ins {A C : List Pr} {k s : List UInt8} (h : StV (A ++ C)) (hl : (A ++ C).length < 64) (hk : gr k 64 = true) (hs : gr s 256 = true) (hA : ∀ a, a ∈ A → less a.1 k = true) (hC : ∀ c, c ∈ C → less k c.1 = true) : StV (A ++ (k, s, 1) :: C) := by
  refine ⟨by rw [List.length_append] at hl; rw [len_at]; omega, fun p hp => ?_, ?_⟩
  · rcases List.mem_append.1 hp with hp | hp
    · exact h.each p (List.mem_append_left _ hp)
    · rcases List.mem_cons.1 hp with rfl | hp
      · exact ⟨hk, hs, by simp, by simp⟩
      · exact h.each p (List.mem_append_right _ hp)
  · have := h.srt
    simp only [Srtd, List.pairwise_append, List.pairwise_cons] at this ⊢
    refine ⟨this.1, ⟨hC, this.2.1⟩, fun a ha b hb => ?_⟩
    rcases List.mem_cons.1 hb with rfl | hb
    · exact hA a ha
    · exact this.2.2 a ha b hb
theorem stv_del {A C : List Pr} {x : Pr} (h : StV (A ++ x :: C)) : StV (A ++ C) := by
  refine ⟨by have := h.len; rw [len_at] at this; rw [List.length_append]; omega, fun p hp => h.each p (by rcases List.mem_append.1 hp with hp | hp <;> simp [hp]), ?_⟩
  have := h.srt
  simp only [Srtd, List.pairwise_append, List.pairwise_cons] at this ⊢
  exact ⟨this.1, this.2.1.2, fun a ha b hb => this.2.2 a ha b (List.mem_cons_of_mem _ hb)⟩
/-- what Execute answers, and what its key has then -/
def R (e : Option (List UInt8 × Int)) (cnt : Nat) (k : Int) (a b c : List UInt8) : List UInt8 × Option (List UInt8 × Int) :=
  if okOp k a b c = false then (cs1, e) else
  if k = 6 then (cs7 ++ Lib.itoa (cnt : Int), e) else
  match e with
  | none => if k = 1 ∨ k = 4 then (if 64 ≤ cnt then (fullW, none) else (okW ++ Lib.itoa 1, some (c, 1))) else ([110, 111, 110, 101], none)
  | some (v, n) =>
    if k = 1 then (okW ++ Lib.itoa (min (n + 1) MV), some (c, min (n + 1) MV)) else
    if k = 2 then (cs8 ++ v ++ [32] ++ Lib.itoa n, some (v, n)) else
    if k = 3 then ([111, 107], none) else
    if k = 4 then (if (v ++ c).length > 256 then ([108, 111, 110, 103], some (v, n)) else (okW ++ Lib.itoa (min (n + 1) MV), some (v ++ c, min (n + 1) MV))) else
    if v = b then (okW ++ Lib.itoa (min (n + 1) MV), some (c, min (n + 1) MV)) else ([110, 111, 32] ++ v, some (v, n))
theorem nmin {n : Int} (h1 : 1 ≤ n) (h2 : n ≤ MV) : 1 ≤ min (n + 1) MV ∧ min (n + 1) MV ≤ MV := by
  simp only [MV] at *
  omega
theorem prog_head (l : List Pr) (k : Int) (a b c : List UInt8) (ha : a.length ≤ 9223372036854775807) (hb : b.length ≤ 9223372036854775807) (hc : c.length ≤ 9223372036854775807) (h : okOp k a b c = false) : f14 l k a b c = some (l, cs1) := by
  unfold f14
  rw [f29_eq k a b c ha hb hc, some_bind, h]
  rfl
theorem okOp_is {k : Int} {a b c : List UInt8} (h : okOp k a b c = true) : isK k = true := by
  unfold okOp at h
  simp only [Bool.and_eq_true] at h
  exact h.1.1.1
theorem okK {k : Int} {a b c : List UInt8} (h : okOp k a b c = true) : k = 1 ∨ k = 2 ∨ k = 3 ∨ k = 4 ∨ k = 5 ∨ k = 6 := by
  have h0 := (okOp_is h)
  rcases kinds k with h | h | h | h | h | h | h
  · exact .inl h
  · exact .inr (.inl h)
  · exact .inr (.inr (.inl h))
  · exact .inr (.inr (.inr (.inl h)))
  · exact .inr (.inr (.inr (.inr (.inl h))))
  · exact .inr (.inr (.inr (.inr (.inr h))))
  · rw [h] at h0; cases h0

theorem prog_hit (A C : List Pr) (k : Int) (a b c v : List UInt8) (n : Int) (hV : StV (A ++ (a, v, n) :: C)) (ha : a.length ≤ 9223372036854775807) (hb : b.length ≤ 9223372036854775807) (hc : c.length ≤ 9223372036854775807) (h : okOp k a b c = true)
    (hA : ∀ x, x ∈ A → less x.1 a = true) (hC : ∀ x, x ∈ C → less a x.1 = true) :
    f14 (A ++ (a, v, n) :: C) k a b c =
      if k = 6 then some (A ++ (a, v, n) :: C, cs7 ++ Lib.itoa ((A ++ (a, v, n) :: C).length : Int)) else
      if k = 1 then some (A ++ (a, c, min (n + 1) MV) :: C, okW ++ Lib.itoa (min (n + 1) MV)) else
      if k = 2 then some (A ++ (a, v, n) :: C, cs8 ++ v ++ [32] ++ Lib.itoa n) else
      if k = 3 then some (A ++ C, [111, 107]) else
      if k = 4 then (if (v ++ c).length > 256 then some (A ++ (a, v, n) :: C, [108, 111, 110, 103]) else some (A ++ (a, v ++ c, min (n + 1) MV) :: C, okW ++ Lib.itoa (min (n + 1) MV))) else
      if v = b then some (A ++ (a, c, min (n + 1) MV) :: C, okW ++ Lib.itoa (min (n + 1) MV)) else some (A ++ (a, v, n) :: C, [110, 111, 32] ++ v) := by
  have hl := hV.len
  have hp := hV.each (a, v, n) (by simp)
  obtain ⟨p1, p2, p3, p4⟩ := hp
  simp only at p1 p2 p3 p4
  have hvl := gr_len p2
  have hil := ilen (n := n) (by omega) (by omega)
  have hcl := (ok_len h).2.2
  have hl2 := ilen (n := (((A ++ (a, v, n) :: C).length : Nat) : Int)) (by omega) (by omega)
  have hla := len_at A C (a, v, n)
  have put : ∀ s, f31 (A ++ (a, v, n) :: C) a s = some (A ++ (a, s, min (n + 1) MV) :: C, okW ++ Lib.itoa (min (n + 1) MV)) := fun s => putP_hit A C a v s n hl p3 p4 hA hC
  unfold f14
  rw [f29_eq k a b c ha hb hc, some_bind, h]
  simp only [Bool.not_true, Bool.false_eq_true, if_false]
  rw [find_hit A C a v n (by omega) hA hC, some_bind]
  simp only [beq_iff_eq, Bool.not_true, Bool.and_false, Bool.false_eq_true, if_false, Int.toNat_natCast, getD_at]
  split
  · rw [ito (n := (((A ++ (a, v, n) :: C).length : Nat) : Int)) (by omega) (by omega), some_bind, chk_pos (by have : cs7.length = 6 := rfl; omega)]
  split
  · rw [put, some_bind]
  rw [chk_pos (by rw [hla]; omega)]
  split
  · rw [ito (n := n) (by omega) (by omega), some_bind, chk_pos (by have : cs8.length = 6 := rfl; omega), chk_pos (by simp [cs8]; omega), chk_pos (by simp [cs8]; omega)]
  split
  · rw [f33_eq _ (by omega), some_bind]
    unfold f32
    have e1 : ((A.length : Int) + 1).toNat = A.length + 1 := by omega
    rw [if_pos ⟨by omega, by omega, by rw [e1, hla]; omega⟩, some_bind, chk_pos (by omega), e1, Int.toNat_natCast, take_at, drop_at]
  split
  · rw [chk_pos (by omega)]
    by_cases e : (v ++ c).length > 256
    · rw [if_pos e, ifd_pos (by rw [List.length_append] at e; omega)]
    · rw [if_neg e, ifd_neg (by rw [List.length_append] at e; omega), put, some_bind, chk_pos (by omega)]
  · by_cases e : v = b
    · rw [if_pos e, if_neg (by simp [e]), put, some_bind]
    · rw [if_neg e, if_pos (by simp [e]), chk_pos (by simp; omega)]
theorem prog_miss (A C : List Pr) (k : Int) (a b c : List UInt8) (hV : StV (A ++ C)) (ha : a.length ≤ 9223372036854775807) (hb : b.length ≤ 9223372036854775807) (hc : c.length ≤ 9223372036854775807) (h : okOp k a b c = true)
    (hA : ∀ x, x ∈ A → less x.1 a = true) (hC : ∀ x, x ∈ C → less a x.1 = true) :
    f14 (A ++ C) k a b c =
      if k = 6 then some (A ++ C, cs7 ++ Lib.itoa ((A ++ C).length : Int)) else
      if k = 1 ∨ k = 4 then (if 64 ≤ (A ++ C).length then some (A ++ C, fullW) else some (A ++ (a, c, 1) :: C, okW ++ Lib.itoa 1)) else
      some (A ++ C, [110, 111, 110, 101]) := by
  have hl := hV.len
  have hl2 := ilen (n := (((A ++ C).length : Nat) : Int)) (by omega) (by omega)
  have put := putP_miss A C a c hl hA hC
  have put' : ((f31 (A ++ C) a c).bind fun r => some (r.1, r.2)) = if 64 ≤ (A ++ C).length then some (A ++ C, fullW) else some (A ++ (a, c, 1) :: C, okW ++ Lib.itoa 1) := by
    rw [put]
    split <;> rfl
  unfold f14
  rw [f29_eq k a b c ha hb hc, some_bind, h]
  simp only [Bool.not_true, Bool.false_eq_true, if_false]
  rw [find_miss A C a (by omega) hA hC, some_bind]
  simp only [beq_iff_eq, Bool.not_false, Bool.and_true, if_true]
  split
  · rw [ito (n := (((A ++ C).length : Nat) : Int)) (by omega) (by omega), some_bind, chk_pos (by have : cs7.length = 6 := rfl; omega)]
  by_cases h1 : k = 1
  · rw [if_pos h1, if_pos (.inl h1)]
    exact put'
  by_cases h4 : k = 4
  · rw [if_neg h1, if_pos h4, if_pos (.inr h4)]
    exact put'
  · rw [if_neg h1, if_neg h4, if_neg (by omega)]
end Go.Abs
namespace Go.Abs
theorem f4_true : f4 = some true := by kernel_rfl
end Go.Abs
namespace Go.Abs
abbrev Ss := Int × Int × List UInt8
theorem exec49 (l : List Pr) (k : Int) (a b c : List UInt8) (hV : StV l) (ha : a.length ≤ 9223372036854775807) (hb : b.length ≤ 9223372036854775807) (hc : c.length ≤ 9223372036854775807) : ∃ l' r, f14 l k a b c = some (l', r) ∧ StV l' := by
  cases h : okOp k a b c
  · exact ⟨l, _, prog_head l k a b c ha hb hc h, hV⟩
  have hk := okK h
  have hcg : k = 1 ∨ k = 4 ∨ k = 5 → gr c 64 = true := by
    unfold okOp at h
    simp only [Bool.and_eq_true] at h
    have := h.2
    rintro (rfl | rfl | rfl) <;> exact this
  have hag : k ≠ 6 → gr a 64 = true := by
    unfold okOp at h
    simp only [Bool.and_eq_true] at h
    have := h.1.1.2
    rcases hk with rfl | rfl | rfl | rfl | rfl | rfl <;> intro h6 <;> first | exact this | exact absurd rfl h6
  cases view l a hV.srt with
  | hit A C v n e hA hC =>
    subst e
    have p := prog_hit A C k a b c v n hV ha hb hc h hA hC
    have hp := hV.each (a, v, n) (by simp)
    have hm := nmin hp.2.2.1 hp.2.2.2
    have setS : ∀ s, gr s 256 = true → StV (A ++ (a, s, min (n + 1) MV) :: C) := fun s hs => stv_set hV hs hm.1 hm.2
    rw [p]
    split
    · exact ⟨_, _, rfl, hV⟩
    split
    · rename_i h1; exact ⟨_, _, rfl, setS c (gr_up (hcg (.inl h1)))⟩
    split
    · exact ⟨_, _, rfl, hV⟩
    split
    · exact ⟨_, _, rfl, stv_del hV⟩
    split
    · rename_i h4
      split
      · exact ⟨_, _, rfl, hV⟩
      · rename_i hlong
        exact ⟨_, _, rfl, setS _ (gr_app hp.2.1 (hcg (.inr (.inl h4))) (by omega))⟩
    · rename_i h6 h1 h2 h3 h4
      split
      · exact ⟨_, _, rfl, setS c (gr_up (hcg (.inr (.inr (by omega)))))⟩
      · exact ⟨_, _, rfl, hV⟩
  | miss A C e hA hC =>
    subst e
    have p := prog_miss A C k a b c hV ha hb hc h hA hC
    rw [p]
    split
    · exact ⟨_, _, rfl, hV⟩
    rename_i h6
    split
    · rename_i h14
      split
      · exact ⟨_, _, rfl, hV⟩
      · rename_i hf
        exact ⟨_, _, rfl, stv_ins hV (by omega) (hag h6) (gr_up (hcg (by omega))) hA hC⟩
    · exact ⟨_, _, rfl, hV⟩
/-- Parse: some operation -/
theorem parse49 (x : List UInt8) (hx : x.length ≤ 1000) : ∃ k a b c e, f13 x = some (k, a, b, c, e) ∧ a.length ≤ 1000 ∧ b.length ≤ 1000 ∧ c.length ≤ 1000 := by
  by_cases h : NoOp x
  · exact ⟨_, _, _, _, _, f13_miss h (by omega), by simp, by simp, by simp⟩
  · obtain ⟨k, a, b, c, hk, rfl⟩ : ∃ k a b c, okOp k a b c = true ∧ txt k a b c = x := by
      refine Classical.byContradiction fun hn => h fun k a b c hk hx => hn ⟨k, a, b, c, hk, hx⟩
    obtain ⟨t1, t2, t3⟩ := @txt_len k a b c
    exact ⟨_, _, _, _, _, f13_hit hk (by omega), by omega, by omega, by omega⟩
/-- sessions: rising clients, 0 to 5 -/
structure SesV (l : List Ss) : Prop where
  rng : ∀ p, p ∈ l → 0 ≤ p.1 ∧ p.1 < 6
  srt : l.Pairwise (fun p q => p.1 < q.1)
theorem SesV.nil : SesV [] := ⟨by simp, .nil⟩
theorem ses_len : ∀ (l : List Ss) (k : Int), l.Pairwise (fun p q => p.1 < q.1) → (∀ p, p ∈ l → k ≤ p.1 ∧ p.1 < 6) → (l.length : Int) ≤ max 0 (6 - k)
  | [], k, _, _ => by simp; omega
  | a :: l, k, h, hr => by
    obtain ⟨h1, h2⟩ := List.pairwise_cons.1 h
    have ha := hr a (List.mem_cons_self ..)
    have := ses_len l (a.1 + 1) h2 fun p hp => ⟨by have := h1 p hp; omega, (hr p (List.mem_cons_of_mem _ hp)).2⟩
    simp only [List.length_cons]
    omega
theorem SesV.len {l : List Ss} (h : SesV l) : l.length ≤ 6 := by
  have := ses_len l 0 h.srt h.rng
  omega
inductive SView (l : List Ss) (c : Int) : Prop
  | hit (A C : List Ss) (n : Int) (r : List UInt8) (h : l = A ++ (c, n, r) :: C) (hA : ∀ a, a ∈ A → a.1 < c) (hC : ∀ b, b ∈ C → c < b.1) : SView l c
  | miss (A C : List Ss) (h : l = A ++ C) (hA : ∀ a, a ∈ A → a.1 < c) (hC : ∀ b, b ∈ C → c < b.1) : SView l c
theorem sview : ∀ (l : List Ss) (c : Int), l.Pairwise (fun p q => p.1 < q.1) → SView l c
  | [], c, _ => .miss [] [] rfl (by simp) (by simp)
  | (x, n, r) :: l, c, h => by
    obtain ⟨h1, h2⟩ := List.pairwise_cons.1 h
    by_cases hx : x < c
    · cases sview l c h2 with
      | hit A C n' r' e hA hC => exact .hit ((x, n, r) :: A) C n' r' (by rw [e]; rfl) (by intro a ha; rcases List.mem_cons.1 ha with rfl | ha; exact hx; exact hA a ha) hC
      | miss A C e hA hC => exact .miss ((x, n, r) :: A) C (by rw [e]; rfl) (by intro a ha; rcases List.mem_cons.1 ha with rfl | ha; exact hx; exact hA a ha) hC
    · by_cases he : x = c
      · subst he
        exact .hit [] l n r rfl (by simp) h1
      · exact .miss [] ((x, n, r) :: l) rfl (by simp) (by intro b hb; rcases List.mem_cons.1 hb with rfl | hb; simp only; omega; have := h1 b hb; simp only at this; omega)
theorem getD_appS (A B : List Ss) (i : Nat) (d : Ss) : (A ++ B).getD i d = if i < A.length then A.getD i d else B.getD (i - A.length) d := by
  split
  · simp [List.getD_eq_getElem?_getD, List.getElem?_append_left, *]
  · rename_i h; simp [List.getD_eq_getElem?_getD, List.getElem?_append_right (Nat.le_of_not_lt h)]
/-- the search -/
theorem f12_eq (A B : List Ss) (c : Int) (hc : 0 ≤ c ∧ c < 6) (hr : ∀ p, p ∈ A ++ B → 0 ≤ p.1 ∧ p.1 < 6) (hlen : (A ++ B).length ≤ 1000000) (hA : ∀ a, a ∈ A → a.1 < c) (hB : ∀ b, b ∈ B → ¬ b.1 < c) :
    f12 (A ++ B) c = some ((A.length : Int), decide (0 < B.length) && ((B.getD 0 (default : Ss)).1 == c)) := by
  have h24 : ∀ (p : Ss), p ∈ A ++ B → f24 p.1 p.2.1 p.2.2 c = some (p.1 - c) := fun p hp => by
    have := hr p hp
    unfold f24
    rw [chk_pos (by omega)]
  have main : ∀ (K : Int → Option (Int × Bool)) (d q i j : Nat), j - i ≤ d → d < q → i ≤ A.length → A.length ≤ j → j ≤ (A ++ B).length → f23_L0 (A ++ B) c K q ((i : Int), (j : Int)) = K (A.length : Int) := by
    intro K d
    induction d with
    | zero =>
      intro q i j hd hq h1 h2 h3
      obtain ⟨q, rfl⟩ : ∃ z, q = z + 1 := ⟨q - 1, by omega⟩
      conv => lhs; unfold f23_L0
      rw [ifd_neg (by omega)]
      congr 1; omega
    | succ d ih =>
      intro q i j hd hq h1 h2 h3
      obtain ⟨q, rfl⟩ : ∃ z, q = z + 1 := ⟨q - 1, by omega⟩
      conv => lhs; unfold f23_L0
      by_cases hij : i < j
      · have em : ((i : Int) + (j : Int)) / 2 ^ 1 = (((i + j) / 2 : Nat) : Int) := by omega
        rw [ifd_pos (by omega), chk_pos (by omega), chk_pos (by omega), chk_pos (by decide), em, chk_pos (by omega), Int.toNat_natCast]
        generalize hm : (i + j) / 2 = m
        have hm1 : i ≤ m := by omega
        have hm2 : m < j := by omega
        rw [h24 _ (getD_mem _ _ _ (by omega)), some_bind, chk_pos (by omega)]
        by_cases hmA : m < A.length
        · have hl : ((A ++ B).getD m (default : Ss)).1 < c := by
            rw [getD_appS, if_pos hmA]; exact hA _ (getD_mem _ _ _ hmA)
          rw [ifd_pos (by omega), chk_pos (by omega)]
          have := ih q (m + 1) j (by omega) (by omega) (by omega) h2 h3
          rw [← this]; rfl
        · have hl : ¬ ((A ++ B).getD m (default : Ss)).1 < c := by
            rw [getD_appS, if_neg hmA]; exact hB _ (getD_mem _ _ _ (by rw [List.length_append] at h3; omega))
          rw [ifd_neg (by omega)]
          exact ih q i m (by omega) (by omega) h1 (by omega) (by omega)
      · rw [ifd_neg (by omega)]
        congr 1; omega
  unfold f12 f23
  simp only [jn]
  have e0 : (0 : Int) = ((0 : Nat) : Int) := rfl
  rw [e0, main _ (A ++ B).length FUEL 0 (A ++ B).length (by omega) (by unfold FUEL; omega) (Nat.zero_le _) (by simp) (Nat.le_refl _)]
  rw [Int.toNat_natCast]
  by_cases hb : 0 < B.length
  · have h1 : decide ((A.length : Int) < (((A ++ B).length : Nat) : Int)) = true := by rw [List.length_append]; simp; omega
    rw [h24 _ (getD_mem _ _ _ (by rw [List.length_append]; omega)), h1, getD_appS, if_neg (Nat.lt_irrefl _), Nat.sub_self]
    simp only [beq_self_eq_true, Bool.true_and, optc_t, some_bind]
    rw [chk_pos (fun _ => by rw [List.length_append]; omega), some_bind]
    have hd : decide (0 < B.length) = true := by simp [hb]
    rw [hd]
    by_cases e : (B.getD 0 (default : Ss)).1 = c
    · have e' : ((B.getD 0 (default : Ss)).1 == c) = true := by simpa using e
      have e2 : ((B.getD 0 (default : Ss)).1 - c == ((0 : Nat) : Int)) = true := by simp only [beq_iff_eq]; omega
      rw [e', e2]; rfl
    · have e' : ((B.getD 0 (default : Ss)).1 == c) = false := by simpa using e
      have e2 : ((B.getD 0 (default : Ss)).1 - c == ((0 : Nat) : Int)) = false := by
        cases h : ((B.getD 0 (default : Ss)).1 - c == ((0 : Nat) : Int))
        · rfl
        · simp only [beq_iff_eq] at h; omega
      rw [e', e2]; rfl
  · have h1 : decide ((A.length : Int) < (((A ++ B).length : Nat) : Int)) = false := by rw [List.length_append]; simp; omega
    rw [h1]
    have hd : decide (0 < B.length) = false := by simp [hb]
    rw [hd]
    simp [optc, chk]
end Go.Abs
namespace Go.Abs
def num (l : List Ss) (c : Int) : Int := match l.find? (fun p => p.1 == c) with | some p => p.2.1 | none => 0
theorem num_hit {A C : List Ss} {c n : Int} {r : List UInt8} (hA : ∀ a, a ∈ A → a.1 < c) : num (A ++ (c, n, r) :: C) c = n := by
  unfold num
  rw [List.find?_append, List.find?_eq_none.2 fun a ha => by have := hA a ha; simp; omega]
  simp
theorem num_miss {A C : List Ss} {c : Int} (hA : ∀ a, a ∈ A → a.1 < c) (hC : ∀ b, b ∈ C → c < b.1) : num (A ++ C) c = 0 := by
  unfold num
  rw [List.find?_eq_none.2 fun a ha => by
    rcases List.mem_append.1 ha with ha | ha
    · have := hA a ha; simp; omega
    · have := hC a ha; simp; omega]
theorem num_other {A C : List Ss} {c c' n : Int} {r : List UInt8} (h : c' ≠ c) : num (A ++ (c, n, r) :: C) c' = num (A ++ C) c' := by
  unfold num
  have e : ((c, n, r).1 == c') = false := by simp; omega
  rw [List.find?_append, List.find?_append, List.find?_cons]
  simp only [e]
def good (q : Ss) : Bool := (((((decide (q.1 ≥ 0)) && (decide (q.1 < 6))) && (decide (q.2.1 ≥ 1))) && (decide (q.2.1 ≤ 1000000))) && !(q.2.2 == [])) && decide (((q.2.2.length : Nat) : Int) ≤ 200)
theorem good_of {q : Ss} (h : good q = true) : 0 ≤ q.1 ∧ q.1 < 6 ∧ 1 ≤ q.2.1 ∧ q.2.1 ≤ 1000000 ∧ q.2.2.length ≤ 200 := by
  unfold good at h
  simp only [Bool.and_eq_true, decide_eq_true_eq] at h
  omega
abbrev Mc := List Pr × List Ss
structure McV (m : Mc) : Prop where
  st : StV m.1
  se : SesV m.2
theorem ses_set {A C : List Ss} {c n n' : Int} {r r' : List UInt8} (h : SesV (A ++ (c, n, r) :: C)) : SesV (A ++ (c, n', r') :: C) := by
  refine ⟨fun p hp => ?_, ?_⟩
  · rcases List.mem_append.1 hp with hp | hp
    · exact h.rng p (List.mem_append_left _ hp)
    · rcases List.mem_cons.1 hp with rfl | hp
      · exact h.rng (c, n, r) (by simp)
      · exact h.rng p (by simp [hp])
  · have := h.srt
    simp only [List.pairwise_append, List.pairwise_cons] at this ⊢
    refine ⟨this.1, this.2.1, fun a ha b hb => ?_⟩
    rcases List.mem_cons.1 hb with rfl | hb
    · exact this.2.2 a ha (c, n, r) (List.mem_cons_self ..)
    · exact this.2.2 a ha b (List.mem_cons_of_mem _ hb)
theorem ses_ins {A C : List Ss} {c n : Int} {r : List UInt8} (h : SesV (A ++ C)) (hc : 0 ≤ c ∧ c < 6) (hA : ∀ a, a ∈ A → a.1 < c) (hC : ∀ b, b ∈ C → c < b.1) : SesV (A ++ (c, n, r) :: C) := by
  refine ⟨fun p hp => ?_, ?_⟩
  · rcases List.mem_append.1 hp with hp | hp
    · exact h.rng p (List.mem_append_left _ hp)
    · rcases List.mem_cons.1 hp with rfl | hp
      · exact hc
      · exact h.rng p (List.mem_append_right _ hp)
  · have := h.srt
    simp only [List.pairwise_append, List.pairwise_cons] at this ⊢
    refine ⟨this.1, ⟨hC, this.2.1⟩, fun a ha b hb => ?_⟩
    rcases List.mem_cons.1 hb with rfl | hb
    · exact hA a ha
    · exact this.2.2 a ha b hb
theorem setS_at : ∀ (A C : List Ss) (x y : Ss), (A ++ x :: C).set A.length y = A ++ y :: C
  | [], _, _, _ => rfl
  | a :: A, C, x, y => by
    show a :: (A ++ x :: C).set A.length y = _
    rw [setS_at A C x y]; rfl
theorem getS_at (A C : List Ss) (x d : Ss) : (A ++ x :: C).getD A.length d = x := by
  rw [getD_appS, if_neg (Nat.lt_irrefl _), Nat.sub_self]; rfl
theorem f15_eq (l : List Ss) (h : l.length ≤ 1000000) : f15 l = some l := by
  unfold f15
  rw [abc_eq, chk_pos (by omega)]
  · rfl
  · intro hl
    rw [chk_pos (by omega)]
    have : l = [] := List.length_eq_zero_iff.1 hl
    rw [this]; rfl
/-- what Apply makes of a machine -/
structure Ap (m : Mc) (q : Ss) (m' : Mc) : Prop where
  ok : McV m'
  bad : good q = false → m' = m
  old : good q = true → q.2.1 ≤ num m.2 q.1 → m' = m
  new : good q = true → q.2.1 ≤ num m'.2 q.1
  mono : ∀ c, num m.2 c ≤ num m'.2 c
theorem apply_ex (m : Mc) (q : Ss) (hm : McV m) : ∃ m' s, f7 m.1 m.2 q.1 q.2.1 q.2.2 = some (m'.1, m'.2, s) ∧ Ap m q m' := by
  obtain ⟨l1, l2⟩ := m
  obtain ⟨c, n, op⟩ := q
  obtain ⟨hst, hse⟩ := hm
  simp only at hst hse ⊢
  have hgd : (((!((((decide (c ≥ 0)) && (decide (c < 6))) && (decide (n ≥ 1))) && (decide (n ≤ 1000000)))) || (op == [])) || decide (((op.length : Nat) : Int) > 200)) = !good (c, n, op) := by
    unfold good
    simp only
    have e : decide (((op.length : Nat) : Int) > 200) = !decide (((op.length : Nat) : Int) ≤ 200) := by
      by_cases h : ((op.length : Nat) : Int) ≤ 200
      · simp [h] <;> omega
      · simp [h] <;> omega
    rw [e]
    cases (((decide (c ≥ 0)) && (decide (c < 6))) && (decide (n ≥ 1))) && (decide (n ≤ 1000000)) <;> cases op == [] <;> cases decide (((op.length : Nat) : Int) ≤ 200) <;> rfl
  unfold f7 f11
  rw [some_bind, hgd]
  cases hg : good (c, n, op)
  · refine ⟨(l1, l2), cs1, by simp, ⟨⟨hst, hse⟩, fun _ => rfl, fun h => Bool.noConfusion (hg.symm.trans h), fun h => Bool.noConfusion (hg.symm.trans h), fun _ => Int.le_refl _⟩⟩
  obtain ⟨c0, c6, n1, n2, hop⟩ := good_of hg
  simp only at c0 c6 n1 n2 hop
  have hl6 := hse.len
  rw [if_neg (by simp)]
  have pars : ∃ s l1', (∀ K : List UInt8 × List Pr → Option (List Pr × List Ss × List UInt8), ((f13 op).bind fun (r8 : Int × List UInt8 × List UInt8 × List UInt8 × Int) =>
      if (r8.2.2.2.2 == (0 : Int)) = true then (f14 l1 r8.1 r8.2.1 r8.2.2.1 r8.2.2.2.1).bind fun (r9 : List Pr × List UInt8) => K (r9.2, r9.1) else K (cs3, l1)) = K (s, l1')) ∧ StV l1' := by
    obtain ⟨k, a, b, d, e, hp, ha, hb, hd⟩ := parse49 op (by omega)
    obtain ⟨l', r, hx, hv⟩ := exec49 l1 k a b d hst (by omega) (by omega) (by omega)
    rw [hp]
    cases he : e == 0
    · exact ⟨cs3, l1, fun K => by
        show (if (e == 0) = true then (f14 l1 k a b d).bind (fun r9 => K (r9.2, r9.1)) else K (cs3, l1)) = _
        rw [he]; rfl, hst⟩
    · exact ⟨r, l', fun K => by
        show (if (e == 0) = true then (f14 l1 k a b d).bind (fun r9 => K (r9.2, r9.1)) else K (cs3, l1)) = _
        rw [he, if_pos rfl, hx]; rfl, hv⟩
  obtain ⟨s, l1', hK, hv'⟩ := pars
  simp only [hK]
  cases sview l2 c hse.srt with
  | hit A C n' r' e hA hC =>
    subst e
    have hf := f12_eq A ((c, n', r') :: C) c ⟨c0, c6⟩ hse.rng (by omega) hA (fun b hb => by
      rcases List.mem_cons.1 hb with rfl | hb
      · simp
      · have := hC b hb; omega)
    have hf' : f12 (A ++ (c, n', r') :: C) c = some ((A.length : Int), true) := by rw [hf]; simp
    have hla : (A ++ (c, n', r') :: C).length = A.length + C.length + 1 := by simp; omega
    have hnum := num_hit (n := n') (r := r') (C := C) hA
    rw [hf', some_bind]
    simp only [Int.toNat_natCast, getS_at, Bool.true_and]
    rw [chk_pos (fun _ => by rw [hla]; omega)]
    by_cases h1 : n' > n
    · rw [ifd_pos h1]
      exact ⟨(l1, A ++ (c, n', r') :: C), _, rfl, ⟨⟨hst, hse⟩, fun _ => rfl, fun _ _ => rfl, fun _ => (by simp only; rw [hnum]; omega), fun _ => Int.le_refl _⟩⟩
    rw [ifd_neg h1, chk_pos (fun _ => by rw [hla]; omega)]
    by_cases h2 : n' = n
    · have e2 : (n' == n) = true := by simp [h2]
      rw [e2, if_pos rfl, chk_pos (by rw [hla]; omega)]
      exact ⟨(l1, A ++ (c, n', r') :: C), _, rfl, ⟨⟨hst, hse⟩, fun _ => rfl, fun _ _ => rfl, fun _ => (by simp only; rw [hnum]; omega), fun _ => Int.le_refl _⟩⟩
    · have e2 : (n' == n) = false := by simp [h2]
      rw [e2, if_neg (by simp), jn_eq]
      refine ⟨(l1', A ++ (c, n, s) :: C), s, ?_, ⟨⟨hv', ses_set hse⟩, fun h => Bool.noConfusion (hg.symm.trans h), fun _ h => (by simp only at h; rw [hnum] at h; omega), fun _ => (by simp only; rw [num_hit hA]; exact Int.le_refl _), fun c' => ?_⟩⟩
      · simp only []
        rw [f15_eq _ (by omega), some_bind, jn_eq, if_pos (by simp), chk_pos (by rw [hla]; omega), chk_pos (by rw [hla]; omega), setS_at]
      · simp only
        by_cases hc : c' = c
        · rw [hc, hnum, num_hit hA]; omega
        · rw [num_other hc, num_other hc]; exact Int.le_refl _
  | miss A C e hA hC =>
    subst e
    have hf := f12_eq A C c ⟨c0, c6⟩ hse.rng (by omega) hA (fun b hb => by have := hC b hb; omega)
    have hf' : f12 (A ++ C) c = some ((A.length : Int), false) := by
      rw [hf]
      cases C with
      | nil => simp
      | cons b C =>
        have := hC b (List.mem_cons_self ..)
        have e : (b.1 == c) = false := by simp; omega
        simp [e]
    have hnum := num_miss hA hC
    rw [hf', some_bind]
    simp only [Bool.false_and, Bool.false_eq_true, if_false]
    rw [chk_pos (fun h => by cases h), chk_pos (fun h => by cases h), jn_eq]
    have e16 : f16 (A.length : Int) (A ++ C) [(c, n, s)] = some (A ++ (c, n, s) :: C, [(c, n, s)]) := by
      unfold f16
      by_cases hc : A.length < (A ++ C).length
      · rw [if_pos ⟨by omega, by rw [Int.toNat_natCast]; exact hc, by simp, by simp; simp at hl6; omega⟩, Int.toNat_natCast]
        simp
      · have : C = [] := by
          cases C with
          | nil => rfl
          | cons b C => simp at hc
        subst this
        rw [if_neg (by rw [Int.toNat_natCast]; omega)]
        unfold f16e
        rw [List.append_nil, chk_pos (by omega), if_neg (by simp), if_pos (by simp), chk_pos (by simp; simp at hl6; omega)]
    refine ⟨(l1', A ++ (c, n, s) :: C), s, ?_, ⟨⟨hv', ses_ins hse ⟨c0, c6⟩ hA hC⟩, fun h => Bool.noConfusion (hg.symm.trans h), fun _ h => (by simp only at h; rw [hnum] at h; omega), fun _ => (by simp only; rw [num_hit hA]; exact Int.le_refl _), fun c' => ?_⟩⟩
    · simp only []
      rw [f15_eq _ (by omega), some_bind, jn_eq, e16, some_bind]
    · simp only
      by_cases hc : c' = c
      · rw [hc, num_hit hA, hnum]; omega
      · rw [num_other hc]; exact Int.le_refl _
end Go.Abs
namespace Go.Abs
open Go Go.RowKit Go.ChangeShapes Go.WideShapes Go.ChangeAt Go.Deep
section
variable {P : Program} {W : World} {t e : TypeId} {base : Nat} {v : Value}
theorem open_arr3 {ts : List TypeId} (ht : P.underlying t = some (.array 3 e)) (hc : P.cellsOf t = 3) (hct : P.cellTypes P.depth t = some ts) (hts : ∀ u, u ∈ ts → u = e) (he : P.underlying e = some (.int .u8)) (hval : Value.okWide P W .any base t v) :
    ∃ a b c : Int, (0 ≤ a ∧ a ≤ 255) ∧ (0 ≤ b ∧ b ≤ 255) ∧ (0 ≤ c ∧ c ≤ 255) ∧ Rel (allSt W) W noGh (.agg [.int .u8 a, .int .u8 b, .int .u8 c]) v := by
  unfold Value.okWide at hval
  rw [ht] at hval
  obtain ⟨cs, rfl, hsz, ts', hts', _, hcell⟩ := hval
  rw [hct] at hts'
  cases hts'
  rw [hc] at hsz
  have one : ∀ i, i < 3 → ∃ n : Int, cs.getD i undef = .int .u8 n ∧ 0 ≤ n ∧ n ≤ 255 := by
    intro i hi
    have hv : cs[i]? = some (cs.getD i undef) := by simp [hsz, hi]
    obtain ⟨u, hu, hk⟩ := hcell i _ hv
    have hue := hts u (List.mem_of_getElem? hu)
    subst hue
    have hw : Value.okWide P W .any base u (cs.getD i undef) := by unfold Value.okWide; rw [he]; exact hk
    obtain ⟨n, h1, h2, h3⟩ := open_u8 he hw
    exact ⟨n, h1, h2, h3⟩
  obtain ⟨a, ha, ha1⟩ := one 0 (by omega)
  obtain ⟨b, hb, hb1⟩ := one 1 (by omega)
  obtain ⟨c, hc', hc1⟩ := one 2 (by omega)
  refine ⟨a, b, c, ha1, hb1, hc1, .agg _ _ _ (by simp [hsz]) fun i hi => ?_⟩
  have hi' : i < 3 := hi
  match i, hi' with
  | 0, _ => show Rel _ _ _ (.int .u8 a) (cs.getD 0 undef); rw [ha]; exact .int _ _ _
  | 1, _ => show Rel _ _ _ (.int .u8 b) (cs.getD 1 undef); rw [hb]; exact .int _ _ _
  | 2, _ => show Rel _ _ _ (.int .u8 c) (cs.getD 2 undef); rw [hc']; exact .int _ _ _
end
/-- Request: two numbers and a string -/
def okR (x : Int × Int × List UInt8) : Prop := (-9223372036854775808 ≤ x.1 ∧ x.1 ≤ 9223372036854775807) ∧ (-9223372036854775808 ≤ x.2.1 ∧ x.2.1 ≤ 9223372036854775807) ∧ x.2.2.length ≤ 9223372036854775807
theorem mkR {W : World} (cs : List Value) (_h : cs.length = [false, false, true].length) (hf : ∀ i, i < [false, false, true].length → fldV ([false, false, true].getD i true) (cs.getD i undef)) :
    ∃ a : Int × Int × List UInt8, okR a ∧ ∀ i, i < [false, false, true].length → Rel (allSt W) W noGh (([.int .i64 a.1, .int .i64 a.2.1, .str a.2.2] : List V).getD i .any) (cs.getD i undef) := by
  obtain ⟨n, h0, b0⟩ := hf 0 (by decide)
  obtain ⟨m, h1, b1⟩ := hf 1 (by decide)
  obtain ⟨s, h2, b2⟩ := hf 2 (by decide)
  refine ⟨(n, m, s.data.toList), ⟨b0, b1, ?_⟩, fun i hi => ?_⟩
  · exact b2
  · match i, hi with
    | 0, _ => rw [h0]; exact .int _ _ _
    | 1, _ => rw [h1]; exact .int _ _ _
    | 2, _ => rw [h2]; exact .str _ _ _ rfl
end Go.Abs
namespace Go.Abs
def stp49 (m : Mc) (q : Ss) : Mc := let t := (f7 m.1 m.2 q.1 q.2.1 q.2.2).getD ([], [], []); (t.1, t.2.1)
theorem stp49_ex {m : Mc} (q : Ss) (hm : McV m) : (∃ s, f7 m.1 m.2 q.1 q.2.1 q.2.2 = some ((stp49 m q).1, (stp49 m q).2, s)) ∧ Ap m q (stp49 m q) := by
  obtain ⟨m', s, h, ha⟩ := apply_ex m q hm
  have e : stp49 m q = m' := by
    unfold stp49
    rw [h]; rfl
  rw [e]
  exact ⟨⟨s, h⟩, ha⟩
/-- the machine behind the first n requests -/
def mch (x : List Ss) (n : Nat) : Mc := (x.take n).foldl stp49 ([], [])
theorem mch_succ {x : List Ss} {n : Nat} (h : n < x.length) : mch x (n + 1) = stp49 (mch x n) (x.getD n default) := by
  unfold mch
  have e : x[n]? = some (x.getD n default) := by simp [List.getD_eq_getElem?_getD, h]
  rw [List.take_add_one, List.foldl_append, e]
  rfl
theorem mch_ok (x : List Ss) : ∀ n, n ≤ x.length → McV (mch x n)
  | 0, _ => ⟨StV.nil, SesV.nil⟩
  | n + 1, h => by
    rw [mch_succ (by omega)]
    exact (stp49_ex _ (mch_ok x n (by omega))).2.ok
theorem known (x : List Ss) : ∀ n, n ≤ x.length → ∀ k, k < n → good (x.getD k default) = true → (x.getD k default).2.1 ≤ num (mch x n).2 (x.getD k default).1
  | 0, _, k, hk, _ => by omega
  | n + 1, h, k, hk, hg => by
    have ha := (stp49_ex (x.getD n default) (mch_ok x n (by omega))).2
    rw [mch_succ (by omega)]
    by_cases e : k = n
    · subst e
      exact ha.new hg
    · exact Int.le_trans (known x n (by omega) k (by omega) hg) (ha.mono _)
/-- a request of the log changes nothing any more -/
theorem again (x : List Ss) (n k : Nat) (hn : n ≤ x.length) (hk : k < n) : stp49 (mch x n) (x.getD k default) = mch x n := by
  have ha := (stp49_ex (x.getD k default) (mch_ok x n hn)).2
  cases hg : good (x.getD k default)
  · exact ha.bad hg
  · exact ha.old hg (known x n hn k hk hg)
theorem f3_L0_eq (x : List Ss) (hl : x.length ≤ 1000) (K : List Pr × List Ss → Option Bool) : ∀ c k n, n + c = x.length → c < k → f3_L0 x K k (n, (mch x n).1, (mch x n).2) = K ((mch x x.length).1, (mch x x.length).2)
  | 0, k, n, hn, hk => by
    obtain ⟨k, rfl⟩ : ∃ z, k = z + 1 := ⟨k - 1, by omega⟩
    obtain rfl : n = x.length := by omega
    conv => lhs; unfold f3_L0
    rw [ifd_neg (by omega)]
  | c + 1, k, n, hn, hk => by
    obtain ⟨k, rfl⟩ : ∃ z, k = z + 1 := ⟨k - 1, by omega⟩
    have hlt : n < x.length := by omega
    obtain ⟨⟨s, hs⟩, _⟩ := stp49_ex (x.getD n default) (mch_ok x n (by omega))
    conv => lhs; unfold f3_L0
    rw [ifd_pos (by omega), chk_pos (by omega), hs, some_bind, chk_pos (by omega), ← mch_succ hlt]
    exact f3_L0_eq x hl K c k (n + 1) (by omega) (by omega)
theorem f3_L2_eq (x : List Ss) (x2 x3 x4 : Int) (h2 : 0 ≤ x2 ∧ x2 ≤ 255) (h3 : 0 ≤ x3 ∧ x3 ≤ 255) (h4 : 0 ≤ x4 ∧ x4 ≤ 255) (i : Nat) (hi : i < x.length) (hl : x.length ≤ 1000) (K : List Pr × List Ss → Option Bool) :
    ∀ c k j, j + c = 3 → c < k → f3_L2 x x2 x3 x4 i K k (j, (mch x (i + 1)).1, (mch x (i + 1)).2) = K ((mch x (i + 1)).1, (mch x (i + 1)).2)
  | 0, k, j, hj, hk => by
    obtain ⟨k, rfl⟩ : ∃ z, k = z + 1 := ⟨k - 1, by omega⟩
    obtain rfl : j = 3 := by omega
    conv => lhs; unfold f3_L2
    rw [ifd_neg (by omega)]
  | c + 1, k, j, hj, hk => by
    obtain ⟨k, rfl⟩ : ∃ z, k = z + 1 := ⟨k - 1, by omega⟩
    have hv : 0 ≤ ([x2, x3, x4] : List Int).getD j 0 ∧ ([x2, x3, x4] : List Int).getD j 0 ≤ 255 := by
      match j, hj with
      | 0, _ => exact h2
      | 1, _ => exact h3
      | 2, _ => exact h4
      | _ + 3, hj => omega
    conv => lhs; unfold f3_L2
    rw [ifd_pos (by omega), jn_eq, chk_pos (by omega), chk_pos (by omega), chk_pos (by omega)]
    generalize ([x2, x3, x4] : List Int).getD j 0 = v at hv
    have hr := Int.emod_nonneg v (b := ((x.length : Nat) : Int)) (by omega)
    have hr2 := Int.emod_lt_of_pos v (b := ((x.length : Nat) : Int)) (by omega)
    by_cases hle : v % ((x.length : Nat) : Int) ≤ (i : Int)
    · have ha := again x (i + 1) (v % ((x.length : Nat) : Int)).toNat (by omega) (by omega)
      obtain ⟨⟨s, hs⟩, _⟩ := stp49_ex (x.getD (v % ((x.length : Nat) : Int)).toNat default) (mch_ok x (i + 1) (by omega))
      rw [ifd_pos hle, hs, some_bind, chk_pos (by omega), chk_pos (by omega), chk_pos (by omega), ha]
      simp only []
      rw [chk_pos (by omega)]
      exact f3_L2_eq x x2 x3 x4 h2 h3 h4 i hi hl K c k (j + 1) (by omega) (by omega)
    · rw [ifd_neg hle]
      simp only []
      rw [chk_pos (by omega)]
      exact f3_L2_eq x x2 x3 x4 h2 h3 h4 i hi hl K c k (j + 1) (by omega) (by omega)
theorem f3_L1_eq (x : List Ss) (x2 x3 x4 : Int) (h2 : 0 ≤ x2 ∧ x2 ≤ 255) (h3 : 0 ≤ x3 ∧ x3 ≤ 255) (h4 : 0 ≤ x4 ∧ x4 ≤ 255) (hl : x.length ≤ 1000) (K : List Pr × List Ss → Option Bool) :
    ∀ c k n, n + c = x.length → c < k → f3_L1 x x2 x3 x4 K k (n, (mch x n).1, (mch x n).2) = K ((mch x x.length).1, (mch x x.length).2)
  | 0, k, n, hn, hk => by
    obtain ⟨k, rfl⟩ : ∃ z, k = z + 1 := ⟨k - 1, by omega⟩
    obtain rfl : n = x.length := by omega
    conv => lhs; unfold f3_L1
    rw [ifd_neg (by omega)]
  | c + 1, k, n, hn, hk => by
    obtain ⟨k, rfl⟩ : ∃ z, k = z + 1 := ⟨k - 1, by omega⟩
    have hlt : n < x.length := by omega
    obtain ⟨⟨s, hs⟩, _⟩ := stp49_ex (x.getD n default) (mch_ok x n (by omega))
    conv => lhs; unfold f3_L1
    rw [ifd_pos (by omega), jn_eq, chk_pos (by omega), hs, some_bind, ← mch_succ hlt]
    refine (f3_L2_eq x x2 x3 x4 h2 h3 h4 n hlt hl _ 3 FUEL 0 (by omega) (fuel_lt (by omega))).trans ?_
    simp only []
    rw [chk_pos (by omega)]
    exact f3_L1_eq x x2 x3 x4 h2 h3 h4 hl K c k (n + 1) (by omega) (by omega)
theorem f17_refl (l : List Pr) (h : l.length ≤ 1000000) : f17 l l = some true := by
  unfold f17
  rw [if_neg (by simp), jn_eq, any_up (fun q i => f17_L0 l l (fun _ => some true) q i) l (default : Pr) (fun _ => false) none (some true) (fun q i hi => by
      show f17_L0 _ _ _ (q + 1) i = _
      conv => lhs; unfold f17_L0
      rw [ifd_pos (by omega), chk_pos (by omega), chk_pos (by omega), if_neg (by simp), chk_pos (by omega)]
      rfl) (fun q => by
      show f17_L0 _ _ _ (q + 1) _ = _
      conv => lhs; unfold f17_L0
      rw [ifd_neg (by omega)]) FUEL (fuel_lt (by omega))]
  simp
theorem f18_refl (l : List Pr) (h : l.length ≤ 1000000) : f18 l l = some true := by
  unfold f18
  rw [if_neg (by simp), jn_eq, any_up (fun q i => f18_L0 l l (fun _ => some true) q i) l (default : Pr) (fun _ => false) none (some true) (fun q i hi => by
      show f18_L0 _ _ _ (q + 1) i = _
      conv => lhs; unfold f18_L0
      rw [ifd_pos (by omega), chk_pos (by omega), chk_pos (by omega), if_neg (by simp), chk_pos (by omega)]
      rfl) (fun q => by
      show f18_L0 _ _ _ (q + 1) _ = _
      conv => lhs; unfold f18_L0
      rw [ifd_neg (by omega)]) FUEL (fuel_lt (by omega))]
  simp
theorem f19_refl (l : List Ss) (h : l.length ≤ 1000000) : f19 l l = some true := by
  unfold f19
  rw [if_neg (by simp), jn_eq, any_up (fun q i => f19_L0 l l (fun _ => some true) q i) l (default : Ss) (fun _ => false) none (some true) (fun q i hi => by
      show f19_L0 _ _ _ (q + 1) i = _
      conv => lhs; unfold f19_L0
      rw [ifd_pos (by omega), chk_pos (by omega), chk_pos (by omega), if_neg (by simp), chk_pos (by omega)]
      rfl) (fun q => by
      show f19_L0 _ _ _ (q + 1) _ = _
      conv => lhs; unfold f19_L0
      rw [ifd_neg (by omega)]) FUEL (fuel_lt (by omega))]
  simp
theorem f8_refl (a : List Pr) (l : List Ss) (ha : a.length ≤ 1000000) (h : l.length ≤ 1000000) : f8 a l a l = some true := by
  unfold f8
  rw [if_neg (by simp), jn_eq, f17_refl a ha, some_bind, any_up (fun q i => f8_L0 l l (fun _ => some true) q i) l (default : Ss) (fun _ => false) none (some true) (fun q i hi => by
      show f8_L0 _ _ _ (q + 1) i = _
      conv => lhs; unfold f8_L0
      rw [ifd_pos (by omega), chk_pos (by omega), chk_pos (by omega), if_neg (by simp), chk_pos (by omega)]
      rfl) (fun q => by
      show f8_L0 _ _ _ (q + 1) _ = _
      conv => lhs; unfold f8_L0
      rw [ifd_neg (by omega)]) FUEL (fuel_lt (by omega))]
  simp
theorem f9_refl (a : List Pr) (l : List Ss) (ha : a.length ≤ 1000000) (h : l.length ≤ 1000000) : f9 a l a l = some true := by
  unfold f9
  rw [f18_refl a ha, some_bind, f19_refl l h]
  rfl
theorem f5_some (x : List Ss) (hl : x.length ≤ 9223372036854775807) : ∃ r, f5 x = some r ∧ (r = true → x.length ≤ 30) := by
  unfold f5
  rw [jn_eq, any_up (fun q i => f5_L0 x (fun _ => some (decide (((x.length : Nat) : Int) ≤ 30))) q i) x (default : Ss) (fun p => decide (((p.2.2.length : Nat) : Int) > 300)) (some false) (some (decide (((x.length : Nat) : Int) ≤ 30))) (fun q i hi => by
      show f5_L0 _ _ (q + 1) i = _
      conv => lhs; unfold f5_L0
      rw [ifd_pos (by omega), chk_pos (by omega), chk_pos (by omega)]) (fun q => by
      show f5_L0 _ _ (q + 1) _ = _
      conv => lhs; unfold f5_L0
      rw [ifd_neg (by omega)]) FUEL (fuel_lt (by omega))]
  split
  · exact ⟨_, rfl, fun h => by cases h⟩
  · exact ⟨_, rfl, fun h => by simp only [decide_eq_true_eq] at h; omega⟩
theorem f3_true (x : List Ss) (x2 x3 x4 : Int) (_hx : ∀ o, o ∈ x → okR o) (hn : x.length ≤ 9223372036854775807) (h2 : 0 ≤ x2 ∧ x2 ≤ 255) (h3 : 0 ≤ x3 ∧ x3 ≤ 255) (h4 : 0 ≤ x4 ∧ x4 ≤ 255) : f3 x x2 x3 x4 = some true := by
  obtain ⟨r, hr, hr2⟩ := f5_some x hn
  unfold f3 f6
  rw [f4_true, some_bind, hr]
  rw [show ((!true) == false) = true from rfl, optc_t, some_bind]
  cases r
  · rw [if_pos (by rfl)]
    rfl
  have hl := hr2 rfl
  by_cases h0 : x.length = 0
  · rw [if_pos (by simp [h0])]
    rfl
  have e1 : (((x.length : Nat) : Int) == 0) = false := beq_eq_false_iff_ne.2 (by omega)
  rw [e1, if_neg (by decide), some_bind, jn_eq]
  have hm := mch_ok x x.length (Nat.le_refl _)
  have e0 : mch x 0 = ([], []) := rfl
  have hL0 := fun K F hF => f3_L0_eq x (by omega) K x.length F 0 (by omega) hF
  have hL1 := fun K F hF => f3_L1_eq x x2 x3 x4 h2 h3 h4 (by omega) K x.length F 0 (by omega) hF
  rw [e0] at hL0 hL1
  refine (hL0 _ FUEL (fuel_lt (by omega))).trans ?_
  simp only []
  rw [some_bind, jn_eq]
  refine (hL1 _ FUEL (fuel_lt (by omega))).trans ?_
  simp only []
  rw [f8_refl _ _ (by have := hm.st.len; omega) (by have := hm.se.len; omega), some_bind, f9_refl _ _ (by have := hm.st.len; omega) (by have := hm.se.len; omega)]
  rfl
end Go.Abs
