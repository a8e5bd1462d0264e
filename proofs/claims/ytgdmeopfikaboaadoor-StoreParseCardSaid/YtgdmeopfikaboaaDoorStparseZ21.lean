/- Part 21 of the proof: Pl48b, F48Law3. -/
import Derived.Test.YtgdmeopfikaboaaDoorStparseZ20
import Derived.Lib.SplitLaws
namespace Go.Abs
/-- the parts between spaces -/
def spl : List UInt8 → List (List UInt8)
  | [] => [[]]
  | c :: l => if c = 32 then [] :: spl l else match spl l with
    | [] => [[c]]
    | w :: r => (c :: w) :: r
theorem spl_ne (l : List UInt8) : ∃ w r, spl l = w :: r := by
  cases l with
  | nil => exact ⟨_, _, rfl⟩
  | cons c l =>
    unfold spl
    split
    · exact ⟨_, _, rfl⟩
    · split <;> exact ⟨_, _, rfl⟩
theorem spl_cons {c : UInt8} {l w : List UInt8} {r : List (List UInt8)} (hc : c ≠ 32) (h : spl l = w :: r) : spl (c :: l) = (c :: w) :: r := by
  conv => lhs; unfold spl
  rw [if_neg hc, h]
theorem spl_sp (l : List UInt8) : spl (32 :: l) = [] :: spl l := rfl
theorem split_spl : ∀ l : List UInt8, Lib.split l [32] = spl l
  | [] => by
    unfold Lib.split
    rw [Lib.count_one]; rfl
  | b :: l => by
    have ih := split_spl l
    have hp : ([32] : List UInt8).isPrefixOf (b :: l) = (b == 32) := by simp [List.isPrefixOf, BEq.comm]
    by_cases h : b = 32
    · subst h
      have hix : Lib.index (32 :: l) [32] = 0 := by rw [Lib.index]; simp [List.isPrefixOf]
      have hc : Lib.count (32 :: l) [32] = Lib.count l [32] + 1 := by rw [Lib.count_cons_eq]; omega
      unfold Lib.split at ih ⊢
      rw [hc]
      unfold Lib.splitK
      rw [hix, if_neg (by decide), spl_sp, ← ih]
      rfl
    · have hix : Lib.index (b :: l) [32] = if Lib.index l [32] == -1 then -1 else Lib.index l [32] + 1 := by
        rw [Lib.index, hp]; simp [h]
      have hc : Lib.count (b :: l) [32] = Lib.count l [32] := Lib.count_cons_ne b 32 l h
      unfold Lib.split at ih ⊢
      rw [hc]
      by_cases hm : Lib.index l [32] = -1
      · rw [Lib.count_miss hm] at ih ⊢
        rw [spl_cons h ih.symm]
        rfl
      · have hge := Lib.index_ge l [32]
        obtain ⟨j, hj⟩ : ∃ j : Nat, Lib.index l [32] = j := ⟨(Lib.index l [32]).toNat, by omega⟩
        obtain ⟨m, hm'⟩ : ∃ m, Lib.count l [32] = m + 1 := ⟨Lib.count (l.drop (j + ([32] : List UInt8).length)) [32], by rw [Lib.count_hit (by simp) hj]; omega⟩
        rw [hm'] at ih ⊢
        unfold Lib.splitK at ih ⊢
        have hm1 : ¬ (Lib.index l [32] == -1) = true := by simpa using hm
        rw [hix, if_neg hm1]
        rw [if_neg hm1] at ih
        rw [spl_cons h ih.symm, if_neg (by simp; omega)]
        have e1 : (Lib.index l [32] + 1).toNat + 0 = (Lib.index l [32]).toNat + 0 + 1 := by omega
        have e2 : (Lib.index l [32] + 1).toNat + [32].length = (Lib.index l [32]).toNat + ([32] : List UInt8).length + 1 := by simp; omega
        rw [e1, List.take_succ_cons]
        congr 1
        have e2' : (Lib.index l [32] + 1).toNat + ([32] : List UInt8).length = ((Lib.index l [32]).toNat + ([32] : List UInt8).length) + 1 := by simp; omega
        rw [e2', List.drop_succ_cons]
theorem spl_mem : ∀ (l : List UInt8) (w : List UInt8), w ∈ spl l → w.length ≤ l.length
  | [], w, h => by
    simp [spl] at h; subst h; exact Nat.le_refl _
  | c :: l, w, h => by
    by_cases hc : c = 32
    · subst hc
      rw [spl_sp] at h
      rcases List.mem_cons.1 h with rfl | h
      · exact Nat.zero_le _
      · have := spl_mem l w h; simp; omega
    · obtain ⟨v, r, hv⟩ := spl_ne l
      rw [spl_cons hc hv] at h
      rcases List.mem_cons.1 h with rfl | h
      · have := spl_mem l v (by rw [hv]; exact List.mem_cons_self ..); simp; omega
      · have := spl_mem l w (by rw [hv]; exact List.mem_cons_of_mem _ h); simp; omega
/-- a word has no space -/
def noSp (w : List UInt8) : Prop := ∀ c, c ∈ w → c ≠ 32
theorem spl_word : ∀ (w : List UInt8), noSp w → spl w = [w]
  | [], _ => rfl
  | c :: w, h => spl_cons (h c (List.mem_cons_self ..)) (spl_word w fun d hd => h d (List.mem_cons_of_mem _ hd))
theorem spl_app : ∀ (w l : List UInt8), noSp w → spl (w ++ 32 :: l) = w :: spl l
  | [], _l, _ => rfl
  | c :: w, l, h => spl_cons (h c (List.mem_cons_self ..)) (spl_app w l fun d hd => h d (List.mem_cons_of_mem _ hd))
theorem gr_sp {s : List UInt8} {n : Int} (h : gr s n = true) : noSp s := by
  rintro c hc rfl
  unfold gr at h
  have : s.any badB = true := List.any_eq_true.2 ⟨32, hc, by decide⟩
  rw [this] at h
  cases h
theorem kd_sp (k : Int) : noSp (kd k).1 := by
  have : ∀ c, c ∈ (kd k).1 → (c == 32) = false := by
    have : (kd k).1.all (fun c => !(c == 32)) = true := by
      rcases kinds k with rfl | rfl | rfl | rfl | rfl | rfl | h
      iterate 6 rfl
      obtain ⟨h1, h2, h3, h4, h5, h6⟩ := isK_not h
      simp [kd, h1, h2, h3, h4, h5, h6]
    intro c hc
    simpa using List.all_eq_true.1 this c hc
  intro c hc e
  have := this c hc
  simp [e] at this
/-- Split of the specification -/
theorem f33_eq (x : List UInt8) (hx : x.length ≤ 1000000) : f33 x = some (spl x) := by
  have main : ∀ (K : List (List UInt8) → Option (List (List UInt8))) (c k n b : Nat) (l : List (List UInt8)) (w : List UInt8) (r : List (List UInt8)), n + c = x.length → b ≤ n → c + 1 < k → l.length ≤ n → spl (x.drop n) = w :: r →
      f33_L0 x K k (b, n, l) = K (l ++ (((x.take n).drop b ++ w) :: r)) := by
    intro K c
    induction c with
    | zero =>
      intro k n b l w r hn hb hk hl hs
      obtain ⟨k, rfl⟩ : ∃ q, k = q + 2 := ⟨k - 2, by omega⟩
      obtain rfl : n = x.length := by omega
      rw [List.drop_eq_nil_of_le (Nat.le_refl _)] at hs
      cases hs
      conv => lhs; unfold f33_L0
      rw [ifd_pos (by omega), jn_eq, chk_pos (fun h => by simp at h)]
      have e : (((x.length : Nat) : Int) == ((x.length : Nat) : Int) || (((x.getD x.length 0).toNat : Nat) : Int) == 32) = true := by simp
      rw [if_pos e, chk_pos (by omega), chk_pos (by omega), chk_pos (by omega)]
      simp only []
      rw [chk_pos (by omega)]
      conv => lhs; unfold f33_L0
      rw [ifd_neg (by omega)]
      simp
    | succ c ih =>
      intro k n b l w r hn hb hk hl hs
      obtain ⟨k, rfl⟩ : ∃ q, k = q + 1 := ⟨k - 1, by omega⟩
      have hlt : n < x.length := by omega
      rw [getD_drop x n 0 hlt] at hs
      conv => lhs; unfold f33_L0
      rw [ifd_pos (by omega), jn_eq, chk_pos (fun _ => by omega)]
      have e0 : (((n : Nat) : Int) == ((x.length : Nat) : Int)) = false := by simp; omega
      rw [e0, Bool.false_or]
      have et : (x.take (n + 1)) = x.take n ++ [x.getD n 0] := by
        rw [List.take_add_one]; simp [List.getD_eq_getElem?_getD, hlt]
      by_cases hc : x.getD n 0 = 32
      · rw [hc, spl_sp] at hs
        obtain ⟨w', r', hw'⟩ := spl_ne (x.drop (n + 1))
        rw [hw'] at hs
        cases hs
        rw [if_pos (by rw [hc]; rfl), chk_pos (by omega), chk_pos (by omega), chk_pos (by omega)]
        simp only []
        rw [chk_pos (by omega), ih k (n + 1) (n + 1) _ w' r' (by omega) (Nat.le_refl _) (by omega) (by simp; omega) hw']
        congr 1
        rw [List.drop_eq_nil_of_le (show (x.take (n + 1)).length ≤ n + 1 by rw [List.length_take]; omega)]
        simp
      · have hc' : (x.getD n 0).toNat ≠ 32 := fun h => hc (by
          apply UInt8.toNat.inj; rw [h]; rfl)
        rw [if_neg (by simp only [beq_iff_eq]; omega)]
        simp only []
        obtain ⟨w', r', hw'⟩ := spl_ne (x.drop (n + 1))
        rw [spl_cons hc hw'] at hs
        cases hs
        rw [chk_pos (by omega), ih k (n + 1) b _ w' r (by omega) (by omega) (by omega) (by omega) hw']
        congr 2
        rw [et, List.drop_append_of_le_length (by simp; omega)]
        simp
  obtain ⟨w, r, hw⟩ := spl_ne x
  unfold f33
  simp only [jn]
  rw [main _ x.length FUEL 0 0 [] w r (by omega) (Nat.le_refl _) (by unfold FUEL; omega) (Nat.le_refl _) (by simpa using hw)]
  rw [hw]
  simp
end Go.Abs
namespace Go.Abs
abbrev OpR := Int × List UInt8 × List UInt8 × List UInt8 × Int
theorem nextO_of {R : Type} [DecidableEq R] {n : Nat} {seen : List Nat} {K : Nat → Option R} {E : Option R} {r : R} (h1 : ∀ j, j < n → j ∉ seen → K j = some r) (h2 : (∀ j, j < n → j ∈ seen) → E = some r) : nextO n seen K E = some r := by
  have hm : ∀ j, j ∈ (List.range n).filter (fun j => !seen.contains j) ↔ j < n ∧ j ∉ seen := by
    intro j
    rw [List.mem_filter, List.mem_range]
    simp
  unfold nextO
  split
  · rename_i he
    refine h2 fun j hj => Decidable.byContradiction fun hs => ?_
    have := (hm j).2 ⟨hj, hs⟩
    rw [he] at this; cases this
  · rename_i l hl
    have hall : ∀ y, y ∈ ((List.range n).filter (fun j => !seen.contains j)).map K → y = some r := by
      intro y hy
      obtain ⟨j, hj, rfl⟩ := List.mem_map.1 hy
      have := (hm j).1 hj
      exact h1 j this.1 this.2
    revert hall
    generalize (List.range n).filter (fun j => !seen.contains j) = l at hl
    intro hall
    cases l with
    | nil => exact absurd rfl hl
    | cons a l =>
      simp only [List.map_cons, agree]
      rw [hall (K a) (List.mem_cons_self ..), if_pos]
      rw [List.all_eq_true]
      intro y hy
      exact decide_eq_true (hall y (List.mem_cons_of_mem _ hy))
def tk (b : Bool) (l : List (List UInt8)) : List UInt8 × List (List UInt8) := if (!b || l.length == 0) = true then ([], l) else (l.getD 0 [], l.drop 1)
theorem f32_eq (b : Bool) (l : List (List UInt8)) : f32 b l = some (tk b l) := by
  unfold f32 tk
  cases b
  · rfl
  · cases l with
    | nil => rfl
    | cons a l =>
      simp [chk]
      rw [if_neg (by omega), if_pos (by omega)]
theorem tk_len (b : Bool) (l : List (List UInt8)) (m : Nat) (h : ∀ w, w ∈ l → w.length ≤ m) : (tk b l).1.length ≤ m ∧ ∀ w, w ∈ (tk b l).2 → w.length ≤ m := by
  unfold tk
  split
  · exact ⟨Nat.zero_le _, h⟩
  · cases l with
    | nil => exact ⟨Nat.zero_le _, fun w hw => by simp at hw⟩
    | cons a l => exact ⟨h a (List.mem_cons_self ..), fun w hw => h w (List.mem_cons_of_mem _ (by simpa using hw))⟩
/-- what the program tries at an entry of the forms -/
def tryP (x : List UInt8) (l : List (List UInt8)) (j : Nat) : Option OpR :=
  let v := mv31.getD j (default : List UInt8 × Bool × Bool × Bool)
  if v.1 == l.getD 0 [] then
    let r7 := tk v.2.1 (l.drop 1); let r8 := tk v.2.2.1 r7.2; let r9 := tk v.2.2.2 r8.2
    if okOp (mk31.getD j 0) r7.1 r8.1 r9.1 && (txt (mk31.getD j 0) r7.1 r8.1 r9.1 == x) then some (mk31.getD j 0, r7.1, r8.1, r9.1, 0) else none
  else none
theorem f11_step (x : List UInt8) (K : Unit → Option OpR) (k : Nat) (l : List (List UInt8)) (seen : List Nat) (m : Nat) (hm : m ≤ 1000000) (h0 : 0 < l.length) (hl : ∀ w, w ∈ l → w.length ≤ m) :
    f11_L0 x K (k + 1) (l, seen) = nextO 6 seen (fun j => match tryP x l j with | some r => some r | none => f11_L0 x K k (l, seen ++ [j])) (K ()) := by
  have h6 : mk31.length = 6 := rfl
  conv => lhs; unfold f11_L0
  rw [h6]
  congr 1
  funext j
  rw [chk_pos (by omega)]
  unfold tryP
  simp only []
  cases hw : (mv31.getD j (default : List UInt8 × Bool × Bool × Bool)).1 == l.getD 0 []
  · rfl
  · simp only [Bool.not_true, Bool.false_eq_true, if_false, if_true]
    rw [chk_pos (by omega), f32_eq, some_bind, f32_eq, some_bind, f32_eq, some_bind]
    obtain ⟨a1, a2⟩ := tk_len (mv31.getD j (default : List UInt8 × Bool × Bool × Bool)).2.1 (l.drop 1) m (fun w hw => hl w (List.mem_of_mem_drop hw))
    generalize tk (mv31.getD j (default : List UInt8 × Bool × Bool × Bool)).2.1 (l.drop 1) = r7 at *
    obtain ⟨b1, b2⟩ := tk_len (mv31.getD j (default : List UInt8 × Bool × Bool × Bool)).2.2.1 r7.2 m a2
    generalize tk (mv31.getD j (default : List UInt8 × Bool × Bool × Bool)).2.2.1 r7.2 = r8 at *
    obtain ⟨c1, c2⟩ := tk_len (mv31.getD j (default : List UInt8 × Bool × Bool × Bool)).2.2.2 r8.2 m b2
    generalize tk (mv31.getD j (default : List UInt8 × Bool × Bool × Bool)).2.2.2 r8.2 = r9 at *
    rw [f13_eq _ _ _ _ (by omega) (by omega) (by omega), some_bind]
    cases okOp (mk31.getD j 0) r7.1 r8.1 r9.1
    · rfl
    · simp only [if_true, Bool.true_and, beq_self_eq_true]
      cases txt (mk31.getD j 0) r7.1 r8.1 r9.1 == x <;> rfl
theorem f11_all (x : List UInt8) (K : Unit → Option OpR) (l : List (List UInt8)) (m : Nat) (hm : m ≤ 1000000) (h0 : 0 < l.length) (hl : ∀ w, w ∈ l → w.length ≤ m) (r : OpR) (S : Nat → Prop)
    (h1 : ∀ j, j < 6 → S j → tryP x l j = some r) (h2 : ∀ j, j < 6 → ¬ S j → tryP x l j = none) (h3 : (∀ j, j < 6 → ¬ S j) → K () = some r) :
    ∀ k seen, seen.Nodup → (∀ j, j ∈ seen → j < 6 ∧ ¬ S j) → 6 < k + seen.length → f11_L0 x K k (l, seen) = some r
  | 0, seen, hn, hs, hk => by
    have : seen.length ≤ (List.range 6).length := hn.length_le_of_subset fun j hj => List.mem_range.2 (hs j hj).1
    simp at this
    omega
  | k + 1, seen, hn, hs, hk => by
    rw [f11_step x K k l seen m hm h0 hl]
    refine nextO_of (fun j hj hns => ?_) fun hall => h3 fun j hj => (hs j (hall j hj)).2
    by_cases hS : S j
    · rw [h1 j hj hS]
    · rw [h2 j hj hS]
      refine f11_all x K l m hm h0 hl r S h1 h2 h3 k (seen ++ [j]) ?_ ?_ (by simp; omega)
      · rw [List.nodup_append]
        exact ⟨hn, by simp, fun a ha b hb => by rintro rfl; simp at hb; subst hb; exact hns ha⟩
      · intro i hi
        rcases List.mem_append.1 hi with hi | hi
        · exact hs i hi
        · simp at hi; subst hi; exact ⟨hj, hS⟩
/-- the parts of the text of a valid operation -/
def flds (a b c : List UInt8) : List (List UInt8) := (if a == [] then [] else [a]) ++ (if b == [] then [] else [b]) ++ (if c == [] then [] else [c])
theorem fld_sp {s : List UInt8} {b : Bool} (h : fld s b = true) : noSp s := by
  unfold fld at h
  cases b
  · simp at h; subst h; intro c hc; cases hc
  · exact gr_sp h
theorem spl_txt {k : Int} {a b c : List UInt8} (h : okOp k a b c = true) : spl (txt k a b c) = (kd k).1 :: flds a b c := by
  unfold okOp at h
  simp only [Bool.and_eq_true] at h
  obtain ⟨⟨⟨h0, h1⟩, h2⟩, h3⟩ := h
  have s0 := kd_sp k
  have s1 := fld_sp h1
  have s2 := fld_sp h2
  have s3 := fld_sp h3
  unfold txt flds
  cases a == [] <;> cases b == [] <;> cases c == [] <;> simp [spl_app, spl_word, s0, s1, s2, s3, List.append_assoc]
theorem f30_eq (x : List UInt8) (hx : x.length ≤ 1000000) : f30 x [32] = some (spl x) := by
  unfold f30 splitO
  simp only []
  rw [if_pos (by omega), split_spl]
theorem fldT {s : List UInt8} (h : fld s true = true) : (s == []) = false := gr_ne h
theorem fldF {s : List UInt8} (h : fld s false = true) : s = [] := by simpa [fld] using h
theorem okOp_kd {k : Int} {a b c : List UInt8} (h : okOp k a b c = true) : isK k = true ∧ fld a (kd k).2.1 = true ∧ fld b (kd k).2.2.1 = true ∧ fld c (kd k).2.2.2 = true := by
  unfold okOp at h
  simp only [Bool.and_eq_true] at h
  exact ⟨h.1.1.1, h.1.1.2, h.1.2, h.2⟩
set_option maxHeartbeats 1000000 in
theorem tryP_hit {k : Int} {a b c : List UInt8} (h : okOp k a b c = true) : ∃ j0, j0 < 6 ∧ tryP (txt k a b c) (spl (txt k a b c)) j0 = some (k, a, b, c, 0) ∧ ∀ j, j < 6 → j ≠ j0 → tryP (txt k a b c) (spl (txt k a b c)) j = none := by
  rw [spl_txt h]
  obtain ⟨h0, h1, h2, h3⟩ := okOp_kd h
  have nope : ∀ (w : List UInt8) (l : List (List UInt8)) j, ((mv31.getD j (default : List UInt8 × Bool × Bool × Bool)).1 == w) = false → tryP (txt k a b c) (w :: l) j = none := by
    intro w l j hj
    unfold tryP
    simp only [List.getD_cons_zero]
    rw [hj]
    rfl
  rcases kinds k with rfl | rfl | rfl | rfl | rfl | rfl | hn
  · refine ⟨0, by decide, ?_, fun j hj hne => nope _ _ j ?_⟩
    · obtain rfl := fldF h2
      have e1 := fldT h1
      have e3 := fldT h3
      simp [tryP, flds, e1, e3, tk, mv31, mk31, kd, h]
    · match j, hj, hne with | 1, _, _ => rfl | 2, _, _ => rfl | 3, _, _ => rfl | 4, _, _ => rfl | 5, _, _ => rfl
  · refine ⟨1, by decide, ?_, fun j hj hne => nope _ _ j ?_⟩
    · obtain rfl := fldF h2
      obtain rfl := fldF h3
      have e1 := fldT h1
      simp [tryP, flds, e1, tk, mv31, mk31, kd, h]
    · match j, hj, hne with | 0, _, _ => rfl | 2, _, _ => rfl | 3, _, _ => rfl | 4, _, _ => rfl | 5, _, _ => rfl
  · refine ⟨2, by decide, ?_, fun j hj hne => nope _ _ j ?_⟩
    · obtain rfl := fldF h2
      obtain rfl := fldF h3
      have e1 := fldT h1
      simp [tryP, flds, e1, tk, mv31, mk31, kd, h]
    · match j, hj, hne with | 0, _, _ => rfl | 1, _, _ => rfl | 3, _, _ => rfl | 4, _, _ => rfl | 5, _, _ => rfl
  · refine ⟨3, by decide, ?_, fun j hj hne => nope _ _ j ?_⟩
    · obtain rfl := fldF h2
      have e1 := fldT h1
      have e3 := fldT h3
      simp [tryP, flds, e1, e3, tk, mv31, mk31, kd, h]
    · match j, hj, hne with | 0, _, _ => rfl | 1, _, _ => rfl | 2, _, _ => rfl | 4, _, _ => rfl | 5, _, _ => rfl
  · refine ⟨4, by decide, ?_, fun j hj hne => nope _ _ j ?_⟩
    · have e1 := fldT h1
      have e2 := fldT h2
      have e3 := fldT h3
      simp [tryP, flds, e1, e2, e3, tk, mv31, mk31, kd, h]
    · match j, hj, hne with | 0, _, _ => rfl | 1, _, _ => rfl | 2, _, _ => rfl | 3, _, _ => rfl | 5, _, _ => rfl
  · refine ⟨5, by decide, ?_, fun j hj hne => nope _ _ j ?_⟩
    · obtain rfl := fldF h1
      obtain rfl := fldF h2
      obtain rfl := fldF h3
      simp [tryP, flds, tk, mv31, mk31, kd, h]
    · match j, hj, hne with | 0, _, _ => rfl | 1, _, _ => rfl | 2, _, _ => rfl | 3, _, _ => rfl | 4, _, _ => rfl | 5, _, hne => exact absurd rfl hne
  · rw [hn] at h0; cases h0
theorem spl_pos (x : List UInt8) : 0 < (spl x).length := by
  obtain ⟨w, r, h⟩ := spl_ne x
  rw [h]; exact Nat.succ_pos _
def NoOp (x : List UInt8) : Prop := ∀ k a b c, okOp k a b c = true → txt k a b c ≠ x
theorem tryP_none {x : List UInt8} (h : NoOp x) (l : List (List UInt8)) (j : Nat) : tryP x l j = none := by
  unfold tryP
  simp only []
  split
  · split
    · rename_i h'
      simp only [Bool.and_eq_true, beq_iff_eq] at h'
      exact absurd h'.2 (h _ _ _ _ h'.1)
    · rfl
  · rfl
theorem f11_hit {k : Int} {a b c : List UInt8} (h : okOp k a b c = true) (hx : (txt k a b c).length ≤ 1000000) : f11 (txt k a b c) = some (k, a, b, c, 0) := by
  obtain ⟨j0, hj0, h1, h2⟩ := tryP_hit h
  unfold f11 f31
  rw [f30_eq _ hx, some_bind]
  simp only [jn, some_bind]
  exact f11_all _ _ _ _ hx (spl_pos _) (spl_mem _) _ (fun j => j = j0) (fun j _ e => e ▸ h1) (fun j hj e => h2 j hj e) (fun hall => absurd rfl (hall j0 hj0)) FUEL [] List.nodup_nil (fun j hj => by cases hj) (by unfold FUEL; simp)
theorem f11_miss {x : List UInt8} (h : NoOp x) (hx : x.length ≤ 1000000) : f11 x = some (0, [], [], [], 2) := by
  unfold f11 f31
  rw [f30_eq _ hx, some_bind]
  simp only [jn, some_bind]
  exact f11_all _ _ _ _ hx (spl_pos _) (spl_mem _) _ (fun _ => False) (fun j _ e => e.elim) (fun j hj e => tryP_none h _ _) (fun _ => rfl) FUEL [] List.nodup_nil (fun j hj => by cases hj) (by unfold FUEL; simp)
/-- what the specification tries at a kind -/
def tryR (x : List UInt8) (l : List (List UInt8)) (n : Nat) : Option OpR :=
  if l.getD 0 [] == (kd n).1 then
    let a := l.getD 1 []
    let b := if n = 5 then l.getD 2 [] else []
    let c := if n = 5 then l.getD 3 [] else l.getD 2 []
    if okOp n a b c && (txt n a b c == x) then some ((n : Int), a, b, c, 0) else none
  else none
theorem getD_len (l : List (List UInt8)) (i m : Nat) (hl : ∀ w, w ∈ l → w.length ≤ m) : (l.getD i []).length ≤ m := by
  by_cases h : i < l.length
  · rw [List.getD_eq_getElem?_getD, List.getElem?_eq_getElem h]
    exact hl _ (List.getElem_mem ..)
  · rw [List.getD_eq_getElem?_getD, List.getElem?_eq_none (by omega)]
    exact Nat.zero_le _
theorem getD_out (l : List (List UInt8)) (i : Nat) (h : ¬ i < l.length) : l.getD i [] = [] := by
  rw [List.getD_eq_getElem?_getD, List.getElem?_eq_none (by omega)]; rfl
set_option maxHeartbeats 1000000 in
theorem f12_step (x : List UInt8) (l : List (List UInt8)) (K : Unit → Option OpR) (k n m : Nat) (hm : m ≤ 1000000) (h0 : 0 < l.length) (hl : ∀ w, w ∈ l → w.length ≤ m) (hn : n ≤ 6) :
    f12_L0 x l K (k + 1) n = match tryR x l n with | some r => some r | none => f12_L0 x l K k (n + 1) := by
  have hg := fun i => getD_len l i m hl
  have ho := getD_out l
  conv => lhs; unfold f12_L0
  rw [ifd_pos (by omega), jn_eq, f34_eq, some_bind, chk_pos (by omega), chk_pos (by omega), chk_pos (by omega)]
  unfold tryR
  cases hw : l.getD 0 [] == (kd n).1
  · rfl
  · simp only [Bool.not_true, Bool.false_eq_true, if_false, if_true, jn]
    have fin : ∀ a b c : List UInt8, a.length ≤ m → b.length ≤ m → c.length ≤ m → ((f22 n a b c).bind fun (r9 : List UInt8 × Int) => if ((r9.2 == (0 : Int)) && (r9.1 == x)) = true then some ((n : Int), a, b, c, (0 : Int)) else f12_L0 x l K k (n + 1)) =
        match (if okOp n a b c && (txt n a b c == x) then some ((n : Int), a, b, c, (0 : Int)) else none) with | some r => some r | none => f12_L0 x l K k (n + 1) := by
      intro a b c ha hb hc
      rw [f22_eq _ _ _ _ (by omega) (by omega) (by omega), some_bind]
      cases okOp n a b c
      · rfl
      · cases h : txt n a b c == x <;> simp [h]
    by_cases h5 : n = 5
    · subst h5
      by_cases l1 : 1 < l.length
      · by_cases l2 : 2 < l.length
        · by_cases l3 : 3 < l.length
          · rw [ifd_pos (by omega), chk_pos (by omega), chk_pos l1, if_pos (by simp; omega), chk_pos (by omega), chk_pos l2, if_neg (by simp), if_pos (by simp; omega), chk_pos (by omega), chk_pos l3]
            exact fin _ _ _ (hg _) (hg _) (hg _)
          · rw [ifd_pos (by omega), chk_pos (by omega), chk_pos l1, if_pos (by simp; omega), chk_pos (by omega), chk_pos l2, if_neg (by simp), if_neg (by simp; omega), ho 3 l3]
            exact fin _ _ _ (hg _) (hg _) (Nat.zero_le _)
        · rw [ifd_pos (by omega), chk_pos (by omega), chk_pos l1, if_neg (by simp; omega), if_neg (by simp), if_neg (by simp; omega), ho 2 l2, ho 3 (by omega)]
          exact fin _ _ _ (hg _) (Nat.zero_le _) (Nat.zero_le _)
      · rw [ifd_neg (by omega), if_neg (by simp; omega), if_neg (by simp), if_neg (by simp; omega), ho 1 l1, ho 2 (by omega), ho 3 (by omega)]
        exact fin _ _ _ (Nat.zero_le _) (Nat.zero_le _) (Nat.zero_le _)
    · have e5 : ((n : Int) == 5) = false := by simp; omega
      have e5' : ((n : Int) != 5) = true := by simp; omega
      rw [if_neg h5, if_neg h5, e5, e5']
      simp only [Bool.false_and, Bool.true_and, Bool.false_eq_true, if_false]
      by_cases l1 : 1 < l.length
      · by_cases l2 : 2 < l.length
        · rw [ifd_pos (by omega), chk_pos (by omega), chk_pos l1, ifd_pos (by omega), chk_pos (by omega), chk_pos l2]
          exact fin _ _ _ (hg _) (Nat.zero_le _) (hg _)
        · rw [ifd_pos (by omega), chk_pos (by omega), chk_pos l1, ifd_neg (by omega), ho 2 l2]
          exact fin _ _ _ (hg _) (Nat.zero_le _) (Nat.zero_le _)
      · rw [ifd_neg (by omega), ifd_neg (by omega), ho 1 l1, ho 2 (by omega)]
        exact fin _ _ _ (Nat.zero_le _) (Nat.zero_le _) (Nat.zero_le _)
theorem f12_end (x : List UInt8) (l : List (List UInt8)) (K : Unit → Option OpR) (k : Nat) : f12_L0 x l K (k + 1) 7 = K () := by
  conv => lhs; unfold f12_L0
  rw [ifd_neg (by omega)]
theorem f12_all (x : List UInt8) (l : List (List UInt8)) (K : Unit → Option OpR) (m : Nat) (hm : m ≤ 1000000) (h0 : 0 < l.length) (hl : ∀ w, w ∈ l → w.length ≤ m) (r : OpR) (S : Nat → Prop)
    (h1 : ∀ j, 1 ≤ j → j ≤ 6 → S j → tryR x l j = some r) (h2 : ∀ j, 1 ≤ j → j ≤ 6 → ¬ S j → tryR x l j = none) (h3 : (∀ j, 1 ≤ j → j ≤ 6 → ¬ S j) → K () = some r) :
    ∀ c k n, n + c = 7 → c < k → 1 ≤ n → (∀ j, 1 ≤ j → j < n → ¬ S j) → f12_L0 x l K k n = some r
  | 0, k, n, hn, hk, h1n, hs => by
    obtain ⟨k, rfl⟩ : ∃ q, k = q + 1 := ⟨k - 1, by omega⟩
    obtain rfl : n = 7 := by omega
    rw [f12_end]
    exact h3 fun j a b => hs j a (by omega)
  | c + 1, k, n, hn, hk, h1n, hs => by
    obtain ⟨k, rfl⟩ : ∃ q, k = q + 1 := ⟨k - 1, by omega⟩
    rw [f12_step x l K k n m hm h0 hl (by omega)]
    by_cases hS : S n
    · rw [h1 n h1n (by omega) hS]
    · rw [h2 n h1n (by omega) hS]
      refine f12_all x l K m hm h0 hl r S h1 h2 h3 c k (n + 1) (by omega) (by omega) (by omega) fun j hj hjn => ?_
      by_cases e : j = n
      · rw [e]; exact hS
      · exact hs j hj (by omega)
theorem tryR_none {x : List UInt8} (h : NoOp x) (l : List (List UInt8)) (j : Nat) : tryR x l j = none := by
  unfold tryR
  simp only []
  generalize (if j = 5 then l.getD 2 [] else []) = b
  generalize (if j = 5 then l.getD 3 [] else l.getD 2 []) = c
  split
  · split
    · rename_i h'
      simp only [Bool.and_eq_true, beq_iff_eq] at h'
      exact absurd h'.2 (h _ _ _ _ h'.1)
    · rfl
  · rfl
set_option maxHeartbeats 1000000 in
theorem tryR_hit {k : Int} {a b c : List UInt8} (h : okOp k a b c = true) : ∃ j0, 1 ≤ j0 ∧ j0 ≤ 6 ∧ tryR (txt k a b c) (spl (txt k a b c)) j0 = some (k, a, b, c, 0) ∧ ∀ j, 1 ≤ j → j ≤ 6 → j ≠ j0 → tryR (txt k a b c) (spl (txt k a b c)) j = none := by
  rw [spl_txt h]
  obtain ⟨h0, h1, h2, h3⟩ := okOp_kd h
  have nope : ∀ (w : List UInt8) (l : List (List UInt8)) (j : Nat), (w == (kd j).1) = false → tryR (txt k a b c) (w :: l) j = none := by
    intro w l j hj
    unfold tryR
    simp only [List.getD_cons_zero]
    rw [hj]
    rfl
  rcases kinds k with rfl | rfl | rfl | rfl | rfl | rfl | hn
  · refine ⟨1, by decide, by decide, ?_, fun j h1 hj hne => nope _ _ j ?_⟩
    · obtain rfl := fldF h2
      have e1 := fldT h1
      have e3 := fldT h3
      have h' : okOp (1 : Nat) a [] c = true := h
      simp [tryR, flds, e1, e3, kd, h]
    · match j, h1, hj, hne with | 2, _, _, _ => rfl | 3, _, _, _ => rfl | 4, _, _, _ => rfl | 5, _, _, _ => rfl | 6, _, _, _ => rfl
  · refine ⟨2, by decide, by decide, ?_, fun j h1 hj hne => nope _ _ j ?_⟩
    · obtain rfl := fldF h2
      obtain rfl := fldF h3
      have e1 := fldT h1
      simp [tryR, flds, e1, kd, h]
    · match j, h1, hj, hne with | 1, _, _, _ => rfl | 3, _, _, _ => rfl | 4, _, _, _ => rfl | 5, _, _, _ => rfl | 6, _, _, _ => rfl
  · refine ⟨3, by decide, by decide, ?_, fun j h1 hj hne => nope _ _ j ?_⟩
    · obtain rfl := fldF h2
      obtain rfl := fldF h3
      have e1 := fldT h1
      simp [tryR, flds, e1, kd, h]
    · match j, h1, hj, hne with | 1, _, _, _ => rfl | 2, _, _, _ => rfl | 4, _, _, _ => rfl | 5, _, _, _ => rfl | 6, _, _, _ => rfl
  · refine ⟨4, by decide, by decide, ?_, fun j h1 hj hne => nope _ _ j ?_⟩
    · obtain rfl := fldF h2
      have e1 := fldT h1
      have e3 := fldT h3
      simp [tryR, flds, e1, e3, kd, h]
    · match j, h1, hj, hne with | 1, _, _, _ => rfl | 2, _, _, _ => rfl | 3, _, _, _ => rfl | 5, _, _, _ => rfl | 6, _, _, _ => rfl
  · refine ⟨5, by decide, by decide, ?_, fun j h1 hj hne => nope _ _ j ?_⟩
    · have e1 := fldT h1
      have e2 := fldT h2
      have e3 := fldT h3
      simp [tryR, flds, e1, e2, e3, kd, h]
    · match j, h1, hj, hne with | 1, _, _, _ => rfl | 2, _, _, _ => rfl | 3, _, _, _ => rfl | 4, _, _, _ => rfl | 6, _, _, _ => rfl
  · refine ⟨6, by decide, by decide, ?_, fun j h1 hj hne => nope _ _ j ?_⟩
    · obtain rfl := fldF h1
      obtain rfl := fldF h2
      obtain rfl := fldF h3
      simp [tryR, flds, kd, h]
    · match j, h1, hj, hne with | 1, _, _, _ => rfl | 2, _, _, _ => rfl | 3, _, _, _ => rfl | 4, _, _, _ => rfl | 5, _, _, _ => rfl | 6, _, _, hne => exact absurd rfl hne
  · rw [hn] at h0; cases h0
theorem f12_hit {k : Int} {a b c : List UInt8} (h : okOp k a b c = true) (hx : (txt k a b c).length ≤ 1000000) : f12 (txt k a b c) = some (k, a, b, c, 0) := by
  obtain ⟨j0, hj0, hj1, h1, h2⟩ := tryR_hit h
  unfold f12
  rw [f33_eq _ hx, some_bind]
  simp only [jn]
  exact f12_all _ _ _ _ hx (spl_pos _) (spl_mem _) _ (fun j => j = j0) (fun j _ _ e => e ▸ h1) (fun j a b e => h2 j a b e) (fun hall => absurd rfl (hall j0 hj0 hj1)) 6 FUEL 1 (by omega) (by unfold FUEL; omega) (by omega) (fun j a b => by omega)
theorem f12_miss {x : List UInt8} (h : NoOp x) (hx : x.length ≤ 1000000) : f12 x = some (0, [], [], [], 2) := by
  unfold f12
  rw [f33_eq _ hx, some_bind]
  simp only [jn]
  exact f12_all _ _ _ _ hx (spl_pos _) (spl_mem _) _ (fun _ => False) (fun j _ _ e => e.elim) (fun j _ _ e => tryR_none h _ _) (fun _ => rfl) 6 FUEL 1 (by omega) (by unfold FUEL; omega) (by omega) (fun j a b => by omega)
theorem txt_len {k : Int} {a b c : List UInt8} : a.length ≤ (txt k a b c).length ∧ b.length ≤ (txt k a b c).length ∧ c.length ≤ (txt k a b c).length := by
  unfold txt
  cases ha : a == [] <;> cases hb : b == [] <;> cases hc : c == [] <;> simp at ha hb hc <;> simp [*] <;> omega
theorem f3_true (x : List UInt8) (_h : x.length ≤ 9223372036854775807) : f3 x = some true := by
  unfold f3
  rw [f10_true, some_bind]
  by_cases hx : (x.length : Int) > 300
  · rw [if_pos (by simpa using hx)]; rfl
  rw [if_neg (by simpa using hx)]
  have hx' : x.length ≤ 1000000 := by omega
  by_cases h : NoOp x
  · rw [f11_miss h hx', some_bind, f12_miss h hx', some_bind]
    rfl
  · obtain ⟨k, a, b, c, hk, rfl⟩ : ∃ k a b c, okOp k a b c = true ∧ txt k a b c = x := by
      refine Classical.byContradiction fun hn => h fun k a b c hk hx => hn ⟨k, a, b, c, hk, hx⟩
    rw [f11_hit hk hx', some_bind, f12_hit hk hx', some_bind]
    obtain ⟨t1, t2, t3⟩ := @txt_len k a b c
    simp only [beq_self_eq_true, Bool.and_self, Bool.not_true, bne_self_eq_false, Bool.or_self, Bool.false_eq_true, if_false]
    rw [f13_eq _ _ _ _ (by omega) (by omega) (by omega), hk]
    simp
end Go.Abs
