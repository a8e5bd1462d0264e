/- FamilyGiven: the plain law; the error of a family. -/
import Derived.Test.YtncjecbhohcfoaaDoorVal08
import Derived.Test.YtncjecbhohcfoaaDoorLaw4
namespace Go.Abs
def valE (x : List (BitVec 16)) : Int := if x.length > 400 then 3 else match scan0 x x.length 0 with
  | some e => e
  | none => if bad1 x x.length 0 = true then 1 else 0
theorem f11_valE (x : List (BitVec 16)) : f11 x = some (valE x) := by
  unfold valE
  by_cases h : x.length > 400
  · rw [if_pos h, f11_big x h]
  · rw [if_neg h, f11_val x (by omega)]
    cases scan0 x x.length 0 with
    | some e => rfl
    | none => simp only [orK]; split <;> rfl
theorem f13_valE (x : List (BitVec 16)) : f13 x = some (valE x) := by
  obtain ⟨e, h1, h2⟩ := f11_f13 x
  rw [f11_valE] at h1
  rw [h2, h1]
theorem scan0_ne (x : List (BitVec 16)) : ∀ (c n : Nat) (e : Int), scan0 x c n = some e → e = 1 ∨ e = 7
  | 0, n, e, h => by cases h
  | c + 1, n, e, h => by
    unfold scan0 at h
    split at h
    · split at h
      · cases h; exact .inl rfl
      · exact scan0_ne x c (n + 1) e h
    · cases h; exact .inr rfl
theorem scan0_rng (x : List (BitVec 16)) : ∀ (c n : Nat), scan0 x c n = none → ∀ m, n ≤ m → m < n + c → (x.getD m 0#16).toNat < 4096
  | 0, n, _, m, h1, h2 => by omega
  | c + 1, n, h, m, h1, h2 => by
    unfold scan0 at h
    split at h
    · rename_i hr
      split at h
      · cases h
      · by_cases e : m = n
        · subst e; exact hr
        · exact scan0_rng x c (n + 1) h m (by omega) (by omega)
    · cases h
theorem scan0_ok (x : List (BitVec 16)) (h1 : ∀ m, m < x.length → (x.getD m 0#16).toNat < 4096) (h2 : ∀ m, 0 < m → m < x.length → ltS (x.getD (m - 1) 0#16) (x.getD m 0#16) = true) : ∀ c n, n + c = x.length → scan0 x c n = none
  | 0, n, _ => rfl
  | c + 1, n, hn => by
    unfold scan0
    rw [if_pos (h1 n (by omega))]
    by_cases h0 : n = 0
    · subst h0; simp; exact scan0_ok x h1 h2 c 1 (by omega)
    · rw [h2 n (by omega) (by omega), if_neg (by simp)]
      exact scan0_ok x h1 h2 c (n + 1) (by omega)
/-- a valid family -/
def ValS (x : List (BitVec 16)) : Prop := x.length ≤ 400 ∧ (∀ a, a ∈ x → a.toNat < 4096) ∧ x.Pairwise (fun a b => key a < key b) ∧ ∀ a b, a ∈ x → b ∈ x → a ≠ b → sub a b = false
theorem valE_zero (x : List (BitVec 16)) : valE x = 0 ↔ ValS x := by
  unfold valE ValS
  by_cases h : x.length > 400
  · rw [if_pos h]
    constructor
    · intro h; cases h
    · intro h2; omega
  · rw [if_neg h]
    constructor
    · intro h0
      cases hs : scan0 x x.length 0 with
      | some e =>
        rw [hs] at h0
        rcases scan0_ne x _ _ e hs with rfl | rfl <;> cases h0
      | none =>
        rw [hs] at h0
        simp only at h0
        have hb : bad1 x x.length 0 = false := by
          cases hb : bad1 x x.length 0 with
          | false => rfl
          | true => rw [hb] at h0; cases h0
        have hst : x.Pairwise fun a b => key a < key b := by
          rw [List.pairwise_iff_getElem]
          intro i j hi hj hij
          obtain ⟨d, rfl⟩ : ∃ d, j = i + d + 1 := ⟨j - i - 1, by omega⟩
          have := key_mono x hs i d hj
          simpa [List.getD_eq_getElem?_getD, hi, hj] using this
        refine ⟨by omega, fun a ha => ?_, hst, fun a b ha hb' hne => ?_⟩
        · obtain ⟨m, hm, rfl⟩ := List.getElem_of_mem ha
          have := scan0_rng x _ 0 hs m (by omega) (by omega)
          simpa [List.getD_eq_getElem?_getD, hm] using this
        · cases hsub : sub a b with
          | false => rfl
          | true =>
            obtain ⟨i, hi, rfl⟩ := List.getElem_of_mem ha
            obtain ⟨j, hj, rfl⟩ := List.getElem_of_mem hb'
            have hk := sub_key hsub hne
            have hij : i < j := by
              rcases Nat.lt_trichotomy i j with h1 | h1 | h1
              · exact h1
              · subst h1; exact absurd rfl hne
              · have := List.pairwise_iff_getElem.1 hst j i hj hi h1; omega
            have : bad1 x x.length 0 = true := (bad1_iff x _ 0 (by omega)).2 ⟨j, i, by omega, hj, hij, by simpa [List.getD_eq_getElem?_getD, hi, hj] using hsub⟩
            rw [hb] at this; cases this
    · rintro ⟨_, h1, h2, h3⟩
      have hs : scan0 x x.length 0 = none := scan0_ok x (fun m hm => h1 _ (getD_mem hm)) (fun m h0 hm => ltS_key.2 (strict_get h2 (by omega) hm)) _ 0 (by omega)
      rw [hs]
      simp only
      have hb : ¬ bad1 x x.length 0 = true := by
        intro hb
        obtain ⟨m, j, _, hm, hj, hsub⟩ := (bad1_iff x _ 0 (by omega)).1 hb
        have hk := strict_get h2 hj hm
        have := h3 _ _ (getD_mem (d := 0#16) (show j < x.length by omega)) (getD_mem (d := 0#16) hm) (fun e => by rw [e] at hk; omega)
        rw [this] at hsub; cases hsub
      rw [if_neg hb]
def limL (r : List (BitVec 16)) : List (BitVec 16) × Int := if r.length > 400 then ([], 3) else (r, 0)
theorem limP_of (x r : List (BitVec 16)) (h : ∀ a, a ∈ x → a.toNat < 4096) : limP x r = limL r := by
  unfold limP limL
  rw [if_pos]
  simpa [rngS] using h
theorem limL_len (r : List (BitVec 16)) : (limL r).1.length ≤ 400 := by
  unfold limL; split
  · simp
  · simp; omega
theorem and_lt {a s : BitVec 16} {n : Nat} (h : a.toNat < n) : (a &&& s).toNat < n := by
  rw [BitVec.toNat_and]; exact Nat.lt_of_le_of_lt Nat.and_le_left h
theorem foldl_app {α β : Type} (f : α → β) : ∀ (l : List α) (out : List β), l.foldl (fun out a => out ++ [f a]) out = out ++ l.map f
  | [], out => by simp
  | a :: l, out => by rw [List.foldl_cons, foldl_app f l]; simp
theorem f23_eq (x : List (BitVec 16)) (s : BitVec 16) (hx : x.length ≤ 60000) : f23 x s = some (if valE x = 0 then limL (leastP (x.map fun a => a &&& ~~~s)) else ([], valE x)) := by
  unfold f23
  rw [f11_valE, some_bind]
  by_cases h : valE x = 0
  · rw [h, if_neg (by simp), jn_eq, if_pos rfl]
    refine (fold_up (f23_L0 x s _) x 0#16 (fun n l => l.length ≤ n) (fun out a => out ++ [a &&& ~~~s]) (fun l6 => (f43 l6).bind fun r7 => (f49 r7).bind fun r8 => some (r8.1, r8.2)) (fun k n l hn hi => ?_) (fun n l hn hi => by simp; omega) (fun k l hi => ?_) x.length FUEL 0 [] (by omega) (fuel_lt (by omega)) (Nat.le_refl _)).trans ?_
    · rw [f23_L0.eq_2, ifd_pos (by omega), chk_pos (by omega), chk_pos (by omega), chk_pos (by omega)]
    · rw [f23_L0.eq_2, ifd_neg (by omega)]
    · rw [List.drop_zero, foldl_app, List.nil_append]
      rw [f43_eq _ (by simp; omega), some_bind, f49_eq, some_bind]; rfl
  · rw [if_pos (by simpa using h), if_neg h]
theorem f24_eq (x : List (BitVec 16)) (s : BitVec 16) (hx : x.length ≤ 60000) : f24 x s = some (if valE x = 0 then limL (leastP (x.map fun a => a &&& ~~~s)) else ([], valE x)) := by
  unfold f24
  rw [f13_valE, some_bind]
  by_cases h : valE x = 0
  · rw [h, if_neg (by simp), jn_eq, if_pos rfl]
    refine (fold_up (f24_L0 x s _) x 0#16 (fun n l => l.length ≤ n) (fun out a => out ++ [a &&& ~~~s]) (fun l6 => (f15 l6).bind fun r7 => some (r7.1, r7.2)) (fun k n l hn hi => ?_) (fun n l hn hi => by simp; omega) (fun k l hi => ?_) x.length FUEL 0 [] (by omega) (fuel_lt (by omega)) (Nat.le_refl _)).trans ?_
    · rw [f24_L0.eq_2, ifd_pos (by omega), chk_pos (by omega), chk_pos (by omega), chk_pos (by omega)]
    · rw [f24_L0.eq_2, ifd_neg (by omega)]
    · rw [List.drop_zero, foldl_app, List.nil_append]
      rw [f15_eq _ (by simp; omega), some_bind, limP_of]
      intro a ha
      obtain ⟨b, hb, rfl⟩ := List.mem_map.1 ha
      exact and_lt (((valE_zero x).1 h).2.1 b hb)
  · rw [if_pos (by simpa using h), if_neg h]
theorem f25_eq (x : List (BitVec 16)) (s : BitVec 16) (hx : x.length ≤ 60000) : f25 x s = some (if valE x = 0 then (0, x.filter fun a => (a &&& s) == 0#16) else (valE x, [])) := by
  unfold f25
  rw [f11_valE, some_bind]
  by_cases h : valE x = 0
  · rw [h, if_neg (by simp), jn_eq, if_pos rfl]
    refine (fold_up (f25_L0 x s _) x 0#16 (fun n l => l.length ≤ n) (fun out a => if ((a &&& s) == 0#16) = true then out ++ [a] else out) (fun l7 => some (0, l7)) (fun k n l hn hi => ?_) (fun n l hn hi => by split; exact (by simp; omega); exact (by omega)) (fun k l hi => ?_) x.length FUEL 0 [] (by omega) (fuel_lt (by omega)) (Nat.le_refl _)).trans ?_
    · rw [f25_L0.eq_2, ifd_pos (by omega), jn_eq, chk_pos (by omega)]
      have e : (BitVec.ofInt 16 0) = 0#16 := rfl
      rw [e]
      split
      · rw [chk_pos (by omega)]; dsimp only; rw [chk_pos (by omega)]
      · dsimp only; rw [chk_pos (by omega)]
    · rw [f25_L0.eq_2, ifd_neg (by omega)]
    · rw [List.drop_zero, foldl_filter, List.nil_append]
  · rw [if_pos (by simpa using h), if_neg h]
theorem f26_eq (x : List (BitVec 16)) (s : BitVec 16) (hx : x.length ≤ 60000) : f26 x s = some (if valE x = 0 then (0, x.filter fun a => (a &&& s) == 0#16) else (valE x, [])) := by
  unfold f26
  rw [f13_valE, some_bind]
  by_cases h : valE x = 0
  · rw [h, if_neg (by simp), jn_eq, if_pos rfl]
    refine (fold_up (f26_L0 x s _) x 0#16 (fun n l => l.length ≤ n) (fun out a => if ((a &&& s) == 0#16) = true then out ++ [a] else out) (fun l7 => some (0, l7)) (fun k n l hn hi => ?_) (fun n l hn hi => by split; exact (by simp; omega); exact (by omega)) (fun k l hi => ?_) x.length FUEL 0 [] (by omega) (fuel_lt (by omega)) (Nat.le_refl _)).trans ?_
    · rw [f26_L0.eq_2, ifd_pos (by omega), jn_eq, chk_pos (by omega)]
      have e : (BitVec.ofInt 16 0) = 0#16 := rfl
      rw [e]
      split
      · rw [chk_pos (by omega), chk_pos (by omega)]; dsimp only; rw [chk_pos (by omega)]
      · dsimp only; rw [chk_pos (by omega)]
    · rw [f26_L0.eq_2, ifd_neg (by omega)]
    · rw [List.drop_zero, foldl_filter, List.nil_append]
  · rw [if_pos (by simpa using h), if_neg h]
theorem acc_map_diff (x : List (BitVec 16)) (s t : BitVec 16) : acc (x.map fun a => a &&& ~~~s) t = acc x (s ||| t) := by
  unfold acc
  rw [List.any_map]
  congr 1
  funext a
  exact sub_diff a s t
theorem acc_filter (x : List (BitVec 16)) (s t : BitVec 16) : acc (x.filter fun a => (a &&& s) == 0#16) t = acc x (t &&& ~~~s) := by
  unfold acc
  rw [List.any_filter]
  congr 1
  funext a
  rw [sub_and, Bool.and_comm]
theorem f6_true (x : List (BitVec 16)) (s t : BitVec 16) : f6 x s t = some true := by
  unfold f6
  rw [f10_true]
  simp only [Option.bind_some, Bool.not_true, Bool.false_or]
  by_cases h : x.length > 40
  · rw [ifd_pos (by omega)]
  · rw [ifd_neg (by omega), f23_eq x s (by omega), some_bind, f24_eq x s (by omega), some_bind, f25_eq x s (by omega), some_bind, f26_eq x s (by omega), some_bind]
    have hfl : (x.filter fun a => (a &&& s) == 0#16).length ≤ 40 := Nat.le_trans (List.length_filter_le _ _) (by omega)
    by_cases hv : valE x = 0
    · simp only [if_pos hv]
      have hl : (leastP (x.map fun a => a &&& ~~~s)).length ≤ 40 := by
        refine Nat.le_trans (greedy_len _ _) (Nat.le_trans (srt_len _) ?_)
        simp; omega
      have hlim : limL (leastP (x.map fun a => a &&& ~~~s)) = (leastP (x.map fun a => a &&& ~~~s), 0) := by
        unfold limL; rw [if_neg (by omega)]
      rw [hlim]
      simp only [bne_self_eq_false, Bool.or_self, beq_self_eq_true, optc_t, Bool.false_or]
      rw [f18_self _ (by omega), some_bind]
      simp only [Bool.not_true, beq_self_eq_true, optc_t]
      rw [f18_self _ (by omega), some_bind, if_neg (by simp), f27_acc _ _ (by omega), some_bind, f27_acc _ _ (by omega), some_bind, acc_least, acc_map_diff]
      simp only [beq_self_eq_true, optc_t]
      rw [f27_acc _ _ (by omega), some_bind, f27_acc _ _ (by omega), some_bind, acc_filter]
      simp
    · simp only [if_neg hv]
      simp only [bne_self_eq_false, Bool.or_self, beq_self_eq_true, optc_t, Bool.false_or]
      rw [f18_self _ (by simp), some_bind]
      simp only [Bool.not_true, beq_self_eq_true, optc_t]
      rw [some_bind, if_pos (by simpa using hv)]
      simp only [beq_self_eq_true, Bool.and_self, optc_t]
      rw [some_bind]
      simp only [beq_self_eq_true, Bool.and_self, optc_t]
      rw [some_bind]
      rfl
end Go.Abs
