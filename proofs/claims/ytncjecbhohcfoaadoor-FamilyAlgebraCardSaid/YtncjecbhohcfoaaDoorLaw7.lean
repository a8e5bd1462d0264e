/- FamilyAlgebra: the plain law. -/
import Derived.Test.YtncjecbhohcfoaaDoorLaw5
namespace Go.Abs
/-- few servers -/
def Sm (l : List (BitVec 16)) : Prop := ∀ a, a ∈ l → a.toNat < 64
theorem asc_len : ∀ (l : List Nat) (a b : Nat), l.Pairwise (· < ·) → (∀ x, x ∈ l → a ≤ x ∧ x < b) → l.length ≤ b - a
  | [], a, b, _, _ => by simp
  | x :: l, a, b, h, hb => by
    rw [List.pairwise_cons] at h
    have h1 := hb x (List.mem_cons_self ..)
    have := asc_len l (x + 1) b h.2 fun y hy => ⟨h.1 y hy, (hb y (List.mem_cons_of_mem _ hy)).2⟩
    simp only [List.length_cons]; omega
theorem strict_len64 (l : List (BitVec 16)) (hs : l.Pairwise fun x y => key x < key y) (h : Sm l) : l.length ≤ 64 := by
  have hp := isortK_perm (k := BitVec.toNat) l
  have hso := isortK_sorted (k := BitVec.toNat) l
  have hnd : l.Nodup := hs.imp fun {a b} hab e => by subst e; omega
  have hnd2 : (isortK BitVec.toNat l).Nodup := hp.nodup_iff.2 hnd
  have hst : ((isortK BitVec.toNat l).map BitVec.toNat).Pairwise (· < ·) := by
    rw [List.pairwise_map]
    refine (hso.and hnd2).imp fun {a b} hab => ?_
    rcases Nat.lt_or_eq_of_le hab.1 with h1 | h1
    · exact h1
    · exact absurd (BitVec.eq_of_toNat_eq h1) hab.2
  have := asc_len _ 0 64 hst fun x hx => by
    obtain ⟨a, ha, rfl⟩ := List.mem_map.1 hx
    exact ⟨Nat.zero_le _, h a (hp.mem_iff.1 ha)⟩
  rw [List.length_map, hp.length_eq] at this
  exact this
theorem Sm_least {l : List (BitVec 16)} (h : Sm l) : Sm (leastP l) := fun a ha => h a ((mem_leastP0 l a).1 ha).1
theorem ValS_least {l : List (BitVec 16)} (h : Sm l) : ValS (leastP l) := by
  have h1 := strict_len64 _ (leastP_strict l) (Sm_least h)
  refine ⟨by omega, fun a ha => by have := Sm_least h a ha; omega, leastP_strict l, fun a b ha hb hne => ?_⟩
  exact ((mem_leastP0 l b).1 hb).2 a ((mem_leastP0 l a).1 ha).1 hne
theorem limL_least {l : List (BitVec 16)} (h : Sm l) : limL (leastP l) = (leastP l, 0) := by
  have h1 := strict_len64 _ (leastP_strict l) (Sm_least h)
  unfold limL; rw [if_neg (by omega)]
theorem or_lt64 {a b : BitVec 16} (ha : a.toNat < 64) (hb : b.toNat < 64) : (a ||| b).toNat < 64 := by
  rw [BitVec.toNat_or]
  exact Nat.or_lt_two_pow (n := 6) ha hb
theorem Sm_prod {x g : List (BitVec 16)} (h1 : Sm x) (h2 : Sm g) : Sm (prodS x g) := by
  intro z hz
  obtain ⟨a, ha, h3⟩ := List.mem_flatMap.1 hz
  obtain ⟨b, hb, rfl⟩ := List.mem_map.1 h3
  exact or_lt64 (h1 a ha) (h2 b hb)
theorem Sm_app {x g : List (BitVec 16)} (h1 : Sm x) (h2 : Sm g) : Sm (x ++ g) := fun a ha => (List.mem_append.1 ha).elim (h1 a) (h2 a)
theorem and_ok {x g : List (BitVec 16)} (h1 : Sm x) (h2 : Sm g) : f21 (leastP x) (leastP g) = some (leastP (prodS (leastP x) (leastP g)), 0) := by
  have l1 := strict_len64 _ (leastP_strict x) (Sm_least h1)
  have l2 := strict_len64 _ (leastP_strict g) (Sm_least h2)
  rw [f21_val _ _ (by omega) (by omega), if_pos (val2_of (ValS_least h1) (ValS_least h2)), limL_least (Sm_prod (Sm_least h1) (Sm_least h2))]
theorem or_ok {x g : List (BitVec 16)} (h1 : Sm x) (h2 : Sm g) : f19 (leastP x) (leastP g) = some (leastP (leastP x ++ leastP g), 0) := by
  have l1 := strict_len64 _ (leastP_strict x) (Sm_least h1)
  have l2 := strict_len64 _ (leastP_strict g) (Sm_least h2)
  rw [f19_eq _ _ (by omega) (by omega), if_pos (val2_of (ValS_least h1) (ValS_least h2)), limL_least (Sm_app (Sm_least h1) (Sm_least h2))]
theorem mask_lt (n : Nat) (h : n < 6) (a : BitVec 16) : (a &&& (((BitVec.ofInt 16 1) <<< (1 + n)) - (BitVec.ofInt 16 1))).toNat < 64 := by
  refine Nat.lt_of_le_of_lt (by rw [BitVec.toNat_and]; exact Nat.and_le_right) ?_
  have : n = 0 ∨ n = 1 ∨ n = 2 ∨ n = 3 ∨ n = 4 ∨ n = 5 := by omega
  rcases this with rfl | rfl | rfl | rfl | rfl | rfl <;> decide
/-- the sets of a draft -/
def draftP (n : Nat) (l : List (BitVec 16)) : List (BitVec 16) := (l.map fun a => a &&& (((BitVec.ofInt 16 1) <<< (1 + n)) - (BitVec.ofInt 16 1))).filter fun a => !(a == BitVec.ofInt 16 0)
theorem Sm_draft (n : Nat) (h : n < 6) (l : List (BitVec 16)) : Sm (draftP n l) := by
  intro a ha
  obtain ⟨b, hb, rfl⟩ := List.mem_map.1 (List.mem_filter.1 ha).1
  exact mask_lt n h b
theorem foldl_mapf {α β : Type} (f : α → β) (p : β → Bool) : ∀ (l : List α) (out : List β), l.foldl (fun out a => if p (f a) = true then out ++ [f a] else out) out = out ++ (l.map f).filter p
  | [], out => by simp
  | a :: l, out => by
    rw [List.foldl_cons, foldl_mapf f p l]
    cases h : p (f a) <;> simp [h]
theorem f28_eq (n : Int) (l : List (BitVec 16)) (h0 : 0 ≤ n) (h1 : n ≤ 255) : f28 n l = some (1 + n % 6, decide (l.length ≤ 20), if l.length ≤ 20 then leastP (draftP (n % 6).toNat l) else []) := by
  unfold f28
  rw [chk_pos (by omega), chk_pos (by omega), chk_pos (by omega)]
  by_cases h : l.length > 20
  · rw [ifd_pos (by omega), if_neg (by omega)]
    have : decide (l.length ≤ 20) = false := by simp; omega
    rw [this]
  · have ht : ((1 : Int) + n % 6).toNat = 1 + (n % 6).toNat := by omega
    rw [ifd_neg (by omega), if_pos (by omega), jn_eq]
    have hd : decide (l.length ≤ 20) = true := by simp; omega
    rw [hd]
    refine (fold_up (f28_L0 n l _) l 0#16 (fun k r => r.length ≤ k) (fun out a => if (!((a &&& (((BitVec.ofInt 16 1) <<< (1 + (n % 6).toNat)) - (BitVec.ofInt 16 1))) == BitVec.ofInt 16 0)) = true then out ++ [a &&& (((BitVec.ofInt 16 1) <<< (1 + (n % 6).toNat)) - (BitVec.ofInt 16 1))] else out) (fun l6 => (f45 l6).bind fun r7 => some (1 + n % 6, true, r7)) (fun k m r hm hi => ?_) (fun m r hm hi => by split; exact (by simp; omega); exact (by omega)) (fun k r hi => ?_) l.length FUEL 0 [] (by omega) (fuel_lt (by omega)) (Nat.le_refl _)).trans ?_
    · rw [f28_L0.eq_2, ifd_pos (by omega), jn_eq, chk_pos (by omega), chk_pos (by omega), ht]
      split
      · rw [chk_pos (by omega)]; dsimp only; rw [chk_pos (by omega)]
      · dsimp only; rw [chk_pos (by omega)]
    · rw [f28_L0.eq_2, ifd_neg (by omega)]
    · rw [List.drop_zero, foldl_mapf (fun a => a &&& (((BitVec.ofInt 16 1) <<< (1 + (n % 6).toNat)) - (BitVec.ofInt 16 1))) (fun a => !(a == BitVec.ofInt 16 0)), List.nil_append]
      have hlen : (draftP (n % 6).toNat l).length ≤ 20 := by
        unfold draftP
        refine Nat.le_trans (List.length_filter_le _ _) ?_
        simp; omega
      show (f45 (draftP (n % 6).toNat l)).bind _ = _
      rw [f45_eq _ (by omega), some_bind, leastP_eq]
theorem f7_true (n1 : Int) (l1 : List (BitVec 16)) (n2 : Int) (l2 : List (BitVec 16)) (n3 : Int) (l3 : List (BitVec 16)) (a1 : 0 ≤ n1) (b1 : n1 ≤ 255) (a2 : 0 ≤ n2) (b2 : n2 ≤ 255) (a3 : 0 ≤ n3) (b3 : n3 ≤ 255) : f7 n1 l1 n2 l2 n3 l3 = some true := by
  unfold f7
  rw [f28_eq n1 l1 a1 b1, some_bind, f28_eq n2 l2 a2 b2, some_bind, f28_eq n3 l3 a3 b3, some_bind, f10_true, some_bind]
  by_cases h : l1.length ≤ 20 ∧ l2.length ≤ 20 ∧ l3.length ≤ 20
  · obtain ⟨h1, h2, h3⟩ := h
    simp only [h1, h2, h3, decide_true, if_true, Bool.not_true, Bool.or_self, Bool.false_eq_true, if_false]
    have s1 := Sm_draft (n1 % 6).toNat (by omega) l1
    have s2 := Sm_draft (n2 % 6).toNat (by omega) l2
    have s3 := Sm_draft (n3 % 6).toNat (by omega) l3
    generalize draftP (n1 % 6).toNat l1 = f at s1 ⊢
    generalize draftP (n2 % 6).toNat l2 = g at s2 ⊢
    generalize draftP (n3 % 6).toNat l3 = h at s3 ⊢
    have m1 := Sm_least s1
    have m2 := Sm_least s2
    have m3 := Sm_least s3
    have fg := Sm_prod m1 m2
    have fh := Sm_prod m1 m3
    have gh := Sm_app m2 m3
    have gah := Sm_prod m2 m3
    rw [and_ok s1 s2, some_bind, and_ok s2 s1, some_bind, or_ok s2 s3, some_bind, and_ok s1 gh, some_bind, and_ok s1 s3, some_bind, or_ok fg fh, some_bind, and_ok s2 s3, some_bind, and_ok fg s3, some_bind, and_ok s1 gah, some_bind]
    have e1 : leastP (prodS (leastP g) (leastP f)) = leastP (prodS (leastP f) (leastP g)) := leastP_congr fun t => by rw [acc_prod, acc_prod, Bool.and_comm]
    have e2 : leastP (prodS (leastP f) (leastP (leastP g ++ leastP h))) = leastP (leastP (prodS (leastP f) (leastP g)) ++ leastP (prodS (leastP f) (leastP h))) := leastP_congr fun t => by
      rw [acc_prod, acc_least (leastP g ++ leastP h), acc_append, acc_append, acc_least (prodS _ _), acc_least (prodS _ _), acc_prod, acc_prod, Bool.and_or_distrib_left]
    have e3 : leastP (prodS (leastP f) (leastP (prodS (leastP g) (leastP h)))) = leastP (prodS (leastP (prodS (leastP f) (leastP g))) (leastP h)) := leastP_congr fun t => by
      rw [acc_prod, acc_prod, acc_least (prodS _ _), acc_least (prodS _ _), acc_prod, acc_prod, Bool.and_assoc]
    have k1 := strict_len64 _ (leastP_strict _) (Sm_least (Sm_prod m1 m2))
    have k2 := strict_len64 _ (leastP_strict _) (Sm_least (Sm_app (Sm_least fg) (Sm_least fh)))
    have k3 := strict_len64 _ (leastP_strict _) (Sm_least (Sm_prod (Sm_least fg) m3))
    simp only [e1, e2, e3, beq_self_eq_true, Bool.and_self, optc_t]
    rw [f18_self _ (by omega), some_bind]
    simp only [beq_self_eq_true, Bool.and_self, optc_t]
    rw [f18_self _ (by omega), some_bind]
    simp only [beq_self_eq_true, Bool.and_self, optc_t]
    rw [f18_self _ (by omega), some_bind]
    rfl
  · rw [if_pos (by
      simp only [Bool.or_eq_true, Bool.not_eq_true', decide_eq_false_iff_not]
      by_cases h1 : l1.length ≤ 20
      · by_cases h2 : l2.length ≤ 20
        · exact .inr fun h3 => h ⟨h1, h2, h3⟩
        · exact .inl (.inr h2)
      · exact .inl (.inl (.inr h1)))]
    rfl
end Go.Abs
