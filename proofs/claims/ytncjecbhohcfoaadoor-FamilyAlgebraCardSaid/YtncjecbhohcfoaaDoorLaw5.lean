/- FamilyJoined: the plain law; Or and And. -/
import Derived.Test.YtncjecbhohcfoaaDoorLaw6
namespace Go.Abs
/-- the first error of two families -/
def val2 (x g : List (BitVec 16)) : Int := if valE x = 0 then valE g else valE x
theorem f48_eq (x g : List (BitVec 16)) : f48 x g = some (val2 x g) := by
  unfold f48 val2
  rw [f11_valE, some_bind, f11_valE, some_bind]
  by_cases h : valE x = 0
  · rw [h]; simp
  · rw [if_neg h, if_pos (by simpa using h)]
theorem f51_eq (x g : List (BitVec 16)) : f51 x g = some (val2 x g) := by
  unfold f51 val2
  rw [f13_valE, some_bind, f13_valE, some_bind]
  by_cases h : valE x = 0
  · rw [h]; simp
  · rw [if_neg h, if_pos (by simpa using h)]
theorem val2_zero {x g : List (BitVec 16)} (h : val2 x g = 0) : ValS x ∧ ValS g := by
  unfold val2 at h
  split at h
  · rename_i h1; exact ⟨(valE_zero x).1 h1, (valE_zero g).1 h⟩
  · rename_i h1; exact absurd h h1
theorem val2_of {x g : List (BitVec 16)} (h1 : ValS x) (h2 : ValS g) : val2 x g = 0 := by
  unfold val2; rw [(valE_zero x).2 h1, if_pos rfl, (valE_zero g).2 h2]
theorem f72_eq (n : Nat) (hn : n ≤ 60000) : f72 (n : Int) = some [] := by
  unfold f72
  rw [ifd_neg (by omega), jn_eq, chk_pos (by omega)]
  by_cases h : n = 0
  · subst h; rw [ifd_neg (by omega)]
  · rw [ifd_pos (by omega), chk_pos (by omega), chk_pos (by omega), chk_pos (by omega)]
    simp
theorem fuel2 : FUEL = (FUEL - 3) + 1 + 1 + 1 := by unfold FUEL; rfl
theorem f50_eq (x g : List (BitVec 16)) (hx : x.length ≤ 20000) (hg : g.length ≤ 20000) : f50 [x, g] = some (x ++ g) := by
  unfold f50
  rw [jn_eq, fuel2, f50_L0.eq_2, ifd_pos (by simp), chk_pos (by simp), chk_pos (by simp; omega), ifd_neg (by omega), chk_pos (by omega), f50_L0.eq_2, ifd_pos (by simp), chk_pos (by simp), chk_pos (by simp; omega), ifd_neg (by omega), chk_pos (by omega), f50_L0.eq_2, ifd_neg (by simp)]
  have e : (0 + ([x, g].getD 0 []).length + ([x, g].getD (0 + 1) []).length) = x.length + g.length := by simp
  rw [e, f72_eq _ (by omega), some_bind, jn_eq, f50_L1.eq_2, ifd_pos (by simp), chk_pos (by simp), chk_pos (by simp; omega), chk_pos (by omega), f50_L1.eq_2, ifd_pos (by simp), chk_pos (by simp), chk_pos (by simp; omega), chk_pos (by omega), f50_L1.eq_2, ifd_neg (by simp)]
  simp
theorem f19_eq (x g : List (BitVec 16)) (hx : x.length ≤ 20000) (hg : g.length ≤ 20000) : f19 x g = some (if val2 x g = 0 then limL (leastP (x ++ g)) else ([], val2 x g)) := by
  unfold f19
  rw [f48_eq, some_bind]
  by_cases h : val2 x g = 0
  · rw [h, if_neg (by simp), if_pos rfl, f50_eq x g hx hg, some_bind, f43_eq _ (by simp; omega), some_bind, f49_eq, some_bind]; rfl
  · rw [if_pos (by simpa using h), if_neg h]
theorem f20_eq (x g : List (BitVec 16)) (hx : x.length ≤ 20000) (hg : g.length ≤ 20000) : f20 x g = some (if val2 x g = 0 then limL (leastP (x ++ g)) else ([], val2 x g)) := by
  unfold f20
  rw [f51_eq, some_bind]
  by_cases h : val2 x g = 0
  · obtain ⟨h1, h2⟩ := val2_zero h
    rw [h, if_neg (by simp), if_pos rfl, List.nil_append, f15_eq _ (by simp; omega), some_bind, chk_pos (by omega), chk_pos (by omega), limP_of]
    intro a ha
    rcases List.mem_append.1 ha with h3 | h3
    · exact h1.2.1 a h3
    · exact h2.2.1 a h3
  · rw [if_pos (by simpa using h), if_neg h]
/-! ### And -/
theorem or_lt {a b : BitVec 16} (ha : a.toNat < 4096) (hb : b.toNat < 4096) : (a ||| b).toNat < 4096 := by
  rw [BitVec.toNat_or]
  exact Nat.or_lt_two_pow (n := 12) ha hb
/-- what is marked: the numbers in S -/
def Marks (l : List Bool) (S : Nat → Prop) : Prop := l.length = 4096 ∧ ∀ i, i < 4096 → (l.getD i false = true ↔ S i)
theorem f21_L1_eq (x1 x2 : List (BitVec 16)) (n4 : Nat) (K : List Bool → Option (List (BitVec 16) × Int)) (R : Option (List (BitVec 16) × Int)) (S : Nat → Prop) (hx : x2.length ≤ 20000) (h4 : n4 < x1.length) (h1 : ∀ a, a ∈ x1 → a.toNat < 4096) (h2 : ∀ a, a ∈ x2 → a.toNat < 4096)
    (hK : ∀ l, Marks l (fun i => S i ∨ ∃ b, b ∈ x2 ∧ i = (x1.getD n4 0#16 ||| b).toNat) → K l = R) : ∀ c k n l, n + c = x2.length → c < k → Marks l (fun i => S i ∨ ∃ b, b ∈ x2.take n ∧ i = (x1.getD n4 0#16 ||| b).toNat) → f21_L1 x1 x2 n4 K k (n, l) = R
  | 0, k, n, l, hc, hk, hm => by
    obtain ⟨k, rfl⟩ : ∃ q, k = q + 1 := ⟨k - 1, by omega⟩
    rw [f21_L1.eq_2, ifd_neg (by omega)]
    rw [List.take_of_length_le (by omega)] at hm
    exact hK l hm
  | c + 1, k, n, l, hc, hk, hm => by
    obtain ⟨k, rfl⟩ : ∃ q, k = q + 1 := ⟨k - 1, by omega⟩
    have hlt := or_lt (h1 _ (getD_mem (d := 0#16) h4)) (h2 _ (getD_mem (d := 0#16) (show n < x2.length by omega)))
    have hl := hm.1
    rw [f21_L1.eq_2, ifd_pos (by omega), chk_pos (by omega), chk_pos (by omega), chk_pos (by omega), chk_pos (by omega)]
    refine f21_L1_eq x1 x2 n4 K R S hx h4 h1 h2 hK c k (n + 1) _ (by omega) (by omega) ⟨by simp [hl], fun i hi => ?_⟩
    rw [take_succ_getD x2 n 0#16 (by omega)]
    by_cases e : i = (x1.getD n4 0#16 ||| x2.getD n 0#16).toNat
    · have : i < l.length := by omega
      constructor
      · intro _
        exact .inr ⟨x2.getD n 0#16, by simp, e⟩
      · intro _
        rw [← e]
        simp [List.getD_eq_getElem?_getD, this]
    · have e' : (x1.getD n4 0#16 ||| x2.getD n 0#16).toNat ≠ i := Ne.symm e
      rw [List.getD_eq_getElem?_getD, List.getElem?_set_ne e', ← List.getD_eq_getElem?_getD, hm.2 i hi]
      constructor
      · rintro (h | ⟨b, hb, h⟩)
        · exact .inl h
        · exact .inr ⟨b, List.mem_append_left _ hb, h⟩
      · rintro (h | ⟨b, hb, h⟩)
        · exact .inl h
        · rcases List.mem_append.1 hb with hb | hb
          · exact .inr ⟨b, hb, h⟩
          · rw [List.mem_singleton] at hb; subst hb; exact absurd h e
theorem f21_L0_eq (x1 x2 : List (BitVec 16)) (K : List Bool → Option (List (BitVec 16) × Int)) (R : Option (List (BitVec 16) × Int)) (hx1 : x1.length ≤ 20000) (hx : x2.length ≤ 20000) (h1 : ∀ a, a ∈ x1 → a.toNat < 4096) (h2 : ∀ a, a ∈ x2 → a.toNat < 4096)
    (hK : ∀ l, Marks l (fun i => ∃ z, z ∈ prodS x1 x2 ∧ i = z.toNat) → K l = R) : ∀ c k n l, n + c = x1.length → c < k → Marks l (fun i => ∃ z, z ∈ prodS (x1.take n) x2 ∧ i = z.toNat) → f21_L0 x1 x2 K k (n, l) = R
  | 0, k, n, l, hc, hk, hm => by
    obtain ⟨k, rfl⟩ : ∃ q, k = q + 1 := ⟨k - 1, by omega⟩
    rw [f21_L0.eq_2, ifd_neg (by omega)]
    rw [List.take_of_length_le (by omega)] at hm
    exact hK l hm
  | c + 1, k, n, l, hc, hk, hm => by
    obtain ⟨k, rfl⟩ : ∃ q, k = q + 1 := ⟨k - 1, by omega⟩
    rw [f21_L0.eq_2, ifd_pos (by omega), jn_eq, chk_pos (by omega)]
    refine f21_L1_eq x1 x2 n _ R (fun i => ∃ z, z ∈ prodS (x1.take n) x2 ∧ i = z.toNat) hx (by omega) h1 h2 (fun l' hl' => ?_) x2.length FUEL 0 l (by omega) (fuel_lt (by omega)) ⟨hm.1, fun i hi => by rw [hm.2 i hi]; simp⟩
    rw [chk_pos (by omega)]
    refine f21_L0_eq x1 x2 K R hx1 hx h1 h2 hK c k (n + 1) l' (by omega) (by omega) ⟨hl'.1, fun i hi => ?_⟩
    rw [hl'.2 i hi, take_succ_getD x1 n 0#16 (by omega)]
    have hp : ∀ z, z ∈ prodS (x1.take n ++ [x1.getD n 0#16]) x2 ↔ z ∈ prodS (x1.take n) x2 ∨ ∃ b, b ∈ x2 ∧ z = x1.getD n 0#16 ||| b := by
      intro z
      unfold prodS
      rw [List.flatMap_append, List.mem_append]
      simp only [List.flatMap_cons, List.flatMap_nil, List.append_nil, List.mem_map]
      constructor
      · rintro (h | ⟨b, hb, rfl⟩)
        · exact .inl h
        · exact .inr ⟨b, hb, rfl⟩
      · rintro (h | ⟨b, hb, rfl⟩)
        · exact .inl h
        · exact .inr ⟨b, hb, rfl⟩
    constructor
    · rintro (⟨z, hz, e⟩ | ⟨b, hb, e⟩)
      · exact ⟨z, (hp z).2 (.inl hz), e⟩
      · exact ⟨_, (hp _).2 (.inr ⟨b, hb, rfl⟩), e⟩
    · rintro ⟨z, hz, e⟩
      rcases (hp z).1 hz with h | ⟨b, hb, rfl⟩
      · exact .inl ⟨z, h, e⟩
      · exact .inr ⟨b, hb, e⟩
theorem mem_scan : ∀ (l : List Bool) (i : Nat) (a : BitVec 16), i + l.length ≤ 65536 → (a ∈ scan i l ↔ i ≤ a.toNat ∧ a.toNat < i + l.length ∧ l.getD (a.toNat - i) false = true)
  | [], i, a, h => by simp [scan]
  | b :: t, i, a, h => by
    have ih := mem_scan t (i + 1) a (by simp at h; omega)
    have he : (BitVec.ofInt 16 ((i : Nat) : Int)).toNat = i := by simp at h ⊢; omega
    have hget : i + 1 ≤ a.toNat → (b :: t).getD (a.toNat - i) false = t.getD (a.toNat - (i + 1)) false := by
      intro h1
      rw [show a.toNat - i = (a.toNat - (i + 1)) + 1 by omega, List.getD_cons_succ]
    simp only [List.length_cons] at h ⊢
    have hrest : a ∈ scan (i + 1) t ↔ i + 1 ≤ a.toNat ∧ a.toNat < i + (t.length + 1) ∧ (b :: t).getD (a.toNat - i) false = true := by
      rw [ih]
      constructor
      · rintro ⟨h1, h2, h3⟩; exact ⟨h1, by omega, by rw [hget h1]; exact h3⟩
      · rintro ⟨h1, h2, h3⟩; exact ⟨h1, by omega, by rw [← hget h1]; exact h3⟩
    unfold scan
    cases b with
    | true =>
      simp only [if_true, List.mem_cons]
      rw [hrest]
      constructor
      · rintro (rfl | ⟨h1, h2, h3⟩)
        · rw [he]; simp
        · exact ⟨by omega, h2, h3⟩
      · rintro ⟨h1, h2, h3⟩
        by_cases e : a.toNat = i
        · exact .inl (BitVec.eq_of_toNat_eq (by rw [he, e]))
        · exact .inr ⟨by omega, h2, h3⟩
    | false =>
      simp only [Bool.false_eq_true, if_false]
      rw [hrest]
      constructor
      · rintro ⟨h1, h2, h3⟩; exact ⟨by omega, h2, h3⟩
      · rintro ⟨h1, h2, h3⟩
        by_cases e : a.toNat = i
        · rw [e, Nat.sub_self] at h3; simp at h3
        · exact ⟨by omega, h2, h3⟩
theorem prod_lt {x g : List (BitVec 16)} (h1 : ∀ a, a ∈ x → a.toNat < 4096) (h2 : ∀ a, a ∈ g → a.toNat < 4096) {z : BitVec 16} (hz : z ∈ prodS x g) : z.toNat < 4096 := by
  obtain ⟨a, ha, h3⟩ := List.mem_flatMap.1 hz
  obtain ⟨b, hb, rfl⟩ := List.mem_map.1 h3
  exact or_lt (h1 a ha) (h2 b hb)
theorem rep_getD (n i : Nat) : (List.replicate n false).getD i false = false := by
  rw [List.getD_eq_getElem?_getD, List.getElem?_replicate]
  split <;> rfl
theorem f21_val (x g : List (BitVec 16)) (hx : x.length ≤ 20000) (hg : g.length ≤ 20000) : f21 x g = some (if val2 x g = 0 then limL (leastP (prodS x g)) else ([], val2 x g)) := by
  unfold f21
  rw [f48_eq, some_bind]
  by_cases h : val2 x g = 0
  · obtain ⟨h1, h2⟩ := val2_zero h
    rw [h, if_neg (by simp), if_pos rfl, jn_eq]
    refine f21_L0_eq x g _ _ hx hg h1.2.1 h2.2.1 (fun l hl => ?_) x.length FUEL 0 _ (by omega) (fuel_lt (by omega)) ⟨by rw [List.length_replicate], fun i hi => ?_⟩
    · have hll := hl.1
      rw [jn_eq, f21_L2_eq l _ FUEL 0 [] (by omega) (by unfold FUEL; omega) (by omega) (by simp), List.nil_append, List.drop_zero]
      have hs := scan_len l 0
      rw [f43_eq _ (by omega), some_bind, f49_eq, some_bind]
      rw [leastP_congr (l' := prodS x g) (acc_congr fun a => ?_)]
      · rfl
      · rw [mem_scan l 0 a (by omega), Nat.zero_add, Nat.sub_zero, hll]
        constructor
        · rintro ⟨_, h3, h4⟩
          obtain ⟨z, hz, e⟩ := (hl.2 _ h3).1 h4
          rw [BitVec.eq_of_toNat_eq e]; exact hz
        · intro hz
          have := prod_lt h1.2.1 h2.2.1 hz
          exact ⟨Nat.zero_le _, this, (hl.2 _ this).2 ⟨a, hz, rfl⟩⟩
    · rw [rep_getD]; simp [prodS]
  · rw [if_pos (by simpa using h), if_neg h]
theorem foldl_app2 (x2 : List (BitVec 16)) : ∀ (l : List (BitVec 16)) (out : List (BitVec 16)), l.foldl (fun out a => out ++ x2.map fun b => a ||| b) out = out ++ prodS l x2
  | [], out => by simp [prodS]
  | a :: l, out => by rw [List.foldl_cons, foldl_app2 x2 l]; simp [prodS]
theorem f52_eq (x g : List (BitVec 16)) (hx : x.length ≤ 400) (hg : g.length ≤ 400) : f52 x g = some (prodS x g) := by
  unfold f52
  rw [jn_eq]
  refine (fold_up (f52_L0 x g _) x 0#16 (fun n l => l.length ≤ n * g.length) (fun out a => out ++ g.map fun b => a ||| b) (fun l8 => some l8) (fun k n l hn hi => ?_) (fun n l hn hi => by simp; rw [Nat.add_mul]; omega) (fun k l hi => ?_) x.length FUEL 0 [] (by omega) (fuel_lt (by omega)) (by simp)).trans ?_
  · have hle : n * g.length ≤ 400 * 400 := Nat.mul_le_mul (by omega) hg
    rw [f52_L0.eq_2, ifd_pos (by omega), jn_eq]
    refine (fold_up (f52_L1 x g n _) g 0#16 (fun m l' => l'.length ≤ l.length + m) (fun out b => out ++ [x.getD n 0#16 ||| b]) (fun l7 => chk ((((n : Nat) : Int) + (1 : Int)) ≤ 9223372036854775807) (f52_L0 x g (fun l8 => some l8) k (n + 1, l7))) (fun k n' l' hn' hi' => ?_) (fun m l' hm hi' => by simp; omega) (fun k l' hi' => ?_) g.length FUEL 0 l (by omega) (fuel_lt (by omega)) (by omega)).trans ?_
    · rw [f52_L1.eq_2, ifd_pos (by omega), chk_pos (by omega), chk_pos (by omega), chk_pos (by omega), chk_pos (by omega)]
    · rw [f52_L1.eq_2, ifd_neg (by omega)]
    · rw [List.drop_zero, foldl_app, chk_pos (by omega)]
  · rw [f52_L0.eq_2, ifd_neg (by omega)]
  · rw [List.drop_zero, foldl_app2, List.nil_append]
theorem prod_len (x g : List (BitVec 16)) : (prodS x g).length = x.length * g.length := by
  unfold prodS
  induction x with
  | nil => simp
  | cons a l ih => rw [List.flatMap_cons, List.length_append, ih]; simp [Nat.add_mul]; omega
theorem f22_eq (x g : List (BitVec 16)) (hx : x.length ≤ 100) (hg : g.length ≤ 100) : f22 x g = some (if val2 x g = 0 then limL (leastP (prodS x g)) else ([], val2 x g)) := by
  unfold f22
  rw [f51_eq, some_bind]
  by_cases h : val2 x g = 0
  · obtain ⟨h1, h2⟩ := val2_zero h
    have hl := prod_len x g
    have hle : x.length * g.length ≤ 100 * 100 := Nat.mul_le_mul hx hg
    rw [h, if_neg (by simp), if_pos rfl, f52_eq x g (by omega) (by omega), some_bind, f15_eq _ (by omega), some_bind, limP_of]
    intro a ha
    exact prod_lt h1.2.1 h2.2.1 ha
  · rw [if_pos (by simpa using h), if_neg h]
theorem f5_true (x g : List (BitVec 16)) : f5 x g = some true := by
  unfold f5
  rw [f10_true]
  simp only [Option.bind_some, Bool.not_true, Bool.false_or]
  by_cases h : x.length > 20 ∨ g.length > 20
  · rw [if_pos (by rcases h with h | h <;> simp <;> omega)]
  · rw [if_neg (by simp; omega), f19_eq x g (by omega) (by omega), some_bind, f20_eq x g (by omega) (by omega), some_bind, f21_val x g (by omega) (by omega), some_bind, f22_eq x g (by omega) (by omega), some_bind]
    have l1 : (if val2 x g = 0 then limL (leastP (x ++ g)) else ([], val2 x g)).1.length ≤ 400 := by
      split
      · exact limL_len _
      · simp
    have l2 : (if val2 x g = 0 then limL (leastP (prodS x g)) else ([], val2 x g)).1.length ≤ 400 := by
      split
      · exact limL_len _
      · simp
    generalize (if val2 x g = 0 then limL (leastP (x ++ g)) else ([], val2 x g)) = a at l1 ⊢
    generalize (if val2 x g = 0 then limL (leastP (prodS x g)) else ([], val2 x g)) = b at l2 ⊢
    simp only [beq_self_eq_true, Bool.and_self, optc_t]
    rw [f18_self _ (by omega), some_bind]
    simp only [beq_self_eq_true, Bool.and_self, optc_t]
    rw [f18_self _ (by omega), some_bind]
    rfl
end Go.Abs
