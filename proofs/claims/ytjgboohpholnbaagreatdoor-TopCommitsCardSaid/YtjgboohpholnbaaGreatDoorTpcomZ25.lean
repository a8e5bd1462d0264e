/- Part 25 of the proof: FtzLaw3. -/
import Derived.Test.YtjgboohpholnbaaGreatDoorTpcomZ24
namespace Go.Abs
theorem f4_true : f4 = some true := by kernel_rfl
def restP (rd bz : List (BitVec 16)) (W : BitVec 16) : List (BitVec 16) := rd.flatMap fun r => bz.map fun b => (r &&& ~~~b) &&& ~~~W
theorem bit_acc (s r b W : BitVec 16) : (((r &&& ~~~b) &&& ~~~W) &&& s) = ((s &&& r) &&& ~~~(b ||| W)) := by
 apply BitVec.eq_of_getLsbD_eq
 intro i hi
 simp only [BitVec.getLsbD_and, BitVec.getLsbD_or, BitVec.getLsbD_not, hi, decide_true, Bool.true_and]
 cases s.getLsbD i <;> cases r.getLsbD i <;> cases b.getLsbD i <;> cases W.getLsbD i <;> rfl
theorem acc_hits (rd bz : List (BitVec 16)) (W s : BitVec 16) : accC rd bz W s = hits (restP rd bz W) s := by
 unfold accC hits restP
 rw [Bool.eq_iff_iff, List.all_eq_true, List.all_eq_true]
 constructor
 ·intro h y hy
  obtain ⟨r, hr, hy⟩ := List.mem_flatMap.1 hy
  obtain ⟨b, hb, rfl⟩ := List.mem_map.1 hy
  have := List.all_eq_true.1 (h r hr) b hb
  rw [bit_acc]; exact this
 ·intro h r hr
  rw [List.all_eq_true]
  intro b hb
  have := h _ (List.mem_flatMap.2 ⟨r, hr, List.mem_map.2 ⟨b, hb, rfl⟩⟩)
  rw [bit_acc] at this; exact this
theorem hits_iff {x : List (BitVec 16)} {s : BitVec 16} : hits x s = true ↔ ∀ y, y ∈ x → (y &&& s) ≠ 0#16 := by
 unfold hits
 rw [List.all_eq_true]
 constructor
 ·intro h y hy e; have := h y hy; rw [e] at this; simp at this
 ·intro h y hy; simpa using h y hy
theorem and_ne {x y z : BitVec 16} (h : sub x y = true) (h2 : (x &&& z) ≠ 0#16) : (y &&& z) ≠ 0#16 := by
 intro e
 apply h2
 apply BitVec.eq_of_getLsbD_eq
 intro i hi
 have := congrArg (fun w : BitVec 16 => w.getLsbD i) e
 simp only [BitVec.getLsbD_and, BitVec.getLsbD_zero] at this ⊢
 cases hx : x.getLsbD i with
 | false => rfl
 | true => rw [sub_iff.1 h i hi hx] at this; simpa using this
theorem hits_least (x : List (BitVec 16)) (s : BitVec 16) : hits (leastP x) s = hits x s := by
 rw [Bool.eq_iff_iff, hits_iff, hits_iff]
 constructor
 ·intro h y hy
  obtain ⟨b, hb, hs⟩ := least_below x _ y (Nat.le_refl _) hy
  exact and_ne hs (h b hb)
 ·intro h y hy; exact h y ((mem_leastP0 x y).1 hy).1
theorem dual_least (rest : List (BitVec 16)) (U : BitVec 16) (h : ∀ y, y ∈ rest → sub y U = true) : dualP (leastP rest) = famF (hits rest) (subsB U) := by
 have hS : sub (suppS (leastP rest)) U = true := supp_sub _ U 0#16 (sub_iff.2 fun i hi h => by simp at h) fun y hy => h y ((mem_leastP0 rest y).1 hy).1
 have hin : ∀ y, y ∈ leastP rest → sub y (suppS (leastP rest)) = true := (sub_supp (leastP rest) 0#16).2
 have hst : ∀ (p : BitVec 16 → Bool) (V : BitVec 16), (famF p (subsB V)).Pairwise fun x y => key x < key y := fun p V => by
  rw [famF_eq p _ (subsB_sorted V)]; exact leastP_strict _
 refine strict_uniq (fun _ _ => key_inj') _ _ (fun a => ?_) (hst _ _) (hst _ _)
 unfold dualP
 rw [mem_fam, mem_fam]
 simp only [hits_least]
 constructor
 ·rintro ⟨⟨h1, h2⟩, h3⟩
  refine ⟨⟨sub_trans h1 hS, h2⟩, fun b hb hh hne => ?_⟩
  cases e : sub b a with
  | false => rfl
  | true => rw [← e]; exact h3 b (sub_trans e h1) hh hne
 ·rintro ⟨⟨h1, h2⟩, h3⟩
  have hsa : sub (a &&& suppS (leastP rest)) a = true := sub_iff.2 fun i hi h => by
   rw [BitVec.getLsbD_and, Bool.and_eq_true] at h; exact h.1
  have hh : hits rest (a &&& suppS (leastP rest)) = true := by
   rw [← hits_least, hits_iff]
   rw [← hits_least, hits_iff] at h2
   intro y hy e
   apply h2 y hy
   apply BitVec.eq_of_getLsbD_eq
   intro i hi
   have := congrArg (fun w : BitVec 16 => w.getLsbD i) e
   simp only [BitVec.getLsbD_and, BitVec.getLsbD_zero] at this ⊢
   cases hx : y.getLsbD i with
   | false => rfl
   | true => rw [hx, sub_iff.1 (hin y hy) i hi hx] at this; simpa using this
  have ea : (a &&& suppS (leastP rest)) = a := Classical.byContradiction fun hne => by
   have := h3 _ (sub_trans hsa h1) hh hne
   rw [hsa] at this; cases this
  have has : sub a (suppS (leastP rest)) = true := by rw [← ea]; exact sub_andr _ _
  exact ⟨⟨has, h2⟩, fun b hb hh hne => h3 b (sub_trans hb hS) hh hne⟩
/-! ### the loops -/
theorem f3_L1_eq (W : BitVec 16) (c : List UInt8 × Int × BitVec 16 × List (BitVec 16) × List (BitVec 16) × List Flt) (bz : List (BitVec 16)) (n : Nat) (K : List (BitVec 16) → Option Bool) (l : List (BitVec 16)) (hb : bz.length ≤ 100) (hl : l.length ≤ 100000) : f3_L1 W c bz n K FUEL (0, l) = K (l ++ bz.map fun b => (c.2.2.2.1.getD n 0#16 &&& ~~~b) &&& ~~~W) := by
 rw [fold_up (f3_L1 W c bz n K) bz 0#16 (fun m s => s.length ≤ 100000 + m) (fun out b => out ++ [(c.2.2.2.1.getD n 0#16 &&& ~~~b) &&& ~~~W]) K ?_ ?_ ?_ bz.length FUEL 0 l (by omega) (fuel_lt (by omega)) (by omega), List.drop_zero, mapfold]
 ·intro k m s hm hs
  rw [f3_L1.eq_2, ifd_pos (by omega), chk_pos (by omega), chk_pos (by omega), chk_pos (by omega), chk_pos (by omega)]
 ·intro m s hm hs; simp; omega
 ·intro k s hs
  rw [f3_L1.eq_2, ifd_neg (by omega)]
theorem flatfold {α β : Type} (g : α → List β) (l : List α) : ∀ out : List β, l.foldl (fun out a => out ++ g a) out = out ++ l.flatMap g := by
 induction l with
 | nil => intro out; simp
 | cons a l ih => intro out; rw [List.foldl_cons, ih]; simp
theorem f3_L0_eq (W : BitVec 16) (c : List UInt8 × Int × BitVec 16 × List (BitVec 16) × List (BitVec 16) × List Flt) (bz : List (BitVec 16)) (K : List (BitVec 16) → Option Bool) (hr : c.2.2.2.1.length ≤ 100) (hb : bz.length ≤ 100) : f3_L0 W c bz K FUEL (0, []) = K (restP c.2.2.2.1 bz W) := by
 rw [fold_up (f3_L0 W c bz K) c.2.2.2.1 0#16 (fun m s => s.length ≤ 100 * m) (fun out r => out ++ bz.map fun b => (r &&& ~~~b) &&& ~~~W) K ?_ ?_ ?_ c.2.2.2.1.length FUEL 0 [] (by omega) (fuel_lt (by omega)) (by simp), List.drop_zero, flatfold]
 ·rfl
 ·intro k m s hm hs
  rw [f3_L0.eq_2, ifd_pos (by omega), jn_eq, chk_pos (by omega), chk_pos (by omega), f3_L1_eq _ _ _ _ _ _ hb (by omega), chk_pos (by omega)]
 ·intro m s hm hs; simp; omega
 ·intro k s hs
  rw [f3_L0.eq_2, ifd_neg (by omega)]
theorem f3_L3_eq (W : BitVec 16) (x15 : Int) (c : List UInt8 × Int × BitVec 16 × List (BitVec 16) × List (BitVec 16) × List Flt) (m : List Flt) (g : Int × List (BitVec 16)) (n : Nat) (K : Unit → Option Bool) (hr : c.2.2.2.1.length ≤ 100)
  (h : ∀ r, r ∈ c.2.2.2.1 → ¬ ((((g.2.getD n 0#16 &&& r) &&& ~~~(m.getD ((x15 % ((m.length : Nat) : Int)).toNat) default).1) &&& ~~~W) = 0#16)) : ∀ k q j, j + k = c.2.2.2.1.length → k < q → f3_L3 W x15 c m g n K q j = K ()
 | 0, q, j, hj, hq => by
  obtain ⟨q, rfl⟩ : ∃ z, q = z + 1 := ⟨q - 1, by omega⟩
  rw [f3_L3.eq_2, ifd_neg (by omega)]
 | k + 1, q, j, hj, hq => by
  obtain ⟨q, rfl⟩ : ∃ z, q = z + 1 := ⟨q - 1, by omega⟩
  have h1 := h _ (getD_memS (l := c.2.2.2.1) (n := j) (by omega))
  rw [f3_L3.eq_2, ifd_pos (by omega), chk_pos (by omega), chk_pos (by omega), if_neg (by rw [beq_iff_eq]; exact h1), chk_pos (by omega), f3_L3_eq W x15 c m g n K hr h k q (j + 1) (by omega) (by omega)]
theorem f3_L2_eq (W : BitVec 16) (x15 : Int) (c : List UInt8 × Int × BitVec 16 × List (BitVec 16) × List (BitVec 16) × List Flt) (m : List Flt) (g : Int × List (BitVec 16)) (K : Unit → Option Bool) (hr : c.2.2.2.1.length ≤ 100) (hg : g.2.length ≤ 100)
  (h : ∀ s, s ∈ g.2 → ∀ r, r ∈ c.2.2.2.1 → ¬ ((((s &&& r) &&& ~~~(m.getD ((x15 % ((m.length : Nat) : Int)).toNat) default).1) &&& ~~~W) = 0#16)) : ∀ k q j, j + k = g.2.length → k < q → f3_L2 W x15 c m g K q j = K ()
 | 0, q, j, hj, hq => by
  obtain ⟨q, rfl⟩ : ∃ z, q = z + 1 := ⟨q - 1, by omega⟩
  rw [f3_L2.eq_2, ifd_neg (by omega)]
 | k + 1, q, j, hj, hq => by
  obtain ⟨q, rfl⟩ : ∃ z, q = z + 1 := ⟨q - 1, by omega⟩
  rw [f3_L2.eq_2, ifd_pos (by omega), jn_eq, chk_pos (by omega), chk_pos (by omega), f3_L3_eq W x15 c m g j _ hr (h _ (getD_memS (l := g.2) (n := j) (by omega))) c.2.2.2.1.length FUEL 0 (by omega) (fuel_lt (by omega)), chk_pos (by omega), f3_L2_eq W x15 c m g K hr hg h k q (j + 1) (by omega) (by omega)]
theorem f5_eq (x1 x2 x3 : Int) (x4 x5 : List (BitVec 16)) (x6 : List Flt) (h1 : 0 ≤ x1) (h2 : 0 ≤ x2) (h3 : 0 ≤ x3) (b1 : x1 ≤ 255) (b2 : x2 ≤ 255) : ∃ (n : Nat) (kd : Int) (rd wr : List (BitVec 16)) (fl : List Flt), (1 ≤ n ∧ n ≤ 5) ∧ (kd = 1 ∨ kd = 2) ∧ okC rd (allN n) ∧ okC wr (allN n) ∧ validF fl = 0 ∧ f5 x1 x2 x3 x4 x5 x6 [99] = some ([99], kd, allN n, rd, wr, fl) := by
 obtain ⟨n, hn⟩ : ∃ n : Nat, 1 + x2 % 5 = (n : Int) := ⟨(1 + x2 % 5).toNat, by omega⟩
 have hn5 : 1 ≤ n ∧ n ≤ 5 := by omega
 obtain ⟨rd, e1, k1⟩ := f16_ok' x1 x2 x3 x4 x5 x6 x4 n h3 hn5
 obtain ⟨wr, e2, k2⟩ := f16_ok' x1 x2 x3 x4 x5 x6 x5 n h3 hn5
 refine ⟨n, 1 + x1 % 2, rd, wr, madeF n x6, hn5, by omega, k1, k2, madeF_valid n (by omega) x6, ?_⟩
 unfold f5
 rw [chk_pos (by omega), chk_pos (by omega), chk_pos (by omega), hn, e1, some_bind, e2, some_bind, chk_pos (by omega), chk_pos (by omega), chk_pos (by omega), chk_pos (by omega), f6_eq, some_bind, Int.toNat_natCast]
 rfl
theorem f3_true (x1 x2 x3 : Int) (x4 x5 : List (BitVec 16)) (x6 : List Flt) (x7 x8 x9 : Int) (x10 x11 : List (BitVec 16)) (x12 : List Flt) (x13 : BitVec 16) (x14 : List Flt) (x15 : Int) (a1 : 0 ≤ x1 ∧ x1 ≤ 255) (a2 : 0 ≤ x2 ∧ x2 ≤ 255) (a3 : 0 ≤ x3 ∧ x3 ≤ 255) (b1 : 0 ≤ x15) (c1 : x15 ≤ 255) : f3 x1 x2 x3 x4 x5 x6 x7 x8 x9 x10 x11 x12 x13 x14 x15 = some true := by
 unfold f3
 rw [f4_true, some_bind]
 by_cases hx : x14.length > 20
 ·rw [if_pos (by simp; omega), some_bind]
 ·rw [if_neg (by simp; omega)]
  obtain ⟨n, kd, rd, wr, fl, hn, hkd, hr, hw, hf, e5⟩ := f5_eq x1 x2 x3 x4 x5 x6 a1.1 a2.1 a3.1 a1.2 a2.2
  rw [e5, some_bind, show ((5 : Int)) = ((5 : Nat) : Int) from rfl, f6_eq, some_bind]
  have hml := madeF_len 5 x14
  have hmv := madeF_valid 5 (by omega) x14
  have hmn := madeF_ne 5 (by omega) x14
  generalize madeF 5 x14 = m at hml hmv hmn
  dsimp only
  rw [f7_eq _ _ _ _ _ _ _ (by omega), some_bind]
  have hbl : (greatestP (byzL m (allN n))).length ≤ 7 := by
   have := great_len (byzL m (allN n)); have : (byzL m (allN n)).length = m.length := by unfold byzL; simp
   omega
  have hU := (allN_ok n (by omega)).1
  have hrl := hr.2.2.2
  have hwl := hw.2.2.2
  have h10 := f10_eq kd n hn rd wr fl m x13 hkd hr hw hf hmv (by omega)
  obtain ⟨bs, h12, hs12⟩ := f12_eq kd n hn rd wr fl m x13 hkd hr hw hf hmv (by omega)
  have habove : ∀ a, a ∈ byzL m (allN n) → ∃ b, b ∈ greatestP (byzL m (allN n)) ∧ sub a b = true := fun a ha => great_above _ _ a (Nat.le_refl _) ha
  generalize greatestP (byzL m (allN n)) = bz at hbl h10 hs12 habove
  have hrest : ∀ y, y ∈ restP rd bz x13 → sub y (allN n) = true := by
   intro y hy
   obtain ⟨r, hr', hy⟩ := List.mem_flatMap.1 hy
   obtain ⟨b, _, rfl⟩ := List.mem_map.1 hy
   refine sub_trans (sub_iff.2 fun i hi h => ?_) (hr.2.2.1 r hr').2
   simp only [BitVec.getLsbD_and, Bool.and_eq_true] at h
   exact h.1.1
  have hrestl : (restP rd bz x13).length ≤ 10000 := by
   have : ∀ l : List (BitVec 16), (l.flatMap fun r => bz.map fun b => (r &&& ~~~b) &&& ~~~x13).length = l.length * bz.length := fun l => by
    induction l with
    | nil => simp
    | cons a l ih => rw [List.flatMap_cons, List.length_append, ih]; simp; rw [Nat.add_mul]; omega
   unfold restP
   rw [this]
   have := Nat.mul_le_mul hrl hbl
   omega
  rw [jn_eq, f3_L0_eq _ _ _ _ (by dsimp only; omega) (by omega)]
  dsimp only
  have hlt : ∀ y, y ∈ restP rd bz x13 → y.toNat < 4096 := fun y hy => sub_lt (hrest y hy) hU
  have hlr : (leastP (restP rd bz x13)).length ≤ 32 := Nat.le_trans (len_sub (leastP_strict _) fun a ha => hrest a ((mem_leastP0 _ a).1 ha).1) (subs5 n hn.1 hn.2)
  have hdual := dual_least (restP rd bz x13) (allN n) hrest
  have hfl : (famF (hits (restP rd bz x13)) (subsB (allN n))).length ≤ 32 := Nat.le_trans (fam_len _ _) (subs5 n hn.1 hn.2)
  have hacc : accC rd bz x13 = hits (restP rd bz x13) := funext fun s => acc_hits rd bz x13 s
  have h8 : f8 (restP rd bz x13) = some (leastP (restP rd bz x13), 0) := by
   rw [f8_eq _ (by omega)]
   unfold limP
   rw [if_pos (rngS_ok _ hlt), if_neg (by omega)]
  rw [h8, some_bind]
  dsimp only
  rw [f9_eq _ (okS_least _ hlt) (by omega) (by rw [hdual]; omega), some_bind, hdual, h10, some_bind, hacc]
  have hmem : ∀ s, s ∈ famF (hits (restP rd bz x13)) (subsB (allN n)) → accC rd bz x13 s = true := fun s hs => by
   rw [hacc]; exact ((mem_fam _ _ s).1 hs).1.2
  have hacc2 : ∀ q, sub q (allN n) = true → accC rd bz x13 q = true → acc (famF (hits (restP rd bz x13)) (subsB (allN n))) q = true := fun q hq hp => by
   rw [famF_eq _ _ (subsB_sorted _), acc_least]
   rw [hacc] at hp
   exact acc_iff.2 ⟨q, List.mem_filter.2 ⟨mem_subsB.2 hq, hp⟩, sub_refl q⟩
  rw [hacc] at h10
  generalize famF (hits (restP rd bz x13)) (subsB (allN n)) = G at hfl hmem hacc2 h10
  dsimp only
  rw [show ((((0 : Int) != 0) || ((0 : Int) != 0)) || ((0 : Int) != 0)) = false from rfl, show ((false : Bool) == false) = true from rfl, optc_t, f11_self _ (by omega), some_bind, if_neg (by simp)]
  have hm0 : 0 < m.length := List.length_pos_iff.2 hmn
  have hge := Int.emod_nonneg x15 (b := ((m.length : Nat) : Int)) (by omega)
  have hlt2 := Int.emod_lt_of_pos x15 (b := ((m.length : Nat) : Int)) (by omega)
  rw [chk_pos (by omega), chk_pos (by omega), chk_pos (by omega), chk_pos (by omega), jn_eq]
  rw [f3_L2_eq x13 x15 _ m _ _ (by dsimp only; omega) (by dsimp only; omega) ?_ G.length FUEL 0 (by dsimp only; omega) (fuel_lt (by omega))]
  ·rw [h12, some_bind]
   cases bs with
   | false => simp [optc]
   | true =>
    rw [show ((!true) == false) = true from rfl, optc_t, f13_eq _ _ (by omega) (by omega), some_bind]
    have : (wr.any fun a => !acc G a) = false := by
     rw [List.any_eq_false]
     intro q hq
     rw [hacc2 q (hw.2.2.1 q hq).2 (hs12 rfl q hq)]; simp
    rw [this]; rfl
  ·intro s hs r hr' e
   dsimp only at hs hr'
   have hL : (m.getD ((x15 % ((m.length : Nat) : Int)).toNat) default) ∈ m := by
    rw [List.getD_eq_getElem?_getD, List.getElem?_eq_getElem (by omega)]; exact List.getElem_mem _
   generalize m.getD ((x15 % ((m.length : Nat) : Int)).toNat) default = L at hL e
   obtain ⟨b, hb, hsb⟩ := habove (L.1 &&& allN n) (List.mem_map.2 ⟨L, hL, rfl⟩)
   have h1 := hmem s hs
   unfold accC at h1
   have h2 := List.all_eq_true.1 (List.all_eq_true.1 h1 r hr') b hb
   have h3 : ((s &&& r) &&& ~~~(b ||| x13)) ≠ 0#16 := by simpa using h2
   apply h3
   apply BitVec.eq_of_getLsbD_eq
   intro i hi
   have e1 := congrArg (fun w : BitVec 16 => w.getLsbD i) e
   simp only [BitVec.getLsbD_and, BitVec.getLsbD_zero, BitVec.getLsbD_not, BitVec.getLsbD_or, hi, decide_true, Bool.true_and] at e1 ⊢
   cases hsi : s.getLsbD i with
   | false => rfl
   | true =>
    cases hri : r.getLsbD i with
    | false => rfl
    | true =>
     cases hWi : x13.getLsbD i with
     | true => simp
     | false =>
      cases hLi : L.1.getLsbD i with
      | false => rw [hsi, hri, hWi, hLi] at e1; simp at e1
      | true =>
       have hai : (allN n).getLsbD i = true := sub_iff.1 (hr.2.2.1 r hr').2 i hi hri
       have : b.getLsbD i = true := sub_iff.1 hsb i hi (by rw [BitVec.getLsbD_and, hLi, hai]; rfl)
       rw [this]; simp
end Go.Abs
