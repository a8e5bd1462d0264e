/- Part 25 of the proof: Pl48d, Pl48e, Pl48f, Pl48g, Pl48h, F48Law6. -/
import Derived.Test.YtgdmeopfikaboaaDoorStkeysZ24
import Derived.Lib.ItoaLen
import Derived.Lib.ItoaMem
namespace Go.Abs
abbrev MV : Int := 1000000000000
theorem getD_at (A C : List Pr) (x d : Pr) : (A ++ x :: C).getD A.length d = x := by
  rw [getD_app, if_neg (Nat.lt_irrefl _), Nat.sub_self]; rfl
theorem set_at : ∀ (A C : List Pr) (x y : Pr), (A ++ x :: C).set A.length y = A ++ y :: C
  | [], _, _, _ => rfl
  | a :: A, C, x, y => by
    show a :: (A ++ x :: C).set A.length y = _
    rw [set_at A C x y]; rfl
theorem len_at (A C : List Pr) (x : Pr) : (A ++ x :: C).length = A.length + C.length + 1 := by simp; omega
theorem drop_at (A C : List Pr) (x : Pr) : (A ++ x :: C).drop (A.length + 1) = C := by
  rw [List.drop_append]; simp
theorem take_at (A C : List Pr) : (A ++ C).take A.length = A := by simp
theorem dropA_at (A C : List Pr) : (A ++ C).drop A.length = C := by simp
/-- decimal digits of the specification -/
theorem f45_eq : ∀ (q n : Nat), n < 10 ^ (q + 1) → n ≤ 1000000000000000 → ∀ k, q + 1 ≤ k → f45 k (n : Int) = some (Lib.itoa (n : Int))
  | q, n, hn, hb, k, hk => by
    obtain ⟨k, rfl⟩ : ∃ z, k = z + 1 := ⟨k - 1, by omega⟩
    conv => lhs; unfold f45
    rw [Lib.itoa_nonneg]
    by_cases h : n < 10
    · rw [ifd_pos (by omega), chk_pos (by omega), chk_pos (by omega), Lib.decDigits_one h]
      congr 3
    · rw [ifd_neg (by omega)]
      match q, hn, hk with
      | 0, hn, _ => omega
      | q + 1, hn, hk =>
        have e1 : (n : Int) / 10 = ((n / 10 : Nat) : Int) := by omega
        have e2 : (n : Int) % 10 = ((n % 10 : Nat) : Int) := by omega
        rw [e1, e2, f45_eq q (n / 10) (by rw [Nat.pow_succ] at hn; omega) (by omega) k (by omega), some_bind, chk_pos (by omega), chk_pos (by omega), chk_pos (by omega), chk_pos (by omega)]
        have hl := Lib.itoa_length_le ((n / 10 : Nat) : Int) (by omega) (by omega)
        rw [chk_pos (by rw [List.length_singleton]; omega), Lib.itoa_nonneg]
        conv => rhs; rw [Lib.decDigits, dif_neg h]
        congr 3
theorem dig {n : Int} (h0 : 0 ≤ n) (h1 : n ≤ 1000000000000000) : f45 FUEL n = some (Lib.itoa n) := by
  obtain ⟨m, rfl⟩ : ∃ m : Nat, n = m := ⟨n.toNat, by omega⟩
  exact f45_eq 15 m (by omega) (by omega) FUEL (by unfold FUEL; omega)
theorem ito {n : Int} (h0 : 0 ≤ n) (h1 : n ≤ 1000000000000000) : f41 n = some (Lib.itoa n) := by
  unfold f41 itoaO
  rw [if_pos ⟨by omega, by omega⟩]
theorem ilen {n : Int} (h0 : 0 ≤ n) (h1 : n ≤ 1000000000000000) : (Lib.itoa n).length ≤ 21 := Lib.itoa_length_le n (by omega) (by omega)
/-- Find of the specification -/
theorem f44_hit (A C : List Pr) (k v : List UInt8) (n : Int) (hlen : (A ++ (k, v, n) :: C).length ≤ 1000000) (hA : ∀ a, a ∈ A → (a.1 == k) = false) (hC : ∀ c, c ∈ C → (c.1 == k) = false) : f44 (A ++ (k, v, n) :: C) k = some (A.length : Int) := by
  unfold f44
  simp only [jn]
  rcases find_up (fun q i => f44_L0 (A ++ (k, v, n) :: C) k (fun _ => some (-1)) q i) (A ++ (k, v, n) :: C) (default : Pr) (fun p => p.1 == k) (fun i => some (i : Int)) (some (-1)) (fun q i hi => by
      show f44_L0 _ _ _ (q + 1) i = _
      conv => lhs; unfold f44_L0
      rw [ifd_pos (by omega), chk_pos (by omega), chk_pos (by omega)]) (fun q => by
      show f44_L0 _ _ _ (q + 1) _ = _
      conv => lhs; unfold f44_L0
      rw [ifd_neg (by omega)]) (A ++ (k, v, n) :: C).length FUEL 0 (by omega) (fuel_lt (by omega)) with ⟨m, h1, h2, h3, h4, h5⟩ | ⟨h4, h5⟩
  · rw [h4]
    rw [getD_app] at h3
    by_cases e : m < A.length
    · rw [if_pos e, hA _ (getD_mem _ _ _ e)] at h3; cases h3
    · rw [if_neg e] at h3
      by_cases e2 : m = A.length
      · rw [e2]
      · obtain ⟨z, hz⟩ : ∃ z, m - A.length = z + 1 := ⟨m - A.length - 1, by omega⟩
        rw [hz, List.getD_cons_succ, hC _ (getD_mem _ _ _ (by rw [len_at] at h2; omega))] at h3
        cases h3
  · exfalso
    rw [List.drop_zero] at h5
    have := List.any_eq_false.1 h5 (k, v, n) (by simp)
    simp at this
theorem f44_miss (l : List Pr) (k : List UInt8) (hlen : l.length ≤ 1000000) (h : ∀ a, a ∈ l → (a.1 == k) = false) : f44 l k = some (-1) := by
  unfold f44
  simp only [jn]
  rw [any_up (fun q i => f44_L0 l k (fun _ => some (-1)) q i) l (default : Pr) (fun _ => false) none (some (-1)) (fun q i hi => by
      show f44_L0 _ _ _ (q + 1) i = _
      conv => lhs; unfold f44_L0
      rw [ifd_pos (by omega), chk_pos (by omega), h _ (getD_mem _ _ _ hi), chk_pos (by omega)]
      rfl) (fun q => by
      show f44_L0 _ _ _ (q + 1) _ = _
      conv => lhs; unfold f44_L0
      rw [ifd_neg (by omega)]) FUEL (fuel_lt (by omega))]
  simp
/-- Put of the specification, step by step -/
def gPut (k s : List UInt8) (z : Bool × List Pr) (a : Pr) : Bool × List Pr :=
  if a.1 == k then (true, z.2 ++ [(k, s, min (a.2.2 + 1) MV)]) else
  if (!(less a.1 k || a.1 == k)) && !z.1 then (true, (z.2 ++ [(k, s, 1)]) ++ [(a.1, a.2.1, a.2.2)]) else (z.1, z.2 ++ [(a.1, a.2.1, a.2.2)])
theorem f46_fold (l : List Pr) (k s : List UInt8) (hlen : l.length ≤ 1000000) (hv : ∀ a, a ∈ l → 1 ≤ a.2.2 ∧ a.2.2 ≤ MV) :
    f46 l k s = some (let z := l.foldl (gPut k s) (false, []); if z.1 then z.2 else z.2 ++ [(k, s, 1)]) := by
  unfold f46
  simp only [jn]
  have hI : ∀ n (z : Bool × List Pr), n < l.length → z.2.length ≤ 2 * n → (gPut k s z (l.getD n (default : Pr))).2.length ≤ 2 * (n + 1) := by
    intro n z hn hz
    unfold gPut
    split
    · simp; omega
    · split
      · simp; omega
      · simp; omega
  have := fold_up (fun q (y : Nat × (Bool × List Pr)) => f46_L0 l k s (fun y => if (!y.1) = true then chk ((y.2.length + 1) * 40 ≤ 140737488355328) (some (y.2 ++ [(k, s, 1)])) else some y.2) q (y.2.1, y.1, y.2.2)) l (default : Pr) (fun n z => z.2.length ≤ 2 * n) (gPut k s)
    (fun y => if (!y.1) = true then chk ((y.2.length + 1) * 40 ≤ 140737488355328) (some (y.2 ++ [(k, s, 1)])) else some y.2)
    (fun q n z hn hz => by
      obtain ⟨b, w⟩ := z
      simp only at hz
      show f46_L0 l k s _ (q + 1) (b, n, w) = _
      conv => lhs; unfold f46_L0
      have hh := hv _ (getD_mem l n (default : Pr) hn)
      simp only [MV] at hh
      rw [ifd_pos (by omega)]
      simp only [jn]
      rw [chk_pos (by omega)]
      unfold gPut
      simp only []
      by_cases e : ((l.getD n (default : Pr)).1 == k) = true
      · rw [if_pos e, if_pos e, chk_pos (by omega), chk_pos (by omega), chk_pos (by omega), chk_pos (by omega)]
      · rw [if_neg e, if_neg e, chk_pos (by omega)]
        by_cases e2 : ((!(less (l.getD n (default : Pr)).1 k || (l.getD n (default : Pr)).1 == k)) && !b) = true
        · rw [if_pos e2, if_pos e2, chk_pos (by omega), chk_pos (by omega), chk_pos (by simp; omega), chk_pos (by omega)]
        · rw [if_neg e2, if_neg e2, chk_pos (by omega), chk_pos (by omega), chk_pos (by omega)])
    hI (fun q z hz => by
      obtain ⟨b, w⟩ := z
      show f46_L0 l k s _ (q + 1) (b, l.length, w) = _
      conv => lhs; unfold f46_L0
      rw [ifd_neg (by omega)]) l.length FUEL 0 (false, []) (by omega) (fuel_lt (by omega)) (Nat.zero_le _)
  refine Eq.trans this ?_
  rw [List.drop_zero]
  have hl := foldl_inv (fun n (z : Bool × List Pr) => z.2.length ≤ 2 * n) (gPut k s) (default : Pr) l hI (false, []) (Nat.zero_le _)
  generalize l.foldl (gPut k s) (false, []) = z at hl
  obtain ⟨b, w⟩ := z
  simp only at hl
  cases b
  · simp only [Bool.not_false, if_true, Bool.false_eq_true, if_false]
    rw [chk_pos (by omega)]
  · rfl
theorem fold_lt (k s : List UInt8) (b : Bool) : ∀ (A w : List Pr), (∀ a, a ∈ A → less a.1 k = true) → A.foldl (gPut k s) (b, w) = (b, w ++ A)
  | [], w, _ => by simp
  | a :: A, w, h => by
    have ha := h a (List.mem_cons_self ..)
    have e : gPut k s (b, w) a = (b, w ++ [a]) := by
      unfold gPut
      rw [less_ne ha, ha]
      simp
    rw [List.foldl_cons, e, fold_lt k s b A _ fun x hx => h x (List.mem_cons_of_mem _ hx)]
    simp
theorem gt_ne {a b : List UInt8} (h : less b a = true) : (a == b) = false := by
  have := less_ne h
  cases e : a == b
  · rfl
  · have := eq_of_beq e; subst this; rw [less_irrefl] at h; cases h
theorem fold_gt (k s : List UInt8) : ∀ (C w : List Pr), (∀ a, a ∈ C → less k a.1 = true) → C.foldl (gPut k s) (true, w) = (true, w ++ C)
  | [], w, _ => by simp
  | a :: C, w, h => by
    have ha := h a (List.mem_cons_self ..)
    have e : gPut k s (true, w) a = (true, w ++ [a]) := by
      unfold gPut
      rw [gt_ne ha]
      simp
    rw [List.foldl_cons, e, fold_gt k s C _ fun x hx => h x (List.mem_cons_of_mem _ hx)]
    simp
theorem put_hit (A C : List Pr) (k v s : List UInt8) (n : Int) (hlen : (A ++ (k, v, n) :: C).length ≤ 1000000) (hv : ∀ a, a ∈ (A ++ (k, v, n) :: C) → 1 ≤ a.2.2 ∧ a.2.2 ≤ MV) (hA : ∀ a, a ∈ A → less a.1 k = true) (hC : ∀ c, c ∈ C → less k c.1 = true) :
    f46 (A ++ (k, v, n) :: C) k s = some (A ++ (k, s, min (n + 1) MV) :: C) := by
  rw [f46_fold _ k s hlen hv, List.foldl_append, fold_lt k s false A [] hA, List.foldl_cons]
  have e : gPut k s (false, [] ++ A) (k, v, n) = (true, A ++ [(k, s, min (n + 1) MV)]) := by
    unfold gPut
    simp
  rw [e, fold_gt k s C _ hC]
  simp
theorem put_miss (A C : List Pr) (k s : List UInt8) (hlen : (A ++ C).length ≤ 1000000) (hv : ∀ a, a ∈ (A ++ C) → 1 ≤ a.2.2 ∧ a.2.2 ≤ MV) (hA : ∀ a, a ∈ A → less a.1 k = true) (hC : ∀ c, c ∈ C → less k c.1 = true) :
    f46 (A ++ C) k s = some (A ++ (k, s, 1) :: C) := by
  rw [f46_fold _ k s hlen hv, List.foldl_append, fold_lt k s false A [] hA]
  cases C with
  | nil => simp
  | cons c C =>
    have hc := hC c (List.mem_cons_self ..)
    have e : gPut k s (false, [] ++ A) c = (true, A ++ [(k, s, 1), c]) := by
      unfold gPut
      rw [gt_ne hc, less_asymm hc]
      simp
    rw [List.foldl_cons, e, fold_gt k s C _ fun x hx => hC x (List.mem_cons_of_mem _ hx)]
    simp
theorem f16_eq (l : List Pr) (h : l.length ≤ 1000000) : f16 l = some l := by
  unfold f16
  rw [abc_eq, chk_pos (by omega)]
  · rfl
  · intro hl
    rw [chk_pos (by omega)]
    have : l = [] := List.length_eq_zero_iff.1 hl
    rw [this]; rfl
end Go.Abs
namespace Go.Abs
abbrev okW : List UInt8 := [111, 107, 32]
abbrev fullW : List UInt8 := [102, 117, 108, 108]
theorem find_hit (A C : List Pr) (k v : List UInt8) (n : Int) (hlen : (A ++ (k, v, n) :: C).length ≤ 1000000) (hA : ∀ a, a ∈ A → less a.1 k = true) (hC : ∀ c, c ∈ C → less k c.1 = true) : f40 (A ++ (k, v, n) :: C) k = some ((A.length : Int), true) := by
  rw [f54_eq A _ k hlen hA]
  · simp
  · intro b hb
    rcases List.mem_cons.1 hb with rfl | hb
    · exact less_irrefl _
    · exact less_asymm (hC b hb)
theorem find_miss (A C : List Pr) (k : List UInt8) (hlen : (A ++ C).length ≤ 1000000) (hA : ∀ a, a ∈ A → less a.1 k = true) (hC : ∀ c, c ∈ C → less k c.1 = true) : f40 (A ++ C) k = some ((A.length : Int), false) := by
  rw [f54_eq A _ k hlen hA fun b hb => less_asymm (hC b hb)]
  cases C with
  | nil => simp
  | cons c C => simp [gt_ne (hC c (List.mem_cons_self ..))]
theorem putP_hit (A C : List Pr) (k v s : List UInt8) (n : Int) (hlen : (A ++ (k, v, n) :: C).length ≤ 64) (h1 : 1 ≤ n) (h2 : n ≤ MV) (hA : ∀ a, a ∈ A → less a.1 k = true) (hC : ∀ c, c ∈ C → less k c.1 = true) :
    f42 (A ++ (k, v, n) :: C) k s = some (A ++ (k, s, min (n + 1) MV) :: C, okW ++ Lib.itoa (min (n + 1) MV)) := by
  simp only [MV] at *
  have hmin : 0 ≤ min (n + 1) 1000000000000 ∧ min (n + 1) 1000000000000 ≤ 1000000000000000 := by omega
  have hl := ilen hmin.1 hmin.2
  unfold f42
  rw [find_hit A C k v n (by omega) hA hC, some_bind]
  simp only [Bool.not_true, Bool.false_and, Bool.false_eq_true, if_false]
  rw [f16_eq _ (by omega), some_bind]
  simp only [jn, Int.toNat_natCast, set_at, getD_at]
  rw [len_at] at hlen
  rw [chk_pos (by rw [len_at]; omega), chk_pos (by rw [len_at]; omega), chk_pos (by rw [len_at]; omega), chk_pos (by rw [len_at]; omega), chk_pos (by omega), chk_pos (by rw [len_at]; omega), chk_pos (by rw [len_at]; omega),
    ito hmin.1 hmin.2, some_bind, chk_pos (by rw [len_at]; omega), chk_pos (by rw [len_at]; omega), chk_pos (by simp; omega)]
theorem putP_miss (A C : List Pr) (k s : List UInt8) (hlen : (A ++ C).length ≤ 64) (hA : ∀ a, a ∈ A → less a.1 k = true) (hC : ∀ c, c ∈ C → less k c.1 = true) :
    f42 (A ++ C) k s = if 64 ≤ (A ++ C).length then some (A ++ C, fullW) else some (A ++ (k, s, 1) :: C, okW ++ Lib.itoa 1) := by
  have hl := ilen (n := 1) (by omega) (by omega)
  unfold f42
  rw [find_miss A C k (by omega) hA hC, some_bind]
  by_cases hf : 64 ≤ (A ++ C).length
  · rw [if_pos hf, if_pos (by simp only [Bool.not_false, Bool.true_and, decide_eq_true_eq]; omega)]
  rw [if_neg hf, if_neg (by simp only [Bool.not_false, Bool.true_and, decide_eq_true_eq]; omega), f16_eq _ (by omega), some_bind]
  simp only [jn]
  have e58 : f58 (A.length : Int) (A ++ C) [(k, [], (0 : Int))] = some (A ++ (k, [], 0) :: C, [(k, [], 0)]) := by
    unfold f58
    by_cases hc : A.length < (A ++ C).length
    · rw [if_pos ⟨by omega, by rw [Int.toNat_natCast]; exact hc, by simp, by simp; simp at hlen; omega⟩, Int.toNat_natCast, take_at, dropA_at]
      simp
    · have : C = [] := by
        cases C with
        | nil => rfl
        | cons c C => simp at hc
      subst this
      rw [if_neg (by rw [Int.toNat_natCast]; omega)]
      unfold f58e
      rw [List.append_nil, chk_pos (by omega), if_neg (by simp), if_pos (by simp), chk_pos (by simp; simp at hlen; omega)]
  simp only [Bool.not_false, if_true, e58, some_bind, Int.toNat_natCast, set_at, getD_at]
  rw [List.length_append] at hlen hf
  have e1 : min ((0 : Int) + 1) 1000000000000 = 1 := by decide
  rw [e1]
  rw [chk_pos (by rw [len_at]; omega), chk_pos (by rw [len_at]; omega), chk_pos (by rw [len_at]; omega), chk_pos (by rw [len_at]; omega), chk_pos (by omega), chk_pos (by rw [len_at]; omega), chk_pos (by rw [len_at]; omega),
    ito (by omega) (by omega), some_bind, chk_pos (by rw [len_at]; omega), chk_pos (by rw [len_at]; omega), chk_pos (by simp; omega)]
/-- the end of Execute in the specification -/
def tailR (x1 : List Pr) (x3 : List UInt8) (r7 : Int) (s10 : List UInt8) : Option (List UInt8 × List Pr) :=
  if ((decide (r7 < (0 : Int))) && (decide ((((x1).length : Nat) : Int) ≥ (64 : Int)))) then (
  some (([102, 117, 108, 108] : List UInt8), ([] ++ x1))
  ) else (
  (f46 x1 x3 s10).bind fun (r12 : List (List UInt8 × List UInt8 × Int)) =>
  (f44 r12 x3).bind fun (r13 : Int) =>
  (f45 FUEL ((r12.getD ((r13).toNat) (default : List UInt8 × List UInt8 × Int)).2.2)).bind fun (r14 : List UInt8) =>
  chk (0 ≤ r13 ∧ r13 < (((r12).length : Nat) : Int)) <|
  chk (((r13).toNat) < (r12).length) <|
  chk (([111, 107, 32] : List UInt8).length + r14.length ≤ 9223372036854775807) <|
  some ((([111, 107, 32] : List UInt8) ++ r14), r12)
  )
theorem tail_hit (A C : List Pr) (k v s : List UInt8) (n : Int) (hlen : (A ++ (k, v, n) :: C).length ≤ 64) (hv : ∀ a, a ∈ (A ++ (k, v, n) :: C) → 1 ≤ a.2.2 ∧ a.2.2 ≤ MV) (hA : ∀ a, a ∈ A → less a.1 k = true) (hC : ∀ c, c ∈ C → less k c.1 = true) :
    tailR (A ++ (k, v, n) :: C) k (A.length : Int) s = some (okW ++ Lib.itoa (min (n + 1) MV), A ++ (k, s, min (n + 1) MV) :: C) := by
  have hn := hv (k, v, n) (by simp)
  simp only [MV] at hn
  have hmin : 0 ≤ min (n + 1) 1000000000000 ∧ min (n + 1) 1000000000000 ≤ 1000000000000000 := by omega
  have hl := ilen hmin.1 hmin.2
  unfold tailR
  rw [if_neg (by simp; omega), put_hit A C k v s n (by omega) hv hA hC, some_bind]
  simp only [MV]
  rw [len_at] at hlen
  rw [f44_hit A C k s _ (by rw [len_at]; omega) (fun a ha => less_ne (hA a ha)) (fun c hc => gt_ne (hC c hc)), some_bind, Int.toNat_natCast, getD_at, dig hmin.1 hmin.2, some_bind, chk_pos (by rw [len_at]; omega), chk_pos (by rw [len_at]; omega), chk_pos (by simp; omega)]
theorem tail_miss (A C : List Pr) (k s : List UInt8) (hlen : (A ++ C).length ≤ 64) (hv : ∀ a, a ∈ (A ++ C) → 1 ≤ a.2.2 ∧ a.2.2 ≤ MV) (hA : ∀ a, a ∈ A → less a.1 k = true) (hC : ∀ c, c ∈ C → less k c.1 = true) :
    tailR (A ++ C) k (-1) s = if 64 ≤ (A ++ C).length then some (fullW, A ++ C) else some (okW ++ Lib.itoa 1, A ++ (k, s, 1) :: C) := by
  have hl := ilen (n := 1) (by omega) (by omega)
  unfold tailR
  by_cases hf : 64 ≤ (A ++ C).length
  · rw [if_pos hf, if_pos (by simp only [Bool.and_eq_true, decide_eq_true_eq]; omega)]
    rfl
  rw [if_neg hf, if_neg (by simp only [Bool.and_eq_true, decide_eq_true_eq]; omega), put_miss A C k s (by omega) hv hA hC, some_bind]
  rw [List.length_append] at hlen hf
  rw [f44_hit A C k s _ (by rw [len_at]; omega) (fun a ha => less_ne (hA a ha)) (fun c hc => gt_ne (hC c hc)), some_bind, Int.toNat_natCast, getD_at, dig (n := 1) (by omega) (by omega), some_bind, chk_pos (by rw [len_at]; omega), chk_pos (by rw [len_at]; omega), chk_pos (by simp; omega)]
end Go.Abs
namespace Go.Abs
theorem gr_app {v c : List UInt8} (hv : gr v 256 = true) (hc : gr c 64 = true) (h : (v ++ c).length ≤ 256) : gr (v ++ c) 256 = true := by
  unfold gr at *
  simp only [Bool.and_eq_true, Bool.not_eq_true', decide_eq_true_eq] at *
  refine ⟨by rw [List.any_append, hv.1, hc.1]; rfl, ?_, by omega⟩
  cases v with
  | nil => have := hv.2.1; simp at this
  | cons x v => rfl
theorem gr_up {c : List UInt8} (hc : gr c 64 = true) : gr c 256 = true := by
  unfold gr at *
  simp only [Bool.and_eq_true, decide_eq_true_eq] at *
  exact ⟨hc.1, hc.2.1, by omega⟩
theorem stv_set {A C : List Pr} {k v s : List UInt8} {n m : Int} (h : StV (A ++ (k, v, n) :: C)) (hs : gr s 256 = true) (h1 : 1 ≤ m) (h2 : m ≤ MV) : StV (A ++ (k, s, m) :: C) := by
  refine ⟨by have := h.len; rw [len_at] at this ⊢; exact this, fun p hp => ?_, ?_⟩
  · rcases List.mem_append.1 hp with hp | hp
    · exact h.each p (List.mem_append_left _ hp)
    · rcases List.mem_cons.1 hp with rfl | hp
      · have := h.each (k, v, n) (by simp)
        exact ⟨this.1, hs, h1, h2⟩
      · exact h.each p (by simp [hp])
  · have := h.srt
    simp only [Srtd, List.pairwise_append, List.pairwise_cons] at this ⊢
    refine ⟨this.1, this.2.1, fun a ha b hb => ?_⟩
    rcases List.mem_cons.1 hb with rfl | hb
    · exact this.2.2 a ha (k, v, n) (List.mem_cons_self ..)
    · exact this.2.2 a ha b (List.mem_cons_of_mem _ hb)
theorem stv_ins {A C : List Pr} {k s : List UInt8} (h : StV (A ++ C)) (hl : (A ++ C).length < 64) (hk : gr k 64 = true) (hs : gr s 256 = true) (hA : ∀ a, a ∈ A → less a.1 k = true) (hC : ∀ c, c ∈ C → less k c.1 = true) : StV (A ++ (k, s, 1) :: C) := by
  refine ⟨by rw [List.length_append] at hl; rw [len_at]; omega, fun p hp => ?_, ?_⟩
  · rcases List.mem_append.1 hp with hp | hp
    · exact h.each p (List.mem_append_left _ hp)
    · rcases List.mem_cons.1 hp with rfl | hp
      · exact ⟨hk, hs, by simp, by simp⟩
      · exact h.each p (List.mem_append_right _ hp)
  · have := h.srt
    simp only [Srtd, List.pairwise_append, List.pairwise_cons] at this ⊢
    refine ⟨this.1, ⟨hC, this.2.1⟩, fun a ha b hb => ?_⟩
    rcases List.mem_cons.1 hb with rfl | hb
    · exact hA a ha
    · exact this.2.2 a ha b hb
theorem stv_del {A C : List Pr} {x : Pr} (h : StV (A ++ x :: C)) : StV (A ++ C) := by
  refine ⟨by have := h.len; rw [len_at] at this; rw [List.length_append]; omega, fun p hp => h.each p (by rcases List.mem_append.1 hp with hp | hp <;> simp [hp]), ?_⟩
  have := h.srt
  simp only [Srtd, List.pairwise_append, List.pairwise_cons] at this ⊢
  exact ⟨this.1, this.2.1.2, fun a ha b hb => this.2.2 a ha b (List.mem_cons_of_mem _ hb)⟩
/-- what a key has -/
def ent (l : List Pr) (k : List UInt8) : Option (List UInt8 × Int) := (l.find? fun p => p.1 == k).map (·.2)
theorem ent_hit {A C : List Pr} {k v : List UInt8} {n : Int} (hA : ∀ a, a ∈ A → less a.1 k = true) : ent (A ++ (k, v, n) :: C) k = some (v, n) := by
  unfold ent
  rw [List.find?_append, List.find?_eq_none.2 fun a ha => by simp [less_ne (hA a ha)]]
  simp
theorem ent_miss {A C : List Pr} {k : List UInt8} (hA : ∀ a, a ∈ A → less a.1 k = true) (hC : ∀ c, c ∈ C → less k c.1 = true) : ent (A ++ C) k = none := by
  unfold ent
  rw [List.find?_eq_none.2 fun a ha => by rcases List.mem_append.1 ha with ha | ha; simp [less_ne (hA a ha)]; simp [gt_ne (hC a ha)]]
  rfl
theorem ent_other {A C : List Pr} {k k' v : List UInt8} {n : Int} (h : k' ≠ k) : ent (A ++ (k, v, n) :: C) k' = ent (A ++ C) k' := by
  unfold ent
  rw [List.find?_append, List.find?_append, List.find?_cons]
  have : (k == k') = false := beq_false_of_ne fun e => h e.symm
  simp only [this]
/-- what Execute answers, and what its key has then -/
def R (e : Option (List UInt8 × Int)) (cnt : Nat) (k : Int) (a b c : List UInt8) : List UInt8 × Option (List UInt8 × Int) :=
  if okOp k a b c = false then (cs10, e) else
  if k = 6 then (cs11 ++ Lib.itoa (cnt : Int), e) else
  match e with
  | none => if k = 1 ∨ k = 4 then (if 64 ≤ cnt then (fullW, none) else (okW ++ Lib.itoa 1, some (c, 1))) else ([110, 111, 110, 101], none)
  | some (v, n) =>
    if k = 1 then (okW ++ Lib.itoa (min (n + 1) MV), some (c, min (n + 1) MV)) else
    if k = 2 then (cs12 ++ v ++ [32] ++ Lib.itoa n, some (v, n)) else
    if k = 3 then ([111, 107], none) else
    if k = 4 then (if (v ++ c).length > 256 then ([108, 111, 110, 103], some (v, n)) else (okW ++ Lib.itoa (min (n + 1) MV), some (v ++ c, min (n + 1) MV))) else
    if v = b then (okW ++ Lib.itoa (min (n + 1) MV), some (c, min (n + 1) MV)) else ([110, 111, 32] ++ v, some (v, n))
structure Ex (l : List Pr) (k : Int) (a b c : List UInt8) (l' : List Pr) : Prop where
  prog : f18 l k a b c = some (l', (R (ent l a) l.length k a b c).1)
  spec : f19 l k a b c = some ((R (ent l a) l.length k a b c).1, l')
  ok : StV l'
  here : ent l' a = (R (ent l a) l.length k a b c).2
  there : ∀ k', k' ≠ a → ent l' k' = ent l k'
  keys : ∀ p, p ∈ l' → p.1 = a ∨ ∃ q, q ∈ l ∧ q.1 = p.1
  read : (k = 2 ∨ k = 6) → l' = l
theorem R_bad {e : Option (List UInt8 × Int)} {cnt : Nat} {k : Int} {a b c : List UInt8} (h : okOp k a b c = false) : R e cnt k a b c = (cs10, e) := by
  unfold R
  rw [if_pos h]
theorem nmin {n : Int} (h1 : 1 ≤ n) (h2 : n ≤ MV) : 1 ≤ min (n + 1) MV ∧ min (n + 1) MV ≤ MV := by
  simp only [MV] at *
  omega
theorem spec_head (l : List Pr) (k : Int) (a b c : List UInt8) (hl : l.length ≤ 64) (ha : a.length ≤ 9223372036854775807) (hb : b.length ≤ 9223372036854775807) (hc : c.length ≤ 9223372036854775807) (h : okOp k a b c = false) : f19 l k a b c = some (cs10, l) := by
  unfold f19
  rw [chk_pos (by omega), f22_eq k a b c ha hb hc, some_bind, h]
  rfl
theorem prog_head (l : List Pr) (k : Int) (a b c : List UInt8) (ha : a.length ≤ 9223372036854775807) (hb : b.length ≤ 9223372036854775807) (hc : c.length ≤ 9223372036854775807) (h : okOp k a b c = false) : f18 l k a b c = some (l, cs10) := by
  unfold f18
  rw [f35_eq k a b c ha hb hc, some_bind, h]
  rfl
/-- the specification at a key that is there -/
theorem spec_hit (A C : List Pr) (k : Int) (a b c v : List UInt8) (n : Int) (hV : StV (A ++ (a, v, n) :: C)) (ha : a.length ≤ 9223372036854775807) (hb : b.length ≤ 9223372036854775807) (hc : c.length ≤ 9223372036854775807) (h : okOp k a b c = true)
    (hA : ∀ x, x ∈ A → less x.1 a = true) (hC : ∀ x, x ∈ C → less a x.1 = true) :
    f19 (A ++ (a, v, n) :: C) k a b c =
      if k = 6 then some (cs11 ++ Lib.itoa ((A ++ (a, v, n) :: C).length : Int), A ++ (a, v, n) :: C) else
      if k = 2 then some (cs12 ++ v ++ [32] ++ Lib.itoa n, A ++ (a, v, n) :: C) else
      if k = 3 then some ([111, 107], A ++ C) else
      if k = 5 then (if v = b then some (okW ++ Lib.itoa (min (n + 1) MV), A ++ (a, c, min (n + 1) MV) :: C) else some ([110, 111, 32] ++ v, A ++ (a, v, n) :: C)) else
      if k = 4 then (if (v ++ c).length > 256 then some ([108, 111, 110, 103], A ++ (a, v, n) :: C) else some (okW ++ Lib.itoa (min (n + 1) MV), A ++ (a, v ++ c, min (n + 1) MV) :: C)) else
      some (okW ++ Lib.itoa (min (n + 1) MV), A ++ (a, c, min (n + 1) MV) :: C) := by
  have hl := hV.len
  have hp := hV.each (a, v, n) (by simp)
  obtain ⟨p1, p2, p3, p4⟩ := hp
  simp only at p1 p2 p3 p4
  have hvl := gr_len p2
  have hil := ilen (n := n) (by omega) (by omega)
  have hcl := (ok_len h).2.2
  have hl2 := ilen (n := (((A ++ (a, v, n) :: C).length : Nat) : Int)) (by omega) (by omega)
  have tl : ∀ s, tailR (A ++ (a, v, n) :: C) a (A.length : Int) s = some (okW ++ Lib.itoa (min (n + 1) MV), A ++ (a, s, min (n + 1) MV) :: C) := fun s =>
    tail_hit A C a v s n hl (fun x hx => ⟨(hV.each x hx).2.2.1, (hV.each x hx).2.2.2⟩) hA hC
  have hla := len_at A C (a, v, n)
  unfold f19
  rw [chk_pos (by omega), f22_eq k a b c ha hb hc, some_bind, h, f44_hit A C a v n (by omega) (fun x hx => less_ne (hA x hx)) (fun x hx => gt_ne (hC x hx))]
  simp only [if_true, bne_self_eq_false, Bool.false_eq_true, if_false, some_bind, jn, Int.toNat_natCast, getD_at, List.nil_append, beq_iff_eq]
  rw [dig (n := (((A ++ (a, v, n) :: C).length : Nat) : Int)) (by omega) (by omega), some_bind, chk_pos (by have : cs11.length = 6 := rfl; omega)]
  have hneg : decide ((A.length : Int) < 0) = false := by simp
  simp only [hneg, Bool.false_eq_true, if_false]
  split
  · rfl
  split
  · rw [dig (n := n) (by omega) (by omega), some_bind, chk_pos (by rw [hla]; omega), chk_pos (by simp [cs12]; omega), chk_pos (by simp [cs12]; omega), chk_pos (by rw [hla]; omega), chk_pos (by simp [cs12]; omega)]
  split
  · rw [chk_pos (by rw [hla]; omega), chk_pos (by omega), chk_pos (by omega), chk_pos (by rw [hla]; omega), chk_pos (by rw [hla]; omega)]
    have e1 : ((A.length : Int) + 1).toNat = A.length + 1 := by omega
    rw [e1, take_at, drop_at]
  split
  · rw [chk_pos (by rw [hla]; omega)]
    by_cases e : v = b
    · rw [if_pos e, if_neg (by simp [e])]
      exact tl c
    · rw [if_neg e, if_pos (by simp [e]), chk_pos (by rw [hla]; omega), chk_pos (by simp; omega)]
  split
  · rw [ifd_pos (by omega), chk_pos (by rw [hla]; omega), chk_pos (by omega)]
    by_cases e : (v ++ c).length > 256
    · rw [if_pos e, ifd_pos (by omega)]
    · rw [if_neg e, ifd_neg (by omega)]
      exact tl (v ++ c)
  · exact tl c
/-- .. that is not there -/
theorem spec_miss (A C : List Pr) (k : Int) (a b c : List UInt8) (hV : StV (A ++ C)) (ha : a.length ≤ 9223372036854775807) (hb : b.length ≤ 9223372036854775807) (hc : c.length ≤ 9223372036854775807) (h : okOp k a b c = true)
    (hA : ∀ x, x ∈ A → less x.1 a = true) (hC : ∀ x, x ∈ C → less a x.1 = true) :
    f19 (A ++ C) k a b c =
      if k = 6 then some (cs11 ++ Lib.itoa ((A ++ C).length : Int), A ++ C) else
      if k = 2 ∨ k = 3 ∨ k = 5 then some ([110, 111, 110, 101], A ++ C) else
      if 64 ≤ (A ++ C).length then some (fullW, A ++ C) else some (okW ++ Lib.itoa 1, A ++ (a, c, 1) :: C) := by
  have hl := hV.len
  have hcl := (ok_len h).2.2
  have hl2 := ilen (n := (((A ++ C).length : Nat) : Int)) (by omega) (by omega)
  have tl : tailR (A ++ C) a (-1) c = if 64 ≤ (A ++ C).length then some (fullW, A ++ C) else some (okW ++ Lib.itoa 1, A ++ (a, c, 1) :: C) :=
    tail_miss A C a c hl (fun x hx => ⟨(hV.each x hx).2.2.1, (hV.each x hx).2.2.2⟩) hA hC
  unfold f19
  rw [chk_pos (by omega), f22_eq k a b c ha hb hc, some_bind, h, f44_miss (A ++ C) a (by omega) (fun x hx => by rcases List.mem_append.1 hx with hx | hx; exact less_ne (hA x hx); exact gt_ne (hC x hx))]
  simp only [if_true, bne_self_eq_false, Bool.false_eq_true, if_false, some_bind, jn, List.nil_append, beq_iff_eq]
  rw [dig (n := (((A ++ C).length : Nat) : Int)) (by omega) (by omega), some_bind, chk_pos (by have : cs11.length = 6 := rfl; omega)]
  have hneg : decide ((-1 : Int) < 0) = true := by decide
  have hneg2 : decide ((-1 : Int) ≥ 0) = false := by decide
  simp only [hneg, hneg2, if_true, Bool.false_eq_true, if_false]
  by_cases h6 : k = 6
  · rw [if_pos h6, if_pos h6]
  rw [if_neg h6, if_neg h6]
  by_cases h2 : k = 2
  · rw [if_pos h2, if_pos (.inl h2)]
  rw [if_neg h2]
  by_cases h3 : k = 3
  · rw [if_pos h3, if_pos (.inr (.inl h3))]
  rw [if_neg h3]
  by_cases h5 : k = 5
  · rw [if_pos h5, if_pos (.inr (.inr h5))]
  rw [if_neg h5, if_neg (show ¬ (k = 2 ∨ k = 3 ∨ k = 5) by omega)]
  split
  · rw [ifd_neg (by omega)]
    exact tl
  · exact tl
theorem okOp_is {k : Int} {a b c : List UInt8} (h : okOp k a b c = true) : isK k = true := by
  unfold okOp at h
  simp only [Bool.and_eq_true] at h
  exact h.1.1.1
theorem okK {k : Int} {a b c : List UInt8} (h : okOp k a b c = true) : k = 1 ∨ k = 2 ∨ k = 3 ∨ k = 4 ∨ k = 5 ∨ k = 6 := by
  have h0 := (okOp_is h)
  rcases kinds k with h | h | h | h | h | h | h
  · exact .inl h
  · exact .inr (.inl h)
  · exact .inr (.inr (.inl h))
  · exact .inr (.inr (.inr (.inl h)))
  · exact .inr (.inr (.inr (.inr (.inl h))))
  · exact .inr (.inr (.inr (.inr (.inr h))))
  · rw [h] at h0; cases h0
end Go.Abs
namespace Go.Abs
theorem prog_hit (A C : List Pr) (k : Int) (a b c v : List UInt8) (n : Int) (hV : StV (A ++ (a, v, n) :: C)) (ha : a.length ≤ 9223372036854775807) (hb : b.length ≤ 9223372036854775807) (hc : c.length ≤ 9223372036854775807) (h : okOp k a b c = true)
    (hA : ∀ x, x ∈ A → less x.1 a = true) (hC : ∀ x, x ∈ C → less a x.1 = true) :
    f18 (A ++ (a, v, n) :: C) k a b c =
      if k = 6 then some (A ++ (a, v, n) :: C, cs11 ++ Lib.itoa ((A ++ (a, v, n) :: C).length : Int)) else
      if k = 1 then some (A ++ (a, c, min (n + 1) MV) :: C, okW ++ Lib.itoa (min (n + 1) MV)) else
      if k = 2 then some (A ++ (a, v, n) :: C, cs12 ++ v ++ [32] ++ Lib.itoa n) else
      if k = 3 then some (A ++ C, [111, 107]) else
      if k = 4 then (if (v ++ c).length > 256 then some (A ++ (a, v, n) :: C, [108, 111, 110, 103]) else some (A ++ (a, v ++ c, min (n + 1) MV) :: C, okW ++ Lib.itoa (min (n + 1) MV))) else
      if v = b then some (A ++ (a, c, min (n + 1) MV) :: C, okW ++ Lib.itoa (min (n + 1) MV)) else some (A ++ (a, v, n) :: C, [110, 111, 32] ++ v) := by
  have hl := hV.len
  have hp := hV.each (a, v, n) (by simp)
  obtain ⟨p1, p2, p3, p4⟩ := hp
  simp only at p1 p2 p3 p4
  have hvl := gr_len p2
  have hil := ilen (n := n) (by omega) (by omega)
  have hcl := (ok_len h).2.2
  have hl2 := ilen (n := (((A ++ (a, v, n) :: C).length : Nat) : Int)) (by omega) (by omega)
  have hla := len_at A C (a, v, n)
  have put : ∀ s, f42 (A ++ (a, v, n) :: C) a s = some (A ++ (a, s, min (n + 1) MV) :: C, okW ++ Lib.itoa (min (n + 1) MV)) := fun s => putP_hit A C a v s n hl p3 p4 hA hC
  unfold f18
  rw [f35_eq k a b c ha hb hc, some_bind, h]
  simp only [Bool.not_true, Bool.false_eq_true, if_false]
  rw [find_hit A C a v n (by omega) hA hC, some_bind]
  simp only [beq_iff_eq, Bool.not_true, Bool.and_false, Bool.false_eq_true, if_false, Int.toNat_natCast, getD_at]
  split
  · rw [ito (n := (((A ++ (a, v, n) :: C).length : Nat) : Int)) (by omega) (by omega), some_bind, chk_pos (by have : cs11.length = 6 := rfl; omega)]
  split
  · rw [put, some_bind]
  rw [chk_pos (by rw [hla]; omega)]
  split
  · rw [ito (n := n) (by omega) (by omega), some_bind, chk_pos (by have : cs12.length = 6 := rfl; omega), chk_pos (by simp [cs12]; omega), chk_pos (by simp [cs12]; omega)]
  split
  · rw [f16_eq _ (by omega), some_bind]
    unfold f43
    have e1 : ((A.length : Int) + 1).toNat = A.length + 1 := by omega
    rw [if_pos ⟨by omega, by omega, by rw [e1, hla]; omega⟩, some_bind, chk_pos (by omega), e1, Int.toNat_natCast, take_at, drop_at]
  split
  · rw [chk_pos (by omega)]
    by_cases e : (v ++ c).length > 256
    · rw [if_pos e, ifd_pos (by rw [List.length_append] at e; omega)]
    · rw [if_neg e, ifd_neg (by rw [List.length_append] at e; omega), put, some_bind, chk_pos (by omega)]
  · by_cases e : v = b
    · rw [if_pos e, if_neg (by simp [e]), put, some_bind]
    · rw [if_neg e, if_pos (by simp [e]), chk_pos (by simp; omega)]
theorem prog_miss (A C : List Pr) (k : Int) (a b c : List UInt8) (hV : StV (A ++ C)) (ha : a.length ≤ 9223372036854775807) (hb : b.length ≤ 9223372036854775807) (hc : c.length ≤ 9223372036854775807) (h : okOp k a b c = true)
    (hA : ∀ x, x ∈ A → less x.1 a = true) (hC : ∀ x, x ∈ C → less a x.1 = true) :
    f18 (A ++ C) k a b c =
      if k = 6 then some (A ++ C, cs11 ++ Lib.itoa ((A ++ C).length : Int)) else
      if k = 1 ∨ k = 4 then (if 64 ≤ (A ++ C).length then some (A ++ C, fullW) else some (A ++ (a, c, 1) :: C, okW ++ Lib.itoa 1)) else
      some (A ++ C, [110, 111, 110, 101]) := by
  have hl := hV.len
  have hl2 := ilen (n := (((A ++ C).length : Nat) : Int)) (by omega) (by omega)
  have put := putP_miss A C a c hl hA hC
  have put' : ((f42 (A ++ C) a c).bind fun r => some (r.1, r.2)) = if 64 ≤ (A ++ C).length then some (A ++ C, fullW) else some (A ++ (a, c, 1) :: C, okW ++ Lib.itoa 1) := by
    rw [put]
    split <;> rfl
  unfold f18
  rw [f35_eq k a b c ha hb hc, some_bind, h]
  simp only [Bool.not_true, Bool.false_eq_true, if_false]
  rw [find_miss A C a (by omega) hA hC, some_bind]
  simp only [beq_iff_eq, Bool.not_false, Bool.and_true, if_true]
  split
  · rw [ito (n := (((A ++ C).length : Nat) : Int)) (by omega) (by omega), some_bind, chk_pos (by have : cs11.length = 6 := rfl; omega)]
  by_cases h1 : k = 1
  · rw [if_pos h1, if_pos (.inl h1)]
    exact put'
  by_cases h4 : k = 4
  · rw [if_neg h1, if_pos h4, if_pos (.inr h4)]
    exact put'
  · rw [if_neg h1, if_neg h4, if_neg (by omega)]
theorem exec (l : List Pr) (k : Int) (a b c : List UInt8) (hV : StV l) (ha : a.length ≤ 9223372036854775807) (hb : b.length ≤ 9223372036854775807) (hc : c.length ≤ 9223372036854775807) : ∃ l', Ex l k a b c l' := by
  cases h : okOp k a b c
  · exact ⟨l, by rw [R_bad h]; exact prog_head l k a b c ha hb hc h, by rw [R_bad h]; exact spec_head l k a b c hV.len ha hb hc h, hV, by rw [R_bad h], fun _ _ => rfl, fun p hp => .inr ⟨p, hp, rfl⟩, fun _ => rfl⟩
  have hk := okK h
  have hcg : k = 1 ∨ k = 4 ∨ k = 5 → gr c 64 = true := by
    unfold okOp at h
    simp only [Bool.and_eq_true] at h
    have := h.2
    rintro (rfl | rfl | rfl) <;> exact this
  have hag : k ≠ 6 → gr a 64 = true := by
    unfold okOp at h
    simp only [Bool.and_eq_true] at h
    have := h.1.1.2
    rcases hk with rfl | rfl | rfl | rfl | rfl | rfl <;> intro h6 <;> first | exact this | exact absurd rfl h6
  have hf : okOp k a b c = false ↔ False := by rw [h]; simp
  cases view l a hV.srt with
  | hit A C v n e hA hC =>
    subst e
    have p := prog_hit A C k a b c v n hV ha hb hc h hA hC
    have s := spec_hit A C k a b c v n hV ha hb hc h hA hC
    have hp := hV.each (a, v, n) (by simp)
    have e0 := ent_hit (C := C) (v := v) (n := n) hA
    have hm := nmin hp.2.2.1 hp.2.2.2
    have keysS : ∀ s m, ∀ p, p ∈ A ++ (a, s, m) :: C → p.1 = a ∨ ∃ q, q ∈ A ++ (a, v, n) :: C ∧ q.1 = p.1 := by
      intro s m p hp
      rcases List.mem_append.1 hp with hp | hp
      · exact .inr ⟨p, List.mem_append_left _ hp, rfl⟩
      · rcases List.mem_cons.1 hp with rfl | hp
        · exact .inl rfl
        · exact .inr ⟨p, by simp [hp], rfl⟩
    have setS : ∀ s, gr s 256 = true → StV (A ++ (a, s, min (n + 1) MV) :: C) := fun s hs => stv_set hV hs hm.1 hm.2
    have there : ∀ (s : List UInt8) (m : Int), ∀ k', k' ≠ a → ent (A ++ (a, s, m) :: C) k' = ent (A ++ (a, v, n) :: C) k' := fun s m k' hk' => by rw [ent_other hk', ent_other hk']
    rcases hk with rfl | rfl | rfl | rfl | rfl | rfl
    · refine ⟨A ++ (a, c, min (n + 1) MV) :: C, ?_, ?_, setS c (gr_up (hcg (.inl rfl))), ?_, there _ _, keysS _ _, fun h => by omega⟩
      · rw [p, e0]; simp [R, hf]
      · rw [s, e0]; simp [R, hf]
      · rw [e0, ent_hit hA]; simp [R, hf]
    · refine ⟨A ++ (a, v, n) :: C, ?_, ?_, hV, ?_, there _ _, keysS _ _, fun _ => rfl⟩
      · rw [p, e0]; simp [R, hf]
      · rw [s, e0]; simp [R, hf]
      · rw [e0]; simp [R, hf]
    · refine ⟨A ++ C, ?_, ?_, stv_del hV, ?_, fun k' hk' => by rw [ent_other hk'], fun p hp => .inr ⟨p, by rcases List.mem_append.1 hp with hp | hp <;> simp [hp], rfl⟩, fun h => by omega⟩
      · rw [p, e0]; simp [R, hf]
      · rw [s, e0]; simp [R, hf]
      · rw [e0, ent_miss hA hC]; simp [R, hf]
    · by_cases hlong : (v ++ c).length > 256
      · refine ⟨A ++ (a, v, n) :: C, ?_, ?_, hV, ?_, there _ _, keysS _ _, fun h => by omega⟩
        · rw [p, e0]; simp only [R, hf, hlong]; simp
        · rw [s, e0]; simp only [R, hf, hlong]; simp
        · rw [e0]; simp only [R, hf, hlong]; simp
      · refine ⟨A ++ (a, v ++ c, min (n + 1) MV) :: C, ?_, ?_, setS _ (gr_app hp.2.1 (hcg (.inr (.inl rfl))) (by omega)), ?_, there _ _, keysS _ _, fun h => by omega⟩
        · rw [p, e0]; simp only [R, hf, hlong]; simp
        · rw [s, e0]; simp only [R, hf, hlong]; simp
        · rw [e0, ent_hit hA]; simp only [R, hf, hlong]; simp
    · by_cases hvb : v = b
      · refine ⟨A ++ (a, c, min (n + 1) MV) :: C, ?_, ?_, setS c (gr_up (hcg (.inr (.inr rfl)))), ?_, there _ _, keysS _ _, fun h => by omega⟩
        · rw [p, e0]; simp [R, hf, hvb]
        · rw [s, e0]; simp [R, hf, hvb]
        · rw [e0, ent_hit hA]; simp [R, hf, hvb]
      · refine ⟨A ++ (a, v, n) :: C, ?_, ?_, hV, ?_, there _ _, keysS _ _, fun h => by omega⟩
        · rw [p, e0]; simp [R, hf, hvb]
        · rw [s, e0]; simp [R, hf, hvb]
        · rw [e0]; simp [R, hf, hvb]
    · refine ⟨A ++ (a, v, n) :: C, ?_, ?_, hV, ?_, there _ _, keysS _ _, fun _ => rfl⟩
      · rw [p, e0]; simp only [R, hf, if_true, if_false]
      · rw [s, e0]; simp only [R, hf, if_true, if_false]
      · rw [e0]; simp only [R, hf, if_true, if_false]
  | miss A C e hA hC =>
    subst e
    have p := prog_miss A C k a b c hV ha hb hc h hA hC
    have s := spec_miss A C k a b c hV ha hb hc h hA hC
    have e0 := ent_miss hA hC
    have keep : ∀ p, p ∈ A ++ C → p.1 = a ∨ ∃ q, q ∈ A ++ C ∧ q.1 = p.1 := fun p hp => .inr ⟨p, hp, rfl⟩
    have keysS : ∀ s m, ∀ p, p ∈ A ++ (a, s, m) :: C → p.1 = a ∨ ∃ q, q ∈ A ++ C ∧ q.1 = p.1 := by
      intro s m p hp
      rcases List.mem_append.1 hp with hp | hp
      · exact .inr ⟨p, List.mem_append_left _ hp, rfl⟩
      · rcases List.mem_cons.1 hp with rfl | hp
        · exact .inl rfl
        · exact .inr ⟨p, by simp [hp], rfl⟩
    have ins : (k = 1 ∨ k = 4) → ∃ l', Ex (A ++ C) k a b c l' := by
      intro h14
      have h6 : k ≠ 6 := by omega
      have h235 : ¬ (k = 2 ∨ k = 3 ∨ k = 5) := by omega
      by_cases hfull : 64 ≤ (A ++ C).length
      · refine ⟨A ++ C, ?_, ?_, hV, ?_, fun _ _ => rfl, keep, fun _ => rfl⟩
        · rw [p, e0, if_neg h6, if_pos h14, if_pos hfull]; simp only [R, hf, if_false, if_neg h6, if_pos h14, if_pos hfull]
        · rw [s, e0, if_neg h6, if_neg h235, if_pos hfull]; simp only [R, hf, if_false, if_neg h6, if_pos h14, if_pos hfull]
        · rw [e0]; simp only [R, hf, if_false, if_neg h6, if_pos h14, if_pos hfull]
      · refine ⟨A ++ (a, c, 1) :: C, ?_, ?_, stv_ins hV (by omega) (hag h6) (gr_up (hcg (by omega))) hA hC, ?_, fun k' hk' => by rw [ent_other hk'], keysS _ _, fun h => by omega⟩
        · rw [p, e0, if_neg h6, if_pos h14, if_neg hfull]; simp only [R, hf, if_false, if_neg h6, if_pos h14, if_neg hfull]
        · rw [s, e0, if_neg h6, if_neg h235, if_neg hfull]; simp only [R, hf, if_false, if_neg h6, if_pos h14, if_neg hfull]
        · rw [e0, ent_hit hA]; simp only [R, hf, if_false, if_neg h6, if_pos h14, if_neg hfull]
    have non : (k = 2 ∨ k = 3 ∨ k = 5) → ∃ l', Ex (A ++ C) k a b c l' := by
      intro h235
      have h6 : k ≠ 6 := by omega
      have h14 : ¬ (k = 1 ∨ k = 4) := by omega
      refine ⟨A ++ C, ?_, ?_, hV, ?_, fun _ _ => rfl, keep, fun _ => rfl⟩
      · rw [p, e0, if_neg h6, if_neg h14]; simp only [R, hf, if_false, if_neg h6, if_neg h14]
      · rw [s, e0, if_neg h6, if_pos h235]; simp only [R, hf, if_false, if_neg h6, if_neg h14]
      · rw [e0]; simp only [R, hf, if_false, if_neg h6, if_neg h14]
    rcases hk with h | h | h | h | h | rfl
    · exact ins (.inl h)
    · exact non (.inl h)
    · exact non (.inr (.inl h))
    · exact ins (.inr h)
    · exact non (.inr (.inr h))
    · refine ⟨A ++ C, ?_, ?_, hV, ?_, fun _ _ => rfl, keep, fun _ => rfl⟩
      · rw [p, e0]; simp only [R, hf, if_true, if_false]
      · rw [s, e0]; simp only [R, hf, if_true, if_false]
      · rw [e0]; simp only [R, hf, if_true, if_false]
end Go.Abs
namespace Go.Abs
/-- what makes a state invalid -/
def bad (x : List Pr) (n : Nat) : Bool :=
  ((((!gr (x.getD n (default : Pr)).1 64) || (!gr (x.getD n (default : Pr)).2.1 256)) || (decide ((x.getD n (default : Pr)).2.2 < (1 : Int)))) || (decide ((x.getD n (default : Pr)).2.2 > (1000000000000 : Int)))) || ((decide ((n : Int) > (0 : Int))) && (!(less ((x.getD ((((n : Int) - (1 : Int))).toNat) (default : Pr)).1) ((x.getD n (default : Pr)).1))))
abbrev OpT := Int × List UInt8 × List UInt8 × List UInt8
/-- one step -/
def stp (l : List Pr) (o : OpT) : List Pr × List UInt8 := (f18 l o.1 o.2.1 o.2.2.1 o.2.2.2).getD ([], [])
theorem stp_ex {l : List Pr} {o : OpT} (hV : StV l) (ho : okO o) : Ex l o.1 o.2.1 o.2.2.1 o.2.2.2 (stp l o).1 ∧ (stp l o).2 = (R (ent l o.2.1) l.length o.1 o.2.1 o.2.2.1 o.2.2.2).1 := by
  obtain ⟨_, h1, h2, h3⟩ := ho
  obtain ⟨l', hx⟩ := exec l o.1 o.2.1 o.2.2.1 o.2.2.2 hV h1 h2 h3
  have : stp l o = (l', (R (ent l o.2.1) l.length o.1 o.2.1 o.2.2.1 o.2.2.2).1) := by
    unfold stp
    rw [hx.prog]; rfl
  rw [this]
  exact ⟨hx, rfl⟩
theorem stp_prog {l : List Pr} {o : OpT} (hV : StV l) (ho : okO o) : f18 l o.1 o.2.1 o.2.2.1 o.2.2.2 = some (stp l o) := by
  obtain ⟨h, h2⟩ := stp_ex hV ho
  rw [h.prog, ← h2]
theorem stp_spec {l : List Pr} {o : OpT} (hV : StV l) (ho : okO o) : f19 l o.1 o.2.1 o.2.2.1 o.2.2.2 = some ((stp l o).2, (stp l o).1) := by
  obtain ⟨h, h2⟩ := stp_ex hV ho
  rw [h.spec, ← h2]
/-- the state behind the first n operations -/
def stt (x : List OpT) (n : Nat) : List Pr := (x.take n).foldl (fun l o => (stp l o).1) []
theorem stt_succ {x : List OpT} {n : Nat} (h : n < x.length) : stt x (n + 1) = (stp (stt x n) (x.getD n default)).1 := by
  unfold stt
  have e : x[n]? = some (x.getD n default) := by simp [List.getD_eq_getElem?_getD, h]
  rw [List.take_add_one, List.foldl_append, e]
  rfl
theorem stt_ok {x : List OpT} (hx : ∀ a, a ∈ x → okO a) : ∀ n, n ≤ x.length → StV (stt x n)
  | 0, _ => by unfold stt; exact StV.nil
  | n + 1, h => by
    rw [stt_succ (by omega)]
    exact (stp_ex (stt_ok hx n (by omega)) (hx _ (getD_mem _ _ _ (by omega)))).1.ok
def res (x : List OpT) (n : Nat) : List (List UInt8) := (List.range n).map fun i => (stp (stt x i) (x.getD i default)).2
theorem res_succ (x : List OpT) (n : Nat) : res x (n + 1) = res x n ++ [(stp (stt x n) (x.getD n default)).2] := by
  unfold res
  rw [List.range_succ, List.map_append]; rfl
theorem res_len (x : List OpT) (n : Nat) : (res x n).length = n := by simp [res]
theorem res_get (x : List OpT) {i n : Nat} (h : i < n) : (res x n).getD i [] = (stp (stt x i) (x.getD i default)).2 := by
  unfold res
  simp [List.getD_eq_getElem?_getD, h]
theorem f21_end (x : List OpT) (K : List Pr × List (List UInt8) → Option (List Pr × List (List UInt8))) (k : Nat) (l : List Pr) (r : List (List UInt8)) : f21_L0 x K (k + 1) (x.length, l, r) = K (l, r) := by
  conv => lhs; unfold f21_L0
  rw [ifd_neg (by omega)]
theorem f21_step (x : List OpT) (K : List Pr × List (List UInt8) → Option (List Pr × List (List UInt8))) (k n : Nat) (l : List Pr) (r : List (List UInt8)) (hlt : n < x.length) (hl : x.length ≤ 1000000) (hr : r.length ≤ n) (hV : StV l) (ho : okO (x.getD n default)) : f21_L0 x K (k + 1) (n, l, r) = f21_L0 x K k (n + 1, (stp l (x.getD n default)).1, r ++ [(stp l (x.getD n default)).2]) := by
  conv => lhs; unfold f21_L0
  rw [ifd_pos (by omega), stp_spec hV ho, some_bind, chk_pos (by omega), chk_pos (by omega), chk_pos (by omega)]
theorem f21_main (x : List OpT) (hl : x.length ≤ 1000000) (hx : ∀ a, a ∈ x → okO a) (K : List Pr × List (List UInt8) → Option (List Pr × List (List UInt8))) : ∀ c k n, n + c = x.length → c < k → f21_L0 x K k (n, stt x n, res x n) = K (stt x x.length, res x x.length)
  | 0, k, n, hn, hk => by
    obtain ⟨k, rfl⟩ : ∃ z, k = z + 1 := ⟨k - 1, by omega⟩
    obtain rfl : n = x.length := by omega
    exact f21_end x K k _ _
  | c + 1, k, n, hn, hk => by
    obtain ⟨k, rfl⟩ : ∃ z, k = z + 1 := ⟨k - 1, by omega⟩
    have hlt : n < x.length := by omega
    rw [f21_step x K k n _ _ hlt hl (by rw [res_len]; omega) (stt_ok hx n (by omega)) (hx _ (getD_mem _ _ _ hlt)), ← stt_succ hlt, ← res_succ]
    exact f21_main x hl hx K c k (n + 1) (by omega) (by omega)
theorem f21_eq (x : List OpT) (hl : x.length ≤ 1000000) (hx : ∀ a, a ∈ x → okO a) : f21 x = some (stt x x.length, res x x.length) := by
  have h := fun K F (hF : x.length < F) => f21_main x hl hx K x.length F 0 (by omega) hF
  have e1 : stt x 0 = [] := rfl
  have e2 : res x 0 = [] := rfl
  rw [e1, e2] at h
  unfold f21 jn
  exact (h _ FUEL (fuel_lt (by omega))).trans rfl
end Go.Abs
namespace Go.Abs
def keysXY (l : List Pr) : Prop := ∀ p, p ∈ l → p.1 = [120] ∨ p.1 = [121]
theorem two_keys {l : List Pr} (h : Srtd l) (hk : keysXY l) : l.length < 64 := by
  match l, h, hk with
  | [], _, _ => simp
  | [_], _, _ => simp
  | [_, _], _, _ => simp
  | a :: b :: c :: l, h, hk =>
    exfalso
    obtain ⟨h1, h2⟩ := List.pairwise_cons.1 h
    obtain ⟨h3, _⟩ := List.pairwise_cons.1 h2
    have e1 := less_ne (h1 b (by simp))
    have e2 := less_ne (h1 c (by simp))
    have e3 := less_ne (h3 c (by simp))
    have ka := hk a (by simp)
    have kb := hk b (by simp)
    have kc := hk c (by simp)
    rcases ka with ka | ka <;> rcases kb with kb | kb <;> rcases kc with kc | kc <;> simp [ka, kb, kc] at e1 e2 e3
theorem R_cnt {e : Option (List UInt8 × Int)} {n m : Nat} {k : Int} {a b c : List UInt8} (h6 : k ≠ 6) (hn : n < 64) (hm : m < 64) : R e n k a b c = R e m k a b c := by
  have h1 : ¬ 64 ≤ n := by omega
  have h2 : ¬ 64 ≤ m := by omega
  simp only [R, if_neg h6, if_neg h1, if_neg h2]
structure OpK (kk : List UInt8) (o : OpT) : Prop where
  ok : okO o
  ne : o.1 ≠ 6
  key : o.2.1 = kk
theorem half (s t : List Pr) (o : OpT) (kk : List UInt8) (hkk : kk = [120] ∨ kk = [121]) (hs : StV s) (ht : StV t) (ks : keysXY s) (kt : keysXY t) (ho : OpK kk o) (he : ent s kk = ent t kk) :
    (stp s o).2 = (stp t o).2 ∧ StV (stp s o).1 ∧ keysXY (stp s o).1 ∧ StV (stp t o).1 ∧ keysXY (stp t o).1 ∧ ent (stp s o).1 kk = ent (stp t o).1 kk ∧ ∀ k', k' ≠ kk → ent (stp s o).1 k' = ent s k' := by
  obtain ⟨xs, rs⟩ := stp_ex hs ho.ok
  obtain ⟨xt, rt⟩ := stp_ex ht ho.ok
  have hk := ho.key
  subst hk
  have e0 : R (ent s o.2.1) s.length o.1 o.2.1 o.2.2.1 o.2.2.2 = R (ent t o.2.1) t.length o.1 o.2.1 o.2.2.1 o.2.2.2 := by
    rw [he]
    exact R_cnt ho.ne (two_keys hs.srt ks) (two_keys ht.srt kt)
  have kx : ∀ (u l' : List Pr), keysXY u → (∀ p, p ∈ l' → p.1 = o.2.1 ∨ ∃ q, q ∈ u ∧ q.1 = p.1) → keysXY l' := by
    intro u l' hu h p hp
    rcases h p hp with h | ⟨q, hq, h⟩
    · rw [h]; exact hkk
    · rw [← h]; exact hu q hq
  exact ⟨by rw [rs, rt, e0], xs.ok, kx s _ ks xs.keys, xt.ok, kx t _ kt xt.keys, by rw [xs.here, xt.here, e0], xs.there⟩
theorem stt_over {x : List OpT} {n : Nat} (h : x.length ≤ n) : stt x n = stt x x.length := by
  unfold stt
  rw [List.take_of_length_le h, List.take_of_length_le (Nat.le_refl _)]
theorem run_keys {x : List OpT} {kk : List UInt8} (hkk : kk = [120] ∨ kk = [121]) (hx : ∀ o, o ∈ x → OpK kk o) : ∀ n, n ≤ x.length → keysXY (stt x n)
  | 0, _ => by intro p hp; cases hp
  | n + 1, h => by
    have hx' : ∀ o, o ∈ x → okO o := fun o ho => (hx o ho).ok
    rw [stt_succ (by omega)]
    exact (half _ _ _ kk hkk (stt_ok hx' n (by omega)) (stt_ok hx' n (by omega)) (run_keys hkk hx n (by omega)) (run_keys hkk hx n (by omega)) (hx _ (getD_mem _ _ _ (by omega))) rfl).2.2.1
/-- what holds of the mixed run -/
structure Mix (x y : List OpT) (n m : Nat) (s : List Pr) : Prop where
  ok : StV s
  keys : keysXY s
  ex : ent s [120] = ent (stt x n) [120]
  ey : ent s [121] = ent (stt y m) [121]
theorem f6_L2_eq (x y : List OpT) (hx : ∀ o, o ∈ x → OpK [120] o) (hy : ∀ o, o ∈ y → OpK [121] o) (lx : x.length ≤ 1000) (ly : y.length ≤ 1000) (s1 s2 : List Pr) (K : Unit → Option Bool) :
    ∀ c k n s, max x.length y.length ≤ n + c → c < k → n ≤ 1000 → Mix x y n n s → f6_L2 x y (s1, res x x.length) (s2, res y y.length) K k (s, n) = K ()
  | 0, k, n, s, hn, hk, hn0, hm => by
    obtain ⟨k, rfl⟩ : ∃ z, k = z + 1 := ⟨k - 1, by omega⟩
    conv => lhs; unfold f6_L2
    rw [ifd_neg (by omega)]
  | c + 1, k, n, s, hn, hk, hn0, hm => by
    obtain ⟨k, rfl⟩ : ∃ z, k = z + 1 := ⟨k - 1, by omega⟩
    have hx' : ∀ o, o ∈ x → okO o := fun o ho => (hx o ho).ok
    have hy' : ∀ o, o ∈ y → okO o := fun o ho => (hy o ho).ok
    conv => lhs; unfold f6_L2
    by_cases hmx : n < max x.length y.length
    · rw [ifd_pos (by omega)]
      simp only [jn]
      have yp : ∀ s', Mix x y (n + 1) n s' → (if (decide ((n : Int) < (((y).length : Nat) : Int))) = true then (
          (f18 s' ((y.getD n (default : OpT)).1) ((y.getD n (default : OpT)).2.1) ((y.getD n (default : OpT)).2.2.1) ((y.getD n (default : OpT)).2.2.2)).bind fun (r19 : List Pr × List UInt8) =>
          chk ((n : Int) < (((y).length : Nat) : Int)) <|
          chk (n < (y).length) <|
          chk ((n : Int) < (((res y y.length).length : Nat) : Int)) <|
          chk (n < (res y y.length).length) <|
          if (!(r19.2 == ((res y y.length).getD n []))) = true then some false
          else chk (((n : Int) + (1 : Int)) ≤ 9223372036854775807) (f6_L2 x y (s1, res x x.length) (s2, res y y.length) K k (r19.1, (n + 1))))
          else chk (((n : Int) + (1 : Int)) ≤ 9223372036854775807) (f6_L2 x y (s1, res x x.length) (s2, res y y.length) K k (s', (n + 1)))) = K () := by
        intro s' hm'
        by_cases hny : n < y.length
        · have hh := half s' (stt y n) (y.getD n default) [121] (.inr rfl) hm'.ok (stt_ok hy' n (by omega)) hm'.keys (run_keys (.inr rfl) hy n (by omega)) (hy _ (getD_mem _ _ _ hny)) hm'.ey
          rw [ifd_pos (by omega), stp_prog hm'.ok (hy' _ (getD_mem _ _ _ hny)), some_bind, chk_pos (by omega), chk_pos hny, chk_pos (by rw [res_len]; omega), chk_pos (by rw [res_len]; exact hny), res_get y hny, hh.1, if_neg (by simp), chk_pos (by omega)]
          exact f6_L2_eq x y hx hy lx ly s1 s2 K c k (n + 1) _ (by omega) (by omega) (by omega) ⟨hh.2.1, hh.2.2.1, (hh.2.2.2.2.2.2 [120] (by decide)).trans hm'.ex, by rw [stt_succ hny]; exact hh.2.2.2.2.2.1⟩
        · rw [ifd_neg (by omega), chk_pos (by omega)]
          exact f6_L2_eq x y hx hy lx ly s1 s2 K c k (n + 1) _ (by omega) (by omega) (by omega) ⟨hm'.ok, hm'.keys, hm'.ex, by rw [hm'.ey, stt_over (n := n) (by omega), stt_over (n := n + 1) (by omega)]⟩
      by_cases hnx : n < x.length
      · have hh := half s (stt x n) (x.getD n default) [120] (.inl rfl) hm.ok (stt_ok hx' n (by omega)) hm.keys (run_keys (.inl rfl) hx n (by omega)) (hx _ (getD_mem _ _ _ hnx)) hm.ex
        rw [ifd_pos (by omega), stp_prog hm.ok (hx' _ (getD_mem _ _ _ hnx)), some_bind, chk_pos (by omega), chk_pos hnx, chk_pos (by rw [res_len]; omega), chk_pos (by rw [res_len]; exact hnx), res_get x hnx, hh.1, if_neg (by simp)]
        exact yp _ ⟨hh.2.1, hh.2.2.1, by rw [stt_succ hnx]; exact hh.2.2.2.2.2.1, (hh.2.2.2.2.2.2 [121] (by decide)).trans hm.ey⟩
      · rw [ifd_neg (by omega)]
        exact yp _ ⟨hm.ok, hm.keys, by rw [hm.ex, stt_over (n := n) (by omega), stt_over (n := n + 1) (by omega)], hm.ey⟩
    · rw [ifd_neg (by omega)]
/-- the operations of a key -/
def gK (kk : List UInt8) (s : List OpT) (o : OpT) : List OpT := if o.1 != 6 then s ++ [(o.1, kk, o.2.2.1, o.2.2.2)] else s
theorem gK_inv (kk : List UInt8) (hkk : kk.length ≤ 1) (x : List OpT) (hx : ∀ o, o ∈ x → okO o) : ∀ n s, n < x.length → (s.length ≤ n ∧ ∀ o, o ∈ s → OpK kk o) → ((gK kk s (x.getD n default)).length ≤ n + 1 ∧ ∀ o, o ∈ gK kk s (x.getD n default) → OpK kk o) := by
  intro n s hn ⟨h1, h2⟩
  have hv := hx _ (getD_mem x n default hn)
  unfold gK
  split
  · rename_i h6
    refine ⟨by simp; omega, fun o ho => ?_⟩
    rcases List.mem_append.1 ho with ho | ho
    · exact h2 o ho
    · simp at ho
      subst ho
      exact ⟨⟨hv.1, by simp only; omega, hv.2.2.1, hv.2.2.2⟩, by simpa using h6, rfl⟩
  · exact ⟨by omega, h2⟩
theorem f6_L0_eq (x : List OpT) (hl : x.length ≤ 1000) (hx : ∀ o, o ∈ x → okO o) (K : List OpT → Option Bool) (F : Nat) (hF : x.length < F) : f6_L0 x K F (0, []) = K (x.foldl (gK [120]) []) := by
  have := fold_up (f6_L0 x K) x default (fun n s => s.length ≤ n ∧ ∀ o, o ∈ s → OpK [120] o) (gK [120]) K (fun k n s hn hi => by
    conv => lhs; unfold f6_L0
    rw [ifd_pos (by omega)]
    simp only [jn]
    rw [chk_pos (by omega)]
    unfold gK
    split
    · rw [chk_pos (by omega), chk_pos (by omega)]
    · rw [chk_pos (by omega)]) (gK_inv [120] (by simp) x hx) (fun k s _ => by
    conv => lhs; unfold f6_L0
    rw [ifd_neg (by omega)]) x.length F 0 [] (by omega) hF ⟨by simp, by simp⟩
  rw [List.drop_zero] at this
  exact this
theorem f6_L1_eq (x : List OpT) (hl : x.length ≤ 1000) (hx : ∀ o, o ∈ x → okO o) (K : List OpT → Option Bool) (F : Nat) (hF : x.length < F) : f6_L1 x K F (0, []) = K (x.foldl (gK [121]) []) := by
  have := fold_up (f6_L1 x K) x default (fun n s => s.length ≤ n ∧ ∀ o, o ∈ s → OpK [121] o) (gK [121]) K (fun k n s hn hi => by
    conv => lhs; unfold f6_L1
    rw [ifd_pos (by omega)]
    simp only [jn]
    rw [chk_pos (by omega)]
    unfold gK
    split
    · rw [chk_pos (by omega), chk_pos (by omega)]
    · rw [chk_pos (by omega)]) (gK_inv [121] (by simp) x hx) (fun k s _ => by
    conv => lhs; unfold f6_L1
    rw [ifd_neg (by omega)]) x.length F 0 [] (by omega) hF ⟨by simp, by simp⟩
  rw [List.drop_zero] at this
  exact this
theorem f6_true (x1 x2 : List OpT) (h1 : ∀ o, o ∈ x1 → okO o) (_n1 : x1.length ≤ 9223372036854775807) (h2 : ∀ o, o ∈ x2 → okO o) (_n2 : x2.length ≤ 9223372036854775807) : f6 x1 x2 = some true := by
  unfold f6
  have hF : 1001 < FUEL := fuel_lt (by omega)
  generalize FUEL = F at hF
  rw [f10_true, some_bind]
  by_cases hg : (x1.length : Int) > 20 ∨ (x2.length : Int) > 20
  · rw [if_pos (by simpa using hg)]
    rfl
  rw [if_neg (by simpa using hg)]
  have l1 : x1.length ≤ 20 := by omega
  have l2 : x2.length ≤ 20 := by omega
  obtain ⟨a1, a2⟩ := foldl_inv (fun n (s : List OpT) => s.length ≤ n ∧ ∀ o, o ∈ s → OpK [120] o) (gK [120]) default x1 (gK_inv [120] (by simp) x1 h1) [] ⟨by simp, by simp⟩
  obtain ⟨b1, b2⟩ := foldl_inv (fun n (s : List OpT) => s.length ≤ n ∧ ∀ o, o ∈ s → OpK [121] o) (gK [121]) default x2 (gK_inv [121] (by simp) x2 h2) [] ⟨by simp, by simp⟩
  rw [jn_eq]
  refine (f6_L0_eq x1 (by omega) h1 _ F (by omega)).trans ?_
  rw [jn_eq]
  refine (f6_L1_eq x2 (by omega) h2 _ F (by omega)).trans ?_
  generalize x1.foldl (gK [120]) [] = x at a1 a2
  generalize x2.foldl (gK [121]) [] = y at b1 b2
  show (f21 x).bind _ = _
  rw [f21_eq x (by omega) (fun o ho => (a2 o ho).ok), some_bind, f21_eq y (by omega) (fun o ho => (b2 o ho).ok), some_bind]
  rw [jn_eq]
  have e1 : stt x 0 = [] := rfl
  have e2 : stt y 0 = [] := rfl
  have hm : Mix x y 0 0 [] := ⟨StV.nil, fun p hp => (List.not_mem_nil hp).elim, by rw [e1], by rw [e2]⟩
  exact (f6_L2_eq x y a2 b2 (by omega) (by omega) _ _ _ 1000 F 0 [] (by omega) (by omega) (by omega) hm).trans rfl
end Go.Abs
