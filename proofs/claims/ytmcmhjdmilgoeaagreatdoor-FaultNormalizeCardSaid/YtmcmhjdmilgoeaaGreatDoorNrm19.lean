/- Chapter 19: the faults that no other one covers. -/
import Derived.Test.YtmcmhjdmilgoeaaGreatDoorTol19
import Derived.Test.YtmcmhjdmilgoeaaGreatDoorCpt
namespace Go.Abs
theorem f79_eq (x : List Flt) (hx : x.length ≤ 65536) : f79 x = some (isortK keyF x) := by
  unfold f79 sortO; rw [if_pos (by omega)]
theorem fltNe (a b : Flt) : (!((a.1 == b.1) && ((a.2 == b.2) && true))) = (a != b) := by
  rw [Bool.and_true]; rfl
theorem fltEq (a b : Flt) : ((a.1 == b.1) && ((a.2 == b.2) && true)) = (a == b) := by
  rw [Bool.and_true]; rfl
theorem f80_eq (x : List Flt) (hx : x.length ≤ 65536) : f80 x = some (dd x) := by
  unfold f80
  by_cases h : x.length < 2
  · rw [ifd_pos (by omega)]
    match x, h with
    | [], _ => rfl
    | [a], _ => rfl
    | a :: b :: l, h => simp at h; omega
  · rw [ifd_neg (by omega), jn_eq]
    refine cpt_out (default : Flt) x (f80_L0 x fun _ => some x)
      (fun n2 => f80_L1 x n2 (fun p =>
        chk (((p.1 : Nat) : Int) ≤ (((p.2).length : Nat) : Int)) <|
        chk (p.1 + ((p.2).length - p.1) ≤ (p.2).length ∧ 0 < ((p.2).length - p.1)) <|
        chk (((p.1 : Nat) : Int) ≤ ((((p.2.take p.1 ++ List.replicate ((p.2).length - p.1) ((BitVec.ofInt 16 0), (BitVec.ofInt 16 0)))).length : Nat) : Int)) <|
        chk (p.1 ≤ (p.2.take p.1 ++ List.replicate ((p.2).length - p.1) ((BitVec.ofInt 16 0), (BitVec.ofInt 16 0))).length) <|
        some ((p.2.take p.1 ++ List.replicate ((p.2).length - p.1) ((BitVec.ofInt 16 0), (BitVec.ofInt 16 0))).take p.1)) FUEL (n2, 1, x)) some ?_ ?_ ?_ (x.length - 1) FUEL 1 (by omega) (by omega) (fuel_lt (by omega)) (fun j h1 h2 => by omega)
    · intro k n h0 hn
      have ht : (((n : Nat) : Int) - (1 : Int)).toNat = n - 1 := by omega
      rw [f80_L0.eq_2, ifd_pos (by omega), chk_pos (by omega), chk_pos (by omega), chk_pos (by omega), chk_pos (by omega), chk_pos (by omega), ht, fltEq]
      by_cases he : x.getD n default = x.getD (n - 1) default
      · rw [if_pos he, if_pos (by rw [he]; simp), chk_pos (by omega), jn_eq]
      · rw [if_neg he, if_neg (by simpa using he), chk_pos (by omega)]
    · intro n h0 hn hi
      refine cpt_in (default : Flt) x n (f80_L1 x n _) (some (dd x)) hn h0 ?_ ?_ (x.length - n - 1) FUEL n 1 x (by omega) (by omega) (fuel_lt (by omega)) hi
      · intro k n3 n4 l h1 h2 h3 h4
        have ht : (((n4 : Nat) : Int) - (1 : Int)).toNat = n4 - 1 := by omega
        rw [f80_L1.eq_2, ifd_pos (by omega), jn_eq, chk_pos (by omega), chk_pos (by omega), chk_pos (by omega), chk_pos (by omega), chk_pos (by omega), ht, fltNe]
        by_cases he : l.getD (n + n4) default = l.getD (n + (n4 - 1)) default
        · rw [if_pos he, if_neg (by rw [he]; simp)]
          dsimp only
          rw [chk_pos (by omega)]
        · rw [if_neg he, if_pos (by simpa using he), chk_pos (by omega), chk_pos (by omega), chk_pos (by omega), chk_pos (by omega), chk_pos (by omega)]
          dsimp only
          rw [chk_pos (by omega)]
      · intro k n3 n4 l h1 hi
        have hi0 := hi
        obtain ⟨i1, i2, i3, i4, i5, i6, i7⟩ := hi
        rw [f80_L1.eq_2, ifd_neg (by omega)]
        dsimp only
        rw [chk_pos (by omega), chk_pos (by omega), chk_pos (by simp; omega), chk_pos (by simp; omega), cpt_left default x l n3 hi0]
    · intro k
      rw [f80_L0.eq_2, ifd_neg (by omega)]
theorem f81_eq (b a : Flt) : f81 b.1 b.2 a.1 a.2 = some (a != b && cov b a, a.1, a.2) := by
  unfold f81
  have h := fltNe a b
  rw [h, f16_eq]
  cases a != b <;> rfl
theorem f75_eq (x : List Flt) (a : Flt) (hx : x.length ≤ 65536) : ∃ i : Int, f75 x a.1 a.2 = some (i, a.1, a.2) ∧ (decide (i ≥ 0)) = x.any fun b => a != b && cov b a := by
  unfold f75
  rw [jn_eq]
  have := find_up (fun k n => f75_L0 x (fun q => match q with | (w8, w9) => some ((-1 : Int), w8, w9)) k (n, a.1, a.2)) x default (fun b => a != b && cov b a) (fun n => some ((n : Int), a.1, a.2)) (some (-1, a.1, a.2))
    (fun k n hn => by
      dsimp only
      rw [f75_L0.eq_2, if_pos (by simp; omega), f81_eq, some_bind, chk_pos (by omega)]
      cases a != x.getD n default && cov (x.getD n default) a with
      | true => rw [if_pos rfl, if_pos rfl]
      | false => rw [if_neg (by simp), if_neg (by simp), chk_pos (by omega)])
    (fun k => by
      dsimp only
      rw [f75_L0.eq_2, if_neg (by simp)]) x.length FUEL 0 (by omega) (fuel_lt (by omega))
  rcases this with ⟨m, _, _, _, h1, h2⟩ | ⟨h1, h2⟩
  · refine ⟨m, h1, ?_⟩
    rw [List.drop_zero] at h2
    rw [h2]; simp
  · refine ⟨-1, h1, ?_⟩
    rw [List.drop_zero] at h2
    rw [h2]; simp
theorem f48_eq (x : List Flt) (a : Flt) (hx : x.length ≤ 65536) : f48 x a.1 a.2 = some (x.any fun b => a != b && cov b a, a.1, a.2) := by
  obtain ⟨i, h1, h2⟩ := f75_eq x a hx
  unfold f48
  rw [h1, some_bind, h2]
theorem filter_fold {α : Type} (p : α → Bool) (l : List α) : ∀ out : List α, l.foldl (fun out a => if p a then out ++ [a] else out) out = out ++ l.filter p := by
  induction l with
  | nil => intro out; simp
  | cons a l ih =>
    intro out
    rw [List.foldl_cons, ih, List.filter_cons]
    cases p a <;> simp
/-- normal's answer -/
def limF (l : List Flt) : Int × List Flt := if l.length > 100 then (3, []) else (0, l)
theorem f54_L0_eq (r : List Flt) (K : List Flt → Option (Int × List Flt)) (hr : r.length ≤ 65536) : f54_L0 r K FUEL (0, []) = K (r.filter (undF r)) := by
  rw [fold_up (f54_L0 r K) r default (fun n l => l.length ≤ n) (fun out a => if undF r a then out ++ [a] else out) K ?_ ?_ ?_ r.length FUEL 0 [] (by omega) (fuel_lt (by omega)) (Nat.le_refl _)]
  · rw [List.drop_zero, filter_fold, List.nil_append]
  · intro k n s hn hs
    rw [f54_L0.eq_2, ifd_pos (by omega), jn_eq, chk_pos (by omega), chk_pos (by omega), f48_eq _ _ (by omega), some_bind]
    cases h : undF r (r.getD n default) with
    | true =>
      have h' : (r.any fun b => r.getD n default != b && cov b (r.getD n default)) = false := by unfold undF at h; simpa using h
      rw [h', if_pos (by rfl), chk_pos (by omega)]
      dsimp only
      rw [chk_pos (by omega), if_pos rfl]
    | false =>
      have h' : (r.any fun b => r.getD n default != b && cov b (r.getD n default)) = true := by
        unfold undF at h
        cases h2 : (r.any fun b => r.getD n default != b && cov b (r.getD n default)) with
        | true => rfl
        | false => rw [h2] at h; cases h
      rw [h', if_neg (by simp)]
      dsimp only
      rw [chk_pos (by omega), if_neg (by simp)]
  · intro n s hn hs
    split
    · simp; omega
    · omega
  · intro k s hs
    rw [f54_L0.eq_2, ifd_neg (by omega)]
theorem f54_eq (x : List Flt) (hx : x.length ≤ 65536) : f54 x = some (limF (normP x)) := by
  have hl := srtF_len x
  have hi := (isortK_perm (k := keyF) x).length_eq
  unfold f54
  rw [f14_eq x hx, some_bind, f79_eq x hx, some_bind, f80_eq _ (by omega), some_bind, jn_eq]
  refine (f54_L0_eq (srtF x) _ (by omega)).trans ?_
  change (if decide (((normP x).length : Int) > 100) = true then _ else _) = _
  unfold limF
  by_cases h : (normP x).length > 100
  · rw [ifd_pos (by omega), if_pos h]
  · rw [ifd_neg (by omega), if_neg h]
    rfl
/-! ### the reference -/
theorem f22_L0_eq (x y : List Flt) (K : Unit → Option Bool) (hx : x.length ≤ 65536) (hxy : x.length = y.length) : ∀ c k n, n + c = x.length → c < k → f22_L0 x y K k n = if x.drop n = y.drop n then K () else some false
  | 0, k, n, hn, hk => by
    obtain ⟨k, rfl⟩ : ∃ q, k = q + 1 := ⟨k - 1, by omega⟩
    rw [f22_L0.eq_2, ifd_neg (by omega), List.drop_eq_nil_of_le (by omega), List.drop_eq_nil_of_le (by omega), if_pos rfl]
  | c + 1, k, n, hn, hk => by
    obtain ⟨k, rfl⟩ : ∃ q, k = q + 1 := ⟨k - 1, by omega⟩
    have ih := f22_L0_eq x y K hx hxy c k (n + 1) (by omega) (by omega)
    rw [f22_L0.eq_2, ifd_pos (by omega), chk_pos (by omega), chk_pos (by omega), fltNe, getD_drop x n default (by omega), getD_drop y n default (by omega)]
    by_cases h : x.getD n default = y.getD n default
    · rw [if_neg (by rw [h]; simp), chk_pos (by omega), ih, h]
      simp
    · rw [if_pos (by simpa using h), if_neg]
      intro e
      exact h (List.cons.inj e).1
theorem f22_eq (x y : List Flt) (hx : x.length ≤ 65536) : f22 x y = some (decide (x = y)) := by
  unfold f22
  by_cases h : x.length = y.length
  · rw [if_neg (by simp; omega), jn_eq, f22_L0_eq x y _ hx h x.length FUEL 0 (by omega) (fuel_lt (by omega)), List.drop_zero, List.drop_zero]
    by_cases e : x = y
    · rw [if_pos e, decide_eq_true e]
    · rw [if_neg e, decide_eq_false e]
  · rw [if_pos (by simp; omega), decide_eq_false (fun e => h (by rw [e]))]
/-- the reference keeps the first one of some that are equal, and what no other one covers -/
def keepR (x : List Flt) (n : Nat) : Bool := !((List.range x.length).any fun k => cov (x.getD k default) (x.getD n default) && (x.getD k default != x.getD n default || decide (k < n)))
theorem f55_L1_eq (x : List Flt) (n2 : Nat) (K : Bool → Option (List Flt)) (hx : x.length ≤ 65536) (hn : n2 < x.length) : ∀ c k n b, n + c = x.length → c < k →
    f55_L1 x n2 K k (b, n) = K (b && !((List.range' n c).any fun k => cov (x.getD k default) (x.getD n2 default) && (x.getD k default != x.getD n2 default || decide (k < n2))))
  | 0, k, n, b, hc, hk => by
    obtain ⟨k, rfl⟩ : ∃ q, k = q + 1 := ⟨k - 1, by omega⟩
    rw [f55_L1.eq_2, ifd_neg (by omega)]
    simp
  | c + 1, k, n, b, hc, hk => by
    obtain ⟨k, rfl⟩ : ∃ q, k = q + 1 := ⟨k - 1, by omega⟩
    have ih := fun b => f55_L1_eq x n2 K hx hn c k (n + 1) b (by omega) (by omega)
    rw [f55_L1.eq_2, ifd_pos (by omega), jn_eq, f17_eq, some_bind, fltNe, chk_pos (by omega), chk_pos (by omega), chk_pos (by intro; omega), chk_pos (by intro; omega), chk_pos (by
      intro _ h2 h3
      rw [h2, h3]
      rfl)]
    dsimp only
    rw [List.range'_succ, List.any_cons]
    have hd : decide (((n : Nat) : Int) < ((n2 : Nat) : Int)) = decide (n < n2) := by
      rw [Bool.eq_iff_iff, decide_eq_true_eq, decide_eq_true_eq]; omega
    rw [hd]
    cases h : cov (x.getD n default) (x.getD n2 default) && (x.getD n default != x.getD n2 default || decide (n < n2)) with
    | true => rw [if_pos rfl, chk_pos (by omega), ih]; simp
    | false => rw [if_neg (by simp), chk_pos (by omega), ih]; simp
theorem f55_L2_eq (x : List Flt) (n2 : Nat) (K : Nat × List Flt → Option (List Flt)) (l : List Flt) (hl : l.length ≤ 65536) (hn : n2 < x.length) (hx : x.length ≤ 65536) : ∀ c k n, n + c = l.length → c < k → (∀ j, j < n → keyF (l.getD j default) < keyF (x.getD n2 default)) →
    ∃ m, m ≤ l.length ∧ f55_L2 x n2 K k (n, l) = K (m, l) ∧ (∀ j, j < m → keyF (l.getD j default) < keyF (x.getD n2 default)) ∧ (m < l.length → ¬ keyF (l.getD m default) < keyF (x.getD n2 default))
  | 0, k, n, hc, hk, hj => by
    obtain ⟨k, rfl⟩ : ∃ q, k = q + 1 := ⟨k - 1, by omega⟩
    refine ⟨n, by omega, ?_, hj, fun h => by omega⟩
    rw [f55_L2.eq_2]
    have h0 : (decide (((n : Nat) : Int) < (((l).length : Nat) : Int))) = false := by simp; omega
    rw [h0]
    rfl
  | c + 1, k, n, hc, hk, hj => by
    obtain ⟨k, rfl⟩ : ∃ q, k = q + 1 := ⟨k - 1, by omega⟩
    have h0 : (decide (((n : Nat) : Int) < (((l).length : Nat) : Int))) = true := by simp; omega
    obtain ⟨r, h1, h2⟩ := f45_eq (l.getD n default) (x.getD n2 default)
    rw [f55_L2.eq_2, h0, show ((true == true) = true) from rfl, optc_t, h1, some_bind, chk_pos (by intro; omega), chk_pos (by intro; omega), chk_pos (by intro; omega)]
    by_cases hk2 : keyF (l.getD n default) < keyF (x.getD n2 default)
    · have := h2.2 hk2
      rw [if_pos (by simp; omega), chk_pos (by omega)]
      exact f55_L2_eq x n2 K l hl hn hx c k (n + 1) (by omega) (by omega) fun j h => by
        by_cases e : j = n
        · subst e; exact hk2
        · exact hj j (by omega)
    · have : ¬ r < 0 := fun h => hk2 (h2.1 h)
      rw [if_neg (by simp; omega)]
      exact ⟨n, by omega, rfl, hj, fun _ => hk2⟩
theorem keepR_iff (x : List Flt) (n : Nat) (hn : n < x.length) : keepR x n = true ↔ (∀ b, b ∈ x → x.getD n default ≠ b → cov b (x.getD n default) = false) ∧ ∀ k, k < n → x.getD k default ≠ x.getD n default := by
  unfold keepR
  rw [Bool.not_eq_true', List.any_eq_false]
  constructor
  · intro h
    refine ⟨fun b hb hne => ?_, fun k hk e => ?_⟩
    · obtain ⟨j, hj, rfl⟩ := List.getElem_of_mem hb
      have := h j (List.mem_range.2 hj)
      have e : x.getD j default = x[j] := by simp [List.getD_eq_getElem?_getD, hj]
      rw [e] at this
      have h2 : (x[j] != x.getD n default) = true := by simp; exact fun h => hne h.symm
      rw [h2] at this
      simpa using this
    · have := h k (List.mem_range.2 (by omega))
      rw [e, cov_refl, decide_eq_true hk] at this
      simp at this
  · rintro ⟨h1, h2⟩ k hk
    rw [List.mem_range] at hk
    have hmem : x.getD k default ∈ x := by
      rw [List.getD_eq_getElem?_getD, List.getElem?_eq_getElem hk]; exact List.getElem_mem hk
    by_cases e : x.getD n default = x.getD k default
    · have : ¬ k < n := fun h => h2 k h e.symm
      rw [← e, decide_eq_false this]
      simp
    · rw [h1 _ hmem e]; simp
/-- the reference's list, when n places are done -/
def InsI (x : List Flt) (n : Nat) (out : List Flt) : Prop := out.length ≤ n ∧ out.Pairwise (fun a b => keyF a < keyF b) ∧ ∀ a, a ∈ out ↔ ∃ j, j < n ∧ x.getD j default = a ∧ keepR x j = true
theorem f55_L0_eq (x : List Flt) (K : List Flt → Option (List Flt)) (hx : x.length ≤ 65536) : ∀ c k n out, n + c = x.length → c < k → InsI x n out → ∃ out', InsI x x.length out' ∧ f55_L0 x K k (n, out) = K out'
  | 0, k, n, out, hc, hk, hi => by
    obtain ⟨k, rfl⟩ : ∃ q, k = q + 1 := ⟨k - 1, by omega⟩
    refine ⟨out, by rw [show x.length = n by omega]; exact hi, ?_⟩
    rw [f55_L0.eq_2, ifd_neg (by omega)]
  | c + 1, k, n, out, hc, hk, hi => by
    obtain ⟨k, rfl⟩ : ∃ q, k = q + 1 := ⟨k - 1, by omega⟩
    obtain ⟨i1, i2, i3⟩ := hi
    rw [f55_L0.eq_2, ifd_pos (by omega), jn_eq, jn_eq, f55_L1_eq x n _ hx (by omega) x.length FUEL 0 true (by omega) (fuel_lt (by omega)), Bool.true_and, ← List.range_eq_range']
    change ∃ out', _ ∧ (if (!(keepR x n)) = true then _ else _) = _
    cases hkp : keepR x n with
    | false =>
      rw [if_pos (show (!false) = true from rfl)]
      dsimp only
      rw [chk_pos (by omega)]
      refine f55_L0_eq x K hx c k (n + 1) out (by omega) (by omega) ⟨by omega, i2, fun a => (i3 a).trans ?_⟩
      constructor
      · rintro ⟨j, h1, h2⟩; exact ⟨j, by omega, h2⟩
      · rintro ⟨j, h1, h2, h3⟩
        have : j ≠ n := by rintro rfl; rw [hkp] at h3; cases h3
        exact ⟨j, by omega, h2, h3⟩
    | true =>
      rw [if_neg (by simp), jn_eq]
      obtain ⟨m, m1, m2, m3, m4⟩ := f55_L2_eq x n (fun p =>
        chk (((p.1 : Nat) : Int) ≤ (((p.2).length : Nat) : Int)) <|
        chk ((0 + p.1) * 4 ≤ 140737488355328) <|
        chk (((n : Nat) : Int) < (((x).length : Nat) : Int)) <|
        chk ((((p.2.take p.1)).length + 1) * 4 ≤ 140737488355328) <|
        chk (((p.1 : Nat) : Int) ≤ (((p.2).length : Nat) : Int)) <|
        chk (((((p.2.take p.1) ++ [((x.getD n (default : BitVec 16 × BitVec 16)).1, (x.getD n (default : BitVec 16 × BitVec 16)).2)])).length + ((p.2).length - p.1)) * 4 ≤ 140737488355328) <|
        (fun (l9 : List (BitVec 16 × BitVec 16)) =>
          chk ((((n : Nat) : Int) + (1 : Int)) ≤ 9223372036854775807) <|
          (f55_L0 x K k) ((n + 1), l9)) (((p.2.take p.1) ++ [((x.getD n (default : BitVec 16 × BitVec 16)).1, (x.getD n (default : BitVec 16 × BitVec 16)).2)]) ++ (p.2.drop p.1))) out (by omega) (by omega) hx out.length FUEL 0 (by omega) (fuel_lt (by omega)) (fun j h => by omega)
      have hnew : x.getD n default ∉ out := by
        intro h
        obtain ⟨j, h1, h2, h3⟩ := (i3 _).1 h
        exact ((keepR_iff x n (by omega)).1 hkp).2 j h1 h2
      have hs := strict_insert (k := keyF) (fun _ _ => keyF_inj) out (x.getD n default) default m m1 i2 m3 m4 hnew
      have hlen : (out.take m).length ≤ n := by simp; omega
      obtain ⟨out', h1, h2⟩ := f55_L0_eq x K hx c k (n + 1) (out.take m ++ x.getD n default :: out.drop m) (by omega) (by omega) ⟨by simp; omega, hs, fun a => by
        rw [mem_insert_at, i3]
        constructor
        · rintro (rfl | ⟨j, h1, h2⟩)
          · exact ⟨n, by omega, rfl, hkp⟩
          · exact ⟨j, by omega, h2⟩
        · rintro ⟨j, h1, h2, h3⟩
          by_cases e : j = n
          · subst e; exact .inl h2.symm
          · exact .inr ⟨j, by omega, h2, h3⟩⟩
      refine ⟨out', h1, ?_⟩
      refine m2.trans ?_
      dsimp only
      rw [chk_pos (by omega), chk_pos (by omega), chk_pos (by omega), chk_pos (by omega), chk_pos (by omega), chk_pos (by simp; omega), chk_pos (by omega), ← h2]
      rw [List.append_assoc]
      rfl
theorem f55_eq (x : List Flt) (hx : x.length ≤ 65536) : f55 x = some (normP x) := by
  unfold f55
  rw [jn_eq]
  obtain ⟨out', ⟨i1, i2, i3⟩, h2⟩ := f55_L0_eq x (fun l => some l) hx x.length FUEL 0 [] (by omega) (fuel_lt (by omega)) ⟨Nat.le_refl _, .nil, fun a => by simp⟩
  refine h2.trans ?_
  congr 1
  refine strict_uniq (k := keyF) (fun _ _ => keyF_inj) _ _ (fun a => ?_) i2 (normP_strict x)
  rw [i3, mem_normP]
  constructor
  · rintro ⟨j, h1, rfl, h3⟩
    refine ⟨?_, ((keepR_iff x j h1).1 h3).1⟩
    rw [List.getD_eq_getElem?_getD, List.getElem?_eq_getElem h1]; exact List.getElem_mem h1
  · rintro ⟨h1, h2⟩
    -- the first place of a
    have hex : ∃ j, j < x.length ∧ x.getD j default = a := by
      obtain ⟨j, hj, rfl⟩ := List.getElem_of_mem h1
      exact ⟨j, hj, by simp [List.getD_eq_getElem?_getD, hj]⟩
    have hmin : ∀ n, (∃ j, j < n ∧ j < x.length ∧ x.getD j default = a) → ∃ j, j < x.length ∧ x.getD j default = a ∧ ∀ k, k < j → x.getD k default ≠ a := by
      intro n
      induction n with
      | zero => rintro ⟨j, h, _⟩; omega
      | succ n ih =>
        intro h
        by_cases hb : ∃ j, j < n ∧ j < x.length ∧ x.getD j default = a
        · exact ih hb
        · obtain ⟨j, j1, j2, j3⟩ := h
          refine ⟨j, j2, j3, fun k hk e => hb ⟨k, by omega, by omega, e⟩⟩
    obtain ⟨j, j1, j2⟩ := hex
    obtain ⟨j, j1, j2, j3⟩ := hmin (j + 1) ⟨j, by omega, j1, j2⟩
    exact ⟨j, j1, j2, (keepR_iff x j j1).2 ⟨by rw [j2]; exact h2, by rw [j2]; exact j3⟩⟩
/-! ### Normalize -/
def errs (x : List Flt) : Option Int := (x.find? fun a => errF a != 0).map errF
def nrmF (x : List Flt) : Int × List Flt := if x.length = 0 then (9, []) else match errs x with
  | some e => (e, [])
  | none => limF (normP x)
theorem f25_L0_eq (x : List Flt) (K : Unit → Option (Int × List Flt)) (hx : x.length ≤ 65536) : ∀ c k n, n + c = x.length → c < k → f25_L0 x K k n = match errs (x.drop n) with | some e => some (e, []) | none => K ()
  | 0, k, n, hc, hk => by
    obtain ⟨k, rfl⟩ : ∃ q, k = q + 1 := ⟨k - 1, by omega⟩
    rw [f25_L0.eq_2, ifd_neg (by omega), List.drop_eq_nil_of_le (by omega)]
    rfl
  | c + 1, k, n, hc, hk => by
    obtain ⟨k, rfl⟩ : ∃ q, k = q + 1 := ⟨k - 1, by omega⟩
    rw [f25_L0.eq_2, ifd_pos (by omega), chk_pos (by omega), f42_eq, some_bind, getD_drop x n default (by omega)]
    unfold errs
    rw [List.find?_cons]
    by_cases h : errF (x.getD n default) = 0
    · rw [if_neg (by simpa using h), chk_pos (by omega), f25_L0_eq x K hx c k (n + 1) (by omega) (by omega)]
      have : (errF (x.getD n default) != 0) = false := by simpa using h
      rw [this]
      rfl
    · have : (errF (x.getD n default) != 0) = true := by simpa using h
      rw [if_pos this, this]
      rfl
theorem f26_L0_eq (x : List Flt) (K : Unit → Option (List Flt × Int)) (hx : x.length ≤ 65536) : ∀ c k n, n + c = x.length → c < k → f26_L0 x K k n = match errs (x.drop n) with | some e => some ([], e) | none => K ()
  | 0, k, n, hc, hk => by
    obtain ⟨k, rfl⟩ : ∃ q, k = q + 1 := ⟨k - 1, by omega⟩
    rw [f26_L0.eq_2, ifd_neg (by omega), List.drop_eq_nil_of_le (by omega)]
    rfl
  | c + 1, k, n, hc, hk => by
    obtain ⟨k, rfl⟩ : ∃ q, k = q + 1 := ⟨k - 1, by omega⟩
    rw [f26_L0.eq_2, ifd_pos (by omega), f44_eq, some_bind, chk_pos (by omega), getD_drop x n default (by omega)]
    unfold errs
    rw [List.find?_cons]
    by_cases h : errF (x.getD n default) = 0
    · rw [if_neg (by simpa using h), chk_pos (by omega), f26_L0_eq x K hx c k (n + 1) (by omega) (by omega)]
      have : (errF (x.getD n default) != 0) = false := by simpa using h
      rw [this]
      rfl
    · have : (errF (x.getD n default) != 0) = true := by simpa using h
      rw [if_pos this, this]
      rfl
theorem f52_eq (x : List Flt) : f52 x = some ((limF x).2, (limF x).1) := by
  unfold f52 limF
  by_cases h : x.length > 100
  · rw [ifd_pos (by omega), if_pos h]
  · rw [ifd_neg (by omega), if_neg h]
theorem f25_eq (x : List Flt) (hx : x.length ≤ 65536) : f25 x = some (nrmF x) := by
  unfold f25 nrmF
  by_cases h0 : x.length = 0
  · rw [if_pos (by simpa using h0), if_pos h0]
  · rw [if_neg (by simpa using h0), if_neg h0, jn_eq, f25_L0_eq x _ hx x.length FUEL 0 (by omega) (fuel_lt (by omega)), List.drop_zero]
    cases errs x with
    | some e => rfl
    | none =>
      dsimp only
      rw [f54_eq x hx]
      rfl
theorem f26_eq (x : List Flt) (hx : x.length ≤ 65536) : f26 x = some ((nrmF x).2, (nrmF x).1) := by
  unfold f26 nrmF
  by_cases h0 : x.length = 0
  · rw [if_pos (by simpa using h0), if_pos h0]
  · rw [if_neg (by simpa using h0), if_neg h0, jn_eq, f26_L0_eq x _ hx x.length FUEL 0 (by omega) (fuel_lt (by omega)), List.drop_zero]
    cases errs x with
    | some e => rfl
    | none =>
      dsimp only
      rw [f55_eq x hx, some_bind, f52_eq]
      rfl
end Go.Abs
