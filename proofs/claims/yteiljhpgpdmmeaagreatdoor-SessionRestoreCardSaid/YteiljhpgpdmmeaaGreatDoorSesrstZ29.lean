/- Part 29 of the proof: Chk49z, Res49b, Res49c, Res49d, Res49e, F49zLaw6. -/
import Derived.Test.YteiljhpgpdmmeaaGreatDoorSesrstZ28
namespace Go.Abs
open Go Go.Lib
def bad (x : List Pr) (n : Nat) : Bool :=
  ((((!gr (x.getD n (default : Pr)).1 64) || (!gr (x.getD n (default : Pr)).2.1 256)) || (decide ((x.getD n (default : Pr)).2.2 < (1 : Int)))) || (decide ((x.getD n (default : Pr)).2.2 > (1000000000000 : Int)))) || ((decide ((n : Int) > (0 : Int))) && (!(less ((x.getD ((((n : Int) - (1 : Int))).toNat) (default : Pr)).1) ((x.getD n (default : Pr)).1))))
theorem range_up {R : Type} (L : Nat → Nat → Option R) (m : Nat) (p : Nat → Bool) (r : Option R) (K : Option R)
    (h : ∀ k n, n < m → L (k + 1) n = if p n = true then r else L k (n + 1)) (he : ∀ k, L (k + 1) m = K) (k : Nat) (hk : m < k) : L k 0 = if (List.range m).any p = true then r else K :=
  any_up L (List.range m) 0 p r K (fun k n hn => by
    rw [List.length_range] at hn
    rw [h k n hn]
    simp [List.getD_eq_getElem?_getD, hn]) (fun k => by rw [List.length_range]; exact he k) k (by rw [List.length_range]; exact hk)
def vald (x : List Pr) : Int := if x.length > 64 then 3 else if (List.range x.length).any (bad x) = true then 1 else 0
def bndP (p : Pr) : Prop := p.1.length ≤ 9223372036854775807 ∧ p.2.1.length ≤ 9223372036854775807
theorem f89_eq (x : List Pr) (hb : ∀ p, p ∈ x → bndP p) : f89 x = some (vald x) := by
  unfold f89 vald
  by_cases hl : x.length > 64
  · rw [ifd_pos (by omega), if_pos hl]
  rw [ifd_neg (by omega), if_neg hl]
  simp only [jn]
  rw [range_up (fun q i => f89_L0 x (fun _ => some 0) q i) x.length (bad x) (some 1) (some 0) (fun q i hi => by
      obtain ⟨b1, b2⟩ := hb _ (getD_mem x i (default : Pr) hi)
      show f89_L0 _ _ (q + 1) i = _
      conv => lhs; unfold f89_L0
      rw [ifd_pos (by omega), chk_pos (by omega), f125_eq _ _ b1, some_bind, f125_eq _ _ b2]
      have e : ∀ (k : Bool → Option Int), (∀ r4, gr (x.getD i (default : Pr)).1 64 = false → k r4 = k (gr (x.getD i (default : Pr)).2.1 256)) → optc ((!gr (x.getD i (default : Pr)).1 64) == false) (some (gr (x.getD i (default : Pr)).2.1 256)) k = k (gr (x.getD i (default : Pr)).2.1 256) := by
        intro k hk
        cases hg : gr (x.getD i (default : Pr)).1 64
        · exact hk _ hg
        · rfl
      rw [e]
      · rw [chk_pos (fun _ => by omega), chk_pos (fun h => by simp only [Bool.and_eq_true, beq_iff_eq, decide_eq_true_eq] at h; omega), chk_pos (fun _ h1 h2 => by rw [h1, h2]; rfl), chk_pos (by omega)]
        rfl
      · intro r4 hg
        rw [hg]
        simp [chk]) (fun q => by
      show f89_L0 _ _ (q + 1) _ = _
      conv => lhs; unfold f89_L0
      rw [ifd_neg (by omega)]) FUEL (fuel_lt (by omega))]
  split <;> rfl
theorem f93_eq (x : List Pr) (hb : ∀ p, p ∈ x → bndP p) : f93 x = some (vald x) := by
  have e38 : ∀ s : List UInt8, s.length ≤ 9223372036854775807 → f117 s = some (gr s 64) := fun s hs => by unfold f117; rw [f126_eq s 64 hs]; rfl
  unfold f93 vald
  by_cases hl : x.length > 64
  · rw [ifd_pos (by omega), if_pos hl]
  rw [ifd_neg (by omega), if_neg hl]
  simp only [jn]
  rw [range_up (fun q i => f93_L0 x (fun _ => some 0) q i) x.length (bad x) (some 1) (some 0) (fun q i hi => by
      obtain ⟨b1, b2⟩ := hb _ (getD_mem x i (default : Pr) hi)
      show f93_L0 _ _ (q + 1) i = _
      conv => lhs; unfold f93_L0
      rw [ifd_pos (by omega), e38 _ b1, some_bind, f126_eq _ _ b2]
      have e : ∀ (k : Bool → Option Int), (∀ r4, gr (x.getD i (default : Pr)).1 64 = false → k r4 = k (gr (x.getD i (default : Pr)).2.1 256)) → optc ((!gr (x.getD i (default : Pr)).1 64) == false) (some (gr (x.getD i (default : Pr)).2.1 256)) k = k (gr (x.getD i (default : Pr)).2.1 256) := by
        intro k hk
        cases hg : gr (x.getD i (default : Pr)).1 64
        · exact hk _ hg
        · rfl
      rw [e]
      · rw [chk_pos (by omega), chk_pos (fun _ => by omega), chk_pos (fun _ => by omega), chk_pos (fun _ => by omega), chk_pos (fun _ => by omega), chk_pos (fun h => by simp only [Bool.and_eq_true, beq_iff_eq, decide_eq_true_eq] at h; omega), chk_pos (fun _ => by omega), chk_pos (fun _ h1 h2 => by rw [h1, h2]; rfl), chk_pos (by omega)]
        rfl
      · intro r4 hg
        rw [hg]
        simp [chk]) (fun q => by
      show f93_L0 _ _ (q + 1) _ = _
      conv => lhs; unfold f93_L0
      rw [ifd_neg (by omega)]) FUEL (fuel_lt (by omega))]
  split <;> rfl
theorem adj_pair : ∀ (l : List Pr), (∀ n, n + 1 < l.length → less (l.getD n (default : Pr)).1 (l.getD (n + 1) (default : Pr)).1 = true) → Srtd l
  | [], _ => .nil
  | [_], _ => by simp [Srtd]
  | a :: c :: l, h => by
    have ih := adj_pair (c :: l) fun n hn => by
      have := h (n + 1) (by simp at hn ⊢; omega)
      simpa using this
    have h0 : less a.1 c.1 = true := by simpa using h 0 (by simp)
    refine List.pairwise_cons.2 ⟨fun b hb => ?_, ih⟩
    rcases List.mem_cons.1 hb with rfl | hb
    · exact h0
    · exact less_trans h0 ((List.pairwise_cons.1 ih).1 b hb)
theorem stv_of {x : List Pr} (h : vald x = 0) : StV x := by
  unfold vald at h
  split at h
  · cases h
  rename_i hl
  split at h
  · cases h
  rename_i hb
  have hb : ∀ n, n < x.length → bad x n = false := by
    intro n hn
    cases e : bad x n
    · rfl
    · exact absurd (List.any_eq_true.2 ⟨n, List.mem_range.2 hn, e⟩) hb
  refine ⟨by omega, fun p hp => ?_, adj_pair x fun n hn => ?_⟩
  · obtain ⟨n, hn, rfl⟩ := List.getElem_of_mem hp
    have := hb n hn
    have e : x.getD n (default : Pr) = x[n] := by simp [List.getD_eq_getElem?_getD, hn]
    unfold bad at this
    rw [e] at this
    simp only [Bool.or_eq_false_iff, Bool.not_eq_false', decide_eq_false_iff_not] at this
    exact ⟨this.1.1.1.1, this.1.1.1.2, by omega, by omega⟩
  · have := hb (n + 1) hn
    unfold bad at this
    simp only [Bool.or_eq_false_iff, Bool.and_eq_false_iff, Bool.not_eq_false', decide_eq_false_iff_not] at this
    rcases this.2 with h | h
    · omega
    · have e : (((n + 1 : Nat) : Int) - 1).toNat = n := by omega
      rw [e] at h
      exact h
theorem vald_of {x : List Pr} (h : StV x) : vald x = 0 := by
  unfold vald
  rw [if_neg (by have := h.len; omega), if_neg]
  intro hb
  obtain ⟨n, hn, hb⟩ := List.any_eq_true.1 hb
  have hn := List.mem_range.1 hn
  obtain ⟨h1, h2, h3, h4⟩ := h.each _ (getD_mem x n (default : Pr) hn)
  unfold bad at hb
  rw [h1, h2] at hb
  simp only [Bool.not_true, Bool.false_or, Bool.or_eq_true, Bool.and_eq_true, decide_eq_true_eq, Bool.not_eq_true'] at hb
  rcases hb with (hb | hb) | ⟨hb1, hb2⟩
  · omega
  · omega
  · have e : ((n : Int) - 1).toNat = n - 1 := by omega
    rw [e] at hb2
    have h0 : n - 1 < x.length := by omega
    have := List.pairwise_iff_getElem.1 h.srt (n - 1) n h0 hn (by omega)
    have e1 : x.getD (n - 1) (default : Pr) = x[n - 1] := by simp [List.getD_eq_getElem?_getD, h0]
    have e2 : x.getD n (default : Pr) = x[n] := by simp [List.getD_eq_getElem?_getD, hn]
    rw [e1, e2, this] at hb2
    cases hb2
theorem stv_bnd {x : List Pr} (h : StV x) : ∀ p, p ∈ x → bndP p := fun p hp => by
  obtain ⟨h1, h2, _, _⟩ := h.each p hp
  have := gr_len h1; have := gr_len h2
  exact ⟨by omega, by omega⟩
/-! ### lines -/
def lineP (p : Pr) : List UInt8 := p.1 ++ [32] ++ itoa p.2.2 ++ [32] ++ p.2.1 ++ [10]
def txtL (l : List Pr) : List UInt8 := (l.map lineP).flatten
theorem txtL_cons (p : Pr) (l : List Pr) : txtL (p :: l) = lineP p ++ txtL l := rfl
theorem txtL_snoc (l : List Pr) (p : Pr) : txtL (l ++ [p]) = txtL l ++ lineP p := by unfold txtL; simp
theorem line_len {p : Pr} (h : okp p) : (lineP p).length ≤ 400 := by
  obtain ⟨h1, h2, h3, h4⟩ := h
  have := gr_len h1; have := gr_len h2; have := ilen (n := p.2.2) (by omega) (by omega)
  unfold lineP
  simp only [List.length_append, List.length_cons, List.length_nil]
  omega
theorem txtL_len : ∀ (l : List Pr), (∀ p, p ∈ l → okp p) → (txtL l).length ≤ 400 * l.length
  | [], _ => by simp [txtL]
  | p :: l, h => by
    have h1 := line_len (h p (List.mem_cons_self ..))
    have h2 := txtL_len l fun q hq => h q (List.mem_cons_of_mem _ hq)
    rw [txtL_cons, List.length_append, List.length_cons]; omega
theorem line_any {F : Int → Option (List UInt8)} {p : Pr} (h : okp p) (hF : F p.2.2 = some (itoa p.2.2)) :
    ((F p.2.2).bind fun (r4 : List UInt8) =>
  chk (p.1.length + ([32] : List UInt8).length ≤ 9223372036854775807) <|
  chk ((p.1 ++ ([32] : List UInt8)).length + r4.length ≤ 9223372036854775807) <|
  chk (((p.1 ++ ([32] : List UInt8)) ++ r4).length + ([32] : List UInt8).length ≤ 9223372036854775807) <|
  chk ((((p.1 ++ ([32] : List UInt8)) ++ r4) ++ ([32] : List UInt8)).length + p.2.1.length ≤ 9223372036854775807) <|
  chk (((((p.1 ++ ([32] : List UInt8)) ++ r4) ++ ([32] : List UInt8)) ++ p.2.1).length + ([10] : List UInt8).length ≤ 9223372036854775807) <|
  some (((((p.1 ++ ([32] : List UInt8)) ++ r4) ++ ([32] : List UInt8)) ++ p.2.1) ++ ([10] : List UInt8))) = some (lineP p) := by
  have hl := line_len h
  unfold lineP at hl ⊢
  simp only [List.length_append, List.length_cons, List.length_nil] at hl
  rw [hF, some_bind, chk_pos (by simp only [List.length_cons, List.length_nil]; omega), chk_pos (by simp only [List.length_append, List.length_cons, List.length_nil]; omega), chk_pos (by simp only [List.length_append, List.length_cons, List.length_nil]; omega), chk_pos (by simp only [List.length_append, List.length_cons, List.length_nil]; omega), chk_pos (by simp only [List.length_append, List.length_cons, List.length_nil]; omega)]
theorem f99_eq {p : Pr} (h : okp p) : f99 p.1 p.2.1 p.2.2 = some (lineP p) := by
  unfold f99
  exact line_any h (ito (by have := h.2.2.1; omega) (by have := h.2.2.2; omega))
theorem f127_eq {p : Pr} (h : okp p) : f127 p.1 p.2.1 p.2.2 = some (lineP p) := by
  unfold f127
  exact line_any h (dig (by have := h.2.2.1; omega) (by have := h.2.2.2; omega))
/-! ### chunks -/
def cks (s : Nat) : Nat → List Pr → List (List UInt8)
  | 0, _ => []
  | c + 1, l => if l = [] then [] else txtL (l.take s) :: cks s c (l.drop s)
theorem cks_nil (s c : Nat) : cks s c [] = [] := by cases c <;> simp [cks]
theorem cks_len (s : Nat) : ∀ (c : Nat) (l : List Pr), (cks s c l).length ≤ c
  | 0, l => by simp [cks]
  | c + 1, l => by
    unfold cks
    split
    · simp
    · have := cks_len s c (l.drop s)
      rw [List.length_cons]; omega
def addL (L : List (List UInt8)) (t : List UInt8) : List (List UInt8) := L.set (L.length - 1) (L.getD (L.length - 1) [] ++ t)
theorem addL_cons (a : List UInt8) {L : List (List UInt8)} (h : L ≠ []) (t : List UInt8) : addL (a :: L) t = a :: addL L t := by
  unfold addL
  cases L with
  | nil => exact absurd rfl h
  | cons b L => simp
theorem cks_ne {s c : Nat} {l : List Pr} (hl : l ≠ []) (hc : 0 < c) : cks s c l ≠ [] := by
  cases c with
  | zero => omega
  | succ c => unfold cks; rw [if_neg hl]; simp
theorem cks_snoc (s : Nat) (hs : 1 ≤ s) (x : Pr) : ∀ (c : Nat) (m : List Pr), m.length + 1 ≤ c → cks s c (m ++ [x]) = if m.length % s = 0 then cks s c m ++ [lineP x] else addL (cks s c m) (lineP x)
  | 0, m, h => by omega
  | c + 1, m, h => by
    conv => lhs; unfold cks
    rw [if_neg (by simp)]
    by_cases hm : m.length < s
    · rw [List.take_of_length_le (by simp; omega), List.drop_eq_nil_of_le (by simp; omega), cks_nil]
      by_cases h0 : m = []
      · subst h0
        rw [if_pos (by simp), cks_nil]
        simp [txtL]
      · have h1 : 0 < m.length := List.length_pos_iff.2 h0
        rw [if_neg (by rw [Nat.mod_eq_of_lt hm]; omega)]
        unfold cks
        rw [if_neg h0, List.take_of_length_le (by omega), List.drop_eq_nil_of_le (by omega), cks_nil, txtL_snoc]
        simp [addL]
    · have h0 : m ≠ [] := by rintro rfl; simp at hm; omega
      have ih := cks_snoc s hs x c (m.drop s) (by rw [List.length_drop]; omega)
      have hmod : (m.drop s).length % s = m.length % s := by
        rw [List.length_drop]
        exact (Nat.mod_eq_sub_mod (by omega)).symm
      rw [List.take_append_of_le_length (by omega), List.drop_append_of_le_length (by omega), ih, hmod]
      have e : cks s (c + 1) m = txtL (m.take s) :: cks s c (m.drop s) := by
        conv => lhs; unfold cks
        rw [if_neg h0]
      rw [e]
      by_cases h1 : m.length % s = 0
      · rw [if_pos h1, if_pos h1]; rfl
      · rw [if_neg h1, if_neg h1, addL_cons]
        refine cks_ne ?_ (by omega)
        intro e2
        rw [e2] at hmod
        simp at hmod
        omega
/-! ### the reference -/
theorem f95_L0_eq (x : List Pr) (hx : x.length ≤ 64) (ho : ∀ p, p ∈ x → okp p) (s : Nat) (hs : 1 ≤ s) (K : List (List UInt8) → Option (Int × List (List UInt8))) : ∀ (c k n : Nat), n + c = x.length → c < k →
    f95_L0 x (s : Int) K k (n, cks s 65 (x.take n)) = K (cks s 65 x)
  | 0, k, n, hn, hk => by
    obtain ⟨k, rfl⟩ : ∃ q, k = q + 1 := ⟨k - 1, by omega⟩
    rw [f95_L0.eq_2, ifd_neg (by omega), List.take_of_length_le (by omega)]
  | c + 1, k, n, hn, hk => by
    obtain ⟨k, rfl⟩ : ∃ q, k = q + 1 := ⟨k - 1, by omega⟩
    have ih := f95_L0_eq x hx ho s hs K c k (n + 1) (by omega) (by omega)
    have hp := ho _ (getD_mem x n (default : Pr) (by omega))
    have hll := line_len hp
    have hlt : (x.take n).length = n := by rw [List.length_take]; omega
    have ht : x.take (n + 1) = x.take n ++ [x.getD n default] := by
      rw [List.take_add_one]
      simp [List.getD_eq_getElem?_getD, show n < x.length by omega]
    have hsn := cks_snoc s hs (x.getD n default) 65 (x.take n) (by omega)
    rw [← ht, hlt] at hsn
    have hcl := cks_len s 65 (x.take n)
    have hmod : ((n : Int) % (s : Int) == 0) = decide (n % s = 0) := by
      rw [Bool.eq_iff_iff, beq_iff_eq, decide_eq_true_eq]
      omega
    -- all texts of chunks are short
    have hbig : ∀ (c : Nat) (l : List Pr), (∀ p, p ∈ l → okp p) → l.length ≤ 64 → ∀ t, t ∈ cks s c l → t.length ≤ 25600 := by
      intro c
      induction c with
      | zero => intro l _ _ t ht; cases ht
      | succ c ih2 =>
        intro l hl h64 t ht
        unfold cks at ht
        split at ht
        · cases ht
        · rcases List.mem_cons.1 ht with rfl | ht
          · have := txtL_len (l.take s) fun p hp => hl p (List.mem_of_mem_take hp)
            have h2 : (l.take s).length ≤ l.length := by rw [List.length_take]; omega
            omega
          · exact ih2 (l.drop s) (fun p hp => hl p (List.mem_of_mem_drop hp)) (by rw [List.length_drop]; omega) t ht
    have hold := hbig 65 (x.take n) (fun p hp => ho p (List.mem_of_mem_take hp)) (by omega)
    -- the last text grows by the line
    have step : ∀ L : List (List UInt8), L ≠ [] → L.length ≤ 66 → (∀ t, t ∈ L → t.length ≤ 25600) → (f127 ((x.getD n (default : List UInt8 × List UInt8 × Int)).1) ((x.getD n (default : List UInt8 × List UInt8 × Int)).2.1) ((x.getD n (default : List UInt8 × List UInt8 × Int)).2.2)).bind (fun (r7 : List UInt8) =>
        chk (-9223372036854775808 ≤ ((((L).length : Nat) : Int) - (1 : Int)) ∧ ((((L).length : Nat) : Int) - (1 : Int)) ≤ 9223372036854775807) <|
        chk (-9223372036854775808 ≤ ((((L).length : Nat) : Int) - (1 : Int)) ∧ ((((L).length : Nat) : Int) - (1 : Int)) ≤ 9223372036854775807) <|
        chk (0 ≤ ((((L).length : Nat) : Int) - (1 : Int)) ∧ ((((L).length : Nat) : Int) - (1 : Int)) < (((L).length : Nat) : Int)) <|
        chk (((((((L).length : Nat) : Int) - (1 : Int))).toNat) < (L).length) <|
        chk ((n : Int) < (((x).length : Nat) : Int)) <|
        chk ((L.getD ((((((L).length : Nat) : Int) - (1 : Int))).toNat) []).length + r7.length ≤ 9223372036854775807) <|
        chk (0 ≤ ((((L).length : Nat) : Int) - (1 : Int)) ∧ ((((L).length : Nat) : Int) - (1 : Int)) < (((L).length : Nat) : Int)) <|
        chk (((((((L).length : Nat) : Int) - (1 : Int))).toNat) < (L).length) <|
        chk (((n : Int) + (1 : Int)) ≤ 9223372036854775807) <|
        (f95_L0 x (s : Int) K k) ((n + 1), (L.set ((((((L).length : Nat) : Int) - (1 : Int))).toNat) ((L.getD ((((((L).length : Nat) : Int) - (1 : Int))).toNat) []) ++ r7)))) = f95_L0 x (s : Int) K k (n + 1, addL L (lineP (x.getD n default))) := by
      intro L hL h66 hb
      have h1 : 0 < L.length := List.length_pos_iff.2 hL
      have e : (((L.length : Nat) : Int) - 1).toNat = L.length - 1 := by omega
      have hlast := hb _ (getD_mem L (L.length - 1) [] (by omega))
      rw [f127_eq hp, some_bind, e, chk_pos (by omega), chk_pos (by omega), chk_pos (by omega), chk_pos (by omega), chk_pos (by omega), chk_pos (by omega), chk_pos (by omega), chk_pos (by omega), chk_pos (by omega)]
      rfl
    rw [f95_L0.eq_2, ifd_pos (by omega), jn_eq, chk_pos (by omega), hmod]
    by_cases h0 : n % s = 0
    · rw [if_pos (by simpa using h0), chk_pos (by omega)]
      refine (step (cks s 65 (x.take n) ++ [[]]) (by simp) (by simp; omega) (fun t ht => ?_)).trans ?_
      · rcases List.mem_append.1 ht with ht | ht
        · exact hold t ht
        · rw [List.mem_singleton] at ht; rw [ht]; simp
      · rw [if_pos h0] at hsn
        have e : addL (cks s 65 (x.take n) ++ [[]]) (lineP (x.getD n default)) = cks s 65 (x.take n) ++ [lineP (x.getD n default)] := by
          unfold addL
          simp
        rw [e, ← hsn, ih]
    · rw [if_neg (by simpa using h0)]
      have hne : cks s 65 (x.take n) ≠ [] := by
        refine cks_ne ?_ (by omega)
        intro e
        rw [e] at hlt
        simp at hlt
        rw [← hlt] at h0
        simp at h0
      refine (step _ hne (by omega) hold).trans ?_
      rw [if_neg h0] at hsn
      rw [← hsn, ih]
def chP (x : List Pr) (s : Int) : Int × List (List UInt8) := if vald x ≠ 0 then (vald x, []) else if s < 1 ∨ 64 < s then (7, []) else (0, cks s.toNat 65 x)
theorem f95_eq (x : List Pr) (s : Int) (hb : ∀ p, p ∈ x → bndP p) : f95 x s = some (chP x s) := by
  unfold f95 chP
  rw [f93_eq x hb, some_bind]
  by_cases hv : vald x = 0
  · have hS := stv_of hv
    rw [if_neg (show ¬ ((vald x != 0) = true) by simp [hv]), if_neg (show ¬ (vald x ≠ 0) by simp [hv])]
    by_cases hs : s < 1 ∨ 64 < s
    · rw [if_pos (by simpa using hs), if_pos hs]
    · rw [if_neg (by simpa using hs), if_neg hs, jn_eq]
      obtain ⟨m, rfl⟩ : ∃ m : Nat, s = m := ⟨s.toNat, by omega⟩
      have := f95_L0_eq x hS.len hS.each m (by omega) (fun l8 => some ((0 : Int), l8)) x.length FUEL 0 (by omega) (fuel_lt (by have := hS.len; omega))
      rw [List.take_zero, cks_nil] at this
      rw [this, Int.toNat_natCast]
  · rw [if_pos (by simpa using hv), if_pos hv]
/-! ### the program -/
theorem f57_L0_eq (x : List Pr) (hx : x.length ≤ 64) (ho : ∀ p, p ∈ x → okp p) {R : Type} (K : List UInt8 → Option (Nat × (List Pr × Int × List (List UInt8)))) : ∀ (c k n : Nat) (t : List UInt8), n + c = x.length → c < k → t.length ≤ 400 * n →
    f57_L0 x K k (t, n) = K (t ++ txtL (x.drop n))
  | 0, k, n, t, hn, hk, ht => by
    obtain ⟨k, rfl⟩ : ∃ q, k = q + 1 := ⟨k - 1, by omega⟩
    rw [f57_L0.eq_2, ifd_neg (by omega), List.drop_eq_nil_of_le (by omega)]
    simp [txtL]
  | c + 1, k, n, t, hn, hk, ht => by
    obtain ⟨k, rfl⟩ : ∃ q, k = q + 1 := ⟨k - 1, by omega⟩
    have hp := ho _ (getD_mem x n (default : Pr) (by omega))
    have hll := line_len hp
    have ih := f57_L0_eq x hx ho (R := R) K c k (n + 1) (t ++ lineP (x.getD n default)) (by omega) (by omega) (by rw [List.length_append]; omega)
    rw [f57_L0.eq_2, ifd_pos (by omega), chk_pos (by omega), f99_eq hp, some_bind, chk_pos (by omega), chk_pos (by omega), ih, getD_drop x n default (by omega), txtL_cons, List.append_assoc]
theorem f57_Y_eq (l : List Pr) (i : Int) (L : List (List UInt8)) (x : List Pr) (hx : x.length ≤ 64) (ho : ∀ p, p ∈ x → okp p) (hL : L.length ≤ 64) : f57_Y70001 (l, i, L) x = some (0, (l, i, L ++ [txtL x])) := by
  unfold f57_Y70001
  dsimp only
  rw [jn_eq]
  refine (f57_L0_eq x hx ho (R := Unit) _ x.length FUEL 0 [] (by omega) (fuel_lt (by omega)) (by simp)).trans ?_
  rw [List.drop_zero, List.nil_append, chk_pos (by omega)]
theorem f131_L0_eq (x : List Pr) (hx : x.length ≤ 64) (ho : ∀ p, p ∈ x → okp p) (s : Nat) (hs : 1 ≤ s) (hs2 : s ≤ 64) : ∀ (c k i : Nat) (L : List (List UInt8)), x.length - i ≤ c → i ≤ 128 → c < k → L.length ≤ i →
    f131_L0 f57_Y70001 k ((i : Int), (s : Int), x, L, 0) = some (0, x, (s : Int), L ++ cks s c (x.drop i))
  | c, k, i, L, hc, hi, hk, hL => by
    obtain ⟨k, rfl⟩ : ∃ q, k = q + 1 := ⟨k - 1, by omega⟩
    rw [f131_L0.eq_2]
    by_cases h : i < x.length
    · obtain ⟨c, rfl⟩ : ∃ q, c = q + 1 := ⟨c - 1, by omega⟩
      have ih := f131_L0_eq x hx ho s hs hs2 c k (i + s) (L ++ [txtL ((x.drop i).take s)]) (by omega) (by omega) (by omega) (by simp; omega)
      have e0 : ((i : Int)).toNat = i := Int.toNat_natCast i
      have hpart : (x.take (((i : Int) + (min (s : Int) (((x.length - i : Nat)) : Int))).toNat)).drop i = (x.drop i).take s := by
        rw [List.drop_take]
        rcases Nat.le_total s (x.length - i) with h1 | h1
        · rw [show ((i : Int) + (min (s : Int) (((x.length - i : Nat)) : Int))).toNat - i = s from by omega]
        · rw [List.take_of_length_le (by rw [List.length_drop]; omega), List.take_of_length_le (by rw [List.length_drop]; omega)]
      rw [ifd_pos (by omega), jn_eq, e0, chk_pos (by omega), chk_pos rfl, hpart, f57_Y_eq _ _ _ _ (by rw [List.length_take, List.length_drop]; omega) (fun p hp => ho p (List.mem_of_mem_drop (List.mem_of_mem_take hp))) (by omega), some_bind]
      dsimp only
      rw [if_pos rfl, chk_pos (by omega), chk_pos (by omega), chk_pos (by omega), if_neg (by simp), chk_pos (by omega)]
      have e1 : ((i : Int) + (s : Int)) = ((i + s : Nat) : Int) := by omega
      rw [e1, ih]
      have hne : x.drop i ≠ [] := by
        intro e
        have := congrArg List.length e
        rw [List.length_drop] at this
        simp at this
        omega
      have e2 : cks s (c + 1) (x.drop i) = txtL ((x.drop i).take s) :: cks s c ((x.drop i).drop s) := by
        conv => lhs; unfold cks
        rw [if_neg hne]
      rw [e2, List.drop_drop]
      simp
    · rw [ifd_neg (by omega), List.drop_eq_nil_of_le (by omega), cks_nil, List.append_nil]
theorem f57_eq (x : List Pr) (s : Int) (hb : ∀ p, p ∈ x → bndP p) : f57 x s = some (chP x s) := by
  unfold f57 chP
  rw [f89_eq x hb, some_bind]
  by_cases hv : vald x = 0
  · have hS := stv_of hv
    rw [if_neg (show ¬ ((vald x != 0) = true) by simp [hv]), if_neg (show ¬ (vald x ≠ 0) by simp [hv])]
    by_cases hs : s < 1 ∨ 64 < s
    · rw [if_pos (by simpa using hs), if_pos hs]
    · rw [if_neg (by simpa using hs), if_neg hs]
      obtain ⟨m, rfl⟩ : ∃ m : Nat, s = m := ⟨s.toNat, by omega⟩
      unfold f98 f131
      rw [ifd_neg (by omega), some_bind]
      dsimp only
      have := f131_L0_eq x hS.len hS.each m (by omega) (by omega) 65 FUEL 0 [] (by have := hS.len; omega) (by omega) (fuel_lt (by omega)) (by simp)
      rw [show ((0 : Nat) : Int) = (0 : Int) from rfl] at this
      rw [this, some_bind, chk_pos (by simp), if_pos rfl, List.drop_zero, List.nil_append, Int.toNat_natCast]
  · rw [if_pos (by simpa using hv), if_pos hv]
/-! ### the way back -/
def noLf (w : List UInt8) : Prop := ∀ b, b ∈ w → b ≠ 10
theorem gr_lf {s : List UInt8} {n : Int} (h : gr s n = true) : noLf s := by
  rintro c hc rfl
  unfold gr at h
  simp only [Bool.and_eq_true, Bool.not_eq_true', List.any_eq_false] at h
  have := h.1 10 hc
  exact this (by decide)
theorem dig_mem (n : Nat) : ∀ b, b ∈ decDigits n → 48 ≤ b.toNat ∧ b.toNat ≤ 57 := by
  induction n using Nat.strongRecOn with
  | ind n ih =>
    intro b hb
    by_cases h : n < 10
    · rw [decDigits, dif_pos h, List.mem_singleton] at hb
      rw [hb, dig_nat n h]; omega
    · rw [decDigits, dif_neg h] at hb
      rcases List.mem_append.1 hb with hb | hb
      · exact ih (n / 10) (by omega) b hb
      · rw [List.mem_singleton] at hb
        rw [hb, dig_nat (n % 10) (by omega)]; omega
theorem itoa_mem {n : Int} (h : 0 ≤ n) : ∀ b, b ∈ itoa n → 48 ≤ b.toNat ∧ b.toNat ≤ 57 := by
  rw [Lib.itoa, if_neg (by omega)]
  exact dig_mem _
theorem itoa_lf {n : Int} (h : 0 ≤ n) : noLf (itoa n) := by
  rintro b hb rfl
  exact absurd (itoa_mem h 10 hb).1 (by decide)
theorem itoa_sp {n : Int} (h : 0 ≤ n) : noSp (itoa n) := by
  rintro b hb rfl
  exact absurd (itoa_mem h 32 hb).1 (by decide)
theorem itoa_15 (n : Int) (h0 : 0 ≤ n) (h1 : n ≤ 1000000000000) : (itoa n).length ≤ 15 := by
  rw [Lib.itoa, if_neg (by omega)]
  obtain ⟨m, rfl⟩ : ∃ m : Nat, n = m := ⟨n.toNat, by omega⟩
  rw [Int.toNat_natCast]
  have : ∀ (k m : Nat), m < 10 ^ (k + 1) → (decDigits m).length ≤ k + 1 := by
    intro k
    induction k with
    | zero => intro m h; rw [decDigits, dif_pos (by omega)]; simp
    | succ k ih =>
      intro m h
      by_cases h' : m < 10
      · rw [decDigits, dif_pos h']; simp
      · rw [decDigits, dif_neg h', List.length_append]
        have := ih (m / 10) (by rw [Nat.pow_succ] at h; omega)
        simp only [List.length_cons, List.length_nil]
        omega
  exact this 14 m (by omega)
def wordP (p : Pr) : List UInt8 := p.1 ++ 32 :: (itoa p.2.2 ++ 32 :: p.2.1)
theorem line_word (p : Pr) : lineP p = wordP p ++ [10] := by unfold lineP wordP; simp
theorem word_lf {p : Pr} (h : okp p) : noLf (wordP p) := by
  obtain ⟨h1, h2, h3, h4⟩ := h
  intro b hb
  unfold wordP at hb
  simp only [List.mem_append, List.mem_cons] at hb
  rcases hb with hb | rfl | hb | rfl | hb
  · exact gr_lf h1 b hb
  · decide
  · exact itoa_lf (by omega) b hb
  · decide
  · exact gr_lf h2 b hb
theorem ixB_cons (b : UInt8) (l : List UInt8) (c : UInt8) : ixB (b :: l) c = if b == c then 0 else if ixB l c == -1 then -1 else ixB l c + 1 := by
  rw [← ixB_eq, ← ixB_eq]; rfl
theorem ixB_lf : ∀ (w r : List UInt8), noLf w → ixB (w ++ 10 :: r) 10 = (w.length : Int)
  | [], r, _ => by rw [List.nil_append, ixB_cons, if_pos (by rfl)]; rfl
  | b :: w, r, h => by
    rw [List.cons_append, ixB_cons, if_neg (by simpa using h b (List.mem_cons_self ..)), ixB_lf w r fun c hc => h c (List.mem_cons_of_mem _ hc), if_neg (by simp), List.length_cons]
    omega
theorem f124_eq (w : List UInt8) (hw : w.length ≤ 1000000) : f124 (w ++ [10]) [10] = some w := by
  have hl : (w ++ [10]).length = w.length + 1 := by simp
  have h1 : ([10] : List UInt8).length = 1 := rfl
  have e : (((((w ++ [10]).length : Nat) : Int) - ((([10] : List UInt8).length : Nat) : Int)).toNat) = w.length := by rw [hl, h1]; omega
  unfold f124 f148 f169
  rw [e, chk_pos (by intro; omega), chk_pos (by intro; omega), some_bind]
  have e2 : (decide ((((w ++ [10]).length : Nat) : Int) ≥ ((([10] : List UInt8).length : Nat) : Int)) && (w ++ [10]).drop w.length == [10]) = true := by
    rw [Bool.and_eq_true, decide_eq_true_eq, List.drop_left]
    exact ⟨by omega, by rfl⟩
  rw [e2, if_pos rfl, chk_pos (by omega), chk_pos (by omega), List.take_left]
  rfl
theorem f88_eq {p : Pr} (h : okp p) : f88 (lineP p) = some (p.1, p.2.1, p.2.2, true) := by
  have hl := line_len h
  have h16 := f99_eq h
  have hs : spl (wordP p) = [p.1, itoa p.2.2, p.2.1] := by
    unfold wordP
    rw [spl_app _ _ (gr_sp h.1), spl_app _ _ (itoa_sp (by have := h.2.2.1; omega)), spl_word _ (gr_sp h.2.1)]
  have h15 := itoa_15 p.2.2 (by have := h.2.2.1; omega) (by have := h.2.2.2; omega)
  have hat := atoiO_itoa p.2.2 (by have := h.2.2.1; omega) (by have := h.2.2.2; omega)
  have hwl : (wordP p).length ≤ 400 := by rw [line_word, List.length_append] at hl; simp at hl; omega
  have h21 : f63 (wordP p) [32] = some [p.1, itoa p.2.2, p.2.1] := by
    unfold f63 splitO
    rw [← hs, ← split_spl]
    exact if_pos (by omega)
  unfold f88
  rw [line_word p, f124_eq _ (by omega), some_bind, h21, some_bind, chk_pos (by intro; simp), chk_pos (by intro; simp)]
  have e1 : ([p.1, itoa p.2.2, p.2.1] : List (List UInt8)).getD 1 [] = itoa p.2.2 := rfl
  have e0 : ([p.1, itoa p.2.2, p.2.1] : List (List UInt8)).getD 0 [] = p.1 := rfl
  have e2 : ([p.1, itoa p.2.2, p.2.1] : List (List UInt8)).getD 2 [] = p.2.1 := rfl
  rw [e1, e0, e2, if_neg (by simp; omega)]
  unfold f103
  rw [hat, some_bind, chk_pos (by simp), chk_pos (by simp), chk_pos (by simp), chk_pos (by simp), chk_pos (by simp), chk_pos (by simp)]
  dsimp only
  rw [show ((!false) == true) = true from rfl]
  have e3 : (true = true) := rfl
  rw [optc_t, h16, some_bind, line_word p]
  simp
theorem f122_L0_eq (x : List Pr) (hx : x.length ≤ 64) (ho : ∀ p, p ∈ x → okp p) (e : Int) : ∀ (c k : Nat) (m L : List Pr), (∀ p, p ∈ m → okp p) → m.length ≤ c → c < k → L.length + m.length ≤ 64 →
    f122_L0 f49_Y70003 k (txtL m, e, L, 0) = some (0, e, L ++ m, [])
  | c, k, [], L, hm, hc, hk, hL => by
    obtain ⟨k, rfl⟩ : ∃ q, k = q + 1 := ⟨k - 1, by omega⟩
    rw [f122_L0.eq_2, ifd_neg (by simp [txtL]), List.append_nil]
    rfl
  | c, k, p :: m, L, hm, hc, hk, hL => by
    obtain ⟨k, rfl⟩ : ∃ q, k = q + 1 := ⟨k - 1, by omega⟩
    rw [List.length_cons] at hc hL
    obtain ⟨c, rfl⟩ : ∃ q, c = q + 1 := ⟨c - 1, by omega⟩
    have hp := hm p (List.mem_cons_self ..)
    have hll := line_len hp
    have hml := txtL_len m fun q hq => hm q (List.mem_cons_of_mem _ hq)
    have ih := f122_L0_eq x hx ho e c k m (L ++ [p]) (fun q hq => hm q (List.mem_cons_of_mem _ hq)) (by omega) (by omega) (by simp; omega)
    have hwl : (lineP p).length = (wordP p).length + 1 := by rw [line_word]; simp
    have hix : f123 (txtL (p :: m)) 10 = some ((wordP p).length : Int) := by
      unfold f123 ixbO
      rw [show (10 : Int).toNat.toUInt8 = 10 from rfl, txtL_cons, line_word, List.append_assoc]
      exact congrArg some (ixB_lf (wordP p) (txtL m) (word_lf hp))
    have hlen : (txtL (p :: m)).length = (wordP p).length + 1 + (txtL m).length := by rw [txtL_cons, List.length_append, hwl]
    have et : (((wordP p).length : Int) + 1).toNat = (lineP p).length := by omega
    rw [f122_L0.eq_2, ifd_pos (by omega), jn_eq, hix, some_bind, ifd_pos (by omega), chk_pos (by omega), chk_pos (by omega), chk_pos (by omega), chk_pos (by omega), et, txtL_cons, List.take_left, List.drop_left]
    dsimp only
    rw [chk_pos rfl]
    unfold f49_Y70003
    dsimp only
    rw [f88_eq hp, some_bind, if_neg (by simp), chk_pos (by omega), some_bind]
    dsimp only
    rw [if_pos rfl, if_neg (by simp)]
    refine ih.trans ?_
    simp
theorem cks_parts (s : Nat) (hs : 1 ≤ s) : ∀ (c : Nat) (l : List Pr), l.length ≤ c → ∃ ps : List (List Pr), cks s c l = ps.map txtL ∧ ps.flatten = l ∧ ∀ q, q ∈ ps → q ≠ []
  | 0, l, h => ⟨[], rfl, by rw [(List.length_eq_zero_iff.1 (by omega) : l = [])]; rfl, by simp⟩
  | c + 1, l, h => by
    unfold cks
    by_cases h0 : l = []
    · rw [if_pos h0]
      exact ⟨[], rfl, by rw [h0]; rfl, by simp⟩
    · rw [if_neg h0]
      have h1 : 0 < l.length := List.length_pos_iff.2 h0
      obtain ⟨ps, e1, e2, e3⟩ := cks_parts s hs c (l.drop s) (by rw [List.length_drop]; omega)
      refine ⟨l.take s :: ps, by rw [e1]; rfl, by rw [List.flatten_cons, e2, List.take_append_drop], fun q hq => ?_⟩
      rcases List.mem_cons.1 hq with rfl | hq
      · intro e
        rcases List.take_eq_nil_iff.1 e with e | e
        · omega
        · exact h0 e
      · exact e3 q hq
theorem f49_L0_eq (ps : List (List Pr)) (hl : ps.length ≤ 64) (hf : ps.flatten.length ≤ 64) (ho : ∀ q, q ∈ ps → q ≠ [] ∧ ∀ p, p ∈ q → okp p) (K : (Int × List Pr) → Option (List Pr × Int)) : ∀ (c k n : Nat) (L : List Pr), n + c = ps.length → c < k → L.length + (ps.drop n).flatten.length ≤ 64 →
    f49_L0 (ps.map txtL) K k (n, 0, L) = K (0, L ++ (ps.drop n).flatten)
  | 0, k, n, L, hn, hk, hL => by
    obtain ⟨k, rfl⟩ : ∃ q, k = q + 1 := ⟨k - 1, by omega⟩
    rw [f49_L0.eq_2, ifd_neg (by rw [List.length_map]; omega), List.drop_eq_nil_of_le (by omega)]
    simp
  | c + 1, k, n, L, hn, hk, hL => by
    obtain ⟨k, rfl⟩ : ∃ q, k = q + 1 := ⟨k - 1, by omega⟩
    have hd := getD_drop ps n [] (by omega)
    rw [hd, List.flatten_cons, List.length_append] at hL
    have hq := ho _ (getD_mem ps n [] (by omega))
    have ih := f49_L0_eq ps hl hf ho K c k (n + 1) (L ++ ps.getD n []) (by omega) (by omega) (by rw [List.length_append]; omega)
    have hg : (ps.map txtL).getD n [] = txtL (ps.getD n []) := by
      simp [List.getD_eq_getElem?_getD, show n < ps.length by omega]
    have hne : txtL (ps.getD n []) ≠ [] := by
      intro e
      cases hps : ps.getD n [] with
      | nil => exact hq.1 hps
      | cons p r =>
        rw [hps, txtL_cons, line_word] at e
        simp at e
    rw [f49_L0.eq_2, ifd_pos (by rw [List.length_map]; omega), chk_pos (by rw [List.length_map]; omega), hg, if_neg (by simpa using hne)]
    unfold f87 f122
    rw [some_bind, f122_L0_eq (ps.getD n []) (by omega) hq.2 0 64 FUEL (ps.getD n []) L hq.2 (by omega) (fuel_lt (by omega)) (by omega), some_bind]
    dsimp only
    rw [chk_pos (by simp), if_pos rfl, chk_pos (by omega), ih, hd, List.flatten_cons, List.append_assoc]
theorem f49_eq {x : List Pr} (hS : StV x) (s : Nat) (hs : 1 ≤ s) : f49 (cks s 65 x) = some (x, 0) := by
  obtain ⟨ps, e1, e2, e3⟩ := cks_parts s hs 65 x (by have := hS.len; omega)
  have hl := hS.len
  have hps : ps.length ≤ 64 := by
    have : ∀ (ps : List (List Pr)), (∀ q, q ∈ ps → q ≠ []) → ps.length ≤ ps.flatten.length := by
      intro ps
      induction ps with
      | nil => intro _; simp
      | cons q ps ih =>
        intro h
        have h1 : 0 < q.length := List.length_pos_iff.2 (h q (List.mem_cons_self ..))
        have h2 := ih fun r hr => h r (List.mem_cons_of_mem _ hr)
        rw [List.flatten_cons, List.length_append, List.length_cons]; omega
    have := this ps e3
    rw [e2] at this
    omega
  unfold f49
  rw [jn_eq, e1]
  refine (f49_L0_eq ps hps (by rw [e2]; omega) (fun q hq => ⟨e3 q hq, fun p hp => hS.each p (by rw [← e2]; exact List.mem_flatten_of_mem hq hp)⟩) _ ps.length FUEL 0 [] (by omega) (fuel_lt (by omega)) (by rw [List.drop_zero, e2]; simp; omega)).trans ?_
  rw [List.drop_zero, e2, List.nil_append]
  dsimp only
  rw [f89_eq x (stv_bnd hS), some_bind, vald_of hS, if_neg (by simp)]
end Go.Abs
namespace Go.Abs
open Go Go.Lib
def okS (q : Ss) : Prop := 0 ≤ q.1 ∧ q.1 < 6 ∧ 1 ≤ q.2.1 ∧ q.2.1 ≤ 1000000 ∧ q.2.2.length ≤ 400
def SvV (s : List Ss) : Prop := (∀ q, q ∈ s → okS q) ∧ s.Pairwise fun p q => p.1 < q.1
theorem SvV.nil : SvV [] := ⟨by simp, .nil⟩
theorem SvV.len {s : List Ss} (h : SvV s) : s.length ≤ 6 := by
  have := ses_len s 0 h.2 fun p hp => ⟨(h.1 p hp).1, (h.1 p hp).2.1⟩
  omega
theorem lastLt {s : List Ss} (h : SvV s) {c : Int} (hl : s ≠ [] → (s.getD (s.length - 1) default).1 < c) : ∀ p, p ∈ s → p.1 < c := by
  intro p hp
  obtain ⟨i, hi, rfl⟩ := List.getElem_of_mem hp
  have hne : s ≠ [] := by rintro rfl; simp at hi
  have := hl hne
  have e : s.getD (s.length - 1) default = s[s.length - 1] := by simp [List.getD_eq_getElem?_getD, show s.length - 1 < s.length by omega]
  rw [e] at this
  rcases Nat.lt_or_ge i (s.length - 1) with h1 | h1
  · have := List.pairwise_iff_getElem.1 h.2 i (s.length - 1) hi (by omega) h1
    omega
  · have : i = s.length - 1 := by omega
    subst this; assumption
theorem SvV.snoc {s : List Ss} (h : SvV s) {q : Ss} (hq : okS q) (hl : ∀ p, p ∈ s → p.1 < q.1) : SvV (s ++ [q]) := by
  refine ⟨fun p hp => ?_, List.pairwise_append.2 ⟨h.2, by simp, fun p hp r hr => ?_⟩⟩
  · rcases List.mem_append.1 hp with hp | hp
    · exact h.1 p hp
    · rw [List.mem_singleton] at hp; rw [hp]; exact hq
  · rw [List.mem_singleton] at hr; rw [hr]; exact hl p hp
theorem optc_bnd {α β : Type} [Inhabited α] {c : Bool} {a : α} {k : α → Option β} : optc c (some a) k = k (if c = true then a else default) := by
  cases c <;> rfl
theorem f86_some (s : List UInt8) (h : s.length ≤ 1000000) : ∃ v b, f86 s = some (v, b) := by
  obtain ⟨v, b, h1, h2, h3⟩ := atoiO_some s (by omega)
  unfold f86 f103
  rw [h1, some_bind]
  dsimp only
  rw [f56_eq v ⟨h2, h3⟩]
  cases b
  · exact ⟨_, _, rfl⟩
  · exact ⟨_, _, rfl⟩
theorem f86_itoa (n : Int) (h0 : 0 ≤ n) (h1 : n ≤ 1000000000) : f86 (itoa n) = some (n, true) := by
  unfold f86 f103
  rw [atoiO_itoa n h0 (by omega), some_bind]
  dsimp only
  rw [f56_eq n ⟨by omega, by omega⟩]
  simp [optc]
def lastC (s : List Ss) (c : Int) : Bool := decide (((s.length : Nat) : Int) > 0) && decide ((s.getD ((((s.length : Nat) : Int) - 1).toNat) default).1 ≥ c)
def fit (a b : Int) : Bool := (((decide (a ≥ (0 : Int))) && (decide (a < (6 : Int)))) && (decide (b ≥ (1 : Int)))) && (decide (b ≤ (1000000 : Int)))
theorem Y_eq (b : Bool) (L : List (List UInt8)) (i : Int) (s : List Ss) (A B C : List UInt8) (hs : s.length ≤ 1000) (v1 v2 : Int) (o1 o2 : Bool) (h1 : f86 A = some (v1, o1)) (h2 : f86 B = some (v2, o2)) :
    f48_Y70002 (b, L, i, s) [A, B, C] = some (if o1 = true ∧ o2 = true ∧ fit v1 v2 = true ∧ C.length ≤ 400 ∧ lastC s v1 = false then (0, (b, L, i, s ++ [(v1, v2, C)])) else (2, (false, L, i, s))) := by
  unfold f48_Y70002
  dsimp only
  have e0 : ([A, B, C] : List (List UInt8)).getD 0 [] = A := rfl
  have e1 : ([A, B, C] : List (List UInt8)).getD 1 [] = B := rfl
  have e2 : ([A, B, C] : List (List UInt8)).getD 2 [] = C := rfl
  have hl3 : ([A, B, C] : List (List UInt8)).length = 3 := rfl
  rw [e0, e1, e2, h1, some_bind, chk_pos (by rw [hl3]; omega), h2, some_bind, chk_pos (by rw [hl3]; omega)]
  unfold f34
  dsimp only
  rw [optc_bnd, chk_pos (by intro; rw [hl3]; omega), chk_pos (by
    intro h
    simp only [Bool.and_eq_true, beq_iff_eq, decide_eq_true_eq] at h
    have := h.2
    omega), chk_pos (by
    intro h
    simp only [Bool.and_eq_true, beq_iff_eq, decide_eq_true_eq] at h
    have := h.2
    omega), chk_pos (by
    intro h
    simp only [Bool.and_eq_true, beq_iff_eq, decide_eq_true_eq] at h
    have := h.2
    omega), chk_pos (by
    intro h3 _ h4
    rw [h3, h4]
    rfl)]
  have e3 : (if ((!o1 || !o2) == false) = true then fit v1 v2 else (default : Bool)) = (o1 && (o2 && fit v1 v2)) := by cases o1 <;> cases o2 <;> rfl
  change (if (!o1 || !o2 || !(if ((!o1 || !o2) == false) = true then fit v1 v2 else (default : Bool)) || decide (((C.length : Nat) : Int) > 400) || lastC s v1) = true then _ else _) = _
  rw [e3]
  by_cases hc : o1 = true ∧ o2 = true ∧ fit v1 v2 = true ∧ C.length ≤ 400 ∧ lastC s v1 = false
  · have hc' := hc
    obtain ⟨c1, c2, c3, c4, c5⟩ := hc'
    rw [if_pos hc, if_neg (by rw [c1, c2, c3, c5]; simp; omega), chk_pos (by rw [hl3]; omega), chk_pos (by omega)]
  · rw [if_neg hc, if_pos]
    cases o1
    · rfl
    · cases o2
      · rfl
      · cases hf : fit v1 v2
        · rfl
        · cases hl : lastC s v1
          · have : ¬ C.length ≤ 400 := fun h => hc ⟨rfl, rfl, hf, h, hl⟩
            simp; omega
          · simp
theorem drop3 (L : List (List UInt8)) (i : Nat) (h : i + 3 ≤ L.length) : (L.take (((i : Int) + (min (3 : Int) (((L.length - i : Nat)) : Int))).toNat)).drop i = [L.getD i [], L.getD (i + 1) [], L.getD (i + 2) []] := by
  have e : ((i : Int) + (min (3 : Int) (((L.length - i : Nat)) : Int))).toNat = i + 3 := by omega
  rw [e, List.drop_take, show i + 3 - i = 3 from by omega, getD_drop L i [] (by omega), getD_drop L (i + 1) [] (by omega), getD_drop L (i + 2) [] (by omega)]
  rfl
theorem f121_step (L : List (List UInt8)) (hL : L.length ≤ 1000000) (k i : Nat) (s : List Ss) (hs : s.length ≤ 1000) (h3 : i + 3 ≤ L.length) (v1 v2 : Int) (o1 o2 : Bool) (h1 : f86 (L.getD i []) = some (v1, o1)) (h2 : f86 (L.getD (i + 1) []) = some (v2, o2)) :
    f121_L0 f48_Y70002 (k + 1) ((i : Int), 3, L, false, s, 0) = if o1 = true ∧ o2 = true ∧ fit v1 v2 = true ∧ (L.getD (i + 2) []).length ≤ 400 ∧ lastC s v1 = false then f121_L0 f48_Y70002 k (((i + 3 : Nat) : Int), 3, L, false, s ++ [(v1, v2, L.getD (i + 2) [])], 0) else some (2, false, L, 3, s) := by
  have e0 : ((i : Int)).toNat = i := Int.toNat_natCast i
  rw [f121_L0.eq_2, ifd_pos (by omega), jn_eq, e0, chk_pos (by omega), chk_pos rfl, drop3 L i h3, Y_eq _ _ _ _ _ _ _ hs v1 v2 o1 o2 h1 h2, some_bind]
  by_cases hc : o1 = true ∧ o2 = true ∧ fit v1 v2 = true ∧ (L.getD (i + 2) []).length ≤ 400 ∧ lastC s v1 = false
  · rw [if_pos hc, if_pos hc]
    dsimp only
    rw [if_pos rfl, chk_pos (by omega), chk_pos (by omega), chk_pos (by omega), if_neg (by simp), chk_pos (by omega), show ((i : Int) + 3) = ((i + 3 : Nat) : Int) from by omega]
  · rw [if_neg hc, if_neg hc]
    dsimp only
    rw [if_neg (by decide), chk_pos (by omega), chk_pos (by omega), chk_pos (by omega), if_pos (by rfl)]
theorem fit_iff {a b : Int} (h : fit a b = true) : 0 ≤ a ∧ a < 6 ∧ 1 ≤ b ∧ b ≤ 1000000 := by
  unfold fit at h
  simp only [Bool.and_eq_true, decide_eq_true_eq] at h
  omega
theorem last_lt {s : List Ss} {c : Int} (h : lastC s c = false) : s ≠ [] → (s.getD (s.length - 1) default).1 < c := by
  intro hne
  have h1 : 0 < s.length := List.length_pos_iff.2 hne
  unfold lastC at h
  rw [show (((s.length : Nat) : Int) - 1).toNat = s.length - 1 from by omega, decide_eq_true (by omega : ((s.length : Nat) : Int) > 0), Bool.true_and, decide_eq_false_iff_not] at h
  omega
theorem f121_some (L : List (List UInt8)) (hL : L.length ≤ 1000000) (hs : ∀ s, s ∈ L → s.length ≤ 1000000) : ∀ (d k i : Nat) (s : List Ss), i + 3 * d = L.length → d < k → SvV s →
    ∃ s', f121_L0 f48_Y70002 k ((i : Int), 3, L, false, s, 0) = some (0, false, L, 3, s') ∧ SvV s' ∨ f121_L0 f48_Y70002 k ((i : Int), 3, L, false, s, 0) = some (2, false, L, 3, s')
  | 0, k, i, s, hi, hk, hv => by
    obtain ⟨k, rfl⟩ : ∃ z, k = z + 1 := ⟨k - 1, by omega⟩
    refine ⟨s, .inl ⟨?_, hv⟩⟩
    rw [f121_L0.eq_2, ifd_neg (by omega)]
  | d + 1, k, i, s, hi, hk, hv => by
    obtain ⟨k, rfl⟩ : ∃ z, k = z + 1 := ⟨k - 1, by omega⟩
    have hl := hv.len
    obtain ⟨v1, o1, h1⟩ := f86_some (L.getD i []) (hs _ (getD_mem L i [] (by omega)))
    obtain ⟨v2, o2, h2⟩ := f86_some (L.getD (i + 1) []) (hs _ (getD_mem L (i + 1) [] (by omega)))
    rw [f121_step L hL k i s (by omega) (by omega) v1 v2 o1 o2 h1 h2]
    by_cases hc : o1 = true ∧ o2 = true ∧ fit v1 v2 = true ∧ (L.getD (i + 2) []).length ≤ 400 ∧ lastC s v1 = false
    · rw [if_pos hc]
      obtain ⟨f1, f2, f3, f4⟩ := fit_iff hc.2.2.1
      exact f121_some L hL hs d k (i + 3) _ (by omega) (by omega) (hv.snoc ⟨f1, f2, f3, f4, hc.2.2.2.1⟩ (lastLt hv (last_lt hc.2.2.2.2)))
    · rw [if_neg hc]
      exact ⟨s, .inr rfl⟩
theorem f48_some (x : List UInt8) (hx : x.length ≤ 1000000) : ∃ s b, f48 x = some (s, b) ∧ (b = true → SvV s) := by
  obtain ⟨j, e, l, h1, h2, h3⟩ := f84_some x hx
  unfold f48
  rw [h1, some_bind, chk_pos (by intro; omega)]
  dsimp only
  by_cases hc : ((e != 0) || (j != ((x.length : Nat) : Int)) || ((((l.length % 3 : Nat)) : Int) != 0)) = true
  · rw [if_pos hc]
    exact ⟨_, _, rfl, fun h => by cases h⟩
  · rw [if_neg hc]
    have h0 : l.length % 3 = 0 := by
      simp only [Bool.or_eq_true, not_or, bne_iff_ne, ne_eq, Decidable.not_not] at hc
      omega
    unfold f85 f121
    rw [ifd_neg (by omega), some_bind]
    dsimp only
    obtain ⟨s', h⟩ := f121_some l (by omega) (fun s hs => by have := h2 s hs; omega) (l.length / 3) FUEL 0 [] (by omega) (fuel_lt (by omega)) SvV.nil
    rw [show ((0 : Nat) : Int) = (0 : Int) from rfl] at h
    rcases h with ⟨h, hv⟩ | h
    · rw [h, some_bind]
      dsimp only
      rw [chk_pos (by decide), if_pos rfl]
      exact ⟨_, _, rfl, fun _ => hv⟩
    · rw [h, some_bind]
      dsimp only
      rw [chk_pos (by decide), if_neg (by decide), if_pos rfl]
      exact ⟨_, _, rfl, fun h => by cases h⟩
theorem flt_getD : ∀ (a : List Ss) (q : Ss) (m : List Ss), (flt (a ++ q :: m)).drop (3 * a.length) = itoa q.1 :: itoa q.2.1 :: q.2.2 :: flt m
  | [], q, m => rfl
  | p :: a, q, m => by
    rw [List.cons_append, flt_cons, List.length_cons, show 3 * (a.length + 1) = 3 * a.length + 1 + 1 + 1 from by omega]
    exact flt_getD a q m
theorem getD_of_drop {α : Type} {L : List α} {i : Nat} {a b c : α} {r : List α} {d : α} (h : L.drop i = a :: b :: c :: r) : L.getD i d = a ∧ L.getD (i + 1) d = b ∧ L.getD (i + 2) d = c := by
  have e : ∀ j, L.getD (i + j) d = (L.drop i).getD j d := fun j => by simp [List.getD_eq_getElem?_getD, List.getElem?_drop]
  have e0 := e 0
  rw [Nat.add_zero] at e0
  rw [e0, e 1, e 2, h]
  exact ⟨rfl, rfl, rfl⟩
theorem f121_hit (s : List Ss) (hv : SvV s) : ∀ (m a : List Ss) (k : Nat), s = a ++ m → m.length < k → f121_L0 f48_Y70002 k (((3 * a.length : Nat) : Int), 3, flt s, false, a, 0) = some (0, false, flt s, 3, s)
  | [], a, k, hs, hk => by
    obtain ⟨k, rfl⟩ : ∃ z, k = z + 1 := ⟨k - 1, by omega⟩
    rw [List.append_nil] at hs
    subst hs
    rw [f121_L0.eq_2, ifd_neg (by rw [flt_len]; omega)]
  | q :: m, a, k, hs, hk => by
    obtain ⟨k, rfl⟩ : ∃ z, k = z + 1 := ⟨k - 1, by omega⟩
    rw [List.length_cons] at hk
    have hlen := hv.len
    have hl2 : s.length = a.length + (m.length + 1) := by rw [hs]; simp
    have ih := f121_hit s hv m (a ++ [q]) k (by rw [hs]; simp) (by omega)
    have hd := flt_getD a q m
    rw [← hs] at hd
    obtain ⟨g0, g1, g2⟩ := getD_of_drop (d := ([] : List UInt8)) hd
    have hq : okS q := hv.1 q (by rw [hs]; simp)
    obtain ⟨q1, q2, q3, q4, q5⟩ := hq
    have hlt : ∀ p, p ∈ a → p.1 < q.1 := fun p hp => by
      have := hv.2
      rw [hs] at this
      exact (List.pairwise_append.1 this).2.2 p hp q (List.mem_cons_self ..)
    rw [f121_step (flt s) (by rw [flt_len]; omega) k (3 * a.length) a (by omega) (by rw [flt_len]; omega) q.1 q.2.1 true true (by rw [g0]; exact f86_itoa q.1 q1 (by omega)) (by rw [g1]; exact f86_itoa q.2.1 (by omega) (by omega)), g2, if_pos]
    · rw [List.length_append] at ih
      exact ih
    · refine ⟨rfl, rfl, ?_, q5, ?_⟩
      · unfold fit
        simp only [Bool.and_eq_true, decide_eq_true_eq]
        omega
      · unfold lastC
        cases a with
        | nil => rfl
        | cons p a =>
          have := hlt ((p :: a).getD ((((p :: a).length : Nat) : Int) - 1).toNat default) (getD_mem _ _ _ (by simp))
          rw [Bool.and_eq_false_iff]
          right
          rw [decide_eq_false_iff_not]
          omega
theorem flt_small4 {s : List Ss} (hv : SvV s) : ∀ t, t ∈ flt s → t.length ≤ 400 := by
  intro t ht
  unfold flt at ht
  obtain ⟨q, hq, ht⟩ := List.mem_flatMap.1 ht
  obtain ⟨q1, q2, q3, q4, q5⟩ := hv.1 q hq
  simp only [List.mem_cons, List.not_mem_nil, or_false] at ht
  rcases ht with rfl | rfl | rfl
  · have := itoa_15 q.1 q1 (by omega); omega
  · have := itoa_15 q.2.1 (by omega) (by omega); omega
  · exact q5
theorem plist_flt {s : List Ss} (hv : SvV s) : (plist (flt s)).length ≤ 8000 := by
  have h1 := plist_len (flt s) 400 (by omega) (by rw [flt_len]; have := hv.len; omega) (flt_small4 hv)
  have h2 := hv.len
  rw [flt_len] at h1
  omega
theorem f48_hit {s : List Ss} (hv : SvV s) : f48 (plist (flt s)) = some (s, true) := by
  have hl := hv.len
  have h84 := f84_plist (flt s) (by rw [flt_len]; omega) (fun t ht => by have := flt_small4 hv t ht; omega) (by have := plist_flt hv; omega)
  unfold f48
  rw [h84, some_bind, chk_pos (by intro; omega)]
  dsimp only
  rw [if_neg (by rw [flt_len]; simp)]
  unfold f85 f121
  rw [ifd_neg (by omega), some_bind]
  dsimp only
  have h := f121_hit s hv s [] FUEL rfl (fuel_lt (by omega))
  rw [List.length_nil, Nat.mul_zero, show ((0 : Nat) : Int) = (0 : Int) from rfl] at h
  rw [h, some_bind]
  dsimp only
  rw [chk_pos (by decide), if_pos rfl]
/-! ### Chunks -/
def chR (l : List Pr) (s : List Ss) : List (List UInt8) := plist (flt s) :: cks 8 65 l
theorem f27_L0_eq (x : List Ss) (hv : SvV x) (K : List (List UInt8) → Option (List (List UInt8))) : ∀ (d k n : Nat) (a : List (List UInt8)), n + d = x.length → d < k → a.length ≤ 3 * n → f27_L0 x K k (n, a) = K (a ++ flt (x.drop n))
  | 0, k, n, a, hn, hk, ha => by
    obtain ⟨k, rfl⟩ : ∃ z, k = z + 1 := ⟨k - 1, by omega⟩
    rw [f27_L0.eq_2, ifd_neg (by omega), List.drop_eq_nil_of_le (by omega)]
    simp [flt]
  | d + 1, k, n, a, hn, hk, ha => by
    obtain ⟨k, rfl⟩ : ∃ z, k = z + 1 := ⟨k - 1, by omega⟩
    have hl := hv.len
    obtain ⟨q1, q2, q3, q4, q5⟩ := hv.1 _ (getD_mem x n default (by omega))
    have ih := f27_L0_eq x hv K d k (n + 1) (a ++ [itoa (x.getD n default).1, itoa (x.getD n default).2.1, (x.getD n default).2.2]) (by omega) (by omega) (by simp; omega)
    rw [f27_L0.eq_2, ifd_pos (by omega), chk_pos (by omega), f56_eq _ ⟨by omega, by omega⟩, some_bind, f56_eq _ ⟨by omega, by omega⟩, some_bind, chk_pos (by omega), chk_pos (by omega), ih, getD_drop x n default (by omega), flt_cons]
    simp
theorem chP8 {l : List Pr} (h : StV l) : chP l 8 = (0, cks 8 65 l) := by
  unfold chP
  rw [if_neg (by rw [vald_of h]; simp), if_neg (by omega)]
  rfl
theorem f27_eq {l : List Pr} {s : List Ss} (hl : StV l) (hv : SvV s) : f27 l s = some (chR l s) := by
  have h6 := hv.len
  have hp := plist_flt hv
  have hc := cks_len 8 65 l
  unfold f27
  rw [jn_eq, f27_L0_eq s hv _ s.length FUEL 0 [] (by omega) (fuel_lt (by omega)) (by simp), List.drop_zero, List.nil_append, f57_eq l 8 (stv_bnd hl), chP8 hl, some_bind, f58_eq (flt s) (by omega) (by rw [flt_len]; omega), some_bind]
  dsimp only
  rw [chk_pos (by omega)]
  rfl
end Go.Abs
namespace Go.Abs
open Go Go.Lib
theorem ixB_rng : ∀ (s : List UInt8) (c : UInt8), ixB s c = -1 ∨ ∃ n : Nat, n < s.length ∧ ixB s c = (n : Int)
  | [], c => .inl rfl
  | b :: s, c => by
    rw [ixB_cons]
    by_cases h : b = c
    · rw [if_pos (by simpa using h)]
      exact .inr ⟨0, by simp, rfl⟩
    · rw [if_neg (by simpa using h)]
      rcases ixB_rng s c with h | ⟨n, h1, h2⟩
      · rw [h]; exact .inl rfl
      · rw [h2, if_neg (by simp)]
        exact .inr ⟨n + 1, by simp; omega, by omega⟩
theorem f124_some (w : List UInt8) (hw : w.length ≤ 1000000) : ∃ u, f124 w [10] = some u ∧ u.length ≤ w.length := by
  have h1 : ([10] : List UInt8).length = 1 := rfl
  unfold f124 f148 f169
  rw [chk_pos (by intro h; rw [h1]; omega), chk_pos (by
    intro h
    rw [h1] at h ⊢
    simp only [beq_iff_eq, decide_eq_true_eq] at h
    omega), some_bind]
  by_cases hc : (decide (((w.length : Nat) : Int) ≥ ((([10] : List UInt8).length : Nat) : Int)) && w.drop ((((w.length : Nat) : Int) - ((([10] : List UInt8).length : Nat) : Int)).toNat) == [10]) = true
  · rw [if_pos hc]
    have hc2 := (Bool.and_eq_true _ _ ▸ hc).1
    rw [h1, decide_eq_true_eq] at hc2
    rw [h1, chk_pos (by omega), chk_pos (by omega)]
    exact ⟨_, rfl, by rw [List.length_take]; omega⟩
  · rw [if_neg hc]
    exact ⟨_, rfl, Nat.le_refl _⟩
theorem f99_some (a b : List UInt8) (n : Int) (ha : a.length ≤ 1000000) (hb : b.length ≤ 1000000) (hn : -9223372036854775808 ≤ n ∧ n ≤ 9223372036854775807) : ∃ t, f99 a b n = some t := by
  have := itoa_length_le n hn.1 hn.2
  unfold f99
  rw [f56_eq n hn, some_bind, chk_pos (by simp only [List.length_cons, List.length_nil]; omega), chk_pos (by simp only [List.length_append, List.length_cons, List.length_nil]; omega), chk_pos (by simp only [List.length_append, List.length_cons, List.length_nil]; omega), chk_pos (by simp only [List.length_append, List.length_cons, List.length_nil]; omega), chk_pos (by simp only [List.length_append, List.length_cons, List.length_nil]; omega)]
  exact ⟨_, rfl⟩
theorem f88_some (w : List UInt8) (hw : w.length ≤ 1000000) : ∃ a b n f, f88 w = some (a, b, n, f) ∧ a.length ≤ w.length ∧ b.length ≤ w.length := by
  obtain ⟨u, h1, h2⟩ := f124_some w hw
  unfold f88
  rw [h1, some_bind, f63_eq u (by omega), some_bind, chk_pos (by
    intro h
    simp only [beq_iff_eq, bne_eq_false_iff_eq] at h
    omega), chk_pos (by
    intro h
    simp only [beq_iff_eq, bne_eq_false_iff_eq] at h
    omega)]
  have hm := spl_mem u
  generalize spl u = r at hm ⊢
  by_cases hc : ((((r.length : Nat) : Int) != 3) || decide ((((r.getD 1 []).length : Nat) : Int) > 15)) = true
  · rw [if_pos hc]
    exact ⟨_, _, _, _, rfl, by simp, by simp⟩
  · rw [if_neg hc]
    have h3 : r.length = 3 := by
      simp only [Bool.or_eq_true, not_or, bne_iff_ne, ne_eq, Decidable.not_not] at hc
      omega
    have l0 := hm _ (getD_mem r 0 [] (by omega))
    have l1 := hm _ (getD_mem r 1 [] (by omega))
    have l2 := hm _ (getD_mem r 2 [] (by omega))
    obtain ⟨v, b, e1, e2, e3⟩ := atoiO_some (r.getD 1 []) (by omega)
    obtain ⟨t, ht⟩ := f99_some (r.getD 0 []) (r.getD 2 []) v (by omega) (by omega) ⟨e2, e3⟩
    unfold f103
    rw [e1, some_bind, chk_pos (by omega), chk_pos (by omega), chk_pos (by omega), chk_pos (by omega), chk_pos (by omega), chk_pos (by omega)]
    dsimp only
    rw [ht]
    rw [optc_bnd]
    exact ⟨_, _, _, _, rfl, by omega, by omega⟩
def bndL (l : List Pr) : Prop := ∀ p, p ∈ l → p.1.length ≤ 1000000 ∧ p.2.1.length ≤ 1000000
theorem bndL.bnd {l : List Pr} (h : bndL l) : ∀ p, p ∈ l → bndP p := fun p hp => ⟨by have := (h p hp).1; omega, by have := (h p hp).2; omega⟩
theorem bndL.snoc {l : List Pr} (h : bndL l) {p : Pr} (h1 : p.1.length ≤ 1000000) (h2 : p.2.1.length ≤ 1000000) : bndL (l ++ [p]) := by
  intro q hq
  rcases List.mem_append.1 hq with hq | hq
  · exact h q hq
  · rw [List.mem_singleton] at hq; rw [hq]; exact ⟨h1, h2⟩
theorem Y3_eq (e : Int) (l : List Pr) (s w : List UInt8) (hl : l.length ≤ 1000000) {a b : List UInt8} {n : Int} {f : Bool} (h : f88 w = some (a, b, n, f)) : f49_Y70003 (e, l, s) w = some (if f = true then (0, (e, l ++ [(a, b, n)], s)) else (2, (2, l, s))) := by
  unfold f49_Y70003
  dsimp only
  rw [h, some_bind]
  dsimp only
  cases f
  · rfl
  · rw [if_neg (by simp), chk_pos (by omega)]
    rfl
theorem f122_step (s : List UInt8) (e : Int) (l : List Pr) (k : Nat) (hs : s ≠ []) (hl : s.length ≤ 1000000) : ∃ w r : List UInt8, w.length ≤ s.length ∧ r.length < s.length ∧
    f122_L0 f49_Y70003 (k + 1) (s, e, l, 0) = (f49_Y70003 (e, l, r) w).bind fun r11 => if r11.1 = 0 then f122_L0 f49_Y70003 k (r11.2.2.2, r11.2.1, r11.2.2.1, 0) else some (r11.1, r11.2.1, r11.2.2.1, r11.2.2.2) := by
  have h1 : 0 < s.length := List.length_pos_iff.2 hs
  rcases ixB_rng s 10 with h | ⟨n, h2, h⟩
  · refine ⟨s, [], Nat.le_refl _, h1, ?_⟩
    rw [f122_L0.eq_2, ifd_pos (by omega), jn_eq]
    unfold f123 ixbO
    rw [some_bind, show (10 : Int).toNat.toUInt8 = 10 from rfl, h, ifd_neg (by omega)]
    dsimp only
    rw [chk_pos rfl]
    congr 1
  · refine ⟨s.take (n + 1), s.drop (n + 1), by rw [List.length_take]; omega, by rw [List.length_drop]; omega, ?_⟩
    rw [f122_L0.eq_2, ifd_pos (by omega), jn_eq]
    unfold f123 ixbO
    rw [some_bind, show (10 : Int).toNat.toUInt8 = 10 from rfl, h, ifd_pos (by omega), chk_pos (by omega), chk_pos (by omega), chk_pos (by omega), chk_pos (by omega), show ((n : Int) + 1).toNat = n + 1 from by omega]
    dsimp only
    rw [chk_pos rfl]
    congr 1
theorem f122_some : ∀ (c k : Nat) (s : List UInt8) (l : List Pr), s.length ≤ c → c < k → s.length ≤ 1000000 → bndL l → l.length + s.length ≤ 1000000 →
    (∃ l', f122_L0 f49_Y70003 k (s, 0, l, 0) = some (0, 0, l', []) ∧ bndL l' ∧ l'.length ≤ l.length + s.length) ∨ ∃ l' s', f122_L0 f49_Y70003 k (s, 0, l, 0) = some (2, 2, l', s')
  | c, k, s, l, hc, hk, hs, hb, hl => by
    obtain ⟨k, rfl⟩ : ∃ z, k = z + 1 := ⟨k - 1, by omega⟩
    by_cases h0 : s = []
    · subst h0
      refine .inl ⟨l, ?_, hb, by simp⟩
      rw [f122_L0.eq_2, ifd_neg (by simp)]
    · have h1 : 0 < s.length := List.length_pos_iff.2 h0
      obtain ⟨c, rfl⟩ : ∃ z, c = z + 1 := ⟨c - 1, by omega⟩
      obtain ⟨w, r, hw, hr, hst⟩ := f122_step s 0 l k h0 hs
      obtain ⟨a, b, n, f, h88, ha, hb2⟩ := f88_some w (by omega)
      rw [hst, Y3_eq 0 l r w (by omega) h88, some_bind]
      cases f
      · rw [if_neg (by simp)]
        exact .inr ⟨_, _, rfl⟩
      · rw [if_pos rfl]
        dsimp only
        rw [if_pos rfl]
        have hb3 : bndL (l ++ [(a, b, n)]) := hb.snoc (p := (a, b, n)) (by dsimp only; omega) (by dsimp only; omega)
        have hll : (l ++ [(a, b, n)]).length = l.length + 1 := by simp
        rcases f122_some c k r (l ++ [(a, b, n)]) (by omega) (by omega) (by omega) hb3 (by omega) with ⟨l', g1, g2, g3⟩ | ⟨l', s', g⟩
        · exact .inl ⟨l', g1, g2, by omega⟩
        · exact .inr ⟨l', s', g⟩
theorem f49_L0_some (x : List (List UInt8)) (hx : ∀ s, s ∈ x → s.length ≤ 1000) (hl : x.length ≤ 15) (K : (Int × List Pr) → Option (List Pr × Int)) : ∀ (c k n : Nat) (l : List Pr), n + c = x.length → c < k → bndL l → l.length ≤ 1000 * n →
    (∃ l', f49_L0 x K k (n, 0, l) = K (0, l') ∧ bndL l' ∧ l'.length ≤ 15000) ∨ f49_L0 x K k (n, 0, l) = some ([], 2)
  | 0, k, n, l, hn, hk, hb, hll => by
    obtain ⟨k, rfl⟩ : ∃ z, k = z + 1 := ⟨k - 1, by omega⟩
    refine .inl ⟨l, ?_, hb, by omega⟩
    rw [f49_L0.eq_2, ifd_neg (by omega)]
  | c + 1, k, n, l, hn, hk, hb, hll => by
    obtain ⟨k, rfl⟩ : ∃ z, k = z + 1 := ⟨k - 1, by omega⟩
    have hs := hx _ (getD_mem x n [] (by omega))
    rw [f49_L0.eq_2, ifd_pos (by omega), chk_pos (by omega)]
    by_cases h0 : x.getD n [] = []
    · rw [if_pos (by simpa using h0)]
      exact .inr rfl
    · rw [if_neg (by simpa using h0)]
      unfold f87 f122
      rw [some_bind]
      rcases f122_some 1000 FUEL (x.getD n []) l hs (fuel_lt (by omega)) (by omega) hb (by omega) with ⟨l', g1, g2, g3⟩ | ⟨l', s', g⟩
      · rw [g1, some_bind]
        dsimp only
        rw [chk_pos (by decide), if_pos rfl, chk_pos (by omega)]
        exact f49_L0_some x hx hl K c k (n + 1) l' (by omega) (by omega) g2 (by omega)
      · rw [g, some_bind]
        dsimp only
        rw [chk_pos (by decide), if_neg (by decide), if_pos rfl]
        exact .inr rfl
theorem f49_some (x : List (List UInt8)) (hx : ∀ s, s ∈ x → s.length ≤ 1000) (hl : x.length ≤ 15) : ∃ l e, f49 x = some (l, e) ∧ (e = 0 → StV l) := by
  unfold f49
  rw [jn_eq]
  rcases f49_L0_some x hx hl (fun p => match p with | (i12, l13) => (f89 l13).bind fun r14 => if (r14 != 0) = true then some ([], r14) else some (l13, 0)) x.length FUEL 0 [] (by omega) (fuel_lt (by omega)) (by intro p hp; cases hp) (by simp) with ⟨l', g1, g2, g3⟩ | g
  · refine ⟨if vald l' = 0 then l' else [], vald l', ?_, fun h => ?_⟩
    · refine g1.trans ?_
      dsimp only
      rw [f89_eq l' g2.bnd, some_bind]
      by_cases h : vald l' = 0
      · rw [if_neg (by simp [h]), if_pos h, h]
      · rw [if_pos (by simpa using h), if_neg h]
    · rw [if_pos h]; exact stv_of h
  · exact ⟨_, _, g, fun h => absurd h (by decide)⟩
/-! ### equality of lists of texts -/
theorem same_up (L : List (List UInt8) → List (List UInt8) → (Unit → Option Bool) → Nat → Nat → Option Bool)
    (h : ∀ x y K k n, n < x.length → n < y.length → x.length ≤ 1000000 → L x y K (k + 1) n = if x.getD n [] = y.getD n [] then L x y K k (n + 1) else some false)
    (he : ∀ x y K k, L x y K (k + 1) x.length = K ()) (x y : List (List UInt8)) (hx : x.length ≤ 1000000) (hxy : x.length = y.length) (K : Unit → Option Bool) : ∀ c k n, n + c = x.length → c < k → L x y K k n = if x.drop n = y.drop n then K () else some false
  | 0, k, n, hn, hk => by
    obtain ⟨k, rfl⟩ : ∃ q, k = q + 1 := ⟨k - 1, by omega⟩
    obtain rfl : n = x.length := by omega
    rw [he, List.drop_eq_nil_of_le (Nat.le_refl _), List.drop_eq_nil_of_le (by omega), if_pos rfl]
  | c + 1, k, n, hn, hk => by
    obtain ⟨k, rfl⟩ : ∃ q, k = q + 1 := ⟨k - 1, by omega⟩
    have ih := same_up L h he x y hx hxy K c k (n + 1) (by omega) (by omega)
    rw [h x y K k n (by omega) (by omega) hx, getD_drop x n [] (by omega), getD_drop y n [] (by omega)]
    by_cases e : x.getD n [] = y.getD n []
    · rw [if_pos e, ih, e]
      simp
    · rw [if_neg e, if_neg]
      intro e2
      exact e (List.cons.inj e2).1
theorem f50_eq (x y : List (List UInt8)) (hx : x.length ≤ 1000000) : f50 x y = some (decide (x = y)) := by
  unfold f50
  by_cases h : x.length = y.length
  · rw [if_neg (by simp; omega), jn_eq, same_up f50_L0 (fun x y K k n h1 h2 h3 => by
      rw [f50_L0.eq_2, ifd_pos (by omega), chk_pos (by omega), chk_pos (by omega)]
      by_cases e : x.getD n [] = y.getD n []
      · rw [if_neg (by rw [e]; simp), if_pos e, chk_pos (by omega)]
      · rw [if_pos (by simpa using e), if_neg e]) (fun x y K k => by rw [f50_L0.eq_2, ifd_neg (by omega)]) x y hx h _ x.length FUEL 0 (by omega) (fuel_lt (by omega)), List.drop_zero, List.drop_zero]
    by_cases e : x = y
    · rw [if_pos e, decide_eq_true e]
    · rw [if_neg e, decide_eq_false e]
  · rw [if_pos (by simp; omega), decide_eq_false (fun e => h (by rw [e]))]
theorem f26_eq (x y : List (List UInt8)) (hx : x.length ≤ 1000000) : f26 x y = some (decide (x = y)) := by
  unfold f26
  by_cases h : x.length = y.length
  · rw [if_neg (by simp; omega), jn_eq, same_up f26_L0 (fun x y K k n h1 h2 h3 => by
      rw [f26_L0.eq_2, ifd_pos (by omega), chk_pos (by omega), chk_pos (by omega)]
      by_cases e : x.getD n [] = y.getD n []
      · rw [if_neg (by rw [e]; simp), if_pos e, chk_pos (by omega)]
      · rw [if_pos (by simpa using e), if_neg e]) (fun x y K k => by rw [f26_L0.eq_2, ifd_neg (by omega)]) x y hx h _ x.length FUEL 0 (by omega) (fuel_lt (by omega)), List.drop_zero, List.drop_zero]
    by_cases e : x = y
    · rw [if_pos e, decide_eq_true e]
    · rw [if_neg e, decide_eq_false e]
  · rw [if_pos (by simp; omega), decide_eq_false (fun e => h (by rw [e]))]
theorem chR_len (l : List Pr) (s : List Ss) : (chR l s).length ≤ 66 := by
  have := cks_len 8 65 l
  unfold chR
  rw [List.length_cons]; omega
/-! ### the program's Restore -/
theorem f23_hit {l : List Pr} {s : List Ss} (hl : StV l) (hv : SvV s) : f23 (chR l s) = some (l, s, 0) := by
  have h27 := f27_eq hl hv
  have hlen := chR_len l s
  have h50 := f50_eq (chR l s) (chR l s) (by omega)
  have h1 : 0 < (chR l s).length := by unfold chR; simp
  unfold f23
  rw [if_neg (by rw [beq_iff_eq]; omega)]
  have e0 : (chR l s).getD 0 [] = plist (flt s) := rfl
  have e1 : (chR l s).drop 1 = cks 8 65 l := rfl
  rw [e0, e1, f48_hit hv, some_bind, chk_pos (by omega), f49_eq hl 8 (by omega), some_bind, chk_pos (by omega)]
  dsimp only
  rw [if_neg (by simp), h27, some_bind, h50, some_bind, decide_eq_true rfl, if_neg (by simp)]
theorem f23_miss (x : List (List UInt8)) (hx : ∀ s, s ∈ x → s.length ≤ 1000) (hl : x.length ≤ 15) (h : ∀ l s, StV l → SvV s → chR l s ≠ x) : f23 x = some ([], [], 2) := by
  unfold f23
  by_cases h0 : x.length = 0
  · rw [if_pos (by simp [h0])]
  · rw [if_neg (by rw [beq_iff_eq]; omega)]
    obtain ⟨s, b, h48, hv⟩ := f48_some (x.getD 0 []) (by have := hx _ (getD_mem x 0 [] (by omega)); omega)
    obtain ⟨l, e, h49, hS⟩ := f49_some (x.drop 1) (fun s hs => hx s (List.mem_of_mem_drop hs)) (by rw [List.length_drop]; omega)
    rw [h48, some_bind, chk_pos (by omega), h49, some_bind, chk_pos (by omega)]
    dsimp only
    by_cases hc : (!b || e != 0) = true
    · rw [if_pos hc]
    · rw [if_neg hc]
      simp only [Bool.or_eq_true, Bool.not_eq_true', bne_iff_ne, ne_eq, not_or, Bool.not_eq_false, Decidable.not_not] at hc
      have hl2 := hS hc.2
      have hv2 := hv hc.1
      have hlen := chR_len l s
      rw [f27_eq hl2 hv2, some_bind, f50_eq _ _ (by omega), some_bind, decide_eq_false (h l s hl2 hv2), if_pos (by rfl)]
end Go.Abs
namespace Go.Abs
open Go Go.Lib
theorem p128 {n : Nat} (h : n ≤ 9) : 1 ≤ 128 ^ n ∧ 128 ^ n ≤ 9223372036854775808 ∧ (n ≤ 8 → 128 ^ n ≤ 72057594037927936) := by
  refine ⟨(Nat.pow_pos (by decide) : 0 < 128 ^ n), ?_, fun h8 => ?_⟩
  · have : 128 ^ n ≤ 128 ^ 9 := Nat.pow_le_pow_right (by decide) h
    omega
  · have : 128 ^ n ≤ 128 ^ 8 := Nat.pow_le_pow_right (by decide) h8
    omega
theorem f90_more (x : List UInt8) (_hx : x.length ≤ 1000000) (K : Unit → Option (Int × Int × Int)) (k n : Nat) (i m : Int) (hn : n < x.length ∧ n < 10) {c : Nat} (hc : (x.getD n 0).toNat = c) (h8 : 128 ≤ c) (h256 : c < 256) :
    f90_L0 x K (k + 1) (i, m, n) = f90_L0 x K k (IntKind.wrap .u64 (i + IntKind.wrap .u64 (((c - 128 : Nat) : Int) * m)), IntKind.wrap .u64 (m * 128), n + 1) := by
  rw [f90_L0.eq_2, if_pos (by simp; omega), hc, chk_pos (by omega), chk_pos (by omega), ifd_pos (by omega), chk_pos (by omega), chk_pos (by omega), show (((c : Nat) : Int) - 128) = ((c - 128 : Nat) : Int) from by omega]
theorem f90_last (x : List UInt8) (_hx : x.length ≤ 1000000) (K : Unit → Option (Int × Int × Int)) (k n : Nat) (i m : Int) (hn : n < x.length ∧ n < 10) {c : Nat} (hc : (x.getD n 0).toNat = c) (h8 : c < 128) :
    f90_L0 x K (k + 1) (i, m, n) = if n = 9 ∧ 1 < c then some (0, 0, 7) else if c = 0 ∧ 0 < n then some (0, 0, 2) else chk (0 ≤ (c : Int) * m ∧ (c : Int) * m ≤ 18446744073709551615) (chk (0 ≤ i + (c : Int) * m ∧ i + (c : Int) * m ≤ 18446744073709551615) (some (i + (c : Int) * m, ((n + 1 : Nat) : Int), 0))) := by
  rw [f90_L0.eq_2, if_pos (by simp; omega), hc, chk_pos (by omega), chk_pos (by omega), ifd_neg (by omega)]
  by_cases h1 : n = 9 ∧ 1 < c
  · rw [if_pos h1, if_pos (by simp; omega)]
  · rw [if_neg h1, if_neg (by simp; omega)]
    by_cases h2 : c = 0 ∧ 0 < n
    · rw [if_pos h2, if_pos (by simp; omega)]
    · rw [if_neg h2, if_neg (by simp; omega), chk_pos (show ((n : Int) + 1) ≤ 9223372036854775807 by omega)]
theorem f90_end (x : List UInt8) (K : Unit → Option (Int × Int × Int)) (k n : Nat) (i m : Int) (hn : ¬ (n < x.length ∧ n < 10)) : f90_L0 x K (k + 1) (i, m, n) = K () := by
  rw [f90_L0.eq_2, if_neg (by simp; omega)]
theorem f90_L0_some (x : List UInt8) (hx : x.length ≤ 1000000) (K : Unit → Option (Int × Int × Int)) (hK : ∃ e, K () = some (0, 0, e) ∧ e ≠ 0) : ∀ (c k n : Nat) (i m : Int), n + c = min x.length 10 → c < k → (n ≤ 9 → m = ((128 ^ n : Nat) : Int) ∧ 0 ≤ i ∧ i < m) →
    ∃ v j e, f90_L0 x K k (i, m, n) = some (v, j, e) ∧ (e = 0 → 0 ≤ v ∧ v ≤ 18446744073709551615 ∧ 1 ≤ j ∧ j ≤ (x.length : Int))
  | 0, k, n, i, m, hn, hk, hm => by
    obtain ⟨k, rfl⟩ : ∃ z, k = z + 1 := ⟨k - 1, by omega⟩
    obtain ⟨e, h1, h2⟩ := hK
    rw [f90_end x K k n i m (by omega), h1]
    exact ⟨_, _, _, rfl, fun h => absurd h h2⟩
  | c + 1, k, n, i, m, hn, hk, hm => by
    obtain ⟨k, rfl⟩ : ∃ z, k = z + 1 := ⟨k - 1, by omega⟩
    obtain ⟨rfl, hi0, him⟩ := hm (by omega)
    obtain ⟨p1, p2, p3⟩ := p128 (n := n) (by omega)
    have hsucc : 128 ^ (n + 1) = 128 ^ n * 128 := Nat.pow_succ ..
    have h256 : (x.getD n 0).toNat < 256 := (x.getD n 0).toNat_lt
    generalize hb : (x.getD n 0).toNat = b at h256
    by_cases h8 : 128 ≤ b
    · rw [f90_more x hx K k n i _ (by omega) hb h8 h256]
      refine f90_L0_some x hx K hK c k (n + 1) _ _ (by omega) (by omega) fun h9 => ?_
      have p3' := p3 (by omega)
      have hq : (b - 128) * 128 ^ n ≤ 127 * 128 ^ n := Nat.mul_le_mul_right _ (by omega)
      rw [hsucc, ← Int.natCast_mul]
      generalize 128 ^ n = p at *
      generalize (b - 128) * p = q at *
      rw [wrap_in (k := .u64) (show 0 ≤ ((q : Nat) : Int) ∧ ((q : Nat) : Int) ≤ 18446744073709551615 by omega), wrap_in (k := .u64) (show 0 ≤ i + ((q : Nat) : Int) ∧ i + ((q : Nat) : Int) ≤ 18446744073709551615 by omega), wrap_in (k := .u64) (show 0 ≤ ((p : Nat) : Int) * 128 ∧ ((p : Nat) : Int) * 128 ≤ 18446744073709551615 by omega)]
      refine ⟨by omega, by omega, by omega⟩
    · rw [f90_last x hx K k n i _ (by omega) hb (by omega)]
      by_cases h1 : n = 9 ∧ 1 < b
      · rw [if_pos h1]; exact ⟨_, _, _, rfl, fun h => absurd h (by decide)⟩
      · rw [if_neg h1]
        by_cases h2 : b = 0 ∧ 0 < n
        · rw [if_pos h2]; exact ⟨_, _, _, rfl, fun h => absurd h (by decide)⟩
        · rw [if_neg h2, ← Int.natCast_mul]
          have hq : b * 128 ^ n ≤ 9223372036854775808 := by
            by_cases h9 : n = 9
            · have : b * 128 ^ n ≤ 1 * 128 ^ n := Nat.mul_le_mul_right _ (by omega)
              omega
            · have : b * 128 ^ n ≤ 127 * 128 ^ n := Nat.mul_le_mul_right _ (by omega)
              have := p3 (by omega)
              omega
          generalize 128 ^ n = p at *
          generalize b * p = q at *
          rw [chk_pos (by omega), chk_pos (by omega)]
          exact ⟨_, _, _, rfl, fun _ => ⟨by omega, by omega, by omega, by omega⟩⟩
theorem f90_some (x : List UInt8) (hx : x.length ≤ 1000000) : ∃ v j e, f90 x = some (v, j, e) ∧ (e = 0 → 0 ≤ v ∧ v ≤ 18446744073709551615 ∧ 1 ≤ j ∧ j ≤ (x.length : Int)) := by
  unfold f90
  rw [jn_eq]
  refine f90_L0_some x hx _ ?_ (min x.length 10) FUEL 0 0 1 (by omega) (fuel_lt (by omega)) (fun _ => ⟨by simp, by omega, by omega⟩)
  by_cases h : x.length < 10
  · exact ⟨9, by rw [ifd_pos (by omega)], by decide⟩
  · exact ⟨7, by rw [ifd_neg (by omega)], by decide⟩
theorem f90_vint (n : Nat) (r : List UInt8) (hn : n < 16384) (hx : (vint n ++ r).length ≤ 1000000) : f90 (vint n ++ r) = some ((n : Int), ((vint n).length : Int), 0) := by
  obtain ⟨k, hk⟩ : ∃ k, FUEL = k + 2 := ⟨FUEL - 2, by unfold FUEL; omega⟩
  unfold f90
  rw [jn_eq, hk]
  by_cases h : n < 128
  · rw [vint_lt h] at hx ⊢
    have e2 : (([UInt8.ofNat n] ++ r).getD 0 0).toNat = n := by
      have : ([UInt8.ofNat n] ++ r).getD 0 0 = UInt8.ofNat n := rfl
      rw [this]; simp [UInt8.toNat_ofNat']; omega
    rw [f90_last _ hx _ (k + 1) 0 0 1 ⟨by simp, by omega⟩ e2 h, if_neg (by omega), if_neg (by omega), chk_pos (by omega), chk_pos (by omega)]
    simp
  · rw [vint_ge h, vint_lt (show n / 128 < 128 by omega)] at hx ⊢
    generalize hy : UInt8.ofNat (n % 128 + 128) :: [UInt8.ofNat (n / 128)] ++ r = y at hx ⊢
    have e0 : (y.getD 0 0).toNat = n % 128 + 128 := by rw [← hy]; simp [UInt8.toNat_ofNat']; omega
    have e1 : (y.getD 1 0).toNat = n / 128 := by rw [← hy]; simp [UInt8.toNat_ofNat']; omega
    have hl : 2 ≤ y.length := by rw [← hy]; simp
    rw [f90_more y hx _ (k + 1) 0 0 1 (by omega) e0 (by omega) (by omega)]
    have ew : IntKind.wrap .u64 (0 + IntKind.wrap .u64 (((n % 128 + 128 - 128 : Nat) : Int) * 1)) = ((n % 128 : Nat) : Int) := by
      rw [Int.mul_one, show n % 128 + 128 - 128 = n % 128 from by omega, wrap_in (k := .u64) (show 0 ≤ ((n % 128 : Nat) : Int) ∧ ((n % 128 : Nat) : Int) ≤ 18446744073709551615 by omega), Int.zero_add]
      exact wrap_in (k := .u64) (show 0 ≤ ((n % 128 : Nat) : Int) ∧ ((n % 128 : Nat) : Int) ≤ 18446744073709551615 by omega)
    have em : IntKind.wrap .u64 (1 * 128) = 128 := wrap_in (k := .u64) (show 0 ≤ (1 * 128 : Int) ∧ (1 * 128 : Int) ≤ 18446744073709551615 by omega)
    rw [ew, em, f90_last y hx _ k 1 _ 128 (by omega) e1 (by omega), if_neg (by omega), if_neg (by omega), chk_pos (by omega), chk_pos (by omega)]
    have : ((n % 128 : Nat) : Int) + ((n / 128 : Nat) : Int) * 128 = (n : Int) := by omega
    rw [this]
    rfl
theorem f91_some (x : List UInt8) (hx : x.length ≤ 1000000) : ∃ s j e, f91 x = some (s, j, e) ∧ (e = 0 → 1 ≤ j ∧ j ≤ (x.length : Int) ∧ s.length ≤ x.length) := by
  obtain ⟨v, j, e, h, hb⟩ := f90_some x hx
  unfold f91
  rw [h, some_bind]
  by_cases he : e = 0
  · subst he
    obtain ⟨h1, h2, h3, h4⟩ := hb rfl
    rw [if_neg (by simp)]
    dsimp only
    rw [chk_pos (by omega), chk_pos (by omega)]
    by_cases hv : v > (x.length : Int) - j
    · rw [ifd_pos hv]
      exact ⟨_, _, _, rfl, fun h => by cases h⟩
    · rw [ifd_neg hv, chk_pos (by omega), chk_pos (by omega), chk_pos (by omega), chk_pos (by omega), chk_pos (by omega)]
      refine ⟨_, _, _, rfl, fun _ => ⟨by omega, by omega, ?_⟩⟩
      simp only [List.length_drop, List.length_take]
      omega
  · rw [if_pos (by simpa using he)]
    exact ⟨_, _, _, rfl, fun h => absurd h he⟩
theorem f91_item (s r : List UInt8) (hs : s.length < 16384) (hx : (item s ++ r).length ≤ 1000000) : f91 (item s ++ r) = some (s, ((item s).length : Int), 0) := by
  unfold item at hx ⊢
  rw [List.append_assoc] at hx ⊢
  unfold f91
  rw [f90_vint s.length (s ++ r) hs hx, some_bind]
  have hl : (vint s.length ++ (s ++ r)).length = (vint s.length).length + (s.length + r.length) := by simp
  have hl2 : (vint s.length ++ s).length = (vint s.length).length + s.length := by simp
  rw [if_neg (by simp)]
  dsimp only
  rw [chk_pos (by omega), chk_pos (by omega), ifd_neg (by omega), chk_pos (by omega), chk_pos (by omega), chk_pos (by omega), chk_pos (by omega), chk_pos (by omega)]
  have e : ((vint s.length).length : Int) + (s.length : Int) = (((vint s.length).length + s.length : Nat) : Int) := by omega
  rw [e, Int.toNat_natCast, Int.toNat_natCast, ← List.append_assoc, ← hl2, List.take_left, List.drop_left]
theorem f51_L0_some (x : List UInt8) (hx : x.length ≤ 1000000) (r2 : Int × Int × Int) (K : Int × List (List UInt8) → Option (Int × Int × List (List UInt8))) (hK : ∀ i l, ∃ j e l', K (i, l) = some (j, e, l') ∧ l' = l) :
    ∀ (c k i : Nat) (l : List (List UInt8)), i + c = x.length → c < k → l.length ≤ i → (∀ s, s ∈ l → s.length ≤ x.length) → ∃ j e l', f51_L0 x r2 K k ((i : Int), l) = some (j, e, l') ∧ (∀ s, s ∈ l' → s.length ≤ x.length) ∧ l'.length ≤ x.length := by
  intro c
  induction c using Nat.strongRecOn with
  | ind c ih =>
    intro k i l hi hk hl hs
    obtain ⟨k, rfl⟩ : ∃ z, k = z + 1 := ⟨k - 1, by omega⟩
    by_cases hr : (l.length : Int) < r2.1
    · obtain ⟨s, j, e, h, hb⟩ := f91_some (x.drop i) (by rw [List.length_drop]; omega)
      rw [List.length_drop] at hb
      rw [f51_L0.eq_2, chk_pos (by omega), ifd_pos hr, Int.toNat_natCast, h, some_bind, chk_pos (by omega)]
      dsimp only
      by_cases he : e = 0
      · subst he
        obtain ⟨h1, h2, h3⟩ := hb rfl
        rw [if_neg (by simp), chk_pos (by omega), chk_pos (by omega)]
        obtain ⟨m, rfl⟩ : ∃ m : Nat, j = m := ⟨j.toNat, by omega⟩
        have := ih (c - m) (by omega) k (i + m) (l ++ [s]) (by omega) (by omega) (by simp; omega) (fun t ht => by
          rcases List.mem_append.1 ht with ht | ht
          · exact hs t ht
          · simp only [List.mem_singleton] at ht
            subst ht; omega)
        simpa using this
      · rw [if_pos (by simpa using he)]
        exact ⟨_, _, _, rfl, by simp, by simp⟩
    · obtain ⟨j, e, l', h, rfl⟩ := hK i l
      refine ⟨j, e, l', ?_, hs, by omega⟩
      rw [f51_L0.eq_2, chk_pos (by omega), ifd_neg hr]
      exact h
theorem f51_some (x : List UInt8) (hx : x.length ≤ 1000000) : ∃ j e l, f51 x = some (j, e, l) ∧ (∀ s, s ∈ l → s.length ≤ x.length) ∧ l.length ≤ x.length := by
  obtain ⟨v, j, e, h, hb⟩ := f90_some x hx
  unfold f51
  rw [h, some_bind]
  by_cases he : e = 0
  · subst he
    obtain ⟨h1, h2, h3, h4⟩ := hb rfl
    rw [if_neg (by simp), jn_eq]
    obtain ⟨m, rfl⟩ : ∃ m : Nat, j = m := ⟨j.toNat, by omega⟩
    exact f51_L0_some x hx _ _ (fun i l => ⟨i, 0, l, rfl, rfl⟩) (x.length - m) FUEL m [] (by omega) (fuel_lt (by omega)) (by simp) (by simp)
  · rw [if_pos (by simpa using he)]
    exact ⟨_, _, _, rfl, by simp, by simp⟩
theorem f51_L0_items (x : List UInt8) (hx : x.length ≤ 1000000) (r2 : Int × Int × Int) (K : Int × List (List UInt8) → Option (Int × Int × List (List UInt8))) (L : List (List UInt8)) (hr : r2.1 = (L.length : Int)) :
    ∀ (M : List (List UInt8)) (A : List UInt8) (D : List (List UInt8)) (k : Nat), (∀ s, s ∈ M → s.length < 16384) → x = A ++ items M → L = D ++ M → D.length ≤ A.length → M.length < k → f51_L0 x r2 K k ((A.length : Int), D) = K ((x.length : Int), L)
  | [], A, D, k, _, hxe, hL, _, hk => by
    obtain ⟨k, rfl⟩ : ∃ z, k = z + 1 := ⟨k - 1, by omega⟩
    have e1 : x.length = A.length := by rw [hxe]; simp [items]
    have e2 : L = D := by rw [hL]; simp
    rw [f51_L0.eq_2, chk_pos (by omega), ifd_neg (by rw [hr, e2]; omega), e1, e2]
  | s :: M, A, D, k, hM, hxe, hL, hD, hk => by
    obtain ⟨k, rfl⟩ : ∃ z, k = z + 1 := ⟨k - 1, by omega⟩
    simp only [List.length_cons] at hk
    have hl : L.length = D.length + (M.length + 1) := by rw [hL]; simp
    have e1 : x.drop A.length = item s ++ items M := by rw [hxe, List.drop_left, items_cons]
    have hxl : x.length = A.length + ((item s).length + (items M).length) := by rw [hxe, items_cons]; simp
    have h := f91_item s (items M) (hM s (List.mem_cons_self ..)) (by rw [← e1, List.length_drop]; omega)
    have hp := item_pos s
    have ih := f51_L0_items x hx r2 K L hr M (A ++ item s) (D ++ [s]) k (fun t ht => hM t (List.mem_cons_of_mem _ ht)) (by rw [hxe, items_cons]; simp) (by rw [hL]; simp) (by
      simp only [List.length_append, List.length_singleton]
      omega) (by omega)
    rw [f51_L0.eq_2, chk_pos (by omega), ifd_pos (by rw [hr]; omega), Int.toNat_natCast, e1, h, some_bind, chk_pos (by omega), if_neg (by simp)]
    dsimp only
    rw [chk_pos (by omega), chk_pos (by omega), ← ih]
    simp
theorem f51_plist (L : List (List UInt8)) (hL : L.length < 16384) (hs : ∀ s, s ∈ L → s.length < 16384) (hx : (plist L).length ≤ 1000000) : f51 (plist L) = some (((plist L).length : Int), 0, L) := by
  unfold f51
  rw [plist_items] at hx ⊢
  rw [f90_vint L.length (items L) hL hx, some_bind, if_neg (by simp), jn_eq]
  exact f51_L0_items (vint L.length ++ items L) hx ((L.length : Int), ((vint L.length).length : Int), 0) _ L rfl L (vint L.length) [] FUEL hs rfl rfl (Nat.zero_le _) (fuel_lt (by omega))
/-! ### writing -/
theorem f128_vint (n : Nat) (hn : n < 16384) : f128 (n : Int) = some (vint n) := by
  obtain ⟨k, hk⟩ : ∃ k, FUEL = k + 2 := ⟨FUEL - 2, by unfold FUEL; omega⟩
  unfold f128
  rw [jn_eq, hk]
  by_cases h : n < 128
  · rw [f128_L0.eq_2, ifd_neg (by omega)]
    dsimp only
    rw [chk_pos (by omega), chk_pos (by simp), vint_lt h]
    rfl
  · rw [f128_L0.eq_2, ifd_pos (by omega), chk_pos (by omega), chk_pos (by omega), chk_pos (by omega), chk_pos (by simp), chk_pos (by omega), f128_L0.eq_2, ifd_neg (by omega)]
    dsimp only
    rw [chk_pos (by omega), chk_pos (by simp), vint_ge h, vint_lt (show n / 128 < 128 by omega)]
    have e1 : (128 + (n : Int) % 128).toNat = n % 128 + 128 := by omega
    have e2 : ((n : Int) / 128).toNat = n / 128 := by omega
    rw [← e1, ← e2]
    rfl
theorem f129_item (s : List UInt8) (hs : s.length < 16384) : f129 s = some (item s) := by
  have hv := vint_len 1 s.length (by omega)
  unfold f129
  rw [f128_vint _ hs, some_bind, chk_pos (by omega), chk_pos (by omega)]
  rfl
theorem item_len (s : List UInt8) (hs : s.length < 16384) : (item s).length ≤ s.length + 2 := by
  have hv := vint_len 1 s.length (by omega)
  unfold item
  rw [List.length_append]; omega
theorem f96_L0_eq (x : List (List UInt8)) (hx : ∀ s, s ∈ x → s.length ≤ 400) (hl : x.length ≤ 25) (K : List UInt8 → Option (List UInt8)) : ∀ c k n s, n + c = x.length → c < k → s.length ≤ 2 + 402 * n → f96_L0 x K k (s, n) = K (s ++ items (x.drop n))
  | 0, k, n, s, hn, hk, hs => by
    obtain ⟨k, rfl⟩ : ∃ z, k = z + 1 := ⟨k - 1, by omega⟩
    rw [f96_L0.eq_2, ifd_neg (by omega), List.drop_eq_nil_of_le (by omega)]
    simp [items]
  | c + 1, k, n, s, hn, hk, hs => by
    obtain ⟨k, rfl⟩ : ∃ z, k = z + 1 := ⟨k - 1, by omega⟩
    have hxn := hx _ (getD_mem x n [] (by omega))
    have hil := item_len (x.getD n []) (by omega)
    have ih := f96_L0_eq x hx hl K c k (n + 1) (s ++ item (x.getD n [])) (by omega) (by omega) (by rw [List.length_append]; omega)
    rw [f96_L0.eq_2, ifd_pos (by omega), f129_item _ (by omega), some_bind, chk_pos (by omega), chk_pos (by omega), chk_pos (by omega), ih, getD_drop x n [] (by omega), items_cons, List.append_assoc]
theorem f96_eq (x : List (List UInt8)) (hx : ∀ s, s ∈ x → s.length ≤ 400) (hl : x.length ≤ 25) : f96 x = some (plist x) := by
  have hv := vint_len 1 x.length (by omega)
  unfold f96
  rw [f128_vint _ (by omega), some_bind, chk_pos (by omega), jn_eq]
  have := f96_L0_eq x hx hl (fun s6 => some s6) x.length FUEL 0 (vint x.length) (by omega) (fuel_lt (by omega)) (by omega)
  rw [List.drop_zero] at this
  exact this
/-! ### the specification's Chunks -/
theorem f55_L0_eq (x : List Ss) (hv : SvV x) (K : List (List UInt8) → Option (List (List UInt8))) : ∀ (d k n : Nat) (a : List (List UInt8)), n + d = x.length → d < k → a.length ≤ 3 * n → f55_L0 x K k (n, a) = K (a ++ flt (x.drop n))
  | 0, k, n, a, hn, hk, ha => by
    obtain ⟨k, rfl⟩ : ∃ z, k = z + 1 := ⟨k - 1, by omega⟩
    rw [f55_L0.eq_2, ifd_neg (by omega), List.drop_eq_nil_of_le (by omega)]
    simp [flt]
  | d + 1, k, n, a, hn, hk, ha => by
    obtain ⟨k, rfl⟩ : ∃ z, k = z + 1 := ⟨k - 1, by omega⟩
    have hl := hv.len
    obtain ⟨q1, q2, q3, q4, q5⟩ := hv.1 _ (getD_mem x n default (by omega))
    have ih := f55_L0_eq x hv K d k (n + 1) (a ++ [itoa (x.getD n default).1, itoa (x.getD n default).2.1, (x.getD n default).2.2]) (by omega) (by omega) (by simp; omega)
    rw [f55_L0.eq_2, ifd_pos (by omega), chk_pos (by omega), f56_eq _ ⟨by omega, by omega⟩, some_bind, f56_eq _ ⟨by omega, by omega⟩, some_bind, chk_pos (by omega), chk_pos (by omega), ih, getD_drop x n default (by omega), flt_cons]
    simp
theorem f55_eq {l : List Pr} {s : List Ss} (hl : StV l) (hv : SvV s) : f55 l s = some (chR l s) := by
  have h6 := hv.len
  have hc := cks_len 8 65 l
  unfold f55
  rw [jn_eq, f55_L0_eq s hv _ s.length FUEL 0 [] (by omega) (fuel_lt (by omega)) (by simp), List.drop_zero, List.nil_append, f95_eq l 8 (stv_bnd hl), chP8 hl, some_bind, f96_eq (flt s) (flt_small4 hv) (by rw [flt_len]; omega), some_bind]
  dsimp only
  rw [chk_pos (by omega)]
  rfl
end Go.Abs
namespace Go.Abs
open Go Go.Lib
/-! ### numbers -/
theorem p10 {n m : Nat} (h : n ≤ m) : (1 : Int) ≤ 10 ^ n ∧ (10 : Int) ^ n ≤ 10 ^ m := by
  have h1 : (10 : Nat) ^ n ≤ 10 ^ m := Nat.pow_le_pow_right (by decide) h
  have h2 : 0 < (10 : Nat) ^ n := Nat.pow_pos (by decide)
  constructor
  · have : ((1 : Nat) : Int) ≤ ((10 ^ n : Nat) : Int) := by omega
    exact_mod_cast this
  · exact_mod_cast h1
theorem f52_L0_some (x : List UInt8) (hx : x.length ≤ 1000000) (K : Int → Option Int) : ∀ (d k n : Nat) (i : Int), n + d = min x.length 9 → d < k → -(1000 * 10 ^ n - 100) ≤ i → i ≤ 1000 * 10 ^ n - 100 → ∃ j, -1000000000000 ≤ j ∧ j ≤ 1000000000000 ∧ f52_L0 x K k (i, n) = K j
  | 0, k, n, i, hn, hk, h0, h1 => by
    obtain ⟨k, rfl⟩ : ∃ z, k = z + 1 := ⟨k - 1, by omega⟩
    have h10 := p10 (n := n) (m := 9) (by omega)
    refine ⟨i, by omega, by omega, ?_⟩
    rw [f52_L0.eq_2, if_neg (by simp; omega)]
  | d + 1, k, n, i, hn, hk, h0, h1 => by
    obtain ⟨k, rfl⟩ : ∃ z, k = z + 1 := ⟨k - 1, by omega⟩
    have h10 := p10 (n := n) (m := 9) (by omega)
    have h256 : (x.getD n 0).toNat < 256 := (x.getD n 0).toNat_lt
    rw [f52_L0.eq_2, if_pos (by simp; omega)]
    generalize (x.getD n 0).toNat = c at *
    rw [chk_pos (by omega), chk_pos (by omega), chk_pos (by omega), chk_pos (by omega), chk_pos (by omega), chk_pos (by omega)]
    exact f52_L0_some x hx K d k (n + 1) _ (by omega) (by omega) (by rw [Int.pow_succ]; omega) (by rw [Int.pow_succ]; omega)
theorem f52_some (s : List UInt8) (hx : s.length ≤ 1000000) : ∃ v, f52 s = some v := by
  unfold f52
  rw [jn_eq]
  obtain ⟨j, h1, h2, h⟩ := f52_L0_some s hx (fun i4 => (f56 i4).bind fun r5 => if (!(r5 == s)) = true then some (-1) else some i4) (min s.length 9) FUEL 0 0 (by omega) (fuel_lt (by omega)) (by simp) (by simp)
  by_cases e : itoa j = s
  · refine ⟨j, h.trans ?_⟩
    rw [f56_eq j ⟨by omega, by omega⟩, some_bind, if_neg (by simp [e])]
  · refine ⟨-1, h.trans ?_⟩
    rw [f56_eq j ⟨by omega, by omega⟩, some_bind, if_pos (by simpa using e)]
theorem f52_L0_parse (x : List UInt8) (hx : x.length ≤ 9) (K : Int → Option Int) : ∀ (d k n i v : Nat), n + d = x.length → d < k → i < 10 ^ n → parseUint10 i (x.drop n) = .ok v → f52_L0 x K k ((i : Int), n) = K (v : Int)
  | 0, k, n, i, v, hn, hk, h1, hp => by
    obtain ⟨k, rfl⟩ : ∃ z, k = z + 1 := ⟨k - 1, by omega⟩
    rw [List.drop_eq_nil_of_le (by omega)] at hp
    simp only [parseUint10, NumEnd.ok.injEq] at hp
    rw [f52_L0.eq_2, if_neg (by simp; omega), hp]
  | d + 1, k, n, i, v, hn, hk, h1, hp => by
    obtain ⟨k, rfl⟩ : ∃ z, k = z + 1 := ⟨k - 1, by omega⟩
    have h10 : (10 : Nat) ^ n ≤ 10 ^ 9 := Nat.pow_le_pow_right (by decide) (by omega)
    rw [getD_drop x n 0 (by omega)] at hp
    simp only [parseUint10] at hp
    generalize hc : (x.getD n 0).toNat = c at hp
    split at hp
    case isFalse => cases hp
    rename_i h48
    rw [if_neg (by omega), if_neg (by omega)] at hp
    have ih := f52_L0_parse x hx K d k (n + 1) (i * 10 + (c - 48)) v (by omega) (by omega) (by rw [Nat.pow_succ]; omega) hp
    rw [f52_L0.eq_2, if_pos (by simp; omega), hc, chk_pos (by omega), chk_pos (by omega), chk_pos (by omega), chk_pos (by omega), chk_pos (by omega), chk_pos (by omega), ← ih]
    have e : (10 : Int) * (i : Int) + ((c : Nat) : Int) - 48 = ((i * 10 + (c - 48) : Nat) : Int) := by omega
    rw [e]
theorem f52_itoa (n : Int) (h0 : 0 ≤ n) (h1 : n ≤ 1000000) : f52 (itoa n) = some n := by
  have hl := itoa_len7 n h0 (by omega)
  obtain ⟨m, rfl⟩ : ∃ m : Nat, n = m := ⟨n.toNat, by omega⟩
  have e : itoa (m : Int) = decDigits m := by rw [Lib.itoa, if_neg (by omega), Int.toNat_natCast]
  have hp := parse_dig m (by omega)
  have hd := f56_eq (m : Int) ⟨by omega, by omega⟩
  rw [e] at hl hd ⊢
  unfold f52
  rw [jn_eq]
  refine (f52_L0_parse (decDigits m) (by omega) _ (decDigits m).length FUEL 0 0 m (by omega) (fuel_lt (by omega)) (by simp) (by rw [List.drop_zero]; exact hp)).trans ?_
  rw [hd, some_bind, if_neg (by simp)]
theorem f92_step (x : List UInt8) (_hx : x.length ≤ 1000000) (K : Int → Option Int) (k n : Nat) (i : Int) (hn : n < x.length ∧ n < 16) (h0 : 0 ≤ i) (h1 : i < 10000000000000000) {c : Nat} (hc : (x.getD n 0).toNat = c) (h256 : c < 256) :
    f92_L0 x K (k + 1) (i, n) = if 48 ≤ c ∧ c ≤ 57 then f92_L0 x K k (10 * i + ((c : Int) - 48), n + 1) else some 0 := by
  rw [f92_L0.eq_2, if_pos (by simp; omega), hc, chk_pos (by omega), chk_pos (by intro; omega)]
  by_cases hb : 48 ≤ c ∧ c ≤ 57
  · rw [if_neg (by simp; omega), if_pos hb, chk_pos (by omega), chk_pos (by omega), chk_pos (by omega), chk_pos (by omega), chk_pos (by omega), chk_pos (by omega)]
  · rw [if_pos (by simp; omega), if_neg hb]
theorem f92_L0_some (x : List UInt8) (hx : x.length ≤ 1000000) (K : Int → Option Int) : ∀ (d k n : Nat) (i : Int), n + d = min x.length 16 → d < k → 0 ≤ i → i < 10 ^ n → f92_L0 x K k (i, n) = some 0 ∨ ∃ j, 0 ≤ j ∧ j < 10 ^ (min x.length 16) ∧ f92_L0 x K k (i, n) = K j
  | 0, k, n, i, hn, hk, h0, h1 => by
    obtain ⟨k, rfl⟩ : ∃ z, k = z + 1 := ⟨k - 1, by omega⟩
    refine .inr ⟨i, h0, by rw [← hn]; exact h1, ?_⟩
    rw [f92_L0.eq_2, if_neg (by simp; omega)]
  | d + 1, k, n, i, hn, hk, h0, h1 => by
    obtain ⟨k, rfl⟩ : ∃ z, k = z + 1 := ⟨k - 1, by omega⟩
    have h10 := p10 (n := n) (m := 16) (by omega)
    have h256 : (x.getD n 0).toNat < 256 := (x.getD n 0).toNat_lt
    generalize hc : (x.getD n 0).toNat = c at h256
    rw [f92_step x hx K k n i (by omega) h0 (by omega) hc h256]
    by_cases hb : 48 ≤ c ∧ c ≤ 57
    · rw [if_pos hb]
      exact f92_L0_some x hx K d k (n + 1) _ (by omega) (by omega) (by omega) (by rw [Int.pow_succ]; omega)
    · rw [if_neg hb]; exact .inl rfl
theorem f92_some (s : List UInt8) (hx : s.length ≤ 1000000) : ∃ v, f92 s = some v := by
  unfold f92
  rw [jn_eq]
  rcases f92_L0_some s hx (fun i4 => optc (((decide (((s.length : Nat) : Int) > (15 : Int))) || (s == [])) == false) (f79 FUEL i4) fun r5 => if (((decide (((s.length : Nat) : Int) > (15 : Int))) || (s == [])) || (!(r5 == s))) = true then some 0 else some i4) (min s.length 16) FUEL 0 0 (by omega) (fuel_lt (by omega)) (by omega) (by simp) with h | ⟨j, h1, h2, h⟩
  · exact ⟨_, h⟩
  · by_cases hc : ((decide (((s.length : Nat) : Int) > (15 : Int))) || (s == [])) = true
    · refine ⟨0, h.trans ?_⟩
      rw [hc, show (true == false) = false from rfl, optc_f, if_pos (by rfl)]
    · have hc' : ((decide (((s.length : Nat) : Int) > (15 : Int))) || (s == [])) = false := by simpa using hc
      have hl : s.length ≤ 15 := by
        simp only [Bool.or_eq_false_iff, decide_eq_false_iff_not] at hc'
        omega
      have h10 := p10 (n := min s.length 16) (m := 15) (by omega)
      have hd := dig (n := j) h1 (by omega)
      by_cases e : itoa j = s
      · refine ⟨j, h.trans ?_⟩
        rw [hc', show (false == false) = true from rfl, optc_t, hd, some_bind, if_neg (by simp [e])]
      · refine ⟨0, h.trans ?_⟩
        rw [hc', show (false == false) = true from rfl, optc_t, hd, some_bind, if_pos (by simpa using e)]
theorem f92_L0_parse (x : List UInt8) (hx : x.length ≤ 15) (K : Int → Option Int) : ∀ (d k n i v : Nat), n + d = x.length → d < k → i < 10 ^ n → parseUint10 i (x.drop n) = .ok v → f92_L0 x K k ((i : Int), n) = K (v : Int)
  | 0, k, n, i, v, hn, hk, h1, hp => by
    obtain ⟨k, rfl⟩ : ∃ z, k = z + 1 := ⟨k - 1, by omega⟩
    rw [List.drop_eq_nil_of_le (by omega)] at hp
    simp only [parseUint10, NumEnd.ok.injEq] at hp
    rw [f92_L0.eq_2, if_neg (by simp; omega), hp]
  | d + 1, k, n, i, v, hn, hk, h1, hp => by
    obtain ⟨k, rfl⟩ : ∃ z, k = z + 1 := ⟨k - 1, by omega⟩
    have h10 : (10 : Nat) ^ n ≤ 10 ^ 15 := Nat.pow_le_pow_right (by decide) (by omega)
    rw [getD_drop x n 0 (by omega)] at hp
    simp only [parseUint10] at hp
    generalize hc : (x.getD n 0).toNat = c at hp
    split at hp
    case isFalse => cases hp
    rename_i h48
    rw [if_neg (by omega), if_neg (by omega)] at hp
    have ih := f92_L0_parse x hx K d k (n + 1) (i * 10 + (c - 48)) v (by omega) (by omega) (by rw [Nat.pow_succ]; omega) hp
    rw [f92_step x (by omega) K k n _ (by omega) (by omega) (by omega) hc (by omega), if_pos (by omega), ← ih]
    have e : (10 : Int) * (i : Int) + (((c : Nat) : Int) - 48) = ((i * 10 + (c - 48) : Nat) : Int) := by omega
    rw [e]
theorem f92_itoa (n : Int) (h0 : 0 ≤ n) (h1 : n ≤ 1000000000000) : f92 (itoa n) = some n := by
  have hl := itoa_15 n h0 h1
  have hd := dig (n := n) h0 (by omega)
  obtain ⟨m, rfl⟩ : ∃ m : Nat, n = m := ⟨n.toNat, by omega⟩
  have e : itoa (m : Int) = decDigits m := by rw [Lib.itoa, if_neg (by omega), Int.toNat_natCast]
  have hp := parse_dig m (by omega)
  have hne := dig_ne m
  rw [e] at hl hd ⊢
  unfold f92
  rw [jn_eq]
  refine (f92_L0_parse (decDigits m) hl _ (decDigits m).length FUEL 0 0 m (by omega) (fuel_lt (by omega)) (by simp) (by rw [List.drop_zero]; exact hp)).trans ?_
  have e2 : (decide ((((decDigits m).length : Nat) : Int) > 15) || (decDigits m == [])) = false := by
    rw [Bool.or_eq_false_iff]
    exact ⟨by rw [decide_eq_false_iff_not]; omega, by simpa using hne⟩
  rw [e2, show (false == false) = true from rfl, optc_t, hd, some_bind, if_neg (by simp)]
/-! ### FromChunks -/
theorem f53_other (x : List (List UInt8)) (n2 : Nat) (K : List Pr → Option (Int × List Pr)) (k n4 n5 : Nat) (l : List Pr) (h2 : n2 < x.length) (h5 : n5 < (x.getD n2 []).length) (hs : (x.getD n2 []).length ≤ 1000000) (hb : (x.getD n2 []).getD n5 0 ≠ 10) :
    f53_L1 x n2 K (k + 1) (n4, n5, l) = f53_L1 x n2 K k (n4, n5 + 1, l) := by
  have hb' : ((x.getD n2 []).getD n5 0).toNat ≠ 10 := fun e => hb (by rw [← UInt8.toNat_inj, e]; rfl)
  rw [f53_L1.eq_2, chk_pos (by omega), ifd_pos (by omega), jn_eq, chk_pos (by omega), chk_pos (by omega), if_pos (by simp only [bne_iff_ne, ne_eq]; omega)]
  dsimp only
  rw [chk_pos (by omega)]
theorem f53_line (x : List (List UInt8)) (n2 : Nat) (K : List Pr → Option (Int × List Pr)) (k n4 n5 : Nat) (l : List Pr) (h2 : n2 < x.length) (h5 : n5 < (x.getD n2 []).length) (h4 : n4 ≤ n5) (hs : (x.getD n2 []).length ≤ 1000000) (hb : (x.getD n2 []).getD n5 0 = 10) (hl : l.length ≤ 1000000)
    {r : List (List UInt8)} {v : Int} (hr : spl (((x.getD n2 []).take n5).drop n4) = r) (hv : f92 (r.getD 1 []) = some v) :
    f53_L1 x n2 K (k + 1) (n4, n5, l) = if r.length = 3 ∧ ¬ (v = 0 ∧ r.getD 1 [] ≠ [48]) then f53_L1 x n2 K k (n5 + 1, n5 + 1, l ++ [(r.getD 0 [], r.getD 2 [], v)]) else some (2, []) := by
  have hb' : ((x.getD n2 []).getD n5 0).toNat = 10 := by rw [hb]; rfl
  rw [f53_L1.eq_2, chk_pos (by omega), ifd_pos (by omega), jn_eq, chk_pos (by omega), chk_pos (by omega), hb', if_neg (by simp), f75_eq _ (by rw [List.length_drop, List.length_take]; omega), some_bind, hr, chk_pos (by omega), chk_pos (by omega)]
  by_cases h3 : r.length = 3
  · have e3 : (((r.length : Nat) : Int) != 3) = false := by rw [h3]; rfl
    rw [e3, show ((false : Bool) == false) = true from rfl, optc_t, hv, some_bind, chk_pos (by intro; omega), chk_pos (by intro; omega), chk_pos (by intro; omega), chk_pos (by intro; omega), chk_pos (by
      intro _ _ h
      rw [h]
      rfl), Bool.false_or]
    by_cases hc : v = 0 ∧ r.getD 1 [] ≠ [48]
    · rw [if_pos (by rw [Bool.and_eq_true, beq_iff_eq, Bool.not_eq_true', beq_eq_false_iff_ne]; exact hc), if_neg (fun h => h.2 hc)]
    · rw [if_neg (by rw [Bool.and_eq_true, beq_iff_eq, Bool.not_eq_true', beq_eq_false_iff_ne]; exact hc), if_pos ⟨h3, hc⟩, some_bind, chk_pos (by omega), chk_pos (by omega), chk_pos (by omega), chk_pos (by omega), chk_pos (by omega), chk_pos (by omega), chk_pos (by omega), chk_pos (by omega)]
      dsimp only
      rw [chk_pos (by omega)]
  · have e3 : (((r.length : Nat) : Int) != 3) = true := by
      rw [bne_iff_ne]; omega
    rw [e3, show ((true : Bool) == false) = false from rfl, optc_f, chk_pos (by intro h; cases h), chk_pos (by intro h; cases h), chk_pos (by intro h; simp at h), chk_pos (by intro h; simp at h), chk_pos (by intro h; cases h), if_pos (by rfl), if_neg (fun h => h3 h.1)]
theorem f53_stop (x : List (List UInt8)) (n2 : Nat) (K : List Pr → Option (Int × List Pr)) (k n4 n5 : Nat) (l : List Pr) (h2 : n2 < x.length) (h5 : n5 = (x.getD n2 []).length) : f53_L1 x n2 K (k + 1) (n4, n5, l) = K l := by
  rw [f53_L1.eq_2, chk_pos (by omega), ifd_neg (by omega)]
theorem getD_ln (l : List (List UInt8)) (i m : Nat) (hl : ∀ w, w ∈ l → w.length ≤ m) : (l.getD i []).length ≤ m := by
  rcases Nat.lt_or_ge i l.length with h | h
  · exact hl _ (getD_mem l i [] h)
  · rw [List.getD_eq_getElem?_getD, List.getElem?_eq_none h]; simp
theorem f53_L1_some (x : List (List UInt8)) (n2 : Nat) (K : List Pr → Option (Int × List Pr)) (h2 : n2 < x.length) (hs : (x.getD n2 []).length ≤ 1000) (B : Nat) (hB : B ≤ 100000) : ∀ (c k n4 n5 : Nat) (l : List Pr), n5 + c = (x.getD n2 []).length → n4 ≤ n5 → c < k → bndL l → l.length ≤ B + n5 →
    (∃ l', f53_L1 x n2 K k (n4, n5, l) = K l' ∧ bndL l' ∧ l'.length ≤ B + 1000) ∨ f53_L1 x n2 K k (n4, n5, l) = some (2, [])
  | 0, k, n4, n5, l, hn, h4, hk, hb, hl => by
    obtain ⟨k, rfl⟩ : ∃ z, k = z + 1 := ⟨k - 1, by omega⟩
    exact .inl ⟨l, f53_stop x n2 K k n4 n5 l h2 (by omega), hb, by omega⟩
  | c + 1, k, n4, n5, l, hn, h4, hk, hb, hl => by
    obtain ⟨k, rfl⟩ : ∃ z, k = z + 1 := ⟨k - 1, by omega⟩
    by_cases h10 : (x.getD n2 []).getD n5 0 = 10
    · have hm := spl_mem (((x.getD n2 []).take n5).drop n4)
      have hwl : (((x.getD n2 []).take n5).drop n4).length ≤ 1000 := by rw [List.length_drop, List.length_take]; omega
      obtain ⟨r, hr⟩ : ∃ r, spl (((x.getD n2 []).take n5).drop n4) = r := ⟨_, rfl⟩
      rw [hr] at hm
      have hm' : ∀ w, w ∈ r → w.length ≤ 1000 := fun w hw => Nat.le_trans (hm w hw) hwl
      obtain ⟨v, hv⟩ := f92_some (r.getD 1 []) (by have := getD_ln r 1 1000 hm'; omega)
      rw [f53_line x n2 K k n4 n5 l h2 (by omega) h4 (by omega) h10 (by omega) hr hv]
      split
      · exact f53_L1_some x n2 K h2 hs B hB c k (n5 + 1) (n5 + 1) _ (by omega) (Nat.le_refl _) (by omega) (hb.snoc (p := (r.getD 0 [], r.getD 2 [], v)) (by have := getD_ln r 0 1000 hm'; dsimp only; omega) (by have := getD_ln r 2 1000 hm'; dsimp only; omega)) (by simp; omega)
      · exact .inr rfl
    · rw [f53_other x n2 K k n4 n5 l h2 (by omega) (by omega) h10]
      exact f53_L1_some x n2 K h2 hs B hB c k n4 (n5 + 1) l (by omega) (by omega) (by omega) hb (by omega)
theorem f53_L0_some (x : List (List UInt8)) (hx : ∀ s, s ∈ x → s.length ≤ 1000) (hl : x.length ≤ 15) (K : List Pr → Option (Int × List Pr)) : ∀ (c k n : Nat) (l : List Pr), n + c = x.length → c < k → bndL l → l.length ≤ 1000 * n →
    (∃ l', f53_L0 x K k (n, l) = K l' ∧ bndL l') ∨ f53_L0 x K k (n, l) = some (2, [])
  | 0, k, n, l, hn, hk, hb, hll => by
    obtain ⟨k, rfl⟩ : ∃ z, k = z + 1 := ⟨k - 1, by omega⟩
    refine .inl ⟨l, ?_, hb⟩
    rw [f53_L0.eq_2, ifd_neg (by omega)]
  | c + 1, k, n, l, hn, hk, hb, hll => by
    obtain ⟨k, rfl⟩ : ∃ z, k = z + 1 := ⟨k - 1, by omega⟩
    have hs := hx _ (getD_mem x n [] (by omega))
    rw [f53_L0.eq_2, ifd_pos (by omega), jn_eq, chk_pos (by omega), chk_pos (by intro; omega), chk_pos (by intro; omega), chk_pos (by intro; omega), chk_pos (by
      intro h
      have hne : x.getD n [] ≠ [] := by simpa using h
      have := List.length_pos_iff.2 hne
      omega)]
    split
    · exact .inr rfl
    · rcases f53_L1_some x n (fun l12 => chk (((n : Int) + (1 : Int)) ≤ 9223372036854775807) <| (f53_L0 x K k) ((n + 1), l12)) (by omega) hs (1000 * n) (by omega) (x.getD n []).length FUEL 0 0 l (by omega) (Nat.le_refl _) (fuel_lt (by omega)) hb (by omega) with ⟨l', g1, g2, g3⟩ | g
      · rw [g1, chk_pos (by omega)]
        exact f53_L0_some x hx hl K c k (n + 1) l' (by omega) (by omega) g2 (by omega)
      · exact .inr g
theorem f53_some (x : List (List UInt8)) (hx : ∀ s, s ∈ x → s.length ≤ 1000) (hl : x.length ≤ 15) : ∃ e l, f53 x = some (e, l) ∧ (e = 0 → StV l) := by
  unfold f53
  rw [jn_eq]
  rcases f53_L0_some x hx hl (fun l13 => (f93 l13).bind fun r14 => if (r14 != 0) = true then some (r14, []) else some (0, l13)) x.length FUEL 0 [] (by omega) (fuel_lt (by omega)) (by intro p hp; cases hp) (by simp) with ⟨l', g1, g2⟩ | g
  · rw [g1, f93_eq l' g2.bnd, some_bind]
    by_cases h : vald l' = 0
    · rw [if_neg (by simp [h])]
      exact ⟨_, _, rfl, fun _ => stv_of h⟩
    · rw [if_pos (by simpa using h)]
      exact ⟨_, _, rfl, fun e => absurd e h⟩
  · exact ⟨_, _, g, fun h => absurd h (by decide)⟩
theorem f53_scan (x : List (List UInt8)) (n2 : Nat) (K : List Pr → Option (Int × List Pr)) (h2 : n2 < x.length) (hs : (x.getD n2 []).length ≤ 1000000) (A w R : List UInt8) (hx : x.getD n2 [] = A ++ (w ++ R)) (hw : noLf w) (l : List Pr) : ∀ (d k j : Nat), j + d = w.length → f53_L1 x n2 K (k + d) (A.length, A.length + j, l) = f53_L1 x n2 K k (A.length, A.length + w.length, l)
  | 0, k, j, hj => by
    obtain rfl : j = w.length := by omega
    rfl
  | d + 1, k, j, hj => by
    have hl : (x.getD n2 []).length = A.length + (w.length + R.length) := by rw [hx]; simp
    have hg : (x.getD n2 []).getD (A.length + j) 0 = w.getD j 0 := by
      rw [hx]
      simp [List.getD_eq_getElem?_getD, List.getElem?_append, show j < w.length by omega, show ¬ (A.length + j < A.length) by omega]
    rw [← Nat.add_assoc, f53_other x n2 K (k + d) _ _ l h2 (by omega) hs (by rw [hg]; exact hw _ (getD_mem w j 0 (by omega)))]
    exact f53_scan x n2 K h2 hs A w R hx hw l d k (j + 1) (by omega)
theorem f53_L1_hit (x : List (List UInt8)) (n2 : Nat) (K : List Pr → Option (Int × List Pr)) (h2 : n2 < x.length) (hs : (x.getD n2 []).length ≤ 1000000) : ∀ (m : List Pr) (A : List UInt8) (l : List Pr) (e : Nat), x.getD n2 [] = A ++ txtL m → (∀ p, p ∈ m → okp p) → l.length + m.length ≤ 1000 →
    f53_L1 x n2 K (e + 1 + (txtL m).length) (A.length, A.length, l) = K (l ++ m)
  | [], A, l, e, hx, hm, hl => by
    rw [show e + 1 + (txtL []).length = e + 1 from rfl, f53_stop x n2 K e _ _ l h2 (by rw [hx]; simp [txtL]), List.append_nil]
  | p :: m, A, l, e, hx, hm, hl => by
    have hp := hm p (List.mem_cons_self ..)
    rw [List.length_cons] at hl
    have hx2 : x.getD n2 [] = A ++ (wordP p ++ (10 :: txtL m)) := by rw [hx, txtL_cons, line_word]; simp
    have hlen : (x.getD n2 []).length = A.length + ((wordP p).length + ((txtL m).length + 1)) := by rw [hx2]; simp
    have htl : (txtL (p :: m)).length = (wordP p).length + 1 + (txtL m).length := by rw [txtL_cons, line_word]; simp; omega
    have hsc := f53_scan x n2 K h2 hs A (wordP p) (10 :: txtL m) hx2 (word_lf hp) l (wordP p).length (e + 1 + (txtL m).length + 1) 0 (by omega)
    rw [show e + 1 + (txtL (p :: m)).length = e + 1 + (txtL m).length + 1 + (wordP p).length from by omega]
    refine Eq.trans hsc ?_
    have hg : (x.getD n2 []).getD (A.length + (wordP p).length) 0 = 10 := by
      rw [hx2]
      simp [List.getD_eq_getElem?_getD]
    have hw : ((x.getD n2 []).take (A.length + (wordP p).length)).drop A.length = wordP p := by
      rw [List.drop_take, hx2, List.drop_left, Nat.add_sub_cancel_left, List.take_left]
    have hsp : spl (wordP p) = [p.1, itoa p.2.2, p.2.1] := by
      unfold wordP
      rw [spl_app _ _ (gr_sp hp.1), spl_app _ _ (itoa_sp (by have := hp.2.2.1; omega)), spl_word _ (gr_sp hp.2.1)]
    have hv := f92_itoa p.2.2 (by have := hp.2.2.1; omega) (by have := hp.2.2.2; omega)
    rw [f53_line x n2 K (e + 1 + (txtL m).length) A.length (A.length + (wordP p).length) l h2 (by omega) (by omega) hs hg (by omega) (r := [p.1, itoa p.2.2, p.2.1]) (v := p.2.2) (by rw [hw, hsp]) hv, if_pos ⟨rfl, fun h => absurd h.1 (by have := hp.2.2.1; omega)⟩]
    have ih := f53_L1_hit x n2 K h2 hs m (A ++ lineP p) (l ++ [p]) e (by rw [hx, txtL_cons]; simp) (fun q hq => hm q (List.mem_cons_of_mem _ hq)) (by simp; omega)
    have hal : (A ++ lineP p).length = A.length + (wordP p).length + 1 := by rw [line_word]; simp; omega
    rw [hal] at ih
    refine ih.trans ?_
    simp
theorem txtL_end {q : List Pr} (hq : q ≠ []) : ∃ u, txtL q = u ++ [10] := by
  rw [← List.dropLast_concat_getLast hq, txtL_snoc, line_word, ← List.append_assoc]
  exact ⟨_, rfl⟩
theorem f53_L0_hit (ps : List (List Pr)) (hl : ps.length ≤ 64) (hf : ps.flatten.length ≤ 64) (ho : ∀ q, q ∈ ps → q ≠ [] ∧ ∀ p, p ∈ q → okp p) (K : List Pr → Option (Int × List Pr)) : ∀ (c k n : Nat) (L : List Pr), n + c = ps.length → c < k → L.length + (ps.drop n).flatten.length ≤ 64 →
    f53_L0 (ps.map txtL) K k (n, L) = K (L ++ (ps.drop n).flatten)
  | 0, k, n, L, hn, hk, hL => by
    obtain ⟨k, rfl⟩ : ∃ q, k = q + 1 := ⟨k - 1, by omega⟩
    rw [f53_L0.eq_2, ifd_neg (by rw [List.length_map]; omega), List.drop_eq_nil_of_le (by omega)]
    simp
  | c + 1, k, n, L, hn, hk, hL => by
    obtain ⟨k, rfl⟩ : ∃ q, k = q + 1 := ⟨k - 1, by omega⟩
    have hd := getD_drop ps n [] (by omega)
    rw [hd, List.flatten_cons, List.length_append] at hL
    have hq := ho _ (getD_mem ps n [] (by omega))
    have ih := f53_L0_hit ps hl hf ho K c k (n + 1) (L ++ ps.getD n []) (by omega) (by omega) (by rw [List.length_append]; omega)
    have hml : (ps.map txtL).length = ps.length := List.length_map _
    have hg : (ps.map txtL).getD n [] = txtL (ps.getD n []) := by
      simp [List.getD_eq_getElem?_getD, show n < ps.length by omega]
    have htl := txtL_len (ps.getD n []) hq.2
    obtain ⟨u, hu⟩ := txtL_end hq.1
    have hlen : (txtL (ps.getD n [])).length = u.length + 1 := by rw [hu]; simp
    have hlast : (txtL (ps.getD n [])).getD ((((txtL (ps.getD n [])).length : Nat) : Int) - 1).toNat 0 = 10 := by
      rw [show ((((txtL (ps.getD n [])).length : Nat) : Int) - 1).toNat = u.length from by omega, hu]
      simp [List.getD_eq_getElem?_getD]
    rw [f53_L0.eq_2, ifd_pos (by omega), jn_eq, chk_pos (by omega), chk_pos (by intro; omega), chk_pos (by intro; omega), chk_pos (by intro; rw [hg]; omega), chk_pos (by intro; rw [hg]; omega), hg, hlast, if_neg (by
      rw [Bool.or_eq_true, not_or]
      refine ⟨?_, by simp⟩
      intro h
      have : txtL (ps.getD n []) = [] := by simpa using h
      rw [this] at hlen; simp at hlen)]
    have hfu : FUEL = (FUEL - 1 - (txtL (ps.getD n [])).length) + 1 + (txtL (ps.getD n [])).length := by
      have := fuel_lt (n := (txtL (ps.getD n [])).length + 1) (by omega)
      omega
    have h1 := f53_L1_hit (ps.map txtL) n (fun l12 => chk (((n : Int) + (1 : Int)) ≤ 9223372036854775807) <| (f53_L0 (ps.map txtL) K k) ((n + 1), l12)) (by omega) (by rw [hg]; omega) (ps.getD n []) [] L (FUEL - 1 - (txtL (ps.getD n [])).length) (by rw [hg]; rfl) hq.2 (by omega)
    rw [← hfu] at h1
    refine h1.trans ?_
    rw [chk_pos (by omega), ih, hd, List.flatten_cons, List.append_assoc]
theorem f53_hit {x : List Pr} (hS : StV x) : f53 (cks 8 65 x) = some (0, x) := by
  obtain ⟨ps, e1, e2, e3⟩ := cks_parts 8 (by omega) 65 x (by have := hS.len; omega)
  have hl := hS.len
  have hps : ps.length ≤ 64 := by
    have : ∀ (ps : List (List Pr)), (∀ q, q ∈ ps → q ≠ []) → ps.length ≤ ps.flatten.length := by
      intro ps
      induction ps with
      | nil => intro _; simp
      | cons q ps ih =>
        intro h
        have h1 : 0 < q.length := List.length_pos_iff.2 (h q (List.mem_cons_self ..))
        have h2 := ih fun r hr => h r (List.mem_cons_of_mem _ hr)
        rw [List.flatten_cons, List.length_append, List.length_cons]; omega
    have := this ps e3
    rw [e2] at this
    omega
  unfold f53
  rw [jn_eq, e1]
  refine (f53_L0_hit ps hps (by rw [e2]; omega) (fun q hq => ⟨e3 q hq, fun p hp => hS.each p (by rw [← e2]; exact List.mem_flatten_of_mem hq hp)⟩) _ ps.length FUEL 0 [] (by omega) (fuel_lt (by omega)) (by rw [List.drop_zero, e2]; simp; omega)).trans ?_
  rw [List.drop_zero, e2, List.nil_append]
  rw [f93_eq x (stv_bnd hS), some_bind, vald_of hS, if_neg (by simp)]
end Go.Abs
namespace Go.Abs
open Go Go.Lib
/-- a loop by index that ends early where p holds -/
theorem idx_up {R : Type} (L : Nat → Nat → Option R) (len : Nat) (p : Nat → Bool) (r K : Option R)
    (h : ∀ k n, n < len → L (k + 1) n = if p n = true then r else L k (n + 1)) (he : ∀ k, L (k + 1) len = K) :
    ∀ c k n, n + c = len → c < k → ((∃ i, n ≤ i ∧ i < len ∧ p i = true) ∧ L k n = r) ∨ ((∀ i, n ≤ i → i < len → p i = false) ∧ L k n = K)
  | 0, k, n, hn, hk => by
    obtain ⟨k, rfl⟩ : ∃ q, k = q + 1 := ⟨k - 1, by omega⟩
    obtain rfl : n = len := by omega
    exact .inr ⟨fun i h1 h2 => absurd h1 (by omega), he k⟩
  | c + 1, k, n, hn, hk => by
    obtain ⟨k, rfl⟩ : ∃ q, k = q + 1 := ⟨k - 1, by omega⟩
    rw [h k n (by omega)]
    by_cases hp : p n = true
    · rw [if_pos hp]
      exact .inl ⟨⟨n, Nat.le_refl _, by omega, hp⟩, rfl⟩
    · rw [if_neg hp]
      rcases idx_up L len p r K h he c k (n + 1) (by omega) (by omega) with ⟨⟨i, h1, h2⟩, h3⟩ | ⟨h1, h2⟩
      · exact .inl ⟨⟨i, by omega, h2⟩, h3⟩
      · refine .inr ⟨fun i h3 h4 => ?_, h2⟩
        rcases Nat.lt_or_ge n i with h5 | h5
        · exact h1 i (by omega) h4
        · obtain rfl : n = i := by omega
          simpa using hp
theorem pw_adj {α : Type} (R : α → α → Prop) (d : α) (tr : ∀ {a b c}, R a b → R b c → R a c) : ∀ l : List α, (∀ i, i + 1 < l.length → R (l.getD i d) (l.getD (i + 1) d)) → l.Pairwise R
  | [], _ => .nil
  | [a], _ => by simp
  | a :: b :: l, h => by
    have ih := pw_adj R d tr (b :: l) (fun i hi => by
      have := h (i + 1) (by simpa using hi)
      simpa using this)
    refine List.pairwise_cons.2 ⟨fun c hc => ?_, ih⟩
    have hab : R a b := by simpa using h 0 (by simp)
    rcases List.mem_cons.1 hc with rfl | hc
    · exact hab
    · exact tr hab ((List.pairwise_cons.1 ih).1 c hc)
theorem pw_get {α : Type} {R : α → α → Prop} {d : α} {l : List α} (h : l.Pairwise R) {i : Nat} (hi : i + 1 < l.length) : R (l.getD i d) (l.getD (i + 1) d) := by
  have := List.pairwise_iff_getElem.1 h i (i + 1) (by omega) hi (by omega)
  simpa [List.getD_eq_getElem?_getD, hi, (show i < l.length by omega)] using this
/-! ### the specification's Valid -/
def badS (s : List Ss) (n : Nat) : Bool := ((!(fit (s.getD n default).1 (s.getD n default).2.1)) || (decide (((((s.getD n default).2.2).length : Nat) : Int) > (400 : Int)))) || ((decide ((n : Int) > (0 : Int))) && (decide ((s.getD ((((n : Int) - (1 : Int))).toNat) default).1 ≥ (s.getD n default).1)))
theorem badS_all (s : List Ss) : (∀ i, 0 ≤ i → i < s.length → badS s i = false) ↔ SvV s := by
  constructor
  · intro h
    refine ⟨fun q hq => ?_, ?_⟩
    · obtain ⟨i, hi, rfl⟩ := List.getElem_of_mem hq
      have := h i (by omega) hi
      unfold badS at this
      rw [show s.getD i default = s[i] by simp [List.getD_eq_getElem?_getD, hi]] at this
      simp only [Bool.or_eq_false_iff, Bool.not_eq_false', decide_eq_false_iff_not] at this
      obtain ⟨f1, f2, f3, f4⟩ := fit_iff this.1.1
      exact ⟨f1, f2, f3, f4, by omega⟩
    · refine pw_adj (fun p q : Ss => p.1 < q.1) default (fun h1 h2 => by omega) s fun i hi => ?_
      have := h (i + 1) (by omega) hi
      unfold badS at this
      simp only [Bool.or_eq_false_iff, Bool.and_eq_false_iff, Bool.not_eq_false', decide_eq_false_iff_not] at this
      rcases this.2 with h1 | h1
      · omega
      · rw [show ((((i + 1 : Nat) : Int) - 1).toNat) = i by omega] at h1
        omega
  · intro h i _ hi
    obtain ⟨h1, h2, h3, h4, h5⟩ := h.1 _ (getD_mem s i default hi)
    have hf : fit (s.getD i default).1 (s.getD i default).2.1 = true := by
      unfold fit
      simp only [Bool.and_eq_true, decide_eq_true_eq]
      omega
    unfold badS
    rw [hf]
    simp only [Bool.or_eq_false_iff, Bool.and_eq_false_iff, Bool.not_eq_false', decide_eq_false_iff_not]
    refine ⟨⟨trivial, by omega⟩, ?_⟩
    rcases Nat.eq_zero_or_pos i with rfl | h0
    · left; omega
    · right
      obtain ⟨j, rfl⟩ : ∃ j, i = j + 1 := ⟨i - 1, by omega⟩
      rw [show ((((j + 1 : Nat) : Int) - 1).toNat) = j by omega]
      have := pw_get (R := fun p q : Ss => p.1 < q.1) (d := default) h.2 hi
      omega
theorem f54_eq (l : List Pr) (s : List Ss) (hs : s.length ≤ 1000000) (hl : ∀ p, p ∈ l → bndP p) : ∃ b, f54 l s = some b ∧ (b = true ↔ SvV s ∧ vald l = 0) := by
  unfold f54
  rw [jn_eq, f93_eq l hl, some_bind]
  rcases idx_up (f54_L0 s (fun _ => some (vald l == 0))) s.length (badS s) (some false) (some (vald l == 0)) (fun k n hn => by
    rw [f54_L0.eq_2, ifd_pos (by omega), chk_pos (by omega)]
    change (some (fit (s.getD n default).1 (s.getD n default).2.1)).bind _ = _
    rw [some_bind, chk_pos (by
      intro h
      simp only [Bool.and_eq_true, beq_iff_eq, decide_eq_true_eq] at h
      have := h.2
      omega), chk_pos (by
      intro h
      simp only [Bool.and_eq_true, beq_iff_eq, decide_eq_true_eq] at h
      have := h.2
      omega), chk_pos (by
      intro h1 _ h3
      rw [h1, h3]
      rfl)]
    change (if badS s n = true then _ else _) = _
    by_cases hb : badS s n = true
    · rw [if_pos hb, if_pos hb]
    · rw [if_neg hb, if_neg hb, chk_pos (by omega)]) (fun k => by
    rw [f54_L0.eq_2, ifd_neg (by omega)]) s.length FUEL 0 (by omega) (fuel_lt (by omega)) with ⟨⟨i, h1, h2, h3⟩, h4⟩ | ⟨h1, h2⟩
  · refine ⟨false, h4, (fun h => (by cases h)), fun h => ?_⟩
    have := (badS_all s).2 h.1 i h1 h2
    rw [this] at h3; cases h3
  · refine ⟨_, h2, ?_⟩
    rw [beq_iff_eq]
    exact ⟨fun h => ⟨(badS_all s).1 h1, h⟩, fun h => h.2⟩
/-! ### the specification's Restore -/
theorem f25_step (L : List (List UInt8)) (r : Int × Int × List (List UInt8)) (hr : r.2.2 = L) (hL : L.length ≤ 1000000) (K : List Ss → Option (List Pr × List Ss × Int)) (k n : Nat) (s : List Ss) (hs : s.length ≤ 1000000) (h3 : n + 3 ≤ L.length) {v1 v2 : Int} (h1 : f52 (L.getD n []) = some v1) (h2 : f52 (L.getD (n + 1) []) = some v2) :
    f25_L0 r K (k + 1) (n, s) = f25_L0 r K k (n + 3, s ++ [(v1, v2, L.getD (n + 2) [])]) := by
  rw [f25_L0.eq_2, hr, ifd_pos (by omega), h1, some_bind, h2, some_bind, chk_pos (by omega), chk_pos (by omega), chk_pos (by omega), chk_pos (by omega), chk_pos (by omega), chk_pos (by omega), chk_pos (by omega), chk_pos (by omega), chk_pos (by omega), chk_pos (by omega)]
theorem f25_L0_some (L : List (List UInt8)) (r : Int × Int × List (List UInt8)) (hr : r.2.2 = L) (hL : L.length ≤ 1000000) (hsm : ∀ s, s ∈ L → s.length ≤ 1000000) (K : List Ss → Option (List Pr × List Ss × Int)) : ∀ (d k n : Nat) (s : List Ss), n + 3 * d = L.length → d < k → s.length ≤ n → ∃ s', f25_L0 r K k (n, s) = K s' ∧ s'.length ≤ 1000000
  | 0, k, n, s, hn, hk, hs => by
    obtain ⟨k, rfl⟩ : ∃ z, k = z + 1 := ⟨k - 1, by omega⟩
    refine ⟨s, ?_, by omega⟩
    rw [f25_L0.eq_2, hr, ifd_neg (by omega)]
  | d + 1, k, n, s, hn, hk, hs => by
    obtain ⟨k, rfl⟩ : ∃ z, k = z + 1 := ⟨k - 1, by omega⟩
    obtain ⟨v1, h1⟩ := f52_some (L.getD n []) (hsm _ (getD_mem L n [] (by omega)))
    obtain ⟨v2, h2⟩ := f52_some (L.getD (n + 1) []) (hsm _ (getD_mem L (n + 1) [] (by omega)))
    rw [f25_step L r hr hL K k n s (by omega) (by omega) h1 h2]
    exact f25_L0_some L r hr hL hsm K d k (n + 3) _ (by omega) (by omega) (by simp; omega)
theorem f25_L0_hit (s : List Ss) (hv : SvV s) (r : Int × Int × List (List UInt8)) (hr : r.2.2 = flt s) (K : List Ss → Option (List Pr × List Ss × Int)) : ∀ (m a : List Ss) (k : Nat), s = a ++ m → m.length < k → f25_L0 r K k (3 * a.length, a) = K s
  | [], a, k, hs, hk => by
    obtain ⟨k, rfl⟩ : ∃ z, k = z + 1 := ⟨k - 1, by omega⟩
    rw [List.append_nil] at hs
    subst hs
    rw [f25_L0.eq_2, hr, ifd_neg (by rw [flt_len]; omega)]
  | q :: m, a, k, hs, hk => by
    obtain ⟨k, rfl⟩ : ∃ z, k = z + 1 := ⟨k - 1, by omega⟩
    rw [List.length_cons] at hk
    have hlen := hv.len
    have hl2 : s.length = a.length + (m.length + 1) := by rw [hs]; simp
    have ih := f25_L0_hit s hv r hr K m (a ++ [q]) k (by rw [hs]; simp) (by omega)
    have hd := flt_getD a q m
    rw [← hs] at hd
    obtain ⟨g0, g1, g2⟩ := getD_of_drop (d := ([] : List UInt8)) hd
    obtain ⟨q1, q2, q3, q4, q5⟩ := hv.1 q (by rw [hs]; simp)
    rw [f25_step (flt s) r hr (by rw [flt_len]; omega) K k (3 * a.length) a (by omega) (by rw [flt_len]; omega) (by rw [g0]; exact f52_itoa q.1 q1 (by omega)) (by rw [g1]; exact f52_itoa q.2.1 (by omega) q4), g2]
    rw [List.length_append] at ih
    exact ih
theorem f25_hit {l : List Pr} {s : List Ss} (hl : StV l) (hv : SvV s) : f25 (chR l s) = some (l, s, 0) := by
  have hsl := hv.len
  have hpl := plist_flt hv
  have hlen := chR_len l s
  have h1 : 0 < (chR l s).length := by unfold chR; simp
  have h51 := f51_plist (flt s) (by rw [flt_len]; omega) (fun t ht => by have := flt_small4 hv t ht; omega) (by omega)
  have h26 := f26_eq (chR l s) (chR l s) (by omega)
  obtain ⟨b, h54, hb⟩ := f54_eq l s (by omega) (stv_bnd hl)
  have hbt := hb.2 ⟨hv, vald_of hl⟩
  unfold f25
  rw [if_neg (by rw [beq_iff_eq]; omega)]
  have e0 : (chR l s).getD 0 [] = plist (flt s) := rfl
  have e1 : (chR l s).drop 1 = cks 8 65 l := rfl
  rw [e0, e1, h51, some_bind, chk_pos (by omega), chk_pos (by intro; omega), chk_pos (by intro; omega)]
  dsimp only
  rw [if_neg (by rw [flt_len]; simp), jn_eq]
  have hh := f25_L0_hit s hv ((((plist (flt s)).length : Nat) : Int), 0, flt s) rfl (fun l7 => (f53 (cks 8 65 l)).bind fun r8 => chk ((1 : Int) ≤ (((chR l s).length : Nat) : Int)) <| if (r8.1 != (0 : Int)) = true then some ([], [], (2 : Int)) else (f54 r8.2 l7).bind fun r9 => if (!r9) = true then some ([], [], (2 : Int)) else (f55 r8.2 l7).bind fun r10 => (f26 r10 (chR l s)).bind fun r11 => if (!r11) = true then some ([], [], (2 : Int)) else some (r8.2, l7, (0 : Int))) s [] FUEL rfl (fuel_lt (by omega))
  rw [List.length_nil, Nat.mul_zero] at hh
  refine hh.trans ?_
  rw [f53_hit hl, some_bind, chk_pos (by omega)]
  dsimp only
  rw [if_neg (by simp), h54, some_bind, hbt, if_neg (by simp), f55_eq hl hv, some_bind, h26, some_bind, decide_eq_true rfl, if_neg (by simp)]
theorem f25_miss (x : List (List UInt8)) (hx : ∀ s, s ∈ x → s.length ≤ 1000) (hl : x.length ≤ 15) (h : ∀ l s, StV l → SvV s → chR l s ≠ x) : f25 x = some ([], [], 2) := by
  unfold f25
  by_cases h0 : x.length = 0
  · rw [if_pos (by simp [h0])]
  · rw [if_neg (by rw [beq_iff_eq]; omega)]
    have hx0 := hx _ (getD_mem x 0 [] (by omega))
    obtain ⟨j, e, L, h51, hs, hll⟩ := f51_some (x.getD 0 []) (by omega)
    rw [h51, some_bind, chk_pos (by omega), chk_pos (by intro; omega), chk_pos (by intro; omega)]
    dsimp only
    by_cases hc : ((e != 0) || (j != (((x.getD 0 []).length : Nat) : Int)) || ((((L.length % 3 : Nat)) : Int) != 0)) = true
    · rw [if_pos hc]
    · rw [if_neg hc, jn_eq]
      have h3 : L.length % 3 = 0 := by
        simp only [Bool.or_eq_true, not_or, bne_iff_ne, ne_eq, Decidable.not_not] at hc
        omega
      obtain ⟨s, hh, hsl⟩ := f25_L0_some L (j, e, L) rfl (by omega) (fun t ht => by have := hs t ht; omega) (fun l7 => (f53 (x.drop 1)).bind fun r8 => chk ((1 : Int) ≤ (((x).length : Nat) : Int)) <| if (r8.1 != (0 : Int)) = true then some ([], [], (2 : Int)) else (f54 r8.2 l7).bind fun r9 => if (!r9) = true then some ([], [], (2 : Int)) else (f55 r8.2 l7).bind fun r10 => (f26 r10 x).bind fun r11 => if (!r11) = true then some ([], [], (2 : Int)) else some (r8.2, l7, (0 : Int))) (L.length / 3) FUEL 0 [] (by omega) (fuel_lt (by omega)) (by simp)
      refine hh.trans ?_
      obtain ⟨e2, l, h53, hS⟩ := f53_some (x.drop 1) (fun s hs => hx s (List.mem_of_mem_drop hs)) (by rw [List.length_drop]; omega)
      rw [h53, some_bind, chk_pos (by omega)]
      dsimp only
      by_cases he : e2 = 0
      · have hl2 := hS he
        obtain ⟨b, h54, hb⟩ := f54_eq l s hsl (stv_bnd hl2)
        rw [if_neg (by simp [he]), h54, some_bind]
        cases b with
        | false => rw [if_pos (by rfl)]
        | true =>
          have hv2 := (hb.1 rfl).1
          have hlen := chR_len l s
          rw [if_neg (by simp), f55_eq hl2 hv2, some_bind, f26_eq _ _ (by omega), some_bind, decide_eq_false (h l s hl2 hv2), if_pos (by rfl)]
      · rw [if_pos (by simpa using he)]
theorem f24_cl (x : List (List UInt8)) (hl : x.length ≤ 1000000) : f24 x = some x := by
  unfold f24
  rw [abc_eq, chk_pos (by omega)]
  · rfl
  · intro h; rw [List.length_eq_zero_iff.1 h, chk_pos (by simp)]; rfl
theorem f6_L0_or (x : List (List UInt8)) (hn : x.length ≤ 9223372036854775807) (K : Unit → Option Bool) : f6_L0 x K FUEL 0 = some true ∨ ((∀ i, i < x.length → (x.getD i []).length ≤ 1000) ∧ f6_L0 x K FUEL 0 = K ()) := by
  rcases idx_up (f6_L0 x K) x.length (fun i => decide ((((x.getD i []).length : Nat) : Int) > 1000)) (some true) (K ()) (fun k n hn => by
    rw [f6_L0.eq_2, ifd_pos (by omega), chk_pos (by omega), f9_true]
    by_cases hb : decide ((((x.getD n []).length : Nat) : Int) > 1000) = true
    · rw [if_pos hb, if_pos hb]; rfl
    · rw [if_neg hb, if_neg hb, chk_pos (by omega)]) (fun k => by rw [f6_L0.eq_2, ifd_neg (by omega)]) x.length FUEL 0 (by omega) (fuel_lt (by omega)) with ⟨⟨i, h1, h2, h3⟩, h4⟩ | ⟨h1, h2⟩
  · exact .inl h4
  · refine .inr ⟨fun i hi => ?_, h2⟩
    have := h1 i (by omega) hi
    rw [decide_eq_false_iff_not] at this
    omega
open Classical in
theorem f6_true (x : List (List UInt8)) (_hx : ∀ o, o ∈ x → o.length ≤ 9223372036854775807) (hn : x.length ≤ 9223372036854775807) : f6 x = some true := by
  unfold f6
  rw [jn_eq]
  have hrest : (∀ s, s ∈ x → s.length ≤ 1000) → ((f9).bind fun (r4 : Bool) =>
  if ((!r4) || (decide ((((x).length : Nat) : Int) > (15 : Int)))) = true then (
  (f9 ).bind fun (r5 : Bool) =>
  some r5
  ) else (
  (f24 x).bind fun (r6 : List (List UInt8)) =>
  (f23 r6).bind fun (r7 : (List (List UInt8 × List UInt8 × Int)) × (List (Int × Int × List UInt8)) × Int) =>
  (f25 x).bind fun (r8 : (List (List UInt8 × List UInt8 × Int)) × (List (Int × Int × List UInt8)) × Int) =>
  optc ((r7.2.2 == r8.2.2) == true) (f14 r7.1 r7.2.1 r8.1 r8.2.1) fun (r9 : Bool) =>
  if ((r7.2.2 == r8.2.2) && r9) = true then (
  if (r7.2.2 != (0 : Int)) = true then (
  some true
  ) else (
  (f27 r7.1 r7.2.1).bind fun (r10 : List (List UInt8)) =>
  (f26 r10 x).bind fun (r11 : Bool) =>
  some r11
  )
  ) else (
  chk (false = true → false = true → (r7.2.2 != (0 : Int)) = false → false = true) <|
  some false
  )
  )) = some true := by
    intro hsm
    rw [f9_true, some_bind]
    by_cases hl : x.length ≤ 15
    · rw [if_neg (by simp; omega), f24_cl x (by omega), some_bind]
      by_cases hex : ∃ l s, StV l ∧ SvV s ∧ chR l s = x
      · obtain ⟨l, s, h1, h2, rfl⟩ := hex
        have hlen := chR_len l s
        rw [f23_hit h1 h2, some_bind, f25_hit h1 h2, some_bind]
        dsimp only
        rw [show (((0 : Int) == 0) == true) = true from rfl, optc_t, f14_refl l s (by have := h1.len; omega) (by have := h2.len; omega), some_bind, if_pos (by rfl), if_neg (by simp), f27_eq h1 h2, some_bind, f26_eq _ _ (by omega), some_bind, decide_eq_true rfl]
      · have hno : ∀ l s, StV l → SvV s → chR l s ≠ x := fun l s h1 h2 h3 => hex ⟨l, s, h1, h2, h3⟩
        rw [f23_miss x hsm hl hno, some_bind, f25_miss x hsm hl hno, some_bind]
        dsimp only
        rw [show (((2 : Int) == 2) == true) = true from rfl, optc_t, f14_refl [] [] (by simp) (by simp), some_bind, if_pos (by rfl), if_pos (by rfl)]
    · rw [if_pos (by simp; omega)]
      rfl
  refine (f6_L0_or x hn _).elim id fun h => h.2.trans (hrest fun s hs => ?_)
  obtain ⟨i, hi, rfl⟩ := List.getElem_of_mem hs
  have := h.1 i hi
  rwa [show x.getD i [] = x[i] by simp [List.getD_eq_getElem?_getD, hi]] at this
end Go.Abs
