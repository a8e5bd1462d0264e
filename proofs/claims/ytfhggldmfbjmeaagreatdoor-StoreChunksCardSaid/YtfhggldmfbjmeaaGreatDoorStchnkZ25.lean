/- Part 25 of the proof: Pl48z. -/
import Derived.Test.YtfhggldmfbjmeaaGreatDoorStchnkZ24
import Derived.Lib.SplitLaws
import Derived.Lib.ItoaLen
import Derived.Lib.ItoaMem
namespace Go.Abs
def badB (b : UInt8) : Bool := decide (((b.toNat : Nat) : Int) < 33) || decide (((b.toNat : Nat) : Int) > 126)
/-- 1 to n bytes from 33 to 126 -/
def gr (s : List UInt8) (n : Int) : Bool := !s.any badB && (!(s == []) && decide (((s.length : Nat) : Int) ≤ n))
theorem f30_eq (s : List UInt8) (n : Int) (hs : s.length ≤ 9223372036854775807) : f30 s n = some (gr s n) := by
  simp only [f30, jn]
  rw [any_up (fun k n => f30_L0 s _ k n) s 0 badB (some false) _ (fun k n hn => by
    show f30_L0 s _ (k + 1) n = _
    conv => lhs; unfold f30_L0
    rw [ifd_pos (by omega), chk_pos (by omega), chk_pos (fun _ => by omega)]
    show (if badB (s.getD n 0) = true then some false else _) = _
    rw [chk_pos (by omega)]) (fun k => by
    show f30_L0 s _ (k + 1) _ = _
    conv => lhs; unfold f30_L0
    rw [ifd_neg (by omega)]) FUEL (fuel_lt (by omega))]
  unfold gr
  cases s.any badB <;> simp
theorem f33_eq (s : List UInt8) (n : Int) (hs : s.length ≤ 9223372036854775807) : f33 s n = some (gr s n) := by
  simp only [f33, jn]
  rw [any_up (fun k n => f33_L0 s _ k n) s 0 badB (some false) _ (fun k n hn => by
    show f33_L0 s _ (k + 1) n = _
    conv => lhs; unfold f33_L0
    rw [ifd_pos (by omega), chk_pos (by omega), chk_pos (fun _ => by omega)]
    show (if badB (s.getD n 0) = true then some false else _) = _
    rw [chk_pos (by omega)]) (fun k => by
    show f33_L0 s _ (k + 1) _ = _
    conv => lhs; unfold f33_L0
    rw [ifd_neg (by omega)]) FUEL (fuel_lt (by omega))]
  have e : decide (((s.length : Nat) : Int) ≥ 1) = !(s == []) := by
    cases s <;> simp <;> omega
  unfold gr
  rw [e]
  cases s.any badB <;> simp
def fld (s : List UInt8) (b : Bool) : Bool := if b then gr s 64 else s == []
theorem gr_len {s : List UInt8} {n : Int} (h : gr s n = true) : (s.length : Int) ≤ n := by
  unfold gr at h
  simp only [Bool.and_eq_true, decide_eq_true_eq] at h
  exact h.2.2
/-- the parts between spaces -/
def spl : List UInt8 → List (List UInt8)
  | [] => [[]]
  | c :: l => if c = 32 then [] :: spl l else match spl l with
    | [] => [[c]]
    | w :: r => (c :: w) :: r
theorem spl_cons {c : UInt8} {l w : List UInt8} {r : List (List UInt8)} (hc : c ≠ 32) (h : spl l = w :: r) : spl (c :: l) = (c :: w) :: r := by
  conv => lhs; unfold spl
  rw [if_neg hc, h]
theorem spl_sp (l : List UInt8) : spl (32 :: l) = [] :: spl l := rfl
theorem split_spl : ∀ l : List UInt8, Lib.split l [32] = spl l
  | [] => by
    unfold Lib.split
    rw [Lib.count_one]; rfl
  | b :: l => by
    have ih := split_spl l
    have hp : ([32] : List UInt8).isPrefixOf (b :: l) = (b == 32) := by simp [List.isPrefixOf, BEq.comm]
    by_cases h : b = 32
    · subst h
      have hix : Lib.index (32 :: l) [32] = 0 := by rw [Lib.index]; simp [List.isPrefixOf]
      have hc : Lib.count (32 :: l) [32] = Lib.count l [32] + 1 := by rw [Lib.count_cons_eq]; omega
      unfold Lib.split at ih ⊢
      rw [hc]
      unfold Lib.splitK
      rw [hix, if_neg (by decide), spl_sp, ← ih]
      rfl
    · have hix : Lib.index (b :: l) [32] = if Lib.index l [32] == -1 then -1 else Lib.index l [32] + 1 := by
        rw [Lib.index, hp]; simp [h]
      have hc : Lib.count (b :: l) [32] = Lib.count l [32] := Lib.count_cons_ne b 32 l h
      unfold Lib.split at ih ⊢
      rw [hc]
      by_cases hm : Lib.index l [32] = -1
      · rw [Lib.count_miss hm] at ih ⊢
        rw [spl_cons h ih.symm]
        rfl
      · have hge := Lib.index_ge l [32]
        obtain ⟨j, hj⟩ : ∃ j : Nat, Lib.index l [32] = j := ⟨(Lib.index l [32]).toNat, by omega⟩
        obtain ⟨m, hm'⟩ : ∃ m, Lib.count l [32] = m + 1 := ⟨Lib.count (l.drop (j + ([32] : List UInt8).length)) [32], by rw [Lib.count_hit (by simp) hj]; omega⟩
        rw [hm'] at ih ⊢
        unfold Lib.splitK at ih ⊢
        have hm1 : ¬ (Lib.index l [32] == -1) = true := by simpa using hm
        rw [hix, if_neg hm1]
        rw [if_neg hm1] at ih
        rw [spl_cons h ih.symm, if_neg (by simp; omega)]
        have e1 : (Lib.index l [32] + 1).toNat + 0 = (Lib.index l [32]).toNat + 0 + 1 := by omega
        have e2 : (Lib.index l [32] + 1).toNat + [32].length = (Lib.index l [32]).toNat + ([32] : List UInt8).length + 1 := by simp; omega
        rw [e1, List.take_succ_cons]
        congr 1
        have e2' : (Lib.index l [32] + 1).toNat + ([32] : List UInt8).length = ((Lib.index l [32]).toNat + ([32] : List UInt8).length) + 1 := by simp; omega
        rw [e2', List.drop_succ_cons]
/-- a word has no space -/
def noSp (w : List UInt8) : Prop := ∀ c, c ∈ w → c ≠ 32
theorem spl_word : ∀ (w : List UInt8), noSp w → spl w = [w]
  | [], _ => rfl
  | c :: w, h => spl_cons (h c (List.mem_cons_self ..)) (spl_word w fun d hd => h d (List.mem_cons_of_mem _ hd))
theorem spl_app : ∀ (w l : List UInt8), noSp w → spl (w ++ 32 :: l) = w :: spl l
  | [], _l, _ => rfl
  | c :: w, l, h => spl_cons (h c (List.mem_cons_self ..)) (spl_app w l fun d hd => h d (List.mem_cons_of_mem _ hd))
theorem gr_sp {s : List UInt8} {n : Int} (h : gr s n = true) : noSp s := by
  rintro c hc rfl
  unfold gr at h
  have : s.any badB = true := List.any_eq_true.2 ⟨32, hc, by decide⟩
  rw [this] at h
  cases h
abbrev Pr := List UInt8 × List UInt8 × Int
abbrev less (a b : List UInt8) : Bool := Op.bytesLess a b
theorem less_nil (a : List UInt8) : less a [] = false := by cases a <;> rfl
theorem less_trans : ∀ {a b c : List UInt8}, less a b = true → less b c = true → less a c = true
  | a, [], _, h, _ => by rw [less_nil] at h; cases h
  | _, b :: y, [], _, h => by rw [less_nil] at h; cases h
  | [], _ :: _, _ :: _, _, _ => rfl
  | a :: x, b :: y, c :: z, h1, h2 => by
    have g1 : (decide (a < b) || (a == b && less x y)) = true := h1
    have g2 : (decide (b < c) || (b == c && less y z)) = true := h2
    clear h1 h2
    show (decide (a < c) || (a == c && less x z)) = true
    simp only [Bool.or_eq_true, Bool.and_eq_true, decide_eq_true_eq, beq_iff_eq, UInt8.lt_iff_toNat_lt] at g1 g2 ⊢
    rcases g1 with k1 | ⟨e1, k1⟩
    · rcases g2 with k2 | ⟨e2, k2⟩
      · left; omega
      · left; rw [← e2]; exact k1
    · rcases g2 with k2 | ⟨e2, k2⟩
      · left; rw [e1]; exact k2
      · exact .inr ⟨e1.trans e2, less_trans k1 k2⟩
/-- strictly rising keys -/
abbrev Srtd (l : List Pr) : Prop := l.Pairwise (fun p q => less p.1 q.1 = true)
def okp (p : Pr) : Prop := gr p.1 64 = true ∧ gr p.2.1 256 = true ∧ 1 ≤ p.2.2 ∧ p.2.2 ≤ 1000000000000
/-- a valid state -/
structure StV (l : List Pr) : Prop where
  len : l.length ≤ 64
  each : ∀ p, p ∈ l → okp p
  srt : Srtd l
theorem StV.nil : StV [] := ⟨by simp, by simp, .nil⟩
/-- where a key is or belongs -/
inductive View (l : List Pr) (k : List UInt8) : Prop
  | hit (A C : List Pr) (v : List UInt8) (n : Int) (h : l = A ++ (k, v, n) :: C) (hA : ∀ a, a ∈ A → less a.1 k = true) (hC : ∀ c, c ∈ C → less k c.1 = true) : View l k
  | miss (A C : List Pr) (h : l = A ++ C) (hA : ∀ a, a ∈ A → less a.1 k = true) (hC : ∀ c, c ∈ C → less k c.1 = true) : View l k
theorem getD_mem {α : Type} (l : List α) (i : Nat) (d : α) (h : i < l.length) : l.getD i d ∈ l := by
  rw [List.getD_eq_getElem?_getD, List.getElem?_eq_getElem h]; exact List.getElem_mem ..
/-- decimal digits of the specification -/
theorem f34_eq : ∀ (q n : Nat), n < 10 ^ (q + 1) → n ≤ 1000000000000000 → ∀ k, q + 1 ≤ k → f34 k (n : Int) = some (Lib.itoa (n : Int))
  | q, n, hn, hb, k, hk => by
    obtain ⟨k, rfl⟩ : ∃ z, k = z + 1 := ⟨k - 1, by omega⟩
    conv => lhs; unfold f34
    rw [Lib.itoa_nonneg]
    by_cases h : n < 10
    · rw [ifd_pos (by omega), chk_pos (by omega), chk_pos (by omega), Lib.decDigits_one h]
      congr 3
    · rw [ifd_neg (by omega)]
      match q, hn, hk with
      | 0, hn, _ => omega
      | q + 1, hn, hk =>
        have e1 : (n : Int) / 10 = ((n / 10 : Nat) : Int) := by omega
        have e2 : (n : Int) % 10 = ((n % 10 : Nat) : Int) := by omega
        rw [e1, e2, f34_eq q (n / 10) (by rw [Nat.pow_succ] at hn; omega) (by omega) k (by omega), some_bind, chk_pos (by omega), chk_pos (by omega), chk_pos (by omega), chk_pos (by omega)]
        have hl := Lib.itoa_length_le ((n / 10 : Nat) : Int) (by omega) (by omega)
        rw [chk_pos (by rw [List.length_singleton]; omega), Lib.itoa_nonneg]
        conv => rhs; rw [Lib.decDigits, dif_neg h]
        congr 3
theorem dig {n : Int} (h0 : 0 ≤ n) (h1 : n ≤ 1000000000000000) : f34 FUEL n = some (Lib.itoa n) := by
  obtain ⟨m, rfl⟩ : ∃ m : Nat, n = m := ⟨n.toNat, by omega⟩
  exact f34_eq 15 m (by omega) (by omega) FUEL (by unfold FUEL; omega)
theorem ito {n : Int} (h0 : 0 ≤ n) (h1 : n ≤ 1000000000000000) : f27 n = some (Lib.itoa n) := by
  unfold f27 itoaO
  rw [if_pos ⟨by omega, by omega⟩]
theorem ilen {n : Int} (h0 : 0 ≤ n) (h1 : n ≤ 1000000000000000) : (Lib.itoa n).length ≤ 21 := Lib.itoa_length_le n (by omega) (by omega)
theorem f7_eq (l : List Pr) (h : l.length ≤ 1000000) : f7 l = some l := by
  unfold f7
  rw [abc_eq, chk_pos (by omega)]
  · rfl
  · intro hl
    rw [chk_pos (by omega)]
    have : l = [] := List.length_eq_zero_iff.1 hl
    rw [this]; rfl

theorem f11_refl (l : List Pr) (h : l.length ≤ 1000000) : f11 l l = some true := by
  unfold f11
  rw [if_neg (by simp)]
  simp only [jn]
  rw [any_up (fun q i => f11_L0 l l (fun _ => some true) q i) l (default : Pr) (fun _ => false) none (some true) (fun q i hi => by
      show f11_L0 _ _ _ (q + 1) i = _
      conv => lhs; unfold f11_L0
      rw [ifd_pos (by omega), chk_pos (by omega), chk_pos (by omega), if_neg (by simp), chk_pos (by omega)]
      rfl) (fun q => by
      show f11_L0 _ _ _ (q + 1) _ = _
      conv => lhs; unfold f11_L0
      rw [ifd_neg (by omega)]) FUEL (fuel_lt (by omega))]
  simp
/-- what makes a state invalid -/
def bad (x : List Pr) (n : Nat) : Bool :=
  ((((!gr (x.getD n (default : Pr)).1 64) || (!gr (x.getD n (default : Pr)).2.1 256)) || (decide ((x.getD n (default : Pr)).2.2 < (1 : Int)))) || (decide ((x.getD n (default : Pr)).2.2 > (1000000000000 : Int)))) || ((decide ((n : Int) > (0 : Int))) && (!(less ((x.getD ((((n : Int) - (1 : Int))).toNat) (default : Pr)).1) ((x.getD n (default : Pr)).1))))
theorem range_up {R : Type} (L : Nat → Nat → Option R) (m : Nat) (p : Nat → Bool) (r : Option R) (K : Option R)
    (h : ∀ k n, n < m → L (k + 1) n = if p n = true then r else L k (n + 1)) (he : ∀ k, L (k + 1) m = K) (k : Nat) (hk : m < k) : L k 0 = if (List.range m).any p = true then r else K :=
  any_up L (List.range m) 0 p r K (fun k n hn => by
    rw [List.length_range] at hn
    rw [h k n hn]
    simp [List.getD_eq_getElem?_getD, hn]) (fun k => by rw [List.length_range]; exact he k) k (by rw [List.length_range]; exact hk)
def vald (x : List Pr) : Int := if x.length > 64 then 3 else if (List.range x.length).any (bad x) = true then 1 else 0
def bndP (p : Pr) : Prop := p.1.length ≤ 9223372036854775807 ∧ p.2.1.length ≤ 9223372036854775807
theorem f14_eq (x : List Pr) (hb : ∀ p, p ∈ x → bndP p) : f14 x = some (vald x) := by
  unfold f14 vald
  by_cases hl : x.length > 64
  · rw [ifd_pos (by omega), if_pos hl]
  rw [ifd_neg (by omega), if_neg hl]
  simp only [jn]
  rw [range_up (fun q i => f14_L0 x (fun _ => some 0) q i) x.length (bad x) (some 1) (some 0) (fun q i hi => by
      obtain ⟨b1, b2⟩ := hb _ (getD_mem x i (default : Pr) hi)
      show f14_L0 _ _ (q + 1) i = _
      conv => lhs; unfold f14_L0
      rw [ifd_pos (by omega), chk_pos (by omega), f30_eq _ _ b1, some_bind, f30_eq _ _ b2]
      have e : ∀ (k : Bool → Option Int), (∀ r4, gr (x.getD i (default : Pr)).1 64 = false → k r4 = k (gr (x.getD i (default : Pr)).2.1 256)) → optc ((!gr (x.getD i (default : Pr)).1 64) == false) (some (gr (x.getD i (default : Pr)).2.1 256)) k = k (gr (x.getD i (default : Pr)).2.1 256) := by
        intro k hk
        cases hg : gr (x.getD i (default : Pr)).1 64
        · exact hk _ hg
        · rfl
      rw [e]
      · rw [chk_pos (fun _ => by omega), chk_pos (fun h => by simp only [Bool.and_eq_true, beq_iff_eq, decide_eq_true_eq] at h; omega), chk_pos (fun _ h1 h2 => by rw [h1, h2]; rfl), chk_pos (by omega)]
        rfl
      · intro r4 hg
        rw [hg]
        simp [chk]) (fun q => by
      show f14_L0 _ _ (q + 1) _ = _
      conv => lhs; unfold f14_L0
      rw [ifd_neg (by omega)]) FUEL (fuel_lt (by omega))]
  split <;> rfl
theorem f17_eq (x : List Pr) (hb : ∀ p, p ∈ x → bndP p) : f17 x = some (vald x) := by
  have e38 : ∀ s : List UInt8, s.length ≤ 9223372036854775807 → f32 s = some (gr s 64) := fun s hs => by unfold f32; rw [f33_eq s 64 hs]; rfl
  unfold f17 vald
  by_cases hl : x.length > 64
  · rw [ifd_pos (by omega), if_pos hl]
  rw [ifd_neg (by omega), if_neg hl]
  simp only [jn]
  rw [range_up (fun q i => f17_L0 x (fun _ => some 0) q i) x.length (bad x) (some 1) (some 0) (fun q i hi => by
      obtain ⟨b1, b2⟩ := hb _ (getD_mem x i (default : Pr) hi)
      show f17_L0 _ _ (q + 1) i = _
      conv => lhs; unfold f17_L0
      rw [ifd_pos (by omega), e38 _ b1, some_bind, f33_eq _ _ b2]
      have e : ∀ (k : Bool → Option Int), (∀ r4, gr (x.getD i (default : Pr)).1 64 = false → k r4 = k (gr (x.getD i (default : Pr)).2.1 256)) → optc ((!gr (x.getD i (default : Pr)).1 64) == false) (some (gr (x.getD i (default : Pr)).2.1 256)) k = k (gr (x.getD i (default : Pr)).2.1 256) := by
        intro k hk
        cases hg : gr (x.getD i (default : Pr)).1 64
        · exact hk _ hg
        · rfl
      rw [e]
      · rw [chk_pos (by omega), chk_pos (fun _ => by omega), chk_pos (fun _ => by omega), chk_pos (fun _ => by omega), chk_pos (fun _ => by omega), chk_pos (fun h => by simp only [Bool.and_eq_true, beq_iff_eq, decide_eq_true_eq] at h; omega), chk_pos (fun _ => by omega), chk_pos (fun _ h1 h2 => by rw [h1, h2]; rfl), chk_pos (by omega)]
        rfl
      · intro r4 hg
        rw [hg]
        simp [chk]) (fun q => by
      show f17_L0 _ _ (q + 1) _ = _
      conv => lhs; unfold f17_L0
      rw [ifd_neg (by omega)]) FUEL (fuel_lt (by omega))]
  split <;> rfl
theorem adj_pair : ∀ (l : List Pr), (∀ n, n + 1 < l.length → less (l.getD n (default : Pr)).1 (l.getD (n + 1) (default : Pr)).1 = true) → Srtd l
  | [], _ => .nil
  | [_], _ => by simp [Srtd]
  | a :: c :: l, h => by
    have ih := adj_pair (c :: l) fun n hn => by
      have := h (n + 1) (by simp at hn ⊢; omega)
      simpa using this
    have h0 : less a.1 c.1 = true := by simpa using h 0 (by simp)
    refine List.pairwise_cons.2 ⟨fun b hb => ?_, ih⟩
    rcases List.mem_cons.1 hb with rfl | hb
    · exact h0
    · exact less_trans h0 ((List.pairwise_cons.1 ih).1 b hb)
theorem stv_of {x : List Pr} (h : vald x = 0) : StV x := by
  unfold vald at h
  split at h
  · cases h
  rename_i hl
  split at h
  · cases h
  rename_i hb
  have hb : ∀ n, n < x.length → bad x n = false := by
    intro n hn
    cases e : bad x n
    · rfl
    · exact absurd (List.any_eq_true.2 ⟨n, List.mem_range.2 hn, e⟩) hb
  refine ⟨by omega, fun p hp => ?_, adj_pair x fun n hn => ?_⟩
  · obtain ⟨n, hn, rfl⟩ := List.getElem_of_mem hp
    have := hb n hn
    have e : x.getD n (default : Pr) = x[n] := by simp [List.getD_eq_getElem?_getD, hn]
    unfold bad at this
    rw [e] at this
    simp only [Bool.or_eq_false_iff, Bool.not_eq_false', decide_eq_false_iff_not] at this
    exact ⟨this.1.1.1.1, this.1.1.1.2, by omega, by omega⟩
  · have := hb (n + 1) hn
    unfold bad at this
    simp only [Bool.or_eq_false_iff, Bool.and_eq_false_iff, Bool.not_eq_false', decide_eq_false_iff_not] at this
    rcases this.2 with h | h
    · omega
    · have e : (((n + 1 : Nat) : Int) - 1).toNat = n := by omega
      rw [e] at h
      exact h
theorem vald_of {x : List Pr} (h : StV x) : vald x = 0 := by
  unfold vald
  rw [if_neg (by have := h.len; omega), if_neg]
  intro hb
  obtain ⟨n, hn, hb⟩ := List.any_eq_true.1 hb
  have hn := List.mem_range.1 hn
  obtain ⟨h1, h2, h3, h4⟩ := h.each _ (getD_mem x n (default : Pr) hn)
  unfold bad at hb
  rw [h1, h2] at hb
  simp only [Bool.not_true, Bool.false_or, Bool.or_eq_true, Bool.and_eq_true, decide_eq_true_eq, Bool.not_eq_true'] at hb
  rcases hb with (hb | hb) | ⟨hb1, hb2⟩
  · omega
  · omega
  · have e : ((n : Int) - 1).toNat = n - 1 := by omega
    rw [e] at hb2
    have h0 : n - 1 < x.length := by omega
    have := List.pairwise_iff_getElem.1 h.srt (n - 1) n h0 hn (by omega)
    have e1 : x.getD (n - 1) (default : Pr) = x[n - 1] := by simp [List.getD_eq_getElem?_getD, h0]
    have e2 : x.getD n (default : Pr) = x[n] := by simp [List.getD_eq_getElem?_getD, hn]
    rw [e1, e2, this] at hb2
    cases hb2
theorem stv_bnd {x : List Pr} (h : StV x) : ∀ p, p ∈ x → bndP p := fun p hp => by
  obtain ⟨h1, h2, _, _⟩ := h.each p hp
  have := gr_len h1; have := gr_len h2
  exact ⟨by omega, by omega⟩
theorem f9_refl (l : List (List UInt8)) (h : l.length ≤ 1000000) : f9 l l = some true := by
  unfold f9
  rw [if_neg (by simp)]
  simp only [jn]
  rw [any_up (fun q i => f9_L0 l l (fun _ => some true) q i) l [] (fun _ => false) none (some true) (fun q i hi => by
      show f9_L0 _ _ _ (q + 1) i = _
      conv => lhs; unfold f9_L0
      rw [ifd_pos (by omega), chk_pos (by omega), chk_pos (by omega), if_neg (by simp), chk_pos (by omega)]
      rfl) (fun q => by
      show f9_L0 _ _ _ (q + 1) _ = _
      conv => lhs; unfold f9_L0
      rw [ifd_neg (by omega)]) FUEL (fuel_lt (by omega))]
  simp
end Go.Abs
