/- Part 24 of the proof: Pl, Thr19a, Chs, Cpt, Pltz, Trv, Memtz, Chtz, Tza, PlFtz, Pf1tz, Thtz, Tzb, Tzc. -/
import Derived.Test.YtjgboohpholnbaaGreatDoorTpcomZ23
namespace Go.Abs
theorem chk_pos {p : Prop} [Decidable p] {α : Type} {x : Option α} (h : p) : chk p x = x := if_pos h
theorem ifd_pos {p : Prop} [Decidable p] {α : Type} {x y : α} (h : p) : (if decide p = true then x else y) = x := if_pos (decide_eq_true h)
theorem ifd_neg {p : Prop} [Decidable p] {α : Type} {x y : α} (h : ¬ p) : (if decide p = true then x else y) = y := if_neg (by simpa using h)
theorem jn_eq {α β : Type} (K : α → Option β) (x : (α → Option β) → Option β) : jn K x = x K := rfl
theorem optc_t {α β : Type} [Inhabited α] {x : Option α} {k : α → Option β} : optc true x k = x.bind k := rfl
theorem optc_f {α β : Type} [Inhabited α] {x : Option α} {k : α → Option β} : optc false x k = k default := rfl
theorem some_bind {α β : Type} (a : α) (f : α → Option β) : (some a).bind f = f a := rfl
theorem abc_eq {α : Type} [DecidableEq α] {q : Prop} [Decidable q] {x y : Option α} (h : q → x = y) : abc q x y = y := by
 unfold abc both
 split
 ·rename_i hq; rw [h hq]; simp
 ·rfl
theorem fuel_lt {n : Nat} (h : n ≤ 18446744073709551615) : n < FUEL := by unfold FUEL; omega
theorem getD_drop {α : Type} (x : List α) (n : Nat) (d : α) (h : n < x.length) : x.drop n = x.getD n d :: x.drop (n + 1) := by
 rw [List.drop_eq_getElem_cons h]
 simp [List.getD_eq_getElem?_getD, h]
theorem fold_up {α S R : Type} (L : Nat → Nat × S → Option R) (x : List α) (d : α) (Inv : Nat → S → Prop) (g : S → α → S) (K : S → Option R)
  (h : ∀ k n s, n < x.length → Inv n s → L (k + 1) (n, s) = L k (n + 1, g s (x.getD n d)))
  (hI : ∀ n s, n < x.length → Inv n s → Inv (n + 1) (g s (x.getD n d)))
  (he : ∀ k s, Inv x.length s → L (k + 1) (x.length, s) = K s) : ∀ c k n s, n + c = x.length → c < k → Inv n s → L k (n, s) = K ((x.drop n).foldl g s)
 | 0, k, n, s, hn, hk, hi => by
  obtain ⟨k, rfl⟩ : ∃ q, k = q + 1 := ⟨k - 1, by omega⟩
  obtain rfl : n = x.length := by omega
  rw [he k s hi, List.drop_eq_nil_of_le (Nat.le_refl _)]; rfl
 | c + 1, k, n, s, hn, hk, hi => by
  obtain ⟨k, rfl⟩ : ∃ q, k = q + 1 := ⟨k - 1, by omega⟩
  have hlt : n < x.length := by omega
  rw [h k n s hlt hi, getD_drop x n d hlt]
  exact fold_up L x d Inv g K h hI he c k (n + 1) _ (by omega) (by omega) (hI n s hlt hi)
theorem foldl_inv {α S : Type} (Inv : Nat → S → Prop) (g : S → α → S) (d : α) (x : List α) (hI : ∀ n s, n < x.length → Inv n s → Inv (n + 1) (g s (x.getD n d))) (s : S) (h0 : Inv 0 s) : Inv x.length (x.foldl g s) := by
 suffices H : ∀ c n s, n + c = x.length → Inv n s → Inv x.length ((x.drop n).foldl g s) by simpa using H x.length 0 s (by omega) h0
 intro c
 induction c with
 | zero =>
  intro n s hn hi
  obtain rfl : n = x.length := by omega
  rw [List.drop_eq_nil_of_le (Nat.le_refl _)]; exact hi
 | succ c ih =>
  intro n s hn hi
  have hlt : n < x.length := by omega
  rw [getD_drop x n d hlt]
  exact ih (n + 1) _ (by omega) (hI n s hlt hi)
theorem find_up {α R : Type} (L : Nat → Nat → Option R) (x : List α) (d : α) (p : α → Bool) (r : Nat → Option R) (K : Option R)
  (h : ∀ k n, n < x.length → L (k + 1) n = if p (x.getD n d) = true then r n else L k (n + 1))
  (he : ∀ k, L (k + 1) x.length = K) : ∀ c k n, n + c = x.length → c < k →
   (∃ m, n ≤ m ∧ m < x.length ∧ p (x.getD m d) = true ∧ L k n = r m ∧ (x.drop n).any p = true) ∨ (L k n = K ∧ (x.drop n).any p = false)
 | 0, k, n, hn, hk => by
  obtain ⟨k, rfl⟩ : ∃ q, k = q + 1 := ⟨k - 1, by omega⟩
  obtain rfl : n = x.length := by omega
  exact .inr ⟨he k, by rw [List.drop_eq_nil_of_le (Nat.le_refl _)]; rfl⟩
 | c + 1, k, n, hn, hk => by
  obtain ⟨k, rfl⟩ : ∃ q, k = q + 1 := ⟨k - 1, by omega⟩
  have hlt : n < x.length := by omega
  rw [h k n hlt, getD_drop x n d hlt]
  by_cases hp : p (x.getD n d) = true
  ·rw [if_pos hp]; exact .inl ⟨n, Nat.le_refl _, hlt, hp, rfl, by rw [List.any_cons, hp]; rfl⟩
  ·rw [if_neg hp]
   have hp' : p (x.getD n d) = false := by simpa using hp
   rw [List.any_cons, hp', Bool.false_or]
   rcases find_up L x d p r K h he c k (n + 1) (by omega) (by omega) with ⟨m, h1, h2⟩ | h2
   ·exact .inl ⟨m, by omega, h2⟩
   ·exact .inr h2
theorem any_up {α R : Type} (L : Nat → Nat → Option R) (x : List α) (d : α) (p : α → Bool) (r : Option R) (K : Option R)
  (h : ∀ k n, n < x.length → L (k + 1) n = if p (x.getD n d) = true then r else L k (n + 1))
  (he : ∀ k, L (k + 1) x.length = K) (k : Nat) (hk : x.length < k) : L k 0 = if x.any p = true then r else K := by
 rcases find_up L x d p (fun _ => r) K h he x.length k 0 (by omega) hk with ⟨m, _, _, _, h1, h2⟩ | ⟨h1, h2⟩
 ·rw [h1, if_pos (by simpa using h2)]
 ·rw [h1, if_neg (by simpa using h2)]
end Go.Abs
namespace Go.Abs
def cntB (x : Nat) : Nat → Nat
 | 0 => 0
 | p + 1 => cntB x p + x / 2 ^ p % 2
theorem bsum_snoc (x : Nat) : ∀ c i, bsum x i (c + 1) = bsum x i c + x / 2 ^ (i + c) % 2
 | 0, i => by simp [bsum]
 | c + 1, i => by
  have ih := bsum_snoc x c (i + 1)
  show x / 2 ^ i % 2 + bsum x (i + 1) (c + 1) = x / 2 ^ i % 2 + bsum x (i + 1) c + _
  rw [ih, show i + 1 + c = i + (c + 1) from by omega]; omega
theorem cntB_bsum (x : Nat) : ∀ p, cntB x p = bsum x 0 p
 | 0 => rfl
 | p + 1 => by rw [bsum_snoc, cntB, cntB_bsum x p, Nat.zero_add]
theorem cntB_sz (x : BitVec 16) : cntB x.toNat 16 = sz x := cntB_bsum _ _
def subB (y x : Nat) : Nat → Bool
 | 0 => true
 | p + 1 => subB y x p && decide (y / 2 ^ p % 2 ≤ x / 2 ^ p % 2)
theorem subB_iff (y x : Nat) : ∀ p, subB y x p = true ↔ ∀ j, j < p → y / 2 ^ j % 2 ≤ x / 2 ^ j % 2
 | 0 => by simp [subB]
 | p + 1 => by
  rw [subB, Bool.and_eq_true, subB_iff y x p, decide_eq_true_eq]
  constructor
  ·rintro ⟨h1, h2⟩ j hj
   rcases Nat.lt_or_ge j p with h | h
   ·exact h1 j h
   ·obtain rfl : j = p := by omega
    exact h2
  ·intro h
   exact ⟨fun j hj => h j (by omega), h p (by omega)⟩
theorem bit_low {p j y : Nat} (h : j < p) : (2 ^ p + y) / 2 ^ j % 2 = y / 2 ^ j % 2 := by
 obtain ⟨d, rfl⟩ : ∃ d, p = j + 1 + d := ⟨p - j - 1, by omega⟩
 have e : 2 ^ (j + 1 + d) + y = y + 2 ^ j * (2 * 2 ^ d) := by
  rw [Nat.pow_add, Nat.pow_succ, Nat.mul_assoc, Nat.add_comm]
 rw [e, Nat.add_mul_div_left _ _ (Nat.pow_pos (by decide)), Nat.add_mul_mod_self_left]
theorem bit_self {p y : Nat} (h : y < 2 ^ p) : (2 ^ p + y) / 2 ^ p % 2 = 1 := by
 rw [Nat.add_div_left _ (Nat.pow_pos (by decide)), Nat.div_eq_of_lt h]
theorem bit_hi {p y : Nat} (h : y < 2 ^ p) : y / 2 ^ p % 2 = 0 := by
 rw [Nat.div_eq_of_lt h]
theorem bit_01 (x j : Nat) : x / 2 ^ j % 2 = 0 ∨ x / 2 ^ j % 2 = 1 := by omega
theorem cntB_le (x : Nat) : ∀ p, cntB x p ≤ p
 | 0 => Nat.le_refl _
 | p + 1 => by
  have := cntB_le x p
  have := bit_01 x p
  rw [cntB]; omega
theorem cntB_congr {x y : Nat} : ∀ p, (∀ j, j < p → x / 2 ^ j % 2 = y / 2 ^ j % 2) → cntB x p = cntB y p
 | 0, _ => rfl
 | p + 1, h => by
  rw [cntB, cntB, cntB_congr p fun j hj => h j (by omega), h p (by omega)]
theorem subB_congr {x y z w : Nat} (p : Nat) (h1 : ∀ j, j < p → x / 2 ^ j % 2 = y / 2 ^ j % 2) (h2 : ∀ j, j < p → z / 2 ^ j % 2 = w / 2 ^ j % 2) : subB x z p = subB y w p := by
 rw [Bool.eq_iff_iff, subB_iff, subB_iff]
 constructor
 ·intro h j hj; rw [← h1 j hj, ← h2 j hj]; exact h j hj
 ·intro h j hj; rw [h1 j hj, h2 j hj]; exact h j hj
def sbs (x : Nat) : Nat → Nat → List Nat
 | 0, k => if k = 0 then [0] else []
 | p + 1, k => sbs x p k ++ if x / 2 ^ p % 2 = 1 ∧ 0 < k then (sbs x p (k - 1)).map (2 ^ p + ·) else []
theorem sbs_filter (x : Nat) : ∀ p k, (List.range (2 ^ p)).filter (fun y => subB y x p && decide (cntB y p = k)) = sbs x p k
 | 0, k => by cases k <;> rfl
 | p + 1, k => by
  rw [show 2 ^ (p + 1) = 2 ^ p + 2 ^ p from by rw [Nat.pow_succ]; omega, List.range_add, List.filter_append, List.filter_map, sbs]
  congr 1
  ·rw [← sbs_filter x p k]
   refine List.filter_congr fun y hy => ?_
   have hy := List.mem_range.1 hy
   show ((subB y x p && decide (y / 2 ^ p % 2 ≤ x / 2 ^ p % 2)) && decide (cntB y p + y / 2 ^ p % 2 = k)) = _
   rw [bit_hi hy]; simp
  ·by_cases hb : x / 2 ^ p % 2 = 1 ∧ 0 < k
   ·rw [if_pos hb, ← sbs_filter x p (k - 1)]
    congr 1
    refine List.filter_congr fun y hy => ?_
    have hy := List.mem_range.1 hy
    show ((subB (2 ^ p + y) x p && decide ((2 ^ p + y) / 2 ^ p % 2 ≤ x / 2 ^ p % 2)) && decide (cntB (2 ^ p + y) p + (2 ^ p + y) / 2 ^ p % 2 = k)) = _
    rw [bit_self hy, hb.1, subB_congr p (fun j hj => bit_low hj) (fun _ _ => rfl), cntB_congr p (fun j hj => bit_low hj)]
    have : (cntB y p + 1 = k) ↔ (cntB y p = k - 1) := by omega
    simp [this]
   ·rw [if_neg hb]
    rw [List.filter_eq_nil_iff.2, List.map_nil]
    intro y hy
    have hy := List.mem_range.1 hy
    show ¬ ((subB (2 ^ p + y) x p && decide ((2 ^ p + y) / 2 ^ p % 2 ≤ x / 2 ^ p % 2)) && decide (cntB (2 ^ p + y) p + (2 ^ p + y) / 2 ^ p % 2 = k)) = true
    rw [bit_self hy]
    have := bit_01 x p
    simp only [Bool.and_eq_true, decide_eq_true_eq]
    omega
theorem mem_sbs {x p k y : Nat} : y ∈ sbs x p k ↔ y < 2 ^ p ∧ subB y x p = true ∧ cntB y p = k := by
 rw [← sbs_filter]
 simp [List.mem_filter]
theorem sbs_sorted (x p k : Nat) : (sbs x p k).Pairwise (· < ·) := by
 rw [← sbs_filter]
 exact List.Pairwise.filter _ List.pairwise_lt_range
theorem sbs_ne (x : Nat) : ∀ p k, k ≤ cntB x p → sbs x p k ≠ []
 | 0, k, h => by
  obtain rfl : k = 0 := by simpa [cntB] using h
  simp [sbs]
 | p + 1, k, h => by
  rw [cntB] at h
  rw [sbs]
  by_cases hk : k ≤ cntB x p
  ·have := sbs_ne x p k hk
   simp [this]
  ·have hb := bit_01 x p
   rw [if_pos (by omega)]
   have := sbs_ne x p (k - 1) (by omega)
   simp [this]
def cmb : Nat → Nat → List Nat
 | 0, k => if k = 0 then [0] else []
 | m + 1, k => cmb m k ++ if 0 < k then (cmb m (k - 1)).map (2 ^ m + ·) else []
theorem cmb_lt : ∀ m k i, i ∈ cmb m k → i < 2 ^ m
 | 0, k, i, h => by
  unfold cmb at h
  split at h
  ·simp at h; omega
  ·cases h
 | m + 1, k, i, h => by
  have e : 2 ^ (m + 1) = 2 ^ m + 2 ^ m := by rw [Nat.pow_succ]; omega
  rw [cmb] at h
  rcases List.mem_append.1 h with h | h
  ·have := cmb_lt m k i h; omega
  ·split at h
   ·obtain ⟨j, hj, rfl⟩ := List.mem_map.1 h
    have := cmb_lt m _ j hj; omega
   ·cases h
def memP (x p : Nat) : List Nat := (List.range p).filter fun i => decide (x / 2 ^ i % 2 = 1)
theorem memP_succ (x p : Nat) : memP x (p + 1) = memP x p ++ if x / 2 ^ p % 2 = 1 then [p] else [] := by
 unfold memP
 rw [List.range_succ, List.filter_append]
 congr 1
 split <;> rename_i h <;> simp [h]
theorem memP_len (x : Nat) : ∀ p, (memP x p).length = cntB x p
 | 0 => rfl
 | p + 1 => by
  rw [memP_succ, List.length_append, memP_len x p, cntB]
  have := bit_01 x p
  split
  ·simp; omega
  ·simp; omega
def plc : List Nat → Nat → Nat
 | [], _ => 0
 | p :: L, i => (if i % 2 = 1 then 2 ^ p else 0) + plc L (i / 2)
theorem plc_snoc (p : Nat) : ∀ (L : List Nat) (i : Nat), plc (L ++ [p]) i = plc L i + if i / 2 ^ L.length % 2 = 1 then 2 ^ p else 0
 | [], i => by simp [plc]
 | q :: L, i => by
  rw [List.cons_append, plc, plc_snoc p L (i / 2), plc, List.length_cons, Nat.div_div_eq_div_mul, Nat.pow_succ, Nat.mul_comm 2]
  omega
theorem plc_add : ∀ (L : List Nat) (i : Nat), plc L (2 ^ L.length + i) = plc L i
 | [], i => rfl
 | q :: L, i => by
  have e : 2 ^ (q :: L).length = 2 * 2 ^ L.length := by rw [List.length_cons, Nat.pow_succ, Nat.mul_comm]
  rw [plc, plc, e, show (2 * 2 ^ L.length + i) % 2 = i % 2 from by omega, show (2 * 2 ^ L.length + i) / 2 = 2 ^ L.length + i / 2 from by omega, plc_add L (i / 2)]
theorem plc_cmb (x : Nat) : ∀ p k, (cmb (cntB x p) k).map (plc (memP x p)) = sbs x p k
 | 0, k => by
  show (cmb 0 k).map (plc []) = sbs x 0 k
  unfold cmb sbs
  split <;> rfl
 | p + 1, k => by
  rw [memP_succ, cntB, sbs]
  rcases bit_01 x p with hb | hb
  ·rw [hb, if_neg (by omega), if_neg (by omega), List.append_nil, List.append_nil, Nat.add_zero]
   exact plc_cmb x p k
  ·rw [hb, if_pos rfl, cmb, List.map_append]
   congr 1
   ·rw [← plc_cmb x p k]
    refine List.map_congr_left fun i hi => ?_
    have := cmb_lt _ _ i hi
    rw [plc_snoc, memP_len, bit_hi this]
    rfl
   ·by_cases hk : 0 < k
    ·rw [if_pos hk, if_pos ⟨rfl, hk⟩, ← plc_cmb x p (k - 1), List.map_map, List.map_map]
     refine List.map_congr_left fun i hi => ?_
     have := cmb_lt _ _ i hi
     show plc (memP x p ++ [p]) (2 ^ cntB x p + i) = 2 ^ p + plc (memP x p) i
     have h1 := plc_add (memP x p) i
     rw [memP_len] at h1
     rw [plc_snoc, memP_len, bit_self this, if_pos rfl, h1, Nat.add_comm]
    ·rw [if_neg hk, if_neg (fun h => hk h.2)]; rfl
/-! ### sets of servers -/
theorem bitB (x : BitVec 16) (j : Nat) : x.toNat / 2 ^ j % 2 = if x.getLsbD j = true then 1 else 0 := by
 have e : x.getLsbD j = x.toNat.testBit j := rfl
 rw [e, Nat.testBit_eq_decide_div_mod_eq]
 have := bit_01 x.toNat j
 by_cases h : x.toNat / 2 ^ j % 2 = 1
 ·simp [h]
 ·simp [h]; omega
theorem sub_subB (y x : BitVec 16) : sub y x = subB y.toNat x.toNat 16 := by
 rw [Bool.eq_iff_iff, subB_iff]
 constructor
 ·intro h j hj; exact sub_bits h j hj
 ·intro h
  refine sub_iff.2 fun i hi hy => ?_
  have := h i hi
  rw [bitB, bitB, if_pos hy] at this
  cases hx : x.getLsbD i with
  | true => rfl
  | false => rw [hx] at this; simp at this
def chooseB (s : BitVec 16) (k : Nat) : List (BitVec 16) := (sbs s.toNat 16 k).map (BitVec.ofNat 16)
theorem ofNat_toNat16 {u : Nat} (h : u < 2 ^ 16) : (BitVec.ofNat 16 u).toNat = u := by
 rw [BitVec.toNat_ofNat, Nat.mod_eq_of_lt h]
theorem mem_chooseB {s : BitVec 16} {k : Nat} {u : BitVec 16} : u ∈ chooseB s k ↔ sub u s = true ∧ sz u = k := by
 unfold chooseB
 rw [List.mem_map, sub_subB, ← cntB_sz]
 constructor
 ·rintro ⟨v, hv, rfl⟩
  obtain ⟨h1, h2, h3⟩ := mem_sbs.1 hv
  rw [ofNat_toNat16 h1]
  exact ⟨h2, h3⟩
 ·rintro ⟨h1, h2⟩
  exact ⟨u.toNat, mem_sbs.2 ⟨u.isLt, h1, h2⟩, by simp⟩
theorem chooseB_sorted (s : BitVec 16) (k : Nat) : (chooseB s k).Pairwise fun a b => a.toNat < b.toNat := by
 unfold chooseB
 rw [List.pairwise_map]
 refine List.Pairwise.imp_of_mem ?_ (sbs_sorted s.toNat 16 k)
 intro a b ha hb h
 rw [ofNat_toNat16 (mem_sbs.1 ha).1, ofNat_toNat16 (mem_sbs.1 hb).1]
 exact h
theorem chooseB_ne {s : BitVec 16} {k : Nat} (h : k ≤ sz s) : chooseB s k ≠ [] := by
 unfold chooseB
 have := sbs_ne s.toNat 16 k (by rw [cntB_sz]; exact h)
 simp [this]
end Go.Abs
namespace Go.Abs
def lowN : Nat → Nat → Nat
 | 0, _ => 0
 | c + 1, w => if w % 2 = 1 then 0 else lowN c (w / 2) + 1
def lowB (i : Int) : Int := bitsI .and .u32 i (IntKind.wrap .u32 (0 - i))
def gosN (i : Int) : Int := bitsI .or .u32 (i + lowB i) ((bitsI .xor .u32 i (i + lowB i)) / lowB i / 2 ^ 2)
def gosC (i : Int) : Bool := decide (0 ≤ i + lowB i ∧ i + lowB i ≤ 4294967295) && decide (0 ≤ bitsI .xor .u32 i (i + lowB i) ∧ 1 ≤ lowB i ∧ 0 ≤ bitsI .xor .u32 i (i + lowB i) / lowB i ∧ bitsI .xor .u32 i (i + lowB i) / lowB i ≤ 4294967295)
def chainG (m : Nat) (a : Nat) : List Nat → Bool
 | [] => decide (a < 2 ^ m) && (a == 0 || (gosC (a : Int) && decide ((1 : Int) * 2 ^ m ≤ gosN (a : Int))))
 | b :: t => decide (a < 2 ^ m) && !(a == 0) && gosC (a : Int) && decide (gosN (a : Int) = (b : Int)) && chainG m b t
def gOK (m k : Nat) : Bool := match cmb m k with
 | [] => false
 | a :: t => decide (a + 1 = 2 ^ k) && chainG m a t && decide (t.length ≤ 4096)
def gAll (m : Nat) : Bool := (List.range (m + 1)).all fun k => gOK m k
theorem gAll_eq : ∀ m : Nat, m ≤ 12 → gAll m = true
 | 0, _ => by kernel_rfl
 | 1, _ => by kernel_rfl
 | 2, _ => by kernel_rfl
 | 3, _ => by kernel_rfl
 | 4, _ => by kernel_rfl
 | 5, _ => by kernel_rfl
 | 6, _ => by kernel_rfl
 | 7, _ => by kernel_rfl
 | 8, _ => by kernel_rfl
 | 9, _ => by kernel_rfl
 | 10, _ => by kernel_rfl
 | 11, _ => by kernel_rfl
 | 12, _ => by kernel_rfl
 | n + 13, h => absurd h (by omega)
theorem gOK_of {m k : Nat} (hm : m ≤ 12) (hk : k ≤ m) : ∃ a t, cmb m k = a :: t ∧ a + 1 = 2 ^ k ∧ chainG m a t = true ∧ t.length ≤ 4096 := by
 have := List.all_eq_true.1 (gAll_eq m hm) k (List.mem_range.2 (by omega))
 unfold gOK at this
 split at this
 ·cases this
 ·rename_i a t e
  simp only [Bool.and_eq_true, decide_eq_true_eq] at this
  exact ⟨a, t, e, this.1.1, this.1.2, this.2⟩
theorem and1_all : ((List.range 4096).all fun x => (bitsI .and .u32 (x : Int) 1 == 1) == decide (x % 2 = 1)) = true := by kernel_rfl
theorem and1 {x : Nat} (h : x < 4096) : (bitsI .and .u32 (x : Int) 1 == 1) = decide (x % 2 = 1) := by
 have := List.all_eq_true.1 and1_all x (List.mem_range.2 h)
 simpa using this
def wP : List Nat → Nat → BitVec 16 → BitVec 16
 | [], _, w => w
 | p :: L, i, w => wP L (i / 2) (if i % 2 = 1 then w ||| ((BitVec.ofInt 16 1) <<< p) else w)
theorem wP_plc : ∀ (L : List Nat) (q i : Nat) (w : BitVec 16), (∀ p, p ∈ L → q ≤ p ∧ p < 16) → L.Pairwise (· < ·) → w.toNat < 2 ^ q → (wP L i w).toNat = w.toNat + plc L i
 | [], _, _, _, _, _, _ => rfl
 | p :: L, q, i, w, h1, h2, h3 => by
  obtain ⟨hq, hp⟩ := h1 p (List.mem_cons_self ..)
  rw [List.pairwise_cons] at h2
  have hqp : 2 ^ q ≤ 2 ^ p := Nat.pow_le_pow_right (by decide) hq
  have e : 2 ^ (p + 1) = 2 ^ p + 2 ^ p := by rw [Nat.pow_succ]; omega
  rw [wP, plc]
  have hL : ∀ r, r ∈ L → p + 1 ≤ r ∧ r < 16 := fun r hr => ⟨h2.1 r hr, (h1 r (List.mem_cons_of_mem _ hr)).2⟩
  by_cases hi : i % 2 = 1
  ·rw [if_pos hi, if_pos hi]
   have ew : (w ||| ((BitVec.ofInt 16 1) <<< p)).toNat = w.toNat + 2 ^ p := by
    have e1 : ((BitVec.ofInt 16 1) <<< p).toNat = 2 ^ p := by
     rw [BitVec.toNat_shiftLeft]
     show 1 <<< p % 2 ^ 16 = 2 ^ p
     rw [Nat.one_shiftLeft, Nat.mod_eq_of_lt (Nat.pow_lt_pow_right (by decide) hp)]
    have e2 := Nat.two_pow_add_eq_or_of_lt (i := p) (b := w.toNat) (by omega) 1
    rw [BitVec.toNat_or, e1, Nat.or_comm]
    simp only [Nat.mul_one] at e2
    omega
   rw [wP_plc L (p + 1) (i / 2) _ hL h2.2 (by rw [ew]; omega), ew]
   omega
  ·rw [if_neg hi, if_neg hi, wP_plc L (p + 1) (i / 2) w hL h2.2 (by omega)]
   omega
theorem memP_lt {x p i : Nat} (h : i ∈ memP x p) : i < p := List.mem_range.1 (List.mem_filter.1 h).1
theorem memP_sorted (x p : Nat) : (memP x p).Pairwise (· < ·) := List.Pairwise.filter _ List.pairwise_lt_range
theorem wP_choose (s : BitVec 16) (k : Nat) : (cmb (sz s) k).map (fun j => wP (memP s.toNat 16) j 0#16) = chooseB s k := by
 unfold chooseB
 rw [← plc_cmb, cntB_sz, List.map_map]
 refine List.map_congr_left fun j _ => ?_
 have h := wP_plc (memP s.toNat 16) 0 j 0#16 (fun p hp => ⟨Nat.zero_le _, memP_lt hp⟩) (memP_sorted _ _) (by decide)
 apply BitVec.eq_of_toNat_eq
 have h2 : (0#16).toNat = 0 := rfl
 rw [h2, Nat.zero_add] at h
 show _ = (BitVec.ofNat 16 (plc (memP s.toNat 16) j)).toNat
 rw [← h, ofNat_toNat16 (BitVec.isLt _)]
theorem mp_len (L : List Nat) : (L.map fun i : Nat => (i : Int)).length = L.length := List.length_map _
theorem mp_get (L : List Nat) (n : Nat) (h : n < L.length) : (L.map fun i : Nat => (i : Int)).getD n 0 = ((L.getD n 0 : Nat) : Int) := by
 simp [List.getD_eq_getElem?_getD, h]
theorem divc (i n : Nat) : ((i : Int) / 2 ^ n) = ((i / 2 ^ n : Nat) : Int) := by
 rw [Int.natCast_ediv, Int.natCast_pow]; rfl
theorem pow12 {m : Nat} (hm : m ≤ 12) : (1 : Int) * 2 ^ m ≤ 4096 ∧ 0 ≤ (1 : Int) * 2 ^ m ∧ (1 : Int) * 2 ^ m = ((2 ^ m : Nat) : Int) := by
 have h1 : 2 ^ m ≤ 2 ^ 12 := Nat.pow_le_pow_right (n := 2) (by decide) hm
 have e : (1 : Int) * 2 ^ m = ((2 ^ m : Nat) : Int) := by rw [Int.one_mul, Int.natCast_pow]; rfl
 rw [e]
 exact ⟨Int.ofNat_le.2 h1, Int.natCast_nonneg _, rfl⟩
/-! ### going through sets of a size, in order -/
def runG {S : Type} (g : S → BitVec 16 → Nat × S) : List (BitVec 16) → S → Nat × S
 | [], st => (0, st)
 | x :: t, st => if (g st x).1 = 0 then runG g t (g st x).2 else g st x
theorem runG_pos {S : Type} {g : S → BitVec 16 → Nat × S} {x : BitVec 16} {l : List (BitVec 16)} {st : S} (h : (g st x).1 = 0) : runG g (x :: l) st = runG g l (g st x).2 := if_pos h
theorem runG_neg {S : Type} {g : S → BitVec 16 → Nat × S} {x : BitVec 16} {l : List (BitVec 16)} {st : S} (h : ¬ (g st x).1 = 0) : runG g (x :: l) st = g st x := if_neg h
theorem runG_app {S : Type} (g : S → BitVec 16 → Nat × S) : ∀ (l m : List (BitVec 16)) (st : S), runG g (l ++ m) st = if (runG g l st).1 = 0 then runG g m (runG g l st).2 else runG g l st
 | [], _, _ => rfl
 | x :: l, m, st => by
  rw [List.cons_append]
  by_cases h : (g st x).1 = 0
  ·rw [runG_pos h, runG_pos h, runG_app g l m]
  ·rw [runG_neg h, runG_neg h, if_neg h]
theorem runG_inv {S : Type} {g : S → BitVec 16 → Nat × S} {Inv : S → Prop} (h : ∀ st x, Inv st → (g st x).1 = 0 → Inv (g st x).2) : ∀ (l : List (BitVec 16)) (st : S), Inv st → (runG g l st).1 = 0 → Inv (runG g l st).2
 | [], _, h0, _ => h0
 | x :: l, st, h0, h1 => by
  by_cases hz : (g st x).1 = 0
  ·rw [runG_pos hz] at h1 ⊢; exact runG_inv h l _ (h _ _ h0 hz) h1
  ·rw [runG_neg hz] at h1; exact absurd h1 hz
theorem chs_up {S R : Type} (L : Nat → Int → S → Option R) (g : S → BitVec 16 → Nat × S) (Inv : S → Prop) (K : S → Option R) (B : Nat × S → Option R) (M : List Nat)
  (hI : ∀ st x, Inv st → (g st x).1 = 0 → Inv (g st x).2)
  (hend : ∀ k i st, Inv st → ((2 ^ M.length : Nat) : Int) ≤ i → L (k + 1) i st = K st)
  (hstep : ∀ (k a : Nat) st, Inv st → a < 2 ^ M.length → (a = 0 ∨ gosC (a : Int) = true) → L (k + 1) (a : Int) st = if (g st (wP M a 0#16)).1 = 0 then (if a = 0 then K (g st (wP M a 0#16)).2 else L k (gosN (a : Int)) (g st (wP M a 0#16)).2) else B (g st (wP M a 0#16))) :
  ∀ (t : List Nat) (a k : Nat) (st : S), chainG M.length a t = true → t.length + 1 < k → Inv st →
   L k (a : Int) st = if (runG g ((a :: t).map fun j => wP M j 0#16) st).1 = 0 then K (runG g ((a :: t).map fun j => wP M j 0#16) st).2 else B (runG g ((a :: t).map fun j => wP M j 0#16) st)
 | [], a, k, st, hc, hk, hi => by
  obtain ⟨k, rfl⟩ : ∃ q, k = q + 1 := ⟨k - 1, by simp at hk; omega⟩
  obtain ⟨k, rfl⟩ : ∃ q, k = q + 1 := ⟨k - 1, by simp at hk; omega⟩
  unfold chainG at hc
  simp only [Bool.and_eq_true, Bool.or_eq_true, decide_eq_true_eq, beq_iff_eq] at hc
  have e : runG g ([a].map fun j => wP M j 0#16) st = g st (wP M a 0#16) := by
   show runG g [wP M a 0#16] st = _
   by_cases h : (g st (wP M a 0#16)).1 = 0
   ·rw [runG_pos h]
    exact Prod.ext h.symm rfl
   ·rw [runG_neg h]
  rw [e, hstep _ _ _ hi hc.1 (by rcases hc.2 with h | h; exact .inl h; exact .inr h.1)]
  by_cases hz : (g st (wP M a 0#16)).1 = 0
  ·rw [if_pos hz, if_pos hz]
   by_cases h0 : a = 0
   ·rw [if_pos h0]
   ·rw [if_neg h0]
    rcases hc.2 with h | ⟨_, h⟩
    ·exact absurd h h0
    ·refine hend _ _ _ (hI _ _ hi hz) ?_
     have e2 : ((2 ^ M.length : Nat) : Int) = 1 * 2 ^ M.length := by rw [Int.one_mul, Int.natCast_pow]; rfl
     rw [e2]; exact h
  ·rw [if_neg hz, if_neg hz]
 | b :: t, a, k, st, hc, hk, hi => by
  obtain ⟨k, rfl⟩ : ∃ q, k = q + 1 := ⟨k - 1, by omega⟩
  unfold chainG at hc
  simp only [Bool.and_eq_true, Bool.not_eq_true', decide_eq_true_eq, beq_eq_false_iff_ne] at hc
  obtain ⟨⟨⟨⟨hc1, hc2⟩, hg⟩, hn⟩, hc'⟩ := hc
  rw [hstep _ _ _ hi hc1 (.inr hg), List.map_cons]
  by_cases hz : (g st (wP M a 0#16)).1 = 0
  ·rw [runG_pos hz, if_pos hz, if_neg hc2, hn]
   exact chs_up L g Inv K B M hI hend hstep t b k _ hc' (by simp at hk; omega) (hI _ _ hi hz)
  ·rw [runG_neg hz, if_neg hz, if_neg hz]
def subsB (s : BitVec 16) : List (BitVec 16) := (List.range (sz s + 1)).flatMap (chooseB s)
theorem mem_subsB {s u : BitVec 16} : u ∈ subsB s ↔ sub u s = true := by
 unfold subsB
 rw [List.mem_flatMap]
 constructor
 ·rintro ⟨k, _, h⟩; exact (mem_chooseB.1 h).1
 ·intro h
  exact ⟨sz u, List.mem_range.2 (by have := (sub_sz h).1; omega), mem_chooseB.2 ⟨h, rfl⟩⟩
theorem subs_up {S R : Type} (L : Nat → Nat → S → Option R) (g : S → BitVec 16 → Nat × S) (Inv : S → Prop) (F : Nat × S → Option R) (s : BitVec 16)
  (hI : ∀ st x, Inv st → (g st x).1 = 0 → Inv (g st x).2)
  (hend : ∀ k st, Inv st → L (k + 1) (sz s + 1) st = F (0, st))
  (hstep : ∀ k n st, Inv st → n ≤ sz s → L (k + 1) n st = if (runG g (chooseB s n) st).1 = 0 then L k (n + 1) (runG g (chooseB s n) st).2 else F (runG g (chooseB s n) st)) :
  ∀ (c k n : Nat) (st : S), n + c = sz s + 1 → c < k → Inv st → L k n st = F (runG g ((List.range' n c).flatMap (chooseB s)) st)
 | 0, k, n, st, hc, hk, hi => by
  obtain ⟨k, rfl⟩ : ∃ q, k = q + 1 := ⟨k - 1, by omega⟩
  have : n = sz s + 1 := by omega
  subst this
  simp only [List.range'_zero, List.flatMap_nil, runG]
  exact hend _ _ hi
 | c + 1, k, n, st, hc, hk, hi => by
  obtain ⟨k, rfl⟩ : ∃ q, k = q + 1 := ⟨k - 1, by omega⟩
  rw [hstep _ _ _ hi (by omega), List.range'_succ, List.flatMap_cons, runG_app]
  by_cases hz : (runG g (chooseB s n) st).1 = 0
  ·rw [if_pos hz, if_pos hz]
   exact subs_up L g Inv F s hI hend hstep c k (n + 1) _ (by omega) (by omega) (runG_inv hI _ _ hi hz)
  ·rw [if_neg hz, if_neg hz]
theorem subsB_range (s : BitVec 16) : subsB s = (List.range' 0 (sz s + 1)).flatMap (chooseB s) := by
 unfold subsB; rw [List.range_eq_range']
theorem subsB_sorted (s : BitVec 16) : (subsB s).Pairwise fun x y => key x < key y := by
 unfold subsB
 rw [List.pairwise_flatMap]
 refine ⟨fun k _ => ?_, ?_⟩
 ·have h1 := chooseB_sorted s k
  refine List.Pairwise.imp_of_mem ?_ h1
  intro a b ha hb hab
  have e1 := (mem_chooseB.1 ha).2; have e2 := (mem_chooseB.1 hb).2
  unfold key; omega
 ·refine List.Pairwise.imp_of_mem ?_ (List.pairwise_lt_range (n := sz s + 1))
  intro k m hk hm hkm a ha b hb
  have e1 := (mem_chooseB.1 ha).2; have e2 := (mem_chooseB.1 hb).2
  have h1 := a.isLt; have h2 := b.isLt
  unfold key; omega
end Go.Abs
namespace Go.Abs
section
variable {α : Type} [DecidableEq α]
end
end Go.Abs
namespace Go.Abs
theorem f81_L0_eq (x : BitVec 16) (K : Nat → Option Int) : ∀ (c k acc i : Nat), i + c = 16 → c < k → acc ≤ i → f81_L0 x K k (acc, i) = K (acc + bsum x.toNat i c)
 | 0, k, acc, i, hi, hk, ha => by
  obtain ⟨k, rfl⟩ : ∃ q, k = q + 1 := ⟨k - 1, by omega⟩
  rw [f81_L0.eq_2, if_neg (by simp; omega)]
  simp [bsum]
 | c + 1, k, acc, i, hi, hk, ha => by
  obtain ⟨k, rfl⟩ : ∃ q, k = q + 1 := ⟨k - 1, by omega⟩
  rw [f81_L0.eq_2, if_pos (by simp; omega)]
  have hb : x.toNat / 2 ^ i % 2 < 2 := Nat.mod_lt _ (by decide)
  unfold chk
  rw [bit_toNat, if_pos (by omega), if_pos (by omega), f81_L0_eq x K c k _ (i + 1) (by omega) (by omega) (by omega)]
  simp only [bsum, Nat.add_assoc]
theorem f81_eq (x : BitVec 16) : f81 x = some (sz x : Int) := by
 unfold f81 jn
 dsimp only
 rw [f81_L0_eq x _ 16 FUEL 0 0 rfl (by unfold FUEL; omega) (Nat.le_refl _), Nat.zero_add]
 rfl
theorem f62_eq (a b : BitVec 16) : f62 a b = some (ltS a b) := by
 unfold f62 ltS
 rw [f81_eq, f81_eq]
 by_cases h : sz a = sz b
 ·simp [h]
 ·simp [h]
  intro e; omega
theorem and_hi (n : Nat) (h : n < 65536) : (n &&& 61440 = 0) ↔ n < 4096 := by
 have e : (n &&& 61440) >>> 12 = n / 4096 := by
  rw [Nat.shiftRight_and_distrib, Nat.shiftRight_eq_div_pow]
  show (n / 4096) &&& 15 = n / 4096
  rw [show (15 : Nat) = 2 ^ 4 - 1 from rfl, Nat.and_two_pow_sub_one_eq_mod]
  omega
 constructor
 ·intro h0
  rw [h0] at e
  simp at e
  omega
 ·intro hn
  apply Nat.eq_of_testBit_eq
  intro i
  rw [Nat.testBit_and, Nat.zero_testBit]
  by_cases hi : i < 12
  ·have : Nat.testBit 61440 i = false := by
    rw [show (61440 : Nat) = 2 ^ 12 * 15 from rfl, Nat.testBit_two_pow_mul]
    simp; omega
   rw [this, Bool.and_false]
  ·have : n.testBit i = false := Nat.testBit_lt_two_pow (Nat.lt_of_lt_of_le hn (Nat.pow_le_pow_right (n := 2) (by decide) (by omega : 12 ≤ i)))
   rw [this, Bool.false_and]
theorem outside_eq (x : BitVec 16) : ((x &&& (BitVec.ofInt 16 61440)) == (BitVec.ofInt 16 0)) = decide (x.toNat < 4096) := by
 have h := and_hi x.toNat x.isLt
 rw [Bool.eq_iff_iff, beq_iff_eq, decide_eq_true_eq, ← h]
 constructor
 ·intro e
  have := congrArg BitVec.toNat e
  simpa using this
 ·intro e
  apply BitVec.eq_of_toNat_eq
  simpa using e
theorem f39_eq (x y : BitVec 16) : f39 x y = some (sub y x) := rfl
theorem f47_eq (y s : BitVec 16) : f47 y s = some (sub y s, s) := rfl
theorem f54_L0_eq (x : List (BitVec 16)) (K : (BitVec 16) → Option (Int × BitVec 16)) (s : BitVec 16) (hx : x.length ≤ 65536) : ∀ (c k n : Nat), n + c = x.length → c < k →
  (∃ m : Nat, f54_L0 x K k (n, s) = some ((m : Int), s) ∧ (x.drop n).any (fun y => sub y s) = true) ∨ (f54_L0 x K k (n, s) = K s ∧ (x.drop n).any (fun y => sub y s) = false)
 | 0, k, n, hn, hk => by
  obtain ⟨k, rfl⟩ : ∃ q, k = q + 1 := ⟨k - 1, by omega⟩
  rw [f54_L0.eq_2, if_neg (by simp; omega)]
  exact .inr ⟨rfl, by rw [List.drop_eq_nil_of_le (by omega)]; rfl⟩
 | c + 1, k, n, hn, hk => by
  obtain ⟨k, rfl⟩ : ∃ q, k = q + 1 := ⟨k - 1, by omega⟩
  have hlt : n < x.length := by omega
  have hg : x.getD n 0#16 = x[n] := by simp [List.getD_eq_getElem?_getD, hlt]
  rw [f54_L0.eq_2, if_pos (by simp; omega), f47_eq, hg, List.drop_eq_getElem_cons hlt]
  simp only [Option.bind_some, List.any_cons]
  unfold chk
  rw [if_pos (by omega)]
  by_cases h : sub x[n] s = true
  ·rw [if_pos h]; exact .inl ⟨n, rfl, by rw [h]; rfl⟩
  ·rw [if_neg h, if_pos (by omega)]
   have h : sub x[n] s = false := by simpa using h
   rw [h, Bool.false_or]
   exact f54_L0_eq x K s hx c k (n + 1) (by omega) (by omega)
theorem f24_eq (x : List (BitVec 16)) (s : BitVec 16) (hx : x.length ≤ 65536) : f24 x s = some (x.any fun y => sub y s) := by
 unfold f24 f30 f54 jn
 dsimp only
 rcases f54_L0_eq x (fun w6 => some (-1, w6)) s hx x.length FUEL 0 (by omega) (by unfold FUEL; omega) with ⟨m, h1, h2⟩ | ⟨h1, h2⟩
 ·rw [h1]; rw [List.drop_zero] at h2; rw [h2]; simp
 ·rw [h1]; rw [List.drop_zero] at h2; rw [h2]; simp
theorem f63_eq (x : List (BitVec 16)) (h : x.length ≤ 65536) : f63 x = some x := by
 unfold f63
 rw [abc_eq (fun h0 => by rw [List.length_eq_zero_iff.1 h0]; rfl), chk_pos (by omega)]
 rfl
theorem f20_L0_eq (K1 : List (BitVec 16) → Option (List (BitVec 16))) (r2 : List (BitVec 16)) (hx : r2.length ≤ 65536) : f20_L0 K1 r2 FUEL (0, []) = K1 (greedy (fun y a => sub y a) r2) := by
 refine (fold_up (f20_L0 K1 r2) r2 0#16 (fun n l => l.length ≤ n) (fun out a => if out.any (fun y => sub y a) then out else out ++ [a]) K1 ?_ ?_ ?_ r2.length FUEL 0 [] (by omega) (fuel_lt (by omega)) (Nat.le_refl _)).trans rfl
 ·intro k n s hn hi
  rw [f20_L0.eq_2, ifd_pos (by omega), jn_eq, chk_pos (by omega), chk_pos (by omega), f24_eq _ _ (by omega), some_bind]
  cases h : s.any (fun y => sub y (r2.getD n 0#16)) with
  | true => simp only [Bool.not_true, Bool.false_eq_true, if_false]; rw [chk_pos (by omega)]; simp
  | false => simp only [Bool.not_false, if_true]; rw [chk_pos (by omega), chk_pos (by omega)]; simp
 ·intro n s hn hi
  split
  ·omega
  ·simp; omega
 ·intro k s hi
  rw [f20_L0.eq_2, ifd_neg (by omega)]
/-! ### slices.Compact on a sorted list -/
def CInv (x l : List (BitVec 16)) (n3 m : Nat) : Prop := l.length = x.length ∧ 0 < m ∧ m ≤ x.length ∧ n3 < m ∧ 0 < n3 ∧ l.take n3 = dd (x.take m) ∧ ∀ j, m ≤ j + 1 → l.getD j 0#16 = x.getD j 0#16
theorem take_succ_getD {α : Type} (x : List α) (n : Nat) (d : α) (h : n < x.length) : x.take (n + 1) = x.take n ++ [x.getD n d] := by
 rw [List.take_add_one]
 simp [List.getD_eq_getElem?_getD, h]
theorem dd_take_last (x : List (BitVec 16)) (m : Nat) (h0 : 0 < m) (hm : m ≤ x.length) : (dd (x.take m)).getLast? = some (x.getD (m - 1) 0#16) := by
 rw [dd_last]
 obtain ⟨k, rfl⟩ : ∃ k, m = k + 1 := ⟨m - 1, by omega⟩
 rw [take_succ_getD x k 0#16 (by omega)]
 simp
theorem dd_take_succ (x : List (BitVec 16)) (m : Nat) (h0 : 0 < m) (hm : m < x.length) : dd (x.take (m + 1)) = if x.getD m 0#16 = x.getD (m - 1) 0#16 then dd (x.take m) else dd (x.take m) ++ [x.getD m 0#16] := by
 rw [take_succ_getD x m 0#16 hm, dd_snoc]
 unfold ddS
 rw [dd_take_last x m h0 (by omega)]
 by_cases h : x.getD m 0#16 = x.getD (m - 1) 0#16
 ·rw [if_pos h, if_pos (by rw [h])]
 ·rw [if_neg h, if_neg (by intro e; exact h (Option.some.inj e).symm)]
theorem f65_L1_eq (x : List (BitVec 16)) (n2 : Nat) (K : Nat × List (BitVec 16) → Option (List (BitVec 16))) (R : Option (List (BitVec 16))) (hx : x.length ≤ 65536) (hn2 : n2 < x.length) (h2 : 0 < n2)
  (hK : ∀ n3 l, CInv x l n3 x.length → K (n3, l) = R) : ∀ c k n3 n4 l, n2 + n4 + c = x.length → 0 < n4 → c < k → CInv x l n3 (n2 + n4) → f65_L1 x n2 K k (n3, n4, l) = R
 | 0, k, n3, n4, l, hc, h4, hk, hi => by
  obtain ⟨k, rfl⟩ : ∃ q, k = q + 1 := ⟨k - 1, by omega⟩
  rw [f65_L1.eq_2, ifd_neg (by omega)]
  exact hK _ _ (by rw [show x.length = n2 + n4 by omega]; exact hi)
 | c + 1, k, n3, n4, l, hc, h4, hk, hi => by
  obtain ⟨k, rfl⟩ : ∃ q, k = q + 1 := ⟨k - 1, by omega⟩
  obtain ⟨i1, i2, i3, i4, i5, i6, i7⟩ := hi
  have ht : (((n4 : Nat) : Int) - (1 : Int)).toNat = n4 - 1 := by omega
  rw [f65_L1.eq_2, ifd_pos (by omega), jn_eq, chk_pos (by omega), chk_pos (by omega), chk_pos (by omega), chk_pos (by omega), chk_pos (by omega), ht]
  have e1 := i7 (n2 + n4) (by omega)
  have e2 := i7 (n2 + (n4 - 1)) (by omega)
  rw [e1, e2]
  have hs := dd_take_succ x (n2 + n4) (by omega) (by omega)
  rw [show n2 + n4 - 1 = n2 + (n4 - 1) by omega] at hs
  by_cases he : x.getD (n2 + n4) 0#16 = x.getD (n2 + (n4 - 1)) 0#16
  ·rw [if_pos he] at hs
   rw [if_neg (by rw [he]; simp)]
   dsimp only
   rw [chk_pos (by omega)]
   exact f65_L1_eq x n2 K R hx hn2 h2 hK c k n3 (n4 + 1) l (by omega) (by omega) (by omega) ⟨i1, by omega, by omega, by omega, i5, by rw [i6, ← hs]; rfl, fun j hj => i7 j (by omega)⟩
  ·rw [if_neg he] at hs
   rw [if_pos (by simpa using he), chk_pos (by omega), chk_pos (by omega), chk_pos (by omega), chk_pos (by omega), chk_pos (by omega)]
   dsimp only
   rw [chk_pos (by omega)]
   refine f65_L1_eq x n2 K R hx hn2 h2 hK c k (n3 + 1) (n4 + 1) _ (by omega) (by omega) (by omega) ⟨by simp [i1], by omega, by omega, by omega, by omega, ?_, fun j hj => ?_⟩
   ·rw [show n2 + (n4 + 1) = n2 + n4 + 1 by omega, hs, ← i6, take_succ_getD _ n3 0#16 (by simp; omega), List.take_set_of_le (Nat.le_refl _)]
    have : n3 < l.length := by omega
    simp [List.getD_eq_getElem?_getD, this]
   ·have : n3 ≠ j := by omega
    rw [← i7 j (by omega)]
    simp [List.getD_eq_getElem?_getD, List.getElem?_set_ne this]
theorem dd_take_of_ne (x : List (BitVec 16)) : ∀ n, n ≤ x.length → (∀ j, 0 < j → j < n → x.getD j 0#16 ≠ x.getD (j - 1) 0#16) → dd (x.take n) = x.take n
 | 0, _, _ => by simp [dd]
 | n + 1, hn, h => by
  have ih := dd_take_of_ne x n (by omega) fun j h1 h2 => h j h1 (by omega)
  by_cases h0 : n = 0
  ·subst h0
   rw [take_succ_getD x 0 0#16 (by omega)]
   simp [dd, ddS]
  ·rw [dd_take_succ x n (by omega) (by omega), if_neg (h n (by omega) (by omega)), ih, ← take_succ_getD x n 0#16 (by omega)]
theorem f65_L0_eq (x : List (BitVec 16)) (K : Unit → Option (List (BitVec 16))) (hK : K () = some x) (hx : x.length ≤ 65536) : ∀ c k n, n + c = x.length → 0 < n → c < k → (∀ j, 0 < j → j < n → x.getD j 0#16 ≠ x.getD (j - 1) 0#16) → f65_L0 x K k n = some (dd x)
 | 0, k, n, hc, h0, hk, hi => by
  obtain ⟨k, rfl⟩ : ∃ q, k = q + 1 := ⟨k - 1, by omega⟩
  rw [f65_L0.eq_2, ifd_neg (by omega), hK]
  have := dd_take_of_ne x n (by omega) hi
  rw [List.take_of_length_le (by omega)] at this
  rw [this]
 | c + 1, k, n, hc, h0, hk, hi => by
  obtain ⟨k, rfl⟩ : ∃ q, k = q + 1 := ⟨k - 1, by omega⟩
  have ht : (((n : Nat) : Int) - (1 : Int)).toNat = n - 1 := by omega
  rw [f65_L0.eq_2, ifd_pos (by omega), chk_pos (by omega), chk_pos (by omega), chk_pos (by omega), chk_pos (by omega), chk_pos (by omega), ht]
  by_cases he : x.getD n 0#16 = x.getD (n - 1) 0#16
  ·rw [if_pos (by rw [he]; simp), chk_pos (by omega), jn_eq]
   have hd := dd_take_of_ne x n (by omega) hi
   have hs := dd_take_succ x n (by omega) (by omega)
   rw [if_pos he, hd] at hs
   refine f65_L1_eq x n _ _ hx (by omega) h0 (fun n3 l hi2 => ?_) c FUEL n 1 x (by omega) (by omega) (fuel_lt (by omega)) ⟨rfl, by omega, by omega, by omega, h0, hs.symm, fun j _ => rfl⟩
   obtain ⟨i1, i2, i3, i4, i5, i6, i7⟩ := hi2
   dsimp only
   rw [chk_pos (by omega), chk_pos (by omega), chk_pos (by simp; omega), chk_pos (by simp; omega)]
   rw [List.take_append_of_le_length (by simp; omega), List.take_take, Nat.min_self, i6, List.take_of_length_le (Nat.le_refl _)]
  ·rw [if_neg (by simpa using he), chk_pos (by omega)]
   refine f65_L0_eq x K hK hx c k (n + 1) (by omega) (by omega) (by omega) fun j h1 h2 => ?_
   by_cases e : j = n
   ·subst e; exact he
   ·exact hi j h1 (by omega)
theorem f65_eq (x : List (BitVec 16)) (hx : x.length ≤ 65536) : f65 x = some (dd x) := by
 unfold f65
 by_cases h : x.length < 2
 ·rw [ifd_pos (by omega)]
  match x, h with
  | [], _ => rfl
  | [a], _ => rfl
  | a :: b :: l, h => simp at h; omega
 ·rw [ifd_neg (by omega), jn_eq]
  exact f65_L0_eq x _ rfl hx (x.length - 1) FUEL 1 (by omega) (by omega) (fuel_lt (by omega)) (fun j h1 h2 => by omega)
theorem f64_eq (x : List (BitVec 16)) (hx : x.length ≤ 65536) : f64 x = some (isortK key x) := by
 unfold f64 sortO; rw [if_pos (by omega)]
theorem f42_eq (x : List (BitVec 16)) (hx : x.length ≤ 65536) : f42 x = some (srt x) := by
 unfold f42
 have := (isortK_perm (k := key) x).length_eq
 rw [f63_eq x hx, some_bind, f64_eq x hx, some_bind, f65_eq _ (by omega), some_bind]
 rfl
theorem f20_eq (x : List (BitVec 16)) (hx : x.length ≤ 65536) : f20 x = some (leastP x) := by
 unfold f20
 have := srt_len x
 rw [jn_eq, f42_eq x hx, some_bind, f20_L0_eq _ _ (by omega)]
 rfl
/-! ### greatest -/
theorem f91_eq (x s : BitVec 16) : f91 x s = some (sub s x, s) := rfl
theorem f54b_L0_eq (x : List (BitVec 16)) (K : BitVec 16 → Option (Int × BitVec 16)) (s : BitVec 16) (hx : x.length ≤ 65536) : ∃ m : Nat, f54b_L0 x K FUEL (0, s) = if x.any (fun y => sub s y) = true then some ((m : Int), s) else K s := by
 rcases find_up (fun k n => f54b_L0 x K k (n, s)) x 0#16 (fun y => sub s y) (fun m => some ((m : Int), s)) (K s) (fun k n hn => by
  show f54b_L0 x K (k + 1) (n, s) = _
  rw [f54b_L0.eq_2, ifd_pos (by omega), f91_eq, some_bind, chk_pos (by omega)]
  dsimp only
  rw [chk_pos (by omega)]) (fun k => by
  show f54b_L0 x K (k + 1) (x.length, s) = _
  rw [f54b_L0.eq_2, ifd_neg (by omega)]) x.length FUEL 0 (by omega) (fuel_lt (by omega)) with ⟨m, _, _, _, h1, h2⟩ | ⟨h1, h2⟩
 ·exact ⟨m, by rw [if_pos (by simpa using h2)]; exact h1⟩
 ·exact ⟨0, by rw [if_neg (by simpa using h2)]; exact h1⟩
theorem f30b_eq (x : List (BitVec 16)) (s : BitVec 16) (hx : x.length ≤ 65536) : f30b x s = some (x.any (fun y => sub s y), s) := by
 unfold f30b f54b
 rw [jn_eq]
 obtain ⟨m, h⟩ := f54b_L0_eq x (fun w6 => some ((-1 : Int), w6)) s hx
 rw [h]
 cases h2 : x.any (fun y => sub s y) with
 | true => simp
 | false => simp
theorem f106_L0_eq (x : List (BitVec 16)) (hx : x.length ≤ 65536) : ∀ n k out, n ≤ x.length → n < k → out.length + n ≤ 65536 →
  f106_L0 f76_Y70003 k (((n : Nat) : Int) - 1, x, out, 0) = some (0, ((x.take n).reverse).foldl (fun out a => if out.any (fun y => sub a y) then out else out ++ [a]) out, x)
 | 0, k, out, hn, hk, ho => by
  obtain ⟨k, rfl⟩ : ∃ q, k = q + 1 := ⟨k - 1, by omega⟩
  rw [f106_L0.eq_2, ifd_neg (by omega)]
  rfl
 | n + 1, k, out, hn, hk, ho => by
  obtain ⟨k, rfl⟩ : ∃ q, k = q + 1 := ⟨k - 1, by omega⟩
  have e : (((n + 1 : Nat) : Int) - 1) = (n : Int) := by omega
  rw [e, f106_L0.eq_2, ifd_pos (by omega), jn_eq, chk_pos rfl]
  have e2 : ((n : Int)).toNat = n := by omega
  rw [e2]
  have hy : f76_Y70003 (out, x) ((n : Int), x.getD n 0#16) = some (0, (if out.any (fun y => sub (x.getD n 0#16) y) then out else out ++ [x.getD n 0#16]), x) := by
   show (f30b out (x.getD n 0#16)).bind _ = _
   rw [f30b_eq _ _ (by omega), some_bind]
   cases h : out.any (fun y => sub (x.getD n 0#16) y) with
   | true => simp
   | false =>
    simp only [Bool.not_false, if_true]
    rw [chk_pos (by omega)]; simp
  rw [hy, some_bind, if_pos rfl, chk_pos (by omega), if_neg (by simp)]
  dsimp only
  rw [chk_pos (by omega)]
  have := f106_L0_eq x hx n k (if out.any (fun y => sub (x.getD n 0#16) y) then out else out ++ [x.getD n 0#16]) (by omega) (by omega) (by split; exact (by omega); exact (by simp only [List.length_append, List.length_singleton]; omega))
  rw [this, take_succ_getD x n 0#16 (by omega)]
  simp
theorem f92_L0_eq (x : List (BitVec 16)) (hx : x.length ≤ 65536) : ∀ c k n l, 2 * n + c = x.length → c < k → l.length = x.length → (∀ j, (j < n ∨ x.length ≤ j + n) → j < x.length → l.getD j 0#16 = x.getD (x.length - 1 - j) 0#16) → (∀ j, n ≤ j → j + n < x.length → l.getD j 0#16 = x.getD j 0#16) →
  f92_L0 k (n, ((x.length : Nat) : Int) - 1 - n, l) = some x.reverse
 | c, 0, n, l, hc, hk, hl, h1, h2 => by omega
 | c, k + 1, n, l, hc, hk, hl, h1, h2 => by
  rw [f92_L0.eq_2]
  by_cases h : 2 ≤ c
  ·have e : (((x.length : Nat) : Int) - 1 - n).toNat = x.length - 1 - n := by omega
   rw [ifd_pos (by omega), chk_pos (by omega), chk_pos (by omega), chk_pos (by omega), chk_pos (by omega), chk_pos (by omega), chk_pos (by omega), chk_pos (by omega), chk_pos (by omega), chk_pos (by omega), chk_pos (by omega), e]
   have e2 : ((x.length : Nat) : Int) - 1 - n - 1 = ((x.length : Nat) : Int) - 1 - ((n + 1 : Nat) : Int) := by omega
   rw [e2]
   refine f92_L0_eq x hx (c - 2) k (n + 1) _ (by omega) (by omega) (by simp [hl]) (fun j hj hjl => ?_) (fun j hj hjl => ?_)
   ·by_cases ej : j = x.length - 1 - n
    ·subst ej
     have : x.length - 1 - n < l.length := by omega
     rw [h2 n (Nat.le_refl _) (by omega)]
     simp [List.getD_eq_getElem?_getD, this]
     rw [show x.length - 1 - (x.length - 1 - n) = n by omega]
    ·by_cases en : j = n
     ·subst en
      have : j < l.length := by omega
      rw [h2 (x.length - 1 - j) (by omega) (by omega)]
      rw [List.getD_eq_getElem?_getD, List.getElem?_set_ne (Ne.symm ej)]
      simp [this]
     ·rw [← h1 j (by omega) hjl]
      simp [List.getD_eq_getElem?_getD, List.getElem?_set_ne (Ne.symm ej), List.getElem?_set_ne (Ne.symm en)]
   ·rw [← h2 j (by omega) (by omega)]
    have ej : x.length - 1 - n ≠ j := by omega
    have en : n ≠ j := by omega
    simp [List.getD_eq_getElem?_getD, List.getElem?_set_ne ej, List.getElem?_set_ne en]
  ·rw [ifd_neg (by omega)]
   congr 1
   apply List.ext_getElem (by simp [hl])
   intro j hj1 hj2
   have hjx : j < x.length := by omega
   have : l.getD j 0#16 = x.getD (x.length - 1 - j) 0#16 := by
    by_cases hj : j < n ∨ x.length ≤ j + n
    ·exact h1 j hj hjx
    ·rw [h2 j (by omega) (by omega)]
     congr 1; omega
   have h3 : x.length - 1 - j < x.length := by omega
   simp [List.getD_eq_getElem?_getD, hj1, h3] at this
   rw [List.getElem_reverse, this]
theorem f92_eq (x : List (BitVec 16)) (hx : x.length ≤ 65536) : f92 x = some x.reverse := by
 unfold f92
 rw [chk_pos (by omega)]
 have := f92_L0_eq x hx x.length FUEL 0 x (by omega) (fuel_lt (by omega)) rfl (fun j h1 h2 => by omega) (fun _ _ _ => rfl)
 simpa using this
theorem greedy_len {α : Type} (T : α → α → Bool) (s : List α) : (greedy T s).length ≤ s.length := by
 suffices H : ∀ (l out : List α), (l.foldl (fun out a => if out.any (fun y => T y a) then out else out ++ [a]) out).length ≤ out.length + l.length by simpa [greedy] using H s []
 intro l
 induction l with
 | nil => intro out; simp
 | cons a l ih =>
  intro out
  rw [List.foldl_cons]
  have := ih (if out.any (fun y => T y a) then out else out ++ [a])
  have h2 : (if out.any (fun y => T y a) then out else out ++ [a]).length ≤ out.length + 1 := by split <;> simp
  simp only [List.length_cons]; omega
theorem f76_eq (x : List (BitVec 16)) (hx : x.length ≤ 65536) : f76 x = some (greatestP x) := by
 unfold f76 f90 f106
 have hl := srt_len x
 rw [f42_eq x hx, some_bind, some_bind]
 rw [chk_pos (by omega), f106_L0_eq (srt x) (by omega) (srt x).length FUEL [] (Nat.le_refl _) (fuel_lt (by omega)) (by simp; omega), some_bind, List.take_of_length_le (Nat.le_refl _)]
 have hg := greedy_len (fun y a => sub a y) (srt x).reverse
 rw [chk_pos (by simp), if_pos rfl, f92_eq _ (by show (greedy (fun y a => sub a y) (srt x).reverse).length ≤ 65536; simp at hg; omega), some_bind]
 rfl
def scan0 (x : List (BitVec 16)) : Nat → Nat → Option Int
 | 0, _ => none
 | c + 1, n => if (x.getD n 0#16).toNat < 4096 then (if decide (n > 0) && !(ltS (x.getD (n - 1) 0#16) (x.getD n 0#16)) then some 1 else scan0 x c (n + 1)) else some 7
def orK (e : Option Int) (K : Unit → Option Int) : Option Int := match e with
 | some e => some e
 | none => K ()
theorem f21_L0_eq (x : List (BitVec 16)) (K : Unit → Option Int) (hx : x.length ≤ 65536) : ∀ (c k n : Nat), n + c = x.length → c < k → f21_L0 x K k n = orK (scan0 x c n) K
 | 0, k, n, hn, hk => by
  obtain ⟨k, rfl⟩ : ∃ q, k = q + 1 := ⟨k - 1, by omega⟩
  rw [f21_L0.eq_2, if_neg (by simp; omega)]
  rfl
 | c + 1, k, n, hn, hk => by
  obtain ⟨k, rfl⟩ : ∃ q, k = q + 1 := ⟨k - 1, by omega⟩
  have ih := f21_L0_eq x K hx c k (n + 1) (by omega) (by omega)
  rw [f21_L0.eq_2, if_pos (by simp; omega)]
  unfold chk scan0
  rw [if_pos (by omega), outside_eq]
  by_cases hr : (x.getD n 0#16).toNat < 4096
  ·rw [if_pos hr, if_neg (by simp only [hr]; simp)]
   obtain ⟨r, h1, h2⟩ := f43_eq (x.getD (((n : Int) - 1).toNat) 0#16) (x.getD n 0#16)
   have hn1 : ((n : Int) - 1).toNat = n - 1 := by omega
   rw [hn1] at h1 h2
   unfold optc
   by_cases h0 : n > 0
   ·have h0' : ((decide ((n : Int) > 0)) == true) = true := by simp; omega
    rw [if_pos h0', hn1, h1]
    simp only [Option.bind_some]
    rw [if_pos (by omega), if_pos (by omega)]
    by_cases hl : ltS (x.getD (n - 1) 0#16) (x.getD n 0#16) = true
    ·have : ¬ (r ≥ 0) := fun h => by rw [h2.1 h] at hl; cases hl
     rw [if_neg (by simp [this]), if_pos (by omega), ih, hl]
     simp
    ·have hl : ltS (x.getD (n - 1) 0#16) (x.getD n 0#16) = false := by simpa using hl
     rw [if_pos (by simp [h2.2 hl]; omega), hl]
     simp [h0, orK]
   ·have h0' : ¬ ((decide ((n : Int) > 0)) == true) = true := by simp; omega
    have h0'' : ¬ (decide ((n : Int) > 0)) = true := by simp; omega
    rw [if_neg h0']
    dsimp only
    rw [if_pos (fun h => absurd h h0'), if_pos (fun h => absurd h h0'), if_neg (by simp; omega), if_pos (by omega), ih, if_neg (by simp; omega)]
  ·rw [if_neg hr, if_pos (by simp only [hr]; simp)]
   rfl
def bad1 (x : List (BitVec 16)) : Nat → Nat → Bool
 | 0, _ => false
 | c + 1, n => (x.take n).any (fun y => sub y (x.getD n 0#16)) || bad1 x c (n + 1)
theorem f21_L1_eq (x : List (BitVec 16)) (K : Unit → Option Int) (hx : x.length ≤ 65536) : ∀ (c k n : Nat), n + c = x.length → c < k → f21_L1 x K k n = if bad1 x c n = true then some 1 else K ()
 | 0, k, n, hn, hk => by
  obtain ⟨k, rfl⟩ : ∃ q, k = q + 1 := ⟨k - 1, by omega⟩
  rw [f21_L1.eq_2, if_neg (by simp; omega), if_neg (by simp [bad1])]
 | c + 1, k, n, hn, hk => by
  obtain ⟨k, rfl⟩ : ∃ q, k = q + 1 := ⟨k - 1, by omega⟩
  have ih := f21_L1_eq x K hx c k (n + 1) (by omega) (by omega)
  rw [f21_L1.eq_2, if_pos (by simp; omega), f24_eq _ _ (by simp; omega)]
  simp only [Option.bind_some]
  unfold chk
  rw [if_pos (by omega), if_pos (by omega)]
  by_cases h : ((x.take n).any fun y => sub y (x.getD n 0#16)) = true
  ·rw [if_pos h, if_pos (by simp only [bad1, h, Bool.true_or])]
  ·rw [if_neg h, if_pos (by omega), ih]
   have h : ((x.take n).any fun y => sub y (x.getD n 0#16)) = false := by simpa using h
   simp only [bad1, h, Bool.false_or]
theorem bad1_iff (x : List (BitVec 16)) : ∀ (c n : Nat), n + c = x.length → (bad1 x c n = true ↔ ∃ m j, n ≤ m ∧ m < x.length ∧ j < m ∧ sub (x.getD j 0#16) (x.getD m 0#16) = true)
 | 0, n, hn => by
  simp only [bad1, Bool.false_eq_true, false_iff]
  rintro ⟨m, j, h1, h2, _⟩; omega
 | c + 1, n, hn => by
  simp only [bad1, Bool.or_eq_true, bad1_iff x c (n + 1) (by omega), List.any_eq_true]
  constructor
  ·rintro (⟨y, hy, hs⟩ | ⟨m, j, h1, h2, h3, h4⟩)
   ·obtain ⟨j, hj, rfl⟩ := List.getElem_of_mem hy
    have hj' : j < n := by simp at hj; omega
    refine ⟨n, j, Nat.le_refl _, by omega, hj', ?_⟩
    have hl : j < x.length := by omega
    simpa [List.getD_eq_getElem?_getD, hl] using hs
   ·exact ⟨m, j, by omega, h2, h3, h4⟩
  ·rintro ⟨m, j, h1, h2, h3, h4⟩
   by_cases e : m = n
   ·subst e
    refine .inl ⟨x.getD j 0#16, ?_, h4⟩
    have hl : j < x.length := by omega
    have : x.getD j 0#16 = (x.take m)[j]'(by simp; omega) := by simp [List.getD_eq_getElem?_getD, hl]
    rw [this]; exact List.getElem_mem _
   ·exact .inr ⟨m, j, by omega, h2, h3, h4⟩
theorem f21_val (x : List (BitVec 16)) (h : x.length ≤ 400) : f21 x = orK (scan0 x x.length 0) fun _ => if bad1 x x.length 0 = true then some 1 else some 0 := by
 unfold f21; rw [if_neg (by simp; omega)]
 rw [jn_eq, f21_L0_eq x _ (by omega) x.length FUEL 0 (by omega) (fuel_lt (by omega))]
 refine congrArg (orK (scan0 x x.length 0)) (funext fun _ => ?_)
 rw [jn_eq, f21_L1_eq x _ (by omega) x.length FUEL 0 (by omega) (fuel_lt (by omega))]
theorem f24_acc (x : List (BitVec 16)) (s : BitVec 16) (hx : x.length ≤ 65536) : f24 x s = some (acc x s) := f24_eq x s hx
theorem f13_eq (x g : List (BitVec 16)) (hx : x.length ≤ 65536) (hg : g.length ≤ 65536) : f13 x g = some (!(x.any fun a => !acc g a)) := by
 unfold f13 f30e f54e
 rw [jn_eq]
 rcases find_up (fun k n => f54e_L0 x (fun l6 => some ((-1 : Int), l6)) k (n, g)) x 0#16 (fun a => !acc g a) (fun m => some ((m : Int), g)) (some ((-1 : Int), g)) (fun k n hn => by
  show f54e_L0 x _ (k + 1) (n, g) = _
  rw [f54e_L0.eq_2, ifd_pos (by omega)]
  unfold f31
  rw [f24_acc _ _ hg, some_bind, some_bind, chk_pos (by omega)]
  dsimp only
  rw [chk_pos (by omega)]) (fun k => by
  show f54e_L0 x _ (k + 1) (x.length, g) = _
  rw [f54e_L0.eq_2, ifd_neg (by omega)]) x.length FUEL 0 (by omega) (fuel_lt (by omega)) with ⟨m, _, _, _, h1, h2⟩ | ⟨h1, h2⟩
 ·rw [h1, some_bind, some_bind]
  rw [List.drop_zero] at h2
  rw [h2]; simp
 ·rw [h1, some_bind, some_bind]
  rw [List.drop_zero] at h2
  rw [h2]; simp
theorem f23_eq (x : List (BitVec 16)) (hx : x.length ≤ 65536) : f23 x = some (x.foldl (fun w a => w ||| a) 0#16) := by
 unfold f23
 rw [jn_eq]
 refine (fold_up (fun k p => f23_L0 x _ k (p.2, p.1)) x 0#16 (fun _ _ => True) (fun w a => w ||| a) (fun w => some w) (fun k n s hn _ => ?_) (fun _ _ _ _ => trivial) (fun k s _ => ?_) x.length FUEL 0 0#16 (by omega) (fuel_lt (by omega)) trivial).trans rfl
 ·show f23_L0 x _ (k + 1) (s, n) = _
  rw [f23_L0.eq_2, ifd_pos (by omega), chk_pos (by omega), chk_pos (by omega)]
 ·show f23_L0 x _ (k + 1) (s, x.length) = _
  rw [f23_L0.eq_2, ifd_neg (by omega)]
/-! ### the reference: sorted by insertion -/
theorem f38_L1_eq (x : List (BitVec 16)) (n2 : Nat) (K : Nat × List (BitVec 16) → Option (List (BitVec 16))) (R : Option (List (BitVec 16))) (l : List (BitVec 16)) (hl : l.length ≤ 65536) (hn : n2 < x.length)
  (hK : ∀ n, n ≤ l.length → (∀ j, j < n → key (l.getD j 0#16) < key (x.getD n2 0#16)) → (n < l.length → ¬ key (l.getD n 0#16) < key (x.getD n2 0#16)) → K (n, l) = R) : ∀ c k n, n + c = l.length → c < k → (∀ j, j < n → key (l.getD j 0#16) < key (x.getD n2 0#16)) → f38_L1 x n2 K k (n, l) = R
 | 0, k, n, hc, hk, hi => by
  obtain ⟨k, rfl⟩ : ∃ q, k = q + 1 := ⟨k - 1, by omega⟩
  have h : decide (((n : Nat) : Int) < ((l.length : Nat) : Int)) = false := by simp; omega
  rw [f38_L1.eq_2, h]
  simp only [Bool.false_and, Bool.false_eq_true, if_false, beq_iff_eq]
  rw [show (false == true) = false from rfl, optc_f, chk_pos (fun h => by cases h), chk_pos (fun h => by cases h), chk_pos (fun h => by cases h)]
  exact hK n (by omega) hi (fun h => by omega)
 | c + 1, k, n, hc, hk, hi => by
  obtain ⟨k, rfl⟩ : ∃ q, k = q + 1 := ⟨k - 1, by omega⟩
  have h : decide (((n : Nat) : Int) < ((l.length : Nat) : Int)) = true := by simp; omega
  rw [f38_L1.eq_2, h]
  rw [show (true == true) = true from rfl, optc_t, f62_eq, some_bind, chk_pos (fun _ => by omega), chk_pos (fun _ => by omega), chk_pos (fun _ => by omega), Bool.true_and]
  by_cases hlt : ltS (l.getD n 0#16) (x.getD n2 0#16) = true
  ·rw [if_pos hlt, chk_pos (by omega)]
   refine f38_L1_eq x n2 K R l hl hn hK c k (n + 1) (by omega) (by omega) fun j hj => ?_
   by_cases e : j = n
   ·subst e; exact ltS_key.1 hlt
   ·exact hi j (by omega)
  ·rw [if_neg hlt]
   exact hK n (by omega) hi fun _ h => hlt (ltS_key.2 h)
theorem f38_L2_eq (n7 : Nat) (K : List (BitVec 16) → Option (List (BitVec 16))) (R : Option (List (BitVec 16))) (p : List (BitVec 16)) (hp : p.length ≤ 65536) (h7 : n7 ≤ p.length)
  (hK : ∀ l, l.length = p.length + 1 → (∀ j, j < n7 → l.getD j 0#16 = p.getD j 0#16) → (∀ j, n7 < j → j ≤ p.length → l.getD j 0#16 = p.getD (j - 1) 0#16) → K l = R) :
  ∀ c k l, n7 + c ≤ p.length → c < k → l.length = p.length + 1 → (∀ j, j < n7 + c → l.getD j 0#16 = p.getD j 0#16) → (c < p.length - n7 → l.getD (n7 + c) 0#16 = p.getD (n7 + c) 0#16) → (∀ j, n7 + c < j → j ≤ p.length → l.getD j 0#16 = p.getD (j - 1) 0#16) → f38_L2 n7 K k (((n7 + c : Nat) : Int), l) = R
 | 0, k, l, hc, hk, hl, h1, h2, h3 => by
  obtain ⟨k, rfl⟩ : ∃ q, k = q + 1 := ⟨k - 1, by omega⟩
  rw [f38_L2.eq_2, ifd_neg (by omega)]
  exact hK l hl (fun j hj => h1 j (by omega)) (fun j hj => h3 j (by omega))
 | c + 1, k, l, hc, hk, hl, h1, h2, h3 => by
  obtain ⟨k, rfl⟩ : ∃ q, k = q + 1 := ⟨k - 1, by omega⟩
  have e1 : (((n7 + (c + 1) : Nat) : Int) - 1).toNat = n7 + c := by omega
  have e2 : ((n7 + (c + 1) : Nat) : Int).toNat = n7 + c + 1 := by omega
  have e3 : ((n7 + (c + 1) : Nat) : Int) - 1 = ((n7 + c : Nat) : Int) := by omega
  rw [f38_L2.eq_2, ifd_pos (by omega), chk_pos (by omega), chk_pos (by omega), chk_pos (by omega), chk_pos (by omega), chk_pos (by omega), chk_pos (by omega), e1, e2, e3]
  refine f38_L2_eq n7 K R p hp h7 hK c k _ (by omega) (by omega) (by simp [hl]) (fun j hj => ?_) (fun hlt => ?_) (fun j hj hjp => ?_)
  ·rw [← h1 j (by omega)]
   have : n7 + c + 1 ≠ j := by omega
   simp [List.getD_eq_getElem?_getD, List.getElem?_set_ne this]
  ·rw [← h1 (n7 + c) (by omega)]
   have : n7 + c + 1 ≠ n7 + c := by omega
   simp [List.getD_eq_getElem?_getD, List.getElem?_set_ne this]
  ·by_cases e : j = n7 + c + 1
   ·subst e
    rw [h1 (n7 + c) (by omega)]
    have : n7 + c + 1 < l.length := by omega
    simp [List.getD_eq_getElem?_getD, this]
   ·rw [← h3 j (by omega) hjp]
    have : n7 + c + 1 ≠ j := fun h => e h.symm
    simp [List.getD_eq_getElem?_getD, List.getElem?_set_ne this]
def SInv (l out : List (BitVec 16)) : Prop := out.Pairwise (fun x y => key x < key y) ∧ (∀ a, a ∈ out ↔ a ∈ l) ∧ out.length ≤ l.length
theorem getD_mem {α : Type} {l : List α} {d : α} {n : Nat} (h : n < l.length) : l.getD n d ∈ l := by
 have : l.getD n d = l[n] := by simp [List.getD_eq_getElem?_getD, h]
 rw [this]; exact List.getElem_mem _
theorem strict_get {l : List (BitVec 16)} (h : l.Pairwise fun x y => key x < key y) {i j : Nat} (hij : i < j) (hj : j < l.length) : key (l.getD i 0#16) < key (l.getD j 0#16) := by
 have := List.pairwise_iff_getElem.1 h i j (by omega) hj hij
 have hi : i < l.length := by omega
 simpa [List.getD_eq_getElem?_getD, hi, hj] using this
theorem f38_L0_eq (x : List (BitVec 16)) (K : List (BitVec 16) → Option (List (BitVec 16))) (R : Option (List (BitVec 16))) (hx : x.length ≤ 65535) (hK : ∀ l, SInv x l → K l = R) :
  ∀ c k n l, n + c = x.length → c < k → SInv (x.take n) l → f38_L0 x K k (n, l) = R
 | 0, k, n, l, hc, hk, hi => by
  obtain ⟨k, rfl⟩ : ∃ q, k = q + 1 := ⟨k - 1, by omega⟩
  rw [f38_L0.eq_2, ifd_neg (by omega)]
  rw [List.take_of_length_le (by omega)] at hi
  exact hK l hi
 | c + 1, k, n, l, hc, hk, hi => by
  obtain ⟨k, rfl⟩ : ∃ q, k = q + 1 := ⟨k - 1, by omega⟩
  have hll : l.length ≤ n := by have := hi.2.2; simp at this; omega
  rw [f38_L0.eq_2, ifd_pos (by omega), jn_eq, jn_eq]
  refine f38_L1_eq x n _ _ l (by omega) (by omega) (fun m hm h1 h2 => ?_) l.length FUEL 0 (by omega) (fuel_lt (by omega)) (fun j hj => by omega)
  dsimp only
  have hmem : x.getD n 0#16 ∈ l → m < l.length ∧ l.getD m 0#16 = x.getD n 0#16 := by
   intro hmm
   obtain ⟨i, hi', e⟩ := List.getElem_of_mem hmm
   have e' : l.getD i 0#16 = x.getD n 0#16 := by rw [← e]; simp [List.getD_eq_getElem?_getD, hi']
   have him : m ≤ i := by
    rcases Nat.lt_or_ge i m with h | h
    ·have := h1 i h; rw [e'] at this; omega
    ·exact h
   refine ⟨by omega, ?_⟩
   by_cases e2 : m = i
   ·rw [e2]; exact e'
   ·have := strict_get hi.1 (show m < i by omega) hi'
    have h3 := h2 (by omega)
    rw [e'] at this
    exact absurd this h3
  rw [chk_pos (fun h => by simp at h; omega), chk_pos (fun h => by simp at h; omega), chk_pos (fun h => by omega)]
  by_cases hc2 : m < l.length ∧ l.getD m 0#16 = x.getD n 0#16
  ·have hc21 := hc2.1
   rw [if_pos (by rw [hc2.2, beq_self_eq_true, Bool.and_true]; exact decide_eq_true (by omega))]
   rw [chk_pos (by omega)]
   refine f38_L0_eq x K R hx hK c k (n + 1) l (by omega) (by omega) ⟨hi.1, fun a => ?_, ?_⟩
   ·rw [hi.2.1, take_succ_getD x n 0#16 (by omega), List.mem_append, List.mem_singleton]
    constructor
    ·exact .inl
    ·rintro (h | rfl)
     ·exact h
     ·rw [← hi.2.1, ← hc2.2]; exact getD_mem hc2.1
   ·simp; omega
  ·rw [if_neg (by simp; intro h; exact fun e => hc2 ⟨by omega, e⟩), chk_pos (by omega), jn_eq]
   have hnm : x.getD n 0#16 ∉ l := fun h => hc2 (hmem h)
   rw [chk_pos (by simp; omega)]
   have e0 : ((((l ++ [BitVec.ofInt 16 0]).length : Nat) : Int) - 1) = ((m + (l.length - m) : Nat) : Int) := by simp; omega
   rw [e0]
   refine f38_L2_eq m _ _ l (by omega) hm (fun r hr g1 g2 => ?_) (l.length - m) FUEL _ (by omega) (fuel_lt (by omega)) (by simp) (fun j hj => ?_) (fun h => by omega) (fun j hj hjp => by omega)
   ·rw [chk_pos (by omega), chk_pos (by omega), chk_pos (by omega), chk_pos (by omega)]
    -- the result
    have hres : r.set m (x.getD n 0#16) = l.take m ++ x.getD n 0#16 :: l.drop m := by
     apply List.ext_getElem
     ·simp; omega
     intro j hj1 hj2
     simp at hj1
     rw [List.getElem_set]
     split
     ·rename_i e; subst e
      rw [List.getElem_append_right (by simp; omega)]
      simp [Nat.min_eq_left hm]
     ·rename_i e
      by_cases hjm : j < m
      ·rw [List.getElem_append_left (by simp; omega)]
       have := g1 j hjm
       have h3 : j < l.length := by omega
       simp [List.getD_eq_getElem?_getD, hj1, h3] at this
       simp [this]
      ·have := g2 j (by omega) (by omega)
       rw [List.getElem_append_right (by simp; omega)]
       have h3 : j - 1 < l.length := by omega
       simp [List.getD_eq_getElem?_getD, hj1, h3] at this
       rw [this]
       have h4 : j - min m l.length = (j - m - 1) + 1 := by omega
       simp only [List.length_take, h4, List.getElem_cons_succ, List.getElem_drop]
       congr 1; omega
    rw [hres]
    refine f38_L0_eq x K R hx hK c k (n + 1) _ (by omega) (by omega) ⟨?_, fun a => ?_, ?_⟩
    ·rw [List.pairwise_append]
     have hp := hi.1
     rw [← List.take_append_drop m l, List.pairwise_append] at hp
     have hbefore : ∀ a, a ∈ l.take m → key a < key (x.getD n 0#16) := by
      intro a ha
      obtain ⟨j, hj, rfl⟩ := List.getElem_of_mem ha
      simp at hj
      have := h1 j (by omega)
      have h3 : j < l.length := by omega
      simpa [List.getD_eq_getElem?_getD, h3] using this
     have hafter : ∀ a, a ∈ l.drop m → key (x.getD n 0#16) < key a := by
      intro a ha
      have hal := List.mem_of_mem_drop ha
      obtain ⟨j, hj, rfl⟩ := List.getElem_of_mem ha
      have hj' : j < l.length - m := by simpa using hj
      rw [List.getElem_drop] at hal ⊢
      have hge : key (l.getD m 0#16) ≤ key (l.getD (m + j) 0#16) := by
       by_cases e : j = 0
       ·subst e; exact Nat.le_refl _
       ·exact Nat.le_of_lt (strict_get hi.1 (by omega) (by omega))
      have hm2 := h2 (by omega)
      have h3 : m + j < l.length := by omega
      have e3 : l.getD (m + j) 0#16 = l[m + j] := by simp [List.getD_eq_getElem?_getD, h3]
      rw [e3] at hge
      rcases Nat.lt_or_ge (key (x.getD n 0#16)) (key l[m + j]) with h4 | h4
      ·exact h4
      ·have : key (x.getD n 0#16) = key l[m + j] := by omega
       rw [key_inj' this] at hnm
       exact absurd (List.getElem_mem h3) hnm
     refine ⟨hp.1, List.pairwise_cons.2 ⟨hafter, hp.2.1⟩, fun a ha b hb => ?_⟩
     rcases List.mem_cons.1 hb with rfl | hb
     ·exact hbefore a ha
     ·exact hp.2.2 a ha b hb
    ·have hm' : a ∈ l ↔ a ∈ l.take m ∨ a ∈ l.drop m := by rw [← List.mem_append, List.take_append_drop]
     rw [take_succ_getD x n 0#16 (by omega)]
     simp only [List.mem_append, List.mem_cons, List.not_mem_nil, or_false]
     rw [← hi.2.1, hm']
     constructor
     ·rintro (h | h | h) <;> simp [h]
     ·rintro ((h | h) | h) <;> simp [h]
    ·simp; omega
   ·have : j < l.length := by omega
    simp [List.getD_eq_getElem?_getD, List.getElem?_append_left this]
theorem f38_eq (x : List (BitVec 16)) (hx : x.length ≤ 65535) : f38 x = some (srt x) := by
 unfold f38
 rw [jn_eq]
 refine f38_L0_eq x _ _ hx (fun l hl => ?_) x.length FUEL 0 [] (by omega) (fuel_lt (by omega)) ⟨.nil, fun a => by simp, by simp⟩
 rw [strict_uniq (k := key) (fun _ _ => key_inj') l (srt x) (fun a => (hl.2.1 a).trans (mem_srt a x).symm) hl.1 (srt_sorted x)]
/-! ### Least and Greatest of the reference -/
def domP (T : BitVec 16 → BitVec 16 → Bool) (s : List (BitVec 16)) (i : Nat) (b : Bool) (m : Nat) : Bool := b && !((List.range m).any fun j => i != j && T (s.getD j 0#16) (s.getD i 0#16))
theorem any_idx (T : BitVec 16 → BitVec 16 → Bool) (s : List (BitVec 16)) (hs : s.Pairwise fun x y => key x < key y) (i : Nat) (hi : i < s.length) :
  ((List.range s.length).any fun j => i != j && T (s.getD j 0#16) (s.getD i 0#16)) = s.any fun b => b != s.getD i 0#16 && T b (s.getD i 0#16) := by
 rw [Bool.eq_iff_iff, List.any_eq_true, List.any_eq_true]
 constructor
 ·rintro ⟨j, hj, h⟩
  simp only [Bool.and_eq_true, bne_iff_ne] at h
  have hj := List.mem_range.1 hj
  refine ⟨s.getD j 0#16, getD_mem hj, ?_⟩
  simp only [Bool.and_eq_true, bne_iff_ne]
  refine ⟨fun e => ?_, h.2⟩
  rcases Nat.lt_or_gt_of_ne h.1 with h1 | h1
  ·have := strict_get hs h1 hj; rw [e] at this; omega
  ·have := strict_get hs h1 hi; rw [e] at this; omega
 ·rintro ⟨b, hb, h⟩
  obtain ⟨j, hj, rfl⟩ := List.getElem_of_mem hb
  simp only [Bool.and_eq_true, bne_iff_ne] at h
  have e : s.getD j 0#16 = s[j] := by simp [List.getD_eq_getElem?_getD, hj]
  refine ⟨j, List.mem_range.2 hj, ?_⟩
  rw [e]
  simp only [Bool.and_eq_true, bne_iff_ne]
  exact ⟨fun e2 => h.1 (by subst e2; exact e.symm), h.2⟩
theorem f35_L1_eq (r2 : List (BitVec 16)) (n3 : Nat) (K : Bool → Option (List (BitVec 16))) (hx : r2.length ≤ 65536) (hn : n3 < r2.length) : ∀ c k n b, n + c = r2.length → c < k → b = domP sub r2 n3 true n → f35_L1 r2 n3 K k (b, n) = K (domP sub r2 n3 true r2.length)
 | 0, k, n, b, hc, hk, hb => by
  obtain ⟨k, rfl⟩ : ∃ q, k = q + 1 := ⟨k - 1, by omega⟩
  rw [f35_L1.eq_2, ifd_neg (by omega), hb, show n = r2.length by omega]
 | c + 1, k, n, b, hc, hk, hb => by
  obtain ⟨k, rfl⟩ : ∃ q, k = q + 1 := ⟨k - 1, by omega⟩
  have hcast : ((n3 : Int) != (n : Int)) = (n3 != n) := by rw [Bool.eq_iff_iff]; simp; omega
  have hstep : domP sub r2 n3 true (n + 1) = (domP sub r2 n3 true n && !(n3 != n && sub (r2.getD n 0#16) (r2.getD n3 0#16))) := by
   simp [domP, List.range_succ]
  rw [f35_L1.eq_2, ifd_pos (by omega), jn_eq, hcast]
  cases hne : (n3 != n) with
  | false =>
   rw [hne] at hstep
   rw [show (false == true) = false from rfl, optc_f, chk_pos (fun h => by cases h), chk_pos (fun h => by cases h), chk_pos (fun h => by cases h), chk_pos (fun h => by cases h), Bool.false_and, if_neg (by simp)]
   dsimp only
   rw [chk_pos (by omega)]
   exact f35_L1_eq r2 n3 K hx hn c k (n + 1) b (by omega) (by omega) (by rw [hstep, hb]; simp)
  | true =>
   rw [hne] at hstep
   rw [show (true == true) = true from rfl, optc_t, f39_eq, some_bind, chk_pos (fun _ => by omega), chk_pos (fun _ => by omega), chk_pos (fun _ => by omega), chk_pos (fun _ => by omega), Bool.true_and]
   cases hs : sub (r2.getD n 0#16) (r2.getD n3 0#16) with
   | true =>
    rw [hs] at hstep
    rw [if_pos rfl]
    dsimp only
    rw [chk_pos (by omega)]
    exact f35_L1_eq r2 n3 K hx hn c k (n + 1) false (by omega) (by omega) (by rw [hstep]; simp)
   | false =>
    rw [hs] at hstep
    rw [if_neg (by simp)]
    dsimp only
    rw [chk_pos (by omega)]
    exact f35_L1_eq r2 n3 K hx hn c k (n + 1) b (by omega) (by omega) (by rw [hstep, hb]; simp)
theorem f18_L1_eq (r2 : List (BitVec 16)) (n3 : Nat) (K : Bool → Option (List (BitVec 16))) (hx : r2.length ≤ 65536) (hn : n3 < r2.length) : ∀ c k n b, n + c = r2.length → c < k → b = domP (fun y a => sub a y) r2 n3 true n → f18_L1 r2 n3 K k (b, n) = K (domP (fun y a => sub a y) r2 n3 true r2.length)
 | 0, k, n, b, hc, hk, hb => by
  obtain ⟨k, rfl⟩ : ∃ q, k = q + 1 := ⟨k - 1, by omega⟩
  rw [f18_L1.eq_2, ifd_neg (by omega), hb, show n = r2.length by omega]
 | c + 1, k, n, b, hc, hk, hb => by
  obtain ⟨k, rfl⟩ : ∃ q, k = q + 1 := ⟨k - 1, by omega⟩
  have hcast : ((n3 : Int) != (n : Int)) = (n3 != n) := by rw [Bool.eq_iff_iff]; simp; omega
  have hstep : domP (fun y a => sub a y) r2 n3 true (n + 1) = (domP (fun y a => sub a y) r2 n3 true n && !(n3 != n && sub (r2.getD n3 0#16) (r2.getD n 0#16))) := by
   simp [domP, List.range_succ]
  rw [f18_L1.eq_2, ifd_pos (by omega), jn_eq, hcast]
  cases hne : (n3 != n) with
  | false =>
   rw [hne] at hstep
   rw [show (false == true) = false from rfl, optc_f, chk_pos (fun h => by cases h), chk_pos (fun h => by cases h), chk_pos (fun h => by cases h), chk_pos (fun h => by cases h), Bool.false_and, if_neg (by simp)]
   dsimp only
   rw [chk_pos (by omega)]
   exact f18_L1_eq r2 n3 K hx hn c k (n + 1) b (by omega) (by omega) (by rw [hstep, hb]; simp)
  | true =>
   rw [hne] at hstep
   rw [show (true == true) = true from rfl, optc_t, f39_eq, some_bind, chk_pos (fun _ => by omega), chk_pos (fun _ => by omega), chk_pos (fun _ => by omega), chk_pos (fun _ => by omega), Bool.true_and]
   cases hs : sub (r2.getD n3 0#16) (r2.getD n 0#16) with
   | true =>
    rw [hs] at hstep
    rw [if_pos rfl]
    dsimp only
    rw [chk_pos (by omega)]
    exact f18_L1_eq r2 n3 K hx hn c k (n + 1) false (by omega) (by omega) (by rw [hstep]; simp)
   | false =>
    rw [hs] at hstep
    rw [if_neg (by simp)]
    dsimp only
    rw [chk_pos (by omega)]
    exact f18_L1_eq r2 n3 K hx hn c k (n + 1) b (by omega) (by omega) (by rw [hstep, hb]; simp)
theorem domP_undom (T : BitVec 16 → BitVec 16 → Bool) (s : List (BitVec 16)) (hs : s.Pairwise fun x y => key x < key y) (i : Nat) (hi : i < s.length) : domP T s i true s.length = undom T s (s.getD i 0#16) := by
 unfold domP undom
 rw [any_idx T s hs i hi, Bool.true_and]
theorem foldl_filter {α : Type} (p : α → Bool) : ∀ (s out : List α), s.foldl (fun out a => if p a = true then out ++ [a] else out) out = out ++ s.filter p
 | [], out => by simp
 | a :: s, out => by
  rw [List.foldl_cons, foldl_filter p s]
  cases h : p a <;> simp [h]
theorem f35_eq (x : List (BitVec 16)) (hx : x.length ≤ 65535) : f35 x = some ((srt x).filter (undom sub (srt x))) := by
 unfold f35
 have hl := srt_len x
 rw [f38_eq x hx, some_bind, jn_eq]
 refine (fold_up (f35_L0 (srt x) _) (srt x) 0#16 (fun n l => l.length ≤ n) (fun out a => if undom sub (srt x) a = true then out ++ [a] else out) (fun l => some l) ?_ ?_ ?_ (srt x).length FUEL 0 [] (by omega) (fuel_lt (by omega)) (Nat.le_refl _)).trans ?_
 ·intro k n s hn hi
  rw [f35_L0.eq_2, ifd_pos (by omega), jn_eq, jn_eq, f35_L1_eq (srt x) n _ (by omega) hn (srt x).length FUEL 0 true (by omega) (fuel_lt (by omega)) (by simp [domP]), domP_undom sub _ (srt_sorted x) n hn]
  cases undom sub (srt x) ((srt x).getD n 0#16) with
  | true => simp only [if_true]; rw [chk_pos (by omega), chk_pos (by omega), chk_pos (by omega), chk_pos (by omega)]
  | false => simp only [Bool.false_eq_true, if_false]; rw [chk_pos (by omega)]
 ·intro n s hn hi
  split
  ·simp; omega
  ·omega
 ·intro k s hi
  rw [f35_L0.eq_2, ifd_neg (by omega)]
 ·rw [List.drop_zero, foldl_filter]; rfl
theorem f18_eq (x : List (BitVec 16)) (hx : x.length ≤ 65535) : f18 x = some ((srt x).filter (undom (fun y a => sub a y) (srt x))) := by
 unfold f18
 have hl := srt_len x
 rw [f38_eq x hx, some_bind, jn_eq]
 refine (fold_up (f18_L0 (srt x) _) (srt x) 0#16 (fun n l => l.length ≤ n) (fun out a => if undom (fun y a => sub a y) (srt x) a = true then out ++ [a] else out) (fun l => some l) ?_ ?_ ?_ (srt x).length FUEL 0 [] (by omega) (fuel_lt (by omega)) (Nat.le_refl _)).trans ?_
 ·intro k n s hn hi
  rw [f18_L0.eq_2, ifd_pos (by omega), jn_eq, jn_eq, f18_L1_eq (srt x) n _ (by omega) hn (srt x).length FUEL 0 true (by omega) (fuel_lt (by omega)) (by simp [domP]), domP_undom (fun y a => sub a y) _ (srt_sorted x) n hn]
  cases undom (fun y a => sub a y) (srt x) ((srt x).getD n 0#16) with
  | true => simp only [if_true]; rw [chk_pos (by omega), chk_pos (by omega), chk_pos (by omega), chk_pos (by omega)]
  | false => simp only [Bool.false_eq_true, if_false]; rw [chk_pos (by omega)]
 ·intro n s hn hi
  split
  ·simp; omega
  ·omega
 ·intro k s hi
  rw [f18_L0.eq_2, ifd_neg (by omega)]
 ·rw [List.drop_zero, foldl_filter]; rfl
def rngS (x : List (BitVec 16)) : Bool := x.all fun a => decide (a.toNat < 4096)
def limP (x r : List (BitVec 16)) : List (BitVec 16) × Int := if rngS x = true then (if r.length > 400 then ([], 3) else (r, 0)) else ([], 7)
theorem any_not_all {α : Type} (p : α → Bool) (x : List α) : (x.any fun a => !p a) = !(x.all p) := by simp [List.any_eq_not_all_not]
theorem f41_eq (r : List (BitVec 16)) : f41 r = some (if r.length > 400 then ([], 3) else (r, 0)) := by
 unfold f41
 by_cases h : r.length > 400
 ·rw [ifd_pos (by omega), if_pos h]
 ·rw [ifd_neg (by omega), if_neg h]
theorem f30a_eq (x : List (BitVec 16)) (hx : x.length ≤ 65535) : f30a x = some (!(rngS x)) := by
 unfold f30a f54a
 rw [jn_eq]
 have hp : ∀ a : BitVec 16, f40 a = some (!decide (a.toNat < 4096)) := fun a => by unfold f40; rw [outside_eq]
 rcases find_up (f54a_L0 x fun _ => some (-1)) x 0#16 (fun a => !decide (a.toNat < 4096)) (fun m => some ((m : Nat) : Int)) (some (-1)) (fun k n hn => by
  rw [f54a_L0.eq_2, ifd_pos (by omega), hp, some_bind, chk_pos (by omega), chk_pos (by omega)]) (fun k => by
  rw [f54a_L0.eq_2, ifd_neg (by omega)]) x.length FUEL 0 (by omega) (fuel_lt (by omega)) with ⟨m, _, _, _, h1, h2⟩ | ⟨h1, h2⟩
 ·rw [h1, some_bind]
  rw [List.drop_zero, any_not_all] at h2
  unfold rngS
  rw [h2]; simp
 ·rw [h1, some_bind]
  rw [List.drop_zero, any_not_all] at h2
  unfold rngS
  rw [h2]; simp
theorem f8_eq (x : List (BitVec 16)) (hx : x.length ≤ 65535) : f8 x = some (limP x (leastP x)) := by
 unfold f8 f19a limP
 rw [f30a_eq x hx, some_bind]
 cases rngS x with
 | true => simp only [Bool.not_true, Bool.false_eq_true, if_false, if_true]; rw [f20_eq x (by omega), some_bind, f41_eq]; rfl
 | false => rfl
theorem f52_eq (x : List (BitVec 16)) (hx : x.length ≤ 65535) : f52 x = some (limP x (greatestP x)) := by
 unfold f52 f19 limP
 rw [f30a_eq x hx, some_bind]
 cases rngS x with
 | true => simp only [Bool.not_true, Bool.false_eq_true, if_false, if_true]; rw [f76_eq x (by omega), some_bind, f41_eq]; rfl
 | false => rfl
theorem f11_self (x : List (BitVec 16)) (hx : x.length ≤ 65536) : f11 x x = some true := by
 unfold f11
 rw [if_neg (by simp), jn_eq, any_up (f11_L0 x x _) x 0#16 (fun _ => false) (some true) (some true) (fun k n hn => by
  rw [f11_L0.eq_2, ifd_pos (by omega), chk_pos (by omega), chk_pos (by omega), if_neg (by simp), chk_pos (by omega)]
  simp) (fun k => by
  rw [f11_L0.eq_2, ifd_neg (by omega)]) FUEL (fuel_lt (by omega))]
 split <;> rfl
end Go.Abs
namespace Go.Abs
theorem szle (x : BitVec 16) : sz x ≤ 16 := bsum_le x.toNat 16 0
def stepF (p : BitVec 16 → Bool) (out : List (BitVec 16)) (s : BitVec 16) : List (BitVec 16) := if (p s && !acc out s) = true then out ++ [s] else out
def famF (p : BitVec 16 → Bool) (L : List (BitVec 16)) : List (BitVec 16) := L.foldl (stepF p) []
theorem stepF_len (p : BitVec 16 → Bool) (out : List (BitVec 16)) (s : BitVec 16) : out.length ≤ (stepF p out s).length := by
 unfold stepF; split <;> simp
theorem foldF_len (p : BitVec 16 → Bool) : ∀ (L out : List (BitVec 16)), out.length ≤ (L.foldl (stepF p) out).length
 | [], _ => Nat.le_refl _
 | s :: L, out => Nat.le_trans (stepF_len p out s) (foldF_len p L _)
theorem foldF_len2 (p : BitVec 16 → Bool) : ∀ (L out : List (BitVec 16)), (L.foldl (stepF p) out).length ≤ out.length + L.length
 | [], _ => Nat.le_refl _
 | s :: L, out => by
  have h := foldF_len2 p L (stepF p out s)
  have h2 : (stepF p out s).length ≤ out.length + 1 := by unfold stepF; split <;> simp
  simp only [List.foldl_cons, List.length_cons]; omega
theorem famF_greedy (p : BitVec 16 → Bool) : ∀ (L out : List (BitVec 16)), L.foldl (stepF p) out = (L.filter p).foldl (fun out a => if out.any (fun y => sub y a) then out else out ++ [a]) out
 | [], _ => rfl
 | s :: L, out => by
  rw [List.foldl_cons, famF_greedy p L]
  unfold stepF acc
  cases h : p s with
  | false => rw [List.filter_cons_of_neg (by simp [h])]; simp
  | true =>
   rw [List.filter_cons_of_pos h, List.foldl_cons]
   cases h2 : out.any fun y => sub y s <;> simp
theorem srt_id (l : List (BitVec 16)) (h : l.Pairwise fun x y => key x < key y) : srt l = l := strict_uniq (fun _ _ => key_inj') _ _ (fun a => mem_srt a l) (srt_sorted l) h
theorem famF_eq (p : BitVec 16 → Bool) (L : List (BitVec 16)) (hL : L.Pairwise fun x y => key x < key y) : famF p L = leastP (L.filter p) := by
 unfold famF leastP
 rw [famF_greedy, srt_id _ (filter_strict hL)]
 rfl
def okS (l : List (BitVec 16)) : Prop := (l.Pairwise fun x y => key x < key y) ∧ (∀ a, a ∈ l → ∀ b, b ∈ l → sub a b = true → a = b) ∧ ∀ a, a ∈ l → a.toNat < 4096
theorem okS_least (l : List (BitVec 16)) (h : ∀ a, a ∈ l → a.toNat < 4096) : okS (leastP l) := by
 refine ⟨leastP_strict l, fun a ha b hb hab => ?_, fun a ha => h a ((mem_leastP0 l a).1 ha).1⟩
 by_cases e : a = b
 ·exact e
 ·have := ((mem_leastP0 l b).1 hb).2 a ((mem_leastP0 l a).1 ha).1 e
  rw [this] at hab; cases hab
theorem sub_lt {u s : BitVec 16} (h : sub u s = true) (hs : s.toNat < 4096) : u.toNat < 4096 := by
 apply Classical.byContradiction
 intro hn
 have hu := u.isLt
 have : ∃ i, 12 ≤ i ∧ i < 16 ∧ u.toNat / 2 ^ i % 2 = 1 := by
  apply Classical.byContradiction
  intro hx
  have h12 : ¬ u.toNat / 2 ^ 12 % 2 = 1 := fun e => hx ⟨12, by omega, by omega, e⟩
  have h13 : ¬ u.toNat / 2 ^ 13 % 2 = 1 := fun e => hx ⟨13, by omega, by omega, e⟩
  have h14 : ¬ u.toNat / 2 ^ 14 % 2 = 1 := fun e => hx ⟨14, by omega, by omega, e⟩
  have h15 : ¬ u.toNat / 2 ^ 15 % 2 = 1 := fun e => hx ⟨15, by omega, by omega, e⟩
  omega
 obtain ⟨i, h1, h2, h3⟩ := this
 have h4 := sub_bits h i h2
 have h5 : s.toNat / 2 ^ i = 0 := Nat.div_eq_of_lt (Nat.lt_of_lt_of_le hs (Nat.pow_le_pow_right (n := 2) (by decide) h1))
 rw [h3, h5] at h4
 omega
theorem mem_fam (p : BitVec 16 → Bool) (U a : BitVec 16) : a ∈ famF p (subsB U) ↔ (sub a U = true ∧ p a = true) ∧ ∀ b, sub b U = true → p b = true → b ≠ a → sub b a = false := by
 rw [famF_eq p _ (subsB_sorted U), mem_leastP0, List.mem_filter, mem_subsB]
 constructor
 ·rintro ⟨h1, h2⟩; exact ⟨h1, fun b hb hp hne => h2 b (List.mem_filter.2 ⟨mem_subsB.2 hb, hp⟩) hne⟩
 ·rintro ⟨h1, h2⟩; exact ⟨h1, fun b hb hne => h2 b (mem_subsB.1 (List.mem_filter.1 hb).1) (List.mem_filter.1 hb).2 hne⟩
theorem fam_len (p : BitVec 16 → Bool) (L : List (BitVec 16)) : (famF p L).length ≤ L.length := by
 have := foldF_len2 p L []
 simpa [famF] using this
theorem runG_fam {S : Type} (g : S → BitVec 16 → Nat × S) (p : BitVec 16 → Bool) (outOf : S → List (BitVec 16)) (put : S → List (BitVec 16) → S) (m : Nat)
  (hg : ∀ st x, (stepF p (outOf st) x).length ≤ m → g st x = (0, put st (stepF p (outOf st) x))) (h1 : ∀ st l, outOf (put st l) = l) (h2 : ∀ st l l', put (put st l) l' = put st l') (h3 : ∀ st, put st (outOf st) = st) :
  ∀ (L : List (BitVec 16)) (st : S), (L.foldl (stepF p) (outOf st)).length ≤ m → runG g L st = (0, put st (L.foldl (stepF p) (outOf st)))
 | [], st, _ => by rw [List.foldl_nil, h3]; rfl
 | x :: L, st, h => by
  rw [List.foldl_cons] at h ⊢
  have e := hg st x (Nat.le_trans (foldF_len p L _) h)
  have hz : (g st x).1 = 0 := by rw [e]
  rw [runG_pos hz, e]
  have ih := runG_fam g p outOf put m hg h1 h2 h3 L (put st (stepF p (outOf st) x)) (by rw [h1]; exact h)
  rw [ih, h1, h2]
/-! ### with plain numbers -/
def hits (x : List (BitVec 16)) (s : BitVec 16) : Bool := x.all fun y => !((y &&& s) == 0#16)
def suppS (x : List (BitVec 16)) : BitVec 16 := x.foldl (fun w a => w ||| a) 0#16
def dualP (x : List (BitVec 16)) : List (BitVec 16) := famF (hits x) (subsB (suppS x))
theorem supp_lt (x : List (BitVec 16)) : ∀ (w : BitVec 16), w.toNat < 4096 → (∀ a, a ∈ x → a.toNat < 4096) → (x.foldl (fun w a => w ||| a) w).toNat < 4096 := by
 induction x with
 | nil => intro w h _; exact h
 | cons a x ih =>
  intro w h h2
  refine ih _ ?_ fun b hb => h2 b (List.mem_cons_of_mem _ hb)
  rw [BitVec.toNat_or]
  exact Nat.or_lt_two_pow (n := 12) h (h2 a (List.mem_cons_self ..))
end Go.Abs
namespace Go.Abs
/-! ### members -/
def memOK (w : Nat) : Bool :=
 decide (f79 (BitVec.ofNat 16 w) = some ((lowN 12 w : Nat) : Int)) && decide ((BitVec.ofNat 16 w &&& (BitVec.ofNat 16 w - BitVec.ofInt 16 1)).toNat = w - 2 ^ lowN 12 w) && decide (memP w 16 = lowN 12 w :: memP (w - 2 ^ lowN 12 w) 16)
theorem memOK_all : ((List.range 4096).all fun w => w == 0 || memOK w) = true := by kernel_rfl
theorem memOK_of {w : Nat} (h : w < 4096) (h0 : w ≠ 0) : f79 (BitVec.ofNat 16 w) = some ((lowN 12 w : Nat) : Int) ∧ (BitVec.ofNat 16 w &&& (BitVec.ofNat 16 w - BitVec.ofInt 16 1)).toNat = w - 2 ^ lowN 12 w ∧ memP w 16 = lowN 12 w :: memP (w - 2 ^ lowN 12 w) 16 := by
 have := List.all_eq_true.1 memOK_all w (List.mem_range.2 h)
 simp only [Bool.or_eq_true, beq_iff_eq, h0, false_or] at this
 unfold memOK at this
 simp only [Bool.and_eq_true, decide_eq_true_eq] at this
 exact ⟨this.1.1, this.1.2, this.2⟩
theorem f70_L0_eq (K : List Int → Option (List Int)) : ∀ (n : Nat) (w : BitVec 16) (k : Nat) (l : List Int), w.toNat ≤ n → w.toNat < 4096 → n + 1 < k → l.length + n ≤ 100000 →
  f70_L0 K k (w, l) = K (l ++ (memP w.toNat 16).map fun i : Nat => (i : Int)) := by
 intro n
 induction n with
 | zero =>
  intro w k l hw hw2 hk hl
  obtain ⟨k, rfl⟩ : ∃ q, k = q + 1 := ⟨k - 1, by omega⟩
  have e : w = 0#16 := BitVec.eq_of_toNat_eq (by simp; omega)
  subst e
  rw [f70_L0.eq_2, if_neg (by decide)]
  have : memP (0#16).toNat 16 = [] := by decide
  rw [this]; simp
 | succ n ih =>
  intro w k l hw hw2 hk hl
  obtain ⟨k, rfl⟩ : ∃ q, k = q + 1 := ⟨k - 1, by omega⟩
  by_cases h0 : w.toNat = 0
  ·have e : w = 0#16 := BitVec.eq_of_toNat_eq (by simp; omega)
   subst e
   rw [f70_L0.eq_2, if_neg (by decide)]
   have : memP (0#16).toNat 16 = [] := by decide
   rw [this]; simp
  ·obtain ⟨h1, h2, h3⟩ := memOK_of hw2 h0
   have e : BitVec.ofNat 16 w.toNat = w := by simp
   rw [e] at h1 h2
   have hp : 0 < 2 ^ lowN 12 w.toNat := Nat.pow_pos (by decide)
   have hne : (!(w == (BitVec.ofInt 16 0))) = true := by
    have : w ≠ 0#16 := fun e => h0 (by rw [e]; rfl)
    simpa using this
   rw [f70_L0.eq_2, if_pos hne, h1, some_bind, chk_pos (by omega), ih _ k _ (by rw [h2]; omega) (by rw [h2]; omega) (by omega) (by simp; omega), h2, h3]
   simp
theorem f70_eq (w : BitVec 16) (h : w.toNat < 4096) : f70 w = some ((memP w.toNat 16).map fun i : Nat => (i : Int)) := by
 unfold f70
 rw [jn_eq, f70_L0_eq _ 4096 w FUEL [] (by omega) h (by unfold FUEL; omega) (by simp)]
 simp
/-! ### the numbers with as many bits -/
end Go.Abs
namespace Go.Abs
/-! f46b, f44 -/
theorem f46b_L1_eq (L : List Nat) (i : Nat) (K : BitVec 16 → Option (Bool × Nat × List UInt8 × Int × BitVec 16 × List (BitVec 16) × List (BitVec 16) × (List Tq0) × BitVec 16 × List (BitVec 16) × BitVec 16 × List (BitVec 16))) (hL : L.length ≤ 12) (hi : i < 4096) : ∀ c k n w, n + c = L.length → c < k → f46b_L1 (L.map fun i : Nat => (i : Int)) (i : Int) K k (w, n) = K (wP (L.drop n) (i / 2 ^ n) w)
 | 0, k, n, w, hc, hk => by
  obtain ⟨k, rfl⟩ : ∃ q, k = q + 1 := ⟨k - 1, by omega⟩
  rw [f46b_L1.eq_2, ifd_neg (by rw [mp_len]; omega), List.drop_eq_nil_of_le (by omega)]
  rfl
 | c + 1, k, n, w, hc, hk => by
  obtain ⟨k, rfl⟩ : ∃ q, k = q + 1 := ⟨k - 1, by omega⟩
  have hu : IntKind.bits .u32 = 32 := rfl
  have hlt : i / 2 ^ n < 4096 := Nat.lt_of_le_of_lt (Nat.div_le_self _ _) hi
  rw [f46b_L1.eq_2, ifd_pos (by rw [mp_len]; omega), jn_eq, chk_pos (by rw [mp_len]; omega), chk_pos (by rw [mp_len]; omega), chk_pos (by rw [hu]; omega), mp_get L n (by omega), divc, and1 hlt, getD_drop L n 0 (by omega), wP, Nat.div_div_eq_div_mul, ← Nat.pow_succ, Int.toNat_natCast]
  by_cases hb : i / 2 ^ n % 2 = 1
  ·rw [ifd_pos hb, if_pos hb, chk_pos (by omega)]
   dsimp only
   rw [chk_pos (by omega), f46b_L1_eq L i K hL hi c k (n + 1) _ (by omega) (by omega)]
  ·rw [ifd_neg hb, if_neg hb]
   dsimp only
   rw [chk_pos (by omega), f46b_L1_eq L i K hL hi c k (n + 1) _ (by omega) (by omega)]
theorem f46b_L0_eq (Y : (List UInt8 × Int × BitVec 16 × List (BitVec 16) × List (BitVec 16) × (List Tq0) × BitVec 16 × List (BitVec 16) × BitVec 16 × List (BitVec 16)) → BitVec 16 → Option (Nat × (List UInt8 × Int × BitVec 16 × List (BitVec 16) × List (BitVec 16) × (List Tq0) × BitVec 16 × List (BitVec 16) × BitVec 16 × List (BitVec 16)))) (g : (List UInt8 × Int × BitVec 16 × List (BitVec 16) × List (BitVec 16) × (List Tq0) × BitVec 16 × List (BitVec 16) × BitVec 16 × List (BitVec 16)) → BitVec 16 → Nat × (List UInt8 × Int × BitVec 16 × List (BitVec 16) × List (BitVec 16) × (List Tq0) × BitVec 16 × List (BitVec 16) × BitVec 16 × List (BitVec 16))) (Inv : (List UInt8 × Int × BitVec 16 × List (BitVec 16) × List (BitVec 16) × (List Tq0) × BitVec 16 × List (BitVec 16) × BitVec 16 × List (BitVec 16)) → Prop) (hY : ∀ st x, Inv st → Y st x = some (g st x)) (hI : ∀ st x, Inv st → (g st x).1 = 0 → Inv (g st x).2) (M : List Nat) (hM : M.length ≤ 12) (K1 : (BitVec 16 × List (BitVec 16) × BitVec 16 × List UInt8 × Int × BitVec 16 × List (BitVec 16) × List (BitVec 16) × (List Tq0) × List (BitVec 16) × Nat) → Option (Bool × Nat × List UInt8 × Int × BitVec 16 × List (BitVec 16) × List (BitVec 16) × (List Tq0) × BitVec 16 × List (BitVec 16) × BitVec 16 × List (BitVec 16)))
  (t : List Nat) (a k : Nat) (st : (List UInt8 × Int × BitVec 16 × List (BitVec 16) × List (BitVec 16) × (List Tq0) × BitVec 16 × List (BitVec 16) × BitVec 16 × List (BitVec 16))) (hc : chainG M.length a t = true) (hk : t.length + 1 < k) (hi : Inv st) :
  f46b_L0 Y (M.map fun i : Nat => (i : Int)) K1 k ((a : Int), st.2.2.2.2.2.2.2.2.1, st.2.2.2.2.2.2.2.1, st.2.2.2.2.2.2.1, st.1, st.2.1, st.2.2.1, st.2.2.2.1, st.2.2.2.2.1, st.2.2.2.2.2.1, st.2.2.2.2.2.2.2.2.2, 0) = if (runG g ((a :: t).map fun j => wP M j 0#16) st).1 = 0 then (fun st : (List UInt8 × Int × BitVec 16 × List (BitVec 16) × List (BitVec 16) × (List Tq0) × BitVec 16 × List (BitVec 16) × BitVec 16 × List (BitVec 16)) => K1 (st.2.2.2.2.2.2.2.2.1, st.2.2.2.2.2.2.2.1, st.2.2.2.2.2.2.1, st.1, st.2.1, st.2.2.1, st.2.2.2.1, st.2.2.2.2.1, st.2.2.2.2.2.1, st.2.2.2.2.2.2.2.2.2, 0)) (runG g ((a :: t).map fun j => wP M j 0#16) st).2 else some (false, runG g ((a :: t).map fun j => wP M j 0#16) st) := by
 refine chs_up (fun k i st => f46b_L0 Y (M.map fun i : Nat => (i : Int)) K1 k (i, st.2.2.2.2.2.2.2.2.1, st.2.2.2.2.2.2.2.1, st.2.2.2.2.2.2.1, st.1, st.2.1, st.2.2.1, st.2.2.2.1, st.2.2.2.2.1, st.2.2.2.2.2.1, st.2.2.2.2.2.2.2.2.2, 0)) g Inv (fun st => K1 (st.2.2.2.2.2.2.2.2.1, st.2.2.2.2.2.2.2.1, st.2.2.2.2.2.2.1, st.1, st.2.1, st.2.2.1, st.2.2.2.1, st.2.2.2.2.1, st.2.2.2.2.2.1, st.2.2.2.2.2.2.2.2.2, 0)) (fun r => some (false, r)) M hI ?_ ?_ t a k st hc hk hi
 ·intro k i st hi he
  obtain ⟨p1, p2, p3⟩ := pow12 hM
  have hu : IntKind.bits .u32 = 32 := rfl
  show f46b_L0 Y _ K1 (k + 1) _ = _
  rw [f46b_L0.eq_2, mp_len, chk_pos (by rw [hu]; omega), ifd_neg (by omega)]
 ·intro k a st hi ha hg
  obtain ⟨p1, p2, p3⟩ := pow12 hM
  have hu : IntKind.bits .u32 = 32 := rfl
  have ha' : a < 4096 := by have := Nat.pow_le_pow_right (n := 2) (by decide) hM; omega
  show f46b_L0 Y _ K1 (k + 1) _ = _
  rw [f46b_L0.eq_2, mp_len, chk_pos (by rw [hu]; omega), ifd_pos (by omega), jn_eq, f46b_L1_eq M a _ hM ha' M.length FUEL 0 _ (by omega) (fuel_lt (by omega)), jn_eq, chk_pos rfl, show (BitVec.ofInt 16 0) = 0#16 from rfl, List.drop_zero, Nat.pow_zero, Nat.div_one, hY _ _ hi, some_bind]
  by_cases hz : (g st (wP M a 0#16)).1 = 0
  ·rw [if_pos hz, if_pos hz, if_neg (by simp)]
   dsimp only
   by_cases h0 : a = 0
   ·rw [if_pos (by simp; omega), if_pos h0]
   ·rw [if_neg (by simp; omega), if_neg h0]
    have hg := hg.resolve_left h0
    unfold gosC lowB at hg
    simp only [Bool.and_eq_true, decide_eq_true_eq] at hg
    rw [chk_pos hg.1, chk_pos hg.2, chk_pos (by rw [hu]; omega)]
    unfold gosN lowB
    rfl
  ·rw [if_neg hz, if_neg hz, if_pos (by simp)]
theorem f46b_eq (Y : (List UInt8 × Int × BitVec 16 × List (BitVec 16) × List (BitVec 16) × (List Tq0) × BitVec 16 × List (BitVec 16) × BitVec 16 × List (BitVec 16)) → BitVec 16 → Option (Nat × (List UInt8 × Int × BitVec 16 × List (BitVec 16) × List (BitVec 16) × (List Tq0) × BitVec 16 × List (BitVec 16) × BitVec 16 × List (BitVec 16)))) (g : (List UInt8 × Int × BitVec 16 × List (BitVec 16) × List (BitVec 16) × (List Tq0) × BitVec 16 × List (BitVec 16) × BitVec 16 × List (BitVec 16)) → BitVec 16 → Nat × (List UInt8 × Int × BitVec 16 × List (BitVec 16) × List (BitVec 16) × (List Tq0) × BitVec 16 × List (BitVec 16) × BitVec 16 × List (BitVec 16))) (Inv : (List UInt8 × Int × BitVec 16 × List (BitVec 16) × List (BitVec 16) × (List Tq0) × BitVec 16 × List (BitVec 16) × BitVec 16 × List (BitVec 16)) → Prop) (hY : ∀ st x, Inv st → Y st x = some (g st x)) (hI : ∀ st x, Inv st → (g st x).1 = 0 → Inv (g st x).2) (s : BitVec 16) (hs : s.toNat < 4096) (n : Nat) (hn : n ≤ sz s) (st : (List UInt8 × Int × BitVec 16 × List (BitVec 16) × List (BitVec 16) × (List Tq0) × BitVec 16 × List (BitVec 16) × BitVec 16 × List (BitVec 16))) (hi : Inv st) :
  f46b Y s (n : Int) st.1 st.2.1 st.2.2.1 st.2.2.2.1 st.2.2.2.2.1 st.2.2.2.2.2.1 st.2.2.2.2.2.2.1 st.2.2.2.2.2.2.2.1 st.2.2.2.2.2.2.2.2.1 st.2.2.2.2.2.2.2.2.2 = some (decide ((runG g (chooseB s n) st).1 = 0), runG g (chooseB s n) st) := by
 have hm : (memP s.toNat 16).length = sz s := by rw [memP_len, cntB_sz]
 have hM : (memP s.toNat 16).length ≤ 12 := by
  have h := fun i (h : i ∈ memP s.toNat 16) => (List.mem_filter.1 h)
  have hsub : memP s.toNat 16 = (memP s.toNat 12) := by
   have hb : ∀ i, 12 ≤ i → ¬ s.toNat / 2 ^ i % 2 = 1 := by
    intro i hi
    have : s.toNat / 2 ^ i = 0 := Nat.div_eq_of_lt (Nat.lt_of_lt_of_le hs (Nat.pow_le_pow_right (n := 2) (by decide) hi))
    omega
   rw [memP_succ, memP_succ, memP_succ, memP_succ, if_neg (hb 15 (by omega)), if_neg (hb 14 (by omega)), if_neg (hb 13 (by omega)), if_neg (hb 12 (by omega))]
   simp
  rw [hsub, memP_len]
  exact cntB_le _ _
 obtain ⟨a, t, e1, e2, e3, e4⟩ := gOK_of (hm ▸ hM) hn
 have hu : IntKind.bits .u32 = 32 := rfl
 have hp := (pow12 (m := n) (by omega))
 unfold f46b
 rw [f70_eq s hs, some_bind, if_neg (by rw [List.length_map, hm]; simp; omega), jn_eq, Int.toNat_natCast, chk_pos ⟨by omega, by rw [hu]; omega, by omega, by omega⟩, chk_pos (by omega)]
 have ea : (1 : Int) * 2 ^ n - 1 = (a : Int) := by rw [hp.2.2]; omega
 rw [ea]
 rw [← hm] at e1 e3
 have e5 := wP_choose s n
 rw [← hm, e1] at e5
 refine (f46b_L0_eq Y g Inv hY hI _ hM _ t a FUEL st e3 (fuel_lt (by omega)) hi).trans ?_
 rw [e5]
 by_cases hz : (runG g (chooseB s n) st).1 = 0
 ·rw [if_pos hz, decide_eq_true hz]
  show some (true, 0, _) = _
  rw [← hz]
 ·rw [if_neg hz, decide_eq_false hz]
theorem f44_eq (Y : (List UInt8 × Int × BitVec 16 × List (BitVec 16) × List (BitVec 16) × (List Tq0) × BitVec 16 × List (BitVec 16) × BitVec 16 × List (BitVec 16)) → BitVec 16 → Option (Nat × (List UInt8 × Int × BitVec 16 × List (BitVec 16) × List (BitVec 16) × (List Tq0) × BitVec 16 × List (BitVec 16) × BitVec 16 × List (BitVec 16)))) (g : (List UInt8 × Int × BitVec 16 × List (BitVec 16) × List (BitVec 16) × (List Tq0) × BitVec 16 × List (BitVec 16) × BitVec 16 × List (BitVec 16)) → BitVec 16 → Nat × (List UInt8 × Int × BitVec 16 × List (BitVec 16) × List (BitVec 16) × (List Tq0) × BitVec 16 × List (BitVec 16) × BitVec 16 × List (BitVec 16))) (Inv : (List UInt8 × Int × BitVec 16 × List (BitVec 16) × List (BitVec 16) × (List Tq0) × BitVec 16 × List (BitVec 16) × BitVec 16 × List (BitVec 16)) → Prop) (hY : ∀ st x, Inv st → Y st x = some (g st x)) (hI : ∀ st x, Inv st → (g st x).1 = 0 → Inv (g st x).2) (s : BitVec 16) (hs : s.toNat < 4096) (hw : ∀ st, Inv st → st.2.2.2.2.2.2.2.2.1 = s) (st : (List UInt8 × Int × BitVec 16 × List (BitVec 16) × List (BitVec 16) × (List Tq0) × BitVec 16 × List (BitVec 16) × BitVec 16 × List (BitVec 16))) (hi : Inv st) :
  f44 Y st.1 st.2.1 st.2.2.1 st.2.2.2.1 st.2.2.2.2.1 st.2.2.2.2.2.1 st.2.2.2.2.2.2.1 st.2.2.2.2.2.2.2.1 st.2.2.2.2.2.2.2.2.1 st.2.2.2.2.2.2.2.2.2 = some (runG g (subsB s) st) := by
 unfold f44
 rw [subsB_range]
 refine subs_up (fun k n st => f44_L0 Y k (n, st.2.2.2.2.2.2.2.2.1, st.2.2.2.2.2.2.2.1, st.2.2.2.2.2.2.1, st.1, st.2.1, st.2.2.1, st.2.2.2.1, st.2.2.2.2.1, st.2.2.2.2.2.1, st.2.2.2.2.2.2.2.2.2, 0)) g Inv some s hI ?_ ?_ (sz s + 1) FUEL 0 st (by omega) (fuel_lt (by have := szle s; omega)) hi
 ·intro k st hi
  have hst := hw st hi
  show f44_L0 Y (k + 1) _ = _
  rw [f44_L0.eq_2, chk_pos rfl, hst, f45_eq, some_bind, ifd_neg (by omega)]
  rw [← hst]
 ·intro k n st hi hn
  have hst := hw st hi
  show f44_L0 Y (k + 1) _ = _
  rw [f44_L0.eq_2, chk_pos rfl, hst, f45_eq, some_bind, ifd_pos (by omega)]
  have e := f46b_eq Y g Inv hY hI s hs n hn st hi
  rw [hst] at e
  rw [e, some_bind]
  have hb := szle s
  by_cases hz : (runG g (chooseB s n) st).1 = 0
  ·rw [if_pos hz, if_pos (decide_eq_true hz), chk_pos (by omega)]
   show f44_L0 Y k _ = f44_L0 Y k _
   rw [hz]
  ·rw [if_neg hz, if_neg (by simp [hz])]
/-! f46c, f44a -/
theorem f46c_L1_eq (L : List Nat) (i : Nat) (K : BitVec 16 → Option Tq6) (hL : L.length ≤ 12) (hi : i < 4096) : ∀ c k n w, n + c = L.length → c < k → f46c_L1 (L.map fun i : Nat => (i : Int)) (i : Int) K k (w, n) = K (wP (L.drop n) (i / 2 ^ n) w)
 | 0, k, n, w, hc, hk => by
  obtain ⟨k, rfl⟩ : ∃ q, k = q + 1 := ⟨k - 1, by omega⟩
  rw [f46c_L1.eq_2, ifd_neg (by rw [mp_len]; omega), List.drop_eq_nil_of_le (by omega)]
  rfl
 | c + 1, k, n, w, hc, hk => by
  obtain ⟨k, rfl⟩ : ∃ q, k = q + 1 := ⟨k - 1, by omega⟩
  have hu : IntKind.bits .u32 = 32 := rfl
  have hlt : i / 2 ^ n < 4096 := Nat.lt_of_le_of_lt (Nat.div_le_self _ _) hi
  rw [f46c_L1.eq_2, ifd_pos (by rw [mp_len]; omega), jn_eq, chk_pos (by rw [mp_len]; omega), chk_pos (by rw [mp_len]; omega), chk_pos (by rw [hu]; omega), mp_get L n (by omega), divc, and1 hlt, getD_drop L n 0 (by omega), wP, Nat.div_div_eq_div_mul, ← Nat.pow_succ, Int.toNat_natCast]
  by_cases hb : i / 2 ^ n % 2 = 1
  ·rw [ifd_pos hb, if_pos hb, chk_pos (by omega)]
   dsimp only
   rw [chk_pos (by omega), f46c_L1_eq L i K hL hi c k (n + 1) _ (by omega) (by omega)]
  ·rw [ifd_neg hb, if_neg hb]
   dsimp only
   rw [chk_pos (by omega), f46c_L1_eq L i K hL hi c k (n + 1) _ (by omega) (by omega)]
theorem f46c_L0_eq (Y : Tq3 → BitVec 16 → Option (Nat × Tq3)) (g : Tq3 → BitVec 16 → Nat × Tq3) (Inv : Tq3 → Prop) (hY : ∀ st x, Inv st → Y st x = some (g st x)) (hI : ∀ st x, Inv st → (g st x).1 = 0 → Inv (g st x).2) (M : List Nat) (hM : M.length ≤ 12) (K1 : Tq7 → Option Tq6)
  (t : List Nat) (a k : Nat) (st : Tq3) (hc : chainG M.length a t = true) (hk : t.length + 1 < k) (hi : Inv st) :
  f46c_L0 Y (M.map fun i : Nat => (i : Int)) K1 k ((a : Int), st.2.2.2, st.2.1, st.1, st.2.2.1, 0) = if (runG g ((a :: t).map fun j => wP M j 0#16) st).1 = 0 then (fun st : Tq3 => K1 (st.2.2.2, st.2.1, st.1, st.2.2.1, 0)) (runG g ((a :: t).map fun j => wP M j 0#16) st).2 else some (false, runG g ((a :: t).map fun j => wP M j 0#16) st) := by
 refine chs_up (fun k i st => f46c_L0 Y (M.map fun i : Nat => (i : Int)) K1 k (i, st.2.2.2, st.2.1, st.1, st.2.2.1, 0)) g Inv (fun st => K1 (st.2.2.2, st.2.1, st.1, st.2.2.1, 0)) (fun r => some (false, r)) M hI ?_ ?_ t a k st hc hk hi
 ·intro k i st hi he
  obtain ⟨p1, p2, p3⟩ := pow12 hM
  have hu : IntKind.bits .u32 = 32 := rfl
  show f46c_L0 Y _ K1 (k + 1) _ = _
  rw [f46c_L0.eq_2, mp_len, chk_pos (by rw [hu]; omega), ifd_neg (by omega)]
 ·intro k a st hi ha hg
  obtain ⟨p1, p2, p3⟩ := pow12 hM
  have hu : IntKind.bits .u32 = 32 := rfl
  have ha' : a < 4096 := by have := Nat.pow_le_pow_right (n := 2) (by decide) hM; omega
  show f46c_L0 Y _ K1 (k + 1) _ = _
  rw [f46c_L0.eq_2, mp_len, chk_pos (by rw [hu]; omega), ifd_pos (by omega), jn_eq, f46c_L1_eq M a _ hM ha' M.length FUEL 0 _ (by omega) (fuel_lt (by omega)), jn_eq, chk_pos rfl, show (BitVec.ofInt 16 0) = 0#16 from rfl, List.drop_zero, Nat.pow_zero, Nat.div_one, hY _ _ hi, some_bind]
  by_cases hz : (g st (wP M a 0#16)).1 = 0
  ·rw [if_pos hz, if_pos hz, if_neg (by simp)]
   dsimp only
   by_cases h0 : a = 0
   ·rw [if_pos (by simp; omega), if_pos h0]
   ·rw [if_neg (by simp; omega), if_neg h0]
    have hg := hg.resolve_left h0
    unfold gosC lowB at hg
    simp only [Bool.and_eq_true, decide_eq_true_eq] at hg
    rw [chk_pos hg.1, chk_pos hg.2, chk_pos (by rw [hu]; omega)]
    unfold gosN lowB
    rfl
  ·rw [if_neg hz, if_neg hz, if_pos (by simp)]
theorem f46c_eq (Y : Tq3 → BitVec 16 → Option (Nat × Tq3)) (g : Tq3 → BitVec 16 → Nat × Tq3) (Inv : Tq3 → Prop) (hY : ∀ st x, Inv st → Y st x = some (g st x)) (hI : ∀ st x, Inv st → (g st x).1 = 0 → Inv (g st x).2) (s : BitVec 16) (hs : s.toNat < 4096) (n : Nat) (hn : n ≤ sz s) (st : Tq3) (hi : Inv st) :
  f46c Y s (n : Int) st.1 st.2.1 st.2.2.1 st.2.2.2 = some (decide ((runG g (chooseB s n) st).1 = 0), runG g (chooseB s n) st) := by
 have hm : (memP s.toNat 16).length = sz s := by rw [memP_len, cntB_sz]
 have hM : (memP s.toNat 16).length ≤ 12 := by
  have h := fun i (h : i ∈ memP s.toNat 16) => (List.mem_filter.1 h)
  have hsub : memP s.toNat 16 = (memP s.toNat 12) := by
   have hb : ∀ i, 12 ≤ i → ¬ s.toNat / 2 ^ i % 2 = 1 := by
    intro i hi
    have : s.toNat / 2 ^ i = 0 := Nat.div_eq_of_lt (Nat.lt_of_lt_of_le hs (Nat.pow_le_pow_right (n := 2) (by decide) hi))
    omega
   rw [memP_succ, memP_succ, memP_succ, memP_succ, if_neg (hb 15 (by omega)), if_neg (hb 14 (by omega)), if_neg (hb 13 (by omega)), if_neg (hb 12 (by omega))]
   simp
  rw [hsub, memP_len]
  exact cntB_le _ _
 obtain ⟨a, t, e1, e2, e3, e4⟩ := gOK_of (hm ▸ hM) hn
 have hu : IntKind.bits .u32 = 32 := rfl
 have hp := (pow12 (m := n) (by omega))
 unfold f46c
 rw [f70_eq s hs, some_bind, if_neg (by rw [List.length_map, hm]; simp; omega), jn_eq, Int.toNat_natCast, chk_pos ⟨by omega, by rw [hu]; omega, by omega, by omega⟩, chk_pos (by omega)]
 have ea : (1 : Int) * 2 ^ n - 1 = (a : Int) := by rw [hp.2.2]; omega
 rw [ea]
 rw [← hm] at e1 e3
 have e5 := wP_choose s n
 rw [← hm, e1] at e5
 refine (f46c_L0_eq Y g Inv hY hI _ hM _ t a FUEL st e3 (fuel_lt (by omega)) hi).trans ?_
 rw [e5]
 by_cases hz : (runG g (chooseB s n) st).1 = 0
 ·rw [if_pos hz, decide_eq_true hz]
  show some (true, 0, _) = _
  rw [← hz]
 ·rw [if_neg hz, decide_eq_false hz]
theorem f44a_eq (Y : Tq3 → BitVec 16 → Option (Nat × Tq3)) (g : Tq3 → BitVec 16 → Nat × Tq3) (Inv : Tq3 → Prop) (hY : ∀ st x, Inv st → Y st x = some (g st x)) (hI : ∀ st x, Inv st → (g st x).1 = 0 → Inv (g st x).2) (s : BitVec 16) (hs : s.toNat < 4096) (hw : ∀ st, Inv st → st.2.2.2 = s) (st : Tq3) (hi : Inv st) :
  f44a Y st.1 st.2.1 st.2.2.1 st.2.2.2 = some (runG g (subsB s) st) := by
 unfold f44a
 rw [subsB_range]
 refine subs_up (fun k n st => f44a_L0 Y k (n, st.2.2.2, st.2.1, st.1, st.2.2.1, 0)) g Inv some s hI ?_ ?_ (sz s + 1) FUEL 0 st (by omega) (fuel_lt (by have := szle s; omega)) hi
 ·intro k st hi
  have hst := hw st hi
  show f44a_L0 Y (k + 1) _ = _
  rw [f44a_L0.eq_2, chk_pos rfl, hst, f45_eq, some_bind, ifd_neg (by omega)]
  rw [← hst]
 ·intro k n st hi hn
  have hst := hw st hi
  show f44a_L0 Y (k + 1) _ = _
  rw [f44a_L0.eq_2, chk_pos rfl, hst, f45_eq, some_bind, ifd_pos (by omega)]
  have e := f46c_eq Y g Inv hY hI s hs n hn st hi
  rw [hst] at e
  rw [e, some_bind]
  have hb := szle s
  by_cases hz : (runG g (chooseB s n) st).1 = 0
  ·rw [if_pos hz, if_pos (decide_eq_true hz), chk_pos (by omega)]
   show f44a_L0 Y k _ = f44a_L0 Y k _
   rw [hz]
  ·rw [if_neg hz, if_neg (by simp [hz])]
end Go.Abs
namespace Go.Abs
/-! ### lists that are in order -/
theorem getD_memS {l : List (BitVec 16)} {n : Nat} (h : n < l.length) : l.getD n 0#16 ∈ l := by
 rw [List.getD_eq_getElem?_getD, List.getElem?_eq_getElem h]; exact List.getElem_mem h
theorem scan0_ok (x : List (BitVec 16)) (h : okS x) : ∀ (c n : Nat), n + c = x.length → scan0 x c n = none
 | 0, _, _ => rfl
 | c + 1, n, hn => by
  have h1 := h.2.2 _ (getD_memS (l := x) (n := n) (by omega))
  rw [scan0, if_pos h1, scan0_ok x h c (n + 1) (by omega), if_neg]
  intro e
  simp only [Bool.and_eq_true, decide_eq_true_eq, Bool.not_eq_true'] at e
  have := ltS_key.2 (strict_get h.1 (i := n - 1) (j := n) (by omega) (by omega))
  rw [this] at e; exact absurd e.2 (by simp)
theorem f21_ok0 (x : List (BitVec 16)) (h : okS x) (hl : x.length ≤ 400) : f21 x = some 0 := by
 rw [f21_val x hl, scan0_ok x h _ 0 (by omega)]
 show (if bad1 x x.length 0 = true then some 1 else some 0) = some (0 : Int)
 rw [if_neg]
 intro e
 obtain ⟨m, j, _, hm, hj, hs⟩ := (bad1_iff x x.length 0 (by omega)).1 e
 have e1 := h.2.1 _ (getD_memS (l := x) (n := j) (by omega)) _ (getD_memS hm) hs
 have e2 := strict_get h.1 hj hm
 rw [e1] at e2; omega
theorem rngS_ok (x : List (BitVec 16)) (h : ∀ a, a ∈ x → a.toNat < 4096) : rngS x = true := by
 unfold rngS
 rw [List.all_eq_true]
 intro a ha
 exact decide_eq_true (h a ha)
theorem f30d_eq (x : List (BitVec 16)) (s : BitVec 16) (hx : x.length ≤ 65536) : f30d x s = some (x.any (fun y => (y &&& s) == 0#16), s) := by
 unfold f30d f54d
 rw [jn_eq]
 rcases find_up (fun k n => f54d_L0 x (fun w6 => some ((-1 : Int), w6)) k (n, s)) x 0#16 (fun y => (y &&& s) == 0#16) (fun m => some ((m : Int), s)) (some ((-1 : Int), s)) (fun k n hn => by
  show f54d_L0 x _ (k + 1) (n, s) = _
  rw [f54d_L0.eq_2, ifd_pos (by omega)]
  unfold f49
  rw [some_bind, chk_pos (by omega)]
  dsimp only
  rw [chk_pos (by omega)]
  rfl) (fun k => by
  show f54d_L0 x _ (k + 1) (x.length, s) = _
  rw [f54d_L0.eq_2, ifd_neg (by omega)]) x.length FUEL 0 (by omega) (fuel_lt (by omega)) with ⟨m, _, _, _, h1, h2⟩ | ⟨h1, h2⟩
 ·rw [h1, some_bind]
  rw [List.drop_zero] at h2
  rw [h2]; simp
 ·rw [h1, some_bind]
  rw [List.drop_zero] at h2
  rw [h2]; simp
theorem f25_eq (x : List (BitVec 16)) (s : BitVec 16) (hx : x.length ≤ 65536) : f25 x s = some (hits x s) := by
 unfold f25 hits
 rw [f30d_eq x s hx, some_bind]
 simp [List.any_eq_not_all_not]
abbrev S12 := List (BitVec 16) × Int × List (BitVec 16) × BitVec 16
def g12 (x : List (BitVec 16)) (st : S12) (s : BitVec 16) : Nat × S12 :=
 if (hits x s && !acc st.2.2.1 s) = true then (if st.2.2.1.length + 1 > 400 then (2, (st.1, 3, st.2.2.1 ++ [s], st.2.2.2)) else (0, (st.1, st.2.1, st.2.2.1 ++ [s], st.2.2.2))) else (0, st)
def I12 (x : List (BitVec 16)) (U : BitVec 16) (st : S12) : Prop := st.1 = x ∧ st.2.2.1.length ≤ 400 ∧ st.2.2.2 = U
theorem i12_keep (x : List (BitVec 16)) (U : BitVec 16) (st : S12) (s : BitVec 16) (hi : I12 x U st) (hz : (g12 x st s).1 = 0) : I12 x U (g12 x st s).2 := by
 obtain ⟨h1, h2, h3⟩ := hi
 unfold g12 at hz ⊢
 by_cases hc : (hits x s && !acc st.2.2.1 s) = true
 ·rw [if_pos hc] at hz ⊢
  by_cases hl : st.2.2.1.length + 1 > 400
  ·rw [if_pos hl] at hz; cases hz
  ·rw [if_neg hl]; exact ⟨h1, by simp; omega, h3⟩
 ·rw [if_neg hc]; exact ⟨h1, h2, h3⟩
end Go.Abs
namespace Go.Abs
theorem cmpS_zero {a b : BitVec 16} (h : cmpS a b = 0) : key a = key b := by
 unfold cmpS cmpI at h
 unfold key
 have ha := a.isLt
 have hb := b.isLt
 by_cases h1 : sz a = sz b
 ·rw [h1] at h ⊢
  simp at h
  split at h
  ·cases h
  ·split at h
   ·cases h
   ·omega
 ·by_cases h2 : sz a < sz b
  ·simp [h2] at h
  ·have : sz b < sz a := by omega
   simp [h2, this] at h
theorem cmpS_neg (a b : BitVec 16) : cmpS a b < 0 ↔ key a < key b := by
 have h := cmpS_lt a b
 rw [← ltS_key, ← h]; simp
def cmpF (a b : Flt) : Int := if cmpS a.1 b.1 ≠ 0 then cmpS a.1 b.1 else cmpS a.2 b.2
theorem cmpF_lt (a b : Flt) : decide (cmpF a b < 0) = decide (keyF a < keyF b) := by
 unfold cmpF keyF
 have h1 := key_lt a.1
 have h2 := key_lt a.2
 have h3 := key_lt b.1
 have h4 := key_lt b.2
 have n1 := cmpS_neg a.1 b.1
 have n2 := cmpS_neg a.2 b.2
 by_cases h : cmpS a.1 b.1 = 0
 ·have := cmpS_zero h
  rw [if_neg (by simpa using h)]
  rw [decide_eq_decide, n2]; omega
 ·rw [if_pos h, decide_eq_decide, n1]
  have h5 : key a.1 ≠ key b.1 := by
   intro e
   have e' := key_inj' e
   rw [e'] at h
   apply h
   unfold cmpS cmpI; simp
  omega
theorem f75_eq' (a b : Flt) : f75 a.1 a.2 b.1 b.2 = some (cmpF a b) := by
 unfold f75
 simp only [f43_eq', Option.bind_some, f66_eq]
 rfl
end Go.Abs
namespace Go.Abs
def mems (x : BitVec 16) : List Nat := (List.range 16).filter fun i => decide (x.toNat / 2 ^ i % 2 = 1)
theorem bit_eq (x : BitVec 16) (n : Nat) : (((x >>> n) &&& (BitVec.ofInt 16 1)) == (BitVec.ofInt 16 1)) = decide (x.toNat / 2 ^ n % 2 = 1) := by
 have h := bit_toNat x n
 rw [Bool.eq_iff_iff, beq_iff_eq, decide_eq_true_eq, ← h]
 constructor
 ·intro e; rw [e]; rfl
 ·intro e; exact BitVec.eq_of_toNat_eq e
theorem f94_eq (x : BitVec 16) (n : Nat) (h : n < 16) : f94 x (n : Int) = some (decide (x.toNat / 2 ^ n % 2 = 1)) := by
 unfold f94
 rw [chk_pos (by intro; omega), Int.toNat_natCast, bit_eq]
 have h1 : (decide ((n : Int) ≥ 0)) = true := by simp
 have h2 : (decide ((n : Int) < 16)) = true := by simp; omega
 rw [h1, h2]
 rfl
theorem f80_L0_eq (x : BitVec 16) (K : List Int → Option (List Int)) : ∀ (c k n : Nat) (l : List Int), n + c = 16 → c < k → l.length ≤ n →
  f80_L0 x K k (n, l) = K (l ++ ((List.range' n c).filter fun i => decide (x.toNat / 2 ^ i % 2 = 1)).map fun i : Nat => (i : Int))
 | 0, k, n, l, hn, hk, hl => by
  obtain ⟨k, rfl⟩ : ∃ q, k = q + 1 := ⟨k - 1, by omega⟩
  rw [f80_L0.eq_2, if_neg (by simp; omega)]
  simp
 | c + 1, k, n, l, hn, hk, hl => by
  obtain ⟨k, rfl⟩ : ∃ q, k = q + 1 := ⟨k - 1, by omega⟩
  rw [f80_L0.eq_2, if_pos (by simp; omega), jn_eq, f94_eq x n (by omega), some_bind, List.range'_succ, List.filter_cons]
  by_cases hb : x.toNat / 2 ^ n % 2 = 1
  ·rw [if_pos (decide_eq_true hb), chk_pos (by omega), if_pos (decide_eq_true hb)]
   dsimp only
   rw [chk_pos (by omega), f80_L0_eq x K c k (n + 1) _ (by omega) (by omega) (by simp; omega)]
   simp
  ·rw [if_neg (by simpa using hb), if_neg (by simpa using hb)]
   dsimp only
   rw [chk_pos (by omega), f80_L0_eq x K c k (n + 1) _ (by omega) (by omega) (by omega)]
theorem f80_eq (x : BitVec 16) : f80 x = some ((mems x).map fun i : Nat => (i : Int)) := by
 unfold f80
 rw [jn_eq, f80_L0_eq x _ 16 FUEL 0 [] rfl (by unfold FUEL; omega) (Nat.zero_le _), List.nil_append, mems, List.range_eq_range']
theorem mems_bsum (x : Nat) : ∀ c n, ((List.range' n c).filter fun i => decide (x / 2 ^ i % 2 = 1)).length = bsum x n c
 | 0, n => rfl
 | c + 1, n => by
  rw [List.range'_succ, List.filter_cons, bsum]
  have hb : x / 2 ^ n % 2 < 2 := Nat.mod_lt _ (by decide)
  split <;> rename_i h
  ·have h : x / 2 ^ n % 2 = 1 := by simpa using h
   rw [List.length_cons, mems_bsum x c (n + 1), h]; omega
  ·have h : ¬ x / 2 ^ n % 2 = 1 := by simpa using h
   rw [mems_bsum x c (n + 1)]; omega
theorem mems_len (x : BitVec 16) : (mems x).length = sz x := by
 unfold mems
 rw [List.range_eq_range', mems_bsum]
 rfl
theorem f59_eq (x : BitVec 16) : f59 x = some (sz x : Int) := by
 unfold f59
 rw [f80_eq, some_bind, List.length_map, mems_len]
theorem f61_eq (a b : BitVec 16) : ∃ c, f61 a b = some c ∧ (c = 0 ↔ a = b) ∧ (c < 0 ↔ key a < key b) := by
 unfold f61
 rw [f59_eq, f59_eq]
 by_cases h : a = b
 ·subst h
  rw [if_pos (by simp)]
  exact ⟨0, rfl, by simp, by simp⟩
 ·rw [if_neg (by simpa using h)]
  have hn : a.toNat ≠ b.toNat := fun e => h (BitVec.eq_of_toNat_eq e)
  have ha := a.isLt
  have hb := b.isLt
  rw [some_bind, some_bind]
  unfold key
  by_cases h1 : sz a < sz b
  ·refine ⟨-1, ?_, ?_, ?_⟩
   ·simp [optc, chk, h1]
   ·simp [h]
   ·simp; omega
  ·by_cases h2 : sz a = sz b
   ·by_cases h3 : a.toNat < b.toNat
    ·exact ⟨-1, by simp [optc, chk, h2, h3], by simp [h], by simp; omega⟩
    ·exact ⟨1, by simp [optc, chk, h2, h3], by simp [h], by simp; omega⟩
   ·exact ⟨1, by simp [optc, chk, h1]; omega, by simp [h], by simp; omega⟩
theorem f37_eq (a b : Flt) : ∃ c, f37 a.1 a.2 b.1 b.2 = some c ∧ (c < 0 ↔ keyF a < keyF b) := by
 obtain ⟨c, h1, h2, h3⟩ := f61_eq a.1 b.1
 obtain ⟨d, h4, h5, h6⟩ := f61_eq a.2 b.2
 have k1 := key_lt a.1
 have k2 := key_lt a.2
 have k3 := key_lt b.1
 have k4 := key_lt b.2
 unfold f37 keyF
 rw [h1, h4, some_bind, some_bind]
 by_cases hc : c = 0
 ·refine ⟨d, by simp [hc], ?_⟩
  rw [h2.1 hc, h6]; omega
 ·refine ⟨c, by simp [hc], ?_⟩
  have : key a.1 ≠ key b.1 := fun e => hc (h2.2 (key_inj' e))
  rw [h3]; omega
theorem f75_lt (a b : Flt) : ∃ c, f75 a.1 a.2 b.1 b.2 = some c ∧ (c < 0 ↔ keyF a < keyF b) :=
 ⟨_, f75_eq' a b, by have := cmpF_lt a b; simpa using this⟩
theorem f74_eq (b a : Flt) : f74 b.1 b.2 a.1 a.2 = some (cov b a) := by
 unfold f74 f89 cov sub ftyS
 by_cases h : (a.1 &&& ~~~b.1) = 0#16
 ·simp [h, optc_t]
 ·have e : (a.1 &&& ~~~b.1 == 0#16) = false := by simpa using h
  simp [e, optc_f]
theorem f36_eq (b a : Flt) : f36 b.1 b.2 a.1 a.2 = some (cov b a) := by
 unfold f36 f58 f60 cov sub ftyS
 by_cases h : (a.1 &&& ~~~b.1) = 0#16
 ·simp [h, optc_t]
 ·have e : (a.1 &&& ~~~b.1 == 0#16) = false := by simpa using h
  simp [e, optc_f]
def errF (a : Flt) : Int := if (ftyS a).toNat < 4096 then (if a.1 &&& a.2 = 0#16 then 0 else 1) else 7
theorem f73_eq (a : Flt) : f73 a.1 a.2 = some (errF a) := by
 have e : ((ftyS a &&& ~~~(BitVec.ofInt 16 4095)) == (BitVec.ofInt 16 0)) = decide ((ftyS a).toNat < 4096) := outside_eq (ftyS a)
 unfold f73 f89 errF
 rw [some_bind]
 change (if (!((ftyS a &&& ~~~(BitVec.ofInt 16 4095)) == (BitVec.ofInt 16 0))) = true then _ else _) = _
 rw [e]
 by_cases h : (ftyS a).toNat < 4096
 ·rw [decide_eq_true h, if_neg (by simp), if_pos h]
  by_cases h2 : a.1 &&& a.2 = 0#16
  ·rw [if_pos h2, if_neg (by simp [h2])]
  ·rw [if_neg h2, if_pos (by simpa using h2)]
 ·rw [decide_eq_false h, if_pos (by simp), if_neg h]
def anyC (x : List Flt) (n : Nat) : Bool := (x.take n).any fun y => cov (x.getD n default) y || cov y (x.getD n default)
def scanF (x : List Flt) : Nat → Nat → Option Int
 | 0, _ => none
 | c + 1, n => if errF (x.getD n default) ≠ 0 then some (errF (x.getD n default)) else if anyC x n = true then some 5
  else if 0 < n ∧ ¬ keyF (x.getD (n - 1) default) < keyF (x.getD n default) then some 1 else scanF x c (n + 1)
def orE (e : Option Int) (K : Unit → Option Int) : Option Int := match e with
 | some e => some e
 | none => K ()
theorem f51_L1_eq (x : List Flt) (n : Nat) (K : Unit → Option Int) (hn : n < x.length) (hx : x.length ≤ 65536) : f51_L1 x n K FUEL 0 = if anyC x n = true then some 5 else K () := by
 have hl : (x.take n).length = n := by simp; omega
 refine any_up (f51_L1 x n K) (x.take n) default (fun y => cov (x.getD n default) y || cov y (x.getD n default)) (some 5) (K ()) (fun k m hm => ?_) (fun k => ?_) FUEL (by rw [hl]; exact fuel_lt (by omega))
 ·rw [hl] at hm
  rw [f51_L1.eq_2, if_pos (by simp; omega), chk_pos (by omega), f74_eq, some_bind]
  cases cov (x.getD n default) ((x.take n).getD m default) with
  | true =>
   rw [show ((true == false)) = false from rfl, optc_f, Bool.true_or, Bool.true_or, if_pos rfl, if_pos rfl]
  | false =>
   rw [show ((false == false) = true) from rfl, optc_t, f74_eq, some_bind, chk_pos (by omega)]
 ·rw [hl, f51_L1.eq_2, if_neg (by simp)]
theorem f51_L0_eq (x : List Flt) (K : Unit → Option Int) (hx : x.length ≤ 65536) : ∀ (c k n : Nat), n + c = x.length → c < k → f51_L0 x K k n = orE (scanF x c n) K
 | 0, k, n, hn, hk => by
  obtain ⟨k, rfl⟩ : ∃ q, k = q + 1 := ⟨k - 1, by omega⟩
  rw [f51_L0.eq_2, if_neg (by simp; omega)]
  rfl
 | c + 1, k, n, hn, hk => by
  obtain ⟨k, rfl⟩ : ∃ q, k = q + 1 := ⟨k - 1, by omega⟩
  have ih := f51_L0_eq x K hx c k (n + 1) (by omega) (by omega)
  rw [f51_L0.eq_2, if_pos (by simp; omega), chk_pos (by omega), f73_eq, some_bind]
  unfold scanF
  by_cases he : errF (x.getD n default) = 0
  ·rw [if_neg (by rw [he]; decide), if_neg (fun h => h he), jn_eq, chk_pos (by omega), f51_L1_eq x n _ (by omega) hx]
   by_cases ha : anyC x n = true
   ·rw [if_pos ha, if_pos ha]; rfl
   ·rw [if_neg ha, if_neg ha]
    have hn1 : ((n : Int) - 1).toNat = n - 1 := by omega
    rw [hn1]
    by_cases h0 : 0 < n
    ·have h0' : ((decide ((n : Int) > 0)) == true) = true := by simp; omega
     obtain ⟨r, h1, h2⟩ := f75_lt (x.getD (n - 1) default) (x.getD n default)
     rw [h0', optc_t, h1, some_bind, chk_pos (by intro; omega), chk_pos (by intro; omega), chk_pos (by omega), ih]
     by_cases hk2 : keyF (x.getD (n - 1) default) < keyF (x.getD n default)
     ·rw [if_neg (by have := h2.2 hk2; simp; omega), if_neg (fun h => h.2 hk2)]
     ·rw [if_pos (by have : ¬ r < 0 := fun h => hk2 (h2.1 h); simp; omega), if_pos ⟨h0, hk2⟩]; rfl
    ·have h0' : ((decide ((n : Int) > 0)) == true) = false := by simp; omega
     rw [h0', optc_f, chk_pos (by intro h; cases h), chk_pos (by intro h; cases h), if_neg (by simp; omega), if_neg (by omega), chk_pos (by omega), ih]
  ·rw [if_pos (by simpa using he), if_pos he]; rfl
def validF (x : List Flt) : Int := if x.length = 0 then 9 else if x.length > 100 then 3 else (scanF x x.length 0).getD 0
theorem f51_eq (x : List Flt) : f51 x = some (validF x) := by
 unfold f51 validF
 by_cases h0 : x.length = 0
 ·rw [if_pos (by simpa using h0), if_pos h0]
 ·rw [if_neg (by simpa using h0), if_neg h0]
  by_cases h1 : x.length > 100
  ·rw [if_pos (by simp; omega), if_pos h1]
  ·rw [if_neg (by simp; omega), if_neg h1, jn_eq, f51_L0_eq x _ (by omega) x.length FUEL 0 (by omega) (fuel_lt (by omega))]
   cases scanF x x.length 0 <;> rfl
theorem fltNe (a b : Flt) : (!((a.1 == b.1) && ((a.2 == b.2) && true))) = (a != b) := by
 rw [Bool.and_true]; rfl
def keepR (x : List Flt) (n : Nat) : Bool := !((List.range x.length).any fun k => cov (x.getD k default) (x.getD n default) && (x.getD k default != x.getD n default || decide (k < n)))
theorem f17_L1_eq (x : List Flt) (n2 : Nat) (K : Bool → Option (List Flt)) (hx : x.length ≤ 65536) (hn : n2 < x.length) : ∀ c k n b, n + c = x.length → c < k →
  f17_L1 x n2 K k (b, n) = K (b && !((List.range' n c).any fun k => cov (x.getD k default) (x.getD n2 default) && (x.getD k default != x.getD n2 default || decide (k < n2))))
 | 0, k, n, b, hc, hk => by
  obtain ⟨k, rfl⟩ : ∃ q, k = q + 1 := ⟨k - 1, by omega⟩
  rw [f17_L1.eq_2, ifd_neg (by omega)]
  simp
 | c + 1, k, n, b, hc, hk => by
  obtain ⟨k, rfl⟩ : ∃ q, k = q + 1 := ⟨k - 1, by omega⟩
  have ih := fun b => f17_L1_eq x n2 K hx hn c k (n + 1) b (by omega) (by omega)
  rw [f17_L1.eq_2, ifd_pos (by omega), jn_eq, f36_eq, some_bind, fltNe, chk_pos (by omega), chk_pos (by omega), chk_pos (by intro; omega), chk_pos (by intro; omega), chk_pos (by
   intro _ h2 h3
   rw [h2, h3]
   rfl)]
  dsimp only
  rw [List.range'_succ, List.any_cons]
  have hd : decide (((n : Nat) : Int) < ((n2 : Nat) : Int)) = decide (n < n2) := by
   rw [Bool.eq_iff_iff, decide_eq_true_eq, decide_eq_true_eq]; omega
  rw [hd]
  cases h : cov (x.getD n default) (x.getD n2 default) && (x.getD n default != x.getD n2 default || decide (n < n2)) with
  | true => rw [if_pos rfl, chk_pos (by omega), ih]; simp
  | false => rw [if_neg (by simp), chk_pos (by omega), ih]; simp
theorem f17_L2_eq (x : List Flt) (n2 : Nat) (K : Nat × List Flt → Option (List Flt)) (l : List Flt) (hl : l.length ≤ 65536) (hn : n2 < x.length) (hx : x.length ≤ 65536) : ∀ c k n, n + c = l.length → c < k → (∀ j, j < n → keyF (l.getD j default) < keyF (x.getD n2 default)) →
  ∃ m, m ≤ l.length ∧ f17_L2 x n2 K k (n, l) = K (m, l) ∧ (∀ j, j < m → keyF (l.getD j default) < keyF (x.getD n2 default)) ∧ (m < l.length → ¬ keyF (l.getD m default) < keyF (x.getD n2 default))
 | 0, k, n, hc, hk, hj => by
  obtain ⟨k, rfl⟩ : ∃ q, k = q + 1 := ⟨k - 1, by omega⟩
  refine ⟨n, by omega, ?_, hj, fun h => by omega⟩
  rw [f17_L2.eq_2]
  have h0 : (decide (((n : Nat) : Int) < (((l).length : Nat) : Int))) = false := by simp; omega
  rw [h0]
  rfl
 | c + 1, k, n, hc, hk, hj => by
  obtain ⟨k, rfl⟩ : ∃ q, k = q + 1 := ⟨k - 1, by omega⟩
  have h0 : (decide (((n : Nat) : Int) < (((l).length : Nat) : Int))) = true := by simp; omega
  obtain ⟨r, h1, h2⟩ := f37_eq (l.getD n default) (x.getD n2 default)
  rw [f17_L2.eq_2, h0, show ((true == true) = true) from rfl, optc_t, h1, some_bind, chk_pos (by intro; omega), chk_pos (by intro; omega), chk_pos (by intro; omega)]
  by_cases hk2 : keyF (l.getD n default) < keyF (x.getD n2 default)
  ·have := h2.2 hk2
   rw [if_pos (by simp; omega), chk_pos (by omega)]
   exact f17_L2_eq x n2 K l hl hn hx c k (n + 1) (by omega) (by omega) fun j h => by
    by_cases e : j = n
    ·subst e; exact hk2
    ·exact hj j (by omega)
  ·have : ¬ r < 0 := fun h => hk2 (h2.1 h)
   rw [if_neg (by simp; omega)]
   exact ⟨n, by omega, rfl, hj, fun _ => hk2⟩
theorem keepR_iff (x : List Flt) (n : Nat) (hn : n < x.length) : keepR x n = true ↔ (∀ b, b ∈ x → x.getD n default ≠ b → cov b (x.getD n default) = false) ∧ ∀ k, k < n → x.getD k default ≠ x.getD n default := by
 unfold keepR
 rw [Bool.not_eq_true', List.any_eq_false]
 constructor
 ·intro h
  refine ⟨fun b hb hne => ?_, fun k hk e => ?_⟩
  ·obtain ⟨j, hj, rfl⟩ := List.getElem_of_mem hb
   have := h j (List.mem_range.2 hj)
   have e : x.getD j default = x[j] := by simp [List.getD_eq_getElem?_getD, hj]
   rw [e] at this
   have h2 : (x[j] != x.getD n default) = true := by simp; exact fun h => hne h.symm
   rw [h2] at this
   simpa using this
  ·have := h k (List.mem_range.2 (by omega))
   rw [e, cov_refl, decide_eq_true hk] at this
   simp at this
 ·rintro ⟨h1, h2⟩ k hk
  rw [List.mem_range] at hk
  have hmem : x.getD k default ∈ x := by
   rw [List.getD_eq_getElem?_getD, List.getElem?_eq_getElem hk]; exact List.getElem_mem hk
  by_cases e : x.getD n default = x.getD k default
  ·have : ¬ k < n := fun h => h2 k h e.symm
   rw [← e, decide_eq_false this]
   simp
  ·rw [h1 _ hmem e]; simp
def InsI (x : List Flt) (n : Nat) (out : List Flt) : Prop := out.length ≤ n ∧ out.Pairwise (fun a b => keyF a < keyF b) ∧ ∀ a, a ∈ out ↔ ∃ j, j < n ∧ x.getD j default = a ∧ keepR x j = true
theorem f17_L0_eq (x : List Flt) (K : List Flt → Option (List Flt)) (hx : x.length ≤ 65536) : ∀ c k n out, n + c = x.length → c < k → InsI x n out → ∃ out', InsI x x.length out' ∧ f17_L0 x K k (n, out) = K out'
 | 0, k, n, out, hc, hk, hi => by
  obtain ⟨k, rfl⟩ : ∃ q, k = q + 1 := ⟨k - 1, by omega⟩
  refine ⟨out, by rw [show x.length = n by omega]; exact hi, ?_⟩
  rw [f17_L0.eq_2, ifd_neg (by omega)]
 | c + 1, k, n, out, hc, hk, hi => by
  obtain ⟨k, rfl⟩ : ∃ q, k = q + 1 := ⟨k - 1, by omega⟩
  obtain ⟨i1, i2, i3⟩ := hi
  rw [f17_L0.eq_2, ifd_pos (by omega), jn_eq, jn_eq, f17_L1_eq x n _ hx (by omega) x.length FUEL 0 true (by omega) (fuel_lt (by omega)), Bool.true_and, ← List.range_eq_range']
  change ∃ out', _ ∧ (if (!(keepR x n)) = true then _ else _) = _
  cases hkp : keepR x n with
  | false =>
   rw [if_pos (show (!false) = true from rfl)]
   dsimp only
   rw [chk_pos (by omega)]
   refine f17_L0_eq x K hx c k (n + 1) out (by omega) (by omega) ⟨by omega, i2, fun a => (i3 a).trans ?_⟩
   constructor
   ·rintro ⟨j, h1, h2⟩; exact ⟨j, by omega, h2⟩
   ·rintro ⟨j, h1, h2, h3⟩
    have : j ≠ n := by rintro rfl; rw [hkp] at h3; cases h3
    exact ⟨j, by omega, h2, h3⟩
  | true =>
   rw [if_neg (by simp), jn_eq]
   obtain ⟨m, m1, m2, m3, m4⟩ := f17_L2_eq x n (fun p =>
    chk (((p.1 : Nat) : Int) ≤ (((p.2).length : Nat) : Int)) <|
    chk ((0 + p.1) * 4 ≤ 140737488355328) <|
    chk (((n : Nat) : Int) < (((x).length : Nat) : Int)) <|
    chk ((((p.2.take p.1)).length + 1) * 4 ≤ 140737488355328) <|
    chk (((p.1 : Nat) : Int) ≤ (((p.2).length : Nat) : Int)) <|
    chk (((((p.2.take p.1) ++ [((x.getD n (default : Tq0)).1, (x.getD n (default : Tq0)).2)])).length + ((p.2).length - p.1)) * 4 ≤ 140737488355328) <|
    (fun (l9 : List Tq0) =>
     chk ((((n : Nat) : Int) + (1 : Int)) ≤ 9223372036854775807) <|
     (f17_L0 x K k) ((n + 1), l9)) (((p.2.take p.1) ++ [((x.getD n (default : Tq0)).1, (x.getD n (default : Tq0)).2)]) ++ (p.2.drop p.1))) out (by omega) (by omega) hx out.length FUEL 0 (by omega) (fuel_lt (by omega)) (fun j h => by omega)
   have hnew : x.getD n default ∉ out := by
    intro h
    obtain ⟨j, h1, h2, h3⟩ := (i3 _).1 h
    exact ((keepR_iff x n (by omega)).1 hkp).2 j h1 h2
   have hs := strict_insert (k := keyF) (fun _ _ => keyF_inj) out (x.getD n default) default m m1 i2 m3 m4 hnew
   have hlen : (out.take m).length ≤ n := by simp; omega
   obtain ⟨out', h1, h2⟩ := f17_L0_eq x K hx c k (n + 1) (out.take m ++ x.getD n default :: out.drop m) (by omega) (by omega) ⟨by simp; omega, hs, fun a => by
    rw [mem_insert_at, i3]
    constructor
    ·rintro (rfl | ⟨j, h1, h2⟩)
     ·exact ⟨n, by omega, rfl, hkp⟩
     ·exact ⟨j, by omega, h2⟩
    ·rintro ⟨j, h1, h2, h3⟩
     by_cases e : j = n
     ·subst e; exact .inl h2.symm
     ·exact .inr ⟨j, by omega, h2, h3⟩⟩
   refine ⟨out', h1, ?_⟩
   refine m2.trans ?_
   dsimp only
   rw [chk_pos (by omega), chk_pos (by omega), chk_pos (by omega), chk_pos (by omega), chk_pos (by omega), chk_pos (by simp; omega), chk_pos (by omega), ← h2]
   rw [List.append_assoc]
   rfl
theorem f17_eq (x : List Flt) (hx : x.length ≤ 65536) : f17 x = some (normP x) := by
 unfold f17
 rw [jn_eq]
 obtain ⟨out', ⟨i1, i2, i3⟩, h2⟩ := f17_L0_eq x (fun l => some l) hx x.length FUEL 0 [] (by omega) (fuel_lt (by omega)) ⟨Nat.le_refl _, .nil, fun a => by simp⟩
 refine h2.trans ?_
 congr 1
 refine strict_uniq (k := keyF) (fun _ _ => keyF_inj) _ _ (fun a => ?_) i2 (normP_strict x)
 rw [i3, mem_normP]
 constructor
 ·rintro ⟨j, h1, rfl, h3⟩
  refine ⟨?_, ((keepR_iff x j h1).1 h3).1⟩
  rw [List.getD_eq_getElem?_getD, List.getElem?_eq_getElem h1]; exact List.getElem_mem h1
 ·rintro ⟨h1, h2⟩
  -- the first place of a
  have hex : ∃ j, j < x.length ∧ x.getD j default = a := by
   obtain ⟨j, hj, rfl⟩ := List.getElem_of_mem h1
   exact ⟨j, hj, by simp [List.getD_eq_getElem?_getD, hj]⟩
  have hmin : ∀ n, (∃ j, j < n ∧ j < x.length ∧ x.getD j default = a) → ∃ j, j < x.length ∧ x.getD j default = a ∧ ∀ k, k < j → x.getD k default ≠ a := by
   intro n
   induction n with
   | zero => rintro ⟨j, h, _⟩; omega
   | succ n ih =>
    intro h
    by_cases hb : ∃ j, j < n ∧ j < x.length ∧ x.getD j default = a
    ·exact ih hb
    ·obtain ⟨j, j1, j2, j3⟩ := h
     refine ⟨j, j2, j3, fun k hk e => hb ⟨k, by omega, by omega, e⟩⟩
  obtain ⟨j, j1, j2⟩ := hex
  obtain ⟨j, j1, j2, j3⟩ := hmin (j + 1) ⟨j, by omega, j1, j2⟩
  exact ⟨j, j1, j2, (keepR_iff x j j1).2 ⟨by rw [j2]; exact h2, by rw [j2]; exact j3⟩⟩
/-! ### Normalize -/
def mF (a : Flt) : Nat := sz a.1 + sz (ftyS a)
theorem sz_le (x : BitVec 16) : sz x ≤ 16 := bsum_le x.toNat 16 0
theorem mF_le (a : Flt) : mF a ≤ 32 := by
 have := sz_le a.1
 have := sz_le (ftyS a)
 unfold mF; omega
theorem cov_mF {a b : Flt} (ha : disj a) (hb : disj b) (h : cov b a = true) (hne : a ≠ b) : mF a < mF b := by
 have h0 := h
 unfold cov at h
 rw [Bool.and_eq_true] at h
 have h1 := sub_sz h.1
 have h2 := sub_sz h.2
 unfold mF
 by_cases e : sz a.1 = sz b.1 ∧ sz (ftyS a) = sz (ftyS b)
 ·refine absurd (cov_antisymm hb ha h0 ?_).symm hne
  unfold cov
  rw [h1.2 e.1, h2.2 e.2, sub_refl, sub_refl]; rfl
 ·omega
theorem norm_above (l : List Flt) (hd : ∀ a, a ∈ l → disj a) : ∀ n a, 32 - mF a ≤ n → a ∈ l → ∃ b, b ∈ normP l ∧ cov b a = true := by
 intro n
 induction n with
 | zero =>
  intro a hn ha
  refine ⟨a, (mem_normP l a).2 ⟨ha, fun b hb hne => ?_⟩, cov_refl a⟩
  cases h : cov b a with
  | false => rfl
  | true =>
   have := cov_mF (hd a ha) (hd b hb) h hne
   have := mF_le b
   omega
 | succ n ih =>
  intro a hn ha
  by_cases h : ∃ b, b ∈ l ∧ a ≠ b ∧ cov b a = true
  ·obtain ⟨b, h1, h2, h3⟩ := h
   have := cov_mF (hd a ha) (hd b h1) h3 h2
   have := mF_le b
   obtain ⟨c, h4, h5⟩ := ih b (by omega) h1
   exact ⟨c, h4, cov_trans h5 h3⟩
  ·refine ⟨a, (mem_normP l a).2 ⟨ha, fun b hb hne => ?_⟩, cov_refl a⟩
   cases h' : cov b a with
   | false => rfl
   | true => exact absurd ⟨b, hb, hne, h'⟩ h
theorem norm_ne {l : List Flt} (hd : ∀ a, a ∈ l → disj a) (h : l ≠ []) : normP l ≠ [] := by
 cases l with
 | nil => exact absurd rfl h
 | cons a l =>
  obtain ⟨b, hb, _⟩ := norm_above (a :: l) hd _ a (Nat.le_refl _) (List.mem_cons_self ..)
  intro e; rw [e] at hb; cases hb
theorem errF_zero {a : Flt} : errF a = 0 ↔ (ftyS a).toNat < 4096 ∧ disj a := by
 unfold errF disj
 by_cases h : (ftyS a).toNat < 4096
 ·rw [if_pos h]
  by_cases h2 : a.1 &&& a.2 = 0#16
  ·rw [if_pos h2]; simp [h, h2]
  ·rw [if_neg h2]; simp [h2]
 ·rw [if_neg h]; simp [h]
def okM (x : List Flt) : Prop := (∀ a, a ∈ x → errF a = 0) ∧ x.Pairwise (fun a b => keyF a < keyF b) ∧ x.Pairwise fun a b => cov a b = false ∧ cov b a = false
theorem scanF_ok (x : List Flt) (h : okM x) : ∀ c n, n + c = x.length → scanF x c n = none
 | 0, n, hn => rfl
 | c + 1, n, hn => by
  obtain ⟨h1, h2, h3⟩ := h
  have hlt : n < x.length := by omega
  have en : x.getD n default = x[n] := by simp [List.getD_eq_getElem?_getD, hlt]
  unfold scanF
  rw [if_neg (fun e => e (h1 _ (by rw [en]; exact List.getElem_mem hlt))), if_neg, if_neg, scanF_ok x ⟨h1, h2, h3⟩ c (n + 1) (by omega)]
  ·rintro ⟨h0, hk⟩
   have hl2 : n - 1 < x.length := by omega
   have e2 : x.getD (n - 1) default = x[n - 1] := by simp [List.getD_eq_getElem?_getD, hl2]
   rw [en, e2] at hk
   exact hk (List.pairwise_iff_getElem.1 h2 (n - 1) n hl2 hlt (by omega))
  ·intro e
   unfold anyC at e
   rw [List.any_eq_true] at e
   obtain ⟨y, hy, hc⟩ := e
   obtain ⟨j, hj, rfl⟩ := List.getElem_of_mem hy
   have hj' : j < n := by simp at hj; omega
   have hjl : j < x.length := by omega
   rw [List.getElem_take, en] at hc
   have := List.pairwise_iff_getElem.1 h3 j n hjl hlt hj'
   rw [this.1, this.2] at hc
   cases hc
theorem valid_ok (x : List Flt) (h : okM x) (h0 : x ≠ []) (hl : x.length ≤ 100) : validF x = 0 := by
 unfold validF
 rw [if_neg (fun e => h0 (List.eq_nil_of_length_eq_zero e)), if_neg (by omega), scanF_ok x h x.length 0 (by omega)]
 rfl
theorem normP_ok (l : List Flt) (h : ∀ a, a ∈ l → errF a = 0) : okM (normP l) := by
 refine ⟨fun a ha => h a ((mem_normP l a).1 ha).1, normP_strict l, ?_⟩
 rw [List.pairwise_iff_getElem]
 intro i j hi hj hij
 have hs := List.pairwise_iff_getElem.1 (normP_strict l) i j hi hj hij
 have hne : (normP l)[i] ≠ (normP l)[j] := fun e => by rw [e] at hs; omega
 have a1 := (mem_normP l _).1 (List.getElem_mem hi)
 have a2 := (mem_normP l _).1 (List.getElem_mem hj)
 exact ⟨a2.2 _ a1.1 hne.symm, a1.2 _ a2.1 hne⟩
end Go.Abs
namespace Go.Abs
def allN (n : Nat) : BitVec 16 := ((BitVec.ofInt 16 1) <<< n) - (BitVec.ofInt 16 1)
theorem allN_ok : ∀ n, n ≤ 12 → (allN n).toNat < 4096 ∧ sz (allN n) = n
 | 0, _ => by decide
 | 1, _ => by decide
 | 2, _ => by decide
 | 3, _ => by decide
 | 4, _ => by decide
 | 5, _ => by decide
 | 6, _ => by decide
 | 7, _ => by decide
 | 8, _ => by decide
 | 9, _ => by decide
 | 10, _ => by decide
 | 11, _ => by decide
 | 12, _ => by decide
 | n + 13, h => absurd h (by omega)
theorem f34_eq (x : BitVec 16) (k : Nat) : f34 x (k : Int) = some (chooseB x k) := by
 unfold f34
 rw [jn_eq]
 obtain ⟨N, hN⟩ : ∃ N : Nat, N = 65536 := ⟨_, rfl⟩
 have h := fold_up (f34_L0 x (k : Int) some) (List.range N) 0 (fun n l => l.length ≤ n) (fun l y => if (subB y x.toNat 16 && decide (cntB y 16 = k)) = true then l ++ [BitVec.ofNat 16 y] else l) some (fun q n s hn hi => by
  rw [List.length_range] at hn
  have hg : (List.range N).getD n 0 = n := by simp [List.getD_eq_getElem?_getD, hn]
  have ho : BitVec.ofInt 16 (n : Int) = BitVec.ofNat 16 n := BitVec.ofInt_natCast ..
  have hto : (BitVec.ofNat 16 n).toNat = n := ofNat_toNat16 (by omega)
  rw [hg, f34_L0_e2, ifd_pos (by omega), jn_eq, ho]
  unfold f58
  rw [some_bind, f59_eq]
  have hs : ((BitVec.ofNat 16 n &&& ~~~x) == (BitVec.ofInt 16 0)) = subB n x.toNat 16 := by
   have := sub_subB (BitVec.ofNat 16 n) x
   rw [hto] at this
   exact this
  have hz : (sz (BitVec.ofNat 16 n)) = cntB n 16 := by rw [← cntB_sz, hto]
  rw [hs, hz]
  cases hb : subB n x.toNat 16 with
  | false =>
   rw [show (false == true) = false from rfl, optc_f, chk_pos (by intro; trivial), if_neg (by simp), if_neg (by simp)]
   dsimp only
   rw [chk_pos (by omega)]
  | true =>
   rw [show (true == true) = true from rfl, optc_t, some_bind, chk_pos (by intro; trivial)]
   by_cases hc : cntB n 16 = k
   ·rw [if_pos (by simp [hc]), if_pos (by simp [hc]), chk_pos (by omega)]
    dsimp only
    rw [chk_pos (by omega)]
   ·rw [if_neg (by simp; omega), if_neg (by simp [hc])]
    dsimp only
    rw [chk_pos (by omega)]) (fun n l hn hi => by
  split
  ·simp; omega
  ·omega) (fun q l hi => by
  rw [List.length_range, f34_L0_e2, ifd_neg (by omega)]) N FUEL 0 [] (by rw [List.length_range]; omega) (fuel_lt (by omega)) (Nat.le_refl _)
 rw [List.drop_zero] at h
 refine Eq.trans h ?_
 congr 1
 unfold chooseB
 rw [← sbs_filter, show 2 ^ 16 = N from by rw [hN]]
 have : ∀ (L : List Nat) (out : List (BitVec 16)), L.foldl (fun l y => if (subB y x.toNat 16 && decide (cntB y 16 = k)) = true then l ++ [BitVec.ofNat 16 y] else l) out = out ++ (L.filter fun y => subB y x.toNat 16 && decide (cntB y 16 = k)).map (BitVec.ofNat 16) := by
  intro L
  induction L with
  | nil => intro out; simp
  | cons y L ih =>
   intro out
   rw [List.foldl_cons, ih]
   by_cases hy : (subB y x.toNat 16 && decide (cntB y 16 = k)) = true
   ·rw [if_pos hy, List.filter_cons_of_pos (by exact hy)]; simp
   ·rw [if_neg hy, List.filter_cons_of_neg (by exact hy)]
 rw [this, List.nil_append]
end Go.Abs
namespace Go.Abs
theorem mapfold {α β : Type} (g : α → β) (l : List α) : ∀ out : List β, l.foldl (fun out a => out ++ [g a]) out = out ++ l.map g := by
 induction l with
 | nil => intro out; simp
 | cons a l ih => intro out; rw [List.foldl_cons, ih]; simp
theorem getD_takeF {α : Type} (x : List α) (n m : Nat) (d : α) (h : m < n) : (x.take n).getD m d = x.getD m d := by
 simp [List.getD_eq_getElem?_getD, List.getElem?_take, h]
/-! ### models -/
def lowM (n : Nat) (y : Flt) : Flt := (y.1 &&& allN n, (y.2 &&& allN n) &&& ~~~y.1)
def madeL (n : Nat) (x : List Flt) : List Flt := (0#16, 0#16) :: (x.take 6).map (lowM n)
def madeF (n : Nat) (x : List Flt) : List Flt := normP (madeL n x)
theorem madeL_len (n : Nat) (x : List Flt) : (madeL n x).length ≤ 7 := by
 unfold madeL
 simp only [List.length_cons, List.length_map, List.length_take]; omega
theorem madeF_len (n : Nat) (x : List Flt) : (madeF n x).length ≤ 7 := Nat.le_trans (normP_len _) (madeL_len n x)
theorem f6_L0_eq (n : Nat) (x : List Flt) (K : List Flt → Option (List Flt)) : f6_L0 (n : Int) x K FUEL (0, [(0#16, 0#16)]) = K (madeL n x) := by
 have hl : (x.take 6).length = min 6 x.length := by simp
 rw [fold_up (f6_L0 (n : Int) x K) (x.take 6) default (fun n l => l.length ≤ n + 1) (fun out y => out ++ [lowM n y]) K ?_ ?_ ?_ (x.take 6).length FUEL 0 _ (by omega) (fuel_lt (by omega)) (by simp), List.drop_zero, mapfold]
 ·rfl
 ·intro k m s hn hs
  have h6 : m < 6 ∧ m < x.length := by omega
  rw [f6_L0.eq_2, if_pos (by simp; omega), chk_pos (by omega), chk_pos (by omega), chk_pos (by omega), chk_pos (by omega), chk_pos (by omega), getD_takeF x 6 m default h6.1]
  rfl
 ·intro n s hn hs
  simp; omega
 ·intro k s hs
  rw [f6_L0.eq_2, if_neg (by simp; omega)]
theorem f6_eq (n : Nat) (x : List Flt) : f6 (n : Int) x = some (madeF n x) := by
 unfold f6
 rw [chk_pos (by omega), jn_eq]
 refine (f6_L0_eq n x _).trans ?_
 rw [f17_eq _ (by have := madeL_len n x; omega)]
 rfl
theorem and_lt {y z : BitVec 16} (h : z.toNat < 4096) : (y &&& z).toNat < 4096 := by
 rw [BitVec.toNat_and]; exact Nat.lt_of_le_of_lt Nat.and_le_right h
theorem or_lt {y z : BitVec 16} (h : y.toNat < 4096) (h2 : z.toNat < 4096) : (y ||| z).toNat < 4096 := by
 rw [BitVec.toNat_or]; exact Nat.or_lt_two_pow (n := 12) h h2
theorem lowM_ok (n : Nat) (hn : n ≤ 12) (y : Flt) : errF (lowM n y) = 0 := by
 have hm := (allN_ok n hn).1
 refine errF_zero.2 ⟨?_, ?_⟩
 ·unfold ftyS lowM
  refine or_lt (and_lt hm) ?_
  dsimp only
  rw [BitVec.toNat_and]
  exact Nat.lt_of_le_of_lt Nat.and_le_left (and_lt hm)
 ·unfold disj lowM
  apply BitVec.eq_of_getLsbD_eq
  intro i hi
  simp only [BitVec.getLsbD_and, BitVec.getLsbD_not]
  cases y.1.getLsbD i <;> simp
theorem madeL_ok (n : Nat) (hn : n ≤ 12) (x : List Flt) : ∀ a, a ∈ madeL n x → errF a = 0 := by
 intro a ha
 rcases List.mem_cons.1 ha with rfl | ha
 ·decide
 ·obtain ⟨y, _, rfl⟩ := List.mem_map.1 ha
  exact lowM_ok n hn y
theorem madeF_ne (n : Nat) (hn : n ≤ 12) (x : List Flt) : madeF n x ≠ [] := norm_ne (fun a ha => (errF_zero.1 (madeL_ok n hn x a ha)).2) (by unfold madeL; simp)
theorem madeF_valid (n : Nat) (hn : n ≤ 12) (x : List Flt) : validF (madeF n x) = 0 := valid_ok _ (normP_ok _ (madeL_ok n hn x)) (madeF_ne n hn x) (by have := madeF_len n x; omega)
/-! ### families of a configuration -/
theorem len_sub {l : List (BitVec 16)} {U : BitVec 16} (h : l.Pairwise fun x y => key x < key y) (hs : ∀ a, a ∈ l → sub a U = true) : l.length ≤ (subsB U).length := by
 have e : l = (subsB U).filter fun a => decide (a ∈ l) := by
  refine strict_uniq (fun _ _ => key_inj') _ _ (fun a => ?_) h (filter_strict (subsB_sorted U))
  rw [List.mem_filter, mem_subsB, decide_eq_true_iff]
  exact ⟨fun ha => ⟨hs a ha, ha⟩, fun ha => ha.2⟩
 rw [e]; exact List.length_filter_le _ _
theorem subs5 : ∀ n, 1 ≤ n → n ≤ 5 → (subsB (allN n)).length ≤ 32
 | 1, _, _ => by decide +kernel
 | 2, _, _ => by decide +kernel
 | 3, _, _ => by decide +kernel
 | 4, _, _ => by decide +kernel
 | 5, _, _ => by decide +kernel
 | 0, h, _ => absurd h (by omega)
 | n + 6, _, h => absurd h (by omega)
def okC (l : List (BitVec 16)) (U : BitVec 16) : Prop := okS l ∧ l ≠ [] ∧ (∀ a, a ∈ l → a ≠ 0#16 ∧ sub a U = true) ∧ l.length ≤ 32
theorem sub_andr (x U : BitVec 16) : sub (x &&& U) U = true := sub_iff.2 fun i hi h => by
 rw [BitVec.getLsbD_and, Bool.and_eq_true] at h; exact h.2
theorem sz_zero : sz 0#16 = 0 := by decide
theorem choose_okC (n k : Nat) (hn : 1 ≤ n ∧ n ≤ 5) (hk : 1 ≤ k ∧ k ≤ n) : okC (chooseB (allN n) k) (allN n) := by
 obtain ⟨h1, h2⟩ := allN_ok n (by omega)
 have hs : (chooseB (allN n) k).Pairwise fun x y => key x < key y := by
  refine List.Pairwise.imp_of_mem ?_ (chooseB_sorted (allN n) k)
  intro a b ha hb hab
  have e1 := (mem_chooseB.1 ha).2; have e2 := (mem_chooseB.1 hb).2
  unfold key; omega
 have hsub : ∀ a, a ∈ chooseB (allN n) k → sub a (allN n) = true := fun a ha => (mem_chooseB.1 ha).1
 refine ⟨⟨hs, fun a ha b hb hab => ?_, fun a ha => sub_lt (hsub a ha) h1⟩, chooseB_ne (by omega), fun a ha => ⟨fun e => ?_, hsub a ha⟩, Nat.le_trans (len_sub hs hsub) (subs5 n hn.1 hn.2)⟩
 ·exact (sub_sz hab).2 (by rw [(mem_chooseB.1 ha).2, (mem_chooseB.1 hb).2])
 ·have := (mem_chooseB.1 ha).2
  rw [e, sz_zero] at this; omega
theorem least_okC (n : Nat) (hn : 1 ≤ n ∧ n ≤ 5) (l : List (BitVec 16)) (h0 : l ≠ []) (h : ∀ a, a ∈ l → a ≠ 0#16 ∧ sub a (allN n) = true) : okC (leastP l) (allN n) := by
 obtain ⟨h1, h2⟩ := allN_ok n (by omega)
 have hm : ∀ a, a ∈ leastP l → a ∈ l := fun a ha => ((mem_leastP0 l a).1 ha).1
 refine ⟨okS_least _ fun a ha => sub_lt (h a ha).2 h1, ?_, fun a ha => h a (hm a ha), Nat.le_trans (len_sub (leastP_strict l) fun a ha => (h a (hm a ha)).2) (subs5 n hn.1 hn.2)⟩
 cases l with
 | nil => exact absurd rfl h0
 | cons a t =>
  obtain ⟨b, hb, _⟩ := least_below (a :: t) _ a (Nat.le_refl _) (List.mem_cons_self ..)
  intro e; rw [e] at hb; cases hb
theorem f16_ok' (x1 x2 x3 : Int) (x4 x5 : List (BitVec 16)) (x6 : List Flt) (x7 : List (BitVec 16)) (n : Nat) (h3 : 0 ≤ x3) (hn : 1 ≤ n ∧ n ≤ 5) : ∃ l, f16 x1 x2 x3 x4 x5 x6 x7 (n : Int) = some l ∧ okC l (allN n) := by
 unfold f16
 rw [chk_pos (by omega), chk_pos (by omega), Int.toNat_natCast]
 have hall : ((BitVec.ofInt 16 1) <<< n) - (BitVec.ofInt 16 1) = allN n := rfl
 rw [hall]
 by_cases ho : x3 % 2 = 1
 ·rw [if_pos (by simpa using ho), jn_eq]
  by_cases hx : 0 < x7.length
  ·have hw := (x7.getD 0 0#16).isLt
   rw [ifd_pos (by omega), chk_pos (by omega), chk_pos (by omega), chk_pos (by omega)]
   obtain ⟨k, hk⟩ : ∃ k : Nat, 1 + (((x7.getD 0 0#16).toNat : Nat) : Int) % (n : Int) = (k : Int) := ⟨(1 + (((x7.getD 0 0#16).toNat : Nat) : Int) % (n : Int)).toNat, by have := Int.emod_nonneg (((x7.getD 0 0#16).toNat : Nat) : Int) (b := (n : Int)) (by omega); omega⟩
   have hlt := Int.emod_lt_of_pos (((x7.getD 0 0#16).toNat : Nat) : Int) (b := (n : Int)) (by omega)
   have hge := Int.emod_nonneg (((x7.getD 0 0#16).toNat : Nat) : Int) (b := (n : Int)) (by omega)
   rw [hk, chk_pos (by omega)]
   dsimp only
   rw [f34_eq, some_bind]
   exact ⟨_, rfl, choose_okC n k hn (by omega)⟩
  ·rw [ifd_neg (by omega)]
   dsimp only
   rw [f34_eq, some_bind]
   exact ⟨_, rfl, choose_okC n n hn (by omega)⟩
 ·rw [if_neg (by simpa using ho), jn_eq]
  have hl : (x7.take 6).length = min 6 x7.length := by simp
  have key : ∀ (K : List (BitVec 16) → Option (List (BitVec 16))), ∃ l, (∀ a, a ∈ l → a ≠ 0#16 ∧ sub a (allN n) = true) ∧ l.length ≤ 6 ∧ f16_L0 x7 (n : Int) K FUEL (0, []) = K l := by
   intro K
   have := fold_up (f16_L0 x7 (n : Int) K) (x7.take 6) 0#16 (fun m l => l.length ≤ m ∧ ∀ a, a ∈ l → a ≠ 0#16 ∧ sub a (allN n) = true) (fun out y => if (y &&& allN n) = 0#16 then out else out ++ [y &&& allN n]) K (by
    intro k m s hm hs
    have h6 : m < 6 ∧ m < x7.length := by omega
    rw [f16_L0.eq_2, if_pos (by simp; omega), jn_eq, chk_pos (by omega), Int.toNat_natCast, hall, getD_takeF x7 6 m 0#16 h6.1]
    by_cases hz : (x7.getD m 0#16 &&& allN n) = 0#16
    ·rw [if_pos hz, if_neg (by rw [hz]; simp)]
     dsimp only
     rw [chk_pos (by omega)]
    ·rw [if_neg hz, if_pos (by simpa using hz), chk_pos (by omega)]
     dsimp only
     rw [chk_pos (by omega)]) (by
    intro m s hm hs
    by_cases hz : ((x7.take 6).getD m 0#16 &&& allN n) = 0#16
    ·rw [if_pos hz]; exact ⟨by omega, hs.2⟩
    ·rw [if_neg hz]
     refine ⟨by simp; omega, fun a ha => ?_⟩
     rcases List.mem_append.1 ha with h | h
     ·exact hs.2 a h
     ·rw [List.mem_singleton] at h; subst h; exact ⟨hz, sub_andr _ _⟩) (by
    intro k s hs
    rw [f16_L0.eq_2, if_neg (by simp; omega)]) (x7.take 6).length FUEL 0 [] (by omega) (fuel_lt (by omega)) ⟨by simp, by simp⟩
   have hi := foldl_inv (fun m (l : List (BitVec 16)) => l.length ≤ m ∧ ∀ a, a ∈ l → a ≠ 0#16 ∧ sub a (allN n) = true) (fun out y => if (y &&& allN n) = 0#16 then out else out ++ [y &&& allN n]) 0#16 (x7.take 6) (by
    intro m s hm hs
    by_cases hz : ((x7.take 6).getD m 0#16 &&& allN n) = 0#16
    ·rw [if_pos hz]; exact ⟨by omega, hs.2⟩
    ·rw [if_neg hz]
     refine ⟨by simp; omega, fun a ha => ?_⟩
     rcases List.mem_append.1 ha with h | h
     ·exact hs.2 a h
     ·rw [List.mem_singleton] at h; subst h; exact ⟨hz, sub_andr _ _⟩) [] ⟨by simp, by simp⟩
   exact ⟨_, hi.2, by omega, by rw [this, List.drop_zero]⟩
  obtain ⟨l, h1, h2, h3⟩ := key _
  rw [h3, jn_eq]
  have hmem : (allN n) ≠ 0#16 := by
   intro e
   have := (allN_ok n (by omega)).2
   rw [e, sz_zero] at this; omega
  by_cases hz : l.length = 0
  ·rw [if_pos (by rw [beq_iff_eq]; omega), chk_pos (by omega)]
   dsimp only
   have hnil := List.eq_nil_of_length_eq_zero hz
   subst hnil
   rw [f35_eq _ (by simp), some_bind, List.nil_append]
   refine ⟨_, rfl, ?_⟩
   rw [← leastP_eq]
   refine least_okC n hn _ (by simp) fun a ha => ?_
   rw [List.mem_singleton] at ha; subst ha
   exact ⟨hmem, sub_refl _⟩
  ·rw [if_neg (by rw [beq_iff_eq]; omega)]
   dsimp only
   rw [f35_eq _ (by omega), some_bind]
   refine ⟨_, rfl, ?_⟩
   rw [← leastP_eq]
   exact least_okC n hn _ (fun e => hz (by rw [e]; rfl)) h1
/-! ### Valid -/
theorem supp_sub (x : List (BitVec 16)) (U : BitVec 16) : ∀ (w : BitVec 16), sub w U = true → (∀ a, a ∈ x → sub a U = true) → sub (x.foldl (fun w a => w ||| a) w) U = true := by
 induction x with
 | nil => intro w h _; exact h
 | cons a x ih =>
  intro w h h2
  refine ih _ ?_ fun b hb => h2 b (List.mem_cons_of_mem _ hb)
  rw [sub_or, h, h2 a (List.mem_cons_self ..)]; rfl
theorem sub_supp (x : List (BitVec 16)) : ∀ (w : BitVec 16), sub w (x.foldl (fun w a => w ||| a) w) = true ∧ ∀ a, a ∈ x → sub a (x.foldl (fun w a => w ||| a) w) = true := by
 induction x with
 | nil => intro w; exact ⟨sub_refl _, by simp⟩
 | cons a x ih =>
  intro w
  have hl : sub w (w ||| a) = true := sub_iff.2 fun i hi h => by rw [BitVec.getLsbD_or, h]; rfl
  have hr : sub a (w ||| a) = true := sub_iff.2 fun i hi h => by rw [BitVec.getLsbD_or, h]; simp
  obtain ⟨h1, h2⟩ := ih (w ||| a)
  refine ⟨sub_trans hl h1, fun b hb => ?_⟩
  rcases List.mem_cons.1 hb with rfl | hb
  ·exact sub_trans hr h1
  ·exact h2 b hb
theorem f72_eq (l : List (BitVec 16)) (U : BitVec 16) (h : okC l U) : f72 l U = some 0 := by
 obtain ⟨h1, h2, h3, h4⟩ := h
 unfold f72
 rw [f21_ok0 l h1 (by omega), some_bind, if_neg (by simp)]
 cases l with
 | nil => exact absurd rfl h2
 | cons a t =>
  rw [chk_pos (by intro; simp)]
  have ha := (h3 a (List.mem_cons_self ..)).1
  rw [if_neg (by
   rw [Bool.or_eq_true, beq_iff_eq, beq_iff_eq]
   rintro (h | h)
   ·simp at h; omega
   ·exact ha h), f23_eq _ (by omega), some_bind, if_neg]
  have := supp_sub (a :: t) U 0#16 (sub_iff.2 fun i hi h => by simp at h) fun b hb => (h3 b hb).2
  unfold sub at this
  rw [show (BitVec.ofInt 16 0) = 0#16 from rfl, this]; simp
theorem f50_eq (x2 : Int) (n : Nat) (hn : 1 ≤ n ∧ n ≤ 5) (rd wr : List (BitVec 16)) (fl : List Flt) (h2 : x2 = 1 ∨ x2 = 2) (hr : okC rd (allN n)) (hw : okC wr (allN n)) (hf : validF fl = 0) : f50 [99] x2 (allN n) rd wr fl = some 0 := by
 have h71 : f71 [99] = some true := by kernel_rfl
 unfold f50
 rw [h71, some_bind, chk_pos (by intro _ _ h; simpa using h), if_neg (by rcases h2 with rfl | rfl <;> decide)]
 have hs : ∀ n, 1 ≤ n → n ≤ 5 → ((!(((allN n) >>> 12) == (BitVec.ofInt 16 0))) = false ∧ ((allN n) == (BitVec.ofInt 16 0)) = false) := by
  intro n h1 h2
  have : n = 1 ∨ n = 2 ∨ n = 3 ∨ n = 4 ∨ n = 5 := by omega
  rcases this with rfl | rfl | rfl | rfl | rfl <;> decide
 obtain ⟨e1, e2⟩ := hs n hn.1 hn.2
 rw [if_neg (by rw [e1]; simp), if_neg (by rw [e2]; simp), f72_eq rd _ hr, some_bind, if_neg (by simp), f72_eq wr _ hw, some_bind, if_neg (by simp), f51_eq, some_bind, hf]
/-! ### Byzantine sets -/
def byzL (m : List Flt) (U : BitVec 16) : List (BitVec 16) := m.map fun a => a.1 &&& U
theorem f7_L0_eq (U : BitVec 16) (m : List Flt) (K : List (BitVec 16) → Option (List (BitVec 16))) (hm : m.length ≤ 100) : f7_L0 U m K FUEL (0, []) = K (byzL m U) := by
 rw [fold_up (f7_L0 U m K) m default (fun n l => l.length ≤ n) (fun out (y : Flt) => out ++ [y.1 &&& U]) K ?_ ?_ ?_ m.length FUEL 0 [] (by omega) (fuel_lt (by omega)) (by simp), List.drop_zero, mapfold]
 ·rfl
 ·intro k n s hn hs
  rw [f7_L0.eq_2, ifd_pos (by omega), chk_pos (by omega), chk_pos (by omega), chk_pos (by omega)]
 ·intro n s hn hs; simp; omega
 ·intro k s hs
  rw [f7_L0.eq_2, ifd_neg (by omega)]
theorem f7_eq (s : List UInt8) (x2 : Int) (U : BitVec 16) (x4 x5 : List (BitVec 16)) (x6 m : List Flt) (hm : m.length ≤ 100) : f7 s x2 U x4 x5 x6 m = some (greatestP (byzL m U)) := by
 unfold f7
 rw [jn_eq, f7_L0_eq U m _ hm, f18_eq _ (by unfold byzL; simp; omega), some_bind, greatestP_eq]
theorem great_len (l : List (BitVec 16)) : (greatestP l).length ≤ l.length := by
 rw [greatestP_eq]; exact Nat.le_trans (List.length_filter_le _ _) (srt_len l)
theorem f27_L0_eq (U : BitVec 16) (m : List Flt) (K : List (BitVec 16) → Option (List (BitVec 16))) (hm : m.length ≤ 100) : f27_L0 U m K FUEL (0, []) = K (byzL m U) := by
 rw [fold_up (f27_L0 U m K) m default (fun n l => l.length ≤ n) (fun out (y : Flt) => out ++ [y.1 &&& U]) K ?_ ?_ ?_ m.length FUEL 0 [] (by omega) (fuel_lt (by omega)) (by simp), List.drop_zero, mapfold]
 ·rfl
 ·intro k n s hn hs
  rw [f27_L0.eq_2, ifd_pos (by omega), chk_pos (by omega), chk_pos (by omega), chk_pos (by omega)]
 ·intro n s hn hs; simp; omega
 ·intro k s hs
  rw [f27_L0.eq_2, ifd_neg (by omega)]
theorem f27_eq (s : List UInt8) (x2 : Int) (U : BitVec 16) (hU : U.toNat < 4096) (x4 x5 : List (BitVec 16)) (x6 m : List Flt) (hm : m.length ≤ 100) : f27 s x2 U x4 x5 x6 m = some (greatestP (byzL m U)) := by
 have hl : (byzL m U).length = m.length := by unfold byzL; simp
 unfold f27
 rw [jn_eq, f27_L0_eq U m _ hm, f52_eq _ (by omega), some_bind]
 unfold limP
 have hr : rngS (byzL m U) = true := rngS_ok _ fun a ha => by
  unfold byzL at ha
  obtain ⟨y, _, rfl⟩ := List.mem_map.1 ha
  exact and_lt hU
 have := great_len (byzL m U)
 rw [if_pos hr, if_neg (by omega)]
theorem great_above (l : List (BitVec 16)) (n : Nat) : ∀ a, 2000000 - key a ≤ n → a ∈ l → ∃ b, b ∈ greatestP l ∧ sub a b = true := by
 have hmem : ∀ a, a ∈ greatestP l ↔ a ∈ l ∧ ∀ b, b ∈ l → b ≠ a → sub a b = false := by
  intro a
  rw [greatestP_eq, List.mem_filter, mem_srt, undom_iff]
  constructor
  ·rintro ⟨h1, h2⟩; exact ⟨h1, fun b hb hne => h2 b ((mem_srt b l).2 hb) hne⟩
  ·rintro ⟨h1, h2⟩; exact ⟨h1, fun b hb hne => h2 b ((mem_srt b l).1 hb) hne⟩
 induction n with
 | zero => intro a hn _; have := key_lt a; omega
 | succ n ih =>
  intro a hn ha
  by_cases h : ∃ b, b ∈ l ∧ b ≠ a ∧ sub a b = true
  ·obtain ⟨b, h1, h2, h3⟩ := h
   have := sub_key h3 (Ne.symm h2)
   have := key_lt b
   obtain ⟨c, h4, h5⟩ := ih b (by omega) h1
   exact ⟨c, h4, sub_trans h3 h5⟩
  ·refine ⟨a, (hmem a).2 ⟨ha, fun b hb hne => ?_⟩, sub_refl a⟩
   cases h' : sub a b with
   | false => rfl
   | true => exact absurd ⟨b, hb, hne, h'⟩ h
/-! ### Dual -/
theorem y9_eq (x : List (BitVec 16)) (U : BitVec 16) (hx : x.length ≤ 65536) (st : S12) (s : BitVec 16) (hi : I12 x U st) : f9_Y70005 st s = some (g12 x st s) := by
 obtain ⟨l7, i6, l8, w5⟩ := st
 obtain ⟨h1, h2, h3⟩ := hi
 dsimp only at h1 h2 h3
 subst h1
 show (f24 l8 s).bind _ = _
 unfold g12
 dsimp only
 rw [f24_acc l8 s (by omega), some_bind]
 cases ha : acc l8 s with
 | true => simp [optc]
 | false =>
  rw [show ((!false) == true) = true from rfl, optc_t, f25_eq l7 s hx, some_bind]
  cases hh : hits l7 s with
  | false => simp
  | true =>
   simp only [Bool.not_false, Bool.and_self, if_true]
   rw [chk_pos (by omega)]
   by_cases hl : l8.length + 1 > 400
   ·rw [if_pos hl, ifd_pos (by simp; omega)]
   ·rw [if_neg hl, ifd_neg (by simp; omega)]
theorem f9_eq (x : List (BitVec 16)) (h : okS x) (hl : x.length ≤ 400) (hd : (dualP x).length ≤ 400) : f9 x = some (dualP x, 0) := by
 have hU : (suppS x).toNat < 4096 := supp_lt x 0#16 (by decide) h.2.2
 have hi : I12 x (suppS x) (x, 0, [], suppS x) := ⟨rfl, by simp, rfl⟩
 have e := f44a_eq f9_Y70005 (g12 x) (I12 x (suppS x)) (fun st s hi => y9_eq x _ (by omega) st s hi) (fun st s hi hz => i12_keep x _ st s hi hz) (suppS x) hU (fun st hi => hi.2.2) (x, 0, [], suppS x) hi
 have r : runG (g12 x) (subsB (suppS x)) (x, 0, [], suppS x) = (0, (x, 0, dualP x, suppS x)) := by
  unfold dualP famF at hd ⊢
  generalize subsB (suppS x) = L at hd ⊢
  exact runG_fam (g12 x) (hits x) (fun st : S12 => st.2.2.1) (fun st l => (st.1, st.2.1, l, st.2.2.2)) 400 (fun st s hs => by
   unfold g12
   unfold stepF at hs ⊢
   by_cases hc : (hits x s && !acc st.2.2.1 s) = true
   ·rw [if_pos hc] at hs ⊢
    rw [if_pos hc, if_neg (by simp at hs; omega)]
   ·rw [if_neg hc, if_neg hc]) (fun _ _ => rfl) (fun _ _ _ => rfl) (fun _ => rfl) L (x, 0, [], suppS x) hd
 unfold f9
 rw [f21_ok0 x h hl, some_bind, if_neg (by simp), f23_eq x (by omega), some_bind, show List.foldl (fun w a => w ||| a) 0#16 x = suppS x from rfl]
 unfold f22
 rw [some_bind]
 rw [r] at e
 dsimp only at e
 rw [e, some_bind]
 dsimp only
 rw [chk_pos (by simp), if_pos rfl]
end Go.Abs
namespace Go.Abs
theorem len_filter_ne (a : Nat) : ∀ l : List Nat, l.Nodup → l.length ≤ (l.filter fun b => b != a).length + 1
 | [], _ => by simp
 | b :: t, h => by
  rw [List.nodup_cons] at h
  by_cases e : b = a
  ·subst e
   have : t.filter (fun c => c != b) = t := List.filter_eq_self.2 fun c hc => by
    rw [bne_iff_ne]; intro e; subst e; exact h.1 hc
   rw [List.filter_cons_of_neg (by simp), this]; simp
  ·rw [List.filter_cons_of_pos (by simpa using e)]
   have := len_filter_ne a t h.2
   simp only [List.length_cons]; omega
theorem nodup_len : ∀ (n : Nat) (l : List Nat), l.Nodup → (∀ a, a ∈ l → a < n) → l.length ≤ n
 | 0, l, _, h => by
  cases l with
  | nil => simp
  | cons a t => exact absurd (h a (List.mem_cons_self ..)) (by omega)
 | n + 1, l, hd, h => by
  have h1 := len_filter_ne n l hd
  have h2 := nodup_len n (l.filter fun b => b != n) (List.Pairwise.filter _ hd) fun a ha => by
   rw [List.mem_filter, bne_iff_ne] at ha
   have := h a ha.1
   omega
  omega
theorem nodup16 (l : List (BitVec 16)) (h : l.Nodup) : l.length ≤ 65536 := by
 have := nodup_len 65536 (l.map BitVec.toNat) (by
  unfold List.Nodup at h ⊢
  rw [List.pairwise_map]
  exact h.imp fun hne e => hne (BitVec.eq_of_toNat_eq e)) fun a ha => by
   obtain ⟨x, _, rfl⟩ := List.mem_map.1 ha
   exact x.isLt
 simpa using this
def accC (rd bz : List (BitVec 16)) (W s : BitVec 16) : Bool := rd.all fun r => bz.all fun b => !(((s &&& r) &&& ~~~(b ||| W)) == 0#16)
theorem f28_L1_eq (rd bz : List (BitVec 16)) (W s : BitVec 16) (n10 : Nat) (K : Unit → Option Bool) (hb : bz.length ≤ 65536) : f28_L1 rd W bz s n10 K FUEL 0 = if bz.any (fun b => ((s &&& rd.getD n10 0#16) &&& ~~~(b ||| W)) == 0#16) = true then some false else K () :=
 any_up (f28_L1 rd W bz s n10 K) bz 0#16 _ (some false) (K ()) (fun k n hn => by
  rw [f28_L1.eq_2, ifd_pos (by omega), chk_pos (by omega), chk_pos (by omega)]
  rfl) (fun k => by
  rw [f28_L1.eq_2, ifd_neg (by omega)]) FUEL (fuel_lt (by omega))
theorem f28_eq (t : List UInt8) (x2 : Int) (U : BitVec 16) (rd wr : List (BitVec 16)) (fl : List Flt) (W : BitVec 16) (bz : List (BitVec 16)) (s : BitVec 16) (hr : rd.length ≤ 65536) (hb : bz.length ≤ 65536) : f28 t x2 U rd wr fl W bz s = some (accC rd bz W s) := by
 unfold f28
 rw [jn_eq, any_up (f28_L0 rd W bz s fun _ => some true) rd 0#16 (fun r => bz.any fun b => ((s &&& r) &&& ~~~(b ||| W)) == 0#16) (some false) (some true) (fun k n hn => by
  rw [f28_L0.eq_2, ifd_pos (by omega), jn_eq, chk_pos (by omega), f28_L1_eq _ _ _ _ _ _ hb, chk_pos (by omega)]) (fun k => by
  rw [f28_L0.eq_2, ifd_neg (by omega)]) FUEL (fuel_lt (by omega))]
 unfold accC
 have e : (rd.all fun r => bz.all fun b => !(((s &&& r) &&& ~~~(b ||| W)) == 0#16)) = !(rd.any fun r => bz.any fun b => ((s &&& r) &&& ~~~(b ||| W)) == 0#16) := by
  simp only [List.any_eq_not_all_not, Bool.not_not]
 rw [e]
 cases rd.any fun r => bz.any fun b => ((s &&& r) &&& ~~~(b ||| W)) == 0#16 <;> rfl
/-! ### Commits -/
abbrev S10 := List UInt8 × Int × BitVec 16 × List (BitVec 16) × List (BitVec 16) × List Flt × BitVec 16 × List (BitVec 16) × BitVec 16 × List (BitVec 16)
def put10 (st : S10) (l : List (BitVec 16)) : S10 := (st.1, st.2.1, st.2.2.1, st.2.2.2.1, st.2.2.2.2.1, st.2.2.2.2.2.1, st.2.2.2.2.2.2.1, st.2.2.2.2.2.2.2.1, st.2.2.2.2.2.2.2.2.1, l)
def out10 (st : S10) : List (BitVec 16) := st.2.2.2.2.2.2.2.2.2
def g10 (p : BitVec 16 → Bool) (st : S10) (s : BitVec 16) : Nat × S10 := if (p s && !acc (out10 st) s) = true then (0, put10 st (out10 st ++ [s])) else (0, st)
def I10 (rd bz : List (BitVec 16)) (W U : BitVec 16) (st : S10) : Prop := st.2.2.2.1 = rd ∧ st.2.2.2.2.2.2.2.1 = bz ∧ st.2.2.2.2.2.2.1 = W ∧ st.2.2.2.2.2.2.2.2.1 = U ∧ (out10 st).Nodup
theorem y10_eq (rd bz : List (BitVec 16)) (W U : BitVec 16) (hr : rd.length ≤ 65536) (hb : bz.length ≤ 65536) (st : S10) (s : BitVec 16) (hi : I10 rd bz W U st) : f10_Y70004 st s = some (g10 (accC rd bz W) st s) := by
 obtain ⟨s15, i17, w18, l19, l20, l21, w14, l13, w12, l22⟩ := st
 obtain ⟨h1, h2, h3, h4, h5⟩ := hi
 dsimp only at h1 h2 h3 h4
 subst h1; subst h2; subst h3
 have h6 : l22.length ≤ 65536 := nodup16 _ h5
 show (f24 l22 s).bind _ = _
 unfold g10 out10 put10
 dsimp only
 rw [f24_acc l22 s h6, some_bind]
 cases ha : acc l22 s with
 | true => simp [optc]
 | false =>
  rw [show ((!false) == true) = true from rfl, optc_t, f28_eq _ _ _ _ _ _ _ _ _ hr hb, some_bind]
  cases hh : accC l19 l13 w14 s with
  | false => simp
  | true =>
   simp only [Bool.not_false, Bool.and_self, if_true]
   rw [chk_pos (by omega)]
theorem i10_keep (rd bz : List (BitVec 16)) (W U : BitVec 16) (p : BitVec 16 → Bool) (st : S10) (s : BitVec 16) (hi : I10 rd bz W U st) (_ : (g10 p st s).1 = 0) : I10 rd bz W U (g10 p st s).2 := by
 obtain ⟨h1, h2, h3, h4, h5⟩ := hi
 unfold g10
 by_cases hc : (p s && !acc (out10 st) s) = true
 ·rw [if_pos hc]
  refine ⟨h1, h2, h3, h4, ?_⟩
  show (out10 st ++ [s]).Nodup
  unfold List.Nodup
  rw [List.pairwise_append]
  refine ⟨h5, by simp, fun a ha b hb e => ?_⟩
  rw [List.mem_singleton] at hb
  subst hb; subst e
  simp only [Bool.and_eq_true, Bool.not_eq_true'] at hc
  have := acc_iff.2 ⟨a, ha, sub_refl a⟩
  rw [this] at hc; exact absurd hc.2 (by simp)
 ·rw [if_neg hc]; exact ⟨h1, h2, h3, h4, h5⟩
theorem run10 (p : BitVec 16 → Bool) (L : List (BitVec 16)) (st : S10) (h0 : out10 st = []) (hl : (famF p L).length ≤ 65536) : runG (g10 p) L st = (0, put10 st (famF p L)) := by
 have := runG_fam (g10 p) p out10 put10 65536 (fun st s _ => by
  unfold g10 stepF
  by_cases hc : (p s && !acc (out10 st) s) = true
  ·rw [if_pos hc, if_pos hc]
  ·rw [if_neg hc, if_neg hc]; rfl) (fun _ _ => rfl) (fun _ _ _ => rfl) (fun _ => rfl) L st (by rw [h0]; exact hl)
 rw [h0] at this
 exact this
theorem f44_run (n : Nat) (hU : (allN n).toNat < 4096) (x2 : Int) (rd wr : List (BitVec 16)) (fl : List Flt) (W : BitVec 16) (bz : List (BitVec 16)) (hr : rd.length ≤ 65536) (hb : bz.length ≤ 65536) (hl : (famF (accC rd bz W) (subsB (allN n))).length ≤ 65536) :
  f44 f10_Y70004 [99] x2 (allN n) rd wr fl W bz (allN n) [] = some (0, [99], x2, allN n, rd, wr, fl, W, bz, allN n, famF (accC rd bz W) (subsB (allN n))) := by
 have hi : I10 rd bz W (allN n) ([99], x2, allN n, rd, wr, fl, W, bz, allN n, []) := ⟨rfl, rfl, rfl, rfl, List.Pairwise.nil⟩
 have e := f44_eq f10_Y70004 (g10 (accC rd bz W)) (I10 rd bz W (allN n)) (fun st s hi => y10_eq rd bz W _ hr hb st s hi) (fun st s hi hz => i10_keep rd bz W _ _ st s hi hz) (allN n) hU (fun st hi => hi.2.2.2.1) ([99], x2, allN n, rd, wr, fl, W, bz, allN n, []) hi
 rw [run10 _ _ _ rfl hl] at e
 exact e
theorem f10_eq (x2 : Int) (n : Nat) (hn : 1 ≤ n ∧ n ≤ 5) (rd wr : List (BitVec 16)) (fl m : List Flt) (W : BitVec 16) (h2 : x2 = 1 ∨ x2 = 2) (hr : okC rd (allN n)) (hw : okC wr (allN n)) (hf : validF fl = 0) (hm : validF m = 0) (hml : m.length ≤ 100) :
  f10 [99] x2 (allN n) rd wr fl W m = some (0, famF (accC rd (greatestP (byzL m (allN n))) W) (subsB (allN n))) := by
 have hU := (allN_ok n (by omega)).1
 have hbz : (greatestP (byzL m (allN n))).length ≤ 65536 := by
  have := great_len (byzL m (allN n)); have : (byzL m (allN n)).length = m.length := by unfold byzL; simp
  omega
 have hrl := hr.2.2.2
 unfold f10 f26
 rw [f50_eq x2 n hn rd wr fl h2 hr hw hf, some_bind, if_neg (by simp), f51_eq, some_bind, hm, some_bind, if_neg (by simp), f27_eq _ _ _ hU _ _ _ _ hml, some_bind]
 generalize greatestP (byzL m (allN n)) = bz at hbz
 have hlen : (famF (accC rd bz W) (subsB (allN n))).length ≤ 32 := Nat.le_trans (fam_len _ _) (subs5 n hn.1 hn.2)
 unfold f22
 rw [some_bind, f44_run n hU x2 rd wr fl W bz (by omega) hbz (by omega), some_bind]
 generalize famF (accC rd bz W) (subsB (allN n)) = F at hlen
 dsimp only
 rw [chk_pos (by simp), if_pos rfl, ifd_neg (by omega)]
/-! ### Sound -/
abbrev R5 := Int × BitVec 16 × BitVec 16 × BitVec 16 × Bool
def LE5 (o K : Option R5) (Q : Prop) : Prop := (∃ w, o = some w ∧ w.2.2.2.2 = true) ∨ (o = K ∧ Q)
theorem loopLE (L : Nat → Nat → Option R5) (len : Nat) (K : Option R5) (P : Nat → Prop) (hs : ∀ k n, n < len → LE5 (L (k + 1) n) (L k (n + 1)) (P n)) (he : ∀ k, L (k + 1) len = K) : ∀ c k n, n + c = len → c < k → LE5 (L k n) K (∀ m, n ≤ m → m < len → P m)
 | 0, k, n, hn, hk => by
  obtain ⟨k, rfl⟩ : ∃ q, k = q + 1 := ⟨k - 1, by omega⟩
  obtain rfl : n = len := by omega
  exact .inr ⟨he k, fun m h1 h2 => by omega⟩
 | c + 1, k, n, hn, hk => by
  obtain ⟨k, rfl⟩ : ∃ q, k = q + 1 := ⟨k - 1, by omega⟩
  rcases hs k n (by omega) with h | ⟨h, hp⟩
  ·exact .inl h
  ·rcases loopLE L len K P hs he c k (n + 1) (by omega) (by omega) with h2 | ⟨h2, hp2⟩
   ·rw [← h] at h2; exact .inl h2
   ·refine .inr ⟨h.trans h2, fun m h3 h4 => ?_⟩
    by_cases e : m = n
    ·subst e; exact hp
    ·exact hp2 m (by omega) h4
theorem f53_L2_le (x4 x5 : List (BitVec 16)) (x7 : BitVec 16) (x8 : List (BitVec 16)) (n9 n10 : Nat) (K3 : Unit → Option R5) (h8 : x8.length ≤ 65536) : LE5 (f53_L2 x4 x5 x7 x8 n9 n10 K3 FUEL 0) (K3 ()) (∀ m, 0 ≤ m → m < x8.length → ¬ (((x4.getD n9 0#16) &&& (x5.getD n10 0#16)) &&& ~~~((x8.getD m 0#16) ||| x7)) = 0#16) :=
 loopLE (f53_L2 x4 x5 x7 x8 n9 n10 K3) x8.length (K3 ()) (fun m => ¬ (((x4.getD n9 0#16) &&& (x5.getD n10 0#16)) &&& ~~~((x8.getD m 0#16) ||| x7)) = 0#16) (fun k n hn => by
  rw [f53_L2.eq_2, ifd_pos (by omega), chk_pos (by omega)]
  by_cases h : (((x4.getD n9 0#16) &&& (x5.getD n10 0#16)) &&& ~~~((x8.getD n 0#16) ||| x7)) = 0#16
  ·rw [if_pos (by rw [h]; rfl)]; exact .inl ⟨_, rfl, rfl⟩
  ·rw [if_neg (by rw [beq_iff_eq]; exact h), chk_pos (by omega)]; exact .inr ⟨rfl, h⟩) (fun k => by
  rw [f53_L2.eq_2, ifd_neg (by omega)]) x8.length FUEL 0 (by omega) (fuel_lt (by omega))
theorem f53_L1_le (x4 x5 : List (BitVec 16)) (x7 : BitVec 16) (x8 : List (BitVec 16)) (n9 : Nat) (K2 : Unit → Option R5) (h5 : x5.length ≤ 65536) (h8 : x8.length ≤ 65536) : LE5 (f53_L1 x4 x5 x7 x8 n9 K2 FUEL 0) (K2 ()) (∀ q, 0 ≤ q → q < x5.length → ∀ m, 0 ≤ m → m < x8.length → ¬ (((x4.getD n9 0#16) &&& (x5.getD q 0#16)) &&& ~~~((x8.getD m 0#16) ||| x7)) = 0#16) :=
 loopLE (f53_L1 x4 x5 x7 x8 n9 K2) x5.length (K2 ()) (fun q => ∀ m, 0 ≤ m → m < x8.length → ¬ (((x4.getD n9 0#16) &&& (x5.getD q 0#16)) &&& ~~~((x8.getD m 0#16) ||| x7)) = 0#16) (fun k n hn => by
  rw [f53_L1.eq_2, ifd_pos (by omega), jn_eq, chk_pos (by omega)]
  have := f53_L2_le x4 x5 x7 x8 n9 n (fun _ => chk ((n : Int) + 1 ≤ 9223372036854775807) (f53_L1 x4 x5 x7 x8 n9 K2 k (n + 1))) h8
  rcases this with h | ⟨h, hq⟩
  ·exact .inl h
  ·exact .inr ⟨h.trans (chk_pos (by omega)), hq⟩) (fun k => by
  rw [f53_L1.eq_2, ifd_neg (by omega)]) x5.length FUEL 0 (by omega) (fuel_lt (by omega))
theorem f53_L0_le (x4 x5 : List (BitVec 16)) (x7 : BitVec 16) (x8 : List (BitVec 16)) (K1 : Unit → Option R5) (h4 : x4.length ≤ 65536) (h5 : x5.length ≤ 65536) (h8 : x8.length ≤ 65536) : LE5 (f53_L0 x4 x5 x7 x8 K1 FUEL 0) (K1 ()) (∀ r, 0 ≤ r → r < x4.length → ∀ q, 0 ≤ q → q < x5.length → ∀ m, 0 ≤ m → m < x8.length → ¬ (((x4.getD r 0#16) &&& (x5.getD q 0#16)) &&& ~~~((x8.getD m 0#16) ||| x7)) = 0#16) :=
 loopLE (f53_L0 x4 x5 x7 x8 K1) x4.length (K1 ()) _ (fun k n hn => by
  rw [f53_L0.eq_2, ifd_pos (by omega), jn_eq, chk_pos (by omega)]
  have := f53_L1_le x4 x5 x7 x8 n (fun _ => chk ((n : Int) + 1 ≤ 9223372036854775807) (f53_L0 x4 x5 x7 x8 K1 k (n + 1))) h5 h8
  rcases this with h | ⟨h, hq⟩
  ·exact .inl h
  ·exact .inr ⟨h.trans (chk_pos (by omega)), hq⟩) (fun k => by
  rw [f53_L0.eq_2, ifd_neg (by omega)]) x4.length FUEL 0 (by omega) (fuel_lt (by omega))
theorem f53_L5_le (x5 x8 : List (BitVec 16)) (n12 n13 : Nat) (K : Unit → Option R5) (h8 : x8.length ≤ 65536) : LE5 (f53_L5 x5 x8 n12 n13 K FUEL 0) (K ()) (∀ m, 0 ≤ m → m < x8.length → True) :=
 loopLE (f53_L5 x5 x8 n12 n13 K) x8.length (K ()) (fun _ => True) (fun k n hn => by
  rw [f53_L5.eq_2, ifd_pos (by omega), chk_pos (by omega), chk_pos (by omega)]
  split
  ·exact .inl ⟨_, rfl, rfl⟩
  ·exact .inr ⟨rfl, trivial⟩) (fun k => by
  rw [f53_L5.eq_2, ifd_neg (by omega)]) x8.length FUEL 0 (by omega) (fuel_lt (by omega))
theorem f53_L4_le (x5 x8 : List (BitVec 16)) (n12 : Nat) (K : Unit → Option R5) (h5 : x5.length ≤ 65536) (h8 : x8.length ≤ 65536) : LE5 (f53_L4 x5 x8 n12 K FUEL 0) (K ()) (∀ m, 0 ≤ m → m < x5.length → True) :=
 loopLE (f53_L4 x5 x8 n12 K) x5.length (K ()) (fun _ => True) (fun k n hn => by
  rw [f53_L4.eq_2, ifd_pos (by omega), jn_eq, chk_pos (by omega)]
  have := f53_L5_le x5 x8 n12 n (fun _ => chk ((n : Int) + 1 ≤ 9223372036854775807) (f53_L4 x5 x8 n12 K k (n + 1))) h8
  rcases this with h | ⟨h, _⟩
  ·exact .inl h
  ·exact .inr ⟨h.trans (chk_pos (by omega)), trivial⟩) (fun k => by
  rw [f53_L4.eq_2, ifd_neg (by omega)]) x5.length FUEL 0 (by omega) (fuel_lt (by omega))
theorem f53_L3_le (x5 x8 : List (BitVec 16)) (K : Unit → Option R5) (h5 : x5.length ≤ 65536) (h8 : x8.length ≤ 65536) : LE5 (f53_L3 x5 x8 K FUEL 0) (K ()) (∀ m, 0 ≤ m → m < x5.length → True) :=
 loopLE (f53_L3 x5 x8 K) x5.length (K ()) (fun _ => True) (fun k n hn => by
  rw [f53_L3.eq_2, ifd_pos (by omega), jn_eq, chk_pos (by omega)]
  have := f53_L4_le x5 x8 n (fun _ => chk ((n : Int) + 1 ≤ 9223372036854775807) (f53_L3 x5 x8 K k (n + 1))) h5 h8
  rcases this with h | ⟨h, _⟩
  ·exact .inl h
  ·exact .inr ⟨h.trans (chk_pos (by omega)), trivial⟩) (fun k => by
  rw [f53_L3.eq_2, ifd_neg (by omega)]) x5.length FUEL 0 (by omega) (fuel_lt (by omega))
theorem mem_getD {l : List (BitVec 16)} {a : BitVec 16} (h : a ∈ l) : ∃ n, n < l.length ∧ l.getD n 0#16 = a := by
 obtain ⟨n, hn, rfl⟩ := List.getElem_of_mem h
 exact ⟨n, hn, by simp [List.getD_eq_getElem?_getD, hn]⟩
theorem f53_key (rd wr : List (BitVec 16)) (W : BitVec 16) (bz : List (BitVec 16)) (h4 : rd.length ≤ 65536) (h5 : wr.length ≤ 65536) (h8 : bz.length ≤ 65536) (K1 : Unit → Option R5) (hK : ∃ w, K1 () = some w) :
  ∃ w, f53_L0 rd wr W bz K1 FUEL 0 = some w ∧ (w.2.2.2.2 = false → ∀ q, q ∈ wr → accC rd bz W q = true) := by
 rcases f53_L0_le rd wr W bz K1 h4 h5 h8 with ⟨w, e, hw⟩ | ⟨e, hq⟩
 ·exact ⟨w, e, fun h => by rw [hw] at h; cases h⟩
 ·obtain ⟨w, hk⟩ := hK
  refine ⟨w, e.trans hk, fun _ q hq' => ?_⟩
  obtain ⟨j, hj, rfl⟩ := mem_getD hq'
  unfold accC
  rw [List.all_eq_true]
  intro r hr
  obtain ⟨i, hi, rfl⟩ := mem_getD hr
  rw [List.all_eq_true]
  intro b hb
  obtain ⟨m, hm, rfl⟩ := mem_getD hb
  have := hq i (Nat.zero_le _) hi j (Nat.zero_le _) hj m (Nat.zero_le _) hm
  rw [BitVec.and_comm (wr.getD j 0#16)]
  simpa using this
theorem f53_key3 (wr bz : List (BitVec 16)) (h5 : wr.length ≤ 65536) (h8 : bz.length ≤ 65536) (K : Unit → Option R5) (hK : ∃ w, K () = some w) : ∃ w, f53_L3 wr bz K FUEL 0 = some w := by
 rcases f53_L3_le wr bz K h5 h8 with ⟨w, e, _⟩ | ⟨e, _⟩
 ·exact ⟨w, e⟩
 ·obtain ⟨w, hk⟩ := hK
  exact ⟨w, e.trans hk⟩
theorem f53_eq (t : List UInt8) (x2 : Int) (U : BitVec 16) (rd wr : List (BitVec 16)) (fl : List Flt) (W : BitVec 16) (bz : List (BitVec 16)) (h4 : rd.length ≤ 65536) (h5 : wr.length ≤ 65536) (h8 : bz.length ≤ 65536) :
  ∃ w, f53 t x2 U rd wr fl W bz = some w ∧ (w.2.2.2.2 = false → ∀ q, q ∈ wr → accC rd bz W q = true) := by
 unfold f53
 rw [jn_eq]
 refine f53_key rd wr W bz h4 h5 h8 _ ?_
 by_cases hx : x2 = 2
 ·rw [if_neg (by rw [hx]; simp), jn_eq]
  exact f53_key3 wr bz h5 h8 _ ⟨_, rfl⟩
 ·rw [if_pos (by simpa using hx)]
  exact ⟨_, rfl⟩
theorem f29_L0_eq (bz : List (BitVec 16)) (K1 : Unit → Option Tq2) (h8 : bz.length ≤ 65536) : ∀ c k n, n + c = bz.length → c < k → (∃ w, f29_L0 bz K1 k n = some w ∧ w.2.2.2.2 = 0) ∨ f29_L0 bz K1 k n = K1 ()
 | 0, k, n, hn, hk => by
  obtain ⟨k, rfl⟩ : ∃ q, k = q + 1 := ⟨k - 1, by omega⟩
  rw [f29_L0.eq_2, ifd_neg (by omega)]; exact .inr rfl
 | c + 1, k, n, hn, hk => by
  obtain ⟨k, rfl⟩ : ∃ q, k = q + 1 := ⟨k - 1, by omega⟩
  rw [f29_L0.eq_2, ifd_pos (by omega), chk_pos (by omega), chk_pos (by omega)]
  split
  ·exact .inl ⟨_, rfl, rfl⟩
  ·exact f29_L0_eq bz K1 h8 c k (n + 1) (by omega) (by omega)
theorem f12_eq (x2 : Int) (n : Nat) (hn : 1 ≤ n ∧ n ≤ 5) (rd wr : List (BitVec 16)) (fl m : List Flt) (W : BitVec 16) (h2 : x2 = 1 ∨ x2 = 2) (hr : okC rd (allN n)) (hw : okC wr (allN n)) (hf : validF fl = 0) (hm : validF m = 0) (hml : m.length ≤ 100) :
  ∃ b, f12 [99] x2 (allN n) rd wr fl W m = some b ∧ (b = true → ∀ q, q ∈ wr → accC rd (greatestP (byzL m (allN n))) W q = true) := by
 have hU := (allN_ok n (by omega)).1
 have hbz : (greatestP (byzL m (allN n))).length ≤ 65536 := by
  have := great_len (byzL m (allN n)); have : (byzL m (allN n)).length = m.length := by unfold byzL; simp
  omega
 have hrl := hr.2.2.2; have hwl := hw.2.2.2
 unfold f12 f29 f26
 rw [f50_eq x2 n hn rd wr fl h2 hr hw hf, some_bind, if_neg (by simp), f51_eq, some_bind, hm, some_bind, if_neg (by simp), f27_eq _ _ _ hU _ _ _ _ hml, some_bind]
 generalize greatestP (byzL m (allN n)) = bz at hbz
 obtain ⟨w, e, hq⟩ := f53_eq [99] x2 (allN n) rd wr fl W bz (by omega) (by omega) hbz
 rw [jn_eq]
 rw [e, some_bind]
 have hk : ∃ v : Tq2, (if w.2.2.2.2 = true then some (w.1, w.2.1, w.2.2.1, w.2.2.2.1, (0 : Int)) else some ((0 : Int), BitVec.ofInt 16 0, BitVec.ofInt 16 0, BitVec.ofInt 16 0, (13 : Int))) = some v ∧ ((v.2.2.2.2 == 13) = true → ∀ q, q ∈ wr → accC rd bz W q = true) := by
  cases hb : w.2.2.2.2 with
  | true => exact ⟨_, if_pos rfl, fun h => by simp at h⟩
  | false => exact ⟨_, if_neg (by simp), fun _ => hq hb⟩
 obtain ⟨v, ev, hv⟩ := hk
 rw [ev]
 by_cases h1 : x2 = 1
 ·rw [if_pos (by simpa using h1)]
  rcases f29_L0_eq bz (fun _ => some v) hbz bz.length FUEL 0 (by omega) (fuel_lt (by omega)) with ⟨u, e1, e2⟩ | e1
  ·rw [e1, some_bind]; exact ⟨_, rfl, fun h => by rw [e2] at h; simp at h⟩
  ·rw [e1, some_bind]; exact ⟨_, rfl, hv⟩
 ·rw [if_neg (by simpa using h1), some_bind]; exact ⟨_, rfl, hv⟩
end Go.Abs
