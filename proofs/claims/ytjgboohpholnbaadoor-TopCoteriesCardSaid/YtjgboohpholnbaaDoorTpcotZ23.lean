/- Part 23 of the proof: Pl, Thr19a, Chs, Cpt, Pltp, Trv, Memtp, Chtp, Cnttp, Tpa, Tpb, Tpc, TpC, FtpLaw5. -/
import Derived.Test.YtjgboohpholnbaaDoorTpcotZ22
namespace Go.Abs
theorem chk_pos {p : Prop} [Decidable p] {α : Type} {x : Option α} (h : p) : chk p x = x := if_pos h
theorem ifd_pos {p : Prop} [Decidable p] {α : Type} {x y : α} (h : p) : (if decide p = true then x else y) = x := if_pos (decide_eq_true h)
theorem ifd_neg {p : Prop} [Decidable p] {α : Type} {x y : α} (h : ¬ p) : (if decide p = true then x else y) = y := if_neg (by simpa using h)
theorem jn_eq {α β : Type} (K : α → Option β) (x : (α → Option β) → Option β) : jn K x = x K := rfl
theorem optc_t {α β : Type} [Inhabited α] {x : Option α} {k : α → Option β} : optc true x k = x.bind k := rfl
theorem optc_f {α β : Type} [Inhabited α] {x : Option α} {k : α → Option β} : optc false x k = k default := rfl
theorem some_bind {α β : Type} (a : α) (f : α → Option β) : (some a).bind f = f a := rfl
theorem abc_eq {α : Type} [DecidableEq α] {q : Prop} [Decidable q] {x y : Option α} (h : q → x = y) : abc q x y = y := by
  unfold abc both
  split
  · rename_i hq; rw [h hq]; simp
  · rfl
theorem fuel_lt {n : Nat} (h : n ≤ 18446744073709551615) : n < FUEL := by unfold FUEL; omega
theorem getD_drop {α : Type} (x : List α) (n : Nat) (d : α) (h : n < x.length) : x.drop n = x.getD n d :: x.drop (n + 1) := by
  rw [List.drop_eq_getElem_cons h]
  simp [List.getD_eq_getElem?_getD, h]
/-- .. without ways out. -/
theorem fold_up {α S R : Type} (L : Nat → Nat × S → Option R) (x : List α) (d : α) (Inv : Nat → S → Prop) (g : S → α → S) (K : S → Option R)
    (h : ∀ k n s, n < x.length → Inv n s → L (k + 1) (n, s) = L k (n + 1, g s (x.getD n d)))
    (hI : ∀ n s, n < x.length → Inv n s → Inv (n + 1) (g s (x.getD n d)))
    (he : ∀ k s, Inv x.length s → L (k + 1) (x.length, s) = K s) : ∀ c k n s, n + c = x.length → c < k → Inv n s → L k (n, s) = K ((x.drop n).foldl g s)
  | 0, k, n, s, hn, hk, hi => by
    obtain ⟨k, rfl⟩ : ∃ q, k = q + 1 := ⟨k - 1, by omega⟩
    obtain rfl : n = x.length := by omega
    rw [he k s hi, List.drop_eq_nil_of_le (Nat.le_refl _)]; rfl
  | c + 1, k, n, s, hn, hk, hi => by
    obtain ⟨k, rfl⟩ : ∃ q, k = q + 1 := ⟨k - 1, by omega⟩
    have hlt : n < x.length := by omega
    rw [h k n s hlt hi, getD_drop x n d hlt]
    exact fold_up L x d Inv g K h hI he c k (n + 1) _ (by omega) (by omega) (hI n s hlt hi)
/-- A search: the first element of which p holds. -/
theorem find_up {α R : Type} (L : Nat → Nat → Option R) (x : List α) (d : α) (p : α → Bool) (r : Nat → Option R) (K : Option R)
    (h : ∀ k n, n < x.length → L (k + 1) n = if p (x.getD n d) = true then r n else L k (n + 1))
    (he : ∀ k, L (k + 1) x.length = K) : ∀ c k n, n + c = x.length → c < k →
      (∃ m, n ≤ m ∧ m < x.length ∧ p (x.getD m d) = true ∧ L k n = r m ∧ (x.drop n).any p = true) ∨ (L k n = K ∧ (x.drop n).any p = false)
  | 0, k, n, hn, hk => by
    obtain ⟨k, rfl⟩ : ∃ q, k = q + 1 := ⟨k - 1, by omega⟩
    obtain rfl : n = x.length := by omega
    exact .inr ⟨he k, by rw [List.drop_eq_nil_of_le (Nat.le_refl _)]; rfl⟩
  | c + 1, k, n, hn, hk => by
    obtain ⟨k, rfl⟩ : ∃ q, k = q + 1 := ⟨k - 1, by omega⟩
    have hlt : n < x.length := by omega
    rw [h k n hlt, getD_drop x n d hlt]
    by_cases hp : p (x.getD n d) = true
    · rw [if_pos hp]; exact .inl ⟨n, Nat.le_refl _, hlt, hp, rfl, by rw [List.any_cons, hp]; rfl⟩
    · rw [if_neg hp]
      have hp' : p (x.getD n d) = false := by simpa using hp
      rw [List.any_cons, hp', Bool.false_or]
      rcases find_up L x d p r K h he c k (n + 1) (by omega) (by omega) with ⟨m, h1, h2⟩ | h2
      · exact .inl ⟨m, by omega, h2⟩
      · exact .inr h2
end Go.Abs
namespace Go.Abs
def cntB (x : Nat) : Nat → Nat
  | 0 => 0
  | p + 1 => cntB x p + x / 2 ^ p % 2
theorem bsum_snoc (x : Nat) : ∀ c i, bsum x i (c + 1) = bsum x i c + x / 2 ^ (i + c) % 2
  | 0, i => by simp [bsum]
  | c + 1, i => by
    have ih := bsum_snoc x c (i + 1)
    show x / 2 ^ i % 2 + bsum x (i + 1) (c + 1) = x / 2 ^ i % 2 + bsum x (i + 1) c + _
    rw [ih, show i + 1 + c = i + (c + 1) from by omega]; omega
theorem cntB_bsum (x : Nat) : ∀ p, cntB x p = bsum x 0 p
  | 0 => rfl
  | p + 1 => by rw [bsum_snoc, cntB, cntB_bsum x p, Nat.zero_add]
theorem cntB_sz (x : BitVec 16) : cntB x.toNat 16 = sz x := cntB_bsum _ _
def subB (y x : Nat) : Nat → Bool
  | 0 => true
  | p + 1 => subB y x p && decide (y / 2 ^ p % 2 ≤ x / 2 ^ p % 2)
theorem subB_iff (y x : Nat) : ∀ p, subB y x p = true ↔ ∀ j, j < p → y / 2 ^ j % 2 ≤ x / 2 ^ j % 2
  | 0 => by simp [subB]
  | p + 1 => by
    rw [subB, Bool.and_eq_true, subB_iff y x p, decide_eq_true_eq]
    constructor
    · rintro ⟨h1, h2⟩ j hj
      rcases Nat.lt_or_ge j p with h | h
      · exact h1 j h
      · obtain rfl : j = p := by omega
        exact h2
    · intro h
      exact ⟨fun j hj => h j (by omega), h p (by omega)⟩
theorem bit_low {p j y : Nat} (h : j < p) : (2 ^ p + y) / 2 ^ j % 2 = y / 2 ^ j % 2 := by
  obtain ⟨d, rfl⟩ : ∃ d, p = j + 1 + d := ⟨p - j - 1, by omega⟩
  have e : 2 ^ (j + 1 + d) + y = y + 2 ^ j * (2 * 2 ^ d) := by
    rw [Nat.pow_add, Nat.pow_succ, Nat.mul_assoc, Nat.add_comm]
  rw [e, Nat.add_mul_div_left _ _ (Nat.pow_pos (by decide)), Nat.add_mul_mod_self_left]
theorem bit_self {p y : Nat} (h : y < 2 ^ p) : (2 ^ p + y) / 2 ^ p % 2 = 1 := by
  rw [Nat.add_div_left _ (Nat.pow_pos (by decide)), Nat.div_eq_of_lt h]
theorem bit_hi {p y : Nat} (h : y < 2 ^ p) : y / 2 ^ p % 2 = 0 := by
  rw [Nat.div_eq_of_lt h]
theorem bit_01 (x j : Nat) : x / 2 ^ j % 2 = 0 ∨ x / 2 ^ j % 2 = 1 := by omega
theorem cntB_le (x : Nat) : ∀ p, cntB x p ≤ p
  | 0 => Nat.le_refl _
  | p + 1 => by
    have := cntB_le x p
    have := bit_01 x p
    rw [cntB]; omega
theorem cntB_congr {x y : Nat} : ∀ p, (∀ j, j < p → x / 2 ^ j % 2 = y / 2 ^ j % 2) → cntB x p = cntB y p
  | 0, _ => rfl
  | p + 1, h => by
    rw [cntB, cntB, cntB_congr p fun j hj => h j (by omega), h p (by omega)]
theorem subB_congr {x y z w : Nat} (p : Nat) (h1 : ∀ j, j < p → x / 2 ^ j % 2 = y / 2 ^ j % 2) (h2 : ∀ j, j < p → z / 2 ^ j % 2 = w / 2 ^ j % 2) : subB x z p = subB y w p := by
  rw [Bool.eq_iff_iff, subB_iff, subB_iff]
  constructor
  · intro h j hj; rw [← h1 j hj, ← h2 j hj]; exact h j hj
  · intro h j hj; rw [h1 j hj, h2 j hj]; exact h j hj
/-- the subsets of k of the bits below p of x -/
def sbs (x : Nat) : Nat → Nat → List Nat
  | 0, k => if k = 0 then [0] else []
  | p + 1, k => sbs x p k ++ if x / 2 ^ p % 2 = 1 ∧ 0 < k then (sbs x p (k - 1)).map (2 ^ p + ·) else []
theorem sbs_filter (x : Nat) : ∀ p k, (List.range (2 ^ p)).filter (fun y => subB y x p && decide (cntB y p = k)) = sbs x p k
  | 0, k => by cases k <;> rfl
  | p + 1, k => by
    rw [show 2 ^ (p + 1) = 2 ^ p + 2 ^ p from by rw [Nat.pow_succ]; omega, List.range_add, List.filter_append, List.filter_map, sbs]
    congr 1
    · rw [← sbs_filter x p k]
      refine List.filter_congr fun y hy => ?_
      have hy := List.mem_range.1 hy
      show ((subB y x p && decide (y / 2 ^ p % 2 ≤ x / 2 ^ p % 2)) && decide (cntB y p + y / 2 ^ p % 2 = k)) = _
      rw [bit_hi hy]; simp
    · by_cases hb : x / 2 ^ p % 2 = 1 ∧ 0 < k
      · rw [if_pos hb, ← sbs_filter x p (k - 1)]
        congr 1
        refine List.filter_congr fun y hy => ?_
        have hy := List.mem_range.1 hy
        show ((subB (2 ^ p + y) x p && decide ((2 ^ p + y) / 2 ^ p % 2 ≤ x / 2 ^ p % 2)) && decide (cntB (2 ^ p + y) p + (2 ^ p + y) / 2 ^ p % 2 = k)) = _
        rw [bit_self hy, hb.1, subB_congr p (fun j hj => bit_low hj) (fun _ _ => rfl), cntB_congr p (fun j hj => bit_low hj)]
        have : (cntB y p + 1 = k) ↔ (cntB y p = k - 1) := by omega
        simp [this]
      · rw [if_neg hb]
        rw [List.filter_eq_nil_iff.2, List.map_nil]
        intro y hy
        have hy := List.mem_range.1 hy
        show ¬ ((subB (2 ^ p + y) x p && decide ((2 ^ p + y) / 2 ^ p % 2 ≤ x / 2 ^ p % 2)) && decide (cntB (2 ^ p + y) p + (2 ^ p + y) / 2 ^ p % 2 = k)) = true
        rw [bit_self hy]
        have := bit_01 x p
        simp only [Bool.and_eq_true, decide_eq_true_eq]
        omega
theorem mem_sbs {x p k y : Nat} : y ∈ sbs x p k ↔ y < 2 ^ p ∧ subB y x p = true ∧ cntB y p = k := by
  rw [← sbs_filter]
  simp [List.mem_filter]
theorem sbs_sorted (x p k : Nat) : (sbs x p k).Pairwise (· < ·) := by
  rw [← sbs_filter]
  exact List.Pairwise.filter _ List.pairwise_lt_range
/-- the numbers of k of m bits -/
def cmb : Nat → Nat → List Nat
  | 0, k => if k = 0 then [0] else []
  | m + 1, k => cmb m k ++ if 0 < k then (cmb m (k - 1)).map (2 ^ m + ·) else []
theorem cmb_lt : ∀ m k i, i ∈ cmb m k → i < 2 ^ m
  | 0, k, i, h => by
    unfold cmb at h
    split at h
    · simp at h; omega
    · cases h
  | m + 1, k, i, h => by
    have e : 2 ^ (m + 1) = 2 ^ m + 2 ^ m := by rw [Nat.pow_succ]; omega
    rw [cmb] at h
    rcases List.mem_append.1 h with h | h
    · have := cmb_lt m k i h; omega
    · split at h
      · obtain ⟨j, hj, rfl⟩ := List.mem_map.1 h
        have := cmb_lt m _ j hj; omega
      · cases h
def memP (x p : Nat) : List Nat := (List.range p).filter fun i => decide (x / 2 ^ i % 2 = 1)
theorem memP_succ (x p : Nat) : memP x (p + 1) = memP x p ++ if x / 2 ^ p % 2 = 1 then [p] else [] := by
  unfold memP
  rw [List.range_succ, List.filter_append]
  congr 1
  split <;> rename_i h <;> simp [h]
theorem memP_len (x : Nat) : ∀ p, (memP x p).length = cntB x p
  | 0 => rfl
  | p + 1 => by
    rw [memP_succ, List.length_append, memP_len x p, cntB]
    have := bit_01 x p
    split
    · simp; omega
    · simp; omega
def plc : List Nat → Nat → Nat
  | [], _ => 0
  | p :: L, i => (if i % 2 = 1 then 2 ^ p else 0) + plc L (i / 2)
theorem plc_snoc (p : Nat) : ∀ (L : List Nat) (i : Nat), plc (L ++ [p]) i = plc L i + if i / 2 ^ L.length % 2 = 1 then 2 ^ p else 0
  | [], i => by simp [plc]
  | q :: L, i => by
    rw [List.cons_append, plc, plc_snoc p L (i / 2), plc, List.length_cons, Nat.div_div_eq_div_mul, Nat.pow_succ, Nat.mul_comm 2]
    omega
theorem plc_add : ∀ (L : List Nat) (i : Nat), plc L (2 ^ L.length + i) = plc L i
  | [], i => rfl
  | q :: L, i => by
    have e : 2 ^ (q :: L).length = 2 * 2 ^ L.length := by rw [List.length_cons, Nat.pow_succ, Nat.mul_comm]
    rw [plc, plc, e, show (2 * 2 ^ L.length + i) % 2 = i % 2 from by omega, show (2 * 2 ^ L.length + i) / 2 = 2 ^ L.length + i / 2 from by omega, plc_add L (i / 2)]
theorem plc_cmb (x : Nat) : ∀ p k, (cmb (cntB x p) k).map (plc (memP x p)) = sbs x p k
  | 0, k => by
    show (cmb 0 k).map (plc []) = sbs x 0 k
    unfold cmb sbs
    split <;> rfl
  | p + 1, k => by
    rw [memP_succ, cntB, sbs]
    rcases bit_01 x p with hb | hb
    · rw [hb, if_neg (by omega), if_neg (by omega), List.append_nil, List.append_nil, Nat.add_zero]
      exact plc_cmb x p k
    · rw [hb, if_pos rfl, cmb, List.map_append]
      congr 1
      · rw [← plc_cmb x p k]
        refine List.map_congr_left fun i hi => ?_
        have := cmb_lt _ _ i hi
        rw [plc_snoc, memP_len, bit_hi this]
        rfl
      · by_cases hk : 0 < k
        · rw [if_pos hk, if_pos ⟨rfl, hk⟩, ← plc_cmb x p (k - 1), List.map_map, List.map_map]
          refine List.map_congr_left fun i hi => ?_
          have := cmb_lt _ _ i hi
          show plc (memP x p ++ [p]) (2 ^ cntB x p + i) = 2 ^ p + plc (memP x p) i
          have h1 := plc_add (memP x p) i
          rw [memP_len] at h1
          rw [plc_snoc, memP_len, bit_self this, if_pos rfl, h1, Nat.add_comm]
        · rw [if_neg hk, if_neg (fun h => hk h.2)]; rfl
/-! ### sets of servers -/
theorem bitB (x : BitVec 16) (j : Nat) : x.toNat / 2 ^ j % 2 = if x.getLsbD j = true then 1 else 0 := by
  have e : x.getLsbD j = x.toNat.testBit j := rfl
  rw [e, Nat.testBit_eq_decide_div_mod_eq]
  have := bit_01 x.toNat j
  by_cases h : x.toNat / 2 ^ j % 2 = 1
  · simp [h]
  · simp [h]; omega
theorem sub_subB (y x : BitVec 16) : sub y x = subB y.toNat x.toNat 16 := by
  rw [Bool.eq_iff_iff, subB_iff]
  constructor
  · intro h j hj; exact sub_bits h j hj
  · intro h
    refine sub_iff.2 fun i hi hy => ?_
    have := h i hi
    rw [bitB, bitB, if_pos hy] at this
    cases hx : x.getLsbD i with
    | true => rfl
    | false => rw [hx] at this; simp at this
def chooseB (s : BitVec 16) (k : Nat) : List (BitVec 16) := (sbs s.toNat 16 k).map (BitVec.ofNat 16)
theorem ofNat_toNat16 {u : Nat} (h : u < 2 ^ 16) : (BitVec.ofNat 16 u).toNat = u := by
  rw [BitVec.toNat_ofNat, Nat.mod_eq_of_lt h]
theorem mem_chooseB {s : BitVec 16} {k : Nat} {u : BitVec 16} : u ∈ chooseB s k ↔ sub u s = true ∧ sz u = k := by
  unfold chooseB
  rw [List.mem_map, sub_subB, ← cntB_sz]
  constructor
  · rintro ⟨v, hv, rfl⟩
    obtain ⟨h1, h2, h3⟩ := mem_sbs.1 hv
    rw [ofNat_toNat16 h1]
    exact ⟨h2, h3⟩
  · rintro ⟨h1, h2⟩
    exact ⟨u.toNat, mem_sbs.2 ⟨u.isLt, h1, h2⟩, by simp⟩
theorem chooseB_sorted (s : BitVec 16) (k : Nat) : (chooseB s k).Pairwise fun a b => a.toNat < b.toNat := by
  unfold chooseB
  rw [List.pairwise_map]
  refine List.Pairwise.imp_of_mem ?_ (sbs_sorted s.toNat 16 k)
  intro a b ha hb h
  rw [ofNat_toNat16 (mem_sbs.1 ha).1, ofNat_toNat16 (mem_sbs.1 hb).1]
  exact h
end Go.Abs
namespace Go.Abs
def lowN : Nat → Nat → Nat
  | 0, _ => 0
  | c + 1, w => if w % 2 = 1 then 0 else lowN c (w / 2) + 1
def lowB (i : Int) : Int := bitsI .and .u32 i (IntKind.wrap .u32 (0 - i))
def gosN (i : Int) : Int := bitsI .or .u32 (i + lowB i) ((bitsI .xor .u32 i (i + lowB i)) / lowB i / 2 ^ 2)
def gosC (i : Int) : Bool := decide (0 ≤ i + lowB i ∧ i + lowB i ≤ 4294967295) && decide (0 ≤ bitsI .xor .u32 i (i + lowB i) ∧ 1 ≤ lowB i ∧ 0 ≤ bitsI .xor .u32 i (i + lowB i) / lowB i ∧ bitsI .xor .u32 i (i + lowB i) / lowB i ≤ 4294967295)
def chainG (m : Nat) (a : Nat) : List Nat → Bool
  | [] => decide (a < 2 ^ m) && (a == 0 || (gosC (a : Int) && decide ((1 : Int) * 2 ^ m ≤ gosN (a : Int))))
  | b :: t => decide (a < 2 ^ m) && !(a == 0) && gosC (a : Int) && decide (gosN (a : Int) = (b : Int)) && chainG m b t
def gOK (m k : Nat) : Bool := match cmb m k with
  | [] => false
  | a :: t => decide (a + 1 = 2 ^ k) && chainG m a t && decide (t.length ≤ 4096)
def gAll (m : Nat) : Bool := (List.range (m + 1)).all fun k => gOK m k
theorem gAll_eq : ∀ m : Nat, m ≤ 12 → gAll m = true
  | 0, _ => by kernel_rfl
  | 1, _ => by kernel_rfl
  | 2, _ => by kernel_rfl
  | 3, _ => by kernel_rfl
  | 4, _ => by kernel_rfl
  | 5, _ => by kernel_rfl
  | 6, _ => by kernel_rfl
  | 7, _ => by kernel_rfl
  | 8, _ => by kernel_rfl
  | 9, _ => by kernel_rfl
  | 10, _ => by kernel_rfl
  | 11, _ => by kernel_rfl
  | 12, _ => by kernel_rfl
  | n + 13, h => absurd h (by omega)
theorem gOK_of {m k : Nat} (hm : m ≤ 12) (hk : k ≤ m) : ∃ a t, cmb m k = a :: t ∧ a + 1 = 2 ^ k ∧ chainG m a t = true ∧ t.length ≤ 4096 := by
  have := List.all_eq_true.1 (gAll_eq m hm) k (List.mem_range.2 (by omega))
  unfold gOK at this
  split at this
  · cases this
  · rename_i a t e
    simp only [Bool.and_eq_true, decide_eq_true_eq] at this
    exact ⟨a, t, e, this.1.1, this.1.2, this.2⟩
theorem and1_all : ((List.range 4096).all fun x => (bitsI .and .u32 (x : Int) 1 == 1) == decide (x % 2 = 1)) = true := by kernel_rfl
theorem and1 {x : Nat} (h : x < 4096) : (bitsI .and .u32 (x : Int) 1 == 1) = decide (x % 2 = 1) := by
  have := List.all_eq_true.1 and1_all x (List.mem_range.2 h)
  simpa using this
def wP : List Nat → Nat → BitVec 16 → BitVec 16
  | [], _, w => w
  | p :: L, i, w => wP L (i / 2) (if i % 2 = 1 then w ||| ((BitVec.ofInt 16 1) <<< p) else w)
theorem wP_plc : ∀ (L : List Nat) (q i : Nat) (w : BitVec 16), (∀ p, p ∈ L → q ≤ p ∧ p < 16) → L.Pairwise (· < ·) → w.toNat < 2 ^ q → (wP L i w).toNat = w.toNat + plc L i
  | [], _, _, _, _, _, _ => rfl
  | p :: L, q, i, w, h1, h2, h3 => by
    obtain ⟨hq, hp⟩ := h1 p (List.mem_cons_self ..)
    rw [List.pairwise_cons] at h2
    have hqp : 2 ^ q ≤ 2 ^ p := Nat.pow_le_pow_right (by decide) hq
    have e : 2 ^ (p + 1) = 2 ^ p + 2 ^ p := by rw [Nat.pow_succ]; omega
    rw [wP, plc]
    have hL : ∀ r, r ∈ L → p + 1 ≤ r ∧ r < 16 := fun r hr => ⟨h2.1 r hr, (h1 r (List.mem_cons_of_mem _ hr)).2⟩
    by_cases hi : i % 2 = 1
    · rw [if_pos hi, if_pos hi]
      have ew : (w ||| ((BitVec.ofInt 16 1) <<< p)).toNat = w.toNat + 2 ^ p := by
        have e1 : ((BitVec.ofInt 16 1) <<< p).toNat = 2 ^ p := by
          rw [BitVec.toNat_shiftLeft]
          show 1 <<< p % 2 ^ 16 = 2 ^ p
          rw [Nat.one_shiftLeft, Nat.mod_eq_of_lt (Nat.pow_lt_pow_right (by decide) hp)]
        have e2 := Nat.two_pow_add_eq_or_of_lt (i := p) (b := w.toNat) (by omega) 1
        rw [BitVec.toNat_or, e1, Nat.or_comm]
        simp only [Nat.mul_one] at e2
        omega
      rw [wP_plc L (p + 1) (i / 2) _ hL h2.2 (by rw [ew]; omega), ew]
      omega
    · rw [if_neg hi, if_neg hi, wP_plc L (p + 1) (i / 2) w hL h2.2 (by omega)]
      omega
theorem memP_lt {x p i : Nat} (h : i ∈ memP x p) : i < p := List.mem_range.1 (List.mem_filter.1 h).1
theorem memP_sorted (x p : Nat) : (memP x p).Pairwise (· < ·) := List.Pairwise.filter _ List.pairwise_lt_range
theorem wP_choose (s : BitVec 16) (k : Nat) : (cmb (sz s) k).map (fun j => wP (memP s.toNat 16) j 0#16) = chooseB s k := by
  unfold chooseB
  rw [← plc_cmb, cntB_sz, List.map_map]
  refine List.map_congr_left fun j _ => ?_
  have h := wP_plc (memP s.toNat 16) 0 j 0#16 (fun p hp => ⟨Nat.zero_le _, memP_lt hp⟩) (memP_sorted _ _) (by decide)
  apply BitVec.eq_of_toNat_eq
  have h2 : (0#16).toNat = 0 := rfl
  rw [h2, Nat.zero_add] at h
  show _ = (BitVec.ofNat 16 (plc (memP s.toNat 16) j)).toNat
  rw [← h, ofNat_toNat16 (BitVec.isLt _)]
theorem mp_len (L : List Nat) : (L.map fun i : Nat => (i : Int)).length = L.length := List.length_map _
theorem mp_get (L : List Nat) (n : Nat) (h : n < L.length) : (L.map fun i : Nat => (i : Int)).getD n 0 = ((L.getD n 0 : Nat) : Int) := by
  simp [List.getD_eq_getElem?_getD, h]
theorem divc (i n : Nat) : ((i : Int) / 2 ^ n) = ((i / 2 ^ n : Nat) : Int) := by
  rw [Int.natCast_ediv, Int.natCast_pow]; rfl
theorem pow12 {m : Nat} (hm : m ≤ 12) : (1 : Int) * 2 ^ m ≤ 4096 ∧ 0 ≤ (1 : Int) * 2 ^ m ∧ (1 : Int) * 2 ^ m = ((2 ^ m : Nat) : Int) := by
  have h1 : 2 ^ m ≤ 2 ^ 12 := Nat.pow_le_pow_right (n := 2) (by decide) hm
  have e : (1 : Int) * 2 ^ m = ((2 ^ m : Nat) : Int) := by rw [Int.one_mul, Int.natCast_pow]; rfl
  rw [e]
  exact ⟨Int.ofNat_le.2 h1, Int.natCast_nonneg _, rfl⟩
/-! ### going through sets of a size, in order -/
/-- what a body does at one set after the other, until it answers something else than 0 -/
def runG {S : Type} (g : S → BitVec 16 → Nat × S) : List (BitVec 16) → S → Nat × S
  | [], st => (0, st)
  | x :: t, st => if (g st x).1 = 0 then runG g t (g st x).2 else g st x
theorem runG_pos {S : Type} {g : S → BitVec 16 → Nat × S} {x : BitVec 16} {l : List (BitVec 16)} {st : S} (h : (g st x).1 = 0) : runG g (x :: l) st = runG g l (g st x).2 := if_pos h
theorem runG_neg {S : Type} {g : S → BitVec 16 → Nat × S} {x : BitVec 16} {l : List (BitVec 16)} {st : S} (h : ¬ (g st x).1 = 0) : runG g (x :: l) st = g st x := if_neg h
theorem runG_app {S : Type} (g : S → BitVec 16 → Nat × S) : ∀ (l m : List (BitVec 16)) (st : S), runG g (l ++ m) st = if (runG g l st).1 = 0 then runG g m (runG g l st).2 else runG g l st
  | [], _, _ => rfl
  | x :: l, m, st => by
    rw [List.cons_append]
    by_cases h : (g st x).1 = 0
    · rw [runG_pos h, runG_pos h, runG_app g l m]
    · rw [runG_neg h, runG_neg h, if_neg h]
theorem runG_inv {S : Type} {g : S → BitVec 16 → Nat × S} {Inv : S → Prop} (h : ∀ st x, Inv st → (g st x).1 = 0 → Inv (g st x).2) : ∀ (l : List (BitVec 16)) (st : S), Inv st → (runG g l st).1 = 0 → Inv (runG g l st).2
  | [], _, h0, _ => h0
  | x :: l, st, h0, h1 => by
    by_cases hz : (g st x).1 = 0
    · rw [runG_pos hz] at h1 ⊢; exact runG_inv h l _ (h _ _ h0 hz) h1
    · rw [runG_neg hz] at h1; exact absurd h1 hz
theorem chs_up {S R : Type} (L : Nat → Int → S → Option R) (g : S → BitVec 16 → Nat × S) (Inv : S → Prop) (K : S → Option R) (B : Nat × S → Option R) (M : List Nat)
    (hI : ∀ st x, Inv st → (g st x).1 = 0 → Inv (g st x).2)
    (hend : ∀ k i st, Inv st → ((2 ^ M.length : Nat) : Int) ≤ i → L (k + 1) i st = K st)
    (hstep : ∀ (k a : Nat) st, Inv st → a < 2 ^ M.length → (a = 0 ∨ gosC (a : Int) = true) → L (k + 1) (a : Int) st = if (g st (wP M a 0#16)).1 = 0 then (if a = 0 then K (g st (wP M a 0#16)).2 else L k (gosN (a : Int)) (g st (wP M a 0#16)).2) else B (g st (wP M a 0#16))) :
    ∀ (t : List Nat) (a k : Nat) (st : S), chainG M.length a t = true → t.length + 1 < k → Inv st →
      L k (a : Int) st = if (runG g ((a :: t).map fun j => wP M j 0#16) st).1 = 0 then K (runG g ((a :: t).map fun j => wP M j 0#16) st).2 else B (runG g ((a :: t).map fun j => wP M j 0#16) st)
  | [], a, k, st, hc, hk, hi => by
    obtain ⟨k, rfl⟩ : ∃ q, k = q + 1 := ⟨k - 1, by simp at hk; omega⟩
    obtain ⟨k, rfl⟩ : ∃ q, k = q + 1 := ⟨k - 1, by simp at hk; omega⟩
    unfold chainG at hc
    simp only [Bool.and_eq_true, Bool.or_eq_true, decide_eq_true_eq, beq_iff_eq] at hc
    have e : runG g ([a].map fun j => wP M j 0#16) st = g st (wP M a 0#16) := by
      show runG g [wP M a 0#16] st = _
      by_cases h : (g st (wP M a 0#16)).1 = 0
      · rw [runG_pos h]
        exact Prod.ext h.symm rfl
      · rw [runG_neg h]
    rw [e, hstep _ _ _ hi hc.1 (by rcases hc.2 with h | h; exact .inl h; exact .inr h.1)]
    by_cases hz : (g st (wP M a 0#16)).1 = 0
    · rw [if_pos hz, if_pos hz]
      by_cases h0 : a = 0
      · rw [if_pos h0]
      · rw [if_neg h0]
        rcases hc.2 with h | ⟨_, h⟩
        · exact absurd h h0
        · refine hend _ _ _ (hI _ _ hi hz) ?_
          have e2 : ((2 ^ M.length : Nat) : Int) = 1 * 2 ^ M.length := by rw [Int.one_mul, Int.natCast_pow]; rfl
          rw [e2]; exact h
    · rw [if_neg hz, if_neg hz]
  | b :: t, a, k, st, hc, hk, hi => by
    obtain ⟨k, rfl⟩ : ∃ q, k = q + 1 := ⟨k - 1, by omega⟩
    unfold chainG at hc
    simp only [Bool.and_eq_true, Bool.not_eq_true', decide_eq_true_eq, beq_eq_false_iff_ne] at hc
    obtain ⟨⟨⟨⟨hc1, hc2⟩, hg⟩, hn⟩, hc'⟩ := hc
    rw [hstep _ _ _ hi hc1 (.inr hg), List.map_cons]
    by_cases hz : (g st (wP M a 0#16)).1 = 0
    · rw [runG_pos hz, if_pos hz, if_neg hc2, hn]
      exact chs_up L g Inv K B M hI hend hstep t b k _ hc' (by simp at hk; omega) (hI _ _ hi hz)
    · rw [runG_neg hz, if_neg hz, if_neg hz]
/-- all subsets, in order -/
def subsB (s : BitVec 16) : List (BitVec 16) := (List.range (sz s + 1)).flatMap (chooseB s)
theorem mem_subsB {s u : BitVec 16} : u ∈ subsB s ↔ sub u s = true := by
  unfold subsB
  rw [List.mem_flatMap]
  constructor
  · rintro ⟨k, _, h⟩; exact (mem_chooseB.1 h).1
  · intro h
    exact ⟨sz u, List.mem_range.2 (by have := (sub_sz h).1; omega), mem_chooseB.2 ⟨h, rfl⟩⟩
theorem subs_up {S R : Type} (L : Nat → Nat → S → Option R) (g : S → BitVec 16 → Nat × S) (Inv : S → Prop) (F : Nat × S → Option R) (s : BitVec 16)
    (hI : ∀ st x, Inv st → (g st x).1 = 0 → Inv (g st x).2)
    (hend : ∀ k st, Inv st → L (k + 1) (sz s + 1) st = F (0, st))
    (hstep : ∀ k n st, Inv st → n ≤ sz s → L (k + 1) n st = if (runG g (chooseB s n) st).1 = 0 then L k (n + 1) (runG g (chooseB s n) st).2 else F (runG g (chooseB s n) st)) :
    ∀ (c k n : Nat) (st : S), n + c = sz s + 1 → c < k → Inv st → L k n st = F (runG g ((List.range' n c).flatMap (chooseB s)) st)
  | 0, k, n, st, hc, hk, hi => by
    obtain ⟨k, rfl⟩ : ∃ q, k = q + 1 := ⟨k - 1, by omega⟩
    have : n = sz s + 1 := by omega
    subst this
    simp only [List.range'_zero, List.flatMap_nil, runG]
    exact hend _ _ hi
  | c + 1, k, n, st, hc, hk, hi => by
    obtain ⟨k, rfl⟩ : ∃ q, k = q + 1 := ⟨k - 1, by omega⟩
    rw [hstep _ _ _ hi (by omega), List.range'_succ, List.flatMap_cons, runG_app]
    by_cases hz : (runG g (chooseB s n) st).1 = 0
    · rw [if_pos hz, if_pos hz]
      exact subs_up L g Inv F s hI hend hstep c k (n + 1) _ (by omega) (by omega) (runG_inv hI _ _ hi hz)
    · rw [if_neg hz, if_neg hz]
theorem subsB_range (s : BitVec 16) : subsB s = (List.range' 0 (sz s + 1)).flatMap (chooseB s) := by
  unfold subsB; rw [List.range_eq_range']
theorem subsB_sorted (s : BitVec 16) : (subsB s).Pairwise fun x y => key x < key y := by
  unfold subsB
  rw [List.pairwise_flatMap]
  refine ⟨fun k _ => ?_, ?_⟩
  · have h1 := chooseB_sorted s k
    refine List.Pairwise.imp_of_mem ?_ h1
    intro a b ha hb hab
    have e1 := (mem_chooseB.1 ha).2; have e2 := (mem_chooseB.1 hb).2
    unfold key; omega
  · refine List.Pairwise.imp_of_mem ?_ (List.pairwise_lt_range (n := sz s + 1))
    intro k m hk hm hkm a ha b hb
    have e1 := (mem_chooseB.1 ha).2; have e2 := (mem_chooseB.1 hb).2
    have h1 := a.isLt; have h2 := b.isLt
    unfold key; omega
end Go.Abs
namespace Go.Abs
section
variable {α : Type} [DecidableEq α]
end
end Go.Abs
namespace Go.Abs
theorem and_hi (n : Nat) (h : n < 65536) : (n &&& 61440 = 0) ↔ n < 4096 := by
  have e : (n &&& 61440) >>> 12 = n / 4096 := by
    rw [Nat.shiftRight_and_distrib, Nat.shiftRight_eq_div_pow]
    show (n / 4096) &&& 15 = n / 4096
    rw [show (15 : Nat) = 2 ^ 4 - 1 from rfl, Nat.and_two_pow_sub_one_eq_mod]
    omega
  constructor
  · intro h0
    rw [h0] at e
    simp at e
    omega
  · intro hn
    apply Nat.eq_of_testBit_eq
    intro i
    rw [Nat.testBit_and, Nat.zero_testBit]
    by_cases hi : i < 12
    · have : Nat.testBit 61440 i = false := by
        rw [show (61440 : Nat) = 2 ^ 12 * 15 from rfl, Nat.testBit_two_pow_mul]
        simp; omega
      rw [this, Bool.and_false]
    · have : n.testBit i = false := Nat.testBit_lt_two_pow (Nat.lt_of_lt_of_le hn (Nat.pow_le_pow_right (n := 2) (by decide) (by omega : 12 ≤ i)))
      rw [this, Bool.false_and]
theorem outside_eq (x : BitVec 16) : ((x &&& (BitVec.ofInt 16 61440)) == (BitVec.ofInt 16 0)) = decide (x.toNat < 4096) := by
  have h := and_hi x.toNat x.isLt
  rw [Bool.eq_iff_iff, beq_iff_eq, decide_eq_true_eq, ← h]
  constructor
  · intro e
    have := congrArg BitVec.toNat e
    simpa using this
  · intro e
    apply BitVec.eq_of_toNat_eq
    simpa using e
theorem f74_eq (y s : BitVec 16) : f74 y s = some (sub y s, s) := rfl
theorem f63_L0_eq (x : List (BitVec 16)) (K : (BitVec 16) → Option (Int × BitVec 16)) (s : BitVec 16) (hx : x.length ≤ 65536) : ∀ (c k n : Nat), n + c = x.length → c < k →
    (∃ m : Nat, f63_L0 x K k (n, s) = some ((m : Int), s) ∧ (x.drop n).any (fun y => sub y s) = true) ∨ (f63_L0 x K k (n, s) = K s ∧ (x.drop n).any (fun y => sub y s) = false)
  | 0, k, n, hn, hk => by
    obtain ⟨k, rfl⟩ : ∃ q, k = q + 1 := ⟨k - 1, by omega⟩
    rw [f63_L0.eq_2, if_neg (by simp; omega)]
    exact .inr ⟨rfl, by rw [List.drop_eq_nil_of_le (by omega)]; rfl⟩
  | c + 1, k, n, hn, hk => by
    obtain ⟨k, rfl⟩ : ∃ q, k = q + 1 := ⟨k - 1, by omega⟩
    have hlt : n < x.length := by omega
    have hg : x.getD n 0#16 = x[n] := by simp [List.getD_eq_getElem?_getD, hlt]
    rw [f63_L0.eq_2, if_pos (by simp; omega), f74_eq, hg, List.drop_eq_getElem_cons hlt]
    simp only [Option.bind_some, List.any_cons]
    unfold chk
    rw [if_pos (by omega)]
    by_cases h : sub x[n] s = true
    · rw [if_pos h]; exact .inl ⟨n, rfl, by rw [h]; rfl⟩
    · rw [if_neg h, if_pos (by omega)]
      have h : sub x[n] s = false := by simpa using h
      rw [h, Bool.false_or]
      exact f63_L0_eq x K s hx c k (n + 1) (by omega) (by omega)
theorem f31_eq (x : List (BitVec 16)) (s : BitVec 16) (hx : x.length ≤ 65536) : f31 x s = some (x.any fun y => sub y s) := by
  unfold f31 f65 f63 jn
  dsimp only
  rcases f63_L0_eq x (fun w6 => some (-1, w6)) s hx x.length FUEL 0 (by omega) (by unfold FUEL; omega) with ⟨m, h1, h2⟩ | ⟨h1, h2⟩
  · rw [h1]; rw [List.drop_zero] at h2; rw [h2]; simp
  · rw [h1]; rw [List.drop_zero] at h2; rw [h2]; simp

theorem f62_eq (x : List (BitVec 16)) (h : x.length ≤ 65536) : f62 x = some x := by
  unfold f62
  rw [abc_eq (fun h0 => by rw [List.length_eq_zero_iff.1 h0]; rfl), chk_pos (by omega)]
  rfl
theorem f87_L0_eq (K1 : List (BitVec 16) → Option (List (BitVec 16))) (r2 : List (BitVec 16)) (hx : r2.length ≤ 65536) : f87_L0 K1 r2 FUEL (0, []) = K1 (greedy (fun y a => sub y a) r2) := by
  refine (fold_up (f87_L0 K1 r2) r2 0#16 (fun n l => l.length ≤ n) (fun out a => if out.any (fun y => sub y a) then out else out ++ [a]) K1 ?_ ?_ ?_ r2.length FUEL 0 [] (by omega) (fuel_lt (by omega)) (Nat.le_refl _)).trans rfl
  · intro k n s hn hi
    rw [f87_L0.eq_2, ifd_pos (by omega), jn_eq, chk_pos (by omega), chk_pos (by omega), f31_eq _ _ (by omega), some_bind]
    cases h : s.any (fun y => sub y (r2.getD n 0#16)) with
    | true => simp only [Bool.not_true, Bool.false_eq_true, if_false]; rw [chk_pos (by omega)]; simp
    | false => simp only [Bool.not_false, if_true]; rw [chk_pos (by omega), chk_pos (by omega)]; simp
  · intro n s hn hi
    split
    · omega
    · simp; omega
  · intro k s hi
    rw [f87_L0.eq_2, ifd_neg (by omega)]
/-! ### slices.Compact on a sorted list -/
/-- what the loop holds: the first m of the list done, n3 places kept -/
def CInv (x l : List (BitVec 16)) (n3 m : Nat) : Prop := l.length = x.length ∧ 0 < m ∧ m ≤ x.length ∧ n3 < m ∧ 0 < n3 ∧ l.take n3 = dd (x.take m) ∧ ∀ j, m ≤ j + 1 → l.getD j 0#16 = x.getD j 0#16
theorem take_succ_getD {α : Type} (x : List α) (n : Nat) (d : α) (h : n < x.length) : x.take (n + 1) = x.take n ++ [x.getD n d] := by
  rw [List.take_add_one]
  simp [List.getD_eq_getElem?_getD, h]
theorem dd_take_last (x : List (BitVec 16)) (m : Nat) (h0 : 0 < m) (hm : m ≤ x.length) : (dd (x.take m)).getLast? = some (x.getD (m - 1) 0#16) := by
  rw [dd_last]
  obtain ⟨k, rfl⟩ : ∃ k, m = k + 1 := ⟨m - 1, by omega⟩
  rw [take_succ_getD x k 0#16 (by omega)]
  simp
theorem dd_take_succ (x : List (BitVec 16)) (m : Nat) (h0 : 0 < m) (hm : m < x.length) : dd (x.take (m + 1)) = if x.getD m 0#16 = x.getD (m - 1) 0#16 then dd (x.take m) else dd (x.take m) ++ [x.getD m 0#16] := by
  rw [take_succ_getD x m 0#16 hm, dd_snoc]
  unfold ddS
  rw [dd_take_last x m h0 (by omega)]
  by_cases h : x.getD m 0#16 = x.getD (m - 1) 0#16
  · rw [if_pos h, if_pos (by rw [h])]
  · rw [if_neg h, if_neg (by intro e; exact h (Option.some.inj e).symm)]
theorem f105_L1_eq (x : List (BitVec 16)) (n2 : Nat) (K : Nat × List (BitVec 16) → Option (List (BitVec 16))) (R : Option (List (BitVec 16))) (hx : x.length ≤ 65536) (hn2 : n2 < x.length) (h2 : 0 < n2)
    (hK : ∀ n3 l, CInv x l n3 x.length → K (n3, l) = R) : ∀ c k n3 n4 l, n2 + n4 + c = x.length → 0 < n4 → c < k → CInv x l n3 (n2 + n4) → f105_L1 x n2 K k (n3, n4, l) = R
  | 0, k, n3, n4, l, hc, h4, hk, hi => by
    obtain ⟨k, rfl⟩ : ∃ q, k = q + 1 := ⟨k - 1, by omega⟩
    rw [f105_L1.eq_2, ifd_neg (by omega)]
    exact hK _ _ (by rw [show x.length = n2 + n4 by omega]; exact hi)
  | c + 1, k, n3, n4, l, hc, h4, hk, hi => by
    obtain ⟨k, rfl⟩ : ∃ q, k = q + 1 := ⟨k - 1, by omega⟩
    obtain ⟨i1, i2, i3, i4, i5, i6, i7⟩ := hi
    have ht : (((n4 : Nat) : Int) - (1 : Int)).toNat = n4 - 1 := by omega
    rw [f105_L1.eq_2, ifd_pos (by omega), jn_eq, chk_pos (by omega), chk_pos (by omega), chk_pos (by omega), chk_pos (by omega), chk_pos (by omega), ht]
    have e1 := i7 (n2 + n4) (by omega)
    have e2 := i7 (n2 + (n4 - 1)) (by omega)
    rw [e1, e2]
    have hs := dd_take_succ x (n2 + n4) (by omega) (by omega)
    rw [show n2 + n4 - 1 = n2 + (n4 - 1) by omega] at hs
    by_cases he : x.getD (n2 + n4) 0#16 = x.getD (n2 + (n4 - 1)) 0#16
    · rw [if_pos he] at hs
      rw [if_neg (by rw [he]; simp)]
      dsimp only
      rw [chk_pos (by omega)]
      exact f105_L1_eq x n2 K R hx hn2 h2 hK c k n3 (n4 + 1) l (by omega) (by omega) (by omega) ⟨i1, by omega, by omega, by omega, i5, by rw [i6, ← hs]; rfl, fun j hj => i7 j (by omega)⟩
    · rw [if_neg he] at hs
      rw [if_pos (by simpa using he), chk_pos (by omega), chk_pos (by omega), chk_pos (by omega), chk_pos (by omega), chk_pos (by omega)]
      dsimp only
      rw [chk_pos (by omega)]
      refine f105_L1_eq x n2 K R hx hn2 h2 hK c k (n3 + 1) (n4 + 1) _ (by omega) (by omega) (by omega) ⟨by simp [i1], by omega, by omega, by omega, by omega, ?_, fun j hj => ?_⟩
      · rw [show n2 + (n4 + 1) = n2 + n4 + 1 by omega, hs, ← i6, take_succ_getD _ n3 0#16 (by simp; omega), List.take_set_of_le (Nat.le_refl _)]
        have : n3 < l.length := by omega
        simp [List.getD_eq_getElem?_getD, this]
      · have : n3 ≠ j := by omega
        rw [← i7 j (by omega)]
        simp [List.getD_eq_getElem?_getD, List.getElem?_set_ne this]
theorem dd_take_of_ne (x : List (BitVec 16)) : ∀ n, n ≤ x.length → (∀ j, 0 < j → j < n → x.getD j 0#16 ≠ x.getD (j - 1) 0#16) → dd (x.take n) = x.take n
  | 0, _, _ => by simp [dd]
  | n + 1, hn, h => by
    have ih := dd_take_of_ne x n (by omega) fun j h1 h2 => h j h1 (by omega)
    by_cases h0 : n = 0
    · subst h0
      rw [take_succ_getD x 0 0#16 (by omega)]
      simp [dd, ddS]
    · rw [dd_take_succ x n (by omega) (by omega), if_neg (h n (by omega) (by omega)), ih, ← take_succ_getD x n 0#16 (by omega)]
theorem f105_L0_eq (x : List (BitVec 16)) (K : Unit → Option (List (BitVec 16))) (hK : K () = some x) (hx : x.length ≤ 65536) : ∀ c k n, n + c = x.length → 0 < n → c < k → (∀ j, 0 < j → j < n → x.getD j 0#16 ≠ x.getD (j - 1) 0#16) → f105_L0 x K k n = some (dd x)
  | 0, k, n, hc, h0, hk, hi => by
    obtain ⟨k, rfl⟩ : ∃ q, k = q + 1 := ⟨k - 1, by omega⟩
    rw [f105_L0.eq_2, ifd_neg (by omega), hK]
    have := dd_take_of_ne x n (by omega) hi
    rw [List.take_of_length_le (by omega)] at this
    rw [this]
  | c + 1, k, n, hc, h0, hk, hi => by
    obtain ⟨k, rfl⟩ : ∃ q, k = q + 1 := ⟨k - 1, by omega⟩
    have ht : (((n : Nat) : Int) - (1 : Int)).toNat = n - 1 := by omega
    rw [f105_L0.eq_2, ifd_pos (by omega), chk_pos (by omega), chk_pos (by omega), chk_pos (by omega), chk_pos (by omega), chk_pos (by omega), ht]
    by_cases he : x.getD n 0#16 = x.getD (n - 1) 0#16
    · rw [if_pos (by rw [he]; simp), chk_pos (by omega), jn_eq]
      have hd := dd_take_of_ne x n (by omega) hi
      have hs := dd_take_succ x n (by omega) (by omega)
      rw [if_pos he, hd] at hs
      refine f105_L1_eq x n _ _ hx (by omega) h0 (fun n3 l hi2 => ?_) c FUEL n 1 x (by omega) (by omega) (fuel_lt (by omega)) ⟨rfl, by omega, by omega, by omega, h0, hs.symm, fun j _ => rfl⟩
      obtain ⟨i1, i2, i3, i4, i5, i6, i7⟩ := hi2
      dsimp only
      rw [chk_pos (by omega), chk_pos (by omega), chk_pos (by simp; omega), chk_pos (by simp; omega)]
      rw [List.take_append_of_le_length (by simp; omega), List.take_take, Nat.min_self, i6, List.take_of_length_le (Nat.le_refl _)]
    · rw [if_neg (by simpa using he), chk_pos (by omega)]
      refine f105_L0_eq x K hK hx c k (n + 1) (by omega) (by omega) (by omega) fun j h1 h2 => ?_
      by_cases e : j = n
      · subst e; exact he
      · exact hi j h1 (by omega)
theorem f105_eq (x : List (BitVec 16)) (hx : x.length ≤ 65536) : f105 x = some (dd x) := by
  unfold f105
  by_cases h : x.length < 2
  · rw [ifd_pos (by omega)]
    match x, h with
    | [], _ => rfl
    | [a], _ => rfl
    | a :: b :: l, h => simp at h; omega
  · rw [ifd_neg (by omega), jn_eq]
    exact f105_L0_eq x _ rfl hx (x.length - 1) FUEL 1 (by omega) (by omega) (fuel_lt (by omega)) (fun j h1 h2 => by omega)
theorem f104_eq (x : List (BitVec 16)) (hx : x.length ≤ 65536) : f104 x = some (isortK key x) := by
  unfold f104 sortO; rw [if_pos (by omega)]
theorem f100_eq (x : List (BitVec 16)) (hx : x.length ≤ 65536) : f100 x = some (srt x) := by
  unfold f100
  have := (isortK_perm (k := key) x).length_eq
  rw [f62_eq x hx, some_bind, f104_eq x hx, some_bind, f105_eq _ (by omega), some_bind]
  rfl
theorem f87_eq (x : List (BitVec 16)) (hx : x.length ≤ 65536) : f87 x = some (leastP x) := by
  unfold f87
  have := srt_len x
  rw [jn_eq, f100_eq x hx, some_bind, f87_L0_eq _ _ (by omega)]
  rfl
/-! ### greatest -/
def scan0 (x : List (BitVec 16)) : Nat → Nat → Option Int
  | 0, _ => none
  | c + 1, n => if (x.getD n 0#16).toNat < 4096 then (if decide (n > 0) && !(ltS (x.getD (n - 1) 0#16) (x.getD n 0#16)) then some 1 else scan0 x c (n + 1)) else some 7
def orK (e : Option Int) (K : Unit → Option Int) : Option Int := match e with
  | some e => some e
  | none => K ()

theorem f42_L0_eq (x : List (BitVec 16)) (K : Unit → Option Int) (hx : x.length ≤ 65536) : ∀ (c k n : Nat), n + c = x.length → c < k → f42_L0 x K k n = orK (scan0 x c n) K
  | 0, k, n, hn, hk => by
    obtain ⟨k, rfl⟩ : ∃ q, k = q + 1 := ⟨k - 1, by omega⟩
    rw [f42_L0.eq_2, if_neg (by simp; omega)]
    rfl
  | c + 1, k, n, hn, hk => by
    obtain ⟨k, rfl⟩ : ∃ q, k = q + 1 := ⟨k - 1, by omega⟩
    have ih := f42_L0_eq x K hx c k (n + 1) (by omega) (by omega)
    rw [f42_L0.eq_2, if_pos (by simp; omega)]
    unfold chk scan0
    rw [if_pos (by omega), outside_eq]
    by_cases hr : (x.getD n 0#16).toNat < 4096
    · rw [if_pos hr, if_neg (by simp only [hr]; simp)]
      obtain ⟨r, h1, h2⟩ := f80_eq (x.getD (((n : Int) - 1).toNat) 0#16) (x.getD n 0#16)
      have hn1 : ((n : Int) - 1).toNat = n - 1 := by omega
      rw [hn1] at h1 h2
      unfold optc
      by_cases h0 : n > 0
      · have h0' : ((decide ((n : Int) > 0)) == true) = true := by simp; omega
        rw [if_pos h0', hn1, h1]
        simp only [Option.bind_some]
        rw [if_pos (by omega), if_pos (by omega)]
        by_cases hl : ltS (x.getD (n - 1) 0#16) (x.getD n 0#16) = true
        · have : ¬ (r ≥ 0) := fun h => by rw [h2.1 h] at hl; cases hl
          rw [if_neg (by simp [this]), if_pos (by omega), ih, hl]
          simp
        · have hl : ltS (x.getD (n - 1) 0#16) (x.getD n 0#16) = false := by simpa using hl
          rw [if_pos (by simp [h2.2 hl]; omega), hl]
          simp [h0, orK]
      · have h0' : ¬ ((decide ((n : Int) > 0)) == true) = true := by simp; omega
        have h0'' : ¬ (decide ((n : Int) > 0)) = true := by simp; omega
        rw [if_neg h0']
        dsimp only
        rw [if_pos (fun h => absurd h h0'), if_pos (fun h => absurd h h0'), if_neg (by simp; omega), if_pos (by omega), ih, if_neg (by simp; omega)]
    · rw [if_neg hr, if_pos (by simp only [hr]; simp)]
      rfl

/-- a later set of the list that holds an earlier one -/
def bad1 (x : List (BitVec 16)) : Nat → Nat → Bool
  | 0, _ => false
  | c + 1, n => (x.take n).any (fun y => sub y (x.getD n 0#16)) || bad1 x c (n + 1)
theorem f42_L1_eq (x : List (BitVec 16)) (K : Unit → Option Int) (hx : x.length ≤ 65536) : ∀ (c k n : Nat), n + c = x.length → c < k → f42_L1 x K k n = if bad1 x c n = true then some 1 else K ()
  | 0, k, n, hn, hk => by
    obtain ⟨k, rfl⟩ : ∃ q, k = q + 1 := ⟨k - 1, by omega⟩
    rw [f42_L1.eq_2, if_neg (by simp; omega), if_neg (by simp [bad1])]
  | c + 1, k, n, hn, hk => by
    obtain ⟨k, rfl⟩ : ∃ q, k = q + 1 := ⟨k - 1, by omega⟩
    have ih := f42_L1_eq x K hx c k (n + 1) (by omega) (by omega)
    rw [f42_L1.eq_2, if_pos (by simp; omega), f31_eq _ _ (by simp; omega)]
    simp only [Option.bind_some]
    unfold chk
    rw [if_pos (by omega), if_pos (by omega)]
    by_cases h : ((x.take n).any fun y => sub y (x.getD n 0#16)) = true
    · rw [if_pos h, if_pos (by simp only [bad1, h, Bool.true_or])]
    · rw [if_neg h, if_pos (by omega), ih]
      have h : ((x.take n).any fun y => sub y (x.getD n 0#16)) = false := by simpa using h
      simp only [bad1, h, Bool.false_or]
theorem bad1_iff (x : List (BitVec 16)) : ∀ (c n : Nat), n + c = x.length → (bad1 x c n = true ↔ ∃ m j, n ≤ m ∧ m < x.length ∧ j < m ∧ sub (x.getD j 0#16) (x.getD m 0#16) = true)
  | 0, n, hn => by
    simp only [bad1, Bool.false_eq_true, false_iff]
    rintro ⟨m, j, h1, h2, _⟩; omega
  | c + 1, n, hn => by
    simp only [bad1, Bool.or_eq_true, bad1_iff x c (n + 1) (by omega), List.any_eq_true]
    constructor
    · rintro (⟨y, hy, hs⟩ | ⟨m, j, h1, h2, h3, h4⟩)
      · obtain ⟨j, hj, rfl⟩ := List.getElem_of_mem hy
        have hj' : j < n := by simp at hj; omega
        refine ⟨n, j, Nat.le_refl _, by omega, hj', ?_⟩
        have hl : j < x.length := by omega
        simpa [List.getD_eq_getElem?_getD, hl] using hs
      · exact ⟨m, j, by omega, h2, h3, h4⟩
    · rintro ⟨m, j, h1, h2, h3, h4⟩
      by_cases e : m = n
      · subst e
        refine .inl ⟨x.getD j 0#16, ?_, h4⟩
        have hl : j < x.length := by omega
        have : x.getD j 0#16 = (x.take m)[j]'(by simp; omega) := by simp [List.getD_eq_getElem?_getD, hl]
        rw [this]; exact List.getElem_mem _
      · exact .inr ⟨m, j, by omega, h2, h3, h4⟩
theorem f42_val (x : List (BitVec 16)) (h : x.length ≤ 400) : f42 x = orK (scan0 x x.length 0) fun _ => if bad1 x x.length 0 = true then some 1 else some 0 := by
  unfold f42; rw [if_neg (by simp; omega)]
  rw [jn_eq, f42_L0_eq x _ (by omega) x.length FUEL 0 (by omega) (fuel_lt (by omega))]
  refine congrArg (orK (scan0 x x.length 0)) (funext fun _ => ?_)
  rw [jn_eq, f42_L1_eq x _ (by omega) x.length FUEL 0 (by omega) (fuel_lt (by omega))]
theorem f31_acc (x : List (BitVec 16)) (s : BitVec 16) (hx : x.length ≤ 65536) : f31 x s = some (acc x s) := f31_eq x s hx
theorem f24_eq (x g : List (BitVec 16)) (hx : x.length ≤ 65536) (hg : g.length ≤ 65536) : f24 x g = some (!(x.any fun a => !acc g a)) := by
  unfold f24 f65d f63e
  rw [jn_eq]
  rcases find_up (fun k n => f63e_L0 x (fun l6 => some ((-1 : Int), l6)) k (n, g)) x 0#16 (fun a => !acc g a) (fun m => some ((m : Int), g)) (some ((-1 : Int), g)) (fun k n hn => by
    show f63e_L0 x _ (k + 1) (n, g) = _
    rw [f63e_L0.eq_2, ifd_pos (by omega)]
    unfold f66
    rw [f31_acc _ _ hg, some_bind, some_bind, chk_pos (by omega)]
    dsimp only
    rw [chk_pos (by omega)]) (fun k => by
    show f63e_L0 x _ (k + 1) (x.length, g) = _
    rw [f63e_L0.eq_2, ifd_neg (by omega)]) x.length FUEL 0 (by omega) (fuel_lt (by omega)) with ⟨m, _, _, _, h1, h2⟩ | ⟨h1, h2⟩
  · rw [h1, some_bind, some_bind]
    rw [List.drop_zero] at h2
    rw [h2]; simp
  · rw [h1, some_bind, some_bind]
    rw [List.drop_zero] at h2
    rw [h2]; simp
theorem f43_eq (x : List (BitVec 16)) (hx : x.length ≤ 65536) : f43 x = some (x.foldl (fun w a => w ||| a) 0#16) := by
  unfold f43
  rw [jn_eq]
  refine (fold_up (fun k p => f43_L0 x _ k (p.2, p.1)) x 0#16 (fun _ _ => True) (fun w a => w ||| a) (fun w => some w) (fun k n s hn _ => ?_) (fun _ _ _ _ => trivial) (fun k s _ => ?_) x.length FUEL 0 0#16 (by omega) (fuel_lt (by omega)) trivial).trans rfl
  · show f43_L0 x _ (k + 1) (s, n) = _
    rw [f43_L0.eq_2, ifd_pos (by omega), chk_pos (by omega), chk_pos (by omega)]
  · show f43_L0 x _ (k + 1) (s, x.length) = _
    rw [f43_L0.eq_2, ifd_neg (by omega)]
/-! ### the reference: sorted by insertion -/
theorem strict_get {l : List (BitVec 16)} (h : l.Pairwise fun x y => key x < key y) {i j : Nat} (hij : i < j) (hj : j < l.length) : key (l.getD i 0#16) < key (l.getD j 0#16) := by
  have := List.pairwise_iff_getElem.1 h i j (by omega) hj hij
  have hi : i < l.length := by omega
  simpa [List.getD_eq_getElem?_getD, hi, hj] using this
/-- all in range -/
def rngS (x : List (BitVec 16)) : Bool := x.all fun a => decide (a.toNat < 4096)
theorem any_not_all {α : Type} (p : α → Bool) (x : List α) : (x.any fun a => !p a) = !(x.all p) := by simp [List.any_eq_not_all_not]
theorem f65c_eq (x : List (BitVec 16)) (hx : x.length ≤ 65535) : f65c x = some (!(rngS x)) := by
  unfold f65c f63c
  rw [jn_eq]
  have hp : ∀ a : BitVec 16, f98 a = some (!decide (a.toNat < 4096)) := fun a => by unfold f98; rw [outside_eq]
  rcases find_up (f63c_L0 x fun _ => some (-1)) x 0#16 (fun a => !decide (a.toNat < 4096)) (fun m => some ((m : Nat) : Int)) (some (-1)) (fun k n hn => by
    rw [f63c_L0.eq_2, ifd_pos (by omega), hp, some_bind, chk_pos (by omega), chk_pos (by omega)]) (fun k => by
    rw [f63c_L0.eq_2, ifd_neg (by omega)]) x.length FUEL 0 (by omega) (fuel_lt (by omega)) with ⟨m, _, _, _, h1, h2⟩ | ⟨h1, h2⟩
  · rw [h1, some_bind]
    rw [List.drop_zero, any_not_all] at h2
    unfold rngS
    rw [h2]; simp
  · rw [h1, some_bind]
    rw [List.drop_zero, any_not_all] at h2
    unfold rngS
    rw [h2]; simp
end Go.Abs
namespace Go.Abs
theorem szle (x : BitVec 16) : sz x ≤ 16 := bsum_le x.toNat 16 0
/-- a set is taken if it is accepted and none before it is within it -/
def stepF (p : BitVec 16 → Bool) (out : List (BitVec 16)) (s : BitVec 16) : List (BitVec 16) := if (p s && !acc out s) = true then out ++ [s] else out
def famF (p : BitVec 16 → Bool) (L : List (BitVec 16)) : List (BitVec 16) := L.foldl (stepF p) []
theorem stepF_len (p : BitVec 16 → Bool) (out : List (BitVec 16)) (s : BitVec 16) : out.length ≤ (stepF p out s).length := by
  unfold stepF; split <;> simp
theorem foldF_len (p : BitVec 16 → Bool) : ∀ (L out : List (BitVec 16)), out.length ≤ (L.foldl (stepF p) out).length
  | [], _ => Nat.le_refl _
  | s :: L, out => Nat.le_trans (stepF_len p out s) (foldF_len p L _)
theorem famF_greedy (p : BitVec 16 → Bool) : ∀ (L out : List (BitVec 16)), L.foldl (stepF p) out = (L.filter p).foldl (fun out a => if out.any (fun y => sub y a) then out else out ++ [a]) out
  | [], _ => rfl
  | s :: L, out => by
    rw [List.foldl_cons, famF_greedy p L]
    unfold stepF acc
    cases h : p s with
    | false => rw [List.filter_cons_of_neg (by simp [h])]; simp
    | true =>
      rw [List.filter_cons_of_pos h, List.foldl_cons]
      cases h2 : out.any fun y => sub y s <;> simp
theorem srt_id (l : List (BitVec 16)) (h : l.Pairwise fun x y => key x < key y) : srt l = l := strict_uniq (fun _ _ => key_inj') _ _ (fun a => mem_srt a l) (srt_sorted l) h
theorem famF_eq (p : BitVec 16 → Bool) (L : List (BitVec 16)) (hL : L.Pairwise fun x y => key x < key y) : famF p L = leastP (L.filter p) := by
  unfold famF leastP
  rw [famF_greedy, srt_id _ (filter_strict hL)]
  rfl
/-- sorted, none within another one, in range -/
def okS (l : List (BitVec 16)) : Prop := (l.Pairwise fun x y => key x < key y) ∧ (∀ a, a ∈ l → ∀ b, b ∈ l → sub a b = true → a = b) ∧ ∀ a, a ∈ l → a.toNat < 4096
theorem okS_least (l : List (BitVec 16)) (h : ∀ a, a ∈ l → a.toNat < 4096) : okS (leastP l) := by
  refine ⟨leastP_strict l, fun a ha b hb hab => ?_, fun a ha => h a ((mem_leastP0 l a).1 ha).1⟩
  by_cases e : a = b
  · exact e
  · have := ((mem_leastP0 l b).1 hb).2 a ((mem_leastP0 l a).1 ha).1 e
    rw [this] at hab; cases hab
theorem leastP_id (l : List (BitVec 16)) (h : okS l) : leastP l = l := by
  refine strict_uniq (fun _ _ => key_inj') _ _ (fun a => ?_) (leastP_strict l) h.1
  rw [mem_leastP0]
  refine ⟨fun h => h.1, fun ha => ⟨ha, fun b hb hne => ?_⟩⟩
  cases e : sub b a with
  | false => rfl
  | true => exact absurd (h.2.1 b hb a ha e) hne
theorem sub_lt {u s : BitVec 16} (h : sub u s = true) (hs : s.toNat < 4096) : u.toNat < 4096 := by
  apply Classical.byContradiction
  intro hn
  have hu := u.isLt
  have : ∃ i, 12 ≤ i ∧ i < 16 ∧ u.toNat / 2 ^ i % 2 = 1 := by
    apply Classical.byContradiction
    intro hx
    have h12 : ¬ u.toNat / 2 ^ 12 % 2 = 1 := fun e => hx ⟨12, by omega, by omega, e⟩
    have h13 : ¬ u.toNat / 2 ^ 13 % 2 = 1 := fun e => hx ⟨13, by omega, by omega, e⟩
    have h14 : ¬ u.toNat / 2 ^ 14 % 2 = 1 := fun e => hx ⟨14, by omega, by omega, e⟩
    have h15 : ¬ u.toNat / 2 ^ 15 % 2 = 1 := fun e => hx ⟨15, by omega, by omega, e⟩
    omega
  obtain ⟨i, h1, h2, h3⟩ := this
  have h4 := sub_bits h i h2
  have h5 : s.toNat / 2 ^ i = 0 := Nat.div_eq_of_lt (Nat.lt_of_lt_of_le hs (Nat.pow_le_pow_right (n := 2) (by decide) h1))
  rw [h3, h5] at h4
  omega
theorem okS_fam (p : BitVec 16 → Bool) (U : BitVec 16) (hU : U.toNat < 4096) : okS (famF p (subsB U)) := by
  rw [famF_eq p _ (subsB_sorted U)]
  exact okS_least _ fun a ha => sub_lt (mem_subsB.1 (List.mem_filter.1 ha).1) hU
/-- the body that takes sets, with a bound on their number -/
theorem runG_fam {S : Type} (g : S → BitVec 16 → Nat × S) (p : BitVec 16 → Bool) (outOf : S → List (BitVec 16)) (put : S → List (BitVec 16) → S) (m : Nat)
    (hg : ∀ st x, (stepF p (outOf st) x).length ≤ m → g st x = (0, put st (stepF p (outOf st) x))) (h1 : ∀ st l, outOf (put st l) = l) (h2 : ∀ st l l', put (put st l) l' = put st l') (h3 : ∀ st, put st (outOf st) = st) :
    ∀ (L : List (BitVec 16)) (st : S), (L.foldl (stepF p) (outOf st)).length ≤ m → runG g L st = (0, put st (L.foldl (stepF p) (outOf st)))
  | [], st, _ => by rw [List.foldl_nil, h3]; rfl
  | x :: L, st, h => by
    rw [List.foldl_cons] at h ⊢
    have e := hg st x (Nat.le_trans (foldF_len p L _) h)
    have hz : (g st x).1 = 0 := by rw [e]
    rw [runG_pos hz, e]
    have ih := runG_fam g p outOf put m hg h1 h2 h3 L (put st (stepF p (outOf st) x)) (by rw [h1]; exact h)
    rw [ih, h1, h2]
/-! ### with plain numbers -/
def stepN (p : Nat → Bool) (out : List Nat) (s : Nat) : List Nat := bif p s && !(out.any fun y => Nat.beq (Nat.land y s) y) then out ++ [s] else out
def famN (p : Nat → Bool) (L : List Nat) : List Nat := L.foldl (stepN p) []
theorem sub_land (y x : BitVec 16) : sub y x = Nat.beq (Nat.land y.toNat x.toNat) y.toNat := by
  have hb : ∀ a b : Nat, Nat.beq a b = decide (a = b) := fun a b => by rw [Bool.eq_iff_iff, decide_eq_true_iff, Nat.beq_eq]
  rw [hb, Bool.eq_iff_iff, decide_eq_true_iff]
  constructor
  · intro h
    have e : y &&& x = y := by
      apply BitVec.eq_of_getLsbD_eq
      intro i hi
      rw [BitVec.getLsbD_and]
      cases hy : y.getLsbD i with
      | false => simp
      | true => rw [sub_iff.1 h i hi hy]; rfl
    have := congrArg BitVec.toNat e
    rw [BitVec.toNat_and] at this
    exact this
  · intro h
    have e : y &&& x = y := BitVec.eq_of_toNat_eq (by rw [BitVec.toNat_and]; exact h)
    refine sub_iff.2 fun i hi hy => ?_
    have := congrArg (fun z : BitVec 16 => z.getLsbD i) e
    simp only [BitVec.getLsbD_and] at this
    rw [hy] at this
    simpa using this
theorem any_toNat (out : List (BitVec 16)) (s : BitVec 16) : acc out s = (out.map BitVec.toNat).any fun y => Nat.beq (Nat.land y s.toNat) y := by
  unfold acc
  rw [List.any_map]
  exact congrArg (fun f => List.any out f) (funext fun y => sub_land y s)
theorem famN_fold (p : BitVec 16 → Bool) (q : Nat → Bool) : ∀ (L out : List (BitVec 16)), (∀ s, s ∈ L → q s.toNat = p s) → (L.foldl (stepF p) out).map BitVec.toNat = (L.map BitVec.toNat).foldl (stepN q) (out.map BitVec.toNat)
  | [], _, _ => rfl
  | s :: L, out, h => by
    rw [List.foldl_cons, List.map_cons, List.foldl_cons, famN_fold p q L _ (fun s hs => h s (List.mem_cons_of_mem _ hs))]
    congr 1
    unfold stepF stepN
    rw [h s (List.mem_cons_self ..), ← any_toNat]
    cases p s && !acc out s <;> simp
theorem famN_eq (p : BitVec 16 → Bool) (q : Nat → Bool) (L : List (BitVec 16)) (h : ∀ s, s ∈ L → q s.toNat = p s) : (famF p L).map BitVec.toNat = famN q (L.map BitVec.toNat) := famN_fold p q L [] h
def subsN (u : Nat) : List Nat := (List.range (cntB u 16 + 1)).flatMap (sbs u 16)
theorem subsN_eq (U : BitVec 16) : (subsB U).map BitVec.toNat = subsN U.toNat := by
  have h : ∀ k, ((sbs U.toNat 16 k).map (BitVec.ofNat 16)).map BitVec.toNat = sbs U.toNat 16 k := fun k => by
    rw [List.map_map]
    refine (List.map_congr_left fun u hu => ?_).trans (List.map_id _)
    exact ofNat_toNat16 (mem_sbs.1 hu).1
  unfold subsB subsN chooseB
  rw [cntB_sz, List.map_flatMap]
  simp only [h]
theorem toNat_inj {l m : List (BitVec 16)} (h : l.map BitVec.toNat = m.map BitVec.toNat) : l = m := by
  have := congrArg (List.map (BitVec.ofNat 16)) h
  rw [List.map_map, List.map_map] at this
  have e : (BitVec.ofNat 16 ∘ BitVec.toNat : BitVec 16 → BitVec 16) = id := by funext x; simp
  rw [e, List.map_id, List.map_id] at this
  exact this
theorem fam_of_N (p : BitVec 16 → Bool) (q : Nat → Bool) (U : BitVec 16) (h : ∀ s, sub s U = true → q s.toNat = p s) : famF p (subsB U) = (famN q (subsN U.toNat)).map (BitVec.ofNat 16) := by
  apply toNat_inj
  rw [famN_eq p q _ (fun s hs => h s (mem_subsB.1 hs)), subsN_eq, List.map_map]
  symm
  refine (List.map_congr_left fun u hu => ?_).trans (List.map_id _)
  have : u ∈ (famF p (subsB U)).map BitVec.toNat := by rw [famN_eq p q _ (fun s hs => h s (mem_subsB.1 hs)), subsN_eq]; exact hu
  obtain ⟨w, _, rfl⟩ := List.mem_map.1 this
  exact ofNat_toNat16 w.isLt
/-- meets all sets of a list -/
def hits (x : List (BitVec 16)) (s : BitVec 16) : Bool := x.all fun y => !((y &&& s) == 0#16)
def hitsN (x : List Nat) (s : Nat) : Bool := x.all fun y => !(Nat.beq (Nat.land y s) 0)
theorem hitsN_eq (x : List (BitVec 16)) (s : BitVec 16) : hitsN (x.map BitVec.toNat) s.toNat = hits x s := by
  unfold hitsN hits
  rw [List.all_map]
  congr 1
  funext y
  have : Nat.beq (Nat.land y.toNat s.toNat) 0 = ((y &&& s) == 0#16) := by
    have hb : ∀ a b : Nat, Nat.beq a b = decide (a = b) := fun a b => by rw [Bool.eq_iff_iff, decide_eq_true_iff, Nat.beq_eq]
    rw [hb, Bool.eq_iff_iff, decide_eq_true_iff, beq_iff_eq]
    constructor
    · intro h; exact BitVec.eq_of_toNat_eq (by rw [BitVec.toNat_and]; exact h)
    · intro h; have := congrArg BitVec.toNat h; rw [BitVec.toNat_and] at this; exact this
  simp only [Function.comp, this]
def suppS (x : List (BitVec 16)) : BitVec 16 := x.foldl (fun w a => w ||| a) 0#16
/-- the minimal transversals -/
def dualP (x : List (BitVec 16)) : List (BitVec 16) := famF (hits x) (subsB (suppS x))
theorem supp_lt (x : List (BitVec 16)) : ∀ (w : BitVec 16), w.toNat < 4096 → (∀ a, a ∈ x → a.toNat < 4096) → (x.foldl (fun w a => w ||| a) w).toNat < 4096 := by
  induction x with
  | nil => intro w h _; exact h
  | cons a x ih =>
    intro w h h2
    refine ih _ ?_ fun b hb => h2 b (List.mem_cons_of_mem _ hb)
    rw [BitVec.toNat_or]
    exact Nat.or_lt_two_pow (n := 12) h (h2 a (List.mem_cons_self ..))
end Go.Abs
namespace Go.Abs
/-! ### members -/
def memOK (w : Nat) : Bool :=
  decide (f101 (BitVec.ofNat 16 w) = some ((lowN 12 w : Nat) : Int)) && decide ((BitVec.ofNat 16 w &&& (BitVec.ofNat 16 w - BitVec.ofInt 16 1)).toNat = w - 2 ^ lowN 12 w) && decide (memP w 16 = lowN 12 w :: memP (w - 2 ^ lowN 12 w) 16)
theorem memOK_all : ((List.range 4096).all fun w => w == 0 || memOK w) = true := by kernel_rfl
theorem memOK_of {w : Nat} (h : w < 4096) (h0 : w ≠ 0) : f101 (BitVec.ofNat 16 w) = some ((lowN 12 w : Nat) : Int) ∧ (BitVec.ofNat 16 w &&& (BitVec.ofNat 16 w - BitVec.ofInt 16 1)).toNat = w - 2 ^ lowN 12 w ∧ memP w 16 = lowN 12 w :: memP (w - 2 ^ lowN 12 w) 16 := by
  have := List.all_eq_true.1 memOK_all w (List.mem_range.2 h)
  simp only [Bool.or_eq_true, beq_iff_eq, h0, false_or] at this
  unfold memOK at this
  simp only [Bool.and_eq_true, decide_eq_true_eq] at this
  exact ⟨this.1.1, this.1.2, this.2⟩
theorem f93_L0_eq (K : List Int → Option (List Int)) : ∀ (n : Nat) (w : BitVec 16) (k : Nat) (l : List Int), w.toNat ≤ n → w.toNat < 4096 → n + 1 < k → l.length + n ≤ 100000 →
    f93_L0 K k (w, l) = K (l ++ (memP w.toNat 16).map fun i : Nat => (i : Int)) := by
  intro n
  induction n with
  | zero =>
    intro w k l hw hw2 hk hl
    obtain ⟨k, rfl⟩ : ∃ q, k = q + 1 := ⟨k - 1, by omega⟩
    have e : w = 0#16 := BitVec.eq_of_toNat_eq (by simp; omega)
    subst e
    rw [f93_L0.eq_2, if_neg (by decide)]
    have : memP (0#16).toNat 16 = [] := by decide
    rw [this]; simp
  | succ n ih =>
    intro w k l hw hw2 hk hl
    obtain ⟨k, rfl⟩ : ∃ q, k = q + 1 := ⟨k - 1, by omega⟩
    by_cases h0 : w.toNat = 0
    · have e : w = 0#16 := BitVec.eq_of_toNat_eq (by simp; omega)
      subst e
      rw [f93_L0.eq_2, if_neg (by decide)]
      have : memP (0#16).toNat 16 = [] := by decide
      rw [this]; simp
    · obtain ⟨h1, h2, h3⟩ := memOK_of hw2 h0
      have e : BitVec.ofNat 16 w.toNat = w := by simp
      rw [e] at h1 h2
      have hp : 0 < 2 ^ lowN 12 w.toNat := Nat.pow_pos (by decide)
      have hne : (!(w == (BitVec.ofInt 16 0))) = true := by
        have : w ≠ 0#16 := fun e => h0 (by rw [e]; rfl)
        simpa using this
      rw [f93_L0.eq_2, if_pos hne, h1, some_bind, chk_pos (by omega), ih _ k _ (by rw [h2]; omega) (by rw [h2]; omega) (by omega) (by simp; omega), h2, h3]
      simp
theorem f93_eq (w : BitVec 16) (h : w.toNat < 4096) : f93 w = some ((memP w.toNat 16).map fun i : Nat => (i : Int)) := by
  unfold f93
  rw [jn_eq, f93_L0_eq _ 4096 w FUEL [] (by omega) h (by unfold FUEL; omega) (by simp)]
  simp
/-! ### the numbers with as many bits -/
end Go.Abs
namespace Go.Abs
/-! f73a, f71a -/
theorem f73a_L1_eq (L : List Nat) (i : Nat) (K : BitVec 16 → Option (Bool × Nat × List (BitVec 16) × Int × List (BitVec 16) × BitVec 16)) (hL : L.length ≤ 12) (hi : i < 4096) : ∀ c k n w, n + c = L.length → c < k → f73a_L1 (L.map fun i : Nat => (i : Int)) (i : Int) K k (w, n) = K (wP (L.drop n) (i / 2 ^ n) w)
  | 0, k, n, w, hc, hk => by
    obtain ⟨k, rfl⟩ : ∃ q, k = q + 1 := ⟨k - 1, by omega⟩
    rw [f73a_L1.eq_2, ifd_neg (by rw [mp_len]; omega), List.drop_eq_nil_of_le (by omega)]
    rfl
  | c + 1, k, n, w, hc, hk => by
    obtain ⟨k, rfl⟩ : ∃ q, k = q + 1 := ⟨k - 1, by omega⟩
    have hu : IntKind.bits .u32 = 32 := rfl
    have hlt : i / 2 ^ n < 4096 := Nat.lt_of_le_of_lt (Nat.div_le_self _ _) hi
    rw [f73a_L1.eq_2, ifd_pos (by rw [mp_len]; omega), jn_eq, chk_pos (by rw [mp_len]; omega), chk_pos (by rw [mp_len]; omega), chk_pos (by rw [hu]; omega), mp_get L n (by omega), divc, and1 hlt, getD_drop L n 0 (by omega), wP, Nat.div_div_eq_div_mul, ← Nat.pow_succ, Int.toNat_natCast]
    by_cases hb : i / 2 ^ n % 2 = 1
    · rw [ifd_pos hb, if_pos hb, chk_pos (by omega)]
      dsimp only
      rw [chk_pos (by omega), f73a_L1_eq L i K hL hi c k (n + 1) _ (by omega) (by omega)]
    · rw [ifd_neg hb, if_neg hb]
      dsimp only
      rw [chk_pos (by omega), f73a_L1_eq L i K hL hi c k (n + 1) _ (by omega) (by omega)]
theorem f73a_L0_eq (Y : (List (BitVec 16) × Int × List (BitVec 16) × BitVec 16) → BitVec 16 → Option (Nat × (List (BitVec 16) × Int × List (BitVec 16) × BitVec 16))) (g : (List (BitVec 16) × Int × List (BitVec 16) × BitVec 16) → BitVec 16 → Nat × (List (BitVec 16) × Int × List (BitVec 16) × BitVec 16)) (Inv : (List (BitVec 16) × Int × List (BitVec 16) × BitVec 16) → Prop) (hY : ∀ st x, Inv st → Y st x = some (g st x)) (hI : ∀ st x, Inv st → (g st x).1 = 0 → Inv (g st x).2) (M : List Nat) (hM : M.length ≤ 12) (K1 : (BitVec 16 × Int × List (BitVec 16) × List (BitVec 16) × Nat) → Option (Bool × Nat × List (BitVec 16) × Int × List (BitVec 16) × BitVec 16))
    (t : List Nat) (a k : Nat) (st : (List (BitVec 16) × Int × List (BitVec 16) × BitVec 16)) (hc : chainG M.length a t = true) (hk : t.length + 1 < k) (hi : Inv st) :
    f73a_L0 Y (M.map fun i : Nat => (i : Int)) K1 k ((a : Int), st.2.2.2, st.2.1, st.1, st.2.2.1, 0) = if (runG g ((a :: t).map fun j => wP M j 0#16) st).1 = 0 then (fun st : (List (BitVec 16) × Int × List (BitVec 16) × BitVec 16) => K1 (st.2.2.2, st.2.1, st.1, st.2.2.1, 0)) (runG g ((a :: t).map fun j => wP M j 0#16) st).2 else some (false, runG g ((a :: t).map fun j => wP M j 0#16) st) := by
  refine chs_up (fun k i st => f73a_L0 Y (M.map fun i : Nat => (i : Int)) K1 k (i, st.2.2.2, st.2.1, st.1, st.2.2.1, 0)) g Inv (fun st => K1 (st.2.2.2, st.2.1, st.1, st.2.2.1, 0)) (fun r => some (false, r)) M hI ?_ ?_ t a k st hc hk hi
  · intro k i st hi he
    obtain ⟨p1, p2, p3⟩ := pow12 hM
    have hu : IntKind.bits .u32 = 32 := rfl
    show f73a_L0 Y _ K1 (k + 1) _ = _
    rw [f73a_L0.eq_2, mp_len, chk_pos (by rw [hu]; omega), ifd_neg (by omega)]
  · intro k a st hi ha hg
    obtain ⟨p1, p2, p3⟩ := pow12 hM
    have hu : IntKind.bits .u32 = 32 := rfl
    have ha' : a < 4096 := by have := Nat.pow_le_pow_right (n := 2) (by decide) hM; omega
    show f73a_L0 Y _ K1 (k + 1) _ = _
    rw [f73a_L0.eq_2, mp_len, chk_pos (by rw [hu]; omega), ifd_pos (by omega), jn_eq, f73a_L1_eq M a _ hM ha' M.length FUEL 0 _ (by omega) (fuel_lt (by omega)), jn_eq, chk_pos rfl, show (BitVec.ofInt 16 0) = 0#16 from rfl, List.drop_zero, Nat.pow_zero, Nat.div_one, hY _ _ hi, some_bind]
    by_cases hz : (g st (wP M a 0#16)).1 = 0
    · rw [if_pos hz, if_pos hz, if_neg (by simp)]
      dsimp only
      by_cases h0 : a = 0
      · rw [if_pos (by simp; omega), if_pos h0]
      · rw [if_neg (by simp; omega), if_neg h0]
        have hg := hg.resolve_left h0
        unfold gosC lowB at hg
        simp only [Bool.and_eq_true, decide_eq_true_eq] at hg
        rw [chk_pos hg.1, chk_pos hg.2, chk_pos (by rw [hu]; omega)]
        unfold gosN lowB
        rfl
    · rw [if_neg hz, if_neg hz, if_pos (by simp)]
theorem f73a_eq (Y : (List (BitVec 16) × Int × List (BitVec 16) × BitVec 16) → BitVec 16 → Option (Nat × (List (BitVec 16) × Int × List (BitVec 16) × BitVec 16))) (g : (List (BitVec 16) × Int × List (BitVec 16) × BitVec 16) → BitVec 16 → Nat × (List (BitVec 16) × Int × List (BitVec 16) × BitVec 16)) (Inv : (List (BitVec 16) × Int × List (BitVec 16) × BitVec 16) → Prop) (hY : ∀ st x, Inv st → Y st x = some (g st x)) (hI : ∀ st x, Inv st → (g st x).1 = 0 → Inv (g st x).2) (s : BitVec 16) (hs : s.toNat < 4096) (n : Nat) (hn : n ≤ sz s) (st : (List (BitVec 16) × Int × List (BitVec 16) × BitVec 16)) (hi : Inv st) :
    f73a Y s (n : Int) st.1 st.2.1 st.2.2.1 st.2.2.2 = some (decide ((runG g (chooseB s n) st).1 = 0), runG g (chooseB s n) st) := by
  have hm : (memP s.toNat 16).length = sz s := by rw [memP_len, cntB_sz]
  have hM : (memP s.toNat 16).length ≤ 12 := by
    have h := fun i (h : i ∈ memP s.toNat 16) => (List.mem_filter.1 h)
    have hsub : memP s.toNat 16 = (memP s.toNat 12) := by
      have hb : ∀ i, 12 ≤ i → ¬ s.toNat / 2 ^ i % 2 = 1 := by
        intro i hi
        have : s.toNat / 2 ^ i = 0 := Nat.div_eq_of_lt (Nat.lt_of_lt_of_le hs (Nat.pow_le_pow_right (n := 2) (by decide) hi))
        omega
      rw [memP_succ, memP_succ, memP_succ, memP_succ, if_neg (hb 15 (by omega)), if_neg (hb 14 (by omega)), if_neg (hb 13 (by omega)), if_neg (hb 12 (by omega))]
      simp
    rw [hsub, memP_len]
    exact cntB_le _ _
  obtain ⟨a, t, e1, e2, e3, e4⟩ := gOK_of (hm ▸ hM) hn
  have hu : IntKind.bits .u32 = 32 := rfl
  have hp := (pow12 (m := n) (by omega))
  unfold f73a
  rw [f93_eq s hs, some_bind, if_neg (by rw [List.length_map, hm]; simp; omega), jn_eq, Int.toNat_natCast, chk_pos ⟨by omega, by rw [hu]; omega, by omega, by omega⟩, chk_pos (by omega)]
  have ea : (1 : Int) * 2 ^ n - 1 = (a : Int) := by rw [hp.2.2]; omega
  rw [ea]
  rw [← hm] at e1 e3
  have e5 := wP_choose s n
  rw [← hm, e1] at e5
  refine (f73a_L0_eq Y g Inv hY hI _ hM _ t a FUEL st e3 (fuel_lt (by omega)) hi).trans ?_
  rw [e5]
  by_cases hz : (runG g (chooseB s n) st).1 = 0
  · rw [if_pos hz, decide_eq_true hz]
    show some (true, 0, _) = _
    rw [← hz]
  · rw [if_neg hz, decide_eq_false hz]
theorem f71a_eq (Y : (List (BitVec 16) × Int × List (BitVec 16) × BitVec 16) → BitVec 16 → Option (Nat × (List (BitVec 16) × Int × List (BitVec 16) × BitVec 16))) (g : (List (BitVec 16) × Int × List (BitVec 16) × BitVec 16) → BitVec 16 → Nat × (List (BitVec 16) × Int × List (BitVec 16) × BitVec 16)) (Inv : (List (BitVec 16) × Int × List (BitVec 16) × BitVec 16) → Prop) (hY : ∀ st x, Inv st → Y st x = some (g st x)) (hI : ∀ st x, Inv st → (g st x).1 = 0 → Inv (g st x).2) (s : BitVec 16) (hs : s.toNat < 4096) (hw : ∀ st, Inv st → st.2.2.2 = s) (st : (List (BitVec 16) × Int × List (BitVec 16) × BitVec 16)) (hi : Inv st) :
    f71a Y st.1 st.2.1 st.2.2.1 st.2.2.2 = some (runG g (subsB s) st) := by
  unfold f71a
  rw [subsB_range]
  refine subs_up (fun k n st => f71a_L0 Y k (n, st.2.2.2, st.2.1, st.1, st.2.2.1, 0)) g Inv some s hI ?_ ?_ (sz s + 1) FUEL 0 st (by omega) (fuel_lt (by have := szle s; omega)) hi
  · intro k st hi
    have hst := hw st hi
    show f71a_L0 Y (k + 1) _ = _
    rw [f71a_L0.eq_2, chk_pos rfl, hst, f72_eq, some_bind, ifd_neg (by omega)]
    rw [← hst]
  · intro k n st hi hn
    have hst := hw st hi
    show f71a_L0 Y (k + 1) _ = _
    rw [f71a_L0.eq_2, chk_pos rfl, hst, f72_eq, some_bind, ifd_pos (by omega)]
    have e := f73a_eq Y g Inv hY hI s hs n hn st hi
    rw [hst] at e
    rw [e, some_bind]
    have hb := szle s
    by_cases hz : (runG g (chooseB s n) st).1 = 0
    · rw [if_pos hz, if_pos (decide_eq_true hz), chk_pos (by omega)]
      show f71a_L0 Y k _ = f71a_L0 Y k _
      rw [hz]
    · rw [if_neg hz, if_neg (by simp [hz])]

/-! f73, f71 -/
theorem f73_L1_eq (L : List Nat) (i : Nat) (K : BitVec 16 → Option (Bool × Nat × (List (Int × Int × Int × List Int × List Int)) × Int × Int × List (BitVec 16) × BitVec 16)) (hL : L.length ≤ 12) (hi : i < 4096) : ∀ c k n w, n + c = L.length → c < k → f73_L1 (L.map fun i : Nat => (i : Int)) (i : Int) K k (w, n) = K (wP (L.drop n) (i / 2 ^ n) w)
  | 0, k, n, w, hc, hk => by
    obtain ⟨k, rfl⟩ : ∃ q, k = q + 1 := ⟨k - 1, by omega⟩
    rw [f73_L1.eq_2, ifd_neg (by rw [mp_len]; omega), List.drop_eq_nil_of_le (by omega)]
    rfl
  | c + 1, k, n, w, hc, hk => by
    obtain ⟨k, rfl⟩ : ∃ q, k = q + 1 := ⟨k - 1, by omega⟩
    have hu : IntKind.bits .u32 = 32 := rfl
    have hlt : i / 2 ^ n < 4096 := Nat.lt_of_le_of_lt (Nat.div_le_self _ _) hi
    rw [f73_L1.eq_2, ifd_pos (by rw [mp_len]; omega), jn_eq, chk_pos (by rw [mp_len]; omega), chk_pos (by rw [mp_len]; omega), chk_pos (by rw [hu]; omega), mp_get L n (by omega), divc, and1 hlt, getD_drop L n 0 (by omega), wP, Nat.div_div_eq_div_mul, ← Nat.pow_succ, Int.toNat_natCast]
    by_cases hb : i / 2 ^ n % 2 = 1
    · rw [ifd_pos hb, if_pos hb, chk_pos (by omega)]
      dsimp only
      rw [chk_pos (by omega), f73_L1_eq L i K hL hi c k (n + 1) _ (by omega) (by omega)]
    · rw [ifd_neg hb, if_neg hb]
      dsimp only
      rw [chk_pos (by omega), f73_L1_eq L i K hL hi c k (n + 1) _ (by omega) (by omega)]
theorem f73_L0_eq (Y : ((List (Int × Int × Int × List Int × List Int)) × Int × Int × List (BitVec 16) × BitVec 16) → BitVec 16 → Option (Nat × ((List (Int × Int × Int × List Int × List Int)) × Int × Int × List (BitVec 16) × BitVec 16))) (g : ((List (Int × Int × Int × List Int × List Int)) × Int × Int × List (BitVec 16) × BitVec 16) → BitVec 16 → Nat × ((List (Int × Int × Int × List Int × List Int)) × Int × Int × List (BitVec 16) × BitVec 16)) (Inv : ((List (Int × Int × Int × List Int × List Int)) × Int × Int × List (BitVec 16) × BitVec 16) → Prop) (hY : ∀ st x, Inv st → Y st x = some (g st x)) (hI : ∀ st x, Inv st → (g st x).1 = 0 → Inv (g st x).2) (M : List Nat) (hM : M.length ≤ 12) (K1 : (BitVec 16 × Int × (List (Int × Int × Int × List Int × List Int)) × Int × List (BitVec 16) × Nat) → Option (Bool × Nat × (List (Int × Int × Int × List Int × List Int)) × Int × Int × List (BitVec 16) × BitVec 16))
    (t : List Nat) (a k : Nat) (st : ((List (Int × Int × Int × List Int × List Int)) × Int × Int × List (BitVec 16) × BitVec 16)) (hc : chainG M.length a t = true) (hk : t.length + 1 < k) (hi : Inv st) :
    f73_L0 Y (M.map fun i : Nat => (i : Int)) K1 k ((a : Int), st.2.2.2.2, st.2.2.1, st.1, st.2.1, st.2.2.2.1, 0) = if (runG g ((a :: t).map fun j => wP M j 0#16) st).1 = 0 then (fun st : ((List (Int × Int × Int × List Int × List Int)) × Int × Int × List (BitVec 16) × BitVec 16) => K1 (st.2.2.2.2, st.2.2.1, st.1, st.2.1, st.2.2.2.1, 0)) (runG g ((a :: t).map fun j => wP M j 0#16) st).2 else some (false, runG g ((a :: t).map fun j => wP M j 0#16) st) := by
  refine chs_up (fun k i st => f73_L0 Y (M.map fun i : Nat => (i : Int)) K1 k (i, st.2.2.2.2, st.2.2.1, st.1, st.2.1, st.2.2.2.1, 0)) g Inv (fun st => K1 (st.2.2.2.2, st.2.2.1, st.1, st.2.1, st.2.2.2.1, 0)) (fun r => some (false, r)) M hI ?_ ?_ t a k st hc hk hi
  · intro k i st hi he
    obtain ⟨p1, p2, p3⟩ := pow12 hM
    have hu : IntKind.bits .u32 = 32 := rfl
    show f73_L0 Y _ K1 (k + 1) _ = _
    rw [f73_L0.eq_2, mp_len, chk_pos (by rw [hu]; omega), ifd_neg (by omega)]
  · intro k a st hi ha hg
    obtain ⟨p1, p2, p3⟩ := pow12 hM
    have hu : IntKind.bits .u32 = 32 := rfl
    have ha' : a < 4096 := by have := Nat.pow_le_pow_right (n := 2) (by decide) hM; omega
    show f73_L0 Y _ K1 (k + 1) _ = _
    rw [f73_L0.eq_2, mp_len, chk_pos (by rw [hu]; omega), ifd_pos (by omega), jn_eq, f73_L1_eq M a _ hM ha' M.length FUEL 0 _ (by omega) (fuel_lt (by omega)), jn_eq, chk_pos rfl, show (BitVec.ofInt 16 0) = 0#16 from rfl, List.drop_zero, Nat.pow_zero, Nat.div_one, hY _ _ hi, some_bind]
    by_cases hz : (g st (wP M a 0#16)).1 = 0
    · rw [if_pos hz, if_pos hz, if_neg (by simp)]
      dsimp only
      by_cases h0 : a = 0
      · rw [if_pos (by simp; omega), if_pos h0]
      · rw [if_neg (by simp; omega), if_neg h0]
        have hg := hg.resolve_left h0
        unfold gosC lowB at hg
        simp only [Bool.and_eq_true, decide_eq_true_eq] at hg
        rw [chk_pos hg.1, chk_pos hg.2, chk_pos (by rw [hu]; omega)]
        unfold gosN lowB
        rfl
    · rw [if_neg hz, if_neg hz, if_pos (by simp)]
theorem f73_eq (Y : ((List (Int × Int × Int × List Int × List Int)) × Int × Int × List (BitVec 16) × BitVec 16) → BitVec 16 → Option (Nat × ((List (Int × Int × Int × List Int × List Int)) × Int × Int × List (BitVec 16) × BitVec 16))) (g : ((List (Int × Int × Int × List Int × List Int)) × Int × Int × List (BitVec 16) × BitVec 16) → BitVec 16 → Nat × ((List (Int × Int × Int × List Int × List Int)) × Int × Int × List (BitVec 16) × BitVec 16)) (Inv : ((List (Int × Int × Int × List Int × List Int)) × Int × Int × List (BitVec 16) × BitVec 16) → Prop) (hY : ∀ st x, Inv st → Y st x = some (g st x)) (hI : ∀ st x, Inv st → (g st x).1 = 0 → Inv (g st x).2) (s : BitVec 16) (hs : s.toNat < 4096) (n : Nat) (hn : n ≤ sz s) (st : ((List (Int × Int × Int × List Int × List Int)) × Int × Int × List (BitVec 16) × BitVec 16)) (hi : Inv st) :
    f73 Y s (n : Int) st.1 st.2.1 st.2.2.1 st.2.2.2.1 st.2.2.2.2 = some (decide ((runG g (chooseB s n) st).1 = 0), runG g (chooseB s n) st) := by
  have hm : (memP s.toNat 16).length = sz s := by rw [memP_len, cntB_sz]
  have hM : (memP s.toNat 16).length ≤ 12 := by
    have h := fun i (h : i ∈ memP s.toNat 16) => (List.mem_filter.1 h)
    have hsub : memP s.toNat 16 = (memP s.toNat 12) := by
      have hb : ∀ i, 12 ≤ i → ¬ s.toNat / 2 ^ i % 2 = 1 := by
        intro i hi
        have : s.toNat / 2 ^ i = 0 := Nat.div_eq_of_lt (Nat.lt_of_lt_of_le hs (Nat.pow_le_pow_right (n := 2) (by decide) hi))
        omega
      rw [memP_succ, memP_succ, memP_succ, memP_succ, if_neg (hb 15 (by omega)), if_neg (hb 14 (by omega)), if_neg (hb 13 (by omega)), if_neg (hb 12 (by omega))]
      simp
    rw [hsub, memP_len]
    exact cntB_le _ _
  obtain ⟨a, t, e1, e2, e3, e4⟩ := gOK_of (hm ▸ hM) hn
  have hu : IntKind.bits .u32 = 32 := rfl
  have hp := (pow12 (m := n) (by omega))
  unfold f73
  rw [f93_eq s hs, some_bind, if_neg (by rw [List.length_map, hm]; simp; omega), jn_eq, Int.toNat_natCast, chk_pos ⟨by omega, by rw [hu]; omega, by omega, by omega⟩, chk_pos (by omega)]
  have ea : (1 : Int) * 2 ^ n - 1 = (a : Int) := by rw [hp.2.2]; omega
  rw [ea]
  rw [← hm] at e1 e3
  have e5 := wP_choose s n
  rw [← hm, e1] at e5
  refine (f73_L0_eq Y g Inv hY hI _ hM _ t a FUEL st e3 (fuel_lt (by omega)) hi).trans ?_
  rw [e5]
  by_cases hz : (runG g (chooseB s n) st).1 = 0
  · rw [if_pos hz, decide_eq_true hz]
    show some (true, 0, _) = _
    rw [← hz]
  · rw [if_neg hz, decide_eq_false hz]
theorem f71_eq (Y : ((List (Int × Int × Int × List Int × List Int)) × Int × Int × List (BitVec 16) × BitVec 16) → BitVec 16 → Option (Nat × ((List (Int × Int × Int × List Int × List Int)) × Int × Int × List (BitVec 16) × BitVec 16))) (g : ((List (Int × Int × Int × List Int × List Int)) × Int × Int × List (BitVec 16) × BitVec 16) → BitVec 16 → Nat × ((List (Int × Int × Int × List Int × List Int)) × Int × Int × List (BitVec 16) × BitVec 16)) (Inv : ((List (Int × Int × Int × List Int × List Int)) × Int × Int × List (BitVec 16) × BitVec 16) → Prop) (hY : ∀ st x, Inv st → Y st x = some (g st x)) (hI : ∀ st x, Inv st → (g st x).1 = 0 → Inv (g st x).2) (s : BitVec 16) (hs : s.toNat < 4096) (hw : ∀ st, Inv st → st.2.2.2.2 = s) (st : ((List (Int × Int × Int × List Int × List Int)) × Int × Int × List (BitVec 16) × BitVec 16)) (hi : Inv st) :
    f71 Y st.1 st.2.1 st.2.2.1 st.2.2.2.1 st.2.2.2.2 = some (runG g (subsB s) st) := by
  unfold f71
  rw [subsB_range]
  refine subs_up (fun k n st => f71_L0 Y k (n, st.2.2.2.2, st.2.2.1, st.1, st.2.1, st.2.2.2.1, 0)) g Inv some s hI ?_ ?_ (sz s + 1) FUEL 0 st (by omega) (fuel_lt (by have := szle s; omega)) hi
  · intro k st hi
    have hst := hw st hi
    show f71_L0 Y (k + 1) _ = _
    rw [f71_L0.eq_2, chk_pos rfl, hst, f72_eq, some_bind, ifd_neg (by omega)]
    rw [← hst]
  · intro k n st hi hn
    have hst := hw st hi
    show f71_L0 Y (k + 1) _ = _
    rw [f71_L0.eq_2, chk_pos rfl, hst, f72_eq, some_bind, ifd_pos (by omega)]
    have e := f73_eq Y g Inv hY hI s hs n hn st hi
    rw [hst] at e
    rw [e, some_bind]
    have hb := szle s
    by_cases hz : (runG g (chooseB s n) st).1 = 0
    · rw [if_pos hz, if_pos (decide_eq_true hz), chk_pos (by omega)]
      show f71_L0 Y k _ = f71_L0 Y k _
      rw [hz]
    · rw [if_neg hz, if_neg (by simp [hz])]

end Go.Abs
namespace Go.Abs
/-- the servers of a set -/
def mems (x : BitVec 16) : List Nat := (List.range 16).filter fun i => decide (x.toNat / 2 ^ i % 2 = 1)
theorem bit_eq (x : BitVec 16) (n : Nat) : (((x >>> n) &&& (BitVec.ofInt 16 1)) == (BitVec.ofInt 16 1)) = decide (x.toNat / 2 ^ n % 2 = 1) := by
  have h := bit_toNat x n
  rw [Bool.eq_iff_iff, beq_iff_eq, decide_eq_true_eq, ← h]
  constructor
  · intro e; rw [e]; rfl
  · intro e; exact BitVec.eq_of_toNat_eq e
theorem f88_eq (x : BitVec 16) (n : Nat) (h : n < 16) : f88 x (n : Int) = some (decide (x.toNat / 2 ^ n % 2 = 1)) := by
  unfold f88
  rw [chk_pos (by intro; omega), Int.toNat_natCast, bit_eq]
  have h1 : (decide ((n : Int) ≥ 0)) = true := by simp
  have h2 : (decide ((n : Int) < 16)) = true := by simp; omega
  rw [h1, h2]
  rfl
theorem f54_L0_eq (x : BitVec 16) (K : List Int → Option (List Int)) : ∀ (c k n : Nat) (l : List Int), n + c = 16 → c < k → l.length ≤ n →
    f54_L0 x K k (n, l) = K (l ++ ((List.range' n c).filter fun i => decide (x.toNat / 2 ^ i % 2 = 1)).map fun i : Nat => (i : Int))
  | 0, k, n, l, hn, hk, hl => by
    obtain ⟨k, rfl⟩ : ∃ q, k = q + 1 := ⟨k - 1, by omega⟩
    rw [f54_L0.eq_2, if_neg (by simp; omega)]
    simp
  | c + 1, k, n, l, hn, hk, hl => by
    obtain ⟨k, rfl⟩ : ∃ q, k = q + 1 := ⟨k - 1, by omega⟩
    rw [f54_L0.eq_2, if_pos (by simp; omega), jn_eq, f88_eq x n (by omega), some_bind, List.range'_succ, List.filter_cons]
    by_cases hb : x.toNat / 2 ^ n % 2 = 1
    · rw [if_pos (decide_eq_true hb), chk_pos (by omega), if_pos (decide_eq_true hb)]
      dsimp only
      rw [chk_pos (by omega), f54_L0_eq x K c k (n + 1) _ (by omega) (by omega) (by simp; omega)]
      simp
    · rw [if_neg (by simpa using hb), if_neg (by simpa using hb)]
      dsimp only
      rw [chk_pos (by omega), f54_L0_eq x K c k (n + 1) _ (by omega) (by omega) (by omega)]
theorem f54_eq (x : BitVec 16) : f54 x = some ((mems x).map fun i : Nat => (i : Int)) := by
  unfold f54
  rw [jn_eq, f54_L0_eq x _ 16 FUEL 0 [] rfl (by unfold FUEL; omega) (Nat.zero_le _), List.nil_append, mems, List.range_eq_range']
theorem mems_bsum (x : Nat) : ∀ c n, ((List.range' n c).filter fun i => decide (x / 2 ^ i % 2 = 1)).length = bsum x n c
  | 0, n => rfl
  | c + 1, n => by
    rw [List.range'_succ, List.filter_cons, bsum]
    have hb : x / 2 ^ n % 2 < 2 := Nat.mod_lt _ (by decide)
    split <;> rename_i h
    · have h : x / 2 ^ n % 2 = 1 := by simpa using h
      rw [List.length_cons, mems_bsum x c (n + 1), h]; omega
    · have h : ¬ x / 2 ^ n % 2 = 1 := by simpa using h
      rw [mems_bsum x c (n + 1)]; omega
theorem mems_len (x : BitVec 16) : (mems x).length = sz x := by
  unfold mems
  rw [List.range_eq_range', mems_bsum]
  rfl
theorem f17_eq (x : BitVec 16) : f17 x = some (sz x : Int) := by
  unfold f17
  rw [f54_eq, some_bind, List.length_map, mems_len]
end Go.Abs
namespace Go.Abs
/-! ### lists that are in order -/
theorem getD_memS {l : List (BitVec 16)} {n : Nat} (h : n < l.length) : l.getD n 0#16 ∈ l := by
  rw [List.getD_eq_getElem?_getD, List.getElem?_eq_getElem h]; exact List.getElem_mem h
theorem scan0_ok (x : List (BitVec 16)) (h : okS x) : ∀ (c n : Nat), n + c = x.length → scan0 x c n = none
  | 0, _, _ => rfl
  | c + 1, n, hn => by
    have h1 := h.2.2 _ (getD_memS (l := x) (n := n) (by omega))
    rw [scan0, if_pos h1, scan0_ok x h c (n + 1) (by omega), if_neg]
    intro e
    simp only [Bool.and_eq_true, decide_eq_true_eq, Bool.not_eq_true'] at e
    have := ltS_key.2 (strict_get h.1 (i := n - 1) (j := n) (by omega) (by omega))
    rw [this] at e; exact absurd e.2 (by simp)
theorem f42_ok0 (x : List (BitVec 16)) (h : okS x) (hl : x.length ≤ 400) : f42 x = some 0 := by
  rw [f42_val x hl, scan0_ok x h _ 0 (by omega)]
  show (if bad1 x x.length 0 = true then some 1 else some 0) = some (0 : Int)
  rw [if_neg]
  intro e
  obtain ⟨m, j, _, hm, hj, hs⟩ := (bad1_iff x x.length 0 (by omega)).1 e
  have e1 := h.2.1 _ (getD_memS (l := x) (n := j) (by omega)) _ (getD_memS hm) hs
  have e2 := strict_get h.1 hj hm
  rw [e1] at e2; omega
theorem rngS_ok (x : List (BitVec 16)) (h : ∀ a, a ∈ x → a.toNat < 4096) : rngS x = true := by
  unfold rngS
  rw [List.all_eq_true]
  intro a ha
  exact decide_eq_true (h a ha)
theorem f53_eq (x : List (BitVec 16)) (hx : x.length ≤ 65535) (h : ∀ a, a ∈ x → a.toNat < 4096) (hl : (leastP x).length ≤ 400) : f53 x = some (0, leastP x) := by
  unfold f53 f86
  rw [f65c_eq x hx, rngS_ok x h, some_bind]
  show (((f87 x).bind fun r3 => _).bind fun r2 => _) = _
  rw [f87_eq x (by omega), some_bind]
  unfold f99
  rw [ifd_neg (by omega), some_bind, some_bind]
/-! ### sets that meet all sets -/
theorem f65b_eq (x : List (BitVec 16)) (s : BitVec 16) (hx : x.length ≤ 65536) : f65b x s = some (x.any (fun y => (y &&& s) == 0#16), s) := by
  unfold f65b f63b
  rw [jn_eq]
  rcases find_up (fun k n => f63b_L0 x (fun w6 => some ((-1 : Int), w6)) k (n, s)) x 0#16 (fun y => (y &&& s) == 0#16) (fun m => some ((m : Int), s)) (some ((-1 : Int), s)) (fun k n hn => by
    show f63b_L0 x _ (k + 1) (n, s) = _
    rw [f63b_L0.eq_2, ifd_pos (by omega)]
    unfold f81
    rw [some_bind, chk_pos (by omega)]
    dsimp only
    rw [chk_pos (by omega)]
    rfl) (fun k => by
    show f63b_L0 x _ (k + 1) (x.length, s) = _
    rw [f63b_L0.eq_2, ifd_neg (by omega)]) x.length FUEL 0 (by omega) (fuel_lt (by omega)) with ⟨m, _, _, _, h1, h2⟩ | ⟨h1, h2⟩
  · rw [h1, some_bind]
    rw [List.drop_zero] at h2
    rw [h2]; simp
  · rw [h1, some_bind]
    rw [List.drop_zero] at h2
    rw [h2]; simp
theorem f44_eq (x : List (BitVec 16)) (s : BitVec 16) (hx : x.length ≤ 65536) : f44 x s = some (hits x s) := by
  unfold f44 hits
  rw [f65b_eq x s hx, some_bind]
  simp [List.any_eq_not_all_not]
theorem f52_eq (x g : List (BitVec 16)) (hx : x.length ≤ 65536) (hg : g.length ≤ 65536) : f52 x g = some (x.all fun a => hits g a) := by
  unfold f52 f65a f63a
  rw [jn_eq]
  rcases find_up (fun k n => f63a_L0 x (fun l6 => some ((-1 : Int), l6)) k (n, g)) x 0#16 (fun a => !hits g a) (fun m => some ((m : Int), g)) (some ((-1 : Int), g)) (fun k n hn => by
    show f63a_L0 x _ (k + 1) (n, g) = _
    rw [f63a_L0.eq_2, ifd_pos (by omega)]
    unfold f85
    rw [f44_eq _ _ hg, some_bind, some_bind, chk_pos (by omega)]
    dsimp only
    rw [chk_pos (by omega)]) (fun k => by
    show f63a_L0 x _ (k + 1) (x.length, g) = _
    rw [f63a_L0.eq_2, ifd_neg (by omega)]) x.length FUEL 0 (by omega) (fuel_lt (by omega)) with ⟨m, _, _, _, h1, h2⟩ | ⟨h1, h2⟩
  · rw [h1, some_bind, some_bind]
    rw [List.drop_zero, any_not_all] at h2
    simp at h2 ⊢
    exact h2
  · rw [h1, some_bind, some_bind]
    rw [List.drop_zero, any_not_all] at h2
    simp at h2 ⊢
    exact h2
/-! ### Dual -/
abbrev S12 := List (BitVec 16) × Int × List (BitVec 16) × BitVec 16
def g12 (x : List (BitVec 16)) (st : S12) (s : BitVec 16) : Nat × S12 :=
  if (hits x s && !acc st.2.2.1 s) = true then (if st.2.2.1.length + 1 > 400 then (2, (st.1, 3, st.2.2.1 ++ [s], st.2.2.2)) else (0, (st.1, st.2.1, st.2.2.1 ++ [s], st.2.2.2))) else (0, st)
def I12 (x : List (BitVec 16)) (U : BitVec 16) (st : S12) : Prop := st.1 = x ∧ st.2.2.1.length ≤ 400 ∧ st.2.2.2 = U
theorem y12_eq (x : List (BitVec 16)) (U : BitVec 16) (hx : x.length ≤ 65536) (st : S12) (s : BitVec 16) (hi : I12 x U st) : f12_Y70002 st s = some (g12 x st s) := by
  obtain ⟨l7, i6, l8, w5⟩ := st
  obtain ⟨h1, h2, h3⟩ := hi
  dsimp only at h1 h2 h3
  subst h1
  show (f31 l8 s).bind _ = _
  unfold g12
  dsimp only
  rw [f31_acc l8 s (by omega), some_bind]
  cases ha : acc l8 s with
  | true => simp [optc]
  | false =>
    rw [show ((!false) == true) = true from rfl, optc_t, f44_eq l7 s hx, some_bind]
    cases hh : hits l7 s with
    | false => simp
    | true =>
      simp only [Bool.not_false, Bool.and_self, if_true]
      rw [chk_pos (by omega)]
      by_cases hl : l8.length + 1 > 400
      · rw [if_pos hl, ifd_pos (by simp; omega)]
      · rw [if_neg hl, ifd_neg (by simp; omega)]
theorem i12_keep (x : List (BitVec 16)) (U : BitVec 16) (st : S12) (s : BitVec 16) (hi : I12 x U st) (hz : (g12 x st s).1 = 0) : I12 x U (g12 x st s).2 := by
  obtain ⟨h1, h2, h3⟩ := hi
  unfold g12 at hz ⊢
  by_cases hc : (hits x s && !acc st.2.2.1 s) = true
  · rw [if_pos hc] at hz ⊢
    by_cases hl : st.2.2.1.length + 1 > 400
    · rw [if_pos hl] at hz; cases hz
    · rw [if_neg hl]; exact ⟨h1, by simp; omega, h3⟩
  · rw [if_neg hc]; exact ⟨h1, h2, h3⟩
theorem f12_eq (x : List (BitVec 16)) (h : okS x) (hl : x.length ≤ 400) (hd : (dualP x).length ≤ 400) : f12 x = some (0, dualP x) := by
  have hU : (suppS x).toNat < 4096 := supp_lt x 0#16 (by decide) h.2.2
  have hi : I12 x (suppS x) (x, 0, [], suppS x) := ⟨rfl, by simp, rfl⟩
  have e := f71a_eq f12_Y70002 (g12 x) (I12 x (suppS x)) (fun st s hi => y12_eq x _ (by omega) st s hi) (fun st s hi hz => i12_keep x _ st s hi hz) (suppS x) hU (fun st hi => hi.2.2) (x, 0, [], suppS x) hi
  have r : runG (g12 x) (subsB (suppS x)) (x, 0, [], suppS x) = (0, (x, 0, dualP x, suppS x)) := by
    unfold dualP famF at hd ⊢
    generalize subsB (suppS x) = L at hd ⊢
    exact runG_fam (g12 x) (hits x) (fun st : S12 => st.2.2.1) (fun st l => (st.1, st.2.1, l, st.2.2.2)) 400 (fun st s hs => by
      unfold g12
      unfold stepF at hs ⊢
      by_cases hc : (hits x s && !acc st.2.2.1 s) = true
      · rw [if_pos hc] at hs ⊢
        rw [if_pos hc, if_neg (by simp at hs; omega)]
      · rw [if_neg hc, if_neg hc]) (fun _ _ => rfl) (fun _ _ _ => rfl) (fun _ => rfl) L (x, 0, [], suppS x) hd
  unfold f12
  rw [f42_ok0 x h hl, some_bind, if_neg (by simp), f43_eq x (by omega), some_bind, show List.foldl (fun w a => w ||| a) 0#16 x = suppS x from rfl]
  unfold f28
  rw [some_bind]
  rw [r] at e
  dsimp only at e
  rw [e, some_bind]
  dsimp only
  rw [chk_pos (by simp), if_pos rfl]
/-! ### Equal, Contains, Coterie -/
theorem f56_L0_eq (x y : List (BitVec 16)) (K : Unit → Option Bool) (hx : x.length ≤ 65536) (hxy : x.length = y.length) : ∀ c k n, n + c = x.length → c < k → f56_L0 x y K k n = if x.drop n = y.drop n then K () else some false
  | 0, k, n, hn, hk => by
    obtain ⟨k, rfl⟩ : ∃ q, k = q + 1 := ⟨k - 1, by omega⟩
    rw [f56_L0.eq_2, ifd_neg (by omega), List.drop_eq_nil_of_le (by omega), List.drop_eq_nil_of_le (by omega), if_pos rfl]
  | c + 1, k, n, hn, hk => by
    obtain ⟨k, rfl⟩ : ∃ q, k = q + 1 := ⟨k - 1, by omega⟩
    rw [f56_L0.eq_2, ifd_pos (by omega), chk_pos (by omega), chk_pos (by omega), getD_drop x n 0#16 (by omega), getD_drop y n 0#16 (by omega)]
    by_cases h : x.getD n 0#16 = y.getD n 0#16
    · rw [if_neg (by rw [h]; simp), chk_pos (by omega), f56_L0_eq x y K hx hxy c k (n + 1) (by omega) (by omega), h]
      simp only [List.cons.injEq, true_and]
    · rw [if_pos (by simpa using h), if_neg (by simp only [List.cons.injEq]; exact fun e => h e.1)]
theorem f56_eq (x y : List (BitVec 16)) (hx : x.length ≤ 65536) : f56 x y = some (decide (x = y)) := by
  unfold f56
  by_cases h : x.length = y.length
  · rw [if_neg (by simp [h]), jn_eq, f56_L0_eq x y _ hx h x.length FUEL 0 (by omega) (fuel_lt (by omega)), List.drop_zero, List.drop_zero]
    by_cases e : x = y <;> simp [e]
  · rw [if_pos (by simp; omega), decide_eq_false (fun e => h (by rw [e]))]
theorem f14_L0_eq (x y : List (BitVec 16)) (K : Unit → Option Bool) (hx : x.length ≤ 65536) (hxy : x.length = y.length) : ∀ c k n, n + c = x.length → c < k → f14_L0 x y K k n = if x.drop n = y.drop n then K () else some false
  | 0, k, n, hn, hk => by
    obtain ⟨k, rfl⟩ : ∃ q, k = q + 1 := ⟨k - 1, by omega⟩
    rw [f14_L0.eq_2, ifd_neg (by omega), List.drop_eq_nil_of_le (by omega), List.drop_eq_nil_of_le (by omega), if_pos rfl]
  | c + 1, k, n, hn, hk => by
    obtain ⟨k, rfl⟩ : ∃ q, k = q + 1 := ⟨k - 1, by omega⟩
    rw [f14_L0.eq_2, ifd_pos (by omega), chk_pos (by omega), chk_pos (by omega), getD_drop x n 0#16 (by omega), getD_drop y n 0#16 (by omega)]
    by_cases h : x.getD n 0#16 = y.getD n 0#16
    · rw [if_neg (by rw [h]; simp), chk_pos (by omega), f14_L0_eq x y K hx hxy c k (n + 1) (by omega) (by omega), h]
      simp only [List.cons.injEq, true_and]
    · rw [if_pos (by simpa using h), if_neg (by simp only [List.cons.injEq]; exact fun e => h e.1)]
theorem f14_eq (x y : List (BitVec 16)) (hx : x.length ≤ 65536) : f14 x y = some (decide (x = y)) := by
  unfold f14
  by_cases h : x.length = y.length
  · rw [if_neg (by simp [h]), jn_eq, f14_L0_eq x y _ hx h x.length FUEL 0 (by omega) (fuel_lt (by omega)), List.drop_zero, List.drop_zero]
    by_cases e : x = y <;> simp [e]
  · rw [if_pos (by simp; omega), decide_eq_false (fun e => h (by rw [e]))]
theorem f51_eq (x : List (BitVec 16)) (s : BitVec 16) (hx : x.length ≤ 65536) : f51 x s = some (decide (s ∈ x)) := by
  have hany : (x.any fun y => s == y) = decide (s ∈ x) := by
    rw [Bool.eq_iff_iff, List.any_eq_true, decide_eq_true_iff]
    constructor
    · rintro ⟨y, hy, e⟩; rw [beq_iff_eq] at e; rw [e]; exact hy
    · intro h; exact ⟨s, h, by simp⟩
  unfold f51 f84
  rw [jn_eq]
  rcases find_up (fun k n => f84_L0 x s (fun _ => some (-1 : Int)) k n) x 0#16 (fun y => s == y) (fun m => some (m : Int)) (some (-1 : Int)) (fun k n hn => by
    show f84_L0 x s _ (k + 1) n = _
    rw [f84_L0.eq_2, ifd_pos (by omega), chk_pos (by omega), chk_pos (by omega)]) (fun k => by
    show f84_L0 x s _ (k + 1) x.length = _
    rw [f84_L0.eq_2, ifd_neg (by omega)]) x.length FUEL 0 (by omega) (fuel_lt (by omega)) with ⟨m, _, _, _, h1, h2⟩ | ⟨h1, h2⟩
  · rw [h1, some_bind]
    rw [List.drop_zero, hany] at h2
    rw [h2]; simp
  · rw [h1, some_bind]
    rw [List.drop_zero, hany] at h2
    rw [h2]; simp
/-- is a list in order a coterie? -/
def cotB (x : List (BitVec 16)) : Bool := !(x.isEmpty) && !(decide (0#16 ∈ x)) && x.all fun a => hits x a
theorem f16_eq (x : List (BitVec 16)) (h : okS x) (hl : x.length ≤ 400) : f16 x = some (cotB x) := by
  unfold f16
  rw [f42_ok0 x h hl, some_bind]
  unfold cotB
  cases x with
  | nil => simp [optc]
  | cons a t =>
    rw [show ((((0 : Int) != (0 : Int)) || ((((a :: t).length : Nat) : Int) == (0 : Int))) == false) = true by simp; omega, optc_t, f51_eq _ _ (by omega), some_bind]
    rw [show (BitVec.ofInt 16 0) = 0#16 from rfl]
    have e0 : (((0 : Int) != (0 : Int)) || ((((a :: t).length : Nat) : Int) == (0 : Int))) = false := by simp; omega
    cases hm : decide (0#16 ∈ a :: t) with
    | true => simp only [e0, hm]; simp [optc]
    | false =>
      simp only [e0, Bool.false_or]
      rw [show ((false : Bool) == false) = true from rfl, optc_t, f52_eq _ _ (by omega) (by omega), some_bind]
      cases hc : (a :: t).all fun y => hits (a :: t) y with
      | false => simp
      | true =>
        simp only [Bool.not_true, Bool.false_eq_true, if_false]
        rw [f53_eq _ (by omega) h.2.2 (by rw [leastP_id _ h]; exact hl), some_bind, leastP_id _ h]
        simp
theorem f55_eq (x : List (BitVec 16)) (h : okS x) (hl : x.length ≤ 400) (hc : cotB x = true) : f55 x = some 0 := by
  unfold f55
  rw [f42_ok0 x h hl, some_bind, if_neg (by simp), f16_eq x h hl, some_bind, hc]
  rfl
theorem f19_eq (x y : List (BitVec 16)) (h : okS x) (hl : x.length ≤ 400) (hd : (dualP x).length ≤ 400) : f19 x y = some (decide (dualP x = y)) := by
  unfold f19
  rw [f12_eq x h hl hd, some_bind]
  show optc true _ _ = _
  dsimp only
  rw [optc_t, f56_eq _ _ (by omega), some_bind]
  simp
end Go.Abs
namespace Go.Abs
abbrev Nod := Int × Int × Int × List Int × List Int
/-- the weight of a kid -/
def wtP (ws : List Int) (k : Nat) : Int := if ws.length = 0 then 1 else ws.getD k 0
def sumP (b : List Bool) (ws : List Int) : List Int → Nat → Int → Int
  | [], _, acc => acc
  | kid :: t, k, acc => sumP b ws t (k + 1) (if b.getD kid.toNat false = true then acc + wtP ws k else acc)
def nodP (b : List Bool) (n : Nod) (s : BitVec 16) : Bool := if n.1 = 1 then (((s >>> n.2.1.toNat) &&& (BitVec.ofInt 16 1)) == (BitVec.ofInt 16 1)) else decide (n.2.2.1 ≤ sumP b n.2.2.2.1 n.2.2.2.2 0 0)
/-- the values of nodes, one behind the other -/
def valsP (l : List Nod) (s : BitVec 16) : List Bool := l.foldl (fun b n => b ++ [nodP b n s]) []
def holdsP (l : List Nod) (root : Int) (s : BitVec 16) : Bool := (valsP l s).getD root.toNat false
/-- a node at a place -/
def okN (n : Nod) (i : Nat) : Bool := decide (0 ≤ n.2.1) && decide (n.2.1 < 12) && n.2.2.2.1.all (fun w => decide (0 ≤ w ∧ w ≤ 1000)) && (decide (n.2.2.2.1.length = 0) || decide (n.2.2.2.1.length = n.2.2.2.2.length)) && n.2.2.2.2.all (fun k => decide (0 ≤ k ∧ k < i)) && decide (n.2.2.2.2.length ≤ 1000000)
def okL : List Nod → Nat → Bool
  | [], _ => true
  | n :: l, i => okN n i && okL l (i + 1)
theorem okL_get : ∀ (l : List Nod) (i j : Nat), okL l i = true → j < l.length → okN (l.getD j default) (i + j) = true
  | [], _, _, _, h => by simp at h
  | n :: l, i, 0, h, _ => by simp only [okL, Bool.and_eq_true] at h; simpa using h.1
  | n :: l, i, j + 1, h, hj => by
    simp only [okL, Bool.and_eq_true] at h
    have := okL_get l (i + 1) j h.2 (by simpa using hj)
    rw [List.getD_cons_succ]
    rw [show i + (j + 1) = i + 1 + j by omega]; exact this
theorem valsP_len (s : BitVec 16) : ∀ (l : List Nod) (b : List Bool), (l.foldl (fun b n => b ++ [nodP b n s]) b).length = b.length + l.length
  | [], _ => rfl
  | n :: l, b => by rw [List.foldl_cons, valsP_len s l]; simp; omega
theorem sumP_congr (b c : List Bool) (ws : List Int) : ∀ (ks : List Int) (k : Nat) (acc : Int), (∀ x, x ∈ ks → b.getD x.toNat false = c.getD x.toNat false) → sumP b ws ks k acc = sumP c ws ks k acc
  | [], _, _, _ => rfl
  | x :: ks, k, acc, h => by
    rw [sumP, sumP, h x (List.mem_cons_self ..), sumP_congr b c ws ks _ _ fun y hy => h y (List.mem_cons_of_mem _ hy)]
theorem wtP_b {ws : List Int} (h : ∀ w, w ∈ ws → 0 ≤ w ∧ w ≤ 1000) (k : Nat) (hk : ws.length = 0 ∨ k < ws.length) : 0 ≤ wtP ws k ∧ wtP ws k ≤ 1000 := by
  unfold wtP
  by_cases h0 : ws.length = 0
  · rw [if_pos h0]; omega
  · rw [if_neg h0]
    have hk := hk.resolve_left h0
    refine h _ ?_
    rw [List.getD_eq_getElem?_getD, List.getElem?_eq_getElem hk]; exact List.getElem_mem hk
theorem f36_eq (a b c : Int) (ws ks : List Int) (k : Nat) (hk : ws.length = 0 ∨ k < ws.length) : f36 a b c ws ks (k : Int) = some (wtP ws k) := by
  unfold f36 wtP
  by_cases h0 : ws.length = 0
  · rw [if_pos (by rw [beq_iff_eq]; omega), if_pos h0]
  · have hk := hk.resolve_left h0
    rw [if_neg (by rw [beq_iff_eq]; omega), if_neg h0, chk_pos (by omega), Int.toNat_natCast]
theorem getD_take_lt {α : Type} (x : List α) (n m : Nat) (d : α) (h : m < n) : (x.take n).getD m d = x.getD m d := by
  simp [List.getD_eq_getElem?_getD, List.getElem?_take, h]
theorem f30_L1_eq (x : List Nod) (m n4 : Nat) (l5 : List Bool) (K : Int → Option Bool) (n : Nod) (hn : (x.take m).getD n4 default = n) (h60 : l5.length = 60) (ho : okN n n4 = true) (h4 : n4 < 60) (x2 : Int) (hx2 : (x2 + 1).toNat = m) :
    ∀ (c k n8 : Nat) (acc : Int), n8 + c = n.2.2.2.2.length → c < k → 0 ≤ acc → acc ≤ 1000 * n8 → f30_L1 x x2 n4 l5 K k (acc, n8) = K (sumP l5 n.2.2.2.1 (n.2.2.2.2.drop n8) n8 acc)
  | 0, k, n8, acc, hc, hk, _, _ => by
    obtain ⟨k, rfl⟩ : ∃ q, k = q + 1 := ⟨k - 1, by omega⟩
    rw [f30_L1.eq_2, hx2, hn, ifd_neg (by omega), List.drop_eq_nil_of_le (by omega)]; rfl
  | c + 1, k, n8, acc, hc, hk, h0, h1 => by
    obtain ⟨k, rfl⟩ : ∃ q, k = q + 1 := ⟨k - 1, by omega⟩
    have ho' := ho
    unfold okN at ho'
    simp only [Bool.and_eq_true, Bool.or_eq_true, decide_eq_true_eq, List.all_eq_true] at ho'
    obtain ⟨⟨⟨⟨⟨h2, h3⟩, hw⟩, hwl⟩, hkk⟩, hmil⟩ := ho'
    have hlt : n8 < n.2.2.2.2.length := by omega
    have hkid := hkk (n.2.2.2.2.getD n8 0) (by rw [List.getD_eq_getElem?_getD, List.getElem?_eq_getElem hlt]; exact List.getElem_mem hlt)
    have hwk : n.2.2.2.1.length = 0 ∨ n8 < n.2.2.2.1.length := by omega
    have hb := wtP_b hw n8 hwk
    rw [f30_L1.eq_2, hx2, hn, ifd_pos (by omega), jn_eq, chk_pos (by omega), chk_pos (by omega), chk_pos (by omega), getD_drop n.2.2.2.2 n8 0 hlt, sumP]
    by_cases hv : l5.getD (n.2.2.2.2.getD n8 0).toNat false = true
    · rw [if_pos hv, if_pos hv, f36_eq _ _ _ _ _ _ hwk, some_bind, chk_pos (by omega)]
      dsimp only
      rw [chk_pos (by omega), f30_L1_eq x m n4 l5 K n hn h60 ho h4 x2 hx2 c k (n8 + 1) _ (by omega) (by omega) (by omega) (by omega)]
    · rw [if_neg hv, if_neg hv]
      dsimp only
      rw [chk_pos (by omega), f30_L1_eq x m n4 l5 K n hn h60 ho h4 x2 hx2 c k (n8 + 1) _ (by omega) (by omega) (by omega) (by omega)]
theorem set_app {α : Type} (b : List α) (z v : α) (m : Nat) (h : b.length < m) : (b ++ List.replicate (m - b.length) z).set b.length v = (b ++ [v]) ++ List.replicate (m - (b ++ [v]).length) z := by
  obtain ⟨q, hq⟩ : ∃ q, m - b.length = q + 1 := ⟨m - b.length - 1, by omega⟩
  have e : m - (b ++ [v]).length = q := by simp; omega
  rw [hq, e, List.replicate_succ, List.set_append_right _ _ (Nat.le_refl _), Nat.sub_self, List.set_cons_zero, List.append_assoc]
  rfl
theorem getD_rep (b : List Bool) (m j : Nat) : (b ++ List.replicate m false).getD j false = b.getD j false := by
  by_cases h : j < b.length
  · simp [List.getD_eq_getElem?_getD, List.getElem?_append_left h]
  · have h' := Nat.le_of_not_lt h
    simp only [List.getD_eq_getElem?_getD, List.getElem?_append_right h', List.getElem?_eq_none h', List.getElem?_replicate]
    split <;> rfl
theorem f30_L0_eq (x : List Nod) (x2 : Int) (s : BitVec 16) (K : List Bool → Option Bool) (m : Nat) (hm : (x2 + 1).toNat = m) (hml : m ≤ x.length) (hm60 : m ≤ 60) (ho : okL x 0 = true) :
    ∀ c k n4 b, n4 + c = m → c < k → b.length = n4 → f30_L0 x x2 s K k (n4, b ++ List.replicate (60 - n4) false) = K ((((x.take m).drop n4).foldl (fun b n => b ++ [nodP b n s]) b) ++ List.replicate (60 - m) false)
  | 0, k, n4, b, hc, hk, hb => by
    obtain ⟨k, rfl⟩ : ∃ q, k = q + 1 := ⟨k - 1, by omega⟩
    rw [f30_L0.eq_2, hm, ifd_neg (by omega), List.drop_eq_nil_of_le (by simp; omega)]
    rw [show n4 = m by omega]; rfl
  | c + 1, k, n4, b, hc, hk, hb => by
    obtain ⟨k, rfl⟩ : ∃ q, k = q + 1 := ⟨k - 1, by omega⟩
    have hl : (x.take m).length = m := by simp; omega
    have hn0 := okL_get x 0 n4 ho (by omega)
    rw [Nat.zero_add] at hn0
    generalize hn : (x.take m).getD n4 default = n
    have hne : x.getD n4 default = n := by rw [← hn, getD_take_lt _ _ _ _ (by omega)]
    rw [hne] at hn0
    have ho' := hn0
    unfold okN at ho'
    simp only [Bool.and_eq_true, Bool.or_eq_true, decide_eq_true_eq, List.all_eq_true] at ho'
    obtain ⟨⟨⟨⟨⟨h2, h3⟩, hw⟩, hwl⟩, hkk⟩, hmil⟩ := ho'
    have hlen : (b ++ List.replicate (60 - n4) false).length = 60 := by simp; omega
    rw [f30_L0.eq_2, hm, ifd_pos (by omega), jn_eq, chk_pos (by omega), hn, getD_drop (x.take m) n4 default (by omega), hn, List.foldl_cons]
    have hset : ∀ v, (b ++ List.replicate (60 - n4) false).set n4 v = (b ++ [v]) ++ List.replicate (60 - (n4 + 1)) false := fun v => by
      have := set_app b false v 60 (by omega)
      rw [hb] at this
      rw [this]; congr 2; simp [hb]
    by_cases h1 : n.1 = 1
    · rw [if_pos (by simpa using h1), chk_pos (by omega), chk_pos (by omega), chk_pos (by omega)]
      dsimp only
      rw [chk_pos (by omega), hset, f30_L0_eq x x2 s K m hm hml hm60 ho c k (n4 + 1) _ (by omega) (by omega) (by simp [hb])]
      unfold nodP
      rw [if_pos h1]
    · rw [if_neg (by simpa using h1), jn_eq, f30_L1_eq x m n4 _ _ n hn hlen hn0 (by omega) x2 hm n.2.2.2.2.length FUEL 0 0 (by omega) (fuel_lt (by omega)) (by omega) (by omega), chk_pos (by omega), chk_pos (by omega)]
      dsimp only
      rw [chk_pos (by omega), hset, f30_L0_eq x x2 s K m hm hml hm60 ho c k (n4 + 1) _ (by omega) (by omega) (by simp [hb])]
      unfold nodP
      rw [if_neg h1, List.drop_zero, sumP_congr _ b _ _ _ _ fun y _ => getD_rep b _ _]
theorem valsP_get (s : BitVec 16) : ∀ (l : List Nod) (b : List Bool) (j : Nat), j < b.length → (l.foldl (fun b n => b ++ [nodP b n s]) b).getD j false = b.getD j false
  | [], _, _, _ => rfl
  | n :: l, b, j, h => by
    rw [List.foldl_cons, valsP_get s l _ j (by simp; omega)]
    simp [List.getD_eq_getElem?_getD, List.getElem?_append_left h]
theorem f30_eq (x : List Nod) (x2 : Int) (s : BitVec 16) (ho : okL x 0 = true) (h0 : 0 ≤ x2) (h1 : x2 < x.length) (h60 : x.length ≤ 60) : f30 x x2 s = some (holdsP x x2 s) := by
  unfold f30
  have e : List.replicate 60 (false : Bool) = [] ++ List.replicate (60 - 0) false := rfl
  rw [jn_eq, chk_pos (by omega), chk_pos (by omega), e, f30_L0_eq x x2 s _ (x2 + 1).toNat rfl (by omega) (by omega) ho (x2 + 1).toNat FUEL 0 [] (by omega) (fuel_lt (by omega)) rfl, List.drop_zero]
  have hl : ((x.take (x2 + 1).toNat).foldl (fun b n => b ++ [nodP b n s]) []).length = (x2 + 1).toNat := by rw [valsP_len]; simp; omega
  rw [chk_pos (by omega), chk_pos (by simp; omega), getD_rep]
  unfold holdsP valsP
  have e2 : x = x.take (x2 + 1).toNat ++ x.drop (x2 + 1).toNat := (List.take_append_drop ..).symm
  conv => rhs; rw [e2, List.foldl_append, valsP_get s _ _ _ (by rw [hl]; omega)]
/-! ### Family -/
abbrev S8 := List Nod × Int × Int × List (BitVec 16) × BitVec 16
def g8 (p : BitVec 16 → Bool) (st : S8) (s : BitVec 16) : Nat × S8 :=
  if (p s && !acc st.2.2.2.1 s) = true then (if st.2.2.2.1.length = 400 then (2, (st.1, st.2.1, 3, st.2.2.2.1, st.2.2.2.2)) else (0, (st.1, st.2.1, st.2.2.1, st.2.2.2.1 ++ [s], st.2.2.2.2))) else (0, st)
def I8 (x : List Nod) (x2 : Int) (U : BitVec 16) (st : S8) : Prop := st.1 = x ∧ st.2.1 = x2 ∧ st.2.2.2.1.length ≤ 400 ∧ st.2.2.2.2 = U
def okE (x : List Nod) (x2 : Int) : Prop := okL x 0 = true ∧ 0 ≤ x2 ∧ x2 < x.length ∧ x.length ≤ 60
theorem y8_eq (x : List Nod) (x2 : Int) (U : BitVec 16) (ho : okE x x2) (st : S8) (s : BitVec 16) (hi : I8 x x2 U st) : f8_Y70001 st s = some (g8 (holdsP x x2) st s) := by
  obtain ⟨l8, i9, i7, l10, w6⟩ := st
  obtain ⟨h1, h2, h3, h4⟩ := hi
  dsimp only at h1 h2 h3 h4
  subst h1; subst h2
  show (f30 l8 i9 s).bind _ = _
  unfold g8
  dsimp only
  rw [f30_eq l8 i9 s ho.1 ho.2.1 ho.2.2.1 ho.2.2.2, some_bind]
  cases hh : holdsP l8 i9 s with
  | false => simp [optc]
  | true =>
    rw [show ((!true) == false) = true from rfl, optc_t, f31_acc l10 s (by omega), some_bind]
    cases ha : acc l10 s with
    | true => simp
    | false =>
      simp only [Bool.not_true, Bool.or_self, Bool.false_eq_true, if_false, Bool.not_false, Bool.and_self, if_true]
      by_cases hl : l10.length = 400
      · rw [if_pos (by simp; omega), if_pos hl]
      · rw [if_neg (by simp; omega), if_neg hl, chk_pos (by omega)]
theorem i8_keep (x : List Nod) (x2 : Int) (U : BitVec 16) (p : BitVec 16 → Bool) (st : S8) (s : BitVec 16) (hi : I8 x x2 U st) (hz : (g8 p st s).1 = 0) : I8 x x2 U (g8 p st s).2 := by
  obtain ⟨h1, h2, h3, h4⟩ := hi
  unfold g8 at hz ⊢
  by_cases hc : (p s && !acc st.2.2.2.1 s) = true
  · rw [if_pos hc] at hz ⊢
    by_cases hl : st.2.2.2.1.length = 400
    · rw [if_pos hl] at hz; cases hz
    · rw [if_neg hl]; exact ⟨h1, h2, by simp; omega, h4⟩
  · rw [if_neg hc]; exact ⟨h1, h2, h3, h4⟩
/-- the servers of nodes -/
def servP (x : List Nod) : BitVec 16 := x.foldl (fun (w : BitVec 16) (n : Nod) => if n.1 = 1 then w ||| ((BitVec.ofInt 16 1) <<< n.2.1.toNat) else w) 0#16
theorem f29_eq (x : List Nod) (x2 : Int) (ho : okL x 0 = true) (hx : x.length ≤ 60) : f29 x x2 = some (servP x) := by
  unfold f29
  rw [jn_eq]
  have : ∀ c k n w, n + c = x.length → c < k → f29_L0 x (fun w6 => some w6) k (w, n) = some ((x.drop n).foldl (fun (w : BitVec 16) (n : Nod) => if n.1 = 1 then w ||| ((BitVec.ofInt 16 1) <<< n.2.1.toNat) else w) w) := by
    intro c
    induction c with
    | zero =>
      intro k n w hn hk
      obtain ⟨k, rfl⟩ : ∃ q, k = q + 1 := ⟨k - 1, by omega⟩
      rw [f29_L0.eq_2, ifd_neg (by omega), List.drop_eq_nil_of_le (by omega)]; rfl
    | succ c ih =>
      intro k n w hn hk
      obtain ⟨k, rfl⟩ : ∃ q, k = q + 1 := ⟨k - 1, by omega⟩
      have hn0 := okL_get x 0 n ho (by omega)
      unfold okN at hn0
      simp only [Bool.and_eq_true, decide_eq_true_eq] at hn0
      have h2 := hn0.1.1.1.1.1
      rw [f29_L0.eq_2, ifd_pos (by omega), jn_eq, chk_pos (by omega), getD_drop x n default (by omega), List.foldl_cons]
      by_cases h1 : (x.getD n default).1 = 1
      · rw [if_pos (by simpa using h1), if_pos h1, chk_pos h2]
        dsimp only
        rw [chk_pos (by omega), ih k (n + 1) _ (by omega) (by omega)]
      · rw [if_neg (by simpa using h1), if_neg h1]
        dsimp only
        rw [chk_pos (by omega), ih k (n + 1) _ (by omega) (by omega)]
  have := this x.length FUEL 0 (BitVec.ofInt 16 0) (by omega) (fuel_lt (by omega))
  rw [this, List.drop_zero]; rfl
theorem f8_eq (x : List Nod) (x2 : Int) (hv : f27 x x2 = some 0) (ho : okE x x2) (hU : (servP x).toNat < 4096) (hd : (famF (holdsP x x2) (subsB (servP x))).length ≤ 400) : f8 x x2 = some (famF (holdsP x x2) (subsB (servP x)), 0) := by
  have hi : I8 x x2 (servP x) (x, x2, 0, [], servP x) := ⟨rfl, rfl, by simp, rfl⟩
  have e := f71_eq f8_Y70001 (g8 (holdsP x x2)) (I8 x x2 (servP x)) (fun st s hi => y8_eq x x2 _ ho st s hi) (fun st s hi hz => i8_keep x x2 _ _ st s hi hz) (servP x) hU (fun st hi => hi.2.2.2) (x, x2, 0, [], servP x) hi
  have r : runG (g8 (holdsP x x2)) (subsB (servP x)) (x, x2, 0, [], servP x) = (0, (x, x2, 0, famF (holdsP x x2) (subsB (servP x)), servP x)) := by
    unfold famF at hd ⊢
    generalize subsB (servP x) = L at hd ⊢
    generalize holdsP x x2 = p at hd ⊢
    exact runG_fam (g8 p) p (fun st : S8 => st.2.2.2.1) (fun st l => (st.1, st.2.1, st.2.2.1, l, st.2.2.2.2)) 400 (fun st s hs => by
      unfold g8
      unfold stepF at hs ⊢
      by_cases hc : (p s && !acc st.2.2.2.1 s) = true
      · rw [if_pos hc] at hs ⊢
        rw [if_pos hc, if_neg (by simp at hs; omega)]
      · rw [if_neg hc, if_neg hc]) (fun _ _ => rfl) (fun _ _ _ => rfl) (fun _ => rfl) L (x, x2, 0, [], servP x) hd
  unfold f8
  rw [hv, some_bind, if_neg (by simp), f29_eq x x2 ho.1 ho.2.2.2, some_bind]
  unfold f28
  rw [some_bind]
  rw [r] at e
  dsimp only at e
  rw [e, some_bind]
  dsimp only
  rw [chk_pos (by simp), if_pos rfl]
end Go.Abs
namespace Go.Abs
def eqN : List Nat → List Nat → Bool
  | [], [] => true
  | a :: x, b :: y => Nat.beq a b && eqN x y
  | _, _ => false
theorem eqN_eq : ∀ {x y : List Nat}, eqN x y = true → x = y
  | [], [], _ => rfl
  | a :: x, b :: y, h => by
    simp only [eqN, Bool.and_eq_true, Nat.beq_eq] at h
    rw [h.1, eqN_eq h.2]
  | [], _ :: _, h => by cases h
  | _ :: _, [], h => by cases h
def anyIn : List Nat → Nat → Bool
  | [], _ => false
  | y :: l, s => bif Nat.beq (Nat.land y s) y then true else anyIn l s
theorem anyIn_eq (l : List Nat) (s : Nat) : anyIn l s = l.any fun y => Nat.beq (Nat.land y s) y := by
  induction l with
  | nil => rfl
  | cons y l ih => rw [anyIn, List.any_cons, ih]; cases Nat.beq (Nat.land y s) y <;> rfl
def famR (p : Nat → Bool) : List Nat → List Nat → List Nat
  | [], out => out
  | s :: L, out => bif p s then (bif anyIn out s then famR p L out else famR p L (s :: out)) else famR p L out
theorem famR_eq (p : Nat → Bool) : ∀ (L out : List Nat), famR p L out.reverse = (L.foldl (stepN p) out).reverse
  | [], out => rfl
  | s :: L, out => by
    rw [List.foldl_cons, famR]
    have e : anyIn out.reverse s = out.any fun y => Nat.beq (Nat.land y s) y := by rw [anyIn_eq, List.any_reverse]
    rw [e]
    unfold stepN
    cases p s with
    | false => exact famR_eq p L out
    | true =>
      cases out.any fun y => Nat.beq (Nat.land y s) y with
      | true => exact famR_eq p L out
      | false =>
        have := famR_eq p L (out ++ [s])
        rw [List.reverse_append] at this
        exact this
def B (F : List Nat) : List (BitVec 16) := F.map (BitVec.ofNat 16)
theorem B_len (F : List Nat) : (B F).length = F.length := List.length_map _
theorem fam_lit (p : BitVec 16 → Bool) (q : Nat → Bool) (U : BitVec 16) (u : Nat) (hu : U.toNat = u) (S F : List Nat) (hS : subsN u = S) (hF : eqN (famR q S []) F.reverse = true) (hq : ∀ s, sub s U = true → q s.toNat = p s) : famF p (subsB U) = B F := by
  rw [fam_of_N p q U hq, hu, hS]
  have e := eqN_eq hF
  have e2 := famR_eq q S []
  rw [List.reverse_nil, e] at e2
  have e3 : S.foldl (stepN q) [] = F := (List.reverse_inj.1 e2).symm
  unfold famN B
  rw [e3]
def ltAll (F : List Nat) : Bool := F.all fun a => Nat.blt a 4096
theorem B_toNat {F : List Nat} (h : ltAll F = true) : (B F).map BitVec.toNat = F := by
  unfold B
  rw [List.map_map]
  refine (List.map_congr_left fun u hu => ?_).trans (List.map_id _)
  have := List.all_eq_true.1 h u hu
  have h2 : u < 4096 := by simpa [Nat.blt_eq] using this
  exact ofNat_toNat16 (by omega)
theorem supp_B (F : List Nat) : ∀ (w : BitVec 16), (∀ u, u ∈ F → u < 65536) → ((B F).foldl (fun w a => w ||| a) w).toNat = F.foldl Nat.lor w.toNat := by
  induction F with
  | nil => intro w _; rfl
  | cons a F ih =>
    intro w h
    show ((B F).foldl (fun w a => w ||| a) (w ||| BitVec.ofNat 16 a)).toNat = _
    rw [ih _ fun u hu => h u (List.mem_cons_of_mem _ hu), List.foldl_cons, BitVec.toNat_or, ofNat_toNat16 (h a (List.mem_cons_self ..))]
    rfl
def dualC (F : List Nat) (u : Nat) (S D : List Nat) : Bool := ltAll F && Nat.ble F.length 400 && Nat.ble D.length 400 && Nat.beq (F.foldl Nat.lor 0) u && eqN (famR (hitsN F) S []) D.reverse
theorem dual_lit {F S D : List Nat} {u : Nat} (hS : subsN u = S) (h : dualC F u S D = true) : dualP (B F) = B D ∧ (B F).length ≤ 400 ∧ (B D).length ≤ 400 ∧ ∀ a, a ∈ B F → a.toNat < 4096 := by
  unfold dualC at h
  simp only [Bool.and_eq_true, Nat.beq_eq, Nat.ble_eq] at h
  obtain ⟨⟨⟨⟨h1, h2⟩, h3⟩, h4⟩, h5⟩ := h
  have hlt : ∀ u, u ∈ F → u < 65536 := fun u hu => by
    have := List.all_eq_true.1 h1 u hu
    have h2 : u < 4096 := by simpa [Nat.blt_eq] using this
    omega
  refine ⟨?_, by rw [B_len]; exact h2, by rw [B_len]; exact h3, fun a ha => ?_⟩
  · refine fam_lit (hits (B F)) (hitsN F) (suppS (B F)) u ?_ S D hS h5 fun s _ => ?_
    · have := supp_B F 0#16 hlt
      unfold suppS
      rw [this]; exact h4
    · have := hitsN_eq (B F) s
      rw [B_toNat h1] at this
      exact this
  · have : a.toNat ∈ (B F).map BitVec.toNat := List.mem_map_of_mem ha
    rw [B_toNat h1] at this
    have := List.all_eq_true.1 h1 _ this
    simpa [Nat.blt_eq] using this
def cotC (F : List Nat) : Bool := ltAll F && !(F.isEmpty) && !(F.any fun a => Nat.beq a 0) && F.all (hitsN F)
theorem cot_lit {F : List Nat} (h : cotC F = true) : cotB (B F) = true := by
  unfold cotC at h
  simp only [Bool.and_eq_true, Bool.not_eq_true'] at h
  obtain ⟨⟨⟨h1, h2⟩, h3⟩, h4⟩ := h
  unfold cotB
  have e1 : (B F).isEmpty = F.isEmpty := by cases F <;> rfl
  have e2 : decide (0#16 ∈ B F) = false := by
    rw [decide_eq_false_iff_not]
    intro hm
    have : (0#16).toNat ∈ (B F).map BitVec.toNat := List.mem_map_of_mem hm
    rw [B_toNat h1] at this
    rw [List.any_eq_false] at h3
    exact h3 _ this (by rfl)
  have e3 : (B F).all (fun a => hits (B F) a) = true := by
    rw [List.all_eq_true]
    intro a ha
    have hm : a.toNat ∈ (B F).map BitVec.toNat := List.mem_map_of_mem ha
    have e := hitsN_eq (B F) a
    rw [B_toNat h1] at hm e
    rw [← e]
    exact List.all_eq_true.1 h4 _ hm
  rw [e1, h2, e2, e3]; rfl
/-! ### expressions -/
def exprC (X : List Nod) (R : Int) (u : Nat) : Bool := decide (f27 X R = some 0) && okL X 0 && decide (0 ≤ R) && decide (R < X.length) && Nat.ble X.length 60 && Nat.beq (servP X).toNat u && Nat.blt u 4096
theorem expr_lit {X : List Nod} {R : Int} {u : Nat} {S F : List Nat} (h : exprC X R u = true) (hS : subsN u = S) (hl : Nat.ble F.length 400 = true) (hF : eqN (famR (fun s => holdsP X R (BitVec.ofNat 16 s)) S []) F.reverse = true) : f8 X R = some (B F, 0) ∧ okS (B F) ∧ (B F).length ≤ 400 := by
  unfold exprC at h
  simp only [Bool.and_eq_true, Nat.beq_eq, Nat.ble_eq, decide_eq_true_eq] at h
  obtain ⟨⟨⟨⟨⟨⟨h1, h2⟩, h3⟩, h4⟩, h5⟩, h6⟩, h7⟩ := h
  have hu : (servP X).toNat < 4096 := by rw [h6]; simpa [Nat.blt_eq] using h7
  have e := fam_lit (holdsP X R) (fun s => holdsP X R (BitVec.ofNat 16 s)) (servP X) u h6 S F hS hF fun s _ => by simp
  have hlen : (B F).length ≤ 400 := by rw [B_len]; simpa [Nat.ble_eq] using hl
  refine ⟨?_, ?_, hlen⟩
  · rw [f8_eq X R h1 ⟨h2, h3, h4, h5⟩ hu (by rw [e]; exact hlen), e]
  · rw [← e]; exact okS_fam _ _ hu
/-! ### Extend -/
def ExtTo (n : Nat) (l m : List (BitVec 16)) : Prop := ∀ k, n < k → f23_L0 k l = some (m, 0)
theorem ext_end {l D S : List Nat} {u : Nat} (ho : okS (B l)) (hS : subsN u = S) (hd : dualC l u S D = true) (hi : f63d (B D) (B l) = some (-1, B l)) : ExtTo 0 (B l) (B l) := by
  intro k hk
  obtain ⟨k, rfl⟩ : ∃ q, k = q + 1 := ⟨k - 1, by omega⟩
  obtain ⟨e1, e2, e3, _⟩ := dual_lit hS hd
  rw [f23_L0.eq_2, f12_eq _ ho e2 (by rw [e1]; exact e3), some_bind, if_neg (by simp), e1, hi, some_bind, if_pos (by simp)]
theorem ext_round {l D S l' : List Nat} {u i n : Nat} {m : List (BitVec 16)} (h : ExtTo n (B l') m) (ho : okS (B l)) (hS : subsN u = S) (hd : dualC l u S D = true) (hi : f63d (B D) (B l) = some ((i : Int), B l)) (hil : Nat.blt i D.length = true) (hD : ltAll D = true)
    (hm : eqN ((leastP (B l ++ [(B D).getD i 0#16])).map BitVec.toNat) l' = true) (hl' : (ltAll l' && Nat.ble l'.length 400) = true) : ExtTo (n + 1) (B l) m := by
  intro k hk
  obtain ⟨k, rfl⟩ : ∃ q, k = q + 1 := ⟨k - 1, by omega⟩
  obtain ⟨e1, e2, e3, e4⟩ := dual_lit hS hd
  simp only [Bool.and_eq_true, Nat.ble_eq] at hl'
  have hlt : i < (B D).length := by rw [B_len]; simpa [Nat.blt_eq] using hil
  have hn : leastP (B l ++ [(B D).getD i 0#16]) = B l' := toNat_inj (by rw [eqN_eq hm, B_toNat hl'.1])
  have hr : ∀ a, a ∈ B l ++ [(B D).getD i 0#16] → a.toNat < 4096 := by
    intro a ha
    rcases List.mem_append.1 ha with h | h
    · exact e4 a h
    · rw [List.mem_singleton] at h; subst h
      have : ((B D).getD i 0#16).toNat ∈ (B D).map BitVec.toNat := List.mem_map_of_mem (getD_memS hlt)
      rw [B_toNat hD] at this
      have := List.all_eq_true.1 hD _ this
      simpa [Nat.blt_eq] using this
  rw [f23_L0.eq_2, f12_eq _ ho e2 (by rw [e1]; exact e3), some_bind, if_neg (by simp), e1, hi, some_bind, if_neg (by simp)]
  dsimp only
  rw [Int.toNat_natCast, f53_eq _ (by simp; omega) hr (by rw [hn, B_len]; exact hl'.2), some_bind, hn, chk_pos (by omega), chk_pos hlt, chk_pos (by omega), if_neg (by simp)]
  exact h k (by omega)
theorem okS_next {l l' D : List Nat} {i : Nat} (hr : (ltAll l && ltAll D && Nat.blt i D.length) = true) (hm : eqN ((leastP (B l ++ [(B D).getD i 0#16])).map BitVec.toNat) l' = true) (hl' : (ltAll l' && Nat.ble l'.length 400) = true) : okS (B l') := by
  simp only [Bool.and_eq_true, Nat.ble_eq] at hl' hr
  have hn : leastP (B l ++ [(B D).getD i 0#16]) = B l' := toNat_inj (by rw [eqN_eq hm, B_toNat hl'.1])
  rw [← hn]
  refine okS_least _ fun a ha => ?_
  rcases List.mem_append.1 ha with h | h
  · have : a.toNat ∈ (B l).map BitVec.toNat := List.mem_map_of_mem h
    rw [B_toNat hr.1.1] at this
    have := List.all_eq_true.1 hr.1.1 _ this
    simpa [Nat.blt_eq] using this
  · rw [List.mem_singleton] at h; subst h
    have : ((B D).getD i 0#16).toNat ∈ (B D).map BitVec.toNat := List.mem_map_of_mem (getD_memS (by rw [B_len]; simpa [Nat.blt_eq] using hr.2))
    rw [B_toNat hr.1.2] at this
    have := List.all_eq_true.1 hr.1.2 _ this
    simpa [Nat.blt_eq] using this
/-- what TopCoteries asks of an expression -/
def PE (X : List Nod) (R : Int) (l m : List (BitVec 16)) : Prop := f8 X R = some (l, 0) ∧ f16 l = some true ∧ f23 l = some (m, 0) ∧ f24 l m = some true ∧ f19 m m = some true ∧ l.length ≤ 400 ∧ m.length ≤ 400
def winC (F M : List Nat) : Bool := F.all fun a => anyIn M a
theorem acc_B {M : List Nat} (h : ltAll M = true) (a : BitVec 16) : acc (B M) a = anyIn M a.toNat := by
  rw [any_toNat, B_toNat h, anyIn_eq]
theorem pe_lit {X : List Nod} {R : Int} {F M S : List Nat} {u n : Nat} (he : f8 X R = some (B F, 0) ∧ okS (B F) ∧ (B F).length ≤ 400) (hc : cotC F = true) (hx : ExtTo n (B F) (B M)) (hn : n ≤ 100) (hw : winC F M = true) (hM : okS (B M)) (hS : subsN u = S) (hd : dualC M u S M = true) : PE X R (B F) (B M) := by
  obtain ⟨e1, e2, e3, e4⟩ := dual_lit hS hd
  obtain ⟨h1, h2, h3⟩ := he
  have hcb := cot_lit hc
  have hltM : ltAll M = true := by unfold dualC at hd; simp only [Bool.and_eq_true] at hd; exact hd.1.1.1.1
  have hltF : ltAll F = true := by unfold cotC at hc; simp only [Bool.and_eq_true] at hc; exact hc.1.1.1
  refine ⟨h1, by rw [f16_eq _ h2 h3, hcb], ?_, ?_, ?_, h3, e2⟩
  · unfold f23
    rw [f55_eq _ h2 h3 hcb, some_bind, if_neg (by simp), f62_eq _ (by omega), some_bind]
    exact hx FUEL (fuel_lt (by omega))
  · rw [f24_eq _ _ (by omega) (by omega)]
    have : (B F).any (fun a => !acc (B M) a) = false := by
      rw [List.any_eq_false]
      intro a ha
      have hm : a.toNat ∈ (B F).map BitVec.toNat := List.mem_map_of_mem ha
      rw [B_toNat hltF] at hm
      rw [acc_B hltM, List.all_eq_true.1 hw _ hm]; simp
    rw [this]; rfl
  · rw [f19_eq _ _ hM e2 (by rw [e1]; exact e2), e1]; simp
end Go.Abs
namespace Go.Abs
def tS7 : List Nat := [0, 1, 2, 4, 3, 5, 6, 7]
theorem hS7 : subsN 7 = tS7 := eqN_eq (by kernel_rfl)
def tXw111 : List Nod := [(1, 0, 0, [], []), (2, 0, 1, [], [0]), (1, 1, 0, [], []), (2, 0, 1, [], [2]), (1, 2, 0, [], []), (2, 0, 1, [], [4]), (2, 0, 3, [], [1, 3, 5]), (1, 1, 0, [], []), (2, 0, 1, [], [7]), (1, 2, 0, [], []), (2, 0, 1, [], [9]), (2, 0, 2, [], [8, 10]), (1, 2, 0, [], []), (2, 0, 1, [], [12]), (2, 0, 1, [], [13]), (2, 0, 1, [], [6, 11, 14])]
def tFw111 : List Nat := [4]
theorem hXw111 : f20 [1, 1, 1] = some (tXw111, 15, 0) := by kernel_rfl
theorem hEw111 : f8 tXw111 15 = some (B tFw111, 0) ∧ okS (B tFw111) ∧ (B tFw111).length ≤ 400 := expr_lit (u := 7) (by kernel_rfl) hS7 (by kernel_rfl) (by kernel_rfl)
def tDw111_0 : List Nat := [4]
def tS4 : List Nat := [0, 4]
theorem hS4 : subsN 4 = tS4 := eqN_eq (by kernel_rfl)
theorem hdw111_0 : dualC tFw111 4 tS4 tDw111_0 = true := by kernel_rfl
theorem hiw111_0 : f63d (B tDw111_0) (B tFw111) = some (-1, B tFw111) := by kernel_rfl
theorem how111_0 : okS (B tFw111) := hEw111.2.1
theorem hxw111_0 : ExtTo 0 (B tFw111) (B tFw111) := ext_end how111_0 hS4 hdw111_0 hiw111_0
theorem hPw111 : PE tXw111 15 (B tFw111) (B tFw111) := pe_lit hEw111 (by kernel_rfl) hxw111_0 (by omega) (by kernel_rfl) how111_0 hS4 (show dualC tFw111 4 tS4 tFw111 = true by kernel_rfl)
def tS15 : List Nat := [0, 1, 2, 4, 8, 3, 5, 6, 9, 10, 12, 7, 11, 13, 14, 15]
theorem hS15 : subsN 15 = tS15 := eqN_eq (by kernel_rfl)
def tXw112 : List Nod := [(1, 0, 0, [], []), (2, 0, 1, [], [0]), (1, 1, 0, [], []), (2, 0, 1, [], [2]), (1, 2, 0, [], []), (1, 3, 0, [], []), (2, 0, 1, [], [4, 5]), (2, 0, 3, [], [1, 3, 6]), (1, 1, 0, [], []), (2, 0, 1, [], [8]), (1, 2, 0, [], []), (1, 3, 0, [], []), (2, 0, 1, [], [10, 11]), (2, 0, 2, [], [9, 12]), (1, 2, 0, [], []), (1, 3, 0, [], []), (2, 0, 2, [], [14, 15]), (2, 0, 1, [], [16]), (2, 0, 1, [], [7, 13, 17])]
def tFw112 : List Nat := [6, 10, 12]
theorem hXw112 : f20 [1, 1, 2] = some (tXw112, 18, 0) := by kernel_rfl
theorem hEw112 : f8 tXw112 18 = some (B tFw112, 0) ∧ okS (B tFw112) ∧ (B tFw112).length ≤ 400 := expr_lit (u := 15) (by kernel_rfl) hS15 (by kernel_rfl) (by kernel_rfl)
def tDw112_0 : List Nat := [6, 10, 12]
def tS14 : List Nat := [0, 2, 4, 8, 6, 10, 12, 14]
theorem hS14 : subsN 14 = tS14 := eqN_eq (by kernel_rfl)
theorem hdw112_0 : dualC tFw112 14 tS14 tDw112_0 = true := by kernel_rfl
theorem hiw112_0 : f63d (B tDw112_0) (B tFw112) = some (-1, B tFw112) := by kernel_rfl
theorem how112_0 : okS (B tFw112) := hEw112.2.1
theorem hxw112_0 : ExtTo 0 (B tFw112) (B tFw112) := ext_end how112_0 hS14 hdw112_0 hiw112_0
theorem hPw112 : PE tXw112 18 (B tFw112) (B tFw112) := pe_lit hEw112 (by kernel_rfl) hxw112_0 (by omega) (by kernel_rfl) how112_0 hS14 (show dualC tFw112 14 tS14 tFw112 = true by kernel_rfl)
def tS31 : List Nat := [0, 1, 2, 4, 8, 16, 3, 5, 6, 9, 10, 12, 17, 18, 20, 24, 7, 11, 13, 14, 19, 21, 22, 25, 26, 28, 15, 23, 27, 29, 30, 31]
theorem hS31 : subsN 31 = tS31 := eqN_eq (by kernel_rfl)
def tXw113 : List Nod := [(1, 0, 0, [], []), (2, 0, 1, [], [0]), (1, 1, 0, [], []), (2, 0, 1, [], [2]), (1, 2, 0, [], []), (1, 3, 0, [], []), (1, 4, 0, [], []), (2, 0, 1, [], [4, 5, 6]), (2, 0, 3, [], [1, 3, 7]), (1, 1, 0, [], []), (2, 0, 1, [], [9]), (1, 2, 0, [], []), (1, 3, 0, [], []), (1, 4, 0, [], []), (2, 0, 1, [], [11, 12, 13]), (2, 0, 2, [], [10, 14]), (1, 2, 0, [], []), (1, 3, 0, [], []), (1, 4, 0, [], []), (2, 0, 3, [], [16, 17, 18]), (2, 0, 1, [], [19]), (2, 0, 1, [], [8, 15, 20])]
def tFw113 : List Nat := [6, 10, 18, 28]
theorem hXw113 : f20 [1, 1, 3] = some (tXw113, 21, 0) := by kernel_rfl
theorem hEw113 : f8 tXw113 21 = some (B tFw113, 0) ∧ okS (B tFw113) ∧ (B tFw113).length ≤ 400 := expr_lit (u := 31) (by kernel_rfl) hS31 (by kernel_rfl) (by kernel_rfl)
def tDw113_0 : List Nat := [6, 10, 18, 28]
def tS30 : List Nat := [0, 2, 4, 8, 16, 6, 10, 12, 18, 20, 24, 14, 22, 26, 28, 30]
theorem hS30 : subsN 30 = tS30 := eqN_eq (by kernel_rfl)
theorem hdw113_0 : dualC tFw113 30 tS30 tDw113_0 = true := by kernel_rfl
theorem hiw113_0 : f63d (B tDw113_0) (B tFw113) = some (-1, B tFw113) := by kernel_rfl
theorem how113_0 : okS (B tFw113) := hEw113.2.1
theorem hxw113_0 : ExtTo 0 (B tFw113) (B tFw113) := ext_end how113_0 hS30 hdw113_0 hiw113_0
theorem hPw113 : PE tXw113 21 (B tFw113) (B tFw113) := pe_lit hEw113 (by kernel_rfl) hxw113_0 (by omega) (by kernel_rfl) how113_0 hS30 (show dualC tFw113 30 tS30 tFw113 = true by kernel_rfl)
def tXw121 : List Nod := [(1, 0, 0, [], []), (2, 0, 1, [], [0]), (1, 1, 0, [], []), (1, 2, 0, [], []), (2, 0, 1, [], [2, 3]), (1, 3, 0, [], []), (2, 0, 1, [], [5]), (2, 0, 3, [], [1, 4, 6]), (1, 1, 0, [], []), (1, 2, 0, [], []), (2, 0, 2, [], [8, 9]), (1, 3, 0, [], []), (2, 0, 1, [], [11]), (2, 0, 2, [], [10, 12]), (1, 3, 0, [], []), (2, 0, 1, [], [14]), (2, 0, 1, [], [15]), (2, 0, 1, [], [7, 13, 16])]
def tFw121 : List Nat := [8]
theorem hXw121 : f20 [1, 2, 1] = some (tXw121, 17, 0) := by kernel_rfl
theorem hEw121 : f8 tXw121 17 = some (B tFw121, 0) ∧ okS (B tFw121) ∧ (B tFw121).length ≤ 400 := expr_lit (u := 15) (by kernel_rfl) hS15 (by kernel_rfl) (by kernel_rfl)
def tDw121_0 : List Nat := [8]
def tS8 : List Nat := [0, 8]
theorem hS8 : subsN 8 = tS8 := eqN_eq (by kernel_rfl)
theorem hdw121_0 : dualC tFw121 8 tS8 tDw121_0 = true := by kernel_rfl
theorem hiw121_0 : f63d (B tDw121_0) (B tFw121) = some (-1, B tFw121) := by kernel_rfl
theorem how121_0 : okS (B tFw121) := hEw121.2.1
theorem hxw121_0 : ExtTo 0 (B tFw121) (B tFw121) := ext_end how121_0 hS8 hdw121_0 hiw121_0
theorem hPw121 : PE tXw121 17 (B tFw121) (B tFw121) := pe_lit hEw121 (by kernel_rfl) hxw121_0 (by omega) (by kernel_rfl) how121_0 hS8 (show dualC tFw121 8 tS8 tFw121 = true by kernel_rfl)
def tXw122 : List Nod := [(1, 0, 0, [], []), (2, 0, 1, [], [0]), (1, 1, 0, [], []), (1, 2, 0, [], []), (2, 0, 1, [], [2, 3]), (1, 3, 0, [], []), (1, 4, 0, [], []), (2, 0, 1, [], [5, 6]), (2, 0, 3, [], [1, 4, 7]), (1, 1, 0, [], []), (1, 2, 0, [], []), (2, 0, 2, [], [9, 10]), (1, 3, 0, [], []), (1, 4, 0, [], []), (2, 0, 1, [], [12, 13]), (2, 0, 2, [], [11, 14]), (1, 3, 0, [], []), (1, 4, 0, [], []), (2, 0, 2, [], [16, 17]), (2, 0, 1, [], [18]), (2, 0, 1, [], [8, 15, 19])]
def tFw122 : List Nat := [24, 11, 13, 14, 19, 21, 22]
theorem hXw122 : f20 [1, 2, 2] = some (tXw122, 20, 0) := by kernel_rfl
theorem hEw122 : f8 tXw122 20 = some (B tFw122, 0) ∧ okS (B tFw122) ∧ (B tFw122).length ≤ 400 := expr_lit (u := 31) (by kernel_rfl) hS31 (by kernel_rfl) (by kernel_rfl)
def tDw122_0 : List Nat := [24, 11, 13, 14, 19, 21, 22]
theorem hdw122_0 : dualC tFw122 31 tS31 tDw122_0 = true := by kernel_rfl
theorem hiw122_0 : f63d (B tDw122_0) (B tFw122) = some (-1, B tFw122) := by kernel_rfl
theorem how122_0 : okS (B tFw122) := hEw122.2.1
theorem hxw122_0 : ExtTo 0 (B tFw122) (B tFw122) := ext_end how122_0 hS31 hdw122_0 hiw122_0
theorem hPw122 : PE tXw122 20 (B tFw122) (B tFw122) := pe_lit hEw122 (by kernel_rfl) hxw122_0 (by omega) (by kernel_rfl) how122_0 hS31 (show dualC tFw122 31 tS31 tFw122 = true by kernel_rfl)
def tS63 : List Nat := [0, 1, 2, 4, 8, 16, 32, 3, 5, 6, 9, 10, 12, 17, 18, 20, 24, 33, 34, 36, 40, 48, 7, 11, 13, 14, 19, 21, 22, 25, 26, 28, 35, 37, 38, 41, 42, 44, 49, 50, 52, 56, 15, 23, 27, 29, 30, 39, 43, 45, 46, 51, 53, 54, 57, 58, 60, 31, 47, 55, 59, 61, 62, 63]
theorem hS63 : subsN 63 = tS63 := eqN_eq (by kernel_rfl)
def tXw123 : List Nod := [(1, 0, 0, [], []), (2, 0, 1, [], [0]), (1, 1, 0, [], []), (1, 2, 0, [], []), (2, 0, 1, [], [2, 3]), (1, 3, 0, [], []), (1, 4, 0, [], []), (1, 5, 0, [], []), (2, 0, 1, [], [5, 6, 7]), (2, 0, 3, [], [1, 4, 8]), (1, 1, 0, [], []), (1, 2, 0, [], []), (2, 0, 2, [], [10, 11]), (1, 3, 0, [], []), (1, 4, 0, [], []), (1, 5, 0, [], []), (2, 0, 1, [], [13, 14, 15]), (2, 0, 2, [], [12, 16]), (1, 3, 0, [], []), (1, 4, 0, [], []), (1, 5, 0, [], []), (2, 0, 3, [], [18, 19, 20]), (2, 0, 1, [], [21]), (2, 0, 1, [], [9, 17, 22])]
def tFw123 : List Nat := [11, 13, 14, 19, 21, 22, 35, 37, 38, 56]
theorem hXw123 : f20 [1, 2, 3] = some (tXw123, 23, 0) := by kernel_rfl
theorem hEw123 : f8 tXw123 23 = some (B tFw123, 0) ∧ okS (B tFw123) ∧ (B tFw123).length ≤ 400 := expr_lit (u := 63) (by kernel_rfl) hS63 (by kernel_rfl) (by kernel_rfl)
def tDw123_0 : List Nat := [11, 13, 14, 19, 21, 22, 35, 37, 38, 56]
theorem hdw123_0 : dualC tFw123 63 tS63 tDw123_0 = true := by kernel_rfl
theorem hiw123_0 : f63d (B tDw123_0) (B tFw123) = some (-1, B tFw123) := by kernel_rfl
theorem how123_0 : okS (B tFw123) := hEw123.2.1
theorem hxw123_0 : ExtTo 0 (B tFw123) (B tFw123) := ext_end how123_0 hS63 hdw123_0 hiw123_0
theorem hPw123 : PE tXw123 23 (B tFw123) (B tFw123) := pe_lit hEw123 (by kernel_rfl) hxw123_0 (by omega) (by kernel_rfl) how123_0 hS63 (show dualC tFw123 63 tS63 tFw123 = true by kernel_rfl)
def tXw131 : List Nod := [(1, 0, 0, [], []), (2, 0, 1, [], [0]), (1, 1, 0, [], []), (1, 2, 0, [], []), (1, 3, 0, [], []), (2, 0, 1, [], [2, 3, 4]), (1, 4, 0, [], []), (2, 0, 1, [], [6]), (2, 0, 3, [], [1, 5, 7]), (1, 1, 0, [], []), (1, 2, 0, [], []), (1, 3, 0, [], []), (2, 0, 3, [], [9, 10, 11]), (1, 4, 0, [], []), (2, 0, 1, [], [13]), (2, 0, 2, [], [12, 14]), (1, 4, 0, [], []), (2, 0, 1, [], [16]), (2, 0, 1, [], [17]), (2, 0, 1, [], [8, 15, 18])]
def tFw131 : List Nat := [16]
theorem hXw131 : f20 [1, 3, 1] = some (tXw131, 19, 0) := by kernel_rfl
theorem hEw131 : f8 tXw131 19 = some (B tFw131, 0) ∧ okS (B tFw131) ∧ (B tFw131).length ≤ 400 := expr_lit (u := 31) (by kernel_rfl) hS31 (by kernel_rfl) (by kernel_rfl)
def tDw131_0 : List Nat := [16]
def tS16 : List Nat := [0, 16]
theorem hS16 : subsN 16 = tS16 := eqN_eq (by kernel_rfl)
theorem hdw131_0 : dualC tFw131 16 tS16 tDw131_0 = true := by kernel_rfl
theorem hiw131_0 : f63d (B tDw131_0) (B tFw131) = some (-1, B tFw131) := by kernel_rfl
theorem how131_0 : okS (B tFw131) := hEw131.2.1
theorem hxw131_0 : ExtTo 0 (B tFw131) (B tFw131) := ext_end how131_0 hS16 hdw131_0 hiw131_0
theorem hPw131 : PE tXw131 19 (B tFw131) (B tFw131) := pe_lit hEw131 (by kernel_rfl) hxw131_0 (by omega) (by kernel_rfl) how131_0 hS16 (show dualC tFw131 16 tS16 tFw131 = true by kernel_rfl)
def tXw132 : List Nod := [(1, 0, 0, [], []), (2, 0, 1, [], [0]), (1, 1, 0, [], []), (1, 2, 0, [], []), (1, 3, 0, [], []), (2, 0, 1, [], [2, 3, 4]), (1, 4, 0, [], []), (1, 5, 0, [], []), (2, 0, 1, [], [6, 7]), (2, 0, 3, [], [1, 5, 8]), (1, 1, 0, [], []), (1, 2, 0, [], []), (1, 3, 0, [], []), (2, 0, 3, [], [10, 11, 12]), (1, 4, 0, [], []), (1, 5, 0, [], []), (2, 0, 1, [], [14, 15]), (2, 0, 2, [], [13, 16]), (1, 4, 0, [], []), (1, 5, 0, [], []), (2, 0, 2, [], [18, 19]), (2, 0, 1, [], [20]), (2, 0, 1, [], [9, 17, 21])]
def tFw132 : List Nat := [48, 19, 21, 25, 35, 37, 41, 30, 46]
theorem hXw132 : f20 [1, 3, 2] = some (tXw132, 22, 0) := by kernel_rfl
theorem hEw132 : f8 tXw132 22 = some (B tFw132, 0) ∧ okS (B tFw132) ∧ (B tFw132).length ≤ 400 := expr_lit (u := 63) (by kernel_rfl) hS63 (by kernel_rfl) (by kernel_rfl)
def tDw132_0 : List Nat := [48, 19, 21, 25, 35, 37, 41, 30, 46]
theorem hdw132_0 : dualC tFw132 63 tS63 tDw132_0 = true := by kernel_rfl
theorem hiw132_0 : f63d (B tDw132_0) (B tFw132) = some (-1, B tFw132) := by kernel_rfl
theorem how132_0 : okS (B tFw132) := hEw132.2.1
theorem hxw132_0 : ExtTo 0 (B tFw132) (B tFw132) := ext_end how132_0 hS63 hdw132_0 hiw132_0
theorem hPw132 : PE tXw132 22 (B tFw132) (B tFw132) := pe_lit hEw132 (by kernel_rfl) hxw132_0 (by omega) (by kernel_rfl) how132_0 hS63 (show dualC tFw132 63 tS63 tFw132 = true by kernel_rfl)
def tS127 : List Nat := [0, 1, 2, 4, 8, 16, 32, 64, 3, 5, 6, 9, 10, 12, 17, 18, 20, 24, 33, 34, 36, 40, 48, 65, 66, 68, 72, 80, 96, 7, 11, 13, 14, 19, 21, 22, 25, 26, 28, 35, 37, 38, 41, 42, 44, 49, 50, 52, 56, 67, 69, 70, 73, 74, 76, 81, 82, 84, 88, 97, 98, 100, 104, 112, 15, 23, 27, 29, 30, 39, 43, 45, 46, 51, 53, 54, 57, 58, 60, 71, 75, 77, 78, 83, 85, 86, 89, 90, 92, 99, 101, 102, 105, 106, 108, 113, 114, 116, 120, 31, 47, 55, 59, 61, 62, 79, 87, 91, 93, 94, 103, 107, 109, 110, 115, 117, 118, 121, 122, 124, 63, 95, 111, 119, 123, 125, 126, 127]
theorem hS127 : subsN 127 = tS127 := eqN_eq (by kernel_rfl)
def tXw133 : List Nod := [(1, 0, 0, [], []), (2, 0, 1, [], [0]), (1, 1, 0, [], []), (1, 2, 0, [], []), (1, 3, 0, [], []), (2, 0, 1, [], [2, 3, 4]), (1, 4, 0, [], []), (1, 5, 0, [], []), (1, 6, 0, [], []), (2, 0, 1, [], [6, 7, 8]), (2, 0, 3, [], [1, 5, 9]), (1, 1, 0, [], []), (1, 2, 0, [], []), (1, 3, 0, [], []), (2, 0, 3, [], [11, 12, 13]), (1, 4, 0, [], []), (1, 5, 0, [], []), (1, 6, 0, [], []), (2, 0, 1, [], [15, 16, 17]), (2, 0, 2, [], [14, 18]), (1, 4, 0, [], []), (1, 5, 0, [], []), (1, 6, 0, [], []), (2, 0, 3, [], [20, 21, 22]), (2, 0, 1, [], [23]), (2, 0, 1, [], [10, 19, 24])]
def tFw133 : List Nat := [19, 21, 25, 35, 37, 41, 67, 69, 73, 112, 30, 46, 78]
theorem hXw133 : f20 [1, 3, 3] = some (tXw133, 25, 0) := by kernel_rfl
theorem hEw133 : f8 tXw133 25 = some (B tFw133, 0) ∧ okS (B tFw133) ∧ (B tFw133).length ≤ 400 := expr_lit (u := 127) (by kernel_rfl) hS127 (by kernel_rfl) (by kernel_rfl)
def tDw133_0 : List Nat := [19, 21, 25, 35, 37, 41, 67, 69, 73, 112, 30, 46, 78]
theorem hdw133_0 : dualC tFw133 127 tS127 tDw133_0 = true := by kernel_rfl
theorem hiw133_0 : f63d (B tDw133_0) (B tFw133) = some (-1, B tFw133) := by kernel_rfl
theorem how133_0 : okS (B tFw133) := hEw133.2.1
theorem hxw133_0 : ExtTo 0 (B tFw133) (B tFw133) := ext_end how133_0 hS127 hdw133_0 hiw133_0
theorem hPw133 : PE tXw133 25 (B tFw133) (B tFw133) := pe_lit hEw133 (by kernel_rfl) hxw133_0 (by omega) (by kernel_rfl) how133_0 hS127 (show dualC tFw133 127 tS127 tFw133 = true by kernel_rfl)
def tXw211 : List Nod := [(1, 0, 0, [], []), (1, 1, 0, [], []), (2, 0, 2, [], [0, 1]), (1, 2, 0, [], []), (2, 0, 1, [], [3]), (1, 3, 0, [], []), (2, 0, 1, [], [5]), (2, 0, 3, [], [2, 4, 6]), (1, 2, 0, [], []), (2, 0, 1, [], [8]), (1, 3, 0, [], []), (2, 0, 1, [], [10]), (2, 0, 2, [], [9, 11]), (1, 3, 0, [], []), (2, 0, 1, [], [13]), (2, 0, 1, [], [14]), (2, 0, 1, [], [7, 12, 15])]
def tFw211 : List Nat := [8]
theorem hXw211 : f20 [2, 1, 1] = some (tXw211, 16, 0) := by kernel_rfl
theorem hEw211 : f8 tXw211 16 = some (B tFw211, 0) ∧ okS (B tFw211) ∧ (B tFw211).length ≤ 400 := expr_lit (u := 15) (by kernel_rfl) hS15 (by kernel_rfl) (by kernel_rfl)
def tDw211_0 : List Nat := [8]
theorem hdw211_0 : dualC tFw211 8 tS8 tDw211_0 = true := by kernel_rfl
theorem hiw211_0 : f63d (B tDw211_0) (B tFw211) = some (-1, B tFw211) := by kernel_rfl
theorem how211_0 : okS (B tFw211) := hEw211.2.1
theorem hxw211_0 : ExtTo 0 (B tFw211) (B tFw211) := ext_end how211_0 hS8 hdw211_0 hiw211_0
theorem hPw211 : PE tXw211 16 (B tFw211) (B tFw211) := pe_lit hEw211 (by kernel_rfl) hxw211_0 (by omega) (by kernel_rfl) how211_0 hS8 (show dualC tFw211 8 tS8 tFw211 = true by kernel_rfl)
def tXw212 : List Nod := [(1, 0, 0, [], []), (1, 1, 0, [], []), (2, 0, 2, [], [0, 1]), (1, 2, 0, [], []), (2, 0, 1, [], [3]), (1, 3, 0, [], []), (1, 4, 0, [], []), (2, 0, 1, [], [5, 6]), (2, 0, 3, [], [2, 4, 7]), (1, 2, 0, [], []), (2, 0, 1, [], [9]), (1, 3, 0, [], []), (1, 4, 0, [], []), (2, 0, 1, [], [11, 12]), (2, 0, 2, [], [10, 13]), (1, 3, 0, [], []), (1, 4, 0, [], []), (2, 0, 2, [], [15, 16]), (2, 0, 1, [], [17]), (2, 0, 1, [], [8, 14, 18])]
def tFw212 : List Nat := [12, 20, 24]
theorem hXw212 : f20 [2, 1, 2] = some (tXw212, 19, 0) := by kernel_rfl
theorem hEw212 : f8 tXw212 19 = some (B tFw212, 0) ∧ okS (B tFw212) ∧ (B tFw212).length ≤ 400 := expr_lit (u := 31) (by kernel_rfl) hS31 (by kernel_rfl) (by kernel_rfl)
def tDw212_0 : List Nat := [12, 20, 24]
def tS28 : List Nat := [0, 4, 8, 16, 12, 20, 24, 28]
theorem hS28 : subsN 28 = tS28 := eqN_eq (by kernel_rfl)
theorem hdw212_0 : dualC tFw212 28 tS28 tDw212_0 = true := by kernel_rfl
theorem hiw212_0 : f63d (B tDw212_0) (B tFw212) = some (-1, B tFw212) := by kernel_rfl
theorem how212_0 : okS (B tFw212) := hEw212.2.1
theorem hxw212_0 : ExtTo 0 (B tFw212) (B tFw212) := ext_end how212_0 hS28 hdw212_0 hiw212_0
theorem hPw212 : PE tXw212 19 (B tFw212) (B tFw212) := pe_lit hEw212 (by kernel_rfl) hxw212_0 (by omega) (by kernel_rfl) how212_0 hS28 (show dualC tFw212 28 tS28 tFw212 = true by kernel_rfl)
def tXw213 : List Nod := [(1, 0, 0, [], []), (1, 1, 0, [], []), (2, 0, 2, [], [0, 1]), (1, 2, 0, [], []), (2, 0, 1, [], [3]), (1, 3, 0, [], []), (1, 4, 0, [], []), (1, 5, 0, [], []), (2, 0, 1, [], [5, 6, 7]), (2, 0, 3, [], [2, 4, 8]), (1, 2, 0, [], []), (2, 0, 1, [], [10]), (1, 3, 0, [], []), (1, 4, 0, [], []), (1, 5, 0, [], []), (2, 0, 1, [], [12, 13, 14]), (2, 0, 2, [], [11, 15]), (1, 3, 0, [], []), (1, 4, 0, [], []), (1, 5, 0, [], []), (2, 0, 3, [], [17, 18, 19]), (2, 0, 1, [], [20]), (2, 0, 1, [], [9, 16, 21])]
def tFw213 : List Nat := [12, 20, 36, 56]
theorem hXw213 : f20 [2, 1, 3] = some (tXw213, 22, 0) := by kernel_rfl
theorem hEw213 : f8 tXw213 22 = some (B tFw213, 0) ∧ okS (B tFw213) ∧ (B tFw213).length ≤ 400 := expr_lit (u := 63) (by kernel_rfl) hS63 (by kernel_rfl) (by kernel_rfl)
def tDw213_0 : List Nat := [12, 20, 36, 56]
def tS60 : List Nat := [0, 4, 8, 16, 32, 12, 20, 24, 36, 40, 48, 28, 44, 52, 56, 60]
theorem hS60 : subsN 60 = tS60 := eqN_eq (by kernel_rfl)
theorem hdw213_0 : dualC tFw213 60 tS60 tDw213_0 = true := by kernel_rfl
theorem hiw213_0 : f63d (B tDw213_0) (B tFw213) = some (-1, B tFw213) := by kernel_rfl
theorem how213_0 : okS (B tFw213) := hEw213.2.1
theorem hxw213_0 : ExtTo 0 (B tFw213) (B tFw213) := ext_end how213_0 hS60 hdw213_0 hiw213_0
theorem hPw213 : PE tXw213 22 (B tFw213) (B tFw213) := pe_lit hEw213 (by kernel_rfl) hxw213_0 (by omega) (by kernel_rfl) how213_0 hS60 (show dualC tFw213 60 tS60 tFw213 = true by kernel_rfl)
def tXw221 : List Nod := [(1, 0, 0, [], []), (1, 1, 0, [], []), (2, 0, 2, [], [0, 1]), (1, 2, 0, [], []), (1, 3, 0, [], []), (2, 0, 1, [], [3, 4]), (1, 4, 0, [], []), (2, 0, 1, [], [6]), (2, 0, 3, [], [2, 5, 7]), (1, 2, 0, [], []), (1, 3, 0, [], []), (2, 0, 2, [], [9, 10]), (1, 4, 0, [], []), (2, 0, 1, [], [12]), (2, 0, 2, [], [11, 13]), (1, 4, 0, [], []), (2, 0, 1, [], [15]), (2, 0, 1, [], [16]), (2, 0, 1, [], [8, 14, 17])]
def tFw221 : List Nat := [16]
theorem hXw221 : f20 [2, 2, 1] = some (tXw221, 18, 0) := by kernel_rfl
theorem hEw221 : f8 tXw221 18 = some (B tFw221, 0) ∧ okS (B tFw221) ∧ (B tFw221).length ≤ 400 := expr_lit (u := 31) (by kernel_rfl) hS31 (by kernel_rfl) (by kernel_rfl)
def tDw221_0 : List Nat := [16]
theorem hdw221_0 : dualC tFw221 16 tS16 tDw221_0 = true := by kernel_rfl
theorem hiw221_0 : f63d (B tDw221_0) (B tFw221) = some (-1, B tFw221) := by kernel_rfl
theorem how221_0 : okS (B tFw221) := hEw221.2.1
theorem hxw221_0 : ExtTo 0 (B tFw221) (B tFw221) := ext_end how221_0 hS16 hdw221_0 hiw221_0
theorem hPw221 : PE tXw221 18 (B tFw221) (B tFw221) := pe_lit hEw221 (by kernel_rfl) hxw221_0 (by omega) (by kernel_rfl) how221_0 hS16 (show dualC tFw221 16 tS16 tFw221 = true by kernel_rfl)
def tXw222 : List Nod := [(1, 0, 0, [], []), (1, 1, 0, [], []), (2, 0, 2, [], [0, 1]), (1, 2, 0, [], []), (1, 3, 0, [], []), (2, 0, 1, [], [3, 4]), (1, 4, 0, [], []), (1, 5, 0, [], []), (2, 0, 1, [], [6, 7]), (2, 0, 3, [], [2, 5, 8]), (1, 2, 0, [], []), (1, 3, 0, [], []), (2, 0, 2, [], [10, 11]), (1, 4, 0, [], []), (1, 5, 0, [], []), (2, 0, 1, [], [13, 14]), (2, 0, 2, [], [12, 15]), (1, 4, 0, [], []), (1, 5, 0, [], []), (2, 0, 2, [], [17, 18]), (2, 0, 1, [], [19]), (2, 0, 1, [], [9, 16, 20])]
def tFw222 : List Nat := [48, 28, 44, 23, 27, 39, 43]
theorem hXw222 : f20 [2, 2, 2] = some (tXw222, 21, 0) := by kernel_rfl
theorem hEw222 : f8 tXw222 21 = some (B tFw222, 0) ∧ okS (B tFw222) ∧ (B tFw222).length ≤ 400 := expr_lit (u := 63) (by kernel_rfl) hS63 (by kernel_rfl) (by kernel_rfl)
def tDw222_0 : List Nat := [48, 21, 22, 25, 26, 28, 37, 38, 41, 42, 44]
def tFw222_1 : List Nat := [48, 21, 28, 44, 27, 39, 43]
def tDw222_1 : List Nat := [48, 21, 22, 25, 26, 28, 37, 38, 41, 44]
def tFw222_2 : List Nat := [48, 21, 22, 28, 44, 27, 39, 43]
def tDw222_2 : List Nat := [48, 21, 22, 25, 26, 28, 37, 38, 44, 43]
def tFw222_3 : List Nat := [48, 21, 22, 25, 28, 44, 39, 43]
def tDw222_3 : List Nat := [48, 21, 22, 25, 26, 28, 37, 44, 43]
def tFw222_4 : List Nat := [48, 21, 22, 25, 26, 28, 44, 39, 43]
def tDw222_4 : List Nat := [48, 21, 22, 25, 26, 28, 44, 39, 43]
theorem hdw222_0 : dualC tFw222 63 tS63 tDw222_0 = true := by kernel_rfl
theorem hiw222_0 : f63d (B tDw222_0) (B tFw222) = some (((1 : Nat) : Int), B tFw222) := by kernel_rfl
theorem hmw222_0 : eqN ((leastP (B tFw222 ++ [(B tDw222_0).getD 1 0#16])).map BitVec.toNat) tFw222_1 = true := by kernel_rfl
theorem how222_0 : okS (B tFw222) := hEw222.2.1
theorem hdw222_1 : dualC tFw222_1 63 tS63 tDw222_1 = true := by kernel_rfl
theorem hiw222_1 : f63d (B tDw222_1) (B tFw222_1) = some (((2 : Nat) : Int), B tFw222_1) := by kernel_rfl
theorem hmw222_1 : eqN ((leastP (B tFw222_1 ++ [(B tDw222_1).getD 2 0#16])).map BitVec.toNat) tFw222_2 = true := by kernel_rfl
theorem how222_1 : okS (B tFw222_1) := okS_next (l := tFw222) (D := tDw222_0) (i := 1) (by kernel_rfl) hmw222_0 (by kernel_rfl)
theorem hdw222_2 : dualC tFw222_2 63 tS63 tDw222_2 = true := by kernel_rfl
theorem hiw222_2 : f63d (B tDw222_2) (B tFw222_2) = some (((3 : Nat) : Int), B tFw222_2) := by kernel_rfl
theorem hmw222_2 : eqN ((leastP (B tFw222_2 ++ [(B tDw222_2).getD 3 0#16])).map BitVec.toNat) tFw222_3 = true := by kernel_rfl
theorem how222_2 : okS (B tFw222_2) := okS_next (l := tFw222_1) (D := tDw222_1) (i := 2) (by kernel_rfl) hmw222_1 (by kernel_rfl)
theorem hdw222_3 : dualC tFw222_3 63 tS63 tDw222_3 = true := by kernel_rfl
theorem hiw222_3 : f63d (B tDw222_3) (B tFw222_3) = some (((4 : Nat) : Int), B tFw222_3) := by kernel_rfl
theorem hmw222_3 : eqN ((leastP (B tFw222_3 ++ [(B tDw222_3).getD 4 0#16])).map BitVec.toNat) tFw222_4 = true := by kernel_rfl
theorem how222_3 : okS (B tFw222_3) := okS_next (l := tFw222_2) (D := tDw222_2) (i := 3) (by kernel_rfl) hmw222_2 (by kernel_rfl)
theorem hdw222_4 : dualC tFw222_4 63 tS63 tDw222_4 = true := by kernel_rfl
theorem hiw222_4 : f63d (B tDw222_4) (B tFw222_4) = some (-1, B tFw222_4) := by kernel_rfl
theorem how222_4 : okS (B tFw222_4) := okS_next (l := tFw222_3) (D := tDw222_3) (i := 4) (by kernel_rfl) hmw222_3 (by kernel_rfl)
theorem hxw222_4 : ExtTo 0 (B tFw222_4) (B tFw222_4) := ext_end how222_4 hS63 hdw222_4 hiw222_4
theorem hxw222_3 : ExtTo 1 (B tFw222_3) (B tFw222_4) := ext_round hxw222_4 how222_3 hS63 hdw222_3 hiw222_3 (by kernel_rfl) (by kernel_rfl) hmw222_3 (by kernel_rfl)
theorem hxw222_2 : ExtTo 2 (B tFw222_2) (B tFw222_4) := ext_round hxw222_3 how222_2 hS63 hdw222_2 hiw222_2 (by kernel_rfl) (by kernel_rfl) hmw222_2 (by kernel_rfl)
theorem hxw222_1 : ExtTo 3 (B tFw222_1) (B tFw222_4) := ext_round hxw222_2 how222_1 hS63 hdw222_1 hiw222_1 (by kernel_rfl) (by kernel_rfl) hmw222_1 (by kernel_rfl)
theorem hxw222_0 : ExtTo 4 (B tFw222) (B tFw222_4) := ext_round hxw222_1 how222_0 hS63 hdw222_0 hiw222_0 (by kernel_rfl) (by kernel_rfl) hmw222_0 (by kernel_rfl)
theorem hPw222 : PE tXw222 21 (B tFw222) (B tFw222_4) := pe_lit hEw222 (by kernel_rfl) hxw222_0 (by omega) (by kernel_rfl) how222_4 hS63 (show dualC tFw222_4 63 tS63 tFw222_4 = true by kernel_rfl)
def tXw223 : List Nod := [(1, 0, 0, [], []), (1, 1, 0, [], []), (2, 0, 2, [], [0, 1]), (1, 2, 0, [], []), (1, 3, 0, [], []), (2, 0, 1, [], [3, 4]), (1, 4, 0, [], []), (1, 5, 0, [], []), (1, 6, 0, [], []), (2, 0, 1, [], [6, 7, 8]), (2, 0, 3, [], [2, 5, 9]), (1, 2, 0, [], []), (1, 3, 0, [], []), (2, 0, 2, [], [11, 12]), (1, 4, 0, [], []), (1, 5, 0, [], []), (1, 6, 0, [], []), (2, 0, 1, [], [14, 15, 16]), (2, 0, 2, [], [13, 17]), (1, 4, 0, [], []), (1, 5, 0, [], []), (1, 6, 0, [], []), (2, 0, 3, [], [19, 20, 21]), (2, 0, 1, [], [22]), (2, 0, 1, [], [10, 18, 23])]
def tFw223 : List Nat := [28, 44, 76, 112, 23, 27, 39, 43, 71, 75]
theorem hXw223 : f20 [2, 2, 3] = some (tXw223, 24, 0) := by kernel_rfl
theorem hEw223 : f8 tXw223 24 = some (B tFw223, 0) ∧ okS (B tFw223) ∧ (B tFw223).length ≤ 400 := expr_lit (u := 127) (by kernel_rfl) hS127 (by kernel_rfl) (by kernel_rfl)
def tDw223_0 : List Nat := [21, 22, 25, 26, 28, 37, 38, 41, 42, 44, 69, 70, 73, 74, 76, 112]
def tFw223_1 : List Nat := [21, 28, 44, 76, 112, 27, 39, 43, 71, 75]
def tDw223_1 : List Nat := [21, 22, 25, 26, 28, 37, 38, 41, 44, 69, 70, 73, 76, 112]
def tFw223_2 : List Nat := [21, 22, 28, 44, 76, 112, 27, 39, 43, 71, 75]
def tDw223_2 : List Nat := [21, 22, 25, 26, 28, 37, 38, 44, 69, 70, 76, 112, 43, 75]
def tFw223_3 : List Nat := [21, 22, 25, 28, 44, 76, 112, 39, 43, 71, 75]
def tDw223_3 : List Nat := [21, 22, 25, 26, 28, 37, 44, 69, 76, 112, 43, 75]
def tFw223_4 : List Nat := [21, 22, 25, 26, 28, 44, 76, 112, 39, 43, 71, 75]
def tDw223_4 : List Nat := [21, 22, 25, 26, 28, 44, 76, 112, 39, 43, 71, 75]
theorem hdw223_0 : dualC tFw223 127 tS127 tDw223_0 = true := by kernel_rfl
theorem hiw223_0 : f63d (B tDw223_0) (B tFw223) = some (((0 : Nat) : Int), B tFw223) := by kernel_rfl
theorem hmw223_0 : eqN ((leastP (B tFw223 ++ [(B tDw223_0).getD 0 0#16])).map BitVec.toNat) tFw223_1 = true := by kernel_rfl
theorem how223_0 : okS (B tFw223) := hEw223.2.1
theorem hdw223_1 : dualC tFw223_1 127 tS127 tDw223_1 = true := by kernel_rfl
theorem hiw223_1 : f63d (B tDw223_1) (B tFw223_1) = some (((1 : Nat) : Int), B tFw223_1) := by kernel_rfl
theorem hmw223_1 : eqN ((leastP (B tFw223_1 ++ [(B tDw223_1).getD 1 0#16])).map BitVec.toNat) tFw223_2 = true := by kernel_rfl
theorem how223_1 : okS (B tFw223_1) := okS_next (l := tFw223) (D := tDw223_0) (i := 0) (by kernel_rfl) hmw223_0 (by kernel_rfl)
theorem hdw223_2 : dualC tFw223_2 127 tS127 tDw223_2 = true := by kernel_rfl
theorem hiw223_2 : f63d (B tDw223_2) (B tFw223_2) = some (((2 : Nat) : Int), B tFw223_2) := by kernel_rfl
theorem hmw223_2 : eqN ((leastP (B tFw223_2 ++ [(B tDw223_2).getD 2 0#16])).map BitVec.toNat) tFw223_3 = true := by kernel_rfl
theorem how223_2 : okS (B tFw223_2) := okS_next (l := tFw223_1) (D := tDw223_1) (i := 1) (by kernel_rfl) hmw223_1 (by kernel_rfl)
theorem hdw223_3 : dualC tFw223_3 127 tS127 tDw223_3 = true := by kernel_rfl
theorem hiw223_3 : f63d (B tDw223_3) (B tFw223_3) = some (((3 : Nat) : Int), B tFw223_3) := by kernel_rfl
theorem hmw223_3 : eqN ((leastP (B tFw223_3 ++ [(B tDw223_3).getD 3 0#16])).map BitVec.toNat) tFw223_4 = true := by kernel_rfl
theorem how223_3 : okS (B tFw223_3) := okS_next (l := tFw223_2) (D := tDw223_2) (i := 2) (by kernel_rfl) hmw223_2 (by kernel_rfl)
theorem hdw223_4 : dualC tFw223_4 127 tS127 tDw223_4 = true := by kernel_rfl
theorem hiw223_4 : f63d (B tDw223_4) (B tFw223_4) = some (-1, B tFw223_4) := by kernel_rfl
theorem how223_4 : okS (B tFw223_4) := okS_next (l := tFw223_3) (D := tDw223_3) (i := 3) (by kernel_rfl) hmw223_3 (by kernel_rfl)
theorem hxw223_4 : ExtTo 0 (B tFw223_4) (B tFw223_4) := ext_end how223_4 hS127 hdw223_4 hiw223_4
theorem hxw223_3 : ExtTo 1 (B tFw223_3) (B tFw223_4) := ext_round hxw223_4 how223_3 hS127 hdw223_3 hiw223_3 (by kernel_rfl) (by kernel_rfl) hmw223_3 (by kernel_rfl)
theorem hxw223_2 : ExtTo 2 (B tFw223_2) (B tFw223_4) := ext_round hxw223_3 how223_2 hS127 hdw223_2 hiw223_2 (by kernel_rfl) (by kernel_rfl) hmw223_2 (by kernel_rfl)
theorem hxw223_1 : ExtTo 3 (B tFw223_1) (B tFw223_4) := ext_round hxw223_2 how223_1 hS127 hdw223_1 hiw223_1 (by kernel_rfl) (by kernel_rfl) hmw223_1 (by kernel_rfl)
theorem hxw223_0 : ExtTo 4 (B tFw223) (B tFw223_4) := ext_round hxw223_1 how223_0 hS127 hdw223_0 hiw223_0 (by kernel_rfl) (by kernel_rfl) hmw223_0 (by kernel_rfl)
theorem hPw223 : PE tXw223 24 (B tFw223) (B tFw223_4) := pe_lit hEw223 (by kernel_rfl) hxw223_0 (by omega) (by kernel_rfl) how223_4 hS127 (show dualC tFw223_4 127 tS127 tFw223_4 = true by kernel_rfl)
def tXw231 : List Nod := [(1, 0, 0, [], []), (1, 1, 0, [], []), (2, 0, 2, [], [0, 1]), (1, 2, 0, [], []), (1, 3, 0, [], []), (1, 4, 0, [], []), (2, 0, 1, [], [3, 4, 5]), (1, 5, 0, [], []), (2, 0, 1, [], [7]), (2, 0, 3, [], [2, 6, 8]), (1, 2, 0, [], []), (1, 3, 0, [], []), (1, 4, 0, [], []), (2, 0, 3, [], [10, 11, 12]), (1, 5, 0, [], []), (2, 0, 1, [], [14]), (2, 0, 2, [], [13, 15]), (1, 5, 0, [], []), (2, 0, 1, [], [17]), (2, 0, 1, [], [18]), (2, 0, 1, [], [9, 16, 19])]
def tFw231 : List Nat := [32]
theorem hXw231 : f20 [2, 3, 1] = some (tXw231, 20, 0) := by kernel_rfl
theorem hEw231 : f8 tXw231 20 = some (B tFw231, 0) ∧ okS (B tFw231) ∧ (B tFw231).length ≤ 400 := expr_lit (u := 63) (by kernel_rfl) hS63 (by kernel_rfl) (by kernel_rfl)
def tDw231_0 : List Nat := [32]
def tS32 : List Nat := [0, 32]
theorem hS32 : subsN 32 = tS32 := eqN_eq (by kernel_rfl)
theorem hdw231_0 : dualC tFw231 32 tS32 tDw231_0 = true := by kernel_rfl
theorem hiw231_0 : f63d (B tDw231_0) (B tFw231) = some (-1, B tFw231) := by kernel_rfl
theorem how231_0 : okS (B tFw231) := hEw231.2.1
theorem hxw231_0 : ExtTo 0 (B tFw231) (B tFw231) := ext_end how231_0 hS32 hdw231_0 hiw231_0
theorem hPw231 : PE tXw231 20 (B tFw231) (B tFw231) := pe_lit hEw231 (by kernel_rfl) hxw231_0 (by omega) (by kernel_rfl) how231_0 hS32 (show dualC tFw231 32 tS32 tFw231 = true by kernel_rfl)
def tXw232 : List Nod := [(1, 0, 0, [], []), (1, 1, 0, [], []), (2, 0, 2, [], [0, 1]), (1, 2, 0, [], []), (1, 3, 0, [], []), (1, 4, 0, [], []), (2, 0, 1, [], [3, 4, 5]), (1, 5, 0, [], []), (1, 6, 0, [], []), (2, 0, 1, [], [7, 8]), (2, 0, 3, [], [2, 6, 9]), (1, 2, 0, [], []), (1, 3, 0, [], []), (1, 4, 0, [], []), (2, 0, 3, [], [11, 12, 13]), (1, 5, 0, [], []), (1, 6, 0, [], []), (2, 0, 1, [], [15, 16]), (2, 0, 2, [], [14, 17]), (1, 5, 0, [], []), (1, 6, 0, [], []), (2, 0, 2, [], [19, 20]), (2, 0, 1, [], [21]), (2, 0, 1, [], [10, 18, 22])]
def tFw232 : List Nat := [96, 39, 43, 51, 60, 71, 75, 83, 92]
theorem hXw232 : f20 [2, 3, 2] = some (tXw232, 23, 0) := by kernel_rfl
theorem hEw232 : f8 tXw232 23 = some (B tFw232, 0) ∧ okS (B tFw232) ∧ (B tFw232).length ≤ 400 := expr_lit (u := 127) (by kernel_rfl) hS127 (by kernel_rfl) (by kernel_rfl)
def tDw232_0 : List Nat := [96, 37, 38, 41, 42, 49, 50, 69, 70, 73, 74, 81, 82, 60, 92]
def tFw232_1 : List Nat := [96, 37, 43, 51, 60, 71, 75, 83, 92]
def tDw232_1 : List Nat := [96, 37, 38, 41, 42, 49, 50, 69, 70, 73, 81, 60, 92]
def tFw232_2 : List Nat := [96, 37, 38, 43, 51, 60, 71, 75, 83, 92]
def tDw232_2 : List Nat := [96, 37, 38, 41, 42, 49, 50, 69, 70, 60, 75, 83, 92]
def tFw232_3 : List Nat := [96, 37, 38, 41, 51, 60, 71, 75, 83, 92]
def tDw232_3 : List Nat := [96, 37, 38, 41, 42, 49, 50, 69, 60, 75, 78, 83, 92]
def tFw232_4 : List Nat := [96, 37, 38, 41, 42, 51, 60, 71, 75, 83, 92]
def tDw232_4 : List Nat := [96, 37, 38, 41, 42, 49, 50, 60, 71, 75, 77, 78, 83, 92]
def tFw232_5 : List Nat := [96, 37, 38, 41, 42, 49, 60, 71, 75, 83, 92]
def tDw232_5 : List Nat := [96, 37, 38, 41, 42, 49, 50, 60, 71, 75, 77, 83, 92]
def tFw232_6 : List Nat := [96, 37, 38, 41, 42, 49, 50, 60, 71, 75, 83, 92]
def tDw232_6 : List Nat := [96, 37, 38, 41, 42, 49, 50, 60, 71, 75, 83, 92]
theorem hdw232_0 : dualC tFw232 127 tS127 tDw232_0 = true := by kernel_rfl
theorem hiw232_0 : f63d (B tDw232_0) (B tFw232) = some (((1 : Nat) : Int), B tFw232) := by kernel_rfl
theorem hmw232_0 : eqN ((leastP (B tFw232 ++ [(B tDw232_0).getD 1 0#16])).map BitVec.toNat) tFw232_1 = true := by kernel_rfl
theorem how232_0 : okS (B tFw232) := hEw232.2.1
theorem hdw232_1 : dualC tFw232_1 127 tS127 tDw232_1 = true := by kernel_rfl
theorem hiw232_1 : f63d (B tDw232_1) (B tFw232_1) = some (((2 : Nat) : Int), B tFw232_1) := by kernel_rfl
theorem hmw232_1 : eqN ((leastP (B tFw232_1 ++ [(B tDw232_1).getD 2 0#16])).map BitVec.toNat) tFw232_2 = true := by kernel_rfl
theorem how232_1 : okS (B tFw232_1) := okS_next (l := tFw232) (D := tDw232_0) (i := 1) (by kernel_rfl) hmw232_0 (by kernel_rfl)
theorem hdw232_2 : dualC tFw232_2 127 tS127 tDw232_2 = true := by kernel_rfl
theorem hiw232_2 : f63d (B tDw232_2) (B tFw232_2) = some (((3 : Nat) : Int), B tFw232_2) := by kernel_rfl
theorem hmw232_2 : eqN ((leastP (B tFw232_2 ++ [(B tDw232_2).getD 3 0#16])).map BitVec.toNat) tFw232_3 = true := by kernel_rfl
theorem how232_2 : okS (B tFw232_2) := okS_next (l := tFw232_1) (D := tDw232_1) (i := 2) (by kernel_rfl) hmw232_1 (by kernel_rfl)
theorem hdw232_3 : dualC tFw232_3 127 tS127 tDw232_3 = true := by kernel_rfl
theorem hiw232_3 : f63d (B tDw232_3) (B tFw232_3) = some (((4 : Nat) : Int), B tFw232_3) := by kernel_rfl
theorem hmw232_3 : eqN ((leastP (B tFw232_3 ++ [(B tDw232_3).getD 4 0#16])).map BitVec.toNat) tFw232_4 = true := by kernel_rfl
theorem how232_3 : okS (B tFw232_3) := okS_next (l := tFw232_2) (D := tDw232_2) (i := 3) (by kernel_rfl) hmw232_2 (by kernel_rfl)
theorem hdw232_4 : dualC tFw232_4 127 tS127 tDw232_4 = true := by kernel_rfl
theorem hiw232_4 : f63d (B tDw232_4) (B tFw232_4) = some (((5 : Nat) : Int), B tFw232_4) := by kernel_rfl
theorem hmw232_4 : eqN ((leastP (B tFw232_4 ++ [(B tDw232_4).getD 5 0#16])).map BitVec.toNat) tFw232_5 = true := by kernel_rfl
theorem how232_4 : okS (B tFw232_4) := okS_next (l := tFw232_3) (D := tDw232_3) (i := 4) (by kernel_rfl) hmw232_3 (by kernel_rfl)
theorem hdw232_5 : dualC tFw232_5 127 tS127 tDw232_5 = true := by kernel_rfl
theorem hiw232_5 : f63d (B tDw232_5) (B tFw232_5) = some (((6 : Nat) : Int), B tFw232_5) := by kernel_rfl
theorem hmw232_5 : eqN ((leastP (B tFw232_5 ++ [(B tDw232_5).getD 6 0#16])).map BitVec.toNat) tFw232_6 = true := by kernel_rfl
theorem how232_5 : okS (B tFw232_5) := okS_next (l := tFw232_4) (D := tDw232_4) (i := 5) (by kernel_rfl) hmw232_4 (by kernel_rfl)
theorem hdw232_6 : dualC tFw232_6 127 tS127 tDw232_6 = true := by kernel_rfl
theorem hiw232_6 : f63d (B tDw232_6) (B tFw232_6) = some (-1, B tFw232_6) := by kernel_rfl
theorem how232_6 : okS (B tFw232_6) := okS_next (l := tFw232_5) (D := tDw232_5) (i := 6) (by kernel_rfl) hmw232_5 (by kernel_rfl)
theorem hxw232_6 : ExtTo 0 (B tFw232_6) (B tFw232_6) := ext_end how232_6 hS127 hdw232_6 hiw232_6
theorem hxw232_5 : ExtTo 1 (B tFw232_5) (B tFw232_6) := ext_round hxw232_6 how232_5 hS127 hdw232_5 hiw232_5 (by kernel_rfl) (by kernel_rfl) hmw232_5 (by kernel_rfl)
theorem hxw232_4 : ExtTo 2 (B tFw232_4) (B tFw232_6) := ext_round hxw232_5 how232_4 hS127 hdw232_4 hiw232_4 (by kernel_rfl) (by kernel_rfl) hmw232_4 (by kernel_rfl)
theorem hxw232_3 : ExtTo 3 (B tFw232_3) (B tFw232_6) := ext_round hxw232_4 how232_3 hS127 hdw232_3 hiw232_3 (by kernel_rfl) (by kernel_rfl) hmw232_3 (by kernel_rfl)
theorem hxw232_2 : ExtTo 4 (B tFw232_2) (B tFw232_6) := ext_round hxw232_3 how232_2 hS127 hdw232_2 hiw232_2 (by kernel_rfl) (by kernel_rfl) hmw232_2 (by kernel_rfl)
theorem hxw232_1 : ExtTo 5 (B tFw232_1) (B tFw232_6) := ext_round hxw232_2 how232_1 hS127 hdw232_1 hiw232_1 (by kernel_rfl) (by kernel_rfl) hmw232_1 (by kernel_rfl)
theorem hxw232_0 : ExtTo 6 (B tFw232) (B tFw232_6) := ext_round hxw232_1 how232_0 hS127 hdw232_0 hiw232_0 (by kernel_rfl) (by kernel_rfl) hmw232_0 (by kernel_rfl)
theorem hPw232 : PE tXw232 23 (B tFw232) (B tFw232_6) := pe_lit hEw232 (by kernel_rfl) hxw232_0 (by omega) (by kernel_rfl) how232_6 hS127 (show dualC tFw232_6 127 tS127 tFw232_6 = true by kernel_rfl)
def tS255 : List Nat := [0, 1, 2, 4, 8, 16, 32, 64, 128, 3, 5, 6, 9, 10, 12, 17, 18, 20, 24, 33, 34, 36, 40, 48, 65, 66, 68, 72, 80, 96, 129, 130, 132, 136, 144, 160, 192, 7, 11, 13, 14, 19, 21, 22, 25, 26, 28, 35, 37, 38, 41, 42, 44, 49, 50, 52, 56, 67, 69, 70, 73, 74, 76, 81, 82, 84, 88, 97, 98, 100, 104, 112, 131, 133, 134, 137, 138, 140, 145, 146, 148, 152, 161, 162, 164, 168, 176, 193, 194, 196, 200, 208, 224, 15, 23, 27, 29, 30, 39, 43, 45, 46, 51, 53, 54, 57, 58, 60, 71, 75, 77, 78, 83, 85, 86, 89, 90, 92, 99, 101, 102, 105, 106, 108, 113, 114, 116, 120, 135, 139, 141, 142, 147, 149, 150, 153, 154, 156, 163, 165, 166, 169, 170, 172, 177, 178, 180, 184, 195, 197, 198, 201, 202, 204, 209, 210, 212, 216, 225, 226, 228, 232, 240, 31, 47, 55, 59, 61, 62, 79, 87, 91, 93, 94, 103, 107, 109, 110, 115, 117, 118, 121, 122, 124, 143, 151, 155, 157, 158, 167, 171, 173, 174, 179, 181, 182, 185, 186, 188, 199, 203, 205, 206, 211, 213, 214, 217, 218, 220, 227, 229, 230, 233, 234, 236, 241, 242, 244, 248, 63, 95, 111, 119, 123, 125, 126, 159, 175, 183, 187, 189, 190, 207, 215, 219, 221, 222, 231, 235, 237, 238, 243, 245, 246, 249, 250, 252, 127, 191, 223, 239, 247, 251, 253, 254, 255]
theorem hS255 : subsN 255 = tS255 := eqN_eq (by kernel_rfl)
def tXw233 : List Nod := [(1, 0, 0, [], []), (1, 1, 0, [], []), (2, 0, 2, [], [0, 1]), (1, 2, 0, [], []), (1, 3, 0, [], []), (1, 4, 0, [], []), (2, 0, 1, [], [3, 4, 5]), (1, 5, 0, [], []), (1, 6, 0, [], []), (1, 7, 0, [], []), (2, 0, 1, [], [7, 8, 9]), (2, 0, 3, [], [2, 6, 10]), (1, 2, 0, [], []), (1, 3, 0, [], []), (1, 4, 0, [], []), (2, 0, 3, [], [12, 13, 14]), (1, 5, 0, [], []), (1, 6, 0, [], []), (1, 7, 0, [], []), (2, 0, 1, [], [16, 17, 18]), (2, 0, 2, [], [15, 19]), (1, 5, 0, [], []), (1, 6, 0, [], []), (1, 7, 0, [], []), (2, 0, 3, [], [21, 22, 23]), (2, 0, 1, [], [24]), (2, 0, 1, [], [11, 20, 25])]
def tFw233 : List Nat := [224, 39, 43, 51, 60, 71, 75, 83, 92, 135, 139, 147, 156]
theorem hXw233 : f20 [2, 3, 3] = some (tXw233, 26, 0) := by kernel_rfl
theorem hEw233 : f8 tXw233 26 = some (B tFw233, 0) ∧ okS (B tFw233) ∧ (B tFw233).length ≤ 400 := expr_lit (u := 255) (by kernel_rfl) hS255 (by kernel_rfl) (by kernel_rfl)
def tDw233_0 : List Nat := [37, 38, 41, 42, 49, 50, 69, 70, 73, 74, 81, 82, 133, 134, 137, 138, 145, 146, 224, 60, 92, 156]
def tFw233_1 : List Nat := [37, 224, 43, 51, 60, 71, 75, 83, 92, 135, 139, 147, 156]
def tDw233_1 : List Nat := [37, 38, 41, 42, 49, 50, 69, 70, 73, 81, 133, 134, 137, 145, 224, 60, 92, 156]
def tFw233_2 : List Nat := [37, 38, 224, 43, 51, 60, 71, 75, 83, 92, 135, 139, 147, 156]
def tDw233_2 : List Nat := [37, 38, 41, 42, 49, 50, 69, 70, 133, 134, 224, 60, 75, 83, 92, 139, 147, 156]
def tFw233_3 : List Nat := [37, 38, 41, 224, 51, 60, 71, 75, 83, 92, 135, 139, 147, 156]
def tDw233_3 : List Nat := [37, 38, 41, 42, 49, 50, 69, 133, 224, 60, 75, 78, 83, 92, 139, 142, 147, 156]
def tFw233_4 : List Nat := [37, 38, 41, 42, 224, 51, 60, 71, 75, 83, 92, 135, 139, 147, 156]
def tDw233_4 : List Nat := [37, 38, 41, 42, 49, 50, 224, 60, 71, 75, 77, 78, 83, 92, 135, 139, 141, 142, 147, 156]
def tFw233_5 : List Nat := [37, 38, 41, 42, 49, 224, 60, 71, 75, 83, 92, 135, 139, 147, 156]
def tDw233_5 : List Nat := [37, 38, 41, 42, 49, 50, 224, 60, 71, 75, 77, 83, 92, 135, 139, 141, 147, 156]
def tFw233_6 : List Nat := [37, 38, 41, 42, 49, 50, 224, 60, 71, 75, 83, 92, 135, 139, 147, 156]
def tDw233_6 : List Nat := [37, 38, 41, 42, 49, 50, 224, 60, 71, 75, 83, 92, 135, 139, 147, 156]
theorem hdw233_0 : dualC tFw233 255 tS255 tDw233_0 = true := by kernel_rfl
theorem hiw233_0 : f63d (B tDw233_0) (B tFw233) = some (((0 : Nat) : Int), B tFw233) := by kernel_rfl
theorem hmw233_0 : eqN ((leastP (B tFw233 ++ [(B tDw233_0).getD 0 0#16])).map BitVec.toNat) tFw233_1 = true := by kernel_rfl
theorem how233_0 : okS (B tFw233) := hEw233.2.1
theorem hdw233_1 : dualC tFw233_1 255 tS255 tDw233_1 = true := by kernel_rfl
theorem hiw233_1 : f63d (B tDw233_1) (B tFw233_1) = some (((1 : Nat) : Int), B tFw233_1) := by kernel_rfl
theorem hmw233_1 : eqN ((leastP (B tFw233_1 ++ [(B tDw233_1).getD 1 0#16])).map BitVec.toNat) tFw233_2 = true := by kernel_rfl
theorem how233_1 : okS (B tFw233_1) := okS_next (l := tFw233) (D := tDw233_0) (i := 0) (by kernel_rfl) hmw233_0 (by kernel_rfl)
theorem hdw233_2 : dualC tFw233_2 255 tS255 tDw233_2 = true := by kernel_rfl
theorem hiw233_2 : f63d (B tDw233_2) (B tFw233_2) = some (((2 : Nat) : Int), B tFw233_2) := by kernel_rfl
theorem hmw233_2 : eqN ((leastP (B tFw233_2 ++ [(B tDw233_2).getD 2 0#16])).map BitVec.toNat) tFw233_3 = true := by kernel_rfl
theorem how233_2 : okS (B tFw233_2) := okS_next (l := tFw233_1) (D := tDw233_1) (i := 1) (by kernel_rfl) hmw233_1 (by kernel_rfl)
theorem hdw233_3 : dualC tFw233_3 255 tS255 tDw233_3 = true := by kernel_rfl
theorem hiw233_3 : f63d (B tDw233_3) (B tFw233_3) = some (((3 : Nat) : Int), B tFw233_3) := by kernel_rfl
theorem hmw233_3 : eqN ((leastP (B tFw233_3 ++ [(B tDw233_3).getD 3 0#16])).map BitVec.toNat) tFw233_4 = true := by kernel_rfl
theorem how233_3 : okS (B tFw233_3) := okS_next (l := tFw233_2) (D := tDw233_2) (i := 2) (by kernel_rfl) hmw233_2 (by kernel_rfl)
theorem hdw233_4 : dualC tFw233_4 255 tS255 tDw233_4 = true := by kernel_rfl
theorem hiw233_4 : f63d (B tDw233_4) (B tFw233_4) = some (((4 : Nat) : Int), B tFw233_4) := by kernel_rfl
theorem hmw233_4 : eqN ((leastP (B tFw233_4 ++ [(B tDw233_4).getD 4 0#16])).map BitVec.toNat) tFw233_5 = true := by kernel_rfl
theorem how233_4 : okS (B tFw233_4) := okS_next (l := tFw233_3) (D := tDw233_3) (i := 3) (by kernel_rfl) hmw233_3 (by kernel_rfl)
theorem hdw233_5 : dualC tFw233_5 255 tS255 tDw233_5 = true := by kernel_rfl
theorem hiw233_5 : f63d (B tDw233_5) (B tFw233_5) = some (((5 : Nat) : Int), B tFw233_5) := by kernel_rfl
theorem hmw233_5 : eqN ((leastP (B tFw233_5 ++ [(B tDw233_5).getD 5 0#16])).map BitVec.toNat) tFw233_6 = true := by kernel_rfl
theorem how233_5 : okS (B tFw233_5) := okS_next (l := tFw233_4) (D := tDw233_4) (i := 4) (by kernel_rfl) hmw233_4 (by kernel_rfl)
theorem hdw233_6 : dualC tFw233_6 255 tS255 tDw233_6 = true := by kernel_rfl
theorem hiw233_6 : f63d (B tDw233_6) (B tFw233_6) = some (-1, B tFw233_6) := by kernel_rfl
theorem how233_6 : okS (B tFw233_6) := okS_next (l := tFw233_5) (D := tDw233_5) (i := 5) (by kernel_rfl) hmw233_5 (by kernel_rfl)
theorem hxw233_6 : ExtTo 0 (B tFw233_6) (B tFw233_6) := ext_end how233_6 hS255 hdw233_6 hiw233_6
theorem hxw233_5 : ExtTo 1 (B tFw233_5) (B tFw233_6) := ext_round hxw233_6 how233_5 hS255 hdw233_5 hiw233_5 (by kernel_rfl) (by kernel_rfl) hmw233_5 (by kernel_rfl)
theorem hxw233_4 : ExtTo 2 (B tFw233_4) (B tFw233_6) := ext_round hxw233_5 how233_4 hS255 hdw233_4 hiw233_4 (by kernel_rfl) (by kernel_rfl) hmw233_4 (by kernel_rfl)
theorem hxw233_3 : ExtTo 3 (B tFw233_3) (B tFw233_6) := ext_round hxw233_4 how233_3 hS255 hdw233_3 hiw233_3 (by kernel_rfl) (by kernel_rfl) hmw233_3 (by kernel_rfl)
theorem hxw233_2 : ExtTo 4 (B tFw233_2) (B tFw233_6) := ext_round hxw233_3 how233_2 hS255 hdw233_2 hiw233_2 (by kernel_rfl) (by kernel_rfl) hmw233_2 (by kernel_rfl)
theorem hxw233_1 : ExtTo 5 (B tFw233_1) (B tFw233_6) := ext_round hxw233_2 how233_1 hS255 hdw233_1 hiw233_1 (by kernel_rfl) (by kernel_rfl) hmw233_1 (by kernel_rfl)
theorem hxw233_0 : ExtTo 6 (B tFw233) (B tFw233_6) := ext_round hxw233_1 how233_0 hS255 hdw233_0 hiw233_0 (by kernel_rfl) (by kernel_rfl) hmw233_0 (by kernel_rfl)
theorem hPw233 : PE tXw233 26 (B tFw233) (B tFw233_6) := pe_lit hEw233 (by kernel_rfl) hxw233_0 (by omega) (by kernel_rfl) how233_6 hS255 (show dualC tFw233_6 255 tS255 tFw233_6 = true by kernel_rfl)
def tS1 : List Nat := [0, 1]
theorem hS1 : subsN 1 = tS1 := eqN_eq (by kernel_rfl)
def tXt1 : List Nod := [(1, 0, 0, [], [])]
def tFt1 : List Nat := [1]
theorem hXt1 : f21 1 = some (tXt1, 0, 0) := by kernel_rfl
theorem hEt1 : f8 tXt1 0 = some (B tFt1, 0) ∧ okS (B tFt1) ∧ (B tFt1).length ≤ 400 := expr_lit (u := 1) (by kernel_rfl) hS1 (by kernel_rfl) (by kernel_rfl)
def tDt1_0 : List Nat := [1]
theorem hdt1_0 : dualC tFt1 1 tS1 tDt1_0 = true := by kernel_rfl
theorem hit1_0 : f63d (B tDt1_0) (B tFt1) = some (-1, B tFt1) := by kernel_rfl
theorem hot1_0 : okS (B tFt1) := hEt1.2.1
theorem hxt1_0 : ExtTo 0 (B tFt1) (B tFt1) := ext_end hot1_0 hS1 hdt1_0 hit1_0
theorem hPt1 : PE tXt1 0 (B tFt1) (B tFt1) := pe_lit hEt1 (by kernel_rfl) hxt1_0 (by omega) (by kernel_rfl) hot1_0 hS1 (show dualC tFt1 1 tS1 tFt1 = true by kernel_rfl)
def tXt2 : List Nod := [(1, 0, 0, [], []), (1, 1, 0, [], []), (1, 2, 0, [], []), (2, 0, 2, [], [0, 1, 2])]
def tFt2 : List Nat := [3, 5, 6]
theorem hXt2 : f21 2 = some (tXt2, 3, 0) := by kernel_rfl
theorem hEt2 : f8 tXt2 3 = some (B tFt2, 0) ∧ okS (B tFt2) ∧ (B tFt2).length ≤ 400 := expr_lit (u := 7) (by kernel_rfl) hS7 (by kernel_rfl) (by kernel_rfl)
def tDt2_0 : List Nat := [3, 5, 6]
theorem hdt2_0 : dualC tFt2 7 tS7 tDt2_0 = true := by kernel_rfl
theorem hit2_0 : f63d (B tDt2_0) (B tFt2) = some (-1, B tFt2) := by kernel_rfl
theorem hot2_0 : okS (B tFt2) := hEt2.2.1
theorem hxt2_0 : ExtTo 0 (B tFt2) (B tFt2) := ext_end hot2_0 hS7 hdt2_0 hit2_0
theorem hPt2 : PE tXt2 3 (B tFt2) (B tFt2) := pe_lit hEt2 (by kernel_rfl) hxt2_0 (by omega) (by kernel_rfl) hot2_0 hS7 (show dualC tFt2 7 tS7 tFt2 = true by kernel_rfl)
def tXt3 : List Nod := [(1, 0, 0, [], []), (1, 1, 0, [], []), (1, 3, 0, [], []), (1, 4, 0, [], []), (2, 0, 2, [], [1, 2, 3]), (1, 2, 0, [], []), (1, 5, 0, [], []), (1, 6, 0, [], []), (2, 0, 2, [], [5, 6, 7]), (2, 0, 2, [], [0, 4, 8])]
def tFt3 : List Nat := [11, 19, 25, 37, 69, 97, 46, 54, 60, 78, 86, 92, 106, 114, 120]
theorem hXt3 : f21 3 = some (tXt3, 9, 0) := by kernel_rfl
theorem hEt3 : f8 tXt3 9 = some (B tFt3, 0) ∧ okS (B tFt3) ∧ (B tFt3).length ≤ 400 := expr_lit (u := 127) (by kernel_rfl) hS127 (by kernel_rfl) (by kernel_rfl)
def tDt3_0 : List Nat := [11, 19, 25, 37, 69, 97, 46, 54, 60, 78, 86, 92, 106, 114, 120]
theorem hdt3_0 : dualC tFt3 127 tS127 tDt3_0 = true := by kernel_rfl
theorem hit3_0 : f63d (B tDt3_0) (B tFt3) = some (-1, B tFt3) := by kernel_rfl
theorem hot3_0 : okS (B tFt3) := hEt3.2.1
theorem hxt3_0 : ExtTo 0 (B tFt3) (B tFt3) := ext_end hot3_0 hS127 hdt3_0 hit3_0
theorem hPt3 : PE tXt3 9 (B tFt3) (B tFt3) := pe_lit hEt3 (by kernel_rfl) hxt3_0 (by omega) (by kernel_rfl) hot3_0 hS127 (show dualC tFt3 127 tS127 tFt3 = true by kernel_rfl)
def tXb0 : List Nod := [(1, 0, 0, [], []), (2, 0, 1, [], [0])]
def tFb0 : List Nat := [1]
theorem hXb0 : f22 1 0 = some (tXb0, 1, 0) := by kernel_rfl
theorem hEb0 : f8 tXb0 1 = some (B tFb0, 0) ∧ okS (B tFb0) ∧ (B tFb0).length ≤ 400 := expr_lit (u := 1) (by kernel_rfl) hS1 (by kernel_rfl) (by kernel_rfl)
def tDb0_0 : List Nat := [1]
theorem hdb0_0 : dualC tFb0 1 tS1 tDb0_0 = true := by kernel_rfl
theorem hib0_0 : f63d (B tDb0_0) (B tFb0) = some (-1, B tFb0) := by kernel_rfl
theorem hob0_0 : okS (B tFb0) := hEb0.2.1
theorem hxb0_0 : ExtTo 0 (B tFb0) (B tFb0) := ext_end hob0_0 hS1 hdb0_0 hib0_0
theorem hPb0 : PE tXb0 1 (B tFb0) (B tFb0) := pe_lit hEb0 (by kernel_rfl) hxb0_0 (by omega) (by kernel_rfl) hob0_0 hS1 (show dualC tFb0 1 tS1 tFb0 = true by kernel_rfl)
def tXb1 : List Nod := [(1, 0, 0, [], []), (1, 1, 0, [], []), (1, 2, 0, [], []), (1, 3, 0, [], []), (2, 0, 3, [], [0, 1, 2, 3])]
def tFb1 : List Nat := [7, 11, 13, 14]
theorem hXb1 : f22 4 1 = some (tXb1, 4, 0) := by kernel_rfl
theorem hEb1 : f8 tXb1 4 = some (B tFb1, 0) ∧ okS (B tFb1) ∧ (B tFb1).length ≤ 400 := expr_lit (u := 15) (by kernel_rfl) hS15 (by kernel_rfl) (by kernel_rfl)
def tDb1_0 : List Nat := [3, 5, 6, 9, 10, 12]
def tFb1_1 : List Nat := [3, 13, 14]
def tDb1_1 : List Nat := [3, 5, 6, 9, 10]
def tFb1_2 : List Nat := [3, 5, 14]
def tDb1_2 : List Nat := [3, 5, 6, 9]
def tFb1_3 : List Nat := [3, 5, 6]
def tDb1_3 : List Nat := [3, 5, 6]
theorem hdb1_0 : dualC tFb1 15 tS15 tDb1_0 = true := by kernel_rfl
theorem hib1_0 : f63d (B tDb1_0) (B tFb1) = some (((0 : Nat) : Int), B tFb1) := by kernel_rfl
theorem hmb1_0 : eqN ((leastP (B tFb1 ++ [(B tDb1_0).getD 0 0#16])).map BitVec.toNat) tFb1_1 = true := by kernel_rfl
theorem hob1_0 : okS (B tFb1) := hEb1.2.1
theorem hdb1_1 : dualC tFb1_1 15 tS15 tDb1_1 = true := by kernel_rfl
theorem hib1_1 : f63d (B tDb1_1) (B tFb1_1) = some (((1 : Nat) : Int), B tFb1_1) := by kernel_rfl
theorem hmb1_1 : eqN ((leastP (B tFb1_1 ++ [(B tDb1_1).getD 1 0#16])).map BitVec.toNat) tFb1_2 = true := by kernel_rfl
theorem hob1_1 : okS (B tFb1_1) := okS_next (l := tFb1) (D := tDb1_0) (i := 0) (by kernel_rfl) hmb1_0 (by kernel_rfl)
theorem hdb1_2 : dualC tFb1_2 15 tS15 tDb1_2 = true := by kernel_rfl
theorem hib1_2 : f63d (B tDb1_2) (B tFb1_2) = some (((2 : Nat) : Int), B tFb1_2) := by kernel_rfl
theorem hmb1_2 : eqN ((leastP (B tFb1_2 ++ [(B tDb1_2).getD 2 0#16])).map BitVec.toNat) tFb1_3 = true := by kernel_rfl
theorem hob1_2 : okS (B tFb1_2) := okS_next (l := tFb1_1) (D := tDb1_1) (i := 1) (by kernel_rfl) hmb1_1 (by kernel_rfl)
theorem hdb1_3 : dualC tFb1_3 7 tS7 tDb1_3 = true := by kernel_rfl
theorem hib1_3 : f63d (B tDb1_3) (B tFb1_3) = some (-1, B tFb1_3) := by kernel_rfl
theorem hob1_3 : okS (B tFb1_3) := okS_next (l := tFb1_2) (D := tDb1_2) (i := 2) (by kernel_rfl) hmb1_2 (by kernel_rfl)
theorem hxb1_3 : ExtTo 0 (B tFb1_3) (B tFb1_3) := ext_end hob1_3 hS7 hdb1_3 hib1_3
theorem hxb1_2 : ExtTo 1 (B tFb1_2) (B tFb1_3) := ext_round hxb1_3 hob1_2 hS15 hdb1_2 hib1_2 (by kernel_rfl) (by kernel_rfl) hmb1_2 (by kernel_rfl)
theorem hxb1_1 : ExtTo 2 (B tFb1_1) (B tFb1_3) := ext_round hxb1_2 hob1_1 hS15 hdb1_1 hib1_1 (by kernel_rfl) (by kernel_rfl) hmb1_1 (by kernel_rfl)
theorem hxb1_0 : ExtTo 3 (B tFb1) (B tFb1_3) := ext_round hxb1_1 hob1_0 hS15 hdb1_0 hib1_0 (by kernel_rfl) (by kernel_rfl) hmb1_0 (by kernel_rfl)
theorem hPb1 : PE tXb1 4 (B tFb1) (B tFb1_3) := pe_lit hEb1 (by kernel_rfl) hxb1_0 (by omega) (by kernel_rfl) hob1_3 hS7 (show dualC tFb1_3 7 tS7 tFb1_3 = true by kernel_rfl)
def tXb2 : List Nod := [(1, 0, 0, [], []), (1, 1, 0, [], []), (1, 2, 0, [], []), (1, 3, 0, [], []), (1, 4, 0, [], []), (1, 5, 0, [], []), (1, 6, 0, [], []), (2, 0, 5, [], [0, 1, 2, 3, 4, 5, 6])]
def tFb2 : List Nat := [31, 47, 55, 59, 61, 62, 79, 87, 91, 93, 94, 103, 107, 109, 110, 115, 117, 118, 121, 122, 124]
theorem hXb2 : f22 7 2 = some (tXb2, 7, 0) := by kernel_rfl
theorem hEb2 : f8 tXb2 7 = some (B tFb2, 0) ∧ okS (B tFb2) ∧ (B tFb2).length ≤ 400 := expr_lit (u := 127) (by kernel_rfl) hS127 (by kernel_rfl) (by kernel_rfl)
def tDb2_0 : List Nat := [7, 11, 13, 14, 19, 21, 22, 25, 26, 28, 35, 37, 38, 41, 42, 44, 49, 50, 52, 56, 67, 69, 70, 73, 74, 76, 81, 82, 84, 88, 97, 98, 100, 104, 112]
def tFb2_1 : List Nat := [7, 59, 61, 62, 91, 93, 94, 107, 109, 110, 115, 117, 118, 121, 122, 124]
def tDb2_1 : List Nat := [7, 11, 13, 14, 19, 21, 22, 25, 26, 28, 35, 37, 38, 41, 42, 44, 49, 50, 52, 67, 69, 70, 73, 74, 76, 81, 82, 84, 97, 98, 100]
def tFb2_2 : List Nat := [7, 11, 61, 62, 93, 94, 109, 110, 115, 117, 118, 121, 122, 124]
def tDb2_2 : List Nat := [7, 11, 13, 14, 19, 21, 22, 25, 26, 28, 35, 37, 38, 41, 42, 44, 49, 50, 67, 69, 70, 73, 74, 76, 81, 82, 97, 98]
def tFb2_3 : List Nat := [7, 11, 13, 62, 94, 110, 115, 117, 118, 121, 122, 124]
def tDb2_3 : List Nat := [7, 11, 13, 14, 19, 21, 22, 25, 26, 28, 35, 37, 38, 41, 42, 44, 49, 67, 69, 70, 73, 74, 76, 81, 97]
def tFb2_4 : List Nat := [7, 11, 13, 14, 115, 117, 118, 121, 122, 124]
def tDb2_4 : List Nat := [7, 11, 13, 14, 19, 21, 22, 25, 26, 28, 35, 37, 38, 41, 42, 44, 67, 69, 70, 73, 74, 76]
def tFb2_5 : List Nat := [7, 11, 13, 14, 19, 117, 118, 121, 122, 124]
def tDb2_5 : List Nat := [7, 11, 13, 14, 19, 21, 22, 25, 26, 28, 35, 37, 38, 41, 42, 67, 69, 70, 73, 74]
def tFb2_6 : List Nat := [7, 11, 13, 14, 19, 21, 118, 121, 122, 124]
def tDb2_6 : List Nat := [7, 11, 13, 14, 19, 21, 22, 25, 26, 28, 35, 37, 38, 41, 67, 69, 70, 73]
def tFb2_7 : List Nat := [7, 11, 13, 14, 19, 21, 22, 121, 122, 124]
def tDb2_7 : List Nat := [7, 11, 13, 14, 19, 21, 22, 25, 26, 28, 35, 37, 38, 67, 69, 70]
def tFb2_8 : List Nat := [7, 11, 13, 14, 19, 21, 22, 25, 122, 124]
def tDb2_8 : List Nat := [7, 11, 13, 14, 19, 21, 22, 25, 26, 28, 35, 37, 67, 69]
def tFb2_9 : List Nat := [7, 11, 13, 14, 19, 21, 22, 25, 26, 124]
def tDb2_9 : List Nat := [7, 11, 13, 14, 19, 21, 22, 25, 26, 28, 35, 67]
def tFb2_10 : List Nat := [7, 11, 13, 14, 19, 21, 22, 25, 26, 28]
def tDb2_10 : List Nat := [7, 11, 13, 14, 19, 21, 22, 25, 26, 28]
theorem hdb2_0 : dualC tFb2 127 tS127 tDb2_0 = true := by kernel_rfl
theorem hib2_0 : f63d (B tDb2_0) (B tFb2) = some (((0 : Nat) : Int), B tFb2) := by kernel_rfl
theorem hmb2_0 : eqN ((leastP (B tFb2 ++ [(B tDb2_0).getD 0 0#16])).map BitVec.toNat) tFb2_1 = true := by kernel_rfl
theorem hob2_0 : okS (B tFb2) := hEb2.2.1
theorem hdb2_1 : dualC tFb2_1 127 tS127 tDb2_1 = true := by kernel_rfl
theorem hib2_1 : f63d (B tDb2_1) (B tFb2_1) = some (((1 : Nat) : Int), B tFb2_1) := by kernel_rfl
theorem hmb2_1 : eqN ((leastP (B tFb2_1 ++ [(B tDb2_1).getD 1 0#16])).map BitVec.toNat) tFb2_2 = true := by kernel_rfl
theorem hob2_1 : okS (B tFb2_1) := okS_next (l := tFb2) (D := tDb2_0) (i := 0) (by kernel_rfl) hmb2_0 (by kernel_rfl)
theorem hdb2_2 : dualC tFb2_2 127 tS127 tDb2_2 = true := by kernel_rfl
theorem hib2_2 : f63d (B tDb2_2) (B tFb2_2) = some (((2 : Nat) : Int), B tFb2_2) := by kernel_rfl
theorem hmb2_2 : eqN ((leastP (B tFb2_2 ++ [(B tDb2_2).getD 2 0#16])).map BitVec.toNat) tFb2_3 = true := by kernel_rfl
theorem hob2_2 : okS (B tFb2_2) := okS_next (l := tFb2_1) (D := tDb2_1) (i := 1) (by kernel_rfl) hmb2_1 (by kernel_rfl)
theorem hdb2_3 : dualC tFb2_3 127 tS127 tDb2_3 = true := by kernel_rfl
theorem hib2_3 : f63d (B tDb2_3) (B tFb2_3) = some (((3 : Nat) : Int), B tFb2_3) := by kernel_rfl
theorem hmb2_3 : eqN ((leastP (B tFb2_3 ++ [(B tDb2_3).getD 3 0#16])).map BitVec.toNat) tFb2_4 = true := by kernel_rfl
theorem hob2_3 : okS (B tFb2_3) := okS_next (l := tFb2_2) (D := tDb2_2) (i := 2) (by kernel_rfl) hmb2_2 (by kernel_rfl)
theorem hdb2_4 : dualC tFb2_4 127 tS127 tDb2_4 = true := by kernel_rfl
theorem hib2_4 : f63d (B tDb2_4) (B tFb2_4) = some (((4 : Nat) : Int), B tFb2_4) := by kernel_rfl
theorem hmb2_4 : eqN ((leastP (B tFb2_4 ++ [(B tDb2_4).getD 4 0#16])).map BitVec.toNat) tFb2_5 = true := by kernel_rfl
theorem hob2_4 : okS (B tFb2_4) := okS_next (l := tFb2_3) (D := tDb2_3) (i := 3) (by kernel_rfl) hmb2_3 (by kernel_rfl)
theorem hdb2_5 : dualC tFb2_5 127 tS127 tDb2_5 = true := by kernel_rfl
theorem hib2_5 : f63d (B tDb2_5) (B tFb2_5) = some (((5 : Nat) : Int), B tFb2_5) := by kernel_rfl
theorem hmb2_5 : eqN ((leastP (B tFb2_5 ++ [(B tDb2_5).getD 5 0#16])).map BitVec.toNat) tFb2_6 = true := by kernel_rfl
theorem hob2_5 : okS (B tFb2_5) := okS_next (l := tFb2_4) (D := tDb2_4) (i := 4) (by kernel_rfl) hmb2_4 (by kernel_rfl)
theorem hdb2_6 : dualC tFb2_6 127 tS127 tDb2_6 = true := by kernel_rfl
theorem hib2_6 : f63d (B tDb2_6) (B tFb2_6) = some (((6 : Nat) : Int), B tFb2_6) := by kernel_rfl
theorem hmb2_6 : eqN ((leastP (B tFb2_6 ++ [(B tDb2_6).getD 6 0#16])).map BitVec.toNat) tFb2_7 = true := by kernel_rfl
theorem hob2_6 : okS (B tFb2_6) := okS_next (l := tFb2_5) (D := tDb2_5) (i := 5) (by kernel_rfl) hmb2_5 (by kernel_rfl)
theorem hdb2_7 : dualC tFb2_7 127 tS127 tDb2_7 = true := by kernel_rfl
theorem hib2_7 : f63d (B tDb2_7) (B tFb2_7) = some (((7 : Nat) : Int), B tFb2_7) := by kernel_rfl
theorem hmb2_7 : eqN ((leastP (B tFb2_7 ++ [(B tDb2_7).getD 7 0#16])).map BitVec.toNat) tFb2_8 = true := by kernel_rfl
theorem hob2_7 : okS (B tFb2_7) := okS_next (l := tFb2_6) (D := tDb2_6) (i := 6) (by kernel_rfl) hmb2_6 (by kernel_rfl)
theorem hdb2_8 : dualC tFb2_8 127 tS127 tDb2_8 = true := by kernel_rfl
theorem hib2_8 : f63d (B tDb2_8) (B tFb2_8) = some (((8 : Nat) : Int), B tFb2_8) := by kernel_rfl
theorem hmb2_8 : eqN ((leastP (B tFb2_8 ++ [(B tDb2_8).getD 8 0#16])).map BitVec.toNat) tFb2_9 = true := by kernel_rfl
theorem hob2_8 : okS (B tFb2_8) := okS_next (l := tFb2_7) (D := tDb2_7) (i := 7) (by kernel_rfl) hmb2_7 (by kernel_rfl)
theorem hdb2_9 : dualC tFb2_9 127 tS127 tDb2_9 = true := by kernel_rfl
theorem hib2_9 : f63d (B tDb2_9) (B tFb2_9) = some (((9 : Nat) : Int), B tFb2_9) := by kernel_rfl
theorem hmb2_9 : eqN ((leastP (B tFb2_9 ++ [(B tDb2_9).getD 9 0#16])).map BitVec.toNat) tFb2_10 = true := by kernel_rfl
theorem hob2_9 : okS (B tFb2_9) := okS_next (l := tFb2_8) (D := tDb2_8) (i := 8) (by kernel_rfl) hmb2_8 (by kernel_rfl)
theorem hdb2_10 : dualC tFb2_10 31 tS31 tDb2_10 = true := by kernel_rfl
theorem hib2_10 : f63d (B tDb2_10) (B tFb2_10) = some (-1, B tFb2_10) := by kernel_rfl
theorem hob2_10 : okS (B tFb2_10) := okS_next (l := tFb2_9) (D := tDb2_9) (i := 9) (by kernel_rfl) hmb2_9 (by kernel_rfl)
theorem hxb2_10 : ExtTo 0 (B tFb2_10) (B tFb2_10) := ext_end hob2_10 hS31 hdb2_10 hib2_10
theorem hxb2_9 : ExtTo 1 (B tFb2_9) (B tFb2_10) := ext_round hxb2_10 hob2_9 hS127 hdb2_9 hib2_9 (by kernel_rfl) (by kernel_rfl) hmb2_9 (by kernel_rfl)
theorem hxb2_8 : ExtTo 2 (B tFb2_8) (B tFb2_10) := ext_round hxb2_9 hob2_8 hS127 hdb2_8 hib2_8 (by kernel_rfl) (by kernel_rfl) hmb2_8 (by kernel_rfl)
theorem hxb2_7 : ExtTo 3 (B tFb2_7) (B tFb2_10) := ext_round hxb2_8 hob2_7 hS127 hdb2_7 hib2_7 (by kernel_rfl) (by kernel_rfl) hmb2_7 (by kernel_rfl)
theorem hxb2_6 : ExtTo 4 (B tFb2_6) (B tFb2_10) := ext_round hxb2_7 hob2_6 hS127 hdb2_6 hib2_6 (by kernel_rfl) (by kernel_rfl) hmb2_6 (by kernel_rfl)
theorem hxb2_5 : ExtTo 5 (B tFb2_5) (B tFb2_10) := ext_round hxb2_6 hob2_5 hS127 hdb2_5 hib2_5 (by kernel_rfl) (by kernel_rfl) hmb2_5 (by kernel_rfl)
theorem hxb2_4 : ExtTo 6 (B tFb2_4) (B tFb2_10) := ext_round hxb2_5 hob2_4 hS127 hdb2_4 hib2_4 (by kernel_rfl) (by kernel_rfl) hmb2_4 (by kernel_rfl)
theorem hxb2_3 : ExtTo 7 (B tFb2_3) (B tFb2_10) := ext_round hxb2_4 hob2_3 hS127 hdb2_3 hib2_3 (by kernel_rfl) (by kernel_rfl) hmb2_3 (by kernel_rfl)
theorem hxb2_2 : ExtTo 8 (B tFb2_2) (B tFb2_10) := ext_round hxb2_3 hob2_2 hS127 hdb2_2 hib2_2 (by kernel_rfl) (by kernel_rfl) hmb2_2 (by kernel_rfl)
theorem hxb2_1 : ExtTo 9 (B tFb2_1) (B tFb2_10) := ext_round hxb2_2 hob2_1 hS127 hdb2_1 hib2_1 (by kernel_rfl) (by kernel_rfl) hmb2_1 (by kernel_rfl)
theorem hxb2_0 : ExtTo 10 (B tFb2) (B tFb2_10) := ext_round hxb2_1 hob2_0 hS127 hdb2_0 hib2_0 (by kernel_rfl) (by kernel_rfl) hmb2_0 (by kernel_rfl)
theorem hPb2 : PE tXb2 7 (B tFb2) (B tFb2_10) := pe_lit hEb2 (by kernel_rfl) hxb2_0 (by omega) (by kernel_rfl) hob2_10 hS31 (show dualC tFb2_10 31 tS31 tFb2_10 = true by kernel_rfl)
end Go.Abs
namespace Go.Abs
theorem wallE (a b c : Int) (ha : a = 1 ∨ a = 2) (hb : b = 1 ∨ b = 2 ∨ b = 3) (hc : c = 1 ∨ c = 2 ∨ c = 3) : ∃ X R l m, f20 [a, b, c] = some (X, R, 0) ∧ PE X R l m := by
  rcases ha with rfl | rfl <;> rcases hb with rfl | rfl | rfl <;> rcases hc with rfl | rfl | rfl
  · exact ⟨_, _, _, _, hXw111, hPw111⟩
  · exact ⟨_, _, _, _, hXw112, hPw112⟩
  · exact ⟨_, _, _, _, hXw113, hPw113⟩
  · exact ⟨_, _, _, _, hXw121, hPw121⟩
  · exact ⟨_, _, _, _, hXw122, hPw122⟩
  · exact ⟨_, _, _, _, hXw123, hPw123⟩
  · exact ⟨_, _, _, _, hXw131, hPw131⟩
  · exact ⟨_, _, _, _, hXw132, hPw132⟩
  · exact ⟨_, _, _, _, hXw133, hPw133⟩
  · exact ⟨_, _, _, _, hXw211, hPw211⟩
  · exact ⟨_, _, _, _, hXw212, hPw212⟩
  · exact ⟨_, _, _, _, hXw213, hPw213⟩
  · exact ⟨_, _, _, _, hXw221, hPw221⟩
  · exact ⟨_, _, _, _, hXw222, hPw222⟩
  · exact ⟨_, _, _, _, hXw223, hPw223⟩
  · exact ⟨_, _, _, _, hXw231, hPw231⟩
  · exact ⟨_, _, _, _, hXw232, hPw232⟩
  · exact ⟨_, _, _, _, hXw233, hPw233⟩
theorem treeE (a : Int) (ha : a = 1 ∨ a = 2 ∨ a = 3) : ∃ X R l, f21 a = some (X, R, 0) ∧ PE X R l l := by
  rcases ha with rfl | rfl | rfl
  · exact ⟨_, _, _, hXt1, hPt1⟩
  · exact ⟨_, _, _, hXt2, hPt2⟩
  · exact ⟨_, _, _, hXt3, hPt3⟩
theorem byz_lit {F : List Nat} (h : ltAll F = true) (k : Nat) (hk : (F.all fun s => Nat.ble (k + 1) (cntB (Nat.land s (F.getD 0 0)) 16)) = true) : ∀ a, a ∈ B F → k + 1 ≤ sz (a &&& (B F).getD 0 0#16) := by
  intro a ha
  have hm : a.toNat ∈ (B F).map BitVec.toNat := List.mem_map_of_mem ha
  rw [B_toNat h] at hm
  have e := List.all_eq_true.1 hk _ hm
  rw [Nat.ble_eq] at e
  have e0 : ((B F).getD 0 0#16).toNat = F.getD 0 0 := by
    have := congrArg (fun l : List Nat => l.getD 0 0) (B_toNat h)
    rw [← this]
    cases F <;> rfl
  rw [← cntB_sz, BitVec.toNat_and, e0]
  exact e
theorem byzE (k : Nat) (hk : k = 0 ∨ k = 1 ∨ k = 2) : ∃ X R l m, f22 (3 * (k : Int) + 1) (k : Int) = some (X, R, 0) ∧ PE X R l m ∧ ∀ a, a ∈ l → k + 1 ≤ sz (a &&& l.getD 0 0#16) := by
  rcases hk with rfl | rfl | rfl
  · exact ⟨_, _, _, _, hXb0, hPb0, byz_lit (by kernel_rfl) 0 (by kernel_rfl)⟩
  · exact ⟨_, _, _, _, hXb1, hPb1, byz_lit (by kernel_rfl) 1 (by kernel_rfl)⟩
  · exact ⟨_, _, _, _, hXb2, hPb2, byz_lit (by kernel_rfl) 2 (by kernel_rfl)⟩
theorem f5_L1_eq (x5 : Int) (n9 : Nat) (K2 : Unit → Option Bool) (l : List (BitVec 16)) (e : Int) (hl : l.length ≤ 400) (kk : Nat) (hk : x5 % 3 = (kk : Int)) (h2 : n9 = 2 → ∀ a, a ∈ l → kk + 1 ≤ sz (a &&& l.getD 0 0#16)) : ∀ c q n, n + c = l.length → c < q → f5_L1 x5 n9 K2 (l, e) q n = K2 () := by
  intro c
  induction c with
  | zero =>
    intro q n hn hq
    obtain ⟨q, rfl⟩ : ∃ z, q = z + 1 := ⟨q - 1, by omega⟩
    rw [f5_L1.eq_2, ifd_neg (by dsimp only; omega)]
  | succ c ih =>
    intro q n hn hq
    obtain ⟨q, rfl⟩ : ∃ z, q = z + 1 := ⟨q - 1, by omega⟩
    rw [f5_L1.eq_2, ifd_pos (by dsimp only; omega), chk_pos (by dsimp only; omega)]
    dsimp only
    by_cases h9 : n9 = 2
    · have hs := h2 h9 (l.getD n 0#16) (getD_memS (by omega))
      have e1 : ((n9 : Int) == 2) = true := by rw [h9]; rfl
      rw [e1, show ((true : Bool) == true) = true from rfl, optc_t, f17_eq, some_bind, chk_pos (by intro; omega), hk, chk_pos (by intro; omega), if_neg (by rw [Bool.true_and, decide_eq_true_iff]; omega), chk_pos (by omega), ih q (n + 1) (by omega) (by omega)]
    · have e1 : ((n9 : Int) == 2) = false := by rw [Bool.eq_false_iff]; intro h; rw [beq_iff_eq] at h; omega
      rw [e1, show ((false : Bool) == true) = false from rfl, optc_f, chk_pos (by intro h; cases h), chk_pos (by intro h; cases h), if_neg (by simp), chk_pos (by omega), ih q (n + 1) (by omega) (by omega)]
theorem f5_step (x5 : Int) (r6 r7 r8 : List Nod × Int × Int) (K1 : Unit → Option Bool) (k n9 : Nat) (h9 : n9 < 3) (X : List Nod) (R : Int) (l m : List (BitVec 16)) (hX : [(r6.1, r6.2.1), (r7.1, r7.2.1), (r8.1, r8.2.1)].getD n9 default = (X, R)) (hP : PE X R l m) (h1 : n9 = 1 → l = m) (kk : Nat) (hk : x5 % 3 = (kk : Int)) (h2 : n9 = 2 → ∀ a, a ∈ l → kk + 1 ≤ sz (a &&& l.getD 0 0#16)) :
    f5_L0 x5 r6 r7 r8 K1 (k + 1) n9 = f5_L0 x5 r6 r7 r8 K1 k (n9 + 1) := by
  obtain ⟨p1, p2, p3, p4, p5, p6, p7⟩ := hP
  rw [f5_L0.eq_2, ifd_pos (by omega), jn_eq, chk_pos (by simp; omega), chk_pos (by simp; omega), hX]
  dsimp only
  rw [p1, some_bind]
  dsimp only
  rw [show (((0 : Int) != 0) == false) = true from rfl, optc_t, p2, some_bind, if_neg (by simp), p3, some_bind]
  dsimp only
  rw [show (((0 : Int) != 0) == false) = true from rfl, optc_t, p4, some_bind, show ((((0 : Int) != 0) || (!true)) == false) = true from rfl, optc_t, p5, some_bind]
  by_cases hn : n9 = 1
  · have e1 : ((n9 : Int) == 1) = true := by rw [hn]; rfl
    rw [e1, show ((((((0 : Int) != 0) || (!true)) || (!true)) == false) && ((true : Bool) == true)) = true from rfl, optc_t, f14_eq _ _ (by omega), some_bind, h1 hn, chk_pos (by intros; rfl), if_neg (by simp)]
    rw [← h1 hn, f5_L1_eq x5 n9 _ l 0 p6 kk hk h2 l.length FUEL 0 (by omega) (fuel_lt (by omega)), chk_pos (by omega)]
  · have e1 : ((n9 : Int) == 1) = false := by rw [Bool.eq_false_iff]; intro h; rw [beq_iff_eq] at h; omega
    rw [e1, show ((((((0 : Int) != 0) || (!true)) || (!true)) == false) && ((false : Bool) == true)) = false from rfl, optc_f, chk_pos (by intro _ _ h; cases h), if_neg (by simp)]
    rw [f5_L1_eq x5 n9 _ l 0 p6 kk hk h2 l.length FUEL 0 (by omega) (fuel_lt (by omega)), chk_pos (by omega)]
theorem f5_true (x1 x2 x3 x4 x5 : Int) (a1 : 0 ≤ x1 ∧ x1 ≤ 255) (a2 : 0 ≤ x2 ∧ x2 ≤ 255) (a3 : 0 ≤ x3 ∧ x3 ≤ 255) (a4 : 0 ≤ x4) (b4 : x4 ≤ 255) (a5 : 0 ≤ x5) (b5 : x5 ≤ 255) : f5 x1 x2 x3 x4 x5 = some true := by
  obtain ⟨X, R, l, m, e1, p1⟩ := wallE (1 + x1 % 2) (1 + x2 % 3) (1 + x3 % 3) (by omega) (by omega) (by omega)
  obtain ⟨X', R', l', e2, p2⟩ := treeE (1 + x4 % 3) (by omega)
  obtain ⟨kk, hk⟩ : ∃ kk : Nat, x5 % 3 = (kk : Int) := ⟨(x5 % 3).toNat, by omega⟩
  obtain ⟨X'', R'', l'', m'', e3, p3, p4⟩ := byzE kk (by omega)
  unfold f5
  rw [e1, some_bind, chk_pos (by omega), chk_pos (by omega), chk_pos (by omega), chk_pos (by omega), chk_pos (by omega), chk_pos (by omega), chk_pos (by omega), chk_pos (by omega), chk_pos (by omega), e2, some_bind, chk_pos (by omega), chk_pos (by omega), chk_pos (by omega), chk_pos (by omega), chk_pos (by omega), hk, e3, some_bind, chk_pos (by omega), chk_pos (by omega), if_neg (by simp), jn_eq]
  obtain ⟨q, hq⟩ : ∃ q, FUEL = q + 1 + 1 + 1 + 1 := ⟨FUEL - 4, rfl⟩
  rw [hq, f5_step x5 _ _ _ _ _ 0 (by omega) X R l m rfl p1 (by omega) kk hk (by omega), f5_step x5 _ _ _ _ _ 1 (by omega) X' R' l' l' rfl p2 (fun _ => rfl) kk hk (by omega), f5_step x5 _ _ _ _ _ 2 (by omega) X'' R'' l'' m'' rfl p3 (by omega) kk hk (fun _ => p4), f5_L0.eq_2, ifd_neg (by omega)]
end Go.Abs
