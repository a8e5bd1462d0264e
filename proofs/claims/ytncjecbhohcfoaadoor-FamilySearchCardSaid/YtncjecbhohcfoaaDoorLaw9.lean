/- FamilySearch: the plain law. -/
import Derived.Test.YtncjecbhohcfoaaDoorVal08
import Derived.Test.YtncjecbhohcfoaaDoorLaw4
import Derived.Test.YtncjecbhohcfoaaDoorAw08
namespace Go.Abs
/-! ### the subsets in the program's order -/
def lowB (i : Int) : Int := bitsI .and .u32 i (IntKind.wrap .u32 (0 - i))
/-- the next number with as many bits -/
def gosN (i : Int) : Int := bitsI .or .u32 (i + lowB i) ((bitsI .xor .u32 i (i + lowB i)) / lowB i / 2 ^ 2)
def gosC (i : Int) : Bool := decide (0 ≤ i + lowB i ∧ i + lowB i ≤ 4294967295) && decide (0 ≤ bitsI .xor .u32 i (i + lowB i) ∧ 1 ≤ lowB i ∧ 0 ≤ bitsI .xor .u32 i (i + lowB i) / lowB i ∧ bitsI .xor .u32 i (i + lowB i) / lowB i ≤ 4294967295)
/-- the set of the bits of i -/
def wS (i : Int) : Nat → Nat → BitVec 16 → BitVec 16
  | 0, _, w => w
  | c + 1, m, w => wS i c (m + 1) (if (bitsI .and .u32 (i / 2 ^ m) 1 == 1) = true then w ||| ((BitVec.ofInt 16 1) <<< m) else w)
def gseq (n : Nat) : Nat → Int → Option (List (BitVec 16))
  | 0, _ => none
  | k + 1, i => if i < 1 * 2 ^ n then (if (i == 0) = true then some [wS i n 0 0#16] else if gosC i = true then (gseq n k (gosN i)).map (wS i n 0 0#16 :: ·) else none) else some []
/-- all subsets, size by size from k on -/
def allG (G : Nat → Option (List (BitVec 16))) : Nat → Nat → Option (List (BitVec 16))
  | 0, _ => some []
  | c + 1, k => (G k).bind fun a => (allG G c (k + 1)).map (a ++ ·)
def oneK (n k : Nat) : Option (List (BitVec 16)) := gseq n 200 (1 * 2 ^ k - 1)
def allK (n c k : Nat) : Option (List (BitVec 16)) := allG (oneK n) c k
def stepS (l g : List (BitVec 16)) (s : BitVec 16) : List (BitVec 16) := if (acc l s && !acc g s) = true then g ++ [s] else g
theorem stepS_pos {l g : List (BitVec 16)} {s : BitVec 16} (h : (acc l s && !acc g s) = true) : stepS l g s = g ++ [s] := if_pos h
theorem stepS_neg {l g : List (BitVec 16)} {s : BitVec 16} (h : ¬ (acc l s && !acc g s) = true) : stepS l g s = g := if_neg h
/-- until m sets are found -/
def runS (l : List (BitVec 16)) (m : Nat) : List (BitVec 16) → List (BitVec 16) → Bool × List (BitVec 16)
  | [], g => (true, g)
  | s :: S, g => if (acc l s && !acc g s) = true then (if g.length + 1 = m then (false, g ++ [s]) else runS l m S (g ++ [s])) else runS l m S g
theorem runS_cons (l : List (BitVec 16)) (m : Nat) (s : BitVec 16) (S g : List (BitVec 16)) : runS l m (s :: S) g = if (acc l s && !acc g s) = true then (if g.length + 1 = m then (false, g ++ [s]) else runS l m S (g ++ [s])) else runS l m S g := rfl
theorem stepS_take (l : List (BitVec 16)) (m : Nat) : ∀ (S g : List (BitVec 16)), m ≤ g.length → ∃ t, S.foldl (stepS l) g = g ++ t
  | [], g, _ => ⟨[], by simp⟩
  | s :: S, g, h => by
    by_cases hc : (acc l s && !acc g s) = true
    · obtain ⟨t, ht⟩ := stepS_take l m S (g ++ [s]) (by simp; omega)
      exact ⟨s :: t, by rw [List.foldl_cons, stepS_pos hc, ht]; simp⟩
    · obtain ⟨t, ht⟩ := stepS_take l m S g h
      exact ⟨t, by rw [List.foldl_cons, stepS_neg hc, ht]⟩
theorem runS_take (l : List (BitVec 16)) (m : Nat) : ∀ (S g : List (BitVec 16)), g.length < m → (runS l m S g).2 = (S.foldl (stepS l) g).take m ∧ (runS l m S g).2.length ≤ m ∧ ((runS l m S g).1 = true → (runS l m S g).2.length < m)
  | [], g, h => by
    refine ⟨?_, by simp [runS]; omega, fun _ => by simpa [runS] using h⟩
    simp only [runS, List.foldl_nil]
    rw [List.take_of_length_le (by omega)]
  | s :: S, g, h => by
    rw [runS_cons, List.foldl_cons]
    by_cases hc : (acc l s && !acc g s) = true
    · rw [if_pos hc, stepS_pos hc]
      by_cases hm : g.length + 1 = m
      · rw [if_pos hm]
        obtain ⟨t, ht⟩ := stepS_take l m S (g ++ [s]) (by simp; omega)
        refine ⟨?_, by simp; omega, fun h => by cases h⟩
        show g ++ [s] = (S.foldl (stepS l) (g ++ [s])).take m
        rw [ht, List.take_append_of_le_length (by simp; omega), List.take_of_length_le (by simp; omega)]
      · rw [if_neg hm]
        exact runS_take l m S (g ++ [s]) (by simp; omega)
    · rw [if_neg hc, stepS_neg hc]
      exact runS_take l m S g h
theorem runS_app (l : List (BitVec 16)) (m : Nat) : ∀ (S S' g : List (BitVec 16)), runS l m (S ++ S') g = match runS l m S g with | (true, g') => runS l m S' g' | (false, g') => (false, g')
  | [], S', g => rfl
  | s :: S, S', g => by
    rw [List.cons_append, runS_cons, runS_cons]
    split
    · split
      · rfl
      · exact runS_app l m S S' _
    · exact runS_app l m S S' g
/-! ### the callbacks -/
def mostN (q : Int) : Nat := (1 + q % 20).toNat
theorem y2_eq (l g : List (BitVec 16)) (q n : Int) (x : BitVec 16) (hq : 0 ≤ q) (hq2 : q ≤ 255) (hg : g.length ≤ 60) :
    f9_Y70002 (l, q, n, g) x = some (if g.length + 1 = mostN q then 2 else 0, (l, q, n, g ++ [x])) := by
  show chk _ _ = _
  rw [chk_pos (by omega), chk_pos (by omega), chk_pos (by omega), chk_pos (by omega)]
  unfold mostN
  by_cases h : g.length + 1 = (1 + q % 20).toNat
  · rw [if_pos (by simp; omega), if_pos h]
  · rw [if_neg (by simp; omega), if_neg h]
theorem f35_eq (x : BitVec 16) (l : List (BitVec 16)) (hl : l.length ≤ 65536) : f35 x l = some (acc l x, l) := by
  unfold f35; rw [f29_eq l x hl, some_bind]
theorem y3_eq (l g : List (BitVec 16)) (q n : Int) (w x : BitVec 16) (hq : 0 ≤ q) (hq2 : q ≤ 255) (hg : g.length ≤ 60) (hl : l.length ≤ 60) :
    f57_Y70003 f9_Y70002 (l, q, g, n, g, w, 0) x = some (if (acc l x && !acc g x) = true then (if g.length + 1 = mostN q then (2, (l, q, g ++ [x], n, g ++ [x], w, 2)) else (0, (l, q, g ++ [x], n, g ++ [x], w, 0))) else (0, (l, q, g, n, g, w, 0))) := by
  show (f27 g x).bind _ = _
  rw [f27_acc g x (by omega), some_bind]
  cases h1 : acc g x with
  | true => rw [if_pos rfl]; simp
  | false =>
    rw [if_neg (by simp), f35_eq x l (by omega), some_bind]
    cases h2 : acc l x with
    | false => simp
    | true =>
      simp only [Bool.not_true, Bool.false_eq_true, if_false, Bool.not_false, Bool.and_self, if_true]
      rw [chk_pos (by omega), chk_pos trivial, y2_eq l g q n x hq hq2 hg, some_bind]
      by_cases h : g.length + 1 = mostN q
      · rw [if_pos h, if_pos h]; simp
      · rw [if_neg h, if_neg h]; simp
/-! ### one size -/
theorem f75_L1_eq (n : Nat) (i : Int) (K2 : BitVec 16 → Option (Bool × Nat × List (BitVec 16) × Int × List (BitVec 16) × Int × List (BitVec 16) × BitVec 16 × Nat)) (hn : n ≤ 12) : ∀ c k m w, m + c = n → c < k → f75_L1 ((List.range n).map Int.ofNat) i K2 k (w, m) = K2 (wS i c m w)
  | 0, k, m, w, hc, hk => by
    obtain ⟨k, rfl⟩ : ∃ q, k = q + 1 := ⟨k - 1, by omega⟩
    rw [f75_L1.eq_2, ifd_neg (by simp; omega)]
    rfl
  | c + 1, k, m, w, hc, hk => by
    obtain ⟨k, rfl⟩ : ∃ q, k = q + 1 := ⟨k - 1, by omega⟩
    have hl : ((List.range n).map Int.ofNat).length = n := by simp
    have hg : ((List.range n).map Int.ofNat).getD m 0 = (m : Int) := by
      have : m < n := by omega
      simp [List.getD_eq_getElem?_getD, this]
    have hu : IntKind.bits .u32 = 32 := rfl
    rw [f75_L1.eq_2, ifd_pos (by rw [hl]; omega), jn_eq, chk_pos (by rw [hl]; omega), chk_pos (by rw [hl]; omega), chk_pos (by rw [hu]; omega), hg]
    have ht : ((m : Int)).toNat = m := by omega
    unfold wS
    split
    · rw [chk_pos (by omega)]
      dsimp only
      rw [chk_pos (by omega), f75_L1_eq n i K2 hn c k (m + 1) _ (by omega) (by omega), ht]
    · dsimp only
      rw [chk_pos (by omega), f75_L1_eq n i K2 hn c k (m + 1) _ (by omega) (by omega)]
theorem f75_L0_eq (n : Nat) (hn : n ≤ 12) (l : List (BitVec 16)) (q z : Int) (w : BitVec 16) (hq : 0 ≤ q) (hq2 : q ≤ 255) (hl : l.length ≤ 60)
    (K1 : (BitVec 16 × List (BitVec 16) × Int × Int × List (BitVec 16) × List (BitVec 16) × Nat × Nat) → Option (Bool × Nat × List (BitVec 16) × Int × List (BitVec 16) × Int × List (BitVec 16) × BitVec 16 × Nat)) :
    ∀ (f k : Nat) (i : Int) (g L : List (BitVec 16)), f ≤ k → gseq n f i = some L → g.length < mostN q →
      f75_L0 (f57_Y70003 f9_Y70002) ((List.range n).map Int.ofNat) K1 k (i, w, l, z, q, g, g, 0, 0) = match runS l (mostN q) L g with
        | (true, g') => K1 (w, l, z, q, g', g', 0, 0)
        | (false, g') => some (false, 2, l, q, g', z, g', w, 2)
  | 0, k, i, g, L, hf, hs, hg => by cases hs
  | f + 1, k, i, g, L, hf, hs, hg => by
    obtain ⟨k, rfl⟩ : ∃ q, k = q + 1 := ⟨k - 1, by omega⟩
    have hmo : mostN q ≤ 20 := by unfold mostN; omega
    have hlen : ((List.range n).map Int.ofNat).length = n := by simp
    have hu : IntKind.bits .u32 = 32 := rfl
    have hp : (1 : Int) * 2 ^ n ≤ 4096 ∧ 0 ≤ (1 : Int) * 2 ^ n := by
      have h1 : (2 : Int) ^ n ≤ 2 ^ 12 := by
        have := Nat.pow_le_pow_right (n := 2) (by decide) hn
        exact_mod_cast this
      have h2 : (0 : Int) ≤ 2 ^ n := Int.pow_nonneg (by decide)
      omega
    unfold gseq at hs
    rw [f75_L0.eq_2, hlen, chk_pos (by rw [hu]; omega)]
    by_cases hi : i < 1 * 2 ^ n
    · rw [if_pos hi] at hs
      rw [ifd_pos hi, jn_eq, f75_L1_eq n i _ hn n FUEL 0 _ (by omega) (fuel_lt (by omega)), jn_eq, chk_pos rfl]
      have hw : (BitVec.ofInt 16 0) = 0#16 := rfl
      rw [hw]
      generalize wS i n 0 0#16 = x at hs ⊢
      rw [y3_eq l g q z w x hq hq2 (by omega) hl, some_bind]
      by_cases h0 : (i == 0) = true
      · rw [if_pos h0] at hs
        cases hs
        rw [runS_cons]
        split
        · split
          · rfl
          · simp only [if_true, Bool.not_true, Bool.false_eq_true, if_false]
            first | (rw [if_pos h0]; rfl) | rfl
        · simp only [if_true, Bool.not_true, Bool.false_eq_true, if_false]
          first | (rw [if_pos h0]; rfl) | rfl
      · rw [if_neg h0] at hs
        split at hs
        · rename_i hgc
          obtain ⟨L', hL', rfl⟩ := Option.map_eq_some_iff.1 hs
          unfold gosC lowB at hgc
          simp only [Bool.and_eq_true, decide_eq_true_eq] at hgc
          have hnext := fun (g2 : List (BitVec 16)) (h2 : g2.length < mostN q) => f75_L0_eq n hn l q z w hq hq2 hl K1 f k (gosN i) g2 L' (by omega) hL' h2
          rw [runS_cons]
          split
          · split
            · rfl
            · simp only [if_true, Bool.not_true, Bool.false_eq_true, if_false]
              first | rw [chk_pos hgc.1, chk_pos hgc.2, chk_pos (by rw [hu]; omega)] | rw [if_neg h0, chk_pos hgc.1, chk_pos hgc.2, chk_pos (by rw [hu]; omega)]
              exact hnext _ (by simp; omega)
          · simp only [if_true, Bool.not_true, Bool.false_eq_true, if_false]
            first | rw [chk_pos hgc.1, chk_pos hgc.2, chk_pos (by rw [hu]; omega)] | rw [if_neg h0, chk_pos hgc.1, chk_pos hgc.2, chk_pos (by rw [hu]; omega)]
            exact hnext _ hg
        · cases hs
    · rw [if_neg hi] at hs
      cases hs
      rw [ifd_neg hi]
      rfl
/-! ### all sizes -/
theorem f76_eq : ∀ n : Nat, n ≤ 7 → f76 (((BitVec.ofInt 16 1) <<< n) - (BitVec.ofInt 16 1)) = some ((List.range n).map Int.ofNat)
  | 0, _ => by kernel_rfl
  | 1, _ => by kernel_rfl
  | 2, _ => by kernel_rfl
  | 3, _ => by kernel_rfl
  | 4, _ => by kernel_rfl
  | 5, _ => by kernel_rfl
  | 6, _ => by kernel_rfl
  | 7, _ => by kernel_rfl
  | n + 8, h => absurd h (by omega)
theorem f64_mask : ∀ n : Nat, n ≤ 7 → f64 (((BitVec.ofInt 16 1) <<< n) - (BitVec.ofInt 16 1)) = some ((n : Nat) : Int)
  | 0, _ => by kernel_rfl
  | 1, _ => by kernel_rfl
  | 2, _ => by kernel_rfl
  | 3, _ => by kernel_rfl
  | 4, _ => by kernel_rfl
  | 5, _ => by kernel_rfl
  | 6, _ => by kernel_rfl
  | 7, _ => by kernel_rfl
  | n + 8, h => absurd h (by omega)
def allT (n : Nat) : Bool := match allK n (n + 1) 0 with
  | some L => decide (f36 (n : Int) = some L) && decide (L.length ≤ 128)
  | none => false
theorem allT_eq : ∀ n : Nat, n ≤ 7 → allT n = true
  | 0, _ => by kernel_rfl
  | 1, _ => by kernel_rfl
  | 2, _ => by kernel_rfl
  | 3, _ => by kernel_rfl
  | 4, _ => by kernel_rfl
  | 5, _ => by kernel_rfl
  | 6, _ => by kernel_rfl
  | 7, _ => by kernel_rfl
  | n + 8, h => absurd h (by omega)
theorem all_eq (n : Nat) (hn : n ≤ 7) : ∃ L, allK n (n + 1) 0 = some L ∧ f36 (n : Int) = some L ∧ L.length ≤ 128 := by
  have := allT_eq n hn
  unfold allT at this
  split at this
  · rename_i L hL
    simp only [Bool.and_eq_true, decide_eq_true_eq] at this
    exact ⟨L, hL, this.1, this.2⟩
  · cases this
theorem f75_eq (n : Nat) (hn : n ≤ 7) (l : List (BitVec 16)) (q z : Int) (hq : 0 ≤ q) (hq2 : q ≤ 255) (hl : l.length ≤ 60) (k : Nat) (hk : k ≤ n) (g L : List (BitVec 16)) (hs : oneK n k = some L) (hg : g.length < mostN q) (w : BitVec 16) (hw : w = ((BitVec.ofInt 16 1) <<< n) - (BitVec.ofInt 16 1)) :
    f75 (f57_Y70003 f9_Y70002) w (k : Int) l q g z g w 0 = match runS l (mostN q) L g with
      | (true, g') => some (true, 0, l, q, g', z, g', w, 0)
      | (false, g') => some (false, 2, l, q, g', z, g', w, 2) := by
  unfold f75
  have hu : IntKind.bits .u32 = 32 := rfl
  have hp : (1 : Int) * 2 ^ k ≤ 128 ∧ 1 ≤ (1 : Int) * 2 ^ k := by
    have h1 : (2 : Int) ^ k ≤ 2 ^ 7 := by
      have := Nat.pow_le_pow_right (n := 2) (by decide) (show k ≤ 7 by omega)
      exact_mod_cast this
    have h2 : (0 : Int) < 2 ^ k := Int.pow_pos (by decide)
    omega
  have ht : ((k : Int)).toNat = k := by omega
  rw [hw, f76_eq n hn, some_bind, ← hw, if_neg (by simp; omega), jn_eq, ht, chk_pos (by rw [hu]; omega), chk_pos (by omega)]
  rw [f75_L0_eq n (by omega) l q z w hq hq2 hl _ 200 FUEL _ g L (by unfold FUEL; omega) hs hg]
theorem f74_L0_eq (n : Nat) (G : Nat → Option (List (BitVec 16))) (l : List (BitVec 16)) (q z : Int) (w : BitVec 16) (hm : f64 w = some (n : Int)) (hnn : n ≤ 7)
    (hG : ∀ (k : Nat), k ≤ n → ∀ (g L : List (BitVec 16)), G k = some L → g.length < mostN q → f75 (f57_Y70003 f9_Y70002) w (k : Int) l q g z g w 0 = match runS l (mostN q) L g with
      | (true, g') => some (true, 0, l, q, g', z, g', w, 0)
      | (false, g') => some (false, 2, l, q, g', z, g', w, 2)) (c : Nat) :
    ∀ (k f : Nat) (g L : List (BitVec 16)), k + c = n + 1 → c < f → allG G c k = some L → g.length < mostN q →
      f74_L0 (f57_Y70003 f9_Y70002) f (k, w, l, z, q, g, g, 0, 0) = match runS l (mostN q) L g with
        | (true, g') => some (0, l, q, g', z, g', w, 0)
        | (false, g') => some (2, l, q, g', z, g', w, 2) := by
  induction c with
  | zero =>
    intro k f g L hc hf ha hg
    obtain ⟨f, rfl⟩ : ∃ q, f = q + 1 := ⟨f - 1, by omega⟩
    cases ha
    rw [f74_L0.eq_2, chk_pos rfl, hm, some_bind, ifd_neg (by omega)]
    rfl
  | succ c ih =>
    intro k f g L hc hf ha hg
    obtain ⟨f, rfl⟩ : ∃ q, f = q + 1 := ⟨f - 1, by omega⟩
    unfold allG at ha
    obtain ⟨a, ha1, ha2⟩ := Option.bind_eq_some_iff.1 ha
    obtain ⟨b, hb, rfl⟩ := Option.map_eq_some_iff.1 ha2
    rw [f74_L0.eq_2, chk_pos rfl, hm, some_bind, ifd_pos (by omega), hG k (by omega) g a ha1 hg, runS_app]
    have hr := (runS_take l (mostN q) a g hg).2.2
    cases hrun : runS l (mostN q) a g with
    | mk t g' =>
      rw [hrun] at hr
      cases t with
      | false => rfl
      | true =>
        rw [some_bind, if_pos rfl, chk_pos (by omega)]
        exact ih (k + 1) f g' b (by omega) (by omega) hb (hr rfl)
theorem f57_eq (n : Nat) (hn : n ≤ 7) (l : List (BitVec 16)) (q : Int) (hq : 0 ≤ q) (hq2 : q ≤ 255) (hl : l.length ≤ 60) (L : List (BitVec 16)) (hL : allK n (n + 1) 0 = some L) :
    ∃ t : Nat, (t = 0 ∨ t = 2) ∧ f57 f9_Y70002 l q (n : Int) [] = some (t, l, q, (n : Int), (runS l (mostN q) L []).2) := by
  unfold f57
  have ht : ((n : Int)).toNat = n := by omega
  rw [if_neg (by simp; omega)]
  unfold f58
  rw [some_bind, chk_pos (by omega), ht]
  unfold f74
  rw [f74_L0_eq n (oneK n) l q n _ (f64_mask n hn) hn (fun k hk g L hs hg => f75_eq n hn l q n hq hq2 hl k hk g L hs hg _ rfl) (n + 1) 0 FUEL [] L (by omega) (fuel_lt (by omega)) hL (by unfold mostN; simp; omega)]
  cases hrun : runS l (mostN q) L [] with
  | mk t g' =>
    cases t with
    | true => exact ⟨0, .inl rfl, by simp only [some_bind]; rw [chk_pos (by decide)]; rfl⟩
    | false => exact ⟨2, .inr rfl, by simp only [some_bind]; rw [chk_pos (by decide)]; rfl⟩
theorem f9_L0_eq (l : List (BitVec 16)) (K : List (BitVec 16) → Option Bool) (S : List (BitVec 16)) (hl : l.length ≤ 60) (hS : S.length ≤ 128) : f9_L0 l K S FUEL (0, []) = K (S.foldl (stepS l) []) := by
  refine (fold_up (f9_L0 l K S) S 0#16 (fun n g => g.length ≤ n) (stepS l) K (fun k n g hn hi => ?_) (fun n g hn hi => by unfold stepS; split; exact (by simp; omega); exact (by omega)) (fun k g hi => ?_) S.length FUEL 0 [] (by omega) (fuel_lt (by omega)) (Nat.le_refl _)).trans rfl
  · rw [f9_L0.eq_2, ifd_pos (by omega), jn_eq, chk_pos (by omega), chk_pos (by omega), f29_eq _ _ (by omega), some_bind]
    unfold stepS
    cases acc l (S.getD n 0#16) with
    | false =>
      rw [show (false == true) = false from rfl, optc_f]
      simp only [Bool.false_and, Bool.false_eq_true, if_false]
      rw [chk_pos (by omega)]
    | true =>
      rw [show (true == true) = true from rfl, optc_t, f29_eq _ _ (by omega), some_bind]
      cases acc g (S.getD n 0#16) with
      | true => simp only [Bool.not_true, Bool.and_false, Bool.false_eq_true, if_false]; rw [chk_pos (by omega)]
      | false => simp only [Bool.not_false, Bool.and_self, if_true]; rw [chk_pos (by omega), chk_pos (by omega)]
  · rw [f9_L0.eq_2, ifd_neg (by omega)]
theorem f9_true (l : List (BitVec 16)) (n q : Int) (_hn1 : -9223372036854775808 ≤ n) (_hn2 : n ≤ 9223372036854775807) (hq : 0 ≤ q) (hq2 : q ≤ 255) : f9 l n q = some true := by
  unfold f9
  rw [f10_true, some_bind, chk_pos (by
    intro _ _ h
    simp at h
    simp; omega)]
  by_cases h : (n > 7 ∧ n ≤ 12) ∨ l.length > 20
  · rw [if_pos (by rcases h with h | h <;> simp <;> omega)]; rfl
  · rw [if_neg (by simp; omega), jn_eq]
    unfold f34
    rw [some_bind]
    by_cases hr : 0 ≤ n ∧ n ≤ 7
    · obtain ⟨m, rfl⟩ := Int.eq_ofNat_of_zero_le hr.1
      obtain ⟨L, h1, h2, h3⟩ := all_eq m (by omega)
      obtain ⟨t, ht, h4⟩ := f57_eq m (by omega) l q hq hq2 (by omega) L h1
      have hm : 0 < mostN q ∧ mostN q ≤ 20 := by unfold mostN; omega
      obtain ⟨h5, h6, _⟩ := runS_take l (mostN q) L [] hm.1
      have key : ∀ g, g = (L.foldl (stepS l) []).take (mostN q) → g.length ≤ 20 → (jn (fun (l22 : List (BitVec 16)) => (f18 g (l22.take ((min ((l22.length : Nat) : Int) ((1 : Int) + q % 20)).toNat))).bind fun (r23 : Bool) =>
          chk (0 ≤ q ∧ 1 ≤ (20 : Int)) <| chk (-9223372036854775808 ≤ (q % (20 : Int)) ∧ (q % (20 : Int)) ≤ 9223372036854775807) <| chk (-9223372036854775808 ≤ ((1 : Int) + (q % (20 : Int))) ∧ ((1 : Int) + (q % (20 : Int))) ≤ 9223372036854775807) <|
          chk (0 ≤ (min ((l22.length : Nat) : Int) ((1 : Int) + (q % (20 : Int)))) ∧ (min ((l22.length : Nat) : Int) ((1 : Int) + (q % (20 : Int)))) ≤ ((l22.length : Nat) : Int)) <| some r23)
          fun (K2 : List (BitVec 16) → Option Bool) => if ((decide ((m : Int) ≥ 0)) && (decide ((m : Int) ≤ 7))) = true then (f36 (m : Int)).bind fun r16 => f9_L0 l K2 r16 FUEL (0, []) else K2 []) = some true := by
        intro g hg hgl
        rw [jn_eq, if_pos (by simp; omega), h2, some_bind, f9_L0_eq l _ L (by omega) h3]
        have e : (min (((L.foldl (stepS l) []).length : Nat) : Int) ((1 : Int) + q % 20)).toNat = min (L.foldl (stepS l) []).length (mostN q) := by unfold mostN; omega
        rw [e]
        have e2 : (L.foldl (stepS l) []).take (min (L.foldl (stepS l) []).length (mostN q)) = g := by
          rw [hg]
          rcases Nat.le_total (L.foldl (stepS l) []).length (mostN q) with hle | hle
          · rw [Nat.min_eq_left hle, List.take_of_length_le (Nat.le_refl _), List.take_of_length_le hle]
          · rw [Nat.min_eq_right hle]
        rw [e2, f18_self g (by omega), some_bind, chk_pos (by omega), chk_pos (by omega), chk_pos (by omega), chk_pos (by omega)]
      show (f57 f9_Y70002 l q (m : Int) []).bind _ = _
      rw [h4, some_bind]
      rcases ht with rfl | rfl
      · rw [chk_pos (by simp), if_pos rfl]
        exact key _ h5 (Nat.le_trans h6 hm.2)
      · rw [chk_pos (by simp), if_neg (by simp), if_pos rfl]
        exact key _ h5 (Nat.le_trans h6 hm.2)
    · show (f57 f9_Y70002 l q n []).bind _ = _
      unfold f57
      rw [if_pos (by simp; omega), some_bind, chk_pos (by simp), if_pos rfl]
      dsimp only
      rw [jn_eq, if_neg (by simp; omega)]
      dsimp only
      rw [show ([] : List (BitVec 16)).take _ = [] from List.take_nil, f18_self [] (by simp), some_bind, chk_pos (by omega), chk_pos (by omega), chk_pos (by omega), chk_pos (by simp; omega)]
end Go.Abs
