/- Part 28 of the proof: Hist, Hist2, HuA, HuB, HuC, HuD, Aw57, HuE, HuF, HuG, HuK, Open9, Open11. -/
import Derived.Test.YtkeioaggjaeicaaGreatDoorHerrZ27
import Init
namespace Go.Hist
section
variable {σ : Type} (n : Nat) (ok : List Nat → Nat → Bool) (fin : List Nat → Bool) (stp : σ → Nat → Option σ)
/-- the first witness that begins with 'o', which leads to 's' -/
def srch : Nat → List Nat → σ → Option (List Nat)
  | 0, _, _ => none
  | k + 1, o, s => if fin o then some o else (List.range n).findSome? fun i => if o.contains i || !ok o i then none else (stp s i).bind (srch k (o ++ [i]))
/-- what is left -/
def left (o : List Nat) : Nat := (List.range n).countP fun i => !o.contains i
end
theorem countP_lt {α : Type} {p q : α → Bool} : ∀ {l : List α}, (∀ x ∈ l, q x = true → p x = true) → ∀ {a : α}, a ∈ l → p a = true → q a = false → l.countP q < l.countP p
  | [], _, _, ha, _, _ => by cases ha
  | b :: l, h, a, ha, hp, hq => by
    have hle : l.countP q ≤ l.countP p := List.countP_mono_left fun x hx => h x (List.mem_cons_of_mem _ hx)
    rw [List.countP_cons, List.countP_cons]
    rcases List.mem_cons.1 ha with rfl | ha
    · simp only [hp, hq, if_true, Bool.false_eq_true, if_false]; omega
    · have ih := countP_lt (fun x hx => h x (List.mem_cons_of_mem _ hx)) ha hp hq
      have hb := h b (List.mem_cons_self ..)
      by_cases h1 : q b = true
      · simp only [h1, hb h1, if_true]; omega
      · by_cases h2 : p b = true <;> simp [h1, h2] <;> omega
theorem left_lt {n : Nat} {o : List Nat} {i : Nat} (hi : i < n) (h : o.contains i = false) : left n (o ++ [i]) < left n o := by
  unfold left
  refine countP_lt (a := i) (fun x _ hx => ?_) (List.mem_range.2 hi) (by simpa using h) (by simp)
  simp at hx ⊢
  exact hx.1
theorem findSome_congr {α β : Type} {f g : α → Option β} : ∀ {l : List α}, (∀ x ∈ l, f x = g x) → l.findSome? f = l.findSome? g
  | [], _ => rfl
  | a :: l, h => by
    rw [List.findSome?_cons, List.findSome?_cons, h a (List.mem_cons_self ..), findSome_congr fun x hx => h x (List.mem_cons_of_mem _ hx)]
section
variable {σ : Type} {n : Nat} {ok : List Nat → Nat → Bool} {fin : List Nat → Bool} {stp : σ → Nat → Option σ}
/-- any fuel that suffices gives the same -/
theorem srch_fuel : ∀ (k k' : Nat) (o : List Nat) (s : σ), left n o < k → left n o < k' → srch n ok fin stp k o s = srch n ok fin stp k' o s
  | 0, _, _, _, h, _ => by omega
  | _, 0, _, _, _, h => by omega
  | k + 1, k' + 1, o, s, h, h' => by
    unfold srch
    split
    · rfl
    · refine findSome_congr fun i hi => ?_
      split
      · rfl
      · rename_i hc
        simp only [Bool.or_eq_true, not_or, Bool.not_eq_true] at hc
        have := left_lt (List.mem_range.1 hi) hc.1
        congr 1
        funext t
        exact srch_fuel k k' (o ++ [i]) t (by omega) (by omega)
end
section
variable {σ : Type} {n : Nat} {B : Nat → Nat → Bool} {comp : Nat → Bool} {stp : σ → Nat → Option σ}
/-- an operation may come where it precedes nothing that came -/
def okP (B : Nat → Nat → Bool) (o : List Nat) (i : Nat) : Bool := o.all fun x => !B i x
def finC (n : Nat) (comp : Nat → Bool) (o : List Nat) : Bool := (List.range n).all fun i => !comp i || o.contains i
theorem finC_iff {o : List Nat} : finC n comp o = true ↔ ∀ i, i < n → comp i = true → i ∈ o := by
  unfold finC
  simp only [List.all_eq_true, List.mem_range, Bool.or_eq_true, Bool.not_eq_true', List.contains_eq_mem, decide_eq_true_eq]
  constructor
  · intro h i hi hc
    rcases h i hi with h | h
    · rw [h] at hc; cases hc
    · exact h
  · intro h i hi
    cases hc : comp i with
    | false => exact .inl rfl
    | true => exact .inr (h i hi hc)
/-- whether there is a witness depends on the set alone -/
theorem srch_set {fin : List Nat → Bool} (hf : ∀ o o' : List Nat, (∀ x, x ∈ o ↔ x ∈ o') → fin o = fin o') : ∀ (k : Nat) (o o' : List Nat) (s : σ), (∀ x, x ∈ o ↔ x ∈ o') → (srch n (okP B) fin stp k o s).isSome = (srch n (okP B) fin stp k o' s).isSome
  | 0, _, _, _, _ => rfl
  | k + 1, o, o', s, h => by
    unfold srch
    rw [hf o o' h]
    split
    · rfl
    · rw [List.findSome?_isSome_iff.trans Iff.rfl |> fun e => Bool.eq_iff_iff.2 (e.trans ?_ |>.trans List.findSome?_isSome_iff.symm)]
      have e1 : ∀ i, o.contains i = o'.contains i := fun i => by simp only [List.contains_eq_mem]; rw [decide_eq_decide]; exact h i
      have e2 : ∀ i, okP B o i = okP B o' i := fun i => by
        unfold okP
        rw [Bool.eq_iff_iff]
        simp only [List.all_eq_true]
        exact ⟨fun hh x hx => hh x ((h x).2 hx), fun hh x hx => hh x ((h x).1 hx)⟩
      have e3 : ∀ i, (if (o.contains i || !okP B o i) = true then none else (stp s i).bind (srch n (okP B) fin stp k (o ++ [i]))).isSome = (if (o'.contains i || !okP B o' i) = true then none else (stp s i).bind (srch n (okP B) fin stp k (o' ++ [i]))).isSome := fun i => by
        rw [e1, e2]
        split
        · rfl
        · cases stp s i with
          | none => rfl
          | some t => exact srch_set hf k (o ++ [i]) (o' ++ [i]) t fun x => by simp [h x]
      constructor
      · rintro ⟨i, hi, h2⟩; exact ⟨i, hi, by rw [← e3]; exact h2⟩
      · rintro ⟨i, hi, h2⟩; exact ⟨i, hi, by rw [e3]; exact h2⟩
end
section
variable {σ : Type} (n : Nat) (B : Nat → Nat → Bool) (comp : Nat → Bool) (stp : σ → Nat → Option σ)
def runs : σ → List Nat → Option σ
  | s, [] => some s
  | s, i :: l => (stp s i).bind fun t => runs t l
/-- a witness -/
def Wit (s0 : σ) (w : List Nat) : Prop := (∀ x ∈ w, x < n) ∧ w.Nodup ∧ w.Pairwise (fun x y => B y x = false) ∧ (∀ i, i < n → comp i = true → i ∈ w) ∧ (runs stp s0 w).isSome = true
end
section
variable {σ : Type} {n : Nat} {B : Nat → Nat → Bool} {comp : Nat → Bool} {stp : σ → Nat → Option σ}
end
end Go.Hist
namespace Go.Hist
abbrev HOp := Int × Int × Int × List UInt8 × List UInt8
abbrev d0 : HOp := (0, 0, 0, [], [])
section
variable {σ : Type}
def cmpl (l : List HOp) (i : Nat) : Bool := decide ((l.getD i d0).2.2.1 ≠ -1)
def Bf (own : Bool) (l : List HOp) (a b : Nat) : Bool := cmpl l a && (decide ((l.getD a d0).2.2.1 < (l.getD b d0).2.1) && (!own || decide ((l.getD a d0).1 = (l.getD b d0).1)))
def stpl (X : σ → List UInt8 → σ × List UInt8) (l : List HOp) (s : σ) (i : Nat) : Option σ :=
  if cmpl l i && !((X s (l.getD i d0).2.2.2.1).2 == (l.getD i d0).2.2.2.2) then none else some (X s (l.getD i d0).2.2.2.1).1
def cutO (t : Int) (x : HOp) : HOp := if x.2.2.1 > t then (x.1, x.2.1, -1, x.2.2.2.1, []) else x
def upto (l : List HOp) (t : Int) : List HOp := (l.filter fun x => decide (x.2.1 ≤ t)).map (cutO t)
def kept (l : List HOp) (t : Int) : List Nat := (List.range l.length).filter fun i => decide ((l.getD i d0).2.1 ≤ t)
end
section
variable {σ : Type} {X : σ → List UInt8 → σ × List UInt8} {s0 : σ}
theorem cmpl_iff {l : List HOp} {i : Nat} : cmpl l i = true ↔ (l.getD i d0).2.2.1 ≠ -1 := by unfold cmpl; simp
theorem getD_mem {l : List HOp} {i : Nat} (h : i < l.length) : l.getD i d0 ∈ l := by
  rw [List.getD_eq_getElem?_getD, List.getElem?_eq_getElem h]
  exact List.getElem_mem h
end
end Go.Hist
namespace Go.Abs
open Go Go.Hist
theorem d0_eq : (default : Int × Int × Int × List UInt8 × List UInt8) = d0 := rfl
theorem and64 (a b : Nat) (ha : a < 2 ^ 64) (hb : b < 2 ^ 64) : bitsI .and .u64 (a : Int) (b : Int) = ((a &&& b : Nat) : Int) := by
  have h : (BitVec.ofInt IntKind.u64.bits (a : Int) &&& BitVec.ofInt IntKind.u64.bits (b : Int)).toNat = a &&& b := by
    have e : IntKind.u64.bits = 64 := rfl
    rw [e, BitVec.toNat_and, BitVec.ofInt_natCast, BitVec.ofInt_natCast, BitVec.toNat_ofNat, BitVec.toNat_ofNat, Nat.mod_eq_of_lt ha, Nat.mod_eq_of_lt hb]
  unfold bitsI
  simp only [h]
  have := Nat.and_le_left (n := a) (m := b)
  exact wrap_in (k := .u64) (show 0 ≤ ((a &&& b : Nat) : Int) ∧ ((a &&& b : Nat) : Int) ≤ 18446744073709551615 by omega)
theorem or64 (a b : Nat) (ha : a < 2 ^ 64) (hb : b < 2 ^ 64) : bitsI .or .u64 (a : Int) (b : Int) = ((a ||| b : Nat) : Int) := by
  have h : (BitVec.ofInt IntKind.u64.bits (a : Int) ||| BitVec.ofInt IntKind.u64.bits (b : Int)).toNat = a ||| b := by
    have e : IntKind.u64.bits = 64 := rfl
    rw [e, BitVec.toNat_or, BitVec.ofInt_natCast, BitVec.ofInt_natCast, BitVec.toNat_ofNat, BitVec.toNat_ofNat, Nat.mod_eq_of_lt ha, Nat.mod_eq_of_lt hb]
  unfold bitsI
  simp only [h]
  have := Nat.or_lt_two_pow ha hb
  exact wrap_in (k := .u64) (show 0 ≤ ((a ||| b : Nat) : Int) ∧ ((a ||| b : Nat) : Int) ≤ 18446744073709551615 by omega)
theorem bit64 (m n : Nat) (hm : m < 2 ^ 64) : (bitsI .and .u64 ((m : Int) / 2 ^ n) (1 : Int) == (1 : Int)) = m.testBit n := by
  have e : ((m : Int) / 2 ^ n) = ((m / 2 ^ n : Nat) : Int) := by simp
  have h1 := and64 (m / 2 ^ n) 1 (Nat.lt_of_le_of_lt (Nat.div_le_self ..) hm) (by decide)
  have e1 : ((1 : Nat) : Int) = 1 := rfl
  rw [e1] at h1
  rw [e, h1, Nat.and_one_is_mod, Nat.testBit_eq_decide_div_mod_eq, Bool.eq_iff_iff]
  simp
  omega
/-- the mask of a set -/
def Msk (n m : Nat) (o : List Nat) : Prop := m < 2 ^ n ∧ ∀ i, i < n → m.testBit i = o.contains i
theorem two10 {n : Nat} (h : n ≤ 10) : 2 ^ n ≤ 1024 := Nat.pow_le_pow_right (n := 2) (by decide) h
theorem Msk.lt {n m : Nat} {o : List Nat} (h : Msk n m o) (hn : n ≤ 10) : m < 2 ^ 64 := Nat.lt_of_lt_of_le h.1 (Nat.le_trans (two10 hn) (by decide))
theorem msk_add {n m i : Nat} {o : List Nat} (hn : n ≤ 10) (h : Msk n m o) (hi : i < n) : bitsI .or .u64 (m : Int) ((1 : Int) * 2 ^ i) = ((m ||| 2 ^ i : Nat) : Int) ∧ Msk n (m ||| 2 ^ i) (o ++ [i]) := by
  have h2 : 2 ^ i < 2 ^ n := Nat.pow_lt_pow_right (by decide) hi
  have h3 : 2 ^ i < 2 ^ 64 := Nat.lt_of_lt_of_le h2 (Nat.le_trans (two10 hn) (by decide))
  refine ⟨?_, Nat.or_lt_two_pow h.1 h2, fun j hj => ?_⟩
  · rw [← or64 m (2 ^ i) (h.lt hn) h3]
    congr 1
    simp
  · rw [Nat.testBit_or, h.2 j hj, Nat.testBit_two_pow]
    simp only [List.contains_eq_mem, List.mem_append, List.mem_singleton, Bool.decide_or]
    congr 1
    rw [decide_eq_decide]
    exact eq_comm
theorem msk_nil (n : Nat) : Msk n 0 [] := ⟨Nat.two_pow_pos n, fun i _ => by simp⟩
/-- the mask of what is complete -/
def Cmk (n c : Nat) (comp : Nat → Bool) : Prop := c < 2 ^ n ∧ ∀ i, i < n → c.testBit i = comp i
theorem msk_fin {n m c : Nat} {o : List Nat} {comp : Nat → Bool} (hn : n ≤ 10) (h : Msk n m o) (hc : Cmk n c comp) : (bitsI .and .u64 (m : Int) (c : Int) == (c : Int)) = finC n comp o := by
  have hc64 : c < 2 ^ 64 := Nat.lt_of_lt_of_le hc.1 (Nat.le_trans (two10 hn) (by decide))
  rw [and64 m c (h.lt hn) hc64, Bool.eq_iff_iff, beq_iff_eq, finC_iff, Int.natCast_inj]
  constructor
  · intro e i hi hci
    have h1 : (m &&& c).testBit i = true := by rw [e, hc.2 i hi]; exact hci
    rw [Nat.testBit_and, h.2 i hi] at h1
    simpa using (Bool.and_eq_true_iff.1 h1).1
  · intro hall
    apply Nat.eq_of_testBit_eq
    intro i
    rw [Nat.testBit_and]
    by_cases hi : i < n
    · rw [hc.2 i hi]
      cases hci : comp i with
      | false => simp
      | true =>
        rw [h.2 i hi]
        simpa using hall i hi hci
    · have : c.testBit i = false := Nat.testBit_lt_two_pow (Nat.lt_of_lt_of_le hc.1 (Nat.pow_le_pow_right (by decide) (by omega)))
      rw [this, Bool.and_false]
/-- the complete ones as the program notes them -/
theorem cmk_step {j c : Nat} {comp : Nat → Bool} (h : Cmk j c comp) : Cmk (j + 1) (if comp j then c ||| 2 ^ j else c) comp := by
  have h2 : c < 2 ^ (j + 1) := Nat.lt_of_lt_of_le h.1 (Nat.pow_le_pow_right (by decide) (by omega))
  have h3 : (2 : Nat) ^ j < 2 ^ (j + 1) := Nat.pow_lt_pow_right (by decide) (by omega)
  have h4 : c.testBit j = false := Nat.testBit_lt_two_pow h.1
  cases hc : comp j with
  | false =>
    simp only [Bool.false_eq_true, if_false]
    refine ⟨h2, fun i hi => ?_⟩
    by_cases hij : i = j
    · subst hij; rw [hc]; exact h4
    · exact h.2 i (by omega)
  | true =>
    simp only [if_true]
    refine ⟨Nat.or_lt_two_pow h2 h3, fun i hi => ?_⟩
    rw [Nat.testBit_or, Nat.testBit_two_pow]
    by_cases hij : i = j
    · subst hij; rw [hc]; simp
    · rw [h.2 i (by omega), decide_eq_false (Ne.symm hij), Bool.or_false]
/-! ### maps of keys and rows -/
section
variable {α β : Type} [DecidableEq α]
theorem idxL_snoc (x y : α) : ∀ (ks : List α) (i : Nat), idxL x (ks ++ [y]) i = match idxL x ks i with
    | some q => some q
    | none => if x = y then some (i + ks.length) else none
  | [], i => by simp [idxL]
  | a :: ks, i => by
    simp only [List.cons_append, idxL]
    by_cases h : x = a
    · rw [if_pos h, if_pos h]
    · rw [if_neg h, if_neg h, idxL_snoc x y ks (i + 1)]
      cases idxL x ks (i + 1) with
      | some q => rfl
      | none => simp only [List.length_cons]; congr 1; congr 1; omega
theorem idxL_inj {x y : α} : ∀ {ks : List α} {i q : Nat}, idxL x ks i = some q → idxL y ks i = some q → x = y
  | [], _, _, h, _ => by cases h
  | a :: ks, i, q, h, h2 => by
    simp only [idxL] at h h2
    by_cases hx : x = a
    · by_cases hy : y = a
      · rw [hx, hy]
      · rw [if_pos hx] at h; rw [if_neg hy] at h2
        cases h
        have := (idxL_lt y ks (i + 1) i h2).1
        omega
    · rw [if_neg hx] at h
      by_cases hy : y = a
      · rw [if_pos hy] at h2
        cases h2
        have := (idxL_lt x ks (i + 1) i h).1
        omega
      · rw [if_neg hy] at h2
        exact idxL_inj h h2
theorem upd_len (ks : List α) (vs : List β) (x : α) (y : β) (h : ks.length = vs.length) : (updK ks x).length = (updV ks vs x y).length := by
  unfold updK updV
  cases idxL x ks 0 <;> simp [h]
theorem getM_upd (ks : List α) (vs : List (List β)) (x x' : α) (y : List β) (h : ks.length = vs.length) : getM (updK ks x) (updV ks vs x y) [] [] x' = if x' = x then y else getM ks vs [] [] x' := by
  unfold getM updK updV
  cases hx : idxL x ks 0 with
  | some q =>
    have hq := (idxL_lt x ks 0 q hx).2.1
    by_cases e : x' = x
    · subst e
      simp only [hx, if_true]
      rw [List.getD_eq_getElem?_getD, List.getElem?_set_self (by omega)]; rfl
    · simp only [if_neg e]
      cases hx' : idxL x' ks 0 with
      | none => rfl
      | some q' =>
        have : q ≠ q' := fun e2 => e (idxL_inj hx' (e2 ▸ hx))
        simp only
        rw [List.getD_eq_getElem?_getD, List.getElem?_set_ne this, ← List.getD_eq_getElem?_getD]
  | none =>
    simp only
    rw [idxL_snoc]
    by_cases e : x' = x
    · subst e
      simp only [hx, if_true]
      simp [List.getD_eq_getElem?_getD, h]
    · simp only [if_neg e]
      cases hx' : idxL x' ks 0 with
      | none => rfl
      | some q' =>
        have hq := (idxL_lt x' ks 0 q' hx').2.1
        simp only
        rw [List.getD_eq_getElem?_getD, List.getElem?_append_left (by omega), ← List.getD_eq_getElem?_getD]
theorem getM_mem (ks : List α) (vs : List (List β)) (x : α) : getM ks vs [] [] x = [] ∨ getM ks vs [] [] x ∈ vs := by
  unfold getM
  cases idxL x ks 0 with
  | none => exact .inl rfl
  | some q =>
    simp only
    by_cases h : q < vs.length
    · right
      rw [List.getD_eq_getElem?_getD, List.getElem?_eq_getElem h]
      exact List.getElem_mem h
    · left
      rw [List.getD_eq_getElem?_getD, List.getElem?_eq_none (by omega)]; rfl
theorem updV_mem {ks : List α} {vs : List (List β)} {x : α} {y v : List β} (h : v ∈ updV ks vs x y) : v = y ∨ v ∈ vs := by
  unfold updV at h
  cases hx : idxL x ks 0 with
  | some q => rw [hx] at h; exact (List.mem_or_eq_of_mem_set h).symm
  | none => rw [hx] at h; simp at h; exact h.symm
end
/-! ### the memory's comparison -/
theorem f63_loop (x1 x2 : List Pr) (K : Unit → Option Bool) (hl : x1.length = x2.length) (hb : x1.length ≤ 1048576) : ∀ c k n, n + c = x1.length → c < k → f63_L0 x1 x2 K k n = if x1.drop n = x2.drop n then K () else some false
  | 0, k, n, hn, hk => by
    obtain ⟨k, rfl⟩ : ∃ q, k = q + 1 := ⟨k - 1, by omega⟩
    rw [f63_L0.eq_2, ifd_neg (by omega), List.drop_eq_nil_of_le (by omega), List.drop_eq_nil_of_le (by omega), if_pos rfl]
  | c + 1, k, n, hn, hk => by
    obtain ⟨k, rfl⟩ : ∃ q, k = q + 1 := ⟨k - 1, by omega⟩
    have h1 : n < x1.length := by omega
    have h2 : n < x2.length := by omega
    rw [f63_L0.eq_2, ifd_pos (by omega), chk_pos (by omega), chk_pos (by omega), chk_pos (by omega), f63_loop x1 x2 K hl hb c k (n + 1) (by omega) (by omega), getD_drop x1 n default h1, getD_drop x2 n default h2]
    by_cases e : x1.getD n default = x2.getD n default
    · rw [e]
      simp
    · have h3 : ¬ (x1.getD n default).1 = (x2.getD n default).1 ∨ ¬ (x1.getD n default).2.1 = (x2.getD n default).2.1 ∨ ¬ (x1.getD n default).2.2 = (x2.getD n default).2.2 := by
        by_cases q1 : (x1.getD n default).1 = (x2.getD n default).1
        · by_cases q2 : (x1.getD n default).2.1 = (x2.getD n default).2.1
          · by_cases q3 : (x1.getD n default).2.2 = (x2.getD n default).2.2
            · exact absurd (Prod.ext q1 (Prod.ext q2 q3)) e
            · exact .inr (.inr q3)
          · exact .inr (.inl q2)
        · exact .inl q1
      rw [if_pos ?_, if_neg (fun h => e (List.cons_eq_cons.1 h).1)]
      simp only [Bool.and_true, Bool.not_and, Bool.or_eq_true, Bool.not_eq_true', beq_eq_false_iff_ne, ne_eq]
      exact h3
theorem f63_eq (x1 x2 : List Pr) (hb : x1.length ≤ 1048576) : f63 x1 x2 = some (decide (x1 = x2)) := by
  unfold f63
  by_cases hl : x1.length = x2.length
  · rw [if_neg (by simp [hl]), jn_eq, f63_loop x1 x2 _ hl hb x1.length FUEL 0 (by omega) (fuel_lt (by omega))]
    simp only [List.drop_zero]
    by_cases e : x1 = x2
    · rw [if_pos e, decide_eq_true e]
    · rw [if_neg e, decide_eq_false e]
  · rw [if_pos (by simpa using fun h => hl (by omega)), decide_eq_false (fun e => hl (by rw [e]))]
theorem f101_loop (x1 : List (List Pr)) (p : List Pr) (K : List Pr → Option (Int × List (List Pr) × List Pr)) (hb : x1.length ≤ 4611686018427387904) (he : ∀ v ∈ x1, v.length ≤ 1048576) : ∀ c k n, n + c = x1.length → c < k →
    (∃ i : Nat, f101_L0 x1 K k (n, p) = some ((i : Int), x1, p) ∧ p ∈ x1.drop n) ∨ (f101_L0 x1 K k (n, p) = K p ∧ p ∉ x1.drop n)
  | 0, k, n, hn, hk => by
    obtain ⟨k, rfl⟩ : ∃ q, k = q + 1 := ⟨k - 1, by omega⟩
    right
    rw [f101_L0.eq_2, ifd_neg (by omega), List.drop_eq_nil_of_le (by omega)]
    exact ⟨rfl, by simp⟩
  | c + 1, k, n, hn, hk => by
    obtain ⟨k, rfl⟩ : ∃ q, k = q + 1 := ⟨k - 1, by omega⟩
    have h1 : n < x1.length := by omega
    have hm : x1.getD n [] ∈ x1 := by
      rw [List.getD_eq_getElem?_getD, List.getElem?_eq_getElem h1]
      exact List.getElem_mem h1
    have e62 : f62 (x1.getD n []) p = some (decide (x1.getD n [] = p), p) := by
      unfold f62
      rw [f63_eq _ _ (he _ hm), some_bind]
    rw [f101_L0.eq_2, ifd_pos (by omega), e62, some_bind, chk_pos (by omega), chk_pos h1, getD_drop x1 n [] h1]
    by_cases e : x1.getD n [] = p
    · left
      refine ⟨n, ?_, by rw [e]; simp⟩
      rw [if_pos (decide_eq_true e)]
    · rw [if_neg (by simpa using e), chk_pos (by omega)]
      rcases f101_loop x1 p K hb he c k (n + 1) (by omega) (by omega) with ⟨i, h2, h3⟩ | ⟨h2, h3⟩
      · exact .inl ⟨i, h2, List.mem_cons_of_mem _ h3⟩
      · exact .inr ⟨h2, fun h => by rcases List.mem_cons.1 h with h | h; exact e h.symm; exact h3 h⟩
theorem f61_eq (x1 : List (List Pr)) (p : List Pr) (hb : x1.length ≤ 4611686018427387904) (he : ∀ v ∈ x1, v.length ≤ 1048576) : f61 x1 p = some (decide (p ∈ x1), x1, p) := by
  unfold f61 f101
  rw [jn_eq]
  rcases f101_loop x1 p (fun l6 => some ((-1 : Int), x1, l6)) hb he x1.length FUEL 0 (by omega) (fuel_lt (by omega)) with ⟨i, h1, h2⟩ | ⟨h1, h2⟩
  · rw [h1, some_bind]
    rw [List.drop_zero] at h2
    rw [decide_eq_true h2, decide_eq_true (show ((i : Int) ≥ 0) by omega)]
  · rw [h1, some_bind]
    rw [List.drop_zero] at h2
    rw [decide_eq_false h2]; rfl
theorem f26_eq (o : List Int) (h : o.length ≤ 1048576) : f26 o = some o := by
  unfold f26
  rw [abc_eq fun h0 => ?_, chk_pos (by omega), List.nil_append]
  have e := List.eq_nil_of_length_eq_zero h0
  subst e
  rfl
/-! ### one operation -/
/-- a valid operation -/
structure HV (x : HOp) : Prop where
  cl : 0 ≤ x.1 ∧ x.1 < 6
  bg : 0 ≤ x.2.1
  en : x.2.2.1 = -1 ∨ x.2.1 ≤ x.2.2.1
  op : ∃ k a b c, okOp k a b c = true ∧ txt k a b c = x.2.2.2.1
  rs : x.2.2.1 = -1 → x.2.2.2.2 = []
/-- the state behind an operation's text and its result -/
def XS (s : List Pr) (x : List UInt8) : List Pr × List UInt8 := (f40 s 0 0 0 x []).getD (s, [])
theorem XS_ok {s : List Pr} {x : List UInt8} (hV : StV s) (hx : ∃ k a b c, okOp k a b c = true ∧ txt k a b c = x) (c b e : Int) (r : List UInt8) :
    f40 s c b e x r = some (XS s x) ∧ f39 s c b e x r = some ((XS s x).2, (XS s x).1) ∧ StV (XS s x).1 := by
  obtain ⟨k, a1, b1, c1, h1, h2⟩ := hx
  obtain ⟨la, lb, lc⟩ := ok_len h1
  obtain ⟨l', hE⟩ := exec s k a1 b1 c1 hV (by omega) (by omega) (by omega)
  have hlen : (txt k a1 b1 c1).length ≤ 1048576 := by
    have h3 := kd_len k
    have h4 : ∀ w : List UInt8, w.length ≤ 64 → (if w == [] then [] else 32 :: w).length ≤ 65 := fun w hw => by split <;> simp <;> omega
    unfold txt
    have := h4 a1 la; have := h4 b1 lb; have := h4 c1 lc
    simp only [List.length_append]
    omega
  have e40 : ∀ c b e r, f40 s c b e x r = some (l', (R (ent s a1) s.length k a1 b1 c1).1) := fun c b e r => by
    unfold f40
    rw [← h2, f50_hit h1 hlen, some_bind]
    simp only [hE.prog, some_bind]
  have eX : XS s x = (l', (R (ent s a1) s.length k a1 b1 c1).1) := by unfold XS; rw [e40]; rfl
  refine ⟨by rw [e40, eX], ?_, by rw [eX]; exact hE.ok⟩
  rw [eX]
  unfold f39
  rw [← h2, f35_hit h1 hlen, some_bind]
  simp only [hE.spec, some_bind]
end Go.Abs
namespace Go.Abs
open Go Go.Hist
abbrev HL := List (Int × Int × Int × List UInt8 × List UInt8)
abbrev StT := List (List UInt8 × List UInt8 × Int)
def valL (l : HL) : Prop := l.length ≤ 10 ∧ ∀ x ∈ l, HV x
def ints (o : List Nat) : List Int := o.map fun i : Nat => (i : Int)
theorem ints_snoc (o : List Nat) (i : Nat) : ints (o ++ [i]) = ints o ++ [(i : Int)] := by simp [ints]
theorem hv_at {l : HL} (h : valL l) {i : Nat} (hi : i < l.length) : HV (l.getD i d0) := h.2 _ (Hist.getD_mem hi)
/-! ### the memory -/
section
variable {n : Nat} (S : List Nat → StT → Option (List Nat))
/-- what the memory says is true, its rows are short -/
structure Memo (n : Nat) (S : List Nat → StT → Option (List Nat)) (M : Nat) (ks : List Int) (vs : List (List StT)) : Prop where
  len : ks.length = vs.length
  row : ∀ v ∈ vs, v.length ≤ M ∧ ∀ p ∈ v, StV p
  ok : ∀ (m : Nat) (p : StT), p ∈ getM ks vs [] [] (m : Int) → ∀ o, Msk n m o → (∀ x ∈ o, x < n) → S o p = none
theorem Memo.nil {M : Nat} : Memo n S M [] [] := ⟨rfl, by simp, by simp [getM, idxL]⟩
theorem Memo.get {M : Nat} {ks : List Int} {vs : List (List StT)} (h : Memo n S M ks vs) (x : Int) : (getM ks vs [] [] x).length ≤ M ∧ ∀ p ∈ getM ks vs [] [] x, StV p := by
  rcases getM_mem ks vs x with e | e
  · rw [e]; exact ⟨Nat.zero_le _, by simp⟩
  · exact h.row _ e
theorem Memo.mono {M M' : Nat} {ks : List Int} {vs : List (List StT)} (h : Memo n S M ks vs) (hM : M ≤ M') : Memo n S M' ks vs := ⟨h.len, fun v hv => ⟨Nat.le_trans (h.row v hv).1 hM, (h.row v hv).2⟩, h.ok⟩
theorem Memo.add {M : Nat} {ks : List Int} {vs : List (List StT)} (h : Memo n S M ks vs) {m : Nat} {p : StT} (hV : StV p) (hS : ∀ o, Msk n m o → (∀ x ∈ o, x < n) → S o p = none) :
    Memo n S (M + 1) (updK ks (m : Int)) (updV ks vs (m : Int) (getM ks vs [] [] (m : Int) ++ [p])) := by
  refine ⟨upd_len _ _ _ _ h.len, fun v hv => ?_, fun m' p' hp' o ho hx => ?_⟩
  · rcases updV_mem hv with rfl | hv
    · obtain ⟨h1, h2⟩ := h.get S (m : Int)
      refine ⟨by simp only [List.length_append, List.length_singleton]; omega, fun q hq => ?_⟩
      rcases List.mem_append.1 hq with hq | hq
      · exact h2 q hq
      · simp only [List.mem_singleton] at hq; rw [hq]; exact hV
    · exact ⟨Nat.le_trans (h.row v hv).1 (by omega), (h.row v hv).2⟩
  · rw [getM_upd _ _ _ _ _ h.len] at hp'
    split at hp'
    · rename_i e
      have e : m' = m := by omega
      subst e
      rcases List.mem_append.1 hp' with hp' | hp'
      · exact h.ok m' p' hp' o ho hx
      · simp only [List.mem_singleton] at hp'; rw [hp']; exact hS o ho hx
    · exact h.ok m' p' hp' o ho hx
end
theorem msk_same {n m : Nat} {o o' : List Nat} (h : Msk n m o) (h' : Msk n m o') (ho : ∀ x ∈ o, x < n) (ho' : ∀ x ∈ o', x < n) (x : Nat) : x ∈ o ↔ x ∈ o' := by
  have e : ∀ i, i < n → o.contains i = o'.contains i := fun i hi => (h.2 i hi).symm.trans (h'.2 i hi)
  constructor
  · intro hx; have := e x (ho x hx); simp only [List.contains_eq_mem] at this; rw [decide_eq_decide] at this; exact this.1 hx
  · intro hx; have := e x (ho' x hx); simp only [List.contains_eq_mem] at this; rw [decide_eq_decide] at this; exact this.2 hx
/-- the search with as much fuel as it wants -/
def SR (own : Bool) (l : HL) (o : List Nat) (p : StT) : Option (List Nat) := srch l.length (Hist.okP (Bf own l)) (finC l.length (cmpl l)) (stpl XS l) (l.length + 1) o p
theorem left_le (n : Nat) (o : List Nat) : left n o ≤ n := by
  unfold left
  have := List.countP_le_length (p := fun i => !o.contains i) (l := List.range n)
  simpa using this
theorem SR_eq (own : Bool) (l : HL) (o : List Nat) (p : StT) : SR own l o p = if finC l.length (cmpl l) o then some o else (List.range l.length).findSome? fun i => if o.contains i || !Hist.okP (Bf own l) o i then none else (stpl XS l p i).bind (SR own l (o ++ [i])) := by
  have hle := left_le l.length o
  conv => lhs; unfold SR
  rw [srch_fuel (l.length + 1) (left l.length o + 1) o p (by omega) (by omega), srch]
  split
  · rfl
  · refine findSome_congr fun i hi => ?_
    split
    · rfl
    · rename_i hc
      simp only [Bool.or_eq_true, not_or, Bool.not_eq_true] at hc
      have h1 := left_lt (List.mem_range.1 hi) hc.1
      congr 1
      funext t
      exact srch_fuel _ _ _ _ h1 (by have := left_le l.length (o ++ [i]); omega)
theorem SR_set {own : Bool} {l : HL} {o o' : List Nat} (h : ∀ x, x ∈ o ↔ x ∈ o') {p : StT} (hn : SR own l o p = none) : SR own l o' p = none := by
  have := srch_set (n := l.length) (B := Bf own l) (stp := stpl XS l) (fin := finC l.length (cmpl l)) (fun a b hab => by
    rw [Bool.eq_iff_iff, finC_iff, finC_iff]
    exact ⟨fun hh i hi hc => (hab i).1 (hh i hi hc), fun hh i hi hc => (hab i).2 (hh i hi hc)⟩) (l.length + 1) o o' p h
  unfold SR at hn ⊢
  rw [hn] at this
  cases h2 : srch l.length (Hist.okP (Bf own l)) (finC l.length (cmpl l)) (stpl XS l) (l.length + 1) o' p with
  | none => rfl
  | some _ => rw [h2] at this; cases this
/-- how many rows a search adds at most -/
def TT : Nat → Nat
  | 0 => 1
  | r + 1 => 1 + 10 * TT r
theorem TT_le : ∀ r, r ≤ 10 → TT r ≤ 20000000000 := by decide
theorem TT_pos : ∀ r, 1 ≤ TT r
  | 0 => Nat.le_refl _
  | r + 1 => by unfold TT; omega
theorem TT_mono : ∀ {r s : Nat}, r ≤ s → TT r ≤ TT s
  | r, s, h => by
    induction h with
    | refl => exact Nat.le_refl _
    | step h ih => exact Nat.le_trans ih (by show TT _ ≤ 1 + 10 * TT _; omega)
/-- the answer of the program -/
def ans (w : Option (List Nat)) (l : HL) (c : Int) (ks : List Int) (vs : List (List StT)) : List Int × Bool × HL × Int × List Int × List (List StT) := ((w.map ints).getD [], w.isSome, l, c, ks, vs)
theorem findSome_drop {α β : Type} (f : α → Option β) (a : α) (l : List α) : (a :: l).findSome? f = match f a with | some b => some b | none => l.findSome? f := by
  rw [List.findSome?_cons]
  cases f a <;> rfl
theorem range_drop (n j : Nat) (h : j < n) : (List.range n).drop j = j :: (List.range n).drop (j + 1) := by
  rw [List.drop_eq_getElem_cons (by simpa using h)]
  simp
end Go.Abs
namespace Go.Abs
open Go Go.Hist
theorem f41_loop {l : HL} {m : Nat} {o : List Nat} (hl : valL l) (hm : Msk l.length m o) (x2 x3 x4 : Int) (x5 x6 : List UInt8) (x8 : Int) (x9 : List Int) (x10 : List (List StT)) (K : Unit → Option (Bool × HL × Int × List Int × List (List StT)))
    (P : Nat → Bool) (hP : ∀ j, j < l.length → f31 x2 x3 x4 x5 x6 (l.getD j d0).1 (l.getD j d0).2.1 (l.getD j d0).2.2.1 (l.getD j d0).2.2.2.1 (l.getD j d0).2.2.2.2 = some (P j)) : ∀ c k n, n + c = l.length → c < k →
    ((∃ j, n ≤ j ∧ j < l.length ∧ j ∈ o ∧ P j = true) ∧ f41_L0 (m : Int) x2 x3 x4 x5 x6 l x8 x9 x10 K k n = some (false, l, x8, x9, x10)) ∨ ((∀ j, n ≤ j → j < l.length → j ∈ o → P j = false) ∧ f41_L0 (m : Int) x2 x3 x4 x5 x6 l x8 x9 x10 K k n = K ())
  | 0, k, n, hn, hk => by
    obtain ⟨k, rfl⟩ : ∃ q, k = q + 1 := ⟨k - 1, by omega⟩
    right
    rw [f41_L0.eq_2, ifd_neg (by omega)]
    exact ⟨fun j h1 h2 => by omega, rfl⟩
  | c + 1, k, n, hn, hk => by
    obtain ⟨k, rfl⟩ : ∃ q, k = q + 1 := ⟨k - 1, by omega⟩
    have h1 : n < l.length := by omega
    have h10 := hl.1
    rw [f41_L0.eq_2, ifd_pos (by omega), chk_pos (by omega), d0_eq, hP n h1, bit64 m n (hm.lt hl.1), hm.2 n h1]
    have e64 : n ≤ IntKind.bits .u64 := by show n ≤ 64; omega
    have ih := f41_loop hl hm x2 x3 x4 x5 x6 x8 x9 x10 K P hP c k (n + 1) (by omega) (by omega)
    have on : (n ∈ o → P n = false) → ((∃ j, n ≤ j ∧ j < l.length ∧ j ∈ o ∧ P j = true) ∧ (chk (((n : Int) + (1 : Int)) ≤ 9223372036854775807) <| (f41_L0 (m : Int) x2 x3 x4 x5 x6 l x8 x9 x10 K k) (n + 1)) = some (false, l, x8, x9, x10)) ∨ ((∀ j, n ≤ j → j < l.length → j ∈ o → P j = false) ∧ (chk (((n : Int) + (1 : Int)) ≤ 9223372036854775807) <| (f41_L0 (m : Int) x2 x3 x4 x5 x6 l x8 x9 x10 K k) (n + 1)) = K ()) := by
      intro hn0
      rw [chk_pos (by omega)]
      rcases ih with ⟨⟨j, h2, h3⟩, h4⟩ | ⟨h3, h4⟩
      · exact .inl ⟨⟨j, by omega, h3⟩, h4⟩
      · refine .inr ⟨fun j h5 h6 h7 => ?_, h4⟩
        rcases Nat.lt_or_ge n j with h8 | h8
        · exact h3 j h8 h6 h7
        · obtain rfl : j = n := by omega
          exact hn0 h7
    by_cases ho : n ∈ o
    · have e1 : o.contains n = true := by simpa using ho
      rw [e1]
      show (_ ∧ optc true _ _ = _) ∨ (_ ∧ optc true _ _ = _)
      rw [optc_t, some_bind, chk_pos e64, Bool.true_and]
      cases hp : P n with
      | true => rw [if_pos rfl]; exact .inl ⟨⟨n, Nat.le_refl _, h1, ho, hp⟩, rfl⟩
      | false => rw [if_neg (by simp)]; exact on fun _ => hp
    · have e1 : o.contains n = false := by simpa using ho
      rw [e1]
      show (_ ∧ optc false _ _ = _) ∨ (_ ∧ optc false _ _ = _)
      rw [optc_f, chk_pos e64, Bool.false_and, if_neg (by simp)]
      exact on fun h => absurd h ho
theorem f31_eq (x y : HOp) : f31 x.1 x.2.1 x.2.2.1 x.2.2.2.1 x.2.2.2.2 y.1 y.2.1 y.2.2.1 y.2.2.2.1 y.2.2.2.2 = some (decide (x.2.2.1 ≠ -1) && decide (x.2.2.1 < y.2.1)) := by
  unfold f31 f36
  rw [some_bind]
  congr 1
  congr 1
  rw [Bool.eq_iff_iff]
  simp
theorem f41_eq {l : HL} {m : Nat} {o : List Nat} (hl : valL l) (hm : Msk l.length m o) (ho : ∀ x ∈ o, x < l.length) {i : Nat} (x8 : Int) (x9 : List Int) (x10 : List (List StT)) :
    f41 (m : Int) (l.getD i d0).1 (l.getD i d0).2.1 (l.getD i d0).2.2.1 (l.getD i d0).2.2.2.1 (l.getD i d0).2.2.2.2 l x8 x9 x10 = some (Hist.okP (Bf false l) o i, l, x8, x9, x10) := by
  unfold f41
  rw [jn_eq]
  rcases f41_loop hl hm (l.getD i d0).1 (l.getD i d0).2.1 (l.getD i d0).2.2.1 (l.getD i d0).2.2.2.1 (l.getD i d0).2.2.2.2 x8 x9 x10 (fun _ => some (true, l, x8, x9, x10)) (fun j => Bf false l i j) (fun j _ => by rw [f31_eq]; unfold Bf cmpl; simp) l.length FUEL 0 (by omega) (fuel_lt (by have := hl.1; omega)) with ⟨⟨j, _, _, h3, h4⟩, h5⟩ | ⟨h3, h5⟩
  · have : Hist.okP (Bf false l) o i = false := by
      unfold Hist.okP
      rw [List.all_eq_false]
      exact ⟨j, h3, by simp [h4]⟩
    rw [h5, this]
  · have : Hist.okP (Bf false l) o i = true := by
      unfold Hist.okP
      rw [List.all_eq_true]
      intro j hj
      simp [h3 j (Nat.zero_le _) (ho j hj) hj]
    rw [h5, this]
theorem f48_eq {l : HL} (hl : valL l) {c : Nat} (hc : Cmk l.length c (cmpl l)) : ∀ (k : Nat) (o : List Nat) (m : Nat) (p : StT) (ks : List Int) (vs : List (List StT)) (M : Nat), left l.length o < k → Msk l.length m o → (∀ x ∈ o, x < l.length) → o.length + left l.length o ≤ 1000 → StV p → Memo l.length (SR false l) M ks vs →
    M + TT (left l.length o) ≤ 1000000000000 → ∃ ks' vs', f48 k (m : Int) (ints o) p l (c : Int) ks vs = some (ans (SR false l o p) l (c : Int) ks' vs') ∧ Memo l.length (SR false l) (M + TT (left l.length o)) ks' vs'
  | 0, _, _, _, _, _, _, h, _, _, _, _, _, _ => by omega
  | k + 1, o, m, p, ks, vs, M, hk, hm, ho, hlen, hV, hM, hB => by
    have h10 := hl.1
    have hTp := TT_pos (left l.length o)
    rw [f48.eq_2, msk_fin hl.1 hm hc, SR_eq]
    by_cases hf : finC l.length (cmpl l) o = true
    · rw [if_pos hf, if_pos hf]
      exact ⟨ks, vs, rfl, hM.mono _ (by omega)⟩
    rw [if_neg hf, if_neg hf]
    obtain ⟨hg1, hg2⟩ := hM.get (SR false l) (m : Int)
    rw [f61_eq _ p (by omega) (fun v hv => Nat.le_trans (hg2 v hv).len (by decide)), some_bind, chk_pos rfl]
    by_cases hmem : p ∈ getM ks vs [] [] (m : Int)
    · have hn := hM.ok m p hmem o hm ho
      rw [SR_eq, if_neg hf] at hn
      rw [hn, if_pos (decide_eq_true hmem)]
      exact ⟨ks, vs, rfl, hM.mono _ (by omega)⟩
    rw [if_neg (by simpa using hmem), jn_eq]
    -- one operation after the other
    let g : Nat → Option (List Nat) := fun i => if o.contains i || !Hist.okP (Bf false l) o i then none else (stpl XS l p i).bind (SR false l (o ++ [i]))
    let r := left l.length o - 1
    have main : ∀ (r8 : Bool × List StT × StT), r8.2.2 = p → ∀ (e q j : Nat) (ks : List Int) (vs : List (List StT)) (K : HL × Int × List Int × List (List StT) → Option (List Int × Bool × HL × Int × List Int × List (List StT))), j + e = l.length → e < q → Memo l.length (SR false l) (M + j * TT r) ks vs →
        ∃ ks' vs', Memo l.length (SR false l) (M + l.length * TT r) ks' vs' ∧ f48_L0 (m : Int) (ints o) l (f48 k) r8 K q (j, l, (c : Int), ks, vs) = match ((List.range l.length).drop j).findSome? g with
          | some w => some (ans (some w) l (c : Int) ks' vs')
          | none => K (l, (c : Int), ks', vs') := by
      intro r8 hr8 e
      induction e with
      | zero =>
        intro q j ks vs K hj hq hM
        obtain ⟨q, rfl⟩ : ∃ z, q = z + 1 := ⟨q - 1, by omega⟩
        obtain rfl : j = l.length := by omega
        refine ⟨ks, vs, hM, ?_⟩
        rw [f48_L0.eq_2, ifd_neg (by omega), List.drop_eq_nil_of_le (by simp)]
        rfl
      | succ e ih =>
        intro q j ks vs K hj hq hM
        obtain ⟨q, rfl⟩ : ∃ z, q = z + 1 := ⟨q - 1, by omega⟩
        have hjl : j < l.length := by omega
        have hj64 : j ≤ IntKind.bits .u64 := by show j ≤ 64; omega
        have hstep : M + (j + 1) * TT r = M + j * TT r + TT r := by rw [Nat.add_mul, Nat.one_mul, Nat.add_assoc]
        -- on to the next one
        have skip : ∀ ks vs, Memo l.length (SR false l) (M + (j + 1) * TT r) ks vs → g j = none → ∃ ks' vs', Memo l.length (SR false l) (M + l.length * TT r) ks' vs' ∧ (chk (((j : Int) + (1 : Int)) ≤ 9223372036854775807) <| (f48_L0 (m : Int) (ints o) l (f48 k) r8 K q) ((j + 1), l, (c : Int), ks, vs)) = match ((List.range l.length).drop j).findSome? g with
            | some w => some (ans (some w) l (c : Int) ks' vs')
            | none => K (l, (c : Int), ks', vs') := by
          intro ks vs hM' hgj
          obtain ⟨ks', vs', h1, h2⟩ := ih q (j + 1) ks vs K (by omega) (by omega) hM'
          refine ⟨ks', vs', h1, ?_⟩
          rw [chk_pos (by omega), h2, range_drop _ _ hjl, findSome_drop, hgj]
        have up : ∀ ks vs, Memo l.length (SR false l) (M + j * TT r) ks vs → Memo l.length (SR false l) (M + (j + 1) * TT r) ks vs := fun ks vs h => h.mono _ (by omega)
        rw [f48_L0.eq_2, ifd_pos (by omega), jn_eq, chk_pos (by omega), bit64 m j (hm.lt hl.1), hm.2 j hjl]
        by_cases hjo : j ∈ o
        · rw [if_pos (by simpa using hjo), chk_pos hj64]
          exact skip ks vs (up ks vs hM) (by simp only [g]; rw [if_pos (by simp [hjo])])
        rw [if_neg (by simpa using hjo)]
        simp only [d0_eq]
        rw [f41_eq hl hm ho (i := j) (c : Int) ks vs, some_bind, chk_pos hj64]
        cases hok : Hist.okP (Bf false l) o j with
        | false =>
          rw [if_pos (by simp)]
          exact skip ks vs (up ks vs hM) (by simp only [g]; rw [if_pos (by simp [hok])])
        | true =>
        have hg : g j = (stpl XS l p j).bind (SR false l (o ++ [j])) := by simp only [g]; rw [if_neg (by simp [hjo, hok])]
        obtain ⟨e40, _, eV⟩ := XS_ok hV (hv_at hl hjl).op (l.getD j d0).1 (l.getD j d0).2.1 (l.getD j d0).2.2.1 (l.getD j d0).2.2.2.2
        rw [if_neg (by simp), hr8, e40, some_bind]
        unfold f36
        rw [some_bind]
        have hstp : stpl XS l p j = if ((!((l.getD j d0).2.2.1 == (-1 : Int))) && (!((XS p (l.getD j d0).2.2.2.1).2 == (l.getD j d0).2.2.2.2))) = true then none else some (XS p (l.getD j d0).2.2.2.1).1 := by
          unfold stpl cmpl
          congr 2
          rw [Bool.eq_iff_iff]
          simp
        by_cases hres : ((!((l.getD j d0).2.2.1 == (-1 : Int))) && (!((XS p (l.getD j d0).2.2.2.1).2 == (l.getD j d0).2.2.2.2))) = true
        · rw [if_pos hres]
          rw [if_pos hres] at hstp
          exact skip ks vs (up ks vs hM) (by rw [hg, hstp]; rfl)
        rw [if_neg hres]
        rw [if_neg hres] at hstp
        obtain ⟨hor, hmsk⟩ := msk_add hl.1 hm hjl
        have hlt := left_lt (n := l.length) (o := o) hjl (by simpa using hjo)
        have hol : (ints o).length ≤ 1000 := by simp only [ints, List.length_map]; omega
        rw [f26_eq _ (by omega), some_bind, hor, ← ints_snoc]
        have hTm : TT (left l.length (o ++ [j])) ≤ TT r := TT_mono (by show _ ≤ left l.length o - 1; omega)
        have hTj : j * TT r ≤ 9 * TT r := Nat.mul_le_mul_right _ (by omega)
        have hTr : TT (left l.length o) = 1 + 10 * TT r := by
          show TT (left l.length o) = 1 + 10 * TT (left l.length o - 1)
          obtain ⟨z, hz⟩ : ∃ z, left l.length o = z + 1 := ⟨left l.length o - 1, by omega⟩
          rw [hz]; rfl
        obtain ⟨ks', vs', h1, h2⟩ := f48_eq hl hc k (o ++ [j]) (m ||| 2 ^ j) (XS p (l.getD j d0).2.2.2.1).1 ks vs (M + j * TT r) (by omega) hmsk (fun x hx => by
          rcases List.mem_append.1 hx with hx | hx
          · exact ho x hx
          · simp only [List.mem_singleton] at hx; omega) (by simp only [List.length_append, List.length_singleton]; omega) eV hM (by omega)
        have hp2 : (1 : Int) * 2 ^ j ≤ 18446744073709551615 := by
          have h3 : (2 : Nat) ^ j ≤ 2 ^ 10 := Nat.pow_le_pow_right (by decide) (by omega)
          have h4 : ((2 : Int) ^ j) = ((2 ^ j : Nat) : Int) := by simp
          rw [h4, Int.one_mul]
          have h5 : (2 : Nat) ^ 10 = 1024 := rfl
          generalize (2 : Nat) ^ j = z at h3
          omega
        have hp1 : 0 ≤ (1 : Int) * 2 ^ j := by
          have h4 : ((2 : Int) ^ j) = ((2 ^ j : Nat) : Int) := by simp
          rw [h4, Int.one_mul]
          exact Int.natCast_nonneg _
        rw [h1, some_bind, chk_pos ⟨hj64, hp1, hp2⟩, chk_pos (by omega)]
        have h2' : Memo l.length (SR false l) (M + (j + 1) * TT r) ks' vs' := h2.mono _ (by omega)
        cases hS : SR false l (o ++ [j]) (XS p (l.getD j d0).2.2.2.1).1 with
        | some w =>
          refine ⟨ks', vs', h2'.mono _ (by have := Nat.mul_le_mul_right (TT r) (show j + 1 ≤ l.length by omega); omega), ?_⟩
          rw [range_drop _ _ hjl, findSome_drop, hg, hstp]
          simp only [Option.bind_some, hS]
          rfl
        | none =>
          rw [if_neg (show ¬ ((ans none l (c : Int) ks' vs').2.1 = true) from fun h => by cases h)]
          exact skip ks' vs' h2' (by rw [hg, hstp]; simp only [Option.bind_some, hS])
    have hleft : 1 ≤ left l.length o := by
      rcases Nat.eq_zero_or_pos (left l.length o) with h0 | h0
      · exfalso
        apply hf
        rw [finC_iff]
        intro i hi _
        unfold left at h0
        rw [List.countP_eq_zero] at h0
        have := h0 i (List.mem_range.2 hi)
        simpa using this
      · exact h0
    have hTr : TT (left l.length o) = 1 + 10 * TT r := by
      show TT (left l.length o) = 1 + 10 * TT (left l.length o - 1)
      obtain ⟨z, hz⟩ : ∃ z, left l.length o = z + 1 := ⟨left l.length o - 1, by omega⟩
      rw [hz]; rfl
    have hTn : l.length * TT r ≤ 10 * TT r := Nat.mul_le_mul_right _ (by omega)
    obtain ⟨ks', vs', h1, h2⟩ := main (decide (p ∈ getM ks vs [] [] (m : Int)), getM ks vs [] [] (m : Int), p) rfl l.length FUEL 0 ks vs _ (by omega) (fuel_lt (by omega)) (by simpa using hM)
    rw [h2, List.drop_zero]
    have hgg : (List.range l.length).findSome? (fun i => if o.contains i || !Hist.okP (Bf false l) o i then none else (stpl XS l p i).bind (SR false l (o ++ [i]))) = (List.range l.length).findSome? g := rfl
    rw [hgg]
    cases hS : (List.range l.length).findSome? g with
    | some w => exact ⟨ks', vs', rfl, h1.mono _ (by omega)⟩
    | none =>
      have hno : SR false l o p = none := by rw [SR_eq, if_neg hf]; exact hS
      have hadd := h1.add (SR false l) (m := m) hV fun o' ho' hx' => SR_set (msk_same hm ho' ho hx') hno
      have hg3 := (h1.get (SR false l) (m : Int)).1
      dsimp only
      rw [chk_pos (by omega)]
      exact ⟨_, _, rfl, hadd.mono _ (by omega)⟩
theorem f30_loop {l : HL} (hl : valL l) (K : Int → Option (List Int × Int)) : ∀ e k n (c : Nat), n + e = l.length → e < k → Cmk n c (cmpl l) → ∃ c', Cmk l.length c' (cmpl l) ∧ f30_L0 l K k (n, (c : Int)) = K (c' : Int)
  | 0, k, n, c, hn, hk, hc => by
    obtain ⟨k, rfl⟩ : ∃ q, k = q + 1 := ⟨k - 1, by omega⟩
    obtain rfl : n = l.length := by omega
    exact ⟨c, hc, by rw [f30_L0.eq_2, ifd_neg (by omega)]⟩
  | e + 1, k, n, c, hn, hk, hc => by
    obtain ⟨k, rfl⟩ : ∃ q, k = q + 1 := ⟨k - 1, by omega⟩
    have h10 := hl.1
    have hnl : n < l.length := by omega
    obtain ⟨c', h1, h2⟩ := f30_loop hl K e k (n + 1) _ (by omega) (by omega) (cmk_step hc)
    refine ⟨c', h1, ?_⟩
    rw [f30_L0.eq_2, ifd_pos (by omega), jn_eq, chk_pos (by omega), d0_eq]
    unfold f36
    rw [some_bind]
    by_cases hen : (l.getD n d0).2.2.1 = -1
    · have e1 : cmpl l n = false := by unfold cmpl; simp only [hen]; rfl
      rw [e1] at h2
      simp only [Bool.false_eq_true, if_false] at h2
      rw [if_neg (by rw [hen]; decide)]
      dsimp only
      rw [chk_pos (by omega)]
      exact h2
    · have e1 : cmpl l n = true := cmpl_iff.2 hen
      rw [e1, if_pos rfl] at h2
      have hpow : ((2 : Int) ^ n) = ((2 ^ n : Nat) : Int) := by simp
      have hp3 : (2 : Nat) ^ n ≤ 2 ^ 10 := Nat.pow_le_pow_right (by decide) (by omega)
      have hp4 : (2 : Nat) ^ 10 = 1024 := rfl
      have hc64 : c < 2 ^ 64 := Nat.lt_of_lt_of_le hc.1 (Nat.le_trans (Nat.pow_le_pow_right (by decide) (show n ≤ 10 by omega)) (by decide))
      have hor : bitsI .or .u64 (c : Int) ((1 : Int) * 2 ^ n) = ((c ||| 2 ^ n : Nat) : Int) := by
        rw [Int.one_mul, hpow]
        exact or64 c (2 ^ n) hc64 (Nat.lt_of_le_of_lt hp3 (by decide))
      have hb : n ≤ IntKind.bits .u64 ∧ 0 ≤ ((1 : Int) * 2 ^ n) ∧ ((1 : Int) * 2 ^ n) ≤ 18446744073709551615 := by
        refine ⟨by show n ≤ 64; omega, ?_, ?_⟩
        · rw [Int.one_mul, hpow]; exact Int.natCast_nonneg _
        · rw [Int.one_mul, hpow]
          generalize (2 : Nat) ^ n = z at hp3
          omega
      rw [if_pos (by simpa using hen), chk_pos hb]
      dsimp only
      rw [chk_pos (by omega), hor]
      exact h2
/-- the answer to a search -/
theorem f30_eq {l : HL} (hl : valL l) : f30 l = some (match SR false l [] [] with | some w => (ints w, 0) | none => ([], 14)) := by
  have h10 := hl.1
  unfold f30
  rw [jn_eq]
  obtain ⟨c, h1, h2⟩ := f30_loop hl (fun i6 => (f48 FUEL (0 : Int) [] [] l i6 [] []).bind fun r7 => if (!r7.2.1) then some ([], (14 : Int)) else some (r7.1, (0 : Int))) l.length FUEL 0 0 (by omega) (fuel_lt (by omega)) ⟨by simp, fun i hi => by omega⟩
  have e0 : ((0 : Nat) : Int) = 0 := rfl
  rw [e0] at h2
  rw [h2]
  have hle := left_le l.length []
  have hT : TT (left l.length []) ≤ 20000000000 := TT_le _ (by omega)
  obtain ⟨ks', vs', h3, _⟩ := f48_eq hl h1 FUEL [] 0 [] [] [] 0 (fuel_lt (by omega)) (msk_nil _) (by simp) (by simp only [List.length_nil]; omega) .nil (Memo.nil _) (by omega)
  have e1 : ints [] = [] := rfl
  rw [e0, e1] at h3
  rw [h3, some_bind]
  cases hS : SR false l [] [] with
  | some w => rfl
  | none => rfl
theorem f41a_loop {l : HL} {m : Nat} {o : List Nat} (hl : valL l) (hm : Msk l.length m o) (x2 x3 x4 : Int) (x5 x6 : List UInt8) (x8 : Int) (x9 : List Int) (x10 : List (List StT)) (K : Unit → Option (Bool × HL × Int × List Int × List (List StT)))
    (P : Nat → Bool) (hP : ∀ j, j < l.length → f33 x2 x3 x4 x5 x6 (l.getD j d0).1 (l.getD j d0).2.1 (l.getD j d0).2.2.1 (l.getD j d0).2.2.2.1 (l.getD j d0).2.2.2.2 = some (P j)) : ∀ c k n, n + c = l.length → c < k →
    ((∃ j, n ≤ j ∧ j < l.length ∧ j ∈ o ∧ P j = true) ∧ f41a_L0 (m : Int) x2 x3 x4 x5 x6 l x8 x9 x10 K k n = some (false, l, x8, x9, x10)) ∨ ((∀ j, n ≤ j → j < l.length → j ∈ o → P j = false) ∧ f41a_L0 (m : Int) x2 x3 x4 x5 x6 l x8 x9 x10 K k n = K ())
  | 0, k, n, hn, hk => by
    obtain ⟨k, rfl⟩ : ∃ q, k = q + 1 := ⟨k - 1, by omega⟩
    right
    rw [f41a_L0.eq_2, ifd_neg (by omega)]
    exact ⟨fun j h1 h2 => by omega, rfl⟩
  | c + 1, k, n, hn, hk => by
    obtain ⟨k, rfl⟩ : ∃ q, k = q + 1 := ⟨k - 1, by omega⟩
    have h1 : n < l.length := by omega
    have h10 := hl.1
    rw [f41a_L0.eq_2, ifd_pos (by omega), chk_pos (by omega), d0_eq, hP n h1, bit64 m n (hm.lt hl.1), hm.2 n h1]
    have e64 : n ≤ IntKind.bits .u64 := by show n ≤ 64; omega
    have ih := f41a_loop hl hm x2 x3 x4 x5 x6 x8 x9 x10 K P hP c k (n + 1) (by omega) (by omega)
    have on : (n ∈ o → P n = false) → ((∃ j, n ≤ j ∧ j < l.length ∧ j ∈ o ∧ P j = true) ∧ (chk (((n : Int) + (1 : Int)) ≤ 9223372036854775807) <| (f41a_L0 (m : Int) x2 x3 x4 x5 x6 l x8 x9 x10 K k) (n + 1)) = some (false, l, x8, x9, x10)) ∨ ((∀ j, n ≤ j → j < l.length → j ∈ o → P j = false) ∧ (chk (((n : Int) + (1 : Int)) ≤ 9223372036854775807) <| (f41a_L0 (m : Int) x2 x3 x4 x5 x6 l x8 x9 x10 K k) (n + 1)) = K ()) := by
      intro hn0
      rw [chk_pos (by omega)]
      rcases ih with ⟨⟨j, h2, h3⟩, h4⟩ | ⟨h3, h4⟩
      · exact .inl ⟨⟨j, by omega, h3⟩, h4⟩
      · refine .inr ⟨fun j h5 h6 h7 => ?_, h4⟩
        rcases Nat.lt_or_ge n j with h8 | h8
        · exact h3 j h8 h6 h7
        · obtain rfl : j = n := by omega
          exact hn0 h7
    by_cases ho : n ∈ o
    · have e1 : o.contains n = true := by simpa using ho
      rw [e1]
      show (_ ∧ optc true _ _ = _) ∨ (_ ∧ optc true _ _ = _)
      rw [optc_t, some_bind, chk_pos e64, Bool.true_and]
      cases hp : P n with
      | true => rw [if_pos rfl]; exact .inl ⟨⟨n, Nat.le_refl _, h1, ho, hp⟩, rfl⟩
      | false => rw [if_neg (by simp)]; exact on fun _ => hp
    · have e1 : o.contains n = false := by simpa using ho
      rw [e1]
      show (_ ∧ optc false _ _ = _) ∨ (_ ∧ optc false _ _ = _)
      rw [optc_f, chk_pos e64, Bool.false_and, if_neg (by simp)]
      exact on fun h => absurd h ho
theorem f33_eq (x y : HOp) : f33 x.1 x.2.1 x.2.2.1 x.2.2.2.1 x.2.2.2.2 y.1 y.2.1 y.2.2.1 y.2.2.2.1 y.2.2.2.2 = some (decide (x.2.2.1 ≠ -1) && (decide (x.2.2.1 < y.2.1) && decide (x.1 = y.1))) := by
  unfold f33
  by_cases h : x.1 = y.1
  · have e : ((x.1 == y.1) == true) = true := by simp [h]
    rw [e, optc_t, f31_eq, some_bind]
    simp [h]
  · have e : ((x.1 == y.1) == true) = false := by simp [h]
    rw [e, optc_f]
    simp [h]
theorem f41a_eq {l : HL} {m : Nat} {o : List Nat} (hl : valL l) (hm : Msk l.length m o) (ho : ∀ x ∈ o, x < l.length) {i : Nat} (x8 : Int) (x9 : List Int) (x10 : List (List StT)) :
    f41a (m : Int) (l.getD i d0).1 (l.getD i d0).2.1 (l.getD i d0).2.2.1 (l.getD i d0).2.2.2.1 (l.getD i d0).2.2.2.2 l x8 x9 x10 = some (Hist.okP (Bf true l) o i, l, x8, x9, x10) := by
  unfold f41a
  rw [jn_eq]
  rcases f41a_loop hl hm (l.getD i d0).1 (l.getD i d0).2.1 (l.getD i d0).2.2.1 (l.getD i d0).2.2.2.1 (l.getD i d0).2.2.2.2 x8 x9 x10 (fun _ => some (true, l, x8, x9, x10)) (fun j => Bf true l i j) (fun j _ => by rw [f33_eq]; unfold Bf cmpl; simp) l.length FUEL 0 (by omega) (fuel_lt (by have := hl.1; omega)) with ⟨⟨j, _, _, h3, h4⟩, h5⟩ | ⟨h3, h5⟩
  · have : Hist.okP (Bf true l) o i = false := by
      unfold Hist.okP
      rw [List.all_eq_false]
      exact ⟨j, h3, by simp [h4]⟩
    rw [h5, this]
  · have : Hist.okP (Bf true l) o i = true := by
      unfold Hist.okP
      rw [List.all_eq_true]
      intro j hj
      simp [h3 j (Nat.zero_le _) (ho j hj) hj]
    rw [h5, this]
theorem f48a_eq {l : HL} (hl : valL l) {c : Nat} (hc : Cmk l.length c (cmpl l)) : ∀ (k : Nat) (o : List Nat) (m : Nat) (p : StT) (ks : List Int) (vs : List (List StT)) (M : Nat), left l.length o < k → Msk l.length m o → (∀ x ∈ o, x < l.length) → o.length + left l.length o ≤ 1000 → StV p → Memo l.length (SR true l) M ks vs →
    M + TT (left l.length o) ≤ 1000000000000 → ∃ ks' vs', f48a k (m : Int) (ints o) p l (c : Int) ks vs = some (ans (SR true l o p) l (c : Int) ks' vs') ∧ Memo l.length (SR true l) (M + TT (left l.length o)) ks' vs'
  | 0, _, _, _, _, _, _, h, _, _, _, _, _, _ => by omega
  | k + 1, o, m, p, ks, vs, M, hk, hm, ho, hlen, hV, hM, hB => by
    have h10 := hl.1
    have hTp := TT_pos (left l.length o)
    rw [f48a.eq_2, msk_fin hl.1 hm hc, SR_eq]
    by_cases hf : finC l.length (cmpl l) o = true
    · rw [if_pos hf, if_pos hf]
      exact ⟨ks, vs, rfl, hM.mono _ (by omega)⟩
    rw [if_neg hf, if_neg hf]
    obtain ⟨hg1, hg2⟩ := hM.get (SR true l) (m : Int)
    rw [f61_eq _ p (by omega) (fun v hv => Nat.le_trans (hg2 v hv).len (by decide)), some_bind, chk_pos rfl]
    by_cases hmem : p ∈ getM ks vs [] [] (m : Int)
    · have hn := hM.ok m p hmem o hm ho
      rw [SR_eq, if_neg hf] at hn
      rw [hn, if_pos (decide_eq_true hmem)]
      exact ⟨ks, vs, rfl, hM.mono _ (by omega)⟩
    rw [if_neg (by simpa using hmem), jn_eq]
    -- one operation after the other
    let g : Nat → Option (List Nat) := fun i => if o.contains i || !Hist.okP (Bf true l) o i then none else (stpl XS l p i).bind (SR true l (o ++ [i]))
    let r := left l.length o - 1
    have main : ∀ (r8 : Bool × List StT × StT), r8.2.2 = p → ∀ (e q j : Nat) (ks : List Int) (vs : List (List StT)) (K : HL × Int × List Int × List (List StT) → Option (List Int × Bool × HL × Int × List Int × List (List StT))), j + e = l.length → e < q → Memo l.length (SR true l) (M + j * TT r) ks vs →
        ∃ ks' vs', Memo l.length (SR true l) (M + l.length * TT r) ks' vs' ∧ f48a_L0 (m : Int) (ints o) l (f48a k) r8 K q (j, l, (c : Int), ks, vs) = match ((List.range l.length).drop j).findSome? g with
          | some w => some (ans (some w) l (c : Int) ks' vs')
          | none => K (l, (c : Int), ks', vs') := by
      intro r8 hr8 e
      induction e with
      | zero =>
        intro q j ks vs K hj hq hM
        obtain ⟨q, rfl⟩ : ∃ z, q = z + 1 := ⟨q - 1, by omega⟩
        obtain rfl : j = l.length := by omega
        refine ⟨ks, vs, hM, ?_⟩
        rw [f48a_L0.eq_2, ifd_neg (by omega), List.drop_eq_nil_of_le (by simp)]
        rfl
      | succ e ih =>
        intro q j ks vs K hj hq hM
        obtain ⟨q, rfl⟩ : ∃ z, q = z + 1 := ⟨q - 1, by omega⟩
        have hjl : j < l.length := by omega
        have hj64 : j ≤ IntKind.bits .u64 := by show j ≤ 64; omega
        have hstep : M + (j + 1) * TT r = M + j * TT r + TT r := by rw [Nat.add_mul, Nat.one_mul, Nat.add_assoc]
        -- on to the next one
        have skip : ∀ ks vs, Memo l.length (SR true l) (M + (j + 1) * TT r) ks vs → g j = none → ∃ ks' vs', Memo l.length (SR true l) (M + l.length * TT r) ks' vs' ∧ (chk (((j : Int) + (1 : Int)) ≤ 9223372036854775807) <| (f48a_L0 (m : Int) (ints o) l (f48a k) r8 K q) ((j + 1), l, (c : Int), ks, vs)) = match ((List.range l.length).drop j).findSome? g with
            | some w => some (ans (some w) l (c : Int) ks' vs')
            | none => K (l, (c : Int), ks', vs') := by
          intro ks vs hM' hgj
          obtain ⟨ks', vs', h1, h2⟩ := ih q (j + 1) ks vs K (by omega) (by omega) hM'
          refine ⟨ks', vs', h1, ?_⟩
          rw [chk_pos (by omega), h2, range_drop _ _ hjl, findSome_drop, hgj]
        have up : ∀ ks vs, Memo l.length (SR true l) (M + j * TT r) ks vs → Memo l.length (SR true l) (M + (j + 1) * TT r) ks vs := fun ks vs h => h.mono _ (by omega)
        rw [f48a_L0.eq_2, ifd_pos (by omega), jn_eq, chk_pos (by omega), bit64 m j (hm.lt hl.1), hm.2 j hjl]
        by_cases hjo : j ∈ o
        · rw [if_pos (by simpa using hjo), chk_pos hj64]
          exact skip ks vs (up ks vs hM) (by simp only [g]; rw [if_pos (by simp [hjo])])
        rw [if_neg (by simpa using hjo)]
        simp only [d0_eq]
        rw [f41a_eq hl hm ho (i := j) (c : Int) ks vs, some_bind, chk_pos hj64]
        cases hok : Hist.okP (Bf true l) o j with
        | false =>
          rw [if_pos (by simp)]
          exact skip ks vs (up ks vs hM) (by simp only [g]; rw [if_pos (by simp [hok])])
        | true =>
        have hg : g j = (stpl XS l p j).bind (SR true l (o ++ [j])) := by simp only [g]; rw [if_neg (by simp [hjo, hok])]
        obtain ⟨e40, _, eV⟩ := XS_ok hV (hv_at hl hjl).op (l.getD j d0).1 (l.getD j d0).2.1 (l.getD j d0).2.2.1 (l.getD j d0).2.2.2.2
        rw [if_neg (by simp), hr8, e40, some_bind]
        unfold f36
        rw [some_bind]
        have hstp : stpl XS l p j = if ((!((l.getD j d0).2.2.1 == (-1 : Int))) && (!((XS p (l.getD j d0).2.2.2.1).2 == (l.getD j d0).2.2.2.2))) = true then none else some (XS p (l.getD j d0).2.2.2.1).1 := by
          unfold stpl cmpl
          congr 2
          rw [Bool.eq_iff_iff]
          simp
        by_cases hres : ((!((l.getD j d0).2.2.1 == (-1 : Int))) && (!((XS p (l.getD j d0).2.2.2.1).2 == (l.getD j d0).2.2.2.2))) = true
        · rw [if_pos hres]
          rw [if_pos hres] at hstp
          exact skip ks vs (up ks vs hM) (by rw [hg, hstp]; rfl)
        rw [if_neg hres]
        rw [if_neg hres] at hstp
        obtain ⟨hor, hmsk⟩ := msk_add hl.1 hm hjl
        have hlt := left_lt (n := l.length) (o := o) hjl (by simpa using hjo)
        have hol : (ints o).length ≤ 1000 := by simp only [ints, List.length_map]; omega
        rw [f26_eq _ (by omega), some_bind, hor, ← ints_snoc]
        have hTm : TT (left l.length (o ++ [j])) ≤ TT r := TT_mono (by show _ ≤ left l.length o - 1; omega)
        have hTj : j * TT r ≤ 9 * TT r := Nat.mul_le_mul_right _ (by omega)
        have hTr : TT (left l.length o) = 1 + 10 * TT r := by
          show TT (left l.length o) = 1 + 10 * TT (left l.length o - 1)
          obtain ⟨z, hz⟩ : ∃ z, left l.length o = z + 1 := ⟨left l.length o - 1, by omega⟩
          rw [hz]; rfl
        obtain ⟨ks', vs', h1, h2⟩ := f48a_eq hl hc k (o ++ [j]) (m ||| 2 ^ j) (XS p (l.getD j d0).2.2.2.1).1 ks vs (M + j * TT r) (by omega) hmsk (fun x hx => by
          rcases List.mem_append.1 hx with hx | hx
          · exact ho x hx
          · simp only [List.mem_singleton] at hx; omega) (by simp only [List.length_append, List.length_singleton]; omega) eV hM (by omega)
        have hp2 : (1 : Int) * 2 ^ j ≤ 18446744073709551615 := by
          have h3 : (2 : Nat) ^ j ≤ 2 ^ 10 := Nat.pow_le_pow_right (by decide) (by omega)
          have h4 : ((2 : Int) ^ j) = ((2 ^ j : Nat) : Int) := by simp
          rw [h4, Int.one_mul]
          have h5 : (2 : Nat) ^ 10 = 1024 := rfl
          generalize (2 : Nat) ^ j = z at h3
          omega
        have hp1 : 0 ≤ (1 : Int) * 2 ^ j := by
          have h4 : ((2 : Int) ^ j) = ((2 ^ j : Nat) : Int) := by simp
          rw [h4, Int.one_mul]
          exact Int.natCast_nonneg _
        rw [h1, some_bind, chk_pos ⟨hj64, hp1, hp2⟩, chk_pos (by omega)]
        have h2' : Memo l.length (SR true l) (M + (j + 1) * TT r) ks' vs' := h2.mono _ (by omega)
        cases hS : SR true l (o ++ [j]) (XS p (l.getD j d0).2.2.2.1).1 with
        | some w =>
          refine ⟨ks', vs', h2'.mono _ (by have := Nat.mul_le_mul_right (TT r) (show j + 1 ≤ l.length by omega); omega), ?_⟩
          rw [range_drop _ _ hjl, findSome_drop, hg, hstp]
          simp only [Option.bind_some, hS]
          rfl
        | none =>
          rw [if_neg (show ¬ ((ans none l (c : Int) ks' vs').2.1 = true) from fun h => by cases h)]
          exact skip ks' vs' h2' (by rw [hg, hstp]; simp only [Option.bind_some, hS])
    have hleft : 1 ≤ left l.length o := by
      rcases Nat.eq_zero_or_pos (left l.length o) with h0 | h0
      · exfalso
        apply hf
        rw [finC_iff]
        intro i hi _
        unfold left at h0
        rw [List.countP_eq_zero] at h0
        have := h0 i (List.mem_range.2 hi)
        simpa using this
      · exact h0
    have hTr : TT (left l.length o) = 1 + 10 * TT r := by
      show TT (left l.length o) = 1 + 10 * TT (left l.length o - 1)
      obtain ⟨z, hz⟩ : ∃ z, left l.length o = z + 1 := ⟨left l.length o - 1, by omega⟩
      rw [hz]; rfl
    have hTn : l.length * TT r ≤ 10 * TT r := Nat.mul_le_mul_right _ (by omega)
    obtain ⟨ks', vs', h1, h2⟩ := main (decide (p ∈ getM ks vs [] [] (m : Int)), getM ks vs [] [] (m : Int), p) rfl l.length FUEL 0 ks vs _ (by omega) (fuel_lt (by omega)) (by simpa using hM)
    rw [h2, List.drop_zero]
    have hgg : (List.range l.length).findSome? (fun i => if o.contains i || !Hist.okP (Bf true l) o i then none else (stpl XS l p i).bind (SR true l (o ++ [i]))) = (List.range l.length).findSome? g := rfl
    rw [hgg]
    cases hS : (List.range l.length).findSome? g with
    | some w => exact ⟨ks', vs', rfl, h1.mono _ (by omega)⟩
    | none =>
      have hno : SR true l o p = none := by rw [SR_eq, if_neg hf]; exact hS
      have hadd := h1.add (SR true l) (m := m) hV fun o' ho' hx' => SR_set (msk_same hm ho' ho hx') hno
      have hg3 := (h1.get (SR true l) (m : Int)).1
      dsimp only
      rw [chk_pos (by omega)]
      exact ⟨_, _, rfl, hadd.mono _ (by omega)⟩
theorem f30a_loop {l : HL} (hl : valL l) (K : Int → Option (List Int × Int)) : ∀ e k n (c : Nat), n + e = l.length → e < k → Cmk n c (cmpl l) → ∃ c', Cmk l.length c' (cmpl l) ∧ f30a_L0 l K k (n, (c : Int)) = K (c' : Int)
  | 0, k, n, c, hn, hk, hc => by
    obtain ⟨k, rfl⟩ : ∃ q, k = q + 1 := ⟨k - 1, by omega⟩
    obtain rfl : n = l.length := by omega
    exact ⟨c, hc, by rw [f30a_L0.eq_2, ifd_neg (by omega)]⟩
  | e + 1, k, n, c, hn, hk, hc => by
    obtain ⟨k, rfl⟩ : ∃ q, k = q + 1 := ⟨k - 1, by omega⟩
    have h10 := hl.1
    have hnl : n < l.length := by omega
    obtain ⟨c', h1, h2⟩ := f30a_loop hl K e k (n + 1) _ (by omega) (by omega) (cmk_step hc)
    refine ⟨c', h1, ?_⟩
    rw [f30a_L0.eq_2, ifd_pos (by omega), jn_eq, chk_pos (by omega), d0_eq]
    unfold f36
    rw [some_bind]
    by_cases hen : (l.getD n d0).2.2.1 = -1
    · have e1 : cmpl l n = false := by unfold cmpl; simp only [hen]; rfl
      rw [e1] at h2
      simp only [Bool.false_eq_true, if_false] at h2
      rw [if_neg (by rw [hen]; decide)]
      dsimp only
      rw [chk_pos (by omega)]
      exact h2
    · have e1 : cmpl l n = true := cmpl_iff.2 hen
      rw [e1, if_pos rfl] at h2
      have hpow : ((2 : Int) ^ n) = ((2 ^ n : Nat) : Int) := by simp
      have hp3 : (2 : Nat) ^ n ≤ 2 ^ 10 := Nat.pow_le_pow_right (by decide) (by omega)
      have hp4 : (2 : Nat) ^ 10 = 1024 := rfl
      have hc64 : c < 2 ^ 64 := Nat.lt_of_lt_of_le hc.1 (Nat.le_trans (Nat.pow_le_pow_right (by decide) (show n ≤ 10 by omega)) (by decide))
      have hor : bitsI .or .u64 (c : Int) ((1 : Int) * 2 ^ n) = ((c ||| 2 ^ n : Nat) : Int) := by
        rw [Int.one_mul, hpow]
        exact or64 c (2 ^ n) hc64 (Nat.lt_of_le_of_lt hp3 (by decide))
      have hb : n ≤ IntKind.bits .u64 ∧ 0 ≤ ((1 : Int) * 2 ^ n) ∧ ((1 : Int) * 2 ^ n) ≤ 18446744073709551615 := by
        refine ⟨by show n ≤ 64; omega, ?_, ?_⟩
        · rw [Int.one_mul, hpow]; exact Int.natCast_nonneg _
        · rw [Int.one_mul, hpow]
          generalize (2 : Nat) ^ n = z at hp3
          omega
      rw [if_pos (by simpa using hen), chk_pos hb]
      dsimp only
      rw [chk_pos (by omega), hor]
      exact h2
/-- the answer to a search for sequential consistency -/
theorem f30a_eq {l : HL} (hl : valL l) : f30a l = some (match SR true l [] [] with | some w => (ints w, 0) | none => ([], 14)) := by
  have h10 := hl.1
  unfold f30a
  rw [jn_eq]
  obtain ⟨c, h1, h2⟩ := f30a_loop hl (fun i6 => (f48a FUEL (0 : Int) [] [] l i6 [] []).bind fun r7 => if (!r7.2.1) then some ([], (14 : Int)) else some (r7.1, (0 : Int))) l.length FUEL 0 0 (by omega) (fuel_lt (by omega)) ⟨by simp, fun i hi => by omega⟩
  have e0 : ((0 : Nat) : Int) = 0 := rfl
  rw [e0] at h2
  rw [h2]
  have hle := left_le l.length []
  have hT : TT (left l.length []) ≤ 20000000000 := TT_le _ (by omega)
  obtain ⟨ks', vs', h3, _⟩ := f48a_eq hl h1 FUEL [] 0 [] [] [] 0 (fuel_lt (by omega)) (msk_nil _) (by simp) (by simp only [List.length_nil]; omega) .nil (Memo.nil _) (by omega)
  have e1 : ints [] = [] := rfl
  rw [e0, e1] at h3
  rw [h3, some_bind]
  cases hS : SR true l [] [] with
  | some w => rfl
  | none => rfl
end Go.Abs
namespace Go.Abs
open Go Go.Hist
/-! ### valid histories -/
def opOk (x : List UInt8) : Prop := ∃ k a b c, okOp k a b c = true ∧ txt k a b c = x
theorem parse_cases (x : List UInt8) (hx : x.length ≤ 1048576) : (opOk x ∧ (∃ r : Int × List UInt8 × List UInt8 × List UInt8 × Int, f50 x = some r ∧ r.2.2.2.2 = 0) ∧ ∃ r : Int × List UInt8 × List UInt8 × List UInt8 × Int, f35 x = some r ∧ r.2.2.2.2 = 0) ∨
    (¬ opOk x ∧ (∃ r : Int × List UInt8 × List UInt8 × List UInt8 × Int, f50 x = some r ∧ r.2.2.2.2 = 2) ∧ ∃ r : Int × List UInt8 × List UInt8 × List UInt8 × Int, f35 x = some r ∧ r.2.2.2.2 = 2) := by
  by_cases h : opOk x
  · left
    obtain ⟨k, a, b, c, h1, rfl⟩ := id h
    exact ⟨h, ⟨_, f50_hit h1 hx, rfl⟩, ⟨_, f35_hit h1 hx, rfl⟩⟩
  · right
    have hno : NoOp x := fun k a b c h1 h2 => h ⟨k, a, b, c, h1, h2⟩
    exact ⟨h, ⟨_, f50_miss hno hx, rfl⟩, ⟨_, f35_miss hno hx, rfl⟩⟩
/-- the error of an operation -/
noncomputable def vE (x : HOp) : Int :=
  if x.1 < 0 ∨ x.1 ≥ 6 ∨ x.2.1 < 0 ∨ (x.2.2.1 ≠ -1 ∧ x.2.2.1 < x.2.1) then 7
  else @ite Int (opOk x.2.2.2.1) (Classical.propDecidable _) (if x.2.2.1 = -1 ∧ x.2.2.2.2 ≠ [] then 1 else 0) 2
theorem vE_zero {x : HOp} : vE x = 0 ↔ HV x := by
  unfold vE
  split
  · rename_i h
    refine ⟨fun h => (by cases h), fun hv => ?_⟩
    have := hv.cl; have := hv.bg; have := hv.en
    omega
  · rename_i h
    split
    · rename_i ho
      split
      · rename_i hr
        exact ⟨fun h => (by cases h), fun hv => absurd (hv.rs hr.1) hr.2⟩
      · rename_i hr
        refine ⟨fun _ => ⟨by omega, by omega, by omega, ho, fun he => Classical.byContradiction fun hne => hr ⟨he, hne⟩⟩, fun _ => rfl⟩
    · rename_i ho
      exact ⟨fun h => (by cases h), fun hv => absurd hv.op ho⟩
def condB (x : HOp) : Bool := (((decide (x.1 < (0 : Int))) || (decide (x.1 ≥ (6 : Int)))) || (decide (x.2.1 < (0 : Int)))) || ((!(x.2.2.1 == (-1 : Int))) && (decide (x.2.2.1 < x.2.1)))
theorem condB_iff (x : HOp) : condB x = true ↔ (x.1 < 0 ∨ x.1 ≥ 6 ∨ x.2.1 < 0 ∨ (x.2.2.1 ≠ -1 ∧ x.2.2.1 < x.2.1)) := by
  unfold condB
  simp [or_assoc]
theorem f34_eq (x : HOp) (hx : x.2.2.2.1.length ≤ 1048576) : f34 x.1 x.2.1 x.2.2.1 x.2.2.2.1 x.2.2.2.2 = some (vE x) := by
  obtain ⟨x1, x2, x3, x4, x5⟩ := x
  simp only at hx ⊢
  have main : ∀ r6 : Bool, ((((decide (x1 < (0 : Int))) || (decide (x1 ≥ (6 : Int)))) || (decide (x2 < (0 : Int)))) = false → r6 = (x3 == (-1 : Int))) → (chk (((((decide (x1 < (0 : Int))) || (decide (x1 ≥ (6 : Int)))) || (decide (x2 < (0 : Int)))) == false) = true → ((((decide (x1 < (0 : Int))) || (decide (x1 ≥ (6 : Int)))) || (decide (x2 < (0 : Int)))) == false) = true → (!r6) = true → (((((decide (x1 < (0 : Int))) || (decide (x1 ≥ (6 : Int)))) || (decide (x2 < (0 : Int)))) == false) && ((!r6) == true)) = true) <|
      if ((((decide (x1 < (0 : Int))) || (decide (x1 ≥ (6 : Int)))) || (decide (x2 < (0 : Int)))) || ((!r6) && (decide (x3 < x2)))) then (
      some (7 : Int)
      ) else (
      (f50 x4).bind fun (r7 : Int × List UInt8 × List UInt8 × List UInt8 × Int) =>
      if (r7.2.2.2.2 != (0 : Int)) then (
      some (2 : Int)
      ) else (
      (f36 x1 x2 x3 x4 x5).bind fun (r8 : Bool) =>
      if (r8 && (!(x5 == []))) then (
      some (1 : Int)
      ) else (
      some (0 : Int)
      )
      )
      )) = some (vE (x1, x2, x3, x4, x5)) := by
    intro r6 hr6
    rw [chk_pos (fun h1 _ h3 => by simp only [h3, Bool.and_eq_true]; exact ⟨h1, rfl⟩)]
    have hc := condB_iff (x1, x2, x3, x4, x5)
    unfold condB at hc
    simp only at hc
    have hb : ((((decide (x1 < (0 : Int))) || (decide (x1 ≥ (6 : Int)))) || (decide (x2 < (0 : Int)))) || ((!r6) && (decide (x3 < x2)))) = ((((decide (x1 < (0 : Int))) || (decide (x1 ≥ (6 : Int)))) || (decide (x2 < (0 : Int)))) || ((!(x3 == (-1 : Int))) && (decide (x3 < x2)))) := by
      cases hA : (((decide (x1 < (0 : Int))) || (decide (x1 ≥ (6 : Int)))) || (decide (x2 < (0 : Int)))) with
      | true => rfl
      | false => rw [hr6 hA]
    rw [hb]
    by_cases hcc : ((((decide (x1 < (0 : Int))) || (decide (x1 ≥ (6 : Int)))) || (decide (x2 < (0 : Int)))) || ((!(x3 == (-1 : Int))) && (decide (x3 < x2)))) = true
    · rw [if_pos hcc]
      unfold vE
      rw [if_pos (hc.1 hcc)]
    · rw [if_neg hcc]
      unfold vE
      rw [if_neg (fun h => hcc (hc.2 h))]
      rcases parse_cases x4 hx with ⟨ho, ⟨r, hr, hr0⟩, _⟩ | ⟨ho, ⟨r, hr, hr0⟩, _⟩
      · rw [hr, some_bind, hr0, if_neg (by decide), if_pos ho]
        unfold f36
        rw [some_bind]
        by_cases h5 : x3 = -1 ∧ x5 ≠ []
        · rw [if_pos (by simpa using h5), if_pos h5]
        · rw [if_neg (by simpa using h5), if_neg h5]
      · rw [hr, some_bind, hr0, if_pos (by decide), if_neg ho]
  unfold f34
  cases hA : (((decide (x1 < (0 : Int))) || (decide (x1 ≥ (6 : Int)))) || (decide (x2 < (0 : Int)))) with
  | true =>
    have := main default (by rw [hA]; intro h; cases h)
    rw [hA] at this
    exact this
  | false =>
    have := main (x3 == (-1 : Int)) (fun _ => rfl)
    rw [hA] at this
    unfold f36
    exact this
/-- the error of a history -/
noncomputable def vLs : HL → Int
  | [] => 0
  | x :: l => if vE x ≠ 0 then vE x else vLs l
theorem vL_zero : ∀ {l : HL}, vLs l = 0 ↔ ∀ x ∈ l, HV x
  | [] => by simp [vLs]
  | x :: l => by
    unfold vLs
    split
    · rename_i h
      exact ⟨fun h2 => absurd h2 h, fun h2 => absurd (vE_zero.2 (h2 x (by simp))) h⟩
    · rename_i h
      have h : vE x = 0 := Classical.byContradiction h
      rw [vL_zero]
      constructor
      · intro h2 y hy
        rcases List.mem_cons.1 hy with rfl | hy
        · exact vE_zero.1 h
        · exact h2 y hy
      · exact fun h2 y hy => h2 y (List.mem_cons_of_mem _ hy)
noncomputable def vH (l : HL) : Int := if l.length > 10 then 3 else vLs l
theorem vH_zero {l : HL} : vH l = 0 ↔ valL l := by
  unfold vH valL
  split
  · exact ⟨fun h => (by cases h), fun h => by omega⟩
  · rw [vL_zero]; exact ⟨fun h => ⟨by omega, h⟩, fun h => h.2⟩
theorem f17_loop {l : HL} (hb : l.length ≤ 1048576) (ht : ∀ x ∈ l, x.2.2.2.1.length ≤ 1048576) : ∀ e k n, n + e = l.length → e < k → f17_L0 l (fun _ => some (0 : Int)) k n = some (vLs (l.drop n))
  | 0, k, n, hn, hk => by
    obtain ⟨k, rfl⟩ : ∃ q, k = q + 1 := ⟨k - 1, by omega⟩
    rw [f17_L0.eq_2, ifd_neg (by omega), List.drop_eq_nil_of_le (by omega)]; rfl
  | e + 1, k, n, hn, hk => by
    obtain ⟨k, rfl⟩ : ∃ q, k = q + 1 := ⟨k - 1, by omega⟩
    have hnl : n < l.length := by omega
    rw [f17_L0.eq_2, ifd_pos (by omega), chk_pos (by omega), d0_eq, f34_eq _ (ht _ (Hist.getD_mem hnl)), some_bind, chk_pos (by omega), f17_loop hb ht e k (n + 1) (by omega) (by omega), getD_drop l n d0 hnl]
    by_cases h : vE (l.getD n d0) = 0
    · rw [if_neg (by simp only [h]; decide)]
      conv => rhs; unfold vLs
      rw [if_neg (by simpa using h)]
    · rw [if_pos (by simpa using h)]
      conv => rhs; unfold vLs
      rw [if_pos h]
theorem f17_eq {l : HL} (hb : l.length ≤ 1048576) (ht : ∀ x ∈ l, x.2.2.2.1.length ≤ 1048576) : f17 l = some (vH l) := by
  unfold f17 vH
  by_cases h : l.length > 10
  · rw [ifd_pos (by omega), if_pos h]
  · rw [ifd_neg (by omega), if_neg h, jn_eq, f17_loop hb ht l.length FUEL 0 (by omega) (fuel_lt (by omega)), List.drop_zero]
theorem f18_loop {l : HL} (hb : l.length ≤ 1048576) (ht : ∀ x ∈ l, x.2.2.2.1.length ≤ 1048576) : ∀ e k n, n + e = l.length → e < k → f18_L0 l (fun _ => some (0 : Int)) k n = some (vLs (l.drop n))
  | 0, k, n, hn, hk => by
    obtain ⟨k, rfl⟩ : ∃ q, k = q + 1 := ⟨k - 1, by omega⟩
    rw [f18_L0.eq_2, ifd_neg (by omega), List.drop_eq_nil_of_le (by omega)]; rfl
  | e + 1, k, n, hn, hk => by
    obtain ⟨k, rfl⟩ : ∃ q, k = q + 1 := ⟨k - 1, by omega⟩
    have hnl : n < l.length := by omega
    rw [f18_L0.eq_2, ifd_pos (by omega), chk_pos (by omega), d0_eq, chk_pos (fun h1 _ h3 => by rw [h1, h3]; rfl), f18_loop hb ht e k (n + 1) (by omega) (by omega), getD_drop l n d0 hnl]
    have hx := ht _ (Hist.getD_mem hnl)
    generalize l.getD n d0 = x at hx
    have hc := condB_iff x
    unfold condB at hc
    have hb' : (x.2.2.1 != (-1 : Int)) = !(x.2.2.1 == (-1 : Int)) := rfl
    rw [hb']
    conv => rhs; unfold vLs
    unfold vE
    by_cases hcc : ((((decide (x.1 < (0 : Int))) || (decide (x.1 ≥ (6 : Int)))) || (decide (x.2.1 < (0 : Int)))) || ((!(x.2.2.1 == (-1 : Int))) && (decide (x.2.2.1 < x.2.1)))) = true
    · rw [if_pos hcc, if_pos (hc.1 hcc), if_pos (by decide)]
    · rw [if_neg hcc, if_neg (fun h => hcc (hc.2 h))]
      rcases parse_cases x.2.2.2.1 hx with ⟨ho, _, ⟨r, hr, hr0⟩⟩ | ⟨ho, _, ⟨r, hr, hr0⟩⟩
      · rw [hr, some_bind, hr0, if_neg (by decide), if_pos ho]
        by_cases h5 : x.2.2.1 = -1 ∧ x.2.2.2.2 ≠ []
        · rw [if_pos (by simpa using h5), if_pos h5, if_pos (by decide)]
        · rw [if_neg (by simpa using h5), if_neg h5, if_neg (by decide), chk_pos (by omega)]
      · rw [hr, some_bind, hr0, if_pos (by decide), if_neg ho, if_pos (by decide)]
theorem f18_eq {l : HL} (hb : l.length ≤ 1048576) (ht : ∀ x ∈ l, x.2.2.2.1.length ≤ 1048576) : f18 l = some (vH l) := by
  unfold f18 vH
  by_cases h : l.length > 10
  · rw [ifd_pos (by omega), if_pos h]
  · rw [ifd_neg (by omega), if_neg h, jn_eq, f18_loop hb ht l.length FUEL 0 (by omega) (fuel_lt (by omega)), List.drop_zero]
/-! ### the specification's search -/
end Go.Abs
namespace Go.Abs
open Go
theorem awake57 : f9 = some true := by kernel_rfl
end Go.Abs
namespace Go.Abs
open Go Go.Hist
theorem all_drop (n j : Nat) (p : Nat → Bool) (h : j < n) : ((List.range n).drop j).all p = (p j && ((List.range n).drop (j + 1)).all p) := by rw [range_drop _ _ h, List.all_cons]
/-- what both answer -/
noncomputable def ordA (own : Bool) (l : HL) : List Int × Int :=
  if vH l ≠ 0 then ([], vH l) else match SR own l [] [] with
    | some w => (ints w, 0)
    | none => ([], 14)
theorem f11_eq {l : HL} (hb : l.length ≤ 1048576) (ht : ∀ x ∈ l, x.2.2.2.1.length ≤ 1048576) : f11 l = some (ordA false l) := by
  unfold f11 ordA
  rw [f17_eq hb ht, some_bind]
  by_cases h : vH l = 0
  · rw [if_neg (by simp [h]), if_neg (by simp [h])]
    exact (congrArg (fun o => Option.bind o _) (f30_eq (vH_zero.1 h))).trans rfl
  · rw [if_pos (by simpa using h), if_pos h]
theorem f14_eq {l : HL} (hb : l.length ≤ 1048576) (ht : ∀ x ∈ l, x.2.2.2.1.length ≤ 1048576) : f14 l = some (ordA true l) := by
  unfold f14 ordA
  rw [f17_eq hb ht, some_bind]
  by_cases h : vH l = 0
  · rw [if_neg (by simp [h]), if_neg (by simp [h])]
    exact (congrArg (fun o => Option.bind o _) (f30a_eq (vH_zero.1 h))).trans rfl
  · rw [if_pos (by simpa using h), if_pos h]
theorem f12_eq {l : HL} (h : l.length ≤ 1048576) : f12 l = some l := by
  unfold f12
  rw [abc_eq fun h0 => ?_, chk_pos (by omega), List.nil_append]
  have e := List.eq_nil_of_length_eq_zero h0
  subst e
  rfl
/-! ### few operations, equal lists -/
def Few (l : HL) : Prop := ∀ x ∈ l, x.2.2.2.1.length ≤ 100 ∧ x.2.2.2.2.length ≤ 100
theorem f10_loop {l : HL} (hb : l.length ≤ 9223372036854775807) (K : Unit → Option Bool) : ∀ e k n, n + e = l.length → e < k → (f10_L0 l K k n = K () ∧ ∀ x ∈ l.drop n, x.2.2.2.1.length ≤ 100 ∧ x.2.2.2.2.length ≤ 100) ∨ f10_L0 l K k n = some false
  | 0, k, n, hn, hk => by
    obtain ⟨k, rfl⟩ : ∃ q, k = q + 1 := ⟨k - 1, by omega⟩
    left
    rw [f10_L0.eq_2, ifd_neg (by omega), List.drop_eq_nil_of_le (by omega)]
    exact ⟨rfl, by simp⟩
  | e + 1, k, n, hn, hk => by
    obtain ⟨k, rfl⟩ : ∃ q, k = q + 1 := ⟨k - 1, by omega⟩
    have hnl : n < l.length := by omega
    rw [f10_L0.eq_2, ifd_pos (by omega), chk_pos (by omega), chk_pos (fun _ => by omega), d0_eq, getD_drop l n d0 hnl]
    by_cases hc : ((decide (((((l.getD n d0).2.2.2.1).length : Nat) : Int) > (100 : Int))) || (decide (((((l.getD n d0).2.2.2.2).length : Nat) : Int) > (100 : Int)))) = true
    · rw [if_pos hc]; exact .inr rfl
    · rw [if_neg hc, chk_pos (by omega)]
      rcases f10_loop hb K e k (n + 1) (by omega) (by omega) with ⟨h1, h2⟩ | h1
      · left
        refine ⟨h1, fun x hx => ?_⟩
        rcases List.mem_cons.1 hx with rfl | hx
        · simp only [Bool.or_eq_true, decide_eq_true_eq, not_or] at hc
          omega
        · exact h2 x hx
      · exact .inr h1
theorem f10_eq {l : HL} (hb : l.length ≤ 9223372036854775807) (m : Int) : (f10 l m = some true ∧ Few l ∧ ((l.length : Int) ≤ m ∨ l.length = 11)) ∨ f10 l m = some false := by
  unfold f10
  rw [jn_eq]
  rcases f10_loop hb (fun _ => some ((decide ((((l).length : Nat) : Int) ≤ m)) || ((((l).length : Nat) : Int) == (11 : Int)))) l.length FUEL 0 (by omega) (fuel_lt (by omega)) with ⟨h1, h2⟩ | h1
  · rw [h1]
    by_cases hc : ((decide ((((l).length : Nat) : Int) ≤ m)) || ((((l).length : Nat) : Int) == (11 : Int))) = true
    · left
      rw [hc]
      rw [List.drop_zero] at h2
      refine ⟨rfl, h2, ?_⟩
      simp only [Bool.or_eq_true, decide_eq_true_eq, beq_iff_eq] at hc
      omega
    · right
      rw [Bool.not_eq_true] at hc
      rw [hc]
  · exact .inr h1
end Go.Abs
namespace Go.Abs
open Go Go.Hist
theorem f41b_loop {l : HL} {m : Nat} {o : List Nat} (hl : valL l) (hm : Msk l.length m o) (x2 x3 x4 : Int) (x5 x6 : List UInt8) (x8 : Int) (K : Unit → Option (Bool × HL × Int))
    (P : Nat → Bool) (hP : ∀ j, j < l.length → f31 x2 x3 x4 x5 x6 (l.getD j d0).1 (l.getD j d0).2.1 (l.getD j d0).2.2.1 (l.getD j d0).2.2.2.1 (l.getD j d0).2.2.2.2 = some (P j)) : ∀ c k n, n + c = l.length → c < k →
    ((∃ j, n ≤ j ∧ j < l.length ∧ j ∈ o ∧ P j = true) ∧ f41b_L0 (m : Int) x2 x3 x4 x5 x6 l x8 K k n = some (false, l, x8)) ∨ ((∀ j, n ≤ j → j < l.length → j ∈ o → P j = false) ∧ f41b_L0 (m : Int) x2 x3 x4 x5 x6 l x8 K k n = K ())
  | 0, k, n, hn, hk => by
    obtain ⟨k, rfl⟩ : ∃ q, k = q + 1 := ⟨k - 1, by omega⟩
    right
    rw [f41b_L0.eq_2, ifd_neg (by omega)]
    exact ⟨fun j h1 h2 => by omega, rfl⟩
  | c + 1, k, n, hn, hk => by
    obtain ⟨k, rfl⟩ : ∃ q, k = q + 1 := ⟨k - 1, by omega⟩
    have h1 : n < l.length := by omega
    have h10 := hl.1
    rw [f41b_L0.eq_2, ifd_pos (by omega), chk_pos (by omega), d0_eq, hP n h1, bit64 m n (hm.lt hl.1), hm.2 n h1]
    have e64 : n ≤ IntKind.bits .u64 := by show n ≤ 64; omega
    have ih := f41b_loop hl hm x2 x3 x4 x5 x6 x8 K P hP c k (n + 1) (by omega) (by omega)
    have on : (n ∈ o → P n = false) → ((∃ j, n ≤ j ∧ j < l.length ∧ j ∈ o ∧ P j = true) ∧ (chk (((n : Int) + (1 : Int)) ≤ 9223372036854775807) <| (f41b_L0 (m : Int) x2 x3 x4 x5 x6 l x8 K k) (n + 1)) = some (false, l, x8)) ∨ ((∀ j, n ≤ j → j < l.length → j ∈ o → P j = false) ∧ (chk (((n : Int) + (1 : Int)) ≤ 9223372036854775807) <| (f41b_L0 (m : Int) x2 x3 x4 x5 x6 l x8 K k) (n + 1)) = K ()) := by
      intro hn0
      rw [chk_pos (by omega)]
      rcases ih with ⟨⟨j, h2, h3⟩, h4⟩ | ⟨h3, h4⟩
      · exact .inl ⟨⟨j, by omega, h3⟩, h4⟩
      · refine .inr ⟨fun j h5 h6 h7 => ?_, h4⟩
        rcases Nat.lt_or_ge n j with h8 | h8
        · exact h3 j h8 h6 h7
        · obtain rfl : j = n := by omega
          exact hn0 h7
    by_cases ho : n ∈ o
    · have e1 : o.contains n = true := by simpa using ho
      rw [e1]
      show (_ ∧ optc true _ _ = _) ∨ (_ ∧ optc true _ _ = _)
      rw [optc_t, some_bind, chk_pos e64, Bool.true_and]
      cases hp : P n with
      | true => rw [if_pos rfl]; exact .inl ⟨⟨n, Nat.le_refl _, h1, ho, hp⟩, rfl⟩
      | false => rw [if_neg (by simp)]; exact on fun _ => hp
    · have e1 : o.contains n = false := by simpa using ho
      rw [e1]
      show (_ ∧ optc false _ _ = _) ∨ (_ ∧ optc false _ _ = _)
      rw [optc_f, chk_pos e64, Bool.false_and, if_neg (by simp)]
      exact on fun h => absurd h ho
theorem f41b_eq {l : HL} {m : Nat} {o : List Nat} (hl : valL l) (hm : Msk l.length m o) (ho : ∀ x ∈ o, x < l.length) {i : Nat} (x8 : Int) :
    f41b (m : Int) (l.getD i d0).1 (l.getD i d0).2.1 (l.getD i d0).2.2.1 (l.getD i d0).2.2.2.1 (l.getD i d0).2.2.2.2 l x8 = some (Hist.okP (Bf false l) o i, l, x8) := by
  unfold f41b
  rw [jn_eq]
  rcases f41b_loop hl hm (l.getD i d0).1 (l.getD i d0).2.1 (l.getD i d0).2.2.1 (l.getD i d0).2.2.2.1 (l.getD i d0).2.2.2.2 x8 (fun _ => some (true, l, x8)) (fun j => Bf false l i j) (fun j _ => by rw [f31_eq]; unfold Bf cmpl; simp) l.length FUEL 0 (by omega) (fuel_lt (by have := hl.1; omega)) with ⟨⟨j, _, _, h3, h4⟩, h5⟩ | ⟨h3, h5⟩
  · have : Hist.okP (Bf false l) o i = false := by
      unfold Hist.okP
      rw [List.all_eq_false]
      exact ⟨j, h3, by simp [h4]⟩
    rw [h5, this]
  · have : Hist.okP (Bf false l) o i = true := by
      unfold Hist.okP
      rw [List.all_eq_true]
      intro j hj
      simp [h3 j (Nat.zero_le _) (ho j hj) hj]
    rw [h5, this]
theorem bit64z (m n : Nat) (hm : m < 2 ^ 64) : (bitsI .and .u64 ((m : Int) / 2 ^ n) (1 : Int) == (0 : Int)) = !m.testBit n := by
  have e : ((m : Int) / 2 ^ n) = ((m / 2 ^ n : Nat) : Int) := by simp
  have h1 := and64 (m / 2 ^ n) 1 (Nat.lt_of_le_of_lt (Nat.div_le_self ..) hm) (by decide)
  have e1 : ((1 : Nat) : Int) = 1 := rfl
  rw [e1] at h1
  rw [e, h1, Nat.and_one_is_mod, Nat.testBit_eq_decide_div_mod_eq, Bool.eq_iff_iff]
  simp
  omega
theorem ofNat_of {x : Int} (h : 0 ≤ x) : ((x.toNat : Nat) : Int) = x := Int.toNat_of_nonneg h
/-! ### Results -/
/-- the results of an order, none where an index is out of range -/
def resL (l : HL) : StT → List Int → Option (List (List UInt8))
  | _, [] => some []
  | s, x :: r => if x < 0 ∨ x ≥ (l.length : Int) then none else (resL l (XS s (l.getD x.toNat d0).2.2.2.1).1 r).map fun q => (XS s (l.getD x.toNat d0).2.2.2.1).2 :: q
theorem f23_loop {l : HL} (hl : valL l) {o : List Int} (ho : o.length ≤ 1048576) (K : List (List UInt8) → Option (List (List UInt8))) : ∀ e k n s acc, n + e = o.length → e < k → StV s → acc.length ≤ n → f23_L0 l o K k (s, n, acc) = match resL l s (o.drop n) with
    | none => some []
    | some q => K (acc ++ q)
  | 0, k, n, s, acc, hn, hk, hV, ha => by
    obtain ⟨k, rfl⟩ : ∃ q, k = q + 1 := ⟨k - 1, by omega⟩
    rw [f23_L0.eq_2, ifd_neg (by omega), List.drop_eq_nil_of_le (by omega)]
    simp [resL]
  | e + 1, k, n, s, acc, hn, hk, hV, ha => by
    obtain ⟨k, rfl⟩ : ∃ q, k = q + 1 := ⟨k - 1, by omega⟩
    have h1 : n < o.length := by omega
    rw [f23_L0.eq_2, ifd_pos (by omega), chk_pos (by omega), d0_eq, getD_drop o n 0 h1, resL]
    generalize o.getD n 0 = x
    by_cases hx : x < 0 ∨ x ≥ (l.length : Int)
    · rw [if_pos hx, if_pos (by simpa using hx)]
    · rw [if_neg hx, if_neg (by simpa using hx)]
      have hlt : x.toNat < l.length := by omega
      obtain ⟨e40, _, eV⟩ := XS_ok hV (hv_at hl hlt).op (l.getD x.toNat d0).1 (l.getD x.toNat d0).2.1 (l.getD x.toNat d0).2.2.1 (l.getD x.toNat d0).2.2.2.2
      rw [e40, some_bind, chk_pos (by omega), chk_pos (by omega), chk_pos (by omega), f23_loop hl ho K e k (n + 1) _ _ (by omega) (by omega) eV (by simp; omega)]
      cases resL l (XS s (l.getD x.toNat d0).2.2.2.1).1 (o.drop (n + 1)) with
      | none => rfl
      | some q => simp
/-- what Results returns -/
noncomputable def resA (l : HL) (o : List Int) : List (List UInt8) := if vH l ≠ 0 then [] else (resL l [] o).getD []
theorem f23_eq {l : HL} (hb : l.length ≤ 1048576) (ht : ∀ x ∈ l, x.2.2.2.1.length ≤ 1048576) {o : List Int} (ho : o.length ≤ 1048576) : f23 l o = some (resA l o) := by
  unfold f23 resA
  rw [f17_eq hb ht, some_bind]
  by_cases h : vH l = 0
  · rw [if_neg (by simp [h]), if_neg (by simp [h]), jn_eq, f23_loop (vH_zero.1 h) ho _ o.length FUEL 0 [] [] (by omega) (fuel_lt (by omega)) .nil (by simp), List.drop_zero]
    cases resL l [] o <;> rfl
  · rw [if_pos (by simpa using h), if_pos h]
/-! ### Check, the program's -/
/-- the operations of an order one after the other -/
def goP (own : Bool) (l : HL) : List Nat → StT → List Int → Option (List Nat)
  | d, _, [] => some d
  | d, s, x :: r => if x < 0 ∨ x ≥ (l.length : Int) ∨ x.toNat ∈ d then none else if Hist.okP (Bf own l) d x.toNat = true then (stpl XS l s x.toNat).bind fun t => goP own l (d ++ [x.toNat]) t r else none
theorem f24_loop {l : HL} (hl : valL l) {o : List Int} (ho : o.length ≤ 1048576) (c : Int) (K : Int → Option Bool) : ∀ e k n d m s, n + e = o.length → e < k → StV s → Msk l.length m d → (∀ x ∈ d, x < l.length) →
    (goP false l d s (o.drop n) = none ∧ f24_L0 l o K k ((m : Int), s, n, l, c) = some false) ∨ ∃ d' m', goP false l d s (o.drop n) = some d' ∧ Msk l.length m' d' ∧ f24_L0 l o K k ((m : Int), s, n, l, c) = K (m' : Int)
  | 0, k, n, d, m, s, hn, hk, hV, hm, hd => by
    obtain ⟨k, rfl⟩ : ∃ q, k = q + 1 := ⟨k - 1, by omega⟩
    right
    rw [f24_L0.eq_2, ifd_neg (by omega), List.drop_eq_nil_of_le (by omega)]
    exact ⟨d, m, rfl, hm, rfl⟩
  | e + 1, k, n, d, m, s, hn, hk, hV, hm, hd => by
    obtain ⟨k, rfl⟩ : ∃ q, k = q + 1 := ⟨k - 1, by omega⟩
    have h10 := hl.1
    have h1 : n < o.length := by omega
    rw [f24_L0.eq_2, ifd_pos (by omega), chk_pos (by omega), d0_eq, getD_drop o n 0 h1]
    simp only [goP]
    generalize o.getD n 0 = x
    by_cases hx : x < 0 ∨ x ≥ (l.length : Int)
    · left
      have hx' : x < 0 ∨ x ≥ (l.length : Int) ∨ x.toNat ∈ d := hx.imp id Or.inl
      have hA : ((decide (x < (0 : Int))) || (decide (x ≥ (((l).length : Nat) : Int)))) = true := by simpa using hx
      rw [if_pos hx', hA, Bool.true_or, if_pos rfl, chk_pos (fun h => by cases h), chk_pos (fun h => by cases h)]
      exact ⟨rfl, rfl⟩
    · have hA : ((decide (x < (0 : Int))) || (decide (x ≥ (((l).length : Nat) : Int)))) = false := by
        rw [Bool.eq_false_iff]; simpa using hx
      have hlt : x.toNat < l.length := by omega
      have h64 : x.toNat ≤ IntKind.bits .u64 := by show x.toNat ≤ 64; omega
      rw [hA, Bool.false_or, bit64 m x.toNat (hm.lt hl.1), hm.2 _ hlt]
      by_cases hin : x.toNat ∈ d
      · left
        have hx' : x < 0 ∨ x ≥ (l.length : Int) ∨ x.toNat ∈ d := .inr (.inr hin)
        rw [if_pos hx', if_pos (by simpa using hin), chk_pos (fun _ => ⟨by omega, h64⟩), chk_pos (fun h => by cases h)]
        exact ⟨rfl, rfl⟩
      have hx' : ¬ (x < 0 ∨ x ≥ (l.length : Int) ∨ x.toNat ∈ d) := by
        rintro (h | h | h)
        · exact hx (.inl h)
        · exact hx (.inr h)
        · exact hin h
      have hin' : d.contains x.toNat = false := by simpa using hin
      rw [if_neg hx', hin', if_neg (show ¬ (false = true) by decide), f41b_eq hl hm hd (i := x.toNat) c, some_bind, chk_pos (fun _ => ⟨by omega, h64⟩), chk_pos (fun _ => by omega)]
      cases hok : Hist.okP (Bf false l) d x.toNat with
      | false =>
        left
        rw [if_neg (show ¬ (false = true) by decide), if_pos (show (!(false, l, c).1) = true from rfl)]
        exact ⟨rfl, rfl⟩
      | true =>
      rw [if_pos (show true = true from rfl), if_neg (show ¬ ((!(true, l, c).1) = true) from fun h => by cases h)]
      have hpow : ((2 : Int) ^ x.toNat) = ((2 ^ x.toNat : Nat) : Int) := by simp
      have hp3 : (2 : Nat) ^ x.toNat ≤ 2 ^ 10 := Nat.pow_le_pow_right (by decide) (by omega)
      have hp4 : (2 : Nat) ^ 10 = 1024 := rfl
      have hb : 0 ≤ x ∧ x.toNat ≤ IntKind.bits .u64 ∧ 0 ≤ ((1 : Int) * 2 ^ x.toNat) ∧ ((1 : Int) * 2 ^ x.toNat) ≤ 18446744073709551615 := by
        refine ⟨by omega, h64, ?_, ?_⟩
        · rw [Int.one_mul, hpow]; exact Int.natCast_nonneg _
        · rw [Int.one_mul, hpow]
          generalize (2 : Nat) ^ x.toNat = z at hp3
          omega
      obtain ⟨e40, _, eV⟩ := XS_ok hV (hv_at hl hlt).op (l.getD x.toNat d0).1 (l.getD x.toNat d0).2.1 (l.getD x.toNat d0).2.2.1 (l.getD x.toNat d0).2.2.2.2
      rw [chk_pos hb, e40, some_bind, chk_pos (by omega)]
      unfold f36
      rw [some_bind, chk_pos (by omega), chk_pos (fun _ => by omega)]
      have hstp : stpl XS l s x.toNat = if ((!((l.getD x.toNat d0).2.2.1 == (-1 : Int))) && (!((XS s (l.getD x.toNat d0).2.2.2.1).2 == (l.getD x.toNat d0).2.2.2.2))) = true then none else some (XS s (l.getD x.toNat d0).2.2.2.1).1 := by
        unfold stpl cmpl
        congr 2
        rw [Bool.eq_iff_iff]
        simp
      by_cases hres : ((!((l.getD x.toNat d0).2.2.1 == (-1 : Int))) && (!((XS s (l.getD x.toNat d0).2.2.2.1).2 == (l.getD x.toNat d0).2.2.2.2))) = true
      · left
        rw [if_pos hres] at hstp
        rw [if_pos hres, hstp]
        exact ⟨rfl, rfl⟩
      rw [if_neg hres] at hstp
      rw [if_neg hres, hstp, chk_pos (by omega)]
      obtain ⟨hor, hmsk⟩ := msk_add hl.1 hm hlt
      rw [hor]
      simp only [Option.bind_some]
      exact f24_loop hl ho c K e k (n + 1) (d ++ [x.toNat]) _ _ (by omega) (by omega) eV hmsk (fun y hy => by
        rcases List.mem_append.1 hy with hy | hy
        · exact hd y hy
        · simp only [List.mem_singleton] at hy; omega)
theorem f24_L1_eq {l : HL} (hl : valL l) {d : List Nat} {m : Nat} (hm : Msk l.length m d) (K : Unit → Option Bool) : ∀ e k n, n + e = l.length → e < k → f24_L1 l (m : Int) K k n = if ((List.range l.length).drop n).all (fun i => !cmpl l i || d.contains i) = true then K () else some false
  | 0, k, n, hn, hk => by
    obtain ⟨k, rfl⟩ : ∃ q, k = q + 1 := ⟨k - 1, by omega⟩
    rw [f24_L1.eq_2, ifd_neg (by omega), List.drop_eq_nil_of_le (by simp; omega), List.all_nil, if_pos rfl]
  | e + 1, k, n, hn, hk => by
    obtain ⟨k, rfl⟩ : ∃ q, k = q + 1 := ⟨k - 1, by omega⟩
    have h10 := hl.1
    have hnl : n < l.length := by omega
    have e1 : cmpl l n = !((l.getD n d0).2.2.1 == (-1 : Int)) := by
      unfold cmpl
      rw [Bool.eq_iff_iff]; simp
    rw [f24_L1.eq_2, ifd_pos (by omega), chk_pos (by omega), d0_eq]
    unfold f36
    rw [some_bind, chk_pos (fun _ => ⟨by omega, by show n ≤ 64; omega⟩), bit64z m n (hm.lt hl.1), hm.2 n hnl, chk_pos (by omega), f24_L1_eq hl hm K e k (n + 1) (by omega) (by omega), all_drop _ _ _ hnl, e1]
    cases ((l.getD n d0).2.2.1 == (-1 : Int)) <;> cases d.contains n <;> simp
/-- what Check returns -/
noncomputable def chkA (l : HL) (o : List Int) : Bool := decide (vH l = 0) && (decide (o.length ≤ l.length) && match goP false l [] [] o with
  | none => false
  | some d => finC l.length (cmpl l) d)
theorem f24_eq {l : HL} (hb : l.length ≤ 1048576) (ht : ∀ x ∈ l, x.2.2.2.1.length ≤ 1048576) {o : List Int} (ho : o.length ≤ 1048576) : f24 l o = some (chkA l o) := by
  unfold f24 chkA
  rw [f17_eq hb ht, some_bind]
  by_cases h : vH l = 0
  · have hl := vH_zero.1 h
    have h10 := hl.1
    by_cases hlen : o.length ≤ l.length
    · have hcond : ((vH l != (0 : Int)) || (decide (((o.length : Nat) : Int) > ((l.length : Nat) : Int)))) = false := by
        rw [h, Bool.eq_false_iff]; simp; omega
      rw [hcond, if_neg (by decide), jn_eq]
      have e0 : ((0 : Nat) : Int) = 0 := rfl
      rcases f24_loop hl ho 0 (fun i13 => jn (fun _ => some true) fun K2 => f24_L1 l i13 K2 FUEL 0) o.length FUEL 0 [] 0 [] (by omega) (fuel_lt (by omega)) .nil (msk_nil _) (by simp) with ⟨h1, h2⟩ | ⟨d', m', h1, h2, h3⟩
      · rw [e0] at h2
        rw [List.drop_zero] at h1
        rw [h2, h1]; simp
      · rw [e0] at h3
        rw [List.drop_zero] at h1
        rw [h3, h1, jn_eq, f24_L1_eq hl h2 _ l.length FUEL 0 (by omega) (fuel_lt (by omega)), List.drop_zero, h, decide_eq_true hlen]
        have hfin : ((List.range l.length).all fun i => !cmpl l i || d'.contains i) = finC l.length (cmpl l) d' := rfl
        rw [hfin]
        show (if finC l.length (cmpl l) d' = true then some true else some false) = some (decide ((0 : Int) = 0) && (true && finC l.length (cmpl l) d'))
        cases finC l.length (cmpl l) d' <;> rfl
    · have hcond : ((vH l != (0 : Int)) || (decide (((o.length : Nat) : Int) > ((l.length : Nat) : Int)))) = true := by
        simp; omega
      rw [hcond, if_pos rfl, decide_eq_false hlen]; simp
  · have hcond : ((vH l != (0 : Int)) || (decide (((o.length : Nat) : Int) > ((l.length : Nat) : Int)))) = true := by
      simp [h]
    rw [hcond, if_pos rfl, decide_eq_false h]; rfl
end Go.Abs
namespace Go.Abs
open Go Go.Hist
theorem left_nodup {n : Nat} : ∀ (w d : List Nat), (d ++ w).Nodup → (∀ x ∈ w, x < n) → left n (d ++ w) + w.length ≤ left n d
  | [], d, _, _ => by simp
  | i :: w, d, hn, hw => by
    have hid : d.contains i = false := by
      rw [List.nodup_append] at hn
      simpa using fun hi => hn.2.2 i hi i (by simp) rfl
    have h1 := left_lt (hw i (by simp)) hid
    have h2 := left_nodup w (d ++ [i]) (by simpa using hn) (fun x hx => hw x (by simp [hx]))
    rw [List.append_assoc] at h2
    simp only [List.singleton_append, List.length_cons] at h2 ⊢
    omega
theorem nodup_le {n : Nat} {w : List Nat} (hn : w.Nodup) (hw : ∀ x ∈ w, x < n) : w.length ≤ n := by
  have := left_nodup w [] (by simpa using hn) hw
  have := left_le n []
  simp only [List.nil_append] at *
  omega
theorem ints_cons {x : Int} {r : List Int} {w : List Nat} : x :: r = ints w ↔ ∃ i w', w = i :: w' ∧ x = (i : Int) ∧ r = ints w' := by
  cases w with
  | nil => simp [ints]
  | cons i w =>
    simp only [ints, List.map_cons, List.cons.injEq]
    constructor
    · rintro ⟨h1, h2⟩; exact ⟨i, w, ⟨rfl, rfl⟩, h1, h2⟩
    · rintro ⟨i', w', ⟨rfl, rfl⟩, h1, h2⟩; exact ⟨h1, h2⟩
theorem nil_ints {w : List Nat} : [] = ints w ↔ w = [] := by cases w <;> simp [ints]
section
variable {own : Bool} {l : HL}
theorem goP_iff : ∀ (o : List Int) (d : List Nat) (s : StT) (d' : List Nat), (∀ x ∈ d, x < l.length) → d.Nodup → d.Pairwise (fun x y => Bf own l y x = false) →
    (goP own l d s o = some d' ↔ ∃ w, o = ints w ∧ d' = d ++ w ∧ (∀ x ∈ d ++ w, x < l.length) ∧ (d ++ w).Nodup ∧ (d ++ w).Pairwise (fun x y => Bf own l y x = false) ∧ (runs (stpl XS l) s w).isSome = true)
  | [], d, s, d', h1, h2, h3 => by
    simp only [goP, Option.some.injEq]
    constructor
    · rintro rfl; exact ⟨[], rfl, by simp, by simpa using h1, by simpa using h2, by simpa using h3, rfl⟩
    · rintro ⟨w, hw, rfl, _⟩
      rw [nil_ints.1 hw, List.append_nil]
  | x :: r, d, s, d', h1, h2, h3 => by
    simp only [goP]
    constructor
    · intro h
      split at h
      · cases h
      · rename_i hx
        split at h
        · rename_i hok
          have hx0 : 0 ≤ x := by
            rcases (show x < 0 ∨ 0 ≤ x by omega) with h4 | h4
            · exact absurd (.inl h4) hx
            · exact h4
          have hxn : x.toNat < l.length := by
            rcases Nat.lt_or_ge x.toNat l.length with h4 | h4
            · exact h4
            · exact absurd (.inr (.inl (by omega))) hx
          have hxd : x.toNat ∉ d := fun h4 => hx (.inr (.inr h4))
          cases hs : stpl XS l s x.toNat with
          | none => rw [hs] at h; cases h
          | some t =>
            rw [hs] at h
            simp only [Option.bind_some] at h
            have hd1 : ∀ y ∈ d ++ [x.toNat], y < l.length := fun y hy => by
              rcases List.mem_append.1 hy with hy | hy
              · exact h1 y hy
              · simp only [List.mem_singleton] at hy; omega
            have hd2 : (d ++ [x.toNat]).Nodup := by
              rw [List.nodup_append]
              exact ⟨h2, by simp, fun a ha b hb => by simp only [List.mem_singleton] at hb; subst hb; rintro rfl; exact hxd ha⟩
            have hd3 : (d ++ [x.toNat]).Pairwise (fun x y => Bf own l y x = false) := by
              rw [List.pairwise_append]
              refine ⟨h3, by simp, fun a ha b hb => ?_⟩
              simp only [List.mem_singleton] at hb
              subst hb
              have := List.all_eq_true.1 hok a ha
              simpa using this
            obtain ⟨w, e1, e2, e3, e4, e5, e6⟩ := (goP_iff r (d ++ [x.toNat]) t d' hd1 hd2 hd3).1 h
            refine ⟨x.toNat :: w, ints_cons.2 ⟨x.toNat, w, rfl, (ofNat_of hx0).symm, e1⟩, by rw [e2]; simp, by simpa using e3, by simpa using e4, by simpa using e5, ?_⟩
            simp only [runs, hs, Option.bind_some]
            exact e6
        · cases h
    · rintro ⟨w, hw, rfl, e3, e4, e5, e6⟩
      obtain ⟨i, w', rfl, rfl, rfl⟩ := ints_cons.1 hw
      have hi : i < l.length := e3 i (by simp)
      have hid : i ∉ d := fun h4 => by
        rw [List.nodup_append] at e4
        exact e4.2.2 i h4 i (by simp) rfl
      have hti : ((i : Int)).toNat = i := by simp
      rw [hti, if_neg (by rintro (h4 | h4 | h4); omega; omega; exact hid h4)]
      have hok : Hist.okP (Bf own l) d i = true := by
        unfold Hist.okP
        rw [List.all_eq_true]
        intro a ha
        rw [List.pairwise_append] at e5
        rw [e5.2.2 a ha i (by simp)]; rfl
      rw [if_pos hok]
      simp only [runs] at e6
      cases hs : stpl XS l s i with
      | none => rw [hs] at e6; cases e6
      | some t =>
        rw [hs] at e6
        simp only [Option.bind_some] at e6 ⊢
        refine (goP_iff (ints w') (d ++ [i]) t (d ++ i :: w') ?_ ?_ ?_).2 ⟨w', rfl, by simp, by simpa using e3, by simpa using e4, by simpa using e5, e6⟩
        · intro y hy; exact e3 y (by simp at hy ⊢; rcases hy with h | h; exact .inl h; exact .inr (.inl h))
        · have : (d ++ [i] ++ w').Nodup := by simpa using e4
          exact (List.nodup_append.1 this).1
        · have : (d ++ [i] ++ w').Pairwise (fun x y => Bf own l y x = false) := by simpa using e5
          exact (List.pairwise_append.1 this).1
/-- an order is a witness -/
def WitO (own : Bool) (l : HL) (o : List Int) : Prop := ∃ w, o = ints w ∧ Wit l.length (Bf own l) (cmpl l) (stpl XS l) [] w
theorem chkA_iff {o : List Int} : chkA l o = true ↔ vH l = 0 ∧ WitO false l o := by
  unfold chkA WitO
  simp only [Bool.and_eq_true, decide_eq_true_eq]
  constructor
  · rintro ⟨h1, h2, h3⟩
    refine ⟨h1, ?_⟩
    cases hg : goP false l [] [] o with
    | none => rw [hg] at h3; cases h3
    | some d =>
      rw [hg] at h3
      obtain ⟨w, e1, e2, e3, e4, e5, e6⟩ := (goP_iff o [] [] d (by simp) (by simp) (by simp)).1 hg
      simp only [List.nil_append] at e2 e3 e4 e5
      subst e2
      exact ⟨d, e1, e3, e4, e5, finC_iff.1 h3, e6⟩
  · rintro ⟨h1, w, e1, e3, e4, e5, e7, e6⟩
    have hg : goP false l [] [] o = some w := (goP_iff o [] [] w (by simp) (by simp) (by simp)).2 ⟨w, e1, by simp, by simpa using e3, by simpa using e4, by simpa using e5, e6⟩
    refine ⟨h1, ?_, ?_⟩
    · rw [e1]; simpa [ints] using nodup_le e4 e3
    · rw [hg]; exact finC_iff.2 e7
/-! ### the specification's Witness -/
end
end Go.Abs
namespace Go.Abs
open Go Go.Hist
/-- HistoryErrors -/
theorem f8_true (x1 : HL) (hb : x1.length ≤ 1048576) (ht : ∀ x ∈ x1, x.2.2.2.1.length ≤ 1048576) : f8 x1 = some true := by
  unfold f8
  rw [f18_eq hb ht, some_bind, awake57, some_bind]
  show optc true _ _ = _
  rw [optc_t]
  rcases f10_eq (show x1.length ≤ 9223372036854775807 by omega) 6 with ⟨h1, h2, h3⟩ | h1
  · rw [h1, some_bind]
    by_cases hv : vH x1 = 0
    · rw [if_pos (by simp [hv]), some_bind]
    · have e : ∀ own, ordA own x1 = ([], vH x1) := fun own => by unfold ordA; rw [if_pos hv]
      have e19 : f19 x1 = some (0, vH x1) := by
        unfold f19
        rw [f17_eq hb ht, some_bind, if_pos (by simpa using hv)]
      have e29 : f29 x1 [] = some ([], vH x1) := by
        unfold f29
        rw [f17_eq hb ht, some_bind, if_pos (by simpa using hv)]
      have hck : chkA x1 [] = false := by
        cases hc : chkA x1 [] with
        | false => rfl
        | true => exact absurd (chkA_iff.1 hc).1 hv
      have hres : ∀ o, resA x1 o = [] := fun o => by unfold resA; rw [if_pos hv]
      rw [if_neg (by simp [hv])]
      simp only [f12_eq hb, some_bind, f11_eq hb ht, f14_eq hb ht, e19, e29, e, f24_eq hb ht (show ([] : List Int).length ≤ 1048576 by simp), hck, f23_eq hb ht (show [(0 : Int)].length ≤ 1048576 by simp), hres]
      rw [if_pos (by simp), if_pos (by decide), chk_pos (fun _ => by simp), chk_pos (fun _ => by simp)]
      rfl
  · rw [h1, some_bind, if_pos (by simp), some_bind]
end Go.Abs
namespace Go.Abs
open Go
theorem mkH {W : World} (cs : List Value) (_h : cs.length = [false, false, false, true, true].length) (hf : ∀ i, i < [false, false, false, true, true].length → fldV ([false, false, false, true, true].getD i true) (cs.getD i undef)) :
    ∃ a : Int × Int × Int × List UInt8 × List UInt8, True ∧ ∀ i, i < [false, false, false, true, true].length → Rel (allSt W) W noGh (([.int .i64 a.1, .int .i64 a.2.1, .int .i64 a.2.2.1, .str a.2.2.2.1, .str a.2.2.2.2] : List V).getD i .any) (cs.getD i undef) := by
  obtain ⟨n0, h0, _⟩ := hf 0 (by decide)
  obtain ⟨n1, h1, _⟩ := hf 1 (by decide)
  obtain ⟨n2, h2, _⟩ := hf 2 (by decide)
  obtain ⟨s3, h3, _⟩ := hf 3 (by decide)
  obtain ⟨s4, h4, _⟩ := hf 4 (by decide)
  refine ⟨(n0, n1, n2, s3.data.toList, s4.data.toList), trivial, fun i hi => ?_⟩
  match i, hi with
  | 0, _ => rw [h0]; exact .int _ _ _
  | 1, _ => rw [h1]; exact .int _ _ _
  | 2, _ => rw [h2]; exact .int _ _ _
  | 3, _ => rw [h3]; exact .str _ _ _ rfl
  | 4, _ => rw [h4]; exact .str _ _ _ rfl
end Go.Abs
namespace Go.Abs
open Go Go.RowKit Go.ChangeShapes Go.WideShapes Go.ChangeAt Go.Deep
section
variable {H : Type} {enc : TypeId × Value → H} {P : Program} {W : World} {t e : TypeId} {base : Nat} {v : Value} {d : DataW H} {ps : List MemPlace}
/-- the cells of a struct of one-cell fields, and its reading -/
theorem cells_ofB {spare : Nat → Bool} {held : Bool} {fuel : Nat} {fs : Array Field} {bs : List Bool} {cs : List Value} {y : DataW H × List MemPlace} (he : P.underlying e = some (.struct fs)) (hn : fs.size = bs.length) (ce : P.cellsOf e = bs.length)
    (hf : ∀ (i : Nat) (f : Field), fs[i]? = some f → f.offset = i ∧ P.cellsOf f.type = 1 ∧ P.underlying f.type = some (if bs.getD i true then .string else .int .i64))
    (h : DataW.trod enc P W base spare held fuel e cs = some y) : ∃ parts : List (DataW H), y.1 = .agg parts ∧ ∀ i, i < bs.length → bs.getD i true = true → ∃ s : ByteArray, cs.getD i undef = .string s ∧ .lit (.string s.data.toList) ∈ parts := by
  obtain ⟨xs, n, _, hy, hl, hxl, hx⟩ := DataW.trod_struct he h
  rw [ce] at hl
  refine ⟨xs.map (·.1), by rw [hy], fun i hi hb => ?_⟩
  obtain ⟨f, hff⟩ : ∃ f, fs[i]? = some f := ⟨fs[i], by simp [hn, hi]⟩
  obtain ⟨h1, h2, h3⟩ := hf i f hff
  have := hx i f hff
  rw [h1, h2] at this
  have e1 : (cs.drop i).take 1 = [cs.getD i undef] := by
    rw [List.drop_eq_getElem_cons (by omega), List.take_succ_cons, List.take_zero]
    simp [List.getD_eq_getElem?_getD, hl, hi]
  rw [e1, List.getElem?_eq_getElem (by omega)] at this
  rw [hb, if_pos rfl] at h3
  obtain ⟨s, g1, g2, _⟩ := DataW.trod_string h3 this
  simp only [List.cons.injEq, and_true] at g1
  exact ⟨s, g1, List.mem_map.2 ⟨_, List.getElem_mem (show i < xs.length by omega), by rw [g2]⟩⟩
/-- a slice of such structs, and its reading -/
theorem open_rowsB {α : Type} [Inhabited α] {encA : α → List V} {dA : α} {fs : Array Field} {bs : List Bool} (ok : α → Prop) (ht : P.underlying t = some (.slice e)) (he : P.underlying e = some (.struct fs)) (hn : fs.size = bs.length) (ce : P.cellsOf e = bs.length) (_hpos : 0 < bs.length)
    (hf : ∀ (i : Nat) (f : Field), fs[i]? = some f → f.offset = i ∧ P.cellsOf f.type = 1 ∧ P.underlying f.type = some (if bs.getD i true then .string else .int .i64))
    (mk : ∀ cs : List Value, cs.length = bs.length → (∀ i, i < bs.length → fldV (bs.getD i true) (cs.getD i undef)) → ∃ a : α, ok a ∧ ∀ i, i < bs.length → Rel (allSt W) W noGh ((encA a).getD i .any) (cs.getD i undef))
    (hval : Value.okWide P W .any base t v) (h : DataW.Trod enc P W 0 (fun _ => true) true t v d ps) :
    ∃ l : List α, Rel (allSt W) W noGh (.arr bs.length l.length (encF encA dA l)) v ∧ (∀ a, a ∈ l → ok a) ∧ l.length ≤ 9223372036854775807 ∧
      (l = [] ∨ ∃ (D : List (DataW H)) (sp : List (DataW H)), d = .slice D sp ∧ D.length = l.length ∧ ∀ i, i < l.length → ∃ parts : List (DataW H), .agg parts ∈ D ∧ ∀ j, j < bs.length → bs.getD j true = true → ∃ s : ByteArray, .lit (.string s.data.toList) ∈ parts ∧ Rel (allSt W) W noGh ((encA (l.getD i dA)).getD j .any) (.string s)) := by
  obtain ⟨fuel, hf'⟩ := h
  obtain ⟨a0, len0, cap0, rfl⟩ := okWide_slice ht hval
  simp only [Value.cells] at hf'
  rcases open_slice ht hf' with ⟨h1, h2⟩ | ⟨a, len, cap, m, n, D, Pl, h1, hb, hlc, hm, hz, hx, hcell⟩
  · simp only [List.cons.injEq, Value.slice.injEq, and_true] at h1
    obtain ⟨rfl, rfl, rfl⟩ := h1
    exact ⟨[], .arr0 _ _ _, by simp, by simp, .inl rfl⟩
  · simp only [List.cons.injEq, Value.slice.injEq, and_true] at h1
    obtain ⟨rfl, rfl, rfl⟩ := h1
    simp only [if_true] at hz
    subst hz
    have hsp : a.spot = none := by
      unfold Value.okWide at hval
      rw [ht] at hval
      simp only [Cell.okWide, ht, Cell.ok] at hval
      exact hval.2.2.2.1
    obtain ⟨ab, ao, aas⟩ := a
    simp only at hsp
    subst hsp
    have each : ∀ i, i < len0 → ∃ q : α × List Value, ok q.1 ∧ q.2.length = bs.length ∧ (∃ parts : List (DataW H), D i = .agg parts ∧ ∀ j, j < bs.length → bs.getD j true = true → ∃ s : ByteArray, q.2.getD j undef = .string s ∧ .lit (.string s.data.toList) ∈ parts) ∧ (∀ j, j < bs.length → W.cell? ⟨ab, ao + i * bs.length + j, none⟩ = some (q.2.getD j undef) ∧ (q.2.getD j undef).oneCell' = true ∧ Rel (allSt W) W noGh ((encA q.1).getD j .any) (q.2.getD j undef)) := by
      intro i hi
      obtain ⟨cs', g1, g2⟩ := hcell i (by omega)
      rw [ce] at g1
      obtain ⟨_, hlen, hc⟩ := World.cells?_some g1
      obtain ⟨hl, hfv⟩ := cells_of he hn ce hf g2
      obtain ⟨a, hok, ha⟩ := mk cs' hl hfv
      refine ⟨(a, cs'), hok, hl, cells_ofB he hn ce hf g2, fun j hj => ⟨?_, fldV_one (hfv j hj), ha j hj⟩⟩
      have := hc j hj
      rw [add_plain, add_plain] at this
      rw [this, List.getElem?_eq_getElem (by omega)]
      simp [List.getD_eq_getElem?_getD, hl, hj]
    obtain ⟨q, hq⟩ := choose_lt each
    have hlen : ((List.range len0).map fun i => (q i).1).length = len0 := by simp
    have hget : ∀ i, i < len0 → ((List.range len0).map fun i => (q i).1).getD i dA = (q i).1 := fun i hi => by
      simp [List.getD_eq_getElem?_getD, hi]
    have hmm : maxLen = 9223372036854775807 := rfl
    refine ⟨(List.range len0).map fun i => (q i).1, ?_, ?_, by omega, .inr ?_⟩
    · rw [hlen]
      refine .arr _ _ _ _ ab ao m (fun i j => (q i).2.getD j undef) hlc (by omega) (fun hn hs => ?_) (fun i j hi hj => ((hq i hi).2.2.2 j hj).1) (fun i j hi hj => ((hq i hi).2.2.2 j hj).2.1) (fun i j hi hj => ?_)
      · exact block_of_cell ((hq 0 hn).2.2.2 0 hs).1
      · show Rel _ _ _ ((encA (((List.range len0).map fun i => (q i).1).getD i dA)).getD j .any) _
        rw [hget i hi]
        exact ((hq i hi).2.2.2 j hj).2.2
    · intro a ha
      obtain ⟨i, hi, rfl⟩ := List.mem_map.1 ha
      exact (hq i (List.mem_range.1 hi)).1
    · have hd : d = .slice ((List.range len0).map D) ((List.range (m - len0)).map fun j => D (len0 + j)) := congrArg Prod.fst hx
      refine ⟨_, _, hd, by simp, fun i hi => ?_⟩
      rw [hlen] at hi
      obtain ⟨parts, p1, p2⟩ := (hq i hi).2.2.1
      refine ⟨parts, List.mem_map.2 ⟨i, List.mem_range.2 hi, p1⟩, fun j hj hb => ?_⟩
      obtain ⟨s, s1, s2⟩ := p2 j hj hb
      refine ⟨s, s2, ?_⟩
      rw [hget i hi, ← s1]
      exact ((hq i hi).2.2.2 j hj).2.2
end
end Go.Abs
