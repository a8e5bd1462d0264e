/- Part 26 of the proof: Pl49z, Aw49z, Ses49z, App49z, Spe49z, Bot49z, Ab49z, Open4, F49zLaw4, AtoiW, IdxW, X49y, X49x. -/
import Derived.Test.YteiljhpgpdmmeaaGreatDoorSesrstZ25
import Derived.Lib.SplitLaws
import Derived.Lib.ItoaLen
import Derived.Lib.ItoaMem
import Derived.Shelf.Strconv.AtoiAll
import Derived.Lib.Bytealg
namespace Go.Abs
def badB (b : UInt8) : Bool := decide (((b.toNat : Nat) : Int) < 33) || decide (((b.toNat : Nat) : Int) > 126)
/-- 1 to n bytes from 33 to 126 -/
def gr (s : List UInt8) (n : Int) : Bool := !s.any badB && (!(s == []) && decide (((s.length : Nat) : Int) ≤ n))
theorem f125_eq (s : List UInt8) (n : Int) (hs : s.length ≤ 9223372036854775807) : f125 s n = some (gr s n) := by
  simp only [f125, jn]
  rw [any_up (fun k n => f125_L0 s _ k n) s 0 badB (some false) _ (fun k n hn => by
    show f125_L0 s _ (k + 1) n = _
    conv => lhs; unfold f125_L0
    rw [ifd_pos (by omega), chk_pos (by omega), chk_pos (fun _ => by omega)]
    show (if badB (s.getD n 0) = true then some false else _) = _
    rw [chk_pos (by omega)]) (fun k => by
    show f125_L0 s _ (k + 1) _ = _
    conv => lhs; unfold f125_L0
    rw [ifd_neg (by omega)]) FUEL (fuel_lt (by omega))]
  unfold gr
  cases s.any badB <;> simp
theorem f126_eq (s : List UInt8) (n : Int) (hs : s.length ≤ 9223372036854775807) : f126 s n = some (gr s n) := by
  simp only [f126, jn]
  rw [any_up (fun k n => f126_L0 s _ k n) s 0 badB (some false) _ (fun k n hn => by
    show f126_L0 s _ (k + 1) n = _
    conv => lhs; unfold f126_L0
    rw [ifd_pos (by omega), chk_pos (by omega), chk_pos (fun _ => by omega)]
    show (if badB (s.getD n 0) = true then some false else _) = _
    rw [chk_pos (by omega)]) (fun k => by
    show f126_L0 s _ (k + 1) _ = _
    conv => lhs; unfold f126_L0
    rw [ifd_neg (by omega)]) FUEL (fuel_lt (by omega))]
  have e : decide (((s.length : Nat) : Int) ≥ 1) = !(s == []) := by
    cases s <;> simp <;> omega
  unfold gr
  rw [e]
  cases s.any badB <;> simp
def fld (s : List UInt8) (b : Bool) : Bool := if b then gr s 64 else s == []
def kd (k : Int) : List UInt8 × Bool × Bool × Bool :=
  if k = 1 then ([112, 117, 116], true, false, true) else if k = 2 then ([103, 101, 116], true, false, false) else if k = 3 then (cs4, true, false, false) else
  if k = 4 then (cs5, true, false, true) else if k = 5 then ([99, 97, 115], true, true, true) else if k = 6 then (cs6, false, false, false) else ([], false, false, false)
def isK (k : Int) : Bool := decide (1 ≤ k) && decide (k ≤ 6)
def okOp (k : Int) (a b c : List UInt8) : Bool := isK k && fld a (kd k).2.1 && fld b (kd k).2.2.1 && fld c (kd k).2.2.2
theorem gr_len {s : List UInt8} {n : Int} (h : gr s n = true) : (s.length : Int) ≤ n := by
  unfold gr at h
  simp only [Bool.and_eq_true, decide_eq_true_eq] at h
  exact h.2.2
/-- the parts between spaces -/
def spl : List UInt8 → List (List UInt8)
  | [] => [[]]
  | c :: l => if c = 32 then [] :: spl l else match spl l with
    | [] => [[c]]
    | w :: r => (c :: w) :: r
theorem spl_ne (l : List UInt8) : ∃ w r, spl l = w :: r := by
  cases l with
  | nil => exact ⟨_, _, rfl⟩
  | cons c l =>
    unfold spl
    split
    · exact ⟨_, _, rfl⟩
    · split <;> exact ⟨_, _, rfl⟩
theorem spl_cons {c : UInt8} {l w : List UInt8} {r : List (List UInt8)} (hc : c ≠ 32) (h : spl l = w :: r) : spl (c :: l) = (c :: w) :: r := by
  conv => lhs; unfold spl
  rw [if_neg hc, h]
theorem spl_sp (l : List UInt8) : spl (32 :: l) = [] :: spl l := rfl
theorem split_spl : ∀ l : List UInt8, Lib.split l [32] = spl l
  | [] => by
    unfold Lib.split
    rw [Lib.count_one]; rfl
  | b :: l => by
    have ih := split_spl l
    have hp : ([32] : List UInt8).isPrefixOf (b :: l) = (b == 32) := by simp [List.isPrefixOf, BEq.comm]
    by_cases h : b = 32
    · subst h
      have hix : Lib.index (32 :: l) [32] = 0 := by rw [Lib.index]; simp [List.isPrefixOf]
      have hc : Lib.count (32 :: l) [32] = Lib.count l [32] + 1 := by rw [Lib.count_cons_eq]; omega
      unfold Lib.split at ih ⊢
      rw [hc]
      unfold Lib.splitK
      rw [hix, if_neg (by decide), spl_sp, ← ih]
      rfl
    · have hix : Lib.index (b :: l) [32] = if Lib.index l [32] == -1 then -1 else Lib.index l [32] + 1 := by
        rw [Lib.index, hp]; simp [h]
      have hc : Lib.count (b :: l) [32] = Lib.count l [32] := Lib.count_cons_ne b 32 l h
      unfold Lib.split at ih ⊢
      rw [hc]
      by_cases hm : Lib.index l [32] = -1
      · rw [Lib.count_miss hm] at ih ⊢
        rw [spl_cons h ih.symm]
        rfl
      · have hge := Lib.index_ge l [32]
        obtain ⟨j, hj⟩ : ∃ j : Nat, Lib.index l [32] = j := ⟨(Lib.index l [32]).toNat, by omega⟩
        obtain ⟨m, hm'⟩ : ∃ m, Lib.count l [32] = m + 1 := ⟨Lib.count (l.drop (j + ([32] : List UInt8).length)) [32], by rw [Lib.count_hit (by simp) hj]; omega⟩
        rw [hm'] at ih ⊢
        unfold Lib.splitK at ih ⊢
        have hm1 : ¬ (Lib.index l [32] == -1) = true := by simpa using hm
        rw [hix, if_neg hm1]
        rw [if_neg hm1] at ih
        rw [spl_cons h ih.symm, if_neg (by simp; omega)]
        have e1 : (Lib.index l [32] + 1).toNat + 0 = (Lib.index l [32]).toNat + 0 + 1 := by omega
        have e2 : (Lib.index l [32] + 1).toNat + [32].length = (Lib.index l [32]).toNat + ([32] : List UInt8).length + 1 := by simp; omega
        rw [e1, List.take_succ_cons]
        congr 1
        have e2' : (Lib.index l [32] + 1).toNat + ([32] : List UInt8).length = ((Lib.index l [32]).toNat + ([32] : List UInt8).length) + 1 := by simp; omega
        rw [e2', List.drop_succ_cons]
theorem spl_mem : ∀ (l : List UInt8) (w : List UInt8), w ∈ spl l → w.length ≤ l.length
  | [], w, h => by
    simp [spl] at h; subst h; exact Nat.le_refl _
  | c :: l, w, h => by
    by_cases hc : c = 32
    · subst hc
      rw [spl_sp] at h
      rcases List.mem_cons.1 h with rfl | h
      · exact Nat.zero_le _
      · have := spl_mem l w h; simp; omega
    · obtain ⟨v, r, hv⟩ := spl_ne l
      rw [spl_cons hc hv] at h
      rcases List.mem_cons.1 h with rfl | h
      · have := spl_mem l v (by rw [hv]; exact List.mem_cons_self ..); simp; omega
      · have := spl_mem l w (by rw [hv]; exact List.mem_cons_of_mem _ h); simp; omega
/-- a word has no space -/
def noSp (w : List UInt8) : Prop := ∀ c, c ∈ w → c ≠ 32
theorem spl_word : ∀ (w : List UInt8), noSp w → spl w = [w]
  | [], _ => rfl
  | c :: w, h => spl_cons (h c (List.mem_cons_self ..)) (spl_word w fun d hd => h d (List.mem_cons_of_mem _ hd))
theorem spl_app : ∀ (w l : List UInt8), noSp w → spl (w ++ 32 :: l) = w :: spl l
  | [], _l, _ => rfl
  | c :: w, l, h => spl_cons (h c (List.mem_cons_self ..)) (spl_app w l fun d hd => h d (List.mem_cons_of_mem _ hd))
theorem gr_sp {s : List UInt8} {n : Int} (h : gr s n = true) : noSp s := by
  rintro c hc rfl
  unfold gr at h
  have : s.any badB = true := List.any_eq_true.2 ⟨32, hc, by decide⟩
  rw [this] at h
  cases h
/-- Split of the specification -/
theorem f75_eq (x : List UInt8) (hx : x.length ≤ 1000000) : f75 x = some (spl x) := by
  have main : ∀ (K : List (List UInt8) → Option (List (List UInt8))) (c k n b : Nat) (l : List (List UInt8)) (w : List UInt8) (r : List (List UInt8)), n + c = x.length → b ≤ n → c + 1 < k → l.length ≤ n → spl (x.drop n) = w :: r →
      f75_L0 x K k (b, n, l) = K (l ++ (((x.take n).drop b ++ w) :: r)) := by
    intro K c
    induction c with
    | zero =>
      intro k n b l w r hn hb hk hl hs
      obtain ⟨k, rfl⟩ : ∃ q, k = q + 2 := ⟨k - 2, by omega⟩
      obtain rfl : n = x.length := by omega
      rw [List.drop_eq_nil_of_le (Nat.le_refl _)] at hs
      cases hs
      conv => lhs; unfold f75_L0
      rw [ifd_pos (by omega), jn_eq, chk_pos (fun h => by simp at h)]
      have e : (((x.length : Nat) : Int) == ((x.length : Nat) : Int) || (((x.getD x.length 0).toNat : Nat) : Int) == 32) = true := by simp
      rw [if_pos e, chk_pos (by omega), chk_pos (by omega), chk_pos (by omega)]
      simp only []
      rw [chk_pos (by omega)]
      conv => lhs; unfold f75_L0
      rw [ifd_neg (by omega)]
      simp
    | succ c ih =>
      intro k n b l w r hn hb hk hl hs
      obtain ⟨k, rfl⟩ : ∃ q, k = q + 1 := ⟨k - 1, by omega⟩
      have hlt : n < x.length := by omega
      rw [getD_drop x n 0 hlt] at hs
      conv => lhs; unfold f75_L0
      rw [ifd_pos (by omega), jn_eq, chk_pos (fun _ => by omega)]
      have e0 : (((n : Nat) : Int) == ((x.length : Nat) : Int)) = false := by simp; omega
      rw [e0, Bool.false_or]
      have et : (x.take (n + 1)) = x.take n ++ [x.getD n 0] := by
        rw [List.take_add_one]; simp [List.getD_eq_getElem?_getD, hlt]
      by_cases hc : x.getD n 0 = 32
      · rw [hc, spl_sp] at hs
        obtain ⟨w', r', hw'⟩ := spl_ne (x.drop (n + 1))
        rw [hw'] at hs
        cases hs
        rw [if_pos (by rw [hc]; rfl), chk_pos (by omega), chk_pos (by omega), chk_pos (by omega)]
        simp only []
        rw [chk_pos (by omega), ih k (n + 1) (n + 1) _ w' r' (by omega) (Nat.le_refl _) (by omega) (by simp; omega) hw']
        congr 1
        rw [List.drop_eq_nil_of_le (show (x.take (n + 1)).length ≤ n + 1 by rw [List.length_take]; omega)]
        simp
      · have hc' : (x.getD n 0).toNat ≠ 32 := fun h => hc (by
          apply UInt8.toNat.inj; rw [h]; rfl)
        rw [if_neg (by simp only [beq_iff_eq]; omega)]
        simp only []
        obtain ⟨w', r', hw'⟩ := spl_ne (x.drop (n + 1))
        rw [spl_cons hc hw'] at hs
        cases hs
        rw [chk_pos (by omega), ih k (n + 1) b _ w' r (by omega) (by omega) (by omega) (by omega) hw']
        congr 2
        rw [et, List.drop_append_of_le_length (by simp; omega)]
        simp
  obtain ⟨w, r, hw⟩ := spl_ne x
  unfold f75
  simp only [jn]
  rw [main _ x.length FUEL 0 0 [] w r (by omega) (Nat.le_refl _) (by unfold FUEL; omega) (Nat.le_refl _) (by simpa using hw)]
  rw [hw]
  simp

theorem f63_eq (x : List UInt8) (hx : x.length ≤ 1000000) : f63 x [32] = some (spl x) := by
  unfold f63 splitO
  simp only []
  rw [if_pos (by omega), split_spl]
abbrev Pr := List UInt8 × List UInt8 × Int
abbrev less (a b : List UInt8) : Bool := Op.bytesLess a b
theorem less_nil (a : List UInt8) : less a [] = false := by cases a <;> rfl
theorem less_trans : ∀ {a b c : List UInt8}, less a b = true → less b c = true → less a c = true
  | a, [], _, h, _ => by rw [less_nil] at h; cases h
  | _, b :: y, [], _, h => by rw [less_nil] at h; cases h
  | [], _ :: _, _ :: _, _, _ => rfl
  | a :: x, b :: y, c :: z, h1, h2 => by
    have g1 : (decide (a < b) || (a == b && less x y)) = true := h1
    have g2 : (decide (b < c) || (b == c && less y z)) = true := h2
    clear h1 h2
    show (decide (a < c) || (a == c && less x z)) = true
    simp only [Bool.or_eq_true, Bool.and_eq_true, decide_eq_true_eq, beq_iff_eq, UInt8.lt_iff_toNat_lt] at g1 g2 ⊢
    rcases g1 with k1 | ⟨e1, k1⟩
    · rcases g2 with k2 | ⟨e2, k2⟩
      · left; omega
      · left; rw [← e2]; exact k1
    · rcases g2 with k2 | ⟨e2, k2⟩
      · left; rw [e1]; exact k2
      · exact .inr ⟨e1.trans e2, less_trans k1 k2⟩
/-- strictly rising keys -/
abbrev Srtd (l : List Pr) : Prop := l.Pairwise (fun p q => less p.1 q.1 = true)
def okp (p : Pr) : Prop := gr p.1 64 = true ∧ gr p.2.1 256 = true ∧ 1 ≤ p.2.2 ∧ p.2.2 ≤ 1000000000000
/-- a valid state -/
structure StV (l : List Pr) : Prop where
  len : l.length ≤ 64
  each : ∀ p, p ∈ l → okp p
  srt : Srtd l
theorem StV.nil : StV [] := ⟨by simp, by simp, .nil⟩
/-- where a key is or belongs -/
inductive View (l : List Pr) (k : List UInt8) : Prop
  | hit (A C : List Pr) (v : List UInt8) (n : Int) (h : l = A ++ (k, v, n) :: C) (hA : ∀ a, a ∈ A → less a.1 k = true) (hC : ∀ c, c ∈ C → less k c.1 = true) : View l k
  | miss (A C : List Pr) (h : l = A ++ C) (hA : ∀ a, a ∈ A → less a.1 k = true) (hC : ∀ c, c ∈ C → less k c.1 = true) : View l k
theorem getD_mem {α : Type} (l : List α) (i : Nat) (d : α) (h : i < l.length) : l.getD i d ∈ l := by
  rw [List.getD_eq_getElem?_getD, List.getElem?_eq_getElem h]; exact List.getElem_mem ..
abbrev MV : Int := 1000000000000
/-- decimal digits of the specification -/
theorem f79_eq : ∀ (q n : Nat), n < 10 ^ (q + 1) → n ≤ 1000000000000000 → ∀ k, q + 1 ≤ k → f79 k (n : Int) = some (Lib.itoa (n : Int))
  | q, n, hn, hb, k, hk => by
    obtain ⟨k, rfl⟩ : ∃ z, k = z + 1 := ⟨k - 1, by omega⟩
    conv => lhs; unfold f79
    rw [Lib.itoa_nonneg]
    by_cases h : n < 10
    · rw [ifd_pos (by omega), chk_pos (by omega), chk_pos (by omega), Lib.decDigits_one h]
      congr 3
    · rw [ifd_neg (by omega)]
      match q, hn, hk with
      | 0, hn, _ => omega
      | q + 1, hn, hk =>
        have e1 : (n : Int) / 10 = ((n / 10 : Nat) : Int) := by omega
        have e2 : (n : Int) % 10 = ((n % 10 : Nat) : Int) := by omega
        rw [e1, e2, f79_eq q (n / 10) (by rw [Nat.pow_succ] at hn; omega) (by omega) k (by omega), some_bind, chk_pos (by omega), chk_pos (by omega), chk_pos (by omega), chk_pos (by omega)]
        have hl := Lib.itoa_length_le ((n / 10 : Nat) : Int) (by omega) (by omega)
        rw [chk_pos (by rw [List.length_singleton]; omega), Lib.itoa_nonneg]
        conv => rhs; rw [Lib.decDigits, dif_neg h]
        congr 3
theorem dig {n : Int} (h0 : 0 ≤ n) (h1 : n ≤ 1000000000000000) : f79 FUEL n = some (Lib.itoa n) := by
  obtain ⟨m, rfl⟩ : ∃ m : Nat, n = m := ⟨n.toNat, by omega⟩
  exact f79_eq 15 m (by omega) (by omega) FUEL (by unfold FUEL; omega)
theorem ito {n : Int} (h0 : 0 ≤ n) (h1 : n ≤ 1000000000000000) : f56 n = some (Lib.itoa n) := by
  unfold f56 itoaO
  rw [if_pos ⟨by omega, by omega⟩]
theorem ilen {n : Int} (h0 : 0 ≤ n) (h1 : n ≤ 1000000000000000) : (Lib.itoa n).length ≤ 21 := Lib.itoa_length_le n (by omega) (by omega)
abbrev okW : List UInt8 := [111, 107, 32]
abbrev fullW : List UInt8 := [102, 117, 108, 108]
/-- what a key has -/
def ent (l : List Pr) (k : List UInt8) : Option (List UInt8 × Int) := (l.find? fun p => p.1 == k).map (·.2)
/-- what Execute answers, and what its key has then -/
def R (e : Option (List UInt8 × Int)) (cnt : Nat) (k : Int) (a b c : List UInt8) : List UInt8 × Option (List UInt8 × Int) :=
  if okOp k a b c = false then (cs1, e) else
  if k = 6 then (cs7 ++ Lib.itoa (cnt : Int), e) else
  match e with
  | none => if k = 1 ∨ k = 4 then (if 64 ≤ cnt then (fullW, none) else (okW ++ Lib.itoa 1, some (c, 1))) else ([110, 111, 110, 101], none)
  | some (v, n) =>
    if k = 1 then (okW ++ Lib.itoa (min (n + 1) MV), some (c, min (n + 1) MV)) else
    if k = 2 then (cs8 ++ v ++ [32] ++ Lib.itoa n, some (v, n)) else
    if k = 3 then ([111, 107], none) else
    if k = 4 then (if (v ++ c).length > 256 then ([108, 111, 110, 103], some (v, n)) else (okW ++ Lib.itoa (min (n + 1) MV), some (v ++ c, min (n + 1) MV))) else
    if v = b then (okW ++ Lib.itoa (min (n + 1) MV), some (c, min (n + 1) MV)) else ([110, 111, 32] ++ v, some (v, n))
structure Ex (l : List Pr) (k : Int) (a b c : List UInt8) (l' : List Pr) : Prop where
  prog : f37 l k a b c = some (l', (R (ent l a) l.length k a b c).1)
  spec : f44 l k a b c = some ((R (ent l a) l.length k a b c).1, l')
  ok : StV l'
  here : ent l' a = (R (ent l a) l.length k a b c).2
  there : ∀ k', k' ≠ a → ent l' k' = ent l k'
  keys : ∀ p, p ∈ l' → p.1 = a ∨ ∃ q, q ∈ l ∧ q.1 = p.1
  read : (k = 2 ∨ k = 6) → l' = l
end Go.Abs
namespace Go.Abs
theorem f9_true : f9 = some true := by kernel_rfl
end Go.Abs
namespace Go.Abs
abbrev Ss := Int × Int × List UInt8
/-- sessions: rising clients, 0 to 5 -/
structure SesV (l : List Ss) : Prop where
  rng : ∀ p, p ∈ l → 0 ≤ p.1 ∧ p.1 < 6
  srt : l.Pairwise (fun p q => p.1 < q.1)
theorem SesV.nil : SesV [] := ⟨by simp, .nil⟩
theorem ses_len : ∀ (l : List Ss) (k : Int), l.Pairwise (fun p q => p.1 < q.1) → (∀ p, p ∈ l → k ≤ p.1 ∧ p.1 < 6) → (l.length : Int) ≤ max 0 (6 - k)
  | [], k, _, _ => by simp; omega
  | a :: l, k, h, hr => by
    obtain ⟨h1, h2⟩ := List.pairwise_cons.1 h
    have ha := hr a (List.mem_cons_self ..)
    have := ses_len l (a.1 + 1) h2 fun p hp => ⟨by have := h1 p hp; omega, (hr p (List.mem_cons_of_mem _ hp)).2⟩
    simp only [List.length_cons]
    omega
theorem SesV.len {l : List Ss} (h : SesV l) : l.length ≤ 6 := by
  have := ses_len l 0 h.srt h.rng
  omega
inductive SView (l : List Ss) (c : Int) : Prop
  | hit (A C : List Ss) (n : Int) (r : List UInt8) (h : l = A ++ (c, n, r) :: C) (hA : ∀ a, a ∈ A → a.1 < c) (hC : ∀ b, b ∈ C → c < b.1) : SView l c
  | miss (A C : List Ss) (h : l = A ++ C) (hA : ∀ a, a ∈ A → a.1 < c) (hC : ∀ b, b ∈ C → c < b.1) : SView l c
end Go.Abs
namespace Go.Abs
def num (l : List Ss) (c : Int) : Int := match l.find? (fun p => p.1 == c) with | some p => p.2.1 | none => 0
def good (q : Ss) : Bool := (((((decide (q.1 ≥ 0)) && (decide (q.1 < 6))) && (decide (q.2.1 ≥ 1))) && (decide (q.2.1 ≤ 1000000))) && !(q.2.2 == [])) && decide (((q.2.2.length : Nat) : Int) ≤ 200)
abbrev Mc := List Pr × List Ss
structure McV (m : Mc) : Prop where
  st : StV m.1
  se : SesV m.2
/-- what Apply makes of a machine -/
structure Ap (m : Mc) (q : Ss) (m' : Mc) : Prop where
  ok : McV m'
  bad : good q = false → m' = m
  old : good q = true → q.2.1 ≤ num m.2 q.1 → m' = m
  new : good q = true → q.2.1 ≤ num m'.2 q.1
  mono : ∀ c, num m.2 c ≤ num m'.2 c
end Go.Abs
namespace Go.Abs
end Go.Abs
namespace Go.Abs
end Go.Abs
namespace Go.Abs
end Go.Abs
namespace Go.Abs
open Go Go.RowKit Go.ChangeShapes Go.WideShapes Go.ChangeAt Go.Deep
section
variable {P : Program} {W : World} {t e : TypeId} {base : Nat} {v : Value}
end
end Go.Abs
namespace Go.Abs
theorem f20_refl (l : List Pr) (h : l.length ≤ 1000000) : f20 l l = some true := by
  unfold f20
  rw [if_neg (by simp), jn_eq, any_up (fun q i => f20_L0 l l (fun _ => some true) q i) l (default : Pr) (fun _ => false) none (some true) (fun q i hi => by
      show f20_L0 _ _ _ (q + 1) i = _
      conv => lhs; unfold f20_L0
      rw [ifd_pos (by omega), chk_pos (by omega), chk_pos (by omega), if_neg (by simp), chk_pos (by omega)]
      rfl) (fun q => by
      show f20_L0 _ _ _ (q + 1) _ = _
      conv => lhs; unfold f20_L0
      rw [ifd_neg (by omega)]) FUEL (fuel_lt (by omega))]
  simp
theorem f14_refl (a : List Pr) (l : List Ss) (ha : a.length ≤ 1000000) (h : l.length ≤ 1000000) : f14 a l a l = some true := by
  unfold f14
  rw [if_neg (by simp), jn_eq, f20_refl a ha, some_bind, any_up (fun q i => f14_L0 l l (fun _ => some true) q i) l (default : Ss) (fun _ => false) none (some true) (fun q i hi => by
      show f14_L0 _ _ _ (q + 1) i = _
      conv => lhs; unfold f14_L0
      rw [ifd_pos (by omega), chk_pos (by omega), chk_pos (by omega), if_neg (by simp), chk_pos (by omega)]
      rfl) (fun q => by
      show f14_L0 _ _ _ (q + 1) _ = _
      conv => lhs; unfold f14_L0
      rw [ifd_neg (by omega)]) FUEL (fuel_lt (by omega))]
  simp
end Go.Abs
namespace Go.Abs
open Go Go.RowKit Go.Lib Go.Shelf Go.Proofs
/-- A variable that holds an error that is not nil. -/
def errG : V := .elem 1 1 (fun _ _ => .ifc true) 0 0
theorem errG_cell {St : Nat → Prop} {w : World} {g : Gh} {G : Nat} (h : Rel St w g errG (.pointer (some ⟨G, 0, none⟩))) : ∃ t v, w.cell? ⟨G, 0, none⟩ = some (.iface t v) := by
  unfold errG at h
  generalize hp : Value.pointer (some ⟨G, 0, none⟩) = p at h
  cases h with
  | elem _ _ _ _ _ _ b o x hi hs hc h1 hr =>
    have e1 := hc 0 0 (by omega) (by omega)
    have e2 := hr 0 0 (by omega) (by omega)
    simp only [Value.pointer.injEq, Option.some.injEq, Addr.mk.injEq] at hp
    obtain ⟨rfl, hp, _⟩ := hp
    have e3 : o + 0 * 1 + 0 = 0 := hp.symm
    rw [e3] at e1
    cases e2 with
    | ifc _ _ _ hx =>
      obtain ⟨t, v, hx⟩ := hx
      exact ⟨t, v, e1.trans (congrArg some hx)⟩
def atoiO (s : List UInt8) : Option (Int × Bool) :=
  if s.length ≤ 281474976710656 then
    match Lib.atoiAll s with
    | .ok v => some (v, false)
    | .range => some (Lib.atoiSat s, true)
    | _ => some (0, true)
  else none
theorem atoi_spec {P : Program} {ρ : Ren} (L : LaysC.n172 P ρ) {f : FuncId} (hf : ρ.f 172 = f) {g1 g2 : Nat} (hg1 : ρ.g 15 = g1) (hg2 : ρ.g 16 = g2)
    (s : List UInt8) (r : Int × Bool) (hr : atoiO s = some r) : Spec1 P f [(g1, errG), (g2, errG)] [] [] [.str s] (.tup [.int .i64 r.1, .ifc r.2]) [] := by
  subst hf hg1 hg2
  unfold atoiO at hr
  split at hr
  case isFalse => cases hr
  rename_i hn
  intro z vals hW hl hv hgs
  have e0 := hv 0 (by simp)
  simp only [List.getD_cons_zero] at e0
  obtain ⟨b, hs1, hs2⟩ := e0.str_inv
  have hv' : vals = #[vals.getD 0 undef] := by
    apply Array.ext
    · simpa using hl
    · intro i h1 h2
      have : i = 0 := by simp at h2; omega
      subst this; simp [h1]
  rw [hv', hs1]
  have hsz : b.size = s.length := by rw [← hs2]; simp
  obtain ⟨t1, v1, hc1⟩ := errG_cell (hgs (ρ.g 15, errG) (by simp))
  obtain ⟨t2, v2, hc2⟩ := errG_cell (hgs (ρ.g 16, errG) (by simp))
  cases hq : Lib.atoiAll s with
  | ok v =>
    rw [hq] at hr
    cases hr
    refine (Any.strconv_Atoi_ok L b (by omega) v (by rw [hs2]; exact hq) z.w).mono ?_
    rintro e w' ⟨rfl, hw⟩
    have hb : Go.RowKit.Below z.w.heap.size z.w w' := by
      rcases hw with rfl | ⟨t, rfl⟩
      · exact Below.refl _ _
      · exact Lib.bytesWorld_below _ _ _
    refine ⟨_, _, _, z.St, _, rfl, ⟨rfl, rfl⟩, hW.below hb, .tup _ _ _ rfl fun i hi => ?_, fun k hk => by cases hk⟩
    match i, hi with
    | 0, _ => exact .int _ _ _
    | 1, _ => exact .ifc _ _ _ rfl
  | range =>
    rw [hq] at hr
    cases hr
    refine (Any.strconv_Atoi_range L b (by omega) (by rw [hs2]; exact hq) _ z.w hc2 (.inr ⟨_, _, rfl⟩)).mono ?_
    rintro e w' ⟨N, rfl, _, _, hb⟩
    refine ⟨_, _, _, z.St, _, rfl, ⟨rfl, rfl⟩, hW.below hb, .tup _ _ _ rfl fun i hi => ?_, fun k hk => by cases hk⟩
    match i, hi with
    | 0, _ => rw [hs2]; exact .int _ _ _
    | 1, _ => exact .ifc _ _ _ ⟨_, _, rfl⟩
  | _ =>
    rw [hq] at hr
    cases hr
    refine (Any.strconv_Atoi_syntax L b (by omega) (by rw [hs2]; exact hq) _ z.w hc1 (.inr ⟨_, _, rfl⟩)).mono ?_
    rintro e w' ⟨N, rfl, _, _, hb⟩
    refine ⟨_, _, _, z.St, _, rfl, ⟨rfl, rfl⟩, hW.below hb, .tup _ _ _ rfl fun i hi => ?_, fun k hk => by cases hk⟩
    match i, hi with
    | 0, _ => exact .int _ _ _
    | 1, _ => exact .ifc _ _ _ ⟨_, _, rfl⟩
/-- An interface compared with nil. -/
theorem ifc_eqIn {P : Program} {t : TypeId} {ms : Array (String × TypeId)} (ht : P.underlying t = some (.interface ms)) (b : Bool) (v : Value) (w : World) (d : Nat) (h : ifcOk b v) : (Op.equalIn (d + 1) t v .nilIface).run P w = .ok (!b) w := by
  cases b
  · obtain rfl : v = .nilIface := h
    simp [Op.equalIn, run_underlying ht]
  · obtain ⟨t', x, rfl⟩ := h
    simp [Op.equalIn, run_underlying ht]
theorem ifc_guard {P : Program} {t : TypeId} (op : BinOp) (X : Operand) (b : Bool) (v : Value) (w : World) (h : ifcOk b v) : (eqGuard op t X (.const .nilIface) v .nilIface).run P w = .ok () w := by
  cases b
  · obtain rfl : v = .nilIface := h
    cases op <;> cases X <;> rfl
  · obtain ⟨t', x, rfl⟩ := h
    cases op <;> rfl
theorem ifc_cmp {P : Program} {t : TypeId} {ms : Array (String × TypeId)} (ht : P.underlying t = some (.interface ms)) (b : Bool) (v : Value) (w : World) (h : ifcOk b v) :
    ((binOp .eql t v .nilIface).run P w = .ok (.bool (!b)) w) ∧ ((binOp .neq t v .nilIface).run P w = .ok (.bool b) w) := by
  have e : (Op.equal t v .nilIface).run P w = .ok (!b) w := ifc_eqIn ht b v w 9999 h
  have hv : v = .nilIface ∨ ∃ t' x, v = .iface t' x := by
    cases b
    · exact .inl h
    · exact .inr h
  rcases hv with rfl | ⟨t', x, rfl⟩ <;> constructor <;> simp only [binOp, Sem.run_bind, e, Result.andThen_ok, Sem.run_pure, Bool.not_not]
theorem ifcE_spec {P : Program} {t : TypeId} {ms : Array (String × TypeId)} (ht : P.underlying t = some (.interface ms)) (X : Operand) (yt ty : Nat) (b : Bool) : OpSpec P (.binOp .eql t X (.const .nilIface) yt) ty [] [] [.ifc b, .lit .nilIface] (.bool (!b)) [] := by
  rintro o ho _ z ρ hW hr
  obtain ⟨dst, op', ty0, pos, after, guard⟩ := o
  dsimp only at ho; subst ho
  have h0 := hr 0 (by simp); have h1 := hr 1 (by simp)
  simp [Op.operands] at h0 h1
  cases h0 with
  | ifc _ _ _ hb =>
    have h2 := (ifc_cmp ht b _ z.w hb).1
    have h4 := ifc_guard (P := P) (t := t) .eql X b _ z.w hb
    have h3 := h1.lit_inv
    refine ⟨_, _, z.w, z.St, z.g, by simp only [execOp]; rw [h3]; simp [h2, h4, Result.andThen], .inl rfl, hW, .bool _ _, fun q hq => by cases hq⟩
end Go.Abs
namespace Go.Abs
open Go Go.RowKit
def ixB (l : List UInt8) (c : UInt8) : Int := match l.findIdx? (· == c) with | some i => (i : Int) | none => -1
theorem ixB_eq (l : List UInt8) (c : UInt8) : Lib.indexByte l c = ixB l c := by
  induction l with
  | nil => rfl
  | cons b l ih =>
    have e : Lib.indexByte (b :: l) c = if b == c then 0 else if Lib.indexByte l c == -1 then -1 else Lib.indexByte l c + 1 := rfl
    rw [e, ih]
    unfold ixB
    rw [List.findIdx?_cons]
    cases h : b == c
    · cases h2 : List.findIdx? (fun x => x == c) l with
      | none => simp
      | some i =>
        have h3 : ((i : Int) == -1) = false := by simp
        simp [h3]
    · simp
def ixbO (l : List UInt8) (c : Int) : Option Int := some (ixB l c.toNat.toUInt8)
theorem ixb_spec {P : Program} {f : FuncId} (h : ∀ (s : ByteArray) (c : Int) (w : World), Calls P f #[.string s, .int .u8 c] w fun e w' => e = .returned (.int .i64 (Lib.indexByte s.data.toList c.toNat.toUInt8)) ∧ w' = w)
    (a : List UInt8) (c r : Int) (hr : ixbO a c = some r) : Spec1 P f [] [] [] [.str a, .int .u8 c] (.int .i64 r) [] := by
  cases hr
  intro z vals hW hl hv _
  have e0 := hv 0 (by simp)
  have e1 := hv 1 (by simp)
  simp only [List.getD_cons_zero, List.getD_cons_succ] at e0 e1
  obtain ⟨s, hs1, hs2⟩ := e0.str_inv
  have hs1' := e1.int_inv
  have hv : vals = #[vals.getD 0 undef, vals.getD 1 undef] := by
    apply Array.ext
    · simpa using hl
    · intro i h1 h2
      have : i = 0 ∨ i = 1 := by simp at h2; omega
      rcases this with rfl | rfl <;> simp [h1]
  rw [hv, hs1, hs1']
  refine (h s c z.w).mono ?_
  rintro e w' ⟨rfl, rfl⟩
  refine ⟨_, _, _, z.St, z.g, rfl, ⟨rfl, rfl⟩, hW, ?_, by simp⟩
  rw [hs2, ixB_eq]
  exact .int _ _ _
theorem isByte_app {n m : Nat} {f g : Nat → Nat → V} (hf : ∀ i, isByte (f i 0)) (hg : ∀ i, i < m → isByte (g i 0)) : ∀ i, i < n + m → isByte (appF n f g i 0) := by
  intro i hi
  unfold appF
  split
  · exact hf i
  · exact hg (i - n) (by omega)
end Go.Abs
namespace Go.Abs
open Go Go.Proofs
set_option maxHeartbeats 4000000
end Go.Abs
namespace Go.Abs
open Go Go.Proofs
set_option maxHeartbeats 4000000
def cs13 : List UInt8 := [0, 1, 2, 2, 3, 3, 3, 3, 4, 4, 4, 4, 4, 4, 4, 4, 5, 5, 5, 5, 5, 5, 5, 5, 5, 5, 5, 5, 5, 5, 5, 5, 6, 6, 6, 6, 6, 6, 6, 6, 6, 6, 6, 6, 6, 6, 6, 6, 6, 6, 6, 6, 6, 6, 6, 6, 6, 6, 6, 6, 6, 6, 6, 6, 7, 7, 7, 7, 7, 7, 7, 7, 7, 7, 7, 7, 7, 7, 7, 7, 7, 7, 7, 7, 7, 7, 7, 7, 7, 7, 7, 7, 7, 7, 7, 7, 7, 7, 7, 7, 7, 7, 7, 7, 7, 7, 7, 7, 7, 7, 7, 7, 7, 7, 7, 7, 7, 7, 7, 7, 7, 7, 7, 7, 7, 7, 7, 7, 8, 8, 8, 8, 8, 8, 8, 8, 8, 8, 8, 8, 8, 8, 8, 8, 8, 8, 8, 8, 8, 8, 8, 8, 8, 8, 8, 8, 8, 8, 8, 8, 8, 8, 8, 8, 8, 8, 8, 8, 8, 8, 8, 8, 8, 8, 8, 8, 8, 8, 8, 8, 8, 8, 8, 8, 8, 8, 8, 8, 8, 8, 8, 8, 8, 8, 8, 8, 8, 8, 8, 8, 8, 8, 8, 8, 8, 8, 8, 8, 8, 8, 8, 8, 8, 8, 8, 8, 8, 8, 8, 8, 8, 8, 8, 8, 8, 8, 8, 8, 8, 8, 8, 8, 8, 8, 8, 8, 8, 8, 8, 8, 8, 8, 8, 8, 8, 8, 8, 8, 8, 8, 8, 8, 8, 8, 8, 8]
abbrev q3aS (l : List (List UInt8)) : V := vL 1 eS [] l
abbrev q3bS_9 (l : List (List UInt8)) : Blk := bL 9 1 eS [] l
theorem q3rq {Q : Exit → S → Prop} {id : Nat} {draw : Bool} {y : Code} (W : List Nat) (calls : List (Nat × CC)) {l : List Oper} {s : S} (s' : S) {φ : Prop} (hφ : φ) (hQ : AWp Tryz.prog y Q s') (h : Abs.regC Tryz.prog W draw calls (s'.t.map (·.1)) (s'.h.map (·.1)) l s = some (s', φ) := by kernel_rfl) : AWp Tryz.prog (.seq (.region id l.toArray draw) y) Q s := AWp.sq W calls _ _ s' φ Tryz_mixed h hφ hQ
theorem q3rr {Q : Exit → S → Prop} {id : Nat} {draw : Bool} (W : List Nat) (calls : List (Nat × CC)) {l : List Oper} {s : S} (s' : S) {φ : Prop} (hφ : φ) (hQ : Q .normal s') (h : Abs.regC Tryz.prog W draw calls (s'.t.map (·.1)) (s'.h.map (·.1)) l s = some (s', φ) := by kernel_rfl) : AWp Tryz.prog (.region id l.toArray draw) Q s := AWp.regC W calls _ _ s' φ Tryz_mixed h hφ hQ
def f167 (x1 : Int) : Option Int :=
  chk (0 ≤ x1 ∧ x1 < ((cs13.length : Nat) : Int)) <|
  chk ((((cs13.getD ((x1).toNat) 0).toNat : Nat) : Int) ≤ 9223372036854775807) <|
  some (((cs13.getD ((x1).toNat) 0).toNat : Nat) : Int)
set_option maxRecDepth 100000 in
theorem f167_ok  (x1 : Int) (r : Int) (h : f167 x1 = some r)  : Spec1 Tryz.prog 167 [] [] [] [.int .u8 x1] (.int .i64 r) [] := by
  unfold f167 at h
  refine Spec1.body 0 _ _ Tryz.func167 rfl Tryz.ntmps167 rfl rfl ?_
  refine q3rq [] [] ⟨6, [(0, .int .u8 x1)], [], [], 0⟩ trivial ?_
  refine AWp.seq ?_
  obtain ⟨ob0, ob1p, h⟩ := ck2 h
  have ob1 : -9223372036854775808 ≤ (((cs13.getD ((x1).toNat) 0).toNat : Nat) : Int) ∧ (((cs13.getD ((x1).toNat) 0).toNat : Nat) : Int) ≤ 9223372036854775807 := ⟨by omega, ob1p⟩
  refine q3rr [] [] ⟨6, [(2, .i (((cs13.getD ((x1).toNat) 0).toNat : Nat) : Int))], [], [], 0⟩ (an2 ob0 ob1) ?_
  refine thenQ_normal ?_
  have hret := Option.some.inj h
  subst hret
  refine AWp.ret ?_
  exact bodyQ_ret _ rfl ⟨rfl, rfl⟩ rfl
def f146_L0 (x1 : List UInt8) (K1 : Unit → Option (Int × Int × Int)) : Nat → (Int × Nat) → Option (Int × Int × Int)
  | 0, _ => none
  | k + 1, (i2, n3) =>
    if (decide ((n3 : Int) < (min ((x1.length : Nat) : Int) (10 : Int)))) then (
    chk ((n3 : Int) < ((x1.length : Nat) : Int)) <|
    if (decide ((((x1.getD n3 0).toNat : Nat) : Int) ≥ (128 : Int))) then (
    chk (0 ≤ (bitsI .and .u8 (((x1.getD n3 0).toNat : Nat) : Int) (127 : Int)) ∧ (bitsI .and .u8 (((x1.getD n3 0).toNat : Nat) : Int) (127 : Int)) ≤ 18446744073709551615) <|
    chk (-9223372036854775808 ≤ ((7 : Int) * (n3 : Int)) ∧ ((7 : Int) * (n3 : Int)) ≤ 9223372036854775807) <|
    chk (((n3 : Int) + (1 : Int)) ≤ 9223372036854775807) <|
    (f146_L0 x1 K1 k) ((bitsI .or .u64 i2 (IntKind.wrap .u64 ((bitsI .and .u8 (((x1.getD n3 0).toNat : Nat) : Int) (127 : Int)) * 2 ^ (min (7 * n3) (IntKind.bits .u64))))), (n3 + 1))
    ) else (
    (f167 (((x1.getD n3 0).toNat : Nat) : Int)).bind fun (r4 : Int) =>
    chk (-9223372036854775808 ≤ ((7 : Int) * (n3 : Int)) ∧ ((7 : Int) * (n3 : Int)) ≤ 9223372036854775807) <|
    chk (-9223372036854775808 ≤ (r4 + (((7 * n3) : Nat) : Int)) ∧ (r4 + (((7 * n3) : Nat) : Int)) ≤ 9223372036854775807) <|
    if (decide ((r4 + (((7 * n3) : Nat) : Int)) > (64 : Int))) then (
    some ((0 : Int), (0 : Int), (7 : Int))
    ) else (
    if (((((x1.getD n3 0).toNat : Nat) : Int) == (0 : Int)) && (decide ((n3 : Int) > (0 : Int)))) then (
    some ((0 : Int), (0 : Int), (2 : Int))
    ) else (
    chk ((((x1.getD n3 0).toNat : Nat) : Int) ≤ 18446744073709551615) <|
    chk (-9223372036854775808 ≤ ((7 : Int) * (n3 : Int)) ∧ ((7 : Int) * (n3 : Int)) ≤ 9223372036854775807) <|
    chk ((7 * n3) ≤ IntKind.bits .u64 ∧ 0 ≤ ((((x1.getD n3 0).toNat : Nat) : Int) * 2 ^ (7 * n3)) ∧ ((((x1.getD n3 0).toNat : Nat) : Int) * 2 ^ (7 * n3)) ≤ 18446744073709551615) <|
    chk (((n3 : Int) + (1 : Int)) ≤ 9223372036854775807) <|
    some ((bitsI .or .u64 i2 ((((x1.getD n3 0).toNat : Nat) : Int) * 2 ^ (7 * n3))), (((n3 + 1) : Nat) : Int), (0 : Int))
    )
    )
    )
    ) else (
    K1 ()
    )
theorem f146_L0_e2 (x1 : List UInt8) (K1 : Unit → Option (Int × Int × Int)) (k : Nat) (i2 : Int) (n3 : Nat) : f146_L0 x1 K1 (k + 1) (i2, n3) =
    if (decide ((n3 : Int) < (min ((x1.length : Nat) : Int) (10 : Int)))) then (
    chk ((n3 : Int) < ((x1.length : Nat) : Int)) <|
    if (decide ((((x1.getD n3 0).toNat : Nat) : Int) ≥ (128 : Int))) then (
    chk (0 ≤ (bitsI .and .u8 (((x1.getD n3 0).toNat : Nat) : Int) (127 : Int)) ∧ (bitsI .and .u8 (((x1.getD n3 0).toNat : Nat) : Int) (127 : Int)) ≤ 18446744073709551615) <|
    chk (-9223372036854775808 ≤ ((7 : Int) * (n3 : Int)) ∧ ((7 : Int) * (n3 : Int)) ≤ 9223372036854775807) <|
    chk (((n3 : Int) + (1 : Int)) ≤ 9223372036854775807) <|
    (f146_L0 x1 K1 k) ((bitsI .or .u64 i2 (IntKind.wrap .u64 ((bitsI .and .u8 (((x1.getD n3 0).toNat : Nat) : Int) (127 : Int)) * 2 ^ (min (7 * n3) (IntKind.bits .u64))))), (n3 + 1))
    ) else (
    (f167 (((x1.getD n3 0).toNat : Nat) : Int)).bind fun (r4 : Int) =>
    chk (-9223372036854775808 ≤ ((7 : Int) * (n3 : Int)) ∧ ((7 : Int) * (n3 : Int)) ≤ 9223372036854775807) <|
    chk (-9223372036854775808 ≤ (r4 + (((7 * n3) : Nat) : Int)) ∧ (r4 + (((7 * n3) : Nat) : Int)) ≤ 9223372036854775807) <|
    if (decide ((r4 + (((7 * n3) : Nat) : Int)) > (64 : Int))) then (
    some ((0 : Int), (0 : Int), (7 : Int))
    ) else (
    if (((((x1.getD n3 0).toNat : Nat) : Int) == (0 : Int)) && (decide ((n3 : Int) > (0 : Int)))) then (
    some ((0 : Int), (0 : Int), (2 : Int))
    ) else (
    chk ((((x1.getD n3 0).toNat : Nat) : Int) ≤ 18446744073709551615) <|
    chk (-9223372036854775808 ≤ ((7 : Int) * (n3 : Int)) ∧ ((7 : Int) * (n3 : Int)) ≤ 9223372036854775807) <|
    chk ((7 * n3) ≤ IntKind.bits .u64 ∧ 0 ≤ ((((x1.getD n3 0).toNat : Nat) : Int) * 2 ^ (7 * n3)) ∧ ((((x1.getD n3 0).toNat : Nat) : Int) * 2 ^ (7 * n3)) ≤ 18446744073709551615) <|
    chk (((n3 : Int) + (1 : Int)) ≤ 9223372036854775807) <|
    some ((bitsI .or .u64 i2 ((((x1.getD n3 0).toNat : Nat) : Int) * 2 ^ (7 * n3))), (((n3 + 1) : Nat) : Int), (0 : Int))
    )
    )
    )
    ) else (
    K1 ()
    ) := rfl
abbrev f146z0 : List (Nat × V) := [(2, .int .u64 (0 : Int)), (3, .int .i64 (0 : Int)), (4, .int .i64 (7 : Int))]
def f146 (x1 : List UInt8) : Option (Int × Int × Int) :=
  jn (fun (_ : Unit) =>
  if (decide (((x1.length : Nat) : Int) < (10 : Int))) then (
  some ((0 : Int), (0 : Int), (9 : Int))
  ) else (
  some ((0 : Int), (0 : Int), (7 : Int))
  )
  ) fun (K1 : Unit → Option (Int × Int × Int)) =>
  f146_L0 x1 K1 FUEL ((0 : Int), 0)
set_option maxRecDepth 100000 in
theorem f146_ok  (x1 : List UInt8) (r : Int × Int × Int) (h : f146 x1 = some r)  : Spec1 Tryz.prog 146 [] [] [] [.str x1] (.tup [.int .u64 r.1, .int .i64 r.2.1, .int .i64 r.2.2]) [] := by
  unfold f146 at h
  refine Spec1.body 0 _ _ Tryz.func146 rfl Tryz.ntmps146 rfl rfl ?_
  refine q3rq [25] [] ⟨52, [(0, .str x1)], [], [], 0⟩ trivial ?_
  refine q3rq [25] [] ⟨52, [(0, .str x1), (5, .int .u64 (0 : Int))], [], [], 0⟩ trivial ?_
  obtain ⟨K1, hK1, h⟩ := jn_some h
  refine AWp.join (α := Unit) (fun (x : Unit) => match x with | () => ⟨52, [(0, .str x1)], [], [], 0⟩) (fun x => K1 x = some r) ?_ ?_
  ·
    refine q3rq [25] [] ⟨52, [(0, .str x1), (5, .int .u64 (0 : Int)), (10, .i (min (lZ x1) (10 : Int))), (11, .i (0 : Int))], [], [], 0⟩ trivial ?_
    refine AWp.block ?_
    refine AWp.loopL (α := Nat × (Int × Nat)) (fun x => match x with | (_, i2, n3) => ⟨52, [(0, .str x1), (5, .int .u64 i2), (10, .i (min (lZ x1) (10 : Int))), (11, .i (n3 : Int))], [], [], 0⟩) (fun x => f146_L0 x1 K1 x.1 x.2 = some r) (fun x => x.1) (FUEL, (0 : Int), 0) (Le.mk (s' := ⟨52, [(0, .str x1), (5, .int .u64 (0 : Int)), (10, .i (min (lZ x1) (10 : Int))), (11, .i (0 : Int))], [], [], 0⟩) rfl rfl ⟨.refl _, .refl _, .refl _, .refl _, trivial⟩ trivial) h ?_
    rintro ⟨k0, i2, n3⟩ h
    cases k0 with
    | zero => exact nomatch (show (none : Option (Int × Int × Int)) = some r from h)
    | succ k0 =>
    obtain ⟨C0, hC0⟩ : ∃ C, C = f146_L0 x1 K1 k0 := ⟨_, rfl⟩
    replace h := (f146_L0_e2 ..).symm.trans h
    try rw [← hC0] at h
    refine q3rq [25] [] ⟨52, [(0, .str x1), (5, .int .u64 i2), (10, .i (min (lZ x1) (10 : Int))), (11, .i (n3 : Int)), (12, .bool (decide ((n3 : Int) < (min (lZ x1) (10 : Int)))))], [], [], 0⟩ trivial ?_
    refine AWp.seq ?_
    refine AWp.cond (b := (decide ((n3 : Int) < (min (lZ x1) (10 : Int))))) (by kernel_rfl) (fun hc1 => ?_) (fun hc1 => ?_)
    ·
      replace h := ite_tb hc1 h
      refine AWp.skip ?_
      refine thenQ_normal ?_
      refine AWp.seq ?_
      refine AWp.block ?_
      refine q3rq [25] [] ⟨52, [(0, .str x1), (5, .int .u64 i2), (6, .i (n3 : Int)), (10, .i (min (lZ x1) (10 : Int))), (11, .i (n3 : Int))], [], [], 0⟩ trivial ?_
      refine AWp.seq ?_
      obtain ⟨ob0p, h⟩ := chk_some h
      have ob0 : 0 ≤ (n3 : Int) ∧ (n3 : Int) < ((x1.length : Nat) : Int) := ⟨by omega, ob0p⟩
      refine q3rr [25] [] ⟨52, [(0, .str x1), (5, .int .u64 i2), (6, .i (n3 : Int)), (7, .int .u8 (((x1.getD n3 0).toNat : Nat) : Int)), (10, .i (min (lZ x1) (10 : Int))), (11, .i (n3 : Int))], [], [], 0⟩ (an1 ob0) ?_
      refine thenQ_normal ?_
      refine AWp.seq ?_
      refine q3rq [25] [] ⟨52, [(0, .str x1), (5, .int .u64 i2), (6, .i (n3 : Int)), (7, .int .u8 (((x1.getD n3 0).toNat : Nat) : Int)), (10, .i (min (lZ x1) (10 : Int))), (11, .i (n3 : Int)), (18, .bool (decide ((((x1.getD n3 0).toNat : Nat) : Int) ≥ (128 : Int))))], [], [], 0⟩ trivial ?_
      refine AWp.cond (b := (decide ((((x1.getD n3 0).toNat : Nat) : Int) ≥ (128 : Int)))) (by kernel_rfl) (fun hc2 => ?_) (fun hc2 => ?_)
      ·
        replace h := ite_tb hc2 h
        refine AWp.seq ?_
        obtain ⟨ob1, ob2, h⟩ := ck2 h
        have ob3 : 0 ≤ (((7 * n3) : Nat) : Int) := by omega
        refine q3rr [25] [] ⟨52, [(0, .str x1), (5, .int .u64 (bitsI .or .u64 i2 (IntKind.wrap .u64 ((bitsI .and .u8 (((x1.getD n3 0).toNat : Nat) : Int) (127 : Int)) * 2 ^ (min (7 * n3) (IntKind.bits .u64)))))), (10, .i (min (lZ x1) (10 : Int))), (11, .i (n3 : Int))], [], [], 0⟩ (an3 ob1 ob2 ob3) ?_
        refine thenQ_normal ?_
        refine AWp.exit ?_
        refine thenQ_exit ?_
        refine blockQ_same ?_
        refine thenQ_normal ?_
        obtain ⟨ob4p, h⟩ := chk_some h
        have ob4 : -9223372036854775808 ≤ ((n3 : Int) + (1 : Int)) ∧ ((n3 : Int) + (1 : Int)) ≤ 9223372036854775807 := ⟨by omega, ob4p⟩
        refine q3rr [25] [] ⟨52, [(0, .str x1), (5, .int .u64 (bitsI .or .u64 i2 (IntKind.wrap .u64 ((bitsI .and .u8 (((x1.getD n3 0).toNat : Nat) : Int) (127 : Int)) * 2 ^ (min (7 * n3) (IntKind.bits .u64)))))), (10, .i (min (lZ x1) (10 : Int))), (11, .i (((n3 + 1) : Nat) : Int))], [], [], 0⟩ (an1 ob4) ?_
        rw [hC0] at h
        exact loopQ_normal (_, (bitsI .or .u64 i2 (IntKind.wrap .u64 ((bitsI .and .u8 (((x1.getD n3 0).toNat : Nat) : Int) (127 : Int)) * 2 ^ (min (7 * n3) (IntKind.bits .u64))))), (n3 + 1)) (Le.mk rfl rfl ⟨.refl _, .refl _, .refl _, .refl _, trivial⟩ trivial) h (Nat.lt_succ_self _)
      ·
        replace h := ite_fb hc2 h
        refine AWp.skip ?_
        refine thenQ_normal ?_
        refine AWp.seq ?_
        refine AWp.seq ?_
        obtain ⟨r4, hr4, h⟩ := bind_ok h
        obtain ⟨ob5, ob6, h⟩ := ck2 h
        refine q3rr [25] [(1, ⟨[.int .u8 (((x1.getD n3 0).toNat : Nat) : Int)], [], [], [], .i r4, [], [], []⟩)] ⟨52, [(5, .int .u64 i2), (6, .i (n3 : Int)), (7, .int .u8 (((x1.getD n3 0).toNat : Nat) : Int)), (32, .bool (decide ((r4 + (((7 * n3) : Nat) : Int)) > (64 : Int))))], [], [], 0⟩ (an3 (cpT (f167_ok _ _ hr4)) ob5 ob6) ?_
        refine thenQ_normal ?_
        refine AWp.cond (b := (decide ((r4 + (((7 * n3) : Nat) : Int)) > (64 : Int)))) (by kernel_rfl) (fun hc3 => ?_) (fun hc3 => ?_)
        ·
          replace h := ite_tb hc3 h
          refine q3rq [25] [] ⟨52, (f146z0), [], [], 0⟩ trivial ?_
          have hret := Option.some.inj h
          subst hret
          refine AWp.le (Le.mk (s' := ⟨52, (f146z0), [], [], 0⟩) rfl rfl ⟨.refl _, .refl _, .refl _, trivial⟩ trivial) ?_
          refine AWp.ret ?_
          refine thenQ_ret ?_
          refine blockQ_ret ?_
          refine thenQ_ret ?_
          refine thenQ_ret ?_
          refine blockQ_ret ?_
          refine joinQ_ret ?_
          exact bodyQ_ret _ rfl ⟨rfl, rfl⟩ rfl
        ·
          replace h := ite_fb hc3 h
          refine AWp.skip ?_
          refine thenQ_normal ?_
          refine AWp.seq ?_
          refine AWp.seq ?_
          have ob7 := idA ((((((x1.getD n3 0).toNat : Nat) : Int) == (0 : Int)) == true) = true)
          have ob8 := bqA ((((x1.getD n3 0).toNat : Nat) : Int) == (0 : Int)) true
          refine q3rr [25] [] ⟨52, [(5, .int .u64 i2), (6, .i (n3 : Int)), (7, .int .u8 (((x1.getD n3 0).toNat : Nat) : Int)), (38, .bool (((((x1.getD n3 0).toNat : Nat) : Int) == (0 : Int)) && (decide ((n3 : Int) > (0 : Int)))))], [], [], 0⟩ (an2 (an1 ob7) ob8) ?_
          refine thenQ_normal ?_
          refine AWp.cond (b := (((((x1.getD n3 0).toNat : Nat) : Int) == (0 : Int)) && (decide ((n3 : Int) > (0 : Int))))) (by kernel_rfl) (fun hc4 => ?_) (fun hc4 => ?_)
          ·
            replace h := ite_tb hc4 h
            refine q3rq [25] [] ⟨52, [(2, .int .u64 (0 : Int)), (3, .i (0 : Int)), (4, .i (2 : Int))], [], [], 0⟩ trivial ?_
            have hret := Option.some.inj h
            subst hret
            refine AWp.ret ?_
            refine thenQ_ret ?_
            refine blockQ_ret ?_
            refine thenQ_ret ?_
            refine thenQ_ret ?_
            refine blockQ_ret ?_
            refine joinQ_ret ?_
            exact bodyQ_ret _ rfl ⟨rfl, rfl⟩ rfl
          ·
            replace h := ite_fb hc4 h
            refine AWp.skip ?_
            refine thenQ_normal ?_
            refine AWp.seq ?_
            obtain ⟨ob9p, h⟩ := chk_some h
            have ob9 : 0 ≤ (((x1.getD n3 0).toNat : Nat) : Int) ∧ (((x1.getD n3 0).toNat : Nat) : Int) ≤ 18446744073709551615 := ⟨by omega, ob9p⟩
            obtain ⟨ob10, ob11p, h⟩ := ck2 h
            have ob11 : 0 ≤ (((7 * n3) : Nat) : Int) ∧ (7 * n3) ≤ IntKind.bits .u64 ∧ 0 ≤ ((((x1.getD n3 0).toNat : Nat) : Int) * 2 ^ (7 * n3)) ∧ ((((x1.getD n3 0).toNat : Nat) : Int) * 2 ^ (7 * n3)) ≤ 18446744073709551615 := ⟨by omega, ob11p.1, ob11p.2.1, ob11p.2.2⟩
            obtain ⟨ob12p, h⟩ := chk_some h
            have ob12 : -9223372036854775808 ≤ ((n3 : Int) + (1 : Int)) ∧ ((n3 : Int) + (1 : Int)) ≤ 9223372036854775807 := ⟨by omega, ob12p⟩
            refine q3rr [25] [] ⟨52, [(2, .int .u64 (bitsI .or .u64 i2 ((((x1.getD n3 0).toNat : Nat) : Int) * 2 ^ (7 * n3)))), (3, .i (((n3 + 1) : Nat) : Int)), (4, .i (0 : Int))], [], [], 0⟩ (an4 ob9 ob10 ob11 ob12) ?_
            refine thenQ_normal ?_
            have hret := Option.some.inj h
            subst hret
            refine AWp.ret ?_
            refine blockQ_ret ?_
            refine thenQ_ret ?_
            refine thenQ_ret ?_
            refine blockQ_ret ?_
            refine joinQ_ret ?_
            exact bodyQ_ret _ rfl ⟨rfl, rfl⟩ rfl
    ·
      replace h := ite_fb hc1 h
      refine AWp.exit ?_
      refine thenQ_exit ?_
      refine thenQ_exit ?_
      refine blockQ_same ?_
      exact joinQ_normal () (Le.mk rfl rfl ⟨.refl _, trivial⟩ trivial) h
  ·
    rintro ⟨⟩ h
    replace h := (congrFun hK1 _).symm.trans h
    refine AWp.seq ?_
    refine q3rq [25] [] ⟨52, [(51, .bool (decide ((lZ x1) < (10 : Int))))], [], [], 0⟩ trivial ?_
    refine AWp.cond (b := (decide ((lZ x1) < (10 : Int)))) (by kernel_rfl) (fun hc5 => ?_) (fun hc5 => ?_)
    ·
      replace h := ite_tb hc5 h
      refine q3rq [25] [] ⟨52, [(2, .int .u64 (0 : Int)), (3, .i (0 : Int)), (4, .i (9 : Int))], [], [], 0⟩ trivial ?_
      have hret := Option.some.inj h
      subst hret
      refine AWp.ret ?_
      refine thenQ_ret ?_
      exact bodyQ_ret _ rfl ⟨rfl, rfl⟩ rfl
    ·
      replace h := ite_fb hc5 h
      refine AWp.skip ?_
      refine thenQ_normal ?_
      refine q3rq [25] [] ⟨52, (f146z0), [], [], 0⟩ trivial ?_
      have hret := Option.some.inj h
      subst hret
      refine AWp.le (Le.mk (s' := ⟨52, (f146z0), [], [], 0⟩) rfl rfl ⟨.refl _, .refl _, .refl _, trivial⟩ trivial) ?_
      refine AWp.ret ?_
      exact bodyQ_ret _ rfl ⟨rfl, rfl⟩ rfl
def f120 (x1 : List UInt8) : Option (List UInt8 × Int × Int) :=
  (f146 x1).bind fun (r2 : Int × Int × Int) =>
  if (r2.2.2 != (0 : Int)) then (
  some ([], (0 : Int), r2.2.2)
  ) else (
  chk (-9223372036854775808 ≤ (((x1.length : Nat) : Int) - r2.2.1) ∧ (((x1.length : Nat) : Int) - r2.2.1) ≤ 9223372036854775807) <|
  chk (0 ≤ (((x1.length : Nat) : Int) - r2.2.1) ∧ (((x1.length : Nat) : Int) - r2.2.1) ≤ 18446744073709551615) <|
  if (decide (r2.1 > (((x1.length : Nat) : Int) - r2.2.1))) then (
  some ([], (0 : Int), (9 : Int))
  ) else (
  chk (-9223372036854775808 ≤ r2.1 ∧ r2.1 ≤ 9223372036854775807) <|
  chk (-9223372036854775808 ≤ (r2.2.1 + r2.1) ∧ (r2.2.1 + r2.1) ≤ 9223372036854775807) <|
  chk (0 ≤ r2.2.1 ∧ r2.2.1 ≤ (r2.2.1 + r2.1) ∧ (r2.2.1 + r2.1) ≤ ((x1.length : Nat) : Int)) <|
  some (((x1.take (((r2.2.1 + r2.1)).toNat)).drop ((r2.2.1).toNat)), (r2.2.1 + r2.1), (0 : Int))
  )
  )
set_option maxRecDepth 100000 in
theorem f120_ok  (x1 : List UInt8) (r : List UInt8 × Int × Int) (h : f120 x1 = some r)  : Spec1 Tryz.prog 120 [] [] [] [.str x1] (.tup [.str r.1, .int .i64 r.2.1, .int .i64 r.2.2]) [] := by
  unfold f120 at h
  refine Spec1.body 0 _ _ Tryz.func120 rfl Tryz.ntmps120 rfl rfl ?_
  refine q3rq [] [] ⟨34, [(0, .str x1)], [], [], 0⟩ trivial ?_
  refine AWp.seq ?_
  obtain ⟨r2, hr2, h⟩ := bind_ok h
  refine q3rr [] [(1, ⟨[.str x1], [], [], [], .tup [.int .u64 r2.1, .i r2.2.1, .i r2.2.2], [], [], []⟩)] ⟨34, [(0, .str x1), (5, .int .u64 r2.1), (6, .i r2.2.1), (7, .i r2.2.2)], [], [], 0⟩ (an1 (cpT (f146_ok _ _ hr2))) ?_
  refine thenQ_normal ?_
  refine AWp.seq ?_
  refine q3rq [] [] ⟨34, [(0, .str x1), (5, .int .u64 r2.1), (6, .i r2.2.1), (7, .i r2.2.2), (16, .bool (r2.2.2 != (0 : Int)))], [], [], 0⟩ trivial ?_
  refine AWp.cond (b := (r2.2.2 != (0 : Int))) (by kernel_rfl) (fun hc1 => ?_) (fun hc1 => ?_)
  ·
    replace h := ite_tb hc1 h
    refine q3rq [] [] ⟨34, [(2, .str []), (3, .i (0 : Int)), (4, .i r2.2.2)], [], [], 0⟩ trivial ?_
    have hret := Option.some.inj h
    subst hret
    refine AWp.ret ?_
    refine thenQ_ret ?_
    exact bodyQ_ret _ rfl ⟨rfl, rfl⟩ rfl
  ·
    replace h := ite_fb hc1 h
    refine AWp.skip ?_
    refine thenQ_normal ?_
    refine AWp.seq ?_
    refine AWp.seq ?_
    obtain ⟨ob0, ob1, h⟩ := ck2 h
    refine q3rr [] [] ⟨34, [(0, .str x1), (5, .int .u64 r2.1), (6, .i r2.2.1), (24, .bool (decide (r2.1 > ((lZ x1) - r2.2.1))))], [], [], 0⟩ (an2 ob0 ob1) ?_
    refine thenQ_normal ?_
    refine AWp.cond (b := (decide (r2.1 > ((lZ x1) - r2.2.1)))) (by kernel_rfl) (fun hc2 => ?_) (fun hc2 => ?_)
    ·
      replace h := ite_tb hc2 h
      refine q3rq [] [] ⟨34, [(2, .str []), (3, .i (0 : Int)), (4, .i (9 : Int))], [], [], 0⟩ trivial ?_
      have hret := Option.some.inj h
      subst hret
      refine AWp.ret ?_
      refine thenQ_ret ?_
      exact bodyQ_ret _ rfl ⟨rfl, rfl⟩ rfl
    ·
      replace h := ite_fb hc2 h
      refine AWp.skip ?_
      refine thenQ_normal ?_
      refine AWp.seq ?_
      obtain ⟨ob2, ob3, h⟩ := ck2 h
      refine q3rr [] [] ⟨34, [(0, .str x1), (6, .i r2.2.1), (8, .i (r2.2.1 + r2.1))], [], [], 0⟩ (an2 ob2 ob3) ?_
      refine thenQ_normal ?_
      refine AWp.seq ?_
      obtain ⟨ob4, h⟩ := chk_some h
      refine q3rr [] [] ⟨34, [(2, .str ((x1.take (((r2.2.1 + r2.1)).toNat)).drop ((r2.2.1).toNat))), (3, .i (r2.2.1 + r2.1)), (4, .i (0 : Int))], [], [], 0⟩ (an1 ob4) ?_
      refine thenQ_normal ?_
      have hret := Option.some.inj h
      subst hret
      refine AWp.ret ?_
      exact bodyQ_ret _ rfl ⟨rfl, rfl⟩ rfl
def f119_L0 (x1 : List UInt8) (r2 : Int × Int × Int) (K1 : (Int × List (List UInt8)) → Option (Int × Int × List (List UInt8))) : Nat → (Int × Nat × List (List UInt8)) → Option (Int × Int × List (List UInt8))
  | 0, _ => none
  | k + 1, (i3, n4, l5) =>
    if (decide ((n4 : Int) < r2.1)) then (
    (f120 (x1.drop ((i3).toNat))).bind fun (r6 : List UInt8 × Int × Int) =>
    chk (0 ≤ i3 ∧ i3 ≤ ((x1.length : Nat) : Int)) <|
    if (r6.2.2 != (0 : Int)) then (
    some ((0 : Int), r6.2.2, [])
    ) else (
    chk (((l5).length + 1) * 16 ≤ 140737488355328) <|
    chk (-9223372036854775808 ≤ (i3 + r6.2.1) ∧ (i3 + r6.2.1) ≤ 9223372036854775807) <|
    chk (((n4 : Int) + (1 : Int)) ≤ 18446744073709551615) <|
    (f119_L0 x1 r2 K1 k) ((i3 + r6.2.1), (n4 + 1), (l5 ++ [r6.1]))
    )
    ) else (
    K1 (i3, l5)
    )
def f119 (x1 : List UInt8) : Option (Int × Int × List (List UInt8)) :=
  (f146 x1).bind fun (r2 : Int × Int × Int) =>
  if (r2.2.2 != (0 : Int)) then (
  some ((0 : Int), r2.2.2, [])
  ) else (
  jn (fun ((i7, l8) : Int × List (List UInt8)) =>
  some (i7, (0 : Int), l8)
  ) fun (K1 : (Int × List (List UInt8)) → Option (Int × Int × List (List UInt8))) =>
  f119_L0 x1 r2 K1 FUEL (r2.2.1, 0, [])
  )
set_option maxRecDepth 100000 in
theorem f119_ok  (x1 : List UInt8) (r : Int × Int × List (List UInt8)) (h : f119 x1 = some r)  : Spec1 Tryz.prog 119 [] [] [] [.str x1, .fn (.func 120) []] (.tup [.own 3000, .int .i64 r.1, .int .i64 r.2.1]) [(3000, bL 9 1 eS [] r.2.2)] := by
  unfold f119 at h
  refine Spec1.body 0 _ _ Tryz.func119 rfl Tryz.ntmps119 rfl rfl ?_
  refine q3rq [] [] ⟨48, [(0, .str x1), (1, .fn (.func 120) [])], [], [], 0⟩ trivial ?_
  refine AWp.seq ?_
  obtain ⟨r2, hr2, h⟩ := bind_ok h
  refine q3rr [] [(1, ⟨[.str x1], [], [], [], .tup [.int .u64 r2.1, .i r2.2.1, .i r2.2.2], [], [], []⟩)] ⟨48, [(0, .str x1), (1, .fn (.func 120) []), (7, .int .u64 r2.1), (8, .i r2.2.1), (9, .i r2.2.2)], [], [], 0⟩ (an1 (cpT (f146_ok _ _ hr2))) ?_
  refine thenQ_normal ?_
  refine AWp.seq ?_
  refine q3rq [] [] ⟨48, [(0, .str x1), (1, .fn (.func 120) []), (7, .int .u64 r2.1), (8, .i r2.2.1), (9, .i r2.2.2), (21, .bool (r2.2.2 != (0 : Int)))], [], [], 0⟩ trivial ?_
  refine AWp.cond (b := (r2.2.2 != (0 : Int))) (by kernel_rfl) (fun hc1 => ?_) (fun hc1 => ?_)
  ·
    replace h := ite_tb hc1 h
    refine q3rq [] [] ⟨48, [(4, .nils), (5, .i (0 : Int)), (6, .i r2.2.2)], [], [], 0⟩ trivial ?_
    refine AWp.le (Le.trans (Le.nilOwn 4 3000 9 1 (encF eS [] []) rfl rfl (Nat.le_of_ble_eq_true rfl)) (Le.mk (s' := ⟨48, [(4, .own 3000), (5, .i (0 : Int)), (6, .i r2.2.2)], [(3000, q3bS_9 [])], [], 0⟩) rfl rfl ⟨.refl _, .refl _, .refl _, trivial⟩ ⟨⟨_, rfl, .refl _⟩, trivial⟩)) ?_
    have hret := Option.some.inj h
    subst hret
    refine AWp.le (Le.mk (s' := ⟨48, [(4, .own 3000), (5, .i (0 : Int)), (6, .i r2.2.2)], [(3000, q3bS_9 [])], [], 0⟩) rfl rfl ⟨.refl _, .refl _, .refl _, trivial⟩ ⟨⟨_, rfl, .refl _⟩, trivial⟩) ?_
    refine AWp.ret ?_
    refine thenQ_ret ?_
    exact bodyQ_ret _ rfl ⟨rfl, rfl⟩ rfl
  ·
    replace h := ite_fb hc1 h
    refine AWp.skip ?_
    refine thenQ_normal ?_
    refine q3rq [] [] ⟨48, [(0, .str x1), (1, .fn (.func 120) []), (7, .int .u64 r2.1), (8, .i r2.2.1), (10, .nils)], [], [], 0⟩ trivial ?_
    obtain ⟨K1, hK1, h⟩ := jn_some h
    refine AWp.join (α := Int × List (List UInt8)) (fun (x : Int × List (List UInt8)) => match x with | (i7, l8) => ⟨48, [(8, .i i7), (10, .own 5010)], [(5010, q3bS_9 l8)], [], 0⟩) (fun x => K1 x = some r) ?_ ?_
    ·
      refine q3rq [] [] ⟨48, [(0, .str x1), (1, .fn (.func 120) []), (8, .i r2.2.1), (10, .nils), (23, .int .u64 r2.1), (24, .int .u64 (0 : Int))], [], [], 0⟩ trivial ?_
      refine AWp.block ?_
      refine AWp.loopL (α := Nat × (Int × Nat × List (List UInt8))) (fun x => match x with | (_, i3, n4, l5) => ⟨48, [(0, .str x1), (1, .fn (.func 120) []), (8, .i i3), (10, .own 5010), (23, .int .u64 r2.1), (24, .int .u64 (n4 : Int))], [(5010, q3bS_9 l5)], [], 0⟩) (fun x => f119_L0 x1 r2 K1 x.1 x.2 = some r) (fun x => x.1) (FUEL, r2.2.1, 0, []) (Le.trans (Le.trans (Le.nilOwn 10 5010 9 1 (encF eS [] []) rfl rfl (Nat.le_of_ble_eq_true rfl)) (Le.mk (s' := ⟨48, [(0, .str x1), (1, .fn (.func 120) []), (8, .i r2.2.1), (10, .own 5010), (23, .int .u64 r2.1), (24, .int .u64 (0 : Int))], [(5010, q3bS_9 [])], [], 0⟩) rfl rfl ⟨.refl _, .refl _, .refl _, .refl _, .refl _, .refl _, trivial⟩ ⟨⟨_, rfl, .refl _⟩, trivial⟩)) (Le.mk (s' := ⟨48, [(0, .str x1), (1, .fn (.func 120) []), (8, .i r2.2.1), (10, .own 5010), (23, .int .u64 r2.1), (24, .int .u64 (0 : Int))], [(5010, q3bS_9 [])], [], 0⟩) rfl rfl ⟨.refl _, .refl _, .refl _, .refl _, .refl _, .refl _, trivial⟩ ⟨⟨_, rfl, .refl _⟩, trivial⟩)) h ?_
      rintro ⟨k0, i3, n4, l5⟩ h
      cases k0 with
      | zero => exact nomatch (show (none : Option (Int × Int × List (List UInt8))) = some r from h)
      | succ k0 =>
      obtain ⟨C0, hC0⟩ : ∃ C, C = f119_L0 x1 r2 K1 k0 := ⟨_, rfl⟩
      replace h := (f119_L0.eq_2 ..).symm.trans h
      try rw [← hC0] at h
      refine q3rq [] [] ⟨48, [(0, .str x1), (1, .fn (.func 120) []), (8, .i i3), (10, .own 5010), (23, .int .u64 r2.1), (24, .int .u64 (n4 : Int)), (25, .bool (decide ((n4 : Int) < r2.1)))], [(5010, q3bS_9 l5)], [], 0⟩ trivial ?_
      refine AWp.seq ?_
      refine AWp.cond (b := (decide ((n4 : Int) < r2.1))) (by kernel_rfl) (fun hc2 => ?_) (fun hc2 => ?_)
      ·
        replace h := ite_tb hc2 h
        refine AWp.skip ?_
        refine thenQ_normal ?_
        refine AWp.seq ?_
        refine AWp.block ?_
        refine AWp.seq ?_
        obtain ⟨r6, hr6, h⟩ := bind_ok h
        obtain ⟨ob0, h⟩ := chk_some h
        refine q3rr [] [(4, ⟨[.str (x1.drop ((i3).toNat))], [], [], [], .tup [.str r6.1, .i r6.2.1, .i r6.2.2], [], [], []⟩)] ⟨48, [(0, .str x1), (1, .fn (.func 120) []), (8, .i i3), (10, .own 5010), (11, .str r6.1), (12, .i r6.2.1), (13, .i r6.2.2), (23, .int .u64 r2.1), (24, .int .u64 (n4 : Int))], [(5010, q3bS_9 l5)], [], 0⟩ (an2 ob0 (cpT (f120_ok _ _ hr6))) ?_
        refine thenQ_normal ?_
        refine AWp.seq ?_
        refine q3rq [] [] ⟨48, [(0, .str x1), (1, .fn (.func 120) []), (8, .i i3), (10, .own 5010), (11, .str r6.1), (12, .i r6.2.1), (13, .i r6.2.2), (23, .int .u64 r2.1), (24, .int .u64 (n4 : Int)), (36, .bool (r6.2.2 != (0 : Int)))], [(5010, q3bS_9 l5)], [], 0⟩ trivial ?_
        refine AWp.cond (b := (r6.2.2 != (0 : Int))) (by kernel_rfl) (fun hc3 => ?_) (fun hc3 => ?_)
        ·
          replace h := ite_tb hc3 h
          refine q3rq [] [] ⟨48, [(4, .nils), (5, .i (0 : Int)), (6, .i r6.2.2)], [], [], 0⟩ trivial ?_
          refine AWp.le (Le.trans (Le.nilOwn 4 3000 9 1 (encF eS [] []) rfl rfl (Nat.le_of_ble_eq_true rfl)) (Le.mk (s' := ⟨48, [(4, .own 3000), (5, .i (0 : Int)), (6, .i r6.2.2)], [(3000, q3bS_9 [])], [], 0⟩) rfl rfl ⟨.refl _, .refl _, .refl _, trivial⟩ ⟨⟨_, rfl, .refl _⟩, trivial⟩)) ?_
          have hret := Option.some.inj h
          subst hret
          refine AWp.le (Le.mk (s' := ⟨48, [(4, .own 3000), (5, .i (0 : Int)), (6, .i r6.2.2)], [(3000, q3bS_9 [])], [], 0⟩) rfl rfl ⟨.refl _, .refl _, .refl _, trivial⟩ ⟨⟨_, rfl, .refl _⟩, trivial⟩) ?_
          refine AWp.ret ?_
          refine thenQ_ret ?_
          refine blockQ_ret ?_
          refine thenQ_ret ?_
          refine thenQ_ret ?_
          refine blockQ_ret ?_
          refine joinQ_ret ?_
          exact bodyQ_ret _ rfl ⟨rfl, rfl⟩ rfl
        ·
          replace h := ite_fb hc3 h
          refine AWp.skip ?_
          refine thenQ_normal ?_
          refine AWp.seq ?_
          obtain ⟨ob1, h⟩ := chk_some h
          refine q3rr [] [] ⟨48, [(0, .str x1), (1, .fn (.func 120) []), (8, .i i3), (10, .own 5010), (12, .i r6.2.1), (23, .int .u64 r2.1), (24, .int .u64 (n4 : Int))], [(5010, .rows 9 1 ((l5).length + 1) (appF (l5).length (encF eS [] l5) (lstF 1 [.str r6.1])))], [], 0⟩ (an1 ob1) ?_
          refine thenQ_normal ?_
          refine AWp.le (Le.mk (s' := ⟨48, [(0, .str x1), (1, .fn (.func 120) []), (8, .i i3), (10, .own 5010), (12, .i r6.2.1), (23, .int .u64 r2.1), (24, .int .u64 (n4 : Int))], [(5010, q3bS_9 (l5 ++ [r6.1]))], [], 0⟩) rfl rfl ⟨.refl _, .refl _, .refl _, .refl _, .refl _, .refl _, .refl _, trivial⟩ ⟨⟨_, rfl, (BLe.of (RL.app (RL.self _) (RL.lst (enc := eS) [r6.1] rfl rfl (fun _ => rfl))))⟩, trivial⟩) ?_
          obtain ⟨ob2, h⟩ := chk_some h
          refine q3rr [] [] ⟨48, [(0, .str x1), (1, .fn (.func 120) []), (8, .i (i3 + r6.2.1)), (10, .own 5010), (23, .int .u64 r2.1), (24, .int .u64 (n4 : Int))], [(5010, q3bS_9 (l5 ++ [r6.1]))], [], 0⟩ (an1 ob2) ?_
          refine blockQ_normal ?_
          refine thenQ_normal ?_
          obtain ⟨ob3p, h⟩ := chk_some h
          have ob3 : 0 ≤ ((n4 : Int) + (1 : Int)) ∧ ((n4 : Int) + (1 : Int)) ≤ 18446744073709551615 := ⟨by omega, ob3p⟩
          refine q3rr [] [] ⟨48, [(0, .str x1), (1, .fn (.func 120) []), (8, .i (i3 + r6.2.1)), (10, .own 5010), (23, .int .u64 r2.1), (24, .int .u64 (((n4 + 1) : Nat) : Int))], [(5010, q3bS_9 (l5 ++ [r6.1]))], [], 0⟩ (an1 ob3) ?_
          rw [hC0] at h
          exact loopQ_normal (_, (i3 + r6.2.1), (n4 + 1), (l5 ++ [r6.1])) (Le.mk rfl rfl ⟨.refl _, .refl _, .refl _, .refl _, .refl _, .refl _, trivial⟩ ⟨⟨_, rfl, .refl _⟩, trivial⟩) h (Nat.lt_succ_self _)
      ·
        replace h := ite_fb hc2 h
        refine AWp.exit ?_
        refine thenQ_exit ?_
        refine thenQ_exit ?_
        refine blockQ_same ?_
        exact joinQ_normal (i3, l5) (Le.mk rfl rfl ⟨.refl _, .refl _, trivial⟩ ⟨⟨_, rfl, .refl _⟩, trivial⟩) h
    ·
      rintro ⟨i7, l8⟩ h
      replace h := (congrFun hK1 _).symm.trans h
      refine q3rq [] [] ⟨48, [(4, .own 5010), (5, .i i7), (6, .i (0 : Int))], [(5010, q3bS_9 l8)], [], 0⟩ trivial ?_
      refine AWp.le (Le.trans (Le.ren (swapN 5010 3000) (swapN_inv 5010 3000) rfl) (Le.mk (s' := ⟨48, [(4, .own 3000), (5, .i i7), (6, .i (0 : Int))], [(3000, q3bS_9 l8)], [], 0⟩) rfl rfl ⟨.refl _, .refl _, .refl _, trivial⟩ ⟨⟨_, rfl, .refl _⟩, trivial⟩)) ?_
      have hret := Option.some.inj h
      subst hret
      refine AWp.le (Le.mk (s' := ⟨48, [(4, .own 3000), (5, .i i7), (6, .i (0 : Int))], [(3000, q3bS_9 l8)], [], 0⟩) rfl rfl ⟨.refl _, .refl _, .refl _, trivial⟩ ⟨⟨_, rfl, .refl _⟩, trivial⟩) ?_
      refine AWp.ret ?_
      exact bodyQ_ret _ rfl ⟨rfl, rfl⟩ rfl
def f84 (x1 : List UInt8) : Option (Int × Int × List (List UInt8)) :=
  (f119 x1).bind fun (r2 : Int × Int × List (List UInt8)) =>
  some (r2.1, r2.2.1, r2.2.2)
set_option maxRecDepth 100000 in
theorem f84_ok  (x1 : List UInt8) (r : Int × Int × List (List UInt8)) (h : f84 x1 = some r)  : Spec1 Tryz.prog 84 [] [] [] [.str x1] (.tup [.own 3000, .int .i64 r.1, .int .i64 r.2.1]) [(3000, bL 9 1 eS [] r.2.2)] := by
  unfold f84 at h
  refine Spec1.body 0 _ _ Tryz.func84 rfl Tryz.ntmps84 rfl rfl ?_
  refine q3rq [] [] ⟨10, [(0, .str x1)], [], [], 0⟩ trivial ?_
  refine AWp.seq ?_
  obtain ⟨r2, hr2, h⟩ := bind_ok h
  refine q3rr [] [(1, ⟨[.str x1, .fn (.func 120) []], [], [], [(6001, q3bS_9 r2.2.2)], .tup [.own 6001, .i r2.1, .i r2.2.1], [6001], [], []⟩)] ⟨10, [(2, .own 6001), (3, .i r2.1), (4, .i r2.2.1)], [(6001, q3bS_9 r2.2.2)], [], 0⟩ (an1 (cpT (Spec1.ren (swapN 3000 6001) (swapN_inv 3000 6001) rfl (f119_ok _ _ hr2)))) ?_
  refine thenQ_normal ?_
  refine AWp.le (Le.trans (Le.ren (swapN 6001 3000) (swapN_inv 6001 3000) rfl) (Le.mk (s' := ⟨10, [(2, .own 3000), (3, .i r2.1), (4, .i r2.2.1)], [(3000, q3bS_9 r2.2.2)], [], 0⟩) rfl rfl ⟨.refl _, .refl _, .refl _, trivial⟩ ⟨⟨_, rfl, .refl _⟩, trivial⟩)) ?_
  have hret := Option.some.inj h
  subst hret
  refine AWp.le (Le.mk (s' := ⟨10, [(2, .own 3000), (3, .i r2.1), (4, .i r2.2.1)], [(3000, q3bS_9 r2.2.2)], [], 0⟩) rfl rfl ⟨.refl _, .refl _, .refl _, trivial⟩ ⟨⟨_, rfl, .refl _⟩, trivial⟩) ?_
  refine AWp.ret ?_
  exact bodyQ_ret _ rfl ⟨rfl, rfl⟩ rfl
def f103 (x1 : List UInt8) : Option (Int × Bool) := atoiO x1
theorem f103_ok (x1 : List UInt8) (r : Int × Bool) (h : f103 x1 = some r) : Spec1 Tryz.prog 103 [(2, errG), (3, errG)] [] [] [.str x1] (.tup [.int .i64 r.1, .ifc r.2]) [] :=
  atoi_spec Tryz.lays172 rfl rfl rfl x1 r h
def f24 (x1 : List (List UInt8)) : Option (List (List UInt8)) :=
  abc ((x1).length = 0) (
  some []
  ) (
  chk ((0 + (x1).length) * 16 ≤ 140737488355328) <|
  some ([] ++ x1)
  )
set_option maxRecDepth 100000 in
theorem f24_ok  (x1 : List (List UInt8)) (r : List (List UInt8)) (h : f24 x1 = some r)  : Spec1 Tryz.prog 24 [] [] [] [vL 1 eS [] x1] (.own 3000) [(3000, bL 9 1 eS [] r)] := by
  unfold f24 at h
  refine Spec1.body 0 _ _ Tryz.func24 rfl Tryz.ntmps24 rfl rfl ?_
  refine q3rq [] [] ⟨8, [(0, q3aS x1)], [], [], 0⟩ trivial ?_
  refine AWp.seq ?_
  refine q3rq [] [] ⟨8, [(0, q3aS x1), (4, .abool (fun b => b = true → (x1).length = 0))], [], [], 0⟩ trivial ?_
  obtain ⟨hA1, hB1⟩ := abc_some h
  refine AWp.condAb (fun b => b = true → (x1).length = 0) (by kernel_rfl) (fun hc1 => ?_) (fun hc1 => ?_)
  ·
    have h := hA1 (hc1 rfl)
    refine q3rq [] [] ⟨8, [(2, .nils)], [], [], 0⟩ trivial ?_
    refine AWp.le (Le.trans (Le.nilOwn 2 3000 9 1 (encF eS [] []) rfl rfl (Nat.le_of_ble_eq_true rfl)) (Le.mk (s' := ⟨8, [(2, .own 3000)], [(3000, q3bS_9 [])], [], 0⟩) rfl rfl ⟨.refl _, trivial⟩ ⟨⟨_, rfl, .refl _⟩, trivial⟩)) ?_
    have hret := Option.some.inj h
    subst hret
    refine AWp.le (Le.mk (s' := ⟨8, [(2, .own 3000)], [(3000, q3bS_9 [])], [], 0⟩) rfl rfl ⟨.refl _, trivial⟩ ⟨⟨_, rfl, .refl _⟩, trivial⟩) ?_
    refine AWp.ret ?_
    refine thenQ_ret ?_
    exact bodyQ_ret _ rfl ⟨rfl, rfl⟩ rfl
  ·
    have h := hB1
    refine AWp.skip ?_
    refine thenQ_normal ?_
    refine AWp.seq ?_
    obtain ⟨ob0, h⟩ := chk_some h
    refine q3rr [] [] ⟨8, [(2, .own 5)], [(5, .rows 9 1 (0 + (x1).length) (appF 0 (lstF 1 []) (encF eS [] x1)))], [], 0⟩ (an1 ob0) ?_
    refine thenQ_normal ?_
    refine AWp.le (Le.mk (s' := ⟨8, [(2, .own 5)], [(5, q3bS_9 ([] ++ x1))], [], 0⟩) rfl rfl ⟨.refl _, trivial⟩ ⟨⟨_, rfl, (BLe.of (RL.app (RL.lst (enc := eS) [] rfl rfl (fun _ => rfl)) (RL.self _)))⟩, trivial⟩) ?_
    refine AWp.le (Le.trans (Le.ren (swapN 5 3000) (swapN_inv 5 3000) rfl) (Le.mk (s' := ⟨8, [(2, .own 3000)], [(3000, q3bS_9 ([] ++ x1))], [], 0⟩) rfl rfl ⟨.refl _, trivial⟩ ⟨⟨_, rfl, .refl _⟩, trivial⟩)) ?_
    have hret := Option.some.inj h
    subst hret
    refine AWp.le (Le.mk (s' := ⟨8, [(2, .own 3000)], [(3000, q3bS_9 ([] ++ x1))], [], 0⟩) rfl rfl ⟨.refl _, trivial⟩ ⟨⟨_, rfl, .refl _⟩, trivial⟩) ?_
    refine AWp.ret ?_
    exact bodyQ_ret _ rfl ⟨rfl, rfl⟩ rfl
end Go.Abs
