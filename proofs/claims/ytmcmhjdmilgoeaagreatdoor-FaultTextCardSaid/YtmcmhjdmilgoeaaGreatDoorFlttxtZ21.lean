/- Part 21 of the proof: Txt8. -/
import Derived.Test.YtmcmhjdmilgoeaaGreatDoorFlttxtZ20
import Derived.Laws.RangeAny
namespace Go.Abs
open Go Go.Lib
def pD (x : Nat) : Bool := decide (x < 48) || decide (57 < x)
theorem pD_neg {x : Nat} : pD x = false ↔ 48 ≤ x ∧ x ≤ 57 := by
  unfold pD
  simp only [Bool.or_eq_false_iff, decide_eq_false_iff_not]
  omega
/-- a numeral's bytes -/
def DigW (w : List UInt8) : Prop := w ≠ [] ∧ ∀ b, b ∈ w → 48 ≤ b.toNat ∧ b.toNat ≤ 57
theorem fldL_app : ∀ (w t c : List UInt8), (∀ b, b ∈ w → 48 ≤ b.toNat ∧ b.toNat ≤ 57) → fldL pD (w ++ t) (some c) = fldL pD t (some (c ++ w))
  | [], t, c, _ => by simp
  | b :: w, t, c, h => by
    have hb : pD b.toNat = false := pD_neg.2 (h b (List.mem_cons_self ..))
    rw [List.cons_append, fldL, if_neg (by rw [hb]; simp), fldL_app w t (c ++ [b]) fun x hx => h x (List.mem_cons_of_mem _ hx)]
    simp
theorem fldL_new (w t : List UInt8) (h : DigW w) : fldL pD (w ++ t) none = fldL pD t (some w) := by
  obtain ⟨hn, h⟩ := h
  cases w with
  | nil => exact absurd rfl hn
  | cons b w =>
    have hb : pD b.toNat = false := pD_neg.2 (h b (List.mem_cons_self ..))
    rw [List.cons_append, fldL, if_neg (by rw [hb]; simp), fldL_app w t [b] fun x hx => h x (List.mem_cons_of_mem _ hx)]
    rfl
theorem joinTail_cons (sep w : List UInt8) (r : List (List UInt8)) : joinTail sep (w :: r) = sep ++ w ++ joinTail sep r := by
  simp [joinTail]
theorem fldL_tail : ∀ (r : List (List UInt8)) (c : List UInt8), (∀ w, w ∈ r → DigW w) → fldL pD (joinTail [32] r ++ [125]) (some c) = c :: r
  | [], c, _ => by
    show fldL pD [125] (some c) = [c]
    rfl
  | w :: r, c, h => by
    rw [joinTail_cons]
    show fldL pD (32 :: (w ++ joinTail [32] r ++ [125])) (some c) = _
    rw [fldL, if_pos (by decide), List.append_assoc, fldL_new w _ (h w (List.mem_cons_self ..)), fldL_tail r w fun x hx => h x (List.mem_cons_of_mem _ hx)]
def txtW (ws : List (List UInt8)) : List UInt8 := 123 :: (join ws [32] ++ [125])
theorem fldL_txt (ws : List (List UInt8)) (h : ∀ w, w ∈ ws → DigW w) : fldL pD (txtW ws) none = ws := by
  unfold txtW
  rw [fldL, if_pos (by decide)]
  cases ws with
  | nil => rfl
  | cons w r =>
    rw [join_cons, List.append_assoc, fldL_new w _ (h w (List.mem_cons_self ..)), fldL_tail r w fun x hx => h x (List.mem_cons_of_mem _ hx)]
theorem txtW_small (ws : List (List UInt8)) (h : ∀ w, w ∈ ws → DigW w) : ∀ b, b ∈ txtW ws → b.toNat < 128 := by
  have ht : ∀ r : List (List UInt8), (∀ w, w ∈ r → DigW w) → ∀ b, b ∈ joinTail [32] r → b.toNat < 128 := by
    intro r
    induction r with
    | nil => intro _ b hb; cases hb
    | cons w r ih =>
      intro h b hb
      rw [joinTail_cons] at hb
      simp only [List.mem_append, List.mem_cons, List.not_mem_nil, or_false] at hb
      rcases hb with (rfl | hb) | hb
      · decide
      · have := ((h w (List.mem_cons_self ..)).2 b hb).2; omega
      · exact ih (fun x hx => h x (List.mem_cons_of_mem _ hx)) b hb
  intro b hb
  unfold txtW at hb
  simp only [List.mem_cons, List.mem_append, List.not_mem_nil, or_false] at hb
  rcases hb with rfl | hb | rfl
  · decide
  · cases ws with
    | nil => cases hb
    | cons w r =>
      rw [join_cons] at hb
      rcases List.mem_append.1 hb with hb | hb
      · have := ((h w (List.mem_cons_self ..)).2 b hb).2; omega
      · exact ht r (fun x hx => h x (List.mem_cons_of_mem _ hx)) b hb
  · decide
/-! ### the text of a set -/
def itw (i : Nat) : List UInt8 := Lib.itoa (i : Int)
theorem itw_dig (i : Nat) : DigW (itw i) := by
  unfold itw
  rw [Lib.itoa, if_neg (by omega), Int.toNat_natCast]
  refine ⟨dig_ne i, ?_⟩
  have : ∀ n b, b ∈ decDigits n → 48 ≤ b.toNat ∧ b.toNat ≤ 57 := by
    intro n
    induction n using Nat.strongRecOn with
    | ind n ih =>
      intro b hb
      by_cases h : n < 10
      · rw [decDigits, dif_pos h, List.mem_singleton] at hb
        subst hb
        rw [dig_nat n h]; omega
      · rw [decDigits, dif_neg h] at hb
        rcases List.mem_append.1 hb with hb | hb
        · exact ih (n / 10) (by omega) b hb
        · rw [List.mem_singleton] at hb
          subst hb
          rw [dig_nat _ (by omega)]; omega
  exact this i
theorem itw_eq (i : Nat) (h : i < 16) : itw i = if i < 10 then [UInt8.ofNat (48 + i)] else [49, UInt8.ofNat (48 + i % 10)] := by
  unfold itw
  rw [Lib.itoa, if_neg (by omega), Int.toNat_natCast]
  by_cases h1 : i < 10
  · rw [decDigits, dif_pos h1, if_pos h1]
  · rw [decDigits, dif_neg h1, if_neg h1, show i / 10 = 1 from by omega, decDigits, dif_pos (by decide)]
    rfl
def textP (x : BitVec 16) : List UInt8 := txtW ((memP x.toNat 16).map itw)
theorem words_dig (L : List Nat) : ∀ w, w ∈ L.map itw → DigW w := by
  intro w hw
  obtain ⟨i, _, rfl⟩ := List.mem_map.1 hw
  exact itw_dig i
def orL (L : List Nat) (o : BitVec 16) : BitVec 16 := L.foldl (fun o j => o ||| ((BitVec.ofInt 16 1) <<< j)) o
theorem one_shl (j k : Nat) (hj : j < 16) : ((BitVec.ofInt 16 1) <<< j).getLsbD k = decide (j = k) := by
  have e1 : ((BitVec.ofInt 16 1) <<< j).toNat = 2 ^ j := by
    rw [BitVec.toNat_shiftLeft]
    show 1 <<< j % 2 ^ 16 = 2 ^ j
    rw [Nat.one_shiftLeft, Nat.mod_eq_of_lt (Nat.pow_lt_pow_right (by decide) hj)]
  show ((BitVec.ofInt 16 1) <<< j).toNat.testBit k = _
  rw [e1, Nat.testBit_two_pow]
theorem orL_bit : ∀ (L : List Nat) (o : BitVec 16) (k : Nat), (∀ j, j ∈ L → j < 16) → (orL L o).getLsbD k = (o.getLsbD k || L.contains k)
  | [], o, k, _ => by simp [orL]
  | j :: L, o, k, h => by
    have ih := orL_bit L (o ||| ((BitVec.ofInt 16 1) <<< j)) k fun i hi => h i (List.mem_cons_of_mem _ hi)
    unfold orL at ih ⊢
    rw [List.foldl_cons, ih, BitVec.getLsbD_or, one_shl j k (h j (List.mem_cons_self ..)), List.contains_cons, Bool.or_assoc]
    congr 2
    rw [Bool.eq_iff_iff]
    simp
    exact eq_comm
theorem memP_small {x i : Nat} (h : i ∈ memP x 16) : i < 16 := List.mem_range.1 (List.mem_filter.1 h).1
theorem orL_mem (x : BitVec 16) : orL (memP x.toNat 16) 0#16 = x := by
  apply BitVec.eq_of_getLsbD_eq
  intro i hi
  rw [orL_bit _ _ _ fun j hj => memP_small hj]
  have hb := bitB x i
  have : (memP x.toNat 16).contains i = x.getLsbD i := by
    rw [Bool.eq_iff_iff, List.contains_iff_mem]
    unfold memP
    rw [List.mem_filter, List.mem_range, decide_eq_true_eq, hb]
    cases x.getLsbD i <;> simp [hi]
  rw [this]
  simp
/-- the numbers less than 16 in a text -/
def scanM : List UInt8 → Int → BitVec 16 → BitVec 16
  | [], _, o => o
  | b :: t, n, o => if 48 ≤ b.toNat ∧ b.toNat ≤ 57 then scanM t (min (10 * max n 0 + ((b.toNat : Int) - 48)) 99) o
    else scanM t (-1) (if 0 ≤ n ∧ n < 16 then o ||| ((BitVec.ofInt 16 1) <<< n.toNat) else o)
theorem scanM_word (i : Nat) (h : i < 16) (t : List UInt8) (o : BitVec 16) : scanM (itw i ++ t) (-1) o = scanM t (i : Int) o := by
  rw [itw_eq i h]
  by_cases h1 : i < 10
  · have hn : (UInt8.ofNat (48 + i)).toNat = 48 + i := dig_nat i h1
    rw [if_pos h1, List.singleton_append, scanM, hn, if_pos (by omega)]
    congr 1
    omega
  · have hn : (UInt8.ofNat (48 + i % 10)).toNat = 48 + i % 10 := dig_nat _ (by omega)
    have h9 : (49 : UInt8).toNat = 49 := rfl
    rw [if_neg h1, List.cons_append, List.singleton_append, scanM, h9, if_pos (by omega), scanM, hn, if_pos (by omega)]
    congr 1
    omega
theorem scanM_tail : ∀ (L : List Nat) (i : Nat) (o : BitVec 16), i < 16 → (∀ j, j ∈ L → j < 16) → scanM (joinTail [32] (L.map itw) ++ [125]) (i : Int) o = orL (i :: L) o
  | [], i, o, hi, _ => by
    show scanM [125] (i : Int) o = _
    rw [scanM, if_neg (by decide), if_pos (by omega)]
    rfl
  | j :: L, i, o, hi, h => by
    rw [List.map_cons, joinTail_cons]
    show scanM (32 :: (itw j ++ joinTail [32] (L.map itw) ++ [125])) (i : Int) o = _
    rw [scanM, if_neg (by decide), if_pos (by omega), List.append_assoc, scanM_word j (h j (List.mem_cons_self ..)), scanM_tail L j _ (h j (List.mem_cons_self ..)) fun k hk => h k (List.mem_cons_of_mem _ hk)]
    rfl
theorem scanM_text (x : BitVec 16) : scanM (textP x) (-1) 0#16 = x := by
  have hx := orL_mem x
  unfold textP txtW
  rw [scanM, if_neg (by decide), if_neg (by decide)]
  have hm : ∀ j, j ∈ memP x.toNat 16 → j < 16 := fun j hj => memP_small hj
  generalize memP x.toNat 16 = L at hx hm ⊢
  cases L with
  | nil => exact hx
  | cons i L =>
    rw [List.map_cons, join_cons, List.append_assoc, scanM_word i (hm i (List.mem_cons_self ..)), scanM_tail L i _ (hm i (List.mem_cons_self ..)) fun k hk => hm k (List.mem_cons_of_mem _ hk), hx]
/-! ### the fields of any text -/
theorem spans_dig (x : List UInt8) : ∀ (f pos : Nat) (st : Option Nat) (acc : List (Nat × Nat)),
    (∀ q, q ∈ acc → DigW (exL x q.1 q.2)) → (∀ a, st = some a → a < pos ∧ pos ≤ x.length ∧ DigW (exL x a pos)) → x.length ≤ pos + f →
    ∀ q, q ∈ closeSpans ⟨x.toArray⟩ (spansFromP pD ⟨x.toArray⟩ f pos st acc) → DigW (exL x q.1 q.2) := by
  have hsz : (⟨x.toArray⟩ : ByteArray).size = x.length := by simp [ByteArray.size]
  have hend : ∀ (f pos : Nat) (st : Option Nat) (acc : List (Nat × Nat)), ¬ pos < x.length → (∀ q, q ∈ acc → DigW (exL x q.1 q.2)) → (∀ a, st = some a → a < pos ∧ pos ≤ x.length ∧ DigW (exL x a pos)) →
      ∀ q, q ∈ closeSpans ⟨x.toArray⟩ (spansFromP pD ⟨x.toArray⟩ f pos st acc) → DigW (exL x q.1 q.2) := by
    intro f pos st acc hp h1 h2 q hq
    rw [spansFromP_end pD _ f pos st acc (by rw [hsz]; exact hp)] at hq
    cases st with
    | none => exact h1 q hq
    | some a =>
      obtain ⟨_, h4, h5⟩ := h2 a rfl
      unfold closeSpans at hq
      rcases List.mem_append.1 hq with hq | hq
      · exact h1 q hq
      · rw [List.mem_singleton] at hq
        subst hq
        rw [hsz, show x.length = pos from by omega]
        exact h5
  intro f
  induction f with
  | zero => intro pos st acc h1 h2 h3; exact hend 0 pos st acc (by omega) h1 h2
  | succ f ih =>
    intro pos st acc h1 h2 h3
    by_cases hlt : pos < x.length
    · have hx : ((⟨x.toArray⟩ : ByteArray)[pos]'(by rw [hsz]; exact hlt)) = x[pos] := by
        show x.toArray[pos] = x[pos]
        simp
      unfold spansFromP
      rw [if_pos (by rw [hsz]; exact hlt)]
      by_cases hp : pD (Utf8.decode ⟨x.toArray⟩ pos).1 = true
      · rw [if_pos hp]
        have hw : x.length ≤ pos + (Utf8.decode ⟨x.toArray⟩ pos).2 + f := by
          have : 1 ≤ (Utf8.decode ⟨x.toArray⟩ pos).2 := by
            by_cases ha : x[pos].toNat < 128
            · rw [decode_ascii ⟨x.toArray⟩ pos (by rw [hsz]; exact hlt) (by rw [hx]; exact ha)]; exact Nat.le_refl _
            · exact (decode_high ⟨x.toArray⟩ pos (by rw [hsz]; exact hlt) (by rw [hx]; omega)).2
          omega
        cases st with
        | none => exact ih _ none acc h1 (by simp) hw
        | some a =>
          obtain ⟨h4, h5, h6⟩ := h2 a rfl
          refine ih _ none (acc ++ [(a, pos)]) (fun q hq => ?_) (by simp) hw
          rcases List.mem_append.1 hq with hq | hq
          · exact h1 q hq
          · rw [List.mem_singleton] at hq
            subst hq; exact h6
      · have hp' : pD (Utf8.decode ⟨x.toArray⟩ pos).1 = false := by simpa using hp
        have hr := pD_neg.1 hp'
        have ha : x[pos].toNat < 128 := by
          refine Classical.byContradiction fun hge => ?_
          have := (decode_high ⟨x.toArray⟩ pos (by rw [hsz]; exact hlt) (by rw [hx]; omega)).1
          omega
        have hd := decode_ascii ⟨x.toArray⟩ pos (by rw [hsz]; exact hlt) (by rw [hx]; exact ha)
        rw [hx] at hd
        rw [hd] at hr
        dsimp only at hr
        rw [if_neg hp, hd]
        have hone : DigW (exL x pos (pos + 1)) := by
          rw [exL_snoc x pos pos (Nat.le_refl _) hlt]
          have : exL x pos pos = [] := by simp [exL]
          rw [this]
          exact ⟨by simp, fun b hb => by rw [List.nil_append, List.mem_singleton] at hb; subst hb; exact hr⟩
        cases st with
        | none => exact ih (pos + 1) (some pos) acc h1 (fun a e => by cases e; exact ⟨by omega, by omega, hone⟩) (by omega)
        | some a =>
          obtain ⟨h4, h5, h6⟩ := h2 a rfl
          refine ih (pos + 1) (some a) acc h1 (fun c e => ?_) (by omega)
          cases e
          refine ⟨by omega, by omega, ?_⟩
          rw [exL_snoc x a pos (by omega) hlt]
          refine ⟨by simp, fun b hb => ?_⟩
          rcases List.mem_append.1 hb with hb | hb
          · exact h6.2 b hb
          · rw [List.mem_singleton] at hb
            subst hb; exact hr
    · exact hend (f + 1) pos st acc hlt h1 h2
theorem fields_dig (x : List UInt8) : ∀ w, w ∈ (goFieldsP pD ⟨x.toArray⟩).map (·.data.toList) → DigW w := by
  intro w hw
  have hsz : (⟨x.toArray⟩ : ByteArray).size = x.length := by simp [ByteArray.size]
  unfold goFieldsP spansOfP at hw
  rw [List.map_map, hsz] at hw
  obtain ⟨q, hq, rfl⟩ := List.mem_map.1 hw
  show DigW ((⟨x.toArray⟩ : ByteArray).extract q.1 q.2).data.toList
  rw [extract_toList]
  exact spans_dig x x.length 0 none [] (by simp) (by simp) (by omega) q hq
/-- a numeral is read as a number that is not negative -/
theorem atoi_dig {w : List UInt8} (h : DigW w) {v : Int} (hv : atoiAll w = .ok v) : 0 ≤ v := by
  obtain ⟨hn, hd⟩ := h
  cases w with
  | nil => exact absurd rfl hn
  | cons c r =>
    have := hd c (List.mem_cons_self ..)
    rw [atoiAll_plain c r (by omega) (by omega)] at hv
    revert hv
    cases parseMag (c :: r) with
    | ok u =>
      unfold signless
      dsimp only
      split
      · intro h; cases h
      · intro h; cases h; omega
    | _ => intro h; cases h
/-! ### families of texts -/
def brk : List UInt8 → Option (List UInt8 × List UInt8)
  | [] => none
  | b :: t => if b = 125 then some ([125], t) else (brk t).map fun q => (b :: q.1, q.2)
theorem brk_app : ∀ (t r : List UInt8), (∀ b, b ∈ t → b ≠ 125) → brk (t ++ 125 :: r) = some (t ++ [125], r)
  | [], r, _ => by rw [List.nil_append, brk, if_pos rfl]; rfl
  | b :: t, r, h => by
    rw [List.cons_append, brk, if_neg (h b (List.mem_cons_self ..)), brk_app t r fun x hx => h x (List.mem_cons_of_mem _ hx)]
    rfl
/-- the set with a text -/
def okT (t : List UInt8) : Option (BitVec 16) := if textP (scanM t (-1) 0#16) = t ∧ (scanM t (-1) 0#16).toNat < 4096 then some (scanM t (-1) 0#16) else none
theorem okT_text (x : BitVec 16) : okT (textP x) = if x.toNat < 4096 then some x else none := by
  unfold okT
  rw [scanM_text]
  simp
theorem okT_some {t : List UInt8} {x : BitVec 16} (h : okT t = some x) : textP x = t ∧ x.toNat < 4096 := by
  unfold okT at h
  split at h
  · rename_i h1; cases h; exact h1
  · cases h
theorem text_no (x : BitVec 16) : ∃ t, textP x = t ++ [125] ∧ (∀ b, b ∈ t → b ≠ 125) ∧ t ≠ [] := by
  refine ⟨123 :: join ((memP x.toNat 16).map itw) [32], rfl, ?_, by simp⟩
  have ht : ∀ L : List Nat, ∀ b, b ∈ joinTail [32] (L.map itw) → b ≠ 125 := by
    intro L
    induction L with
    | nil => intro b hb; cases hb
    | cons i L ih =>
      intro b hb
      rw [List.map_cons, joinTail_cons] at hb
      simp only [List.mem_append, List.mem_cons, List.not_mem_nil, or_false] at hb
      rcases hb with (rfl | hb) | hb
      · decide
      · intro e
        have := ((itw_dig i).2 b hb).2
        rw [e] at this
        exact absurd this (by decide)
      · exact ih b hb
  intro b hb
  rcases List.mem_cons.1 hb with rfl | hb
  · decide
  · generalize memP x.toNat 16 = L at hb
    cases L with
    | nil => cases hb
    | cons i L =>
      rw [List.map_cons, join_cons] at hb
      rcases List.mem_append.1 hb with hb | hb
      · intro e
        have := ((itw_dig i).2 b hb).2
        rw [e] at this
        exact absurd this (by decide)
      · exact ht L b hb
end Go.Abs
