/- Part 30 of the proof: Par19, Pl19p, Val19p, Aw19p, F19Law11. -/
import Derived.Test.YtmcmhjdmilgoeaaGreatDoorFltparZ29
import Derived.Lib.CountLaws
import Derived.Lib.Split
namespace Go.Abs
open Go Go.Lib
def byzT : List UInt8 := [98, 121, 122, 32]
def craT : List UInt8 := [99, 114, 97, 115, 104, 32]
def noneT : List UInt8 := [110, 111, 110, 101]
def sepT : List UInt8 := [32, 124, 32]
/-- the text of a fault -/
def textF (a : Flt) : List UInt8 :=
  if a.1 = 0#16 then (if a.2 = 0#16 then noneT else craT ++ textP a.2) else (if a.2 = 0#16 then byzT ++ textP a.1 else byzT ++ textP a.1 ++ 32 :: (craT ++ textP a.2))
def fmtF (m : List Flt) : List UInt8 := join (m.map textF) sepT
def rdF (a : Flt) : Prop := a.1.toNat < 4096 ∧ a.2.toNat < 4096
/-! ### what stands in a text -/
theorem textP_in (x : BitVec 16) : ∃ t, textP x = 123 :: (t ++ [125]) ∧ ∀ b, b ∈ t → b = 32 ∨ (48 ≤ b.toNat ∧ b.toNat ≤ 57) := by
  refine ⟨join ((memP x.toNat 16).map itw) [32], rfl, ?_⟩
  have ht : ∀ L : List Nat, ∀ b, b ∈ joinTail [32] (L.map itw) → b = 32 ∨ (48 ≤ b.toNat ∧ b.toNat ≤ 57) := by
    intro L
    induction L with
    | nil => intro b hb; cases hb
    | cons i L ih =>
      intro b hb
      rw [List.map_cons, joinTail_cons] at hb
      simp only [List.mem_append, List.mem_cons, List.not_mem_nil, or_false] at hb
      rcases hb with (rfl | hb) | hb
      · exact .inl rfl
      · exact .inr ((itw_dig i).2 b hb)
      · exact ih b hb
  intro b hb
  generalize memP x.toNat 16 = L at hb
  cases L with
  | nil => cases hb
  | cons i L =>
    rw [List.map_cons, join_cons] at hb
    rcases List.mem_append.1 hb with hb | hb
    · exact .inr ((itw_dig i).2 b hb)
    · exact ht L b hb
theorem textP_bar (x : BitVec 16) : ∀ b, b ∈ textP x → b ≠ 124 := by
  obtain ⟨t, h1, h2⟩ := textP_in x
  rw [h1]
  intro b hb
  simp only [List.mem_cons, List.mem_append, List.not_mem_nil, or_false] at hb
  rcases hb with rfl | hb | rfl
  · decide
  · rcases h2 b hb with rfl | h
    · decide
    · rintro rfl
      exact absurd h.2 (by decide)
  · decide
theorem textF_bar (a : Flt) : ∀ b, b ∈ textF a → b ≠ 124 := by
  have h1 := textP_bar a.1
  have h2 := textP_bar a.2
  have hb : ∀ b, b ∈ byzT → b ≠ 124 := by decide
  have hc : ∀ b, b ∈ craT → b ≠ 124 := by decide
  have hn : ∀ b, b ∈ noneT → b ≠ 124 := by decide
  intro b hb0
  unfold textF at hb0
  split at hb0
  · split at hb0
    · exact hn b hb0
    · rcases List.mem_append.1 hb0 with h | h
      · exact hc b h
      · exact h2 b h
  · split at hb0
    · rcases List.mem_append.1 hb0 with h | h
      · exact hb b h
      · exact h1 b h
    · simp only [List.mem_append, List.mem_cons] at hb0
      rcases hb0 with (h | h) | rfl | h | h
      · exact hb b h
      · exact h1 b h
      · decide
      · exact hc b h
      · exact h2 b h
/-! ### Split -/
theorem index_free : ∀ (w t : List UInt8), (∀ b, b ∈ w → b ≠ 124) → index (w ++ (sepT ++ t)) sepT = (w.length : Int)
  | [], t, _ => by
    show index (32 :: 124 :: 32 :: t) sepT = 0
    unfold index
    rw [if_pos (by rfl)]
  | b :: w, t, h => by
    have ih := index_free w t fun x hx => h x (List.mem_cons_of_mem _ hx)
    rw [List.cons_append, index, if_neg, ih, if_neg (by simp)]
    · simp
    · intro hp
      have : sepT.isPrefixOf (b :: (w ++ (sepT ++ t))) = ((32 == b) && ([124, 32] : List UInt8).isPrefixOf (w ++ (sepT ++ t))) := rfl
      rw [this, Bool.and_eq_true] at hp
      cases w with
      | nil =>
        have : ([124, 32] : List UInt8).isPrefixOf ([] ++ (sepT ++ t)) = ((124 == (32 : UInt8)) && ([32] : List UInt8).isPrefixOf (124 :: 32 :: t)) := rfl
        rw [this] at hp
        exact absurd hp.2 (by simp)
      | cons c w =>
        have : ([124, 32] : List UInt8).isPrefixOf (c :: w ++ (sepT ++ t)) = ((124 == c) && ([32] : List UInt8).isPrefixOf (w ++ (sepT ++ t))) := rfl
        rw [this] at hp
        simp only [Bool.and_eq_true, beq_iff_eq] at hp
        exact h c (by simp) hp.2.1.symm
theorem index_none : ∀ (w : List UInt8), (∀ b, b ∈ w → b ≠ 124) → index w sepT = -1
  | [], _ => rfl
  | b :: w, h => by
    rw [index, if_neg, index_none w fun x hx => h x (List.mem_cons_of_mem _ hx)]
    · rfl
    · intro hp
      have : sepT.isPrefixOf (b :: w) = ((32 == b) && ([124, 32] : List UInt8).isPrefixOf w) := rfl
      rw [this, Bool.and_eq_true] at hp
      cases w with
      | nil => cases hp.2
      | cons c w =>
        have : ([124, 32] : List UInt8).isPrefixOf (c :: w) = ((124 == c) && ([32] : List UInt8).isPrefixOf w) := rfl
        rw [this] at hp
        simp only [Bool.and_eq_true, beq_iff_eq] at hp
        exact h c (by simp) hp.2.1.symm
theorem split_tail : ∀ (r : List (List UInt8)) (w : List UInt8), (∀ b, b ∈ w → b ≠ 124) → (∀ v, v ∈ r → ∀ b, b ∈ v → b ≠ 124) → Lib.split (w ++ joinTail sepT r) sepT = w :: r
  | [], w, hw, _ => by
    have e : w ++ joinTail sepT [] = w := by simp [joinTail]
    rw [e]
    unfold Lib.split
    rw [count_miss (index_none w hw)]
    rfl
  | v :: r, w, hw, h => by
    have e : w ++ joinTail sepT (v :: r) = w ++ (sepT ++ (v ++ joinTail sepT r)) := by rw [joinTail_cons]; simp
    have ih := split_tail r v (h v (List.mem_cons_self ..)) fun x hx => h x (List.mem_cons_of_mem _ hx)
    have hi := index_free w (v ++ joinTail sepT r) hw
    have hd : (w ++ (sepT ++ (v ++ joinTail sepT r))).drop (w.length + sepT.length) = v ++ joinTail sepT r := by
      rw [← List.append_assoc, List.drop_append_of_le_length (by simp), List.drop_eq_nil_of_le (by simp), List.nil_append]
    unfold Lib.split at ih ⊢
    rw [e, count_hit (by decide) hi, hd, Nat.add_comm 1, splitK, hi, if_neg (by simp), Int.toNat_natCast, Nat.add_zero, hd, ih]
    simp
theorem split_join (w : List UInt8) (r : List (List UInt8)) (h : ∀ v, v ∈ w :: r → ∀ b, b ∈ v → b ≠ 124) : Lib.split (join (w :: r) sepT) sepT = w :: r := by
  rw [join_cons]
  exact split_tail r w (h w (List.mem_cons_self ..)) fun v hv => h v (List.mem_cons_of_mem _ hv)
theorem split_fmt {m : List Flt} (hm : m ≠ []) : Lib.split (fmtF m) sepT = m.map textF := by
  cases m with
  | nil => exact absurd rfl hm
  | cons a r =>
    unfold fmtF
    rw [List.map_cons]
    refine split_join _ _ fun v hv => ?_
    rw [← List.map_cons] at hv
    obtain ⟨x, _, rfl⟩ := List.mem_map.1 hv
    exact textF_bar x
theorem split_ne (s sep : List UInt8) : Lib.split s sep ≠ [] := by
  unfold Lib.split
  cases count s sep with
  | zero => simp [splitK]
  | succ k =>
    rw [splitK]
    split <;> simp
/-! ### the reference's split -/
def spS : List UInt8 → Nat → List UInt8 → List (List UInt8)
  | [], k, cur => [cur ++ ([] : List UInt8).drop k]
  | b :: t, k, cur => if (b :: t).length < 3 then [cur ++ (b :: t).drop k] else match k with
    | k + 1 => spS t k cur
    | 0 => if (b :: t).take 3 = sepT then cur :: spS t 2 [] else spS t 0 (cur ++ [b])
theorem spS_ne : ∀ (s : List UInt8) (k : Nat) (cur : List UInt8), spS s k cur ≠ []
  | [], _, _ => by simp [spS]
  | b :: t, k, cur => by
    unfold spS
    split
    · simp
    · split
      · exact spS_ne t _ _
      · split
        · simp
        · exact spS_ne t _ _
theorem join_two (a b : List UInt8) (r : List (List UInt8)) (sep : List UInt8) : join (a :: b :: r) sep = a ++ sep ++ join (b :: r) sep := by
  rw [join_cons, join_cons, joinTail_cons]
  simp
theorem spS_join : ∀ (s : List UInt8) (k : Nat) (cur : List UInt8), join (spS s k cur) sepT = cur ++ s.drop k
  | [], k, cur => by unfold spS; rw [join_one]
  | b :: t, k, cur => by
    unfold spS
    split
    · rw [join_one]
    · rename_i hl
      split
      · rename_i k
        rw [spS_join t k cur, List.drop_succ_cons]
      · split
        · rename_i h3
          have hj := spS_join t 2 []
          cases hs : spS t 2 [] with
          | nil => exact absurd hs (spS_ne _ _ _)
          | cons x r =>
            rw [hs] at hj
            rw [join_two, hj, List.nil_append, List.drop_zero, List.append_assoc]
            congr 1
            have : b :: t = (b :: t).take 3 ++ (b :: t).drop 3 := (List.take_append_drop 3 _).symm
            rw [h3] at this
            rw [this]; rfl
        · rw [spS_join t 0 (cur ++ [b])]
          simp
theorem spS_free : ∀ (w cur : List UInt8) (t : List UInt8), (∀ b, b ∈ w → b ≠ 124) → spS (w ++ (sepT ++ t)) 0 cur = (cur ++ w) :: spS t 0 []
  | [], cur, t, _ => by
    show spS (32 :: 124 :: 32 :: t) 0 cur = _
    unfold spS
    rw [if_neg (by simp)]
    dsimp only
    rw [if_pos (by rfl), List.append_nil]
    congr 1
    cases t with
    | nil => rfl
    | cons c t =>
      conv => lhs; unfold spS
      rw [if_neg (by simp)]
      dsimp only
      conv => lhs; unfold spS
      by_cases h : (32 :: c :: t).length < 3
      · have : t = [] := by
          cases t with
          | nil => rfl
          | cons d t => simp only [List.length_cons] at h; omega
        subst this
        rfl
      · rw [if_neg h]
        show spS (c :: t) 0 [] = _
        conv => lhs; unfold spS
  | b :: w, cur, t, h => by
    have ih := spS_free w (cur ++ [b]) t fun x hx => h x (List.mem_cons_of_mem _ hx)
    rw [List.cons_append]
    conv => lhs; unfold spS
    rw [if_neg (by simp [sepT]; omega)]
    dsimp only
    rw [if_neg, ih]
    · simp
    · intro e
      cases w with
      | nil =>
        have : (b :: ([] ++ (sepT ++ t))).take 3 = [b, 32, 124] := rfl
        rw [this] at e
        exact absurd e (by simp [sepT])
      | cons c w =>
        have hc := h c (by simp)
        have : (b :: (c :: w ++ (sepT ++ t))).take 3 = b :: c :: (w ++ (sepT ++ t)).take 1 := rfl
        rw [this] at e
        unfold sepT at e
        injection e with _ e
        injection e with e _
        exact hc e
theorem spS_last : ∀ (w cur : List UInt8), (∀ b, b ∈ w → b ≠ 124) → spS w 0 cur = [cur ++ w]
  | [], cur, _ => rfl
  | b :: w, cur, h => by
    unfold spS
    split
    · rfl
    · dsimp only
      rw [if_neg, spS_last w (cur ++ [b]) fun x hx => h x (List.mem_cons_of_mem _ hx)]
      · simp
      · intro e
        cases w with
        | nil => cases e
        | cons c w =>
          have hc := h c (by simp)
          have : (b :: c :: w).take 3 = b :: c :: w.take 1 := rfl
          rw [this] at e
          unfold sepT at e
          injection e with _ e
          injection e with e _
          exact hc e
theorem spS_tail : ∀ (r : List (List UInt8)) (w : List UInt8), (∀ b, b ∈ w → b ≠ 124) → (∀ v, v ∈ r → ∀ b, b ∈ v → b ≠ 124) → spS (w ++ joinTail sepT r) 0 [] = w :: r
  | [], w, hw, _ => by
    have e : w ++ joinTail sepT [] = w := by simp [joinTail]
    rw [e, spS_last w [] hw]; rfl
  | v :: r, w, hw, h => by
    have e : w ++ joinTail sepT (v :: r) = w ++ (sepT ++ (v ++ joinTail sepT r)) := by rw [joinTail_cons]; simp
    rw [e, spS_free w [] _ hw, spS_tail r v (h v (List.mem_cons_self ..)) fun x hx => h x (List.mem_cons_of_mem _ hx)]
    rfl
theorem spS_fmt {m : List Flt} (hm : m ≠ []) : spS (fmtF m) 0 [] = m.map textF := by
  cases m with
  | nil => exact absurd rfl hm
  | cons a r =>
    unfold fmtF
    rw [List.map_cons, join_cons]
    refine spS_tail _ _ (textF_bar a) fun v hv => ?_
    obtain ⟨x, _, rfl⟩ := List.mem_map.1 hv
    exact textF_bar x
/-! ### one fault out of a text, by the program -/
def partW (p s : List UInt8) : BitVec 16 × List UInt8 :=
  if p.isPrefixOf s = true then (match brk (s.drop p.length) with
    | none => (0#16, s)
    | some (t, r) => match okT t with
      | none => (0#16, s)
      | some x => (x, if r.head? = some 32 then r.tail else r)) else (0#16, s)
def parW (s : List UInt8) : Flt := ((partW byzT s).1, (partW craT (partW byzT s).2).1)
theorem partW_small (p s : List UInt8) : (partW p s).1.toNat < 4096 := by
  have h0 : (0#16).toNat < 4096 := by decide
  unfold partW
  split
  · split
    · exact h0
    · split
      · exact h0
      · rename_i h
        exact (okT_some h).2
  · exact h0
theorem parW_rd (s : List UInt8) : rdF (parW s) := ⟨partW_small _ _, partW_small _ _⟩
theorem brk_text (x : BitVec 16) (r : List UInt8) : brk (textP x ++ r) = some (textP x, r) := by
  obtain ⟨t, h1, h2, _⟩ := text_no x
  rw [h1, List.append_assoc]
  exact brk_app t r h2
theorem part_hit {p r : List UInt8} {x : BitVec 16} (hx : x.toNat < 4096) : partW p (p ++ (textP x ++ r)) = (x, if r.head? = some 32 then r.tail else r) := by
  unfold partW
  have e : p.isPrefixOf (p ++ (textP x ++ r)) = true := by
    rw [List.isPrefixOf_iff_prefix]; exact List.prefix_append _ _
  rw [if_pos e, List.drop_left, brk_text]
  dsimp only
  rw [okT_text, if_pos hx]
theorem par_text {a : Flt} (ha : rdF a) : parW (textF a) = a := by
  obtain ⟨u, v⟩ := a
  obtain ⟨h1, h2⟩ := ha
  dsimp only at h1 h2
  unfold textF parW
  dsimp only
  have hcb : ∀ t, partW byzT (craT ++ t) = (0#16, craT ++ t) := fun t => by
    unfold partW
    rw [if_neg]
    show ¬ (([98, 121, 122, 32] : List UInt8).isPrefixOf (99 :: 114 :: 97 :: 115 :: 104 :: 32 :: t)) = true
    simp [List.isPrefixOf]
  by_cases hu : u = 0#16
  · rw [if_pos hu]
    by_cases hv : v = 0#16
    · rw [if_pos hv, hu, hv]
      decide
    · have := part_hit (p := craT) (r := []) h2
      rw [List.append_nil] at this
      rw [if_neg hv, hcb, hu, this]
  · rw [if_neg hu]
    by_cases hv : v = 0#16
    · have := part_hit (p := byzT) (r := []) h1
      rw [List.append_nil] at this
      rw [if_pos hv, this, hv]
      rfl
    · have e1 := part_hit (p := byzT) (r := 32 :: (craT ++ textP v)) h1
      have e2 := part_hit (p := craT) (r := []) h2
      rw [List.append_nil] at e2
      rw [if_neg hv, List.append_assoc, e1]
      dsimp only
      rw [if_pos (by rfl)]
      show (u, (partW craT (craT ++ textP v)).1) = (u, v)
      rw [e2]
theorem textF_inj {a b : Flt} (ha : rdF a) (hb : rdF b) (h : textF a = textF b) : a = b := by
  rw [← par_text ha, h, par_text hb]
theorem par_map {m : List Flt} (h : ∀ a, a ∈ m → rdF a) : (m.map textF).map parW = m := by
  rw [List.map_map]
  conv => rhs; rw [← List.map_id m]
  exact List.map_congr_left fun a ha => par_text (h a ha)
/-! ### by the reference -/
def brS : List UInt8 → Option (List UInt8) → List (BitVec 16) → List (BitVec 16)
  | [], _, l => l
  | b :: t, c, l => match (if b = 123 then some [] else c) with
    | none => brS t none l
    | some w => if b = 125 then brS t none (l ++ (okT (w ++ [b])).toList) else brS t (some (w ++ [b])) l
theorem brS_skip : ∀ (w t : List UInt8) (l : List (BitVec 16)), (∀ b, b ∈ w → b ≠ 123) → brS (w ++ t) none l = brS t none l
  | [], _, _, _ => rfl
  | b :: w, t, l, h => by
    rw [List.cons_append, brS, if_neg (h b (List.mem_cons_self ..))]
    exact brS_skip w t l fun x hx => h x (List.mem_cons_of_mem _ hx)
theorem brS_body : ∀ (w t c : List UInt8) (l : List (BitVec 16)), (∀ b, b ∈ w → b = 32 ∨ (48 ≤ b.toNat ∧ b.toNat ≤ 57)) → brS (w ++ t) (some c) l = brS t (some (c ++ w)) l
  | [], t, c, l, _ => by simp
  | b :: w, t, c, l, h => by
    have hb := h b (List.mem_cons_self ..)
    have h1 : b ≠ 123 := by
      rintro rfl
      rcases hb with h | h
      · exact absurd h (by decide)
      · exact absurd h.2 (by decide)
    have h2 : b ≠ 125 := by
      rintro rfl
      rcases hb with h | h
      · exact absurd h (by decide)
      · exact absurd h.2 (by decide)
    rw [List.cons_append, brS, if_neg h1]
    dsimp only
    rw [if_neg h2, brS_body w t (c ++ [b]) l fun x hx => h x (List.mem_cons_of_mem _ hx)]
    simp
theorem brS_text {x : BitVec 16} (hx : x.toNat < 4096) (t : List UInt8) (l : List (BitVec 16)) : brS (textP x ++ t) none l = brS t none (l ++ [x]) := by
  obtain ⟨w, h1, h2⟩ := textP_in x
  have ho := okT_text x
  rw [if_pos hx, h1] at ho
  rw [h1, List.cons_append, brS, if_pos rfl]
  dsimp only
  rw [if_neg (by decide), List.append_assoc, brS_body w _ _ _ h2]
  show brS (125 :: t) (some ([] ++ [123] ++ w)) l = _
  rw [brS, if_neg (by decide)]
  dsimp only
  rw [if_pos rfl]
  have : [] ++ [123] ++ w ++ [125] = 123 :: (w ++ [125]) := by simp
  rw [this, ho]
  rfl
theorem brS_small : ∀ (s : List UInt8) (c : Option (List UInt8)) (l : List (BitVec 16)), (∀ x, x ∈ l → x.toNat < 4096) → ∀ x, x ∈ brS s c l → x.toNat < 4096
  | [], _, _, h => h
  | b :: t, c, l, h => by
    unfold brS
    split
    · exact brS_small t none l h
    · split
      · refine brS_small t none _ fun x hx => ?_
        rcases List.mem_append.1 hx with hx | hx
        · exact h x hx
        · rename_i w _ _ _
          cases ho : okT (w ++ [b]) with
          | none => rw [ho] at hx; cases hx
          | some y =>
            rw [ho] at hx
            have : x = y := by simpa using hx
            rw [this]
            exact (okT_some ho).2
      · exact brS_small t _ l h
theorem brS_fault {a : Flt} (ha : rdF a) : brS (textF a) none [] = (if a.1 = 0#16 then [] else [a.1]) ++ (if a.2 = 0#16 then [] else [a.2]) := by
  obtain ⟨u, v⟩ := a
  obtain ⟨h1, h2⟩ := ha
  dsimp only at h1 h2 ⊢
  have hb : ∀ b, b ∈ byzT → b ≠ 123 := by decide
  have hc : ∀ b, b ∈ craT → b ≠ 123 := by decide
  have hn : ∀ b, b ∈ noneT → b ≠ 123 := by decide
  have e1 : ∀ (x : BitVec 16), x.toNat < 4096 → ∀ l, brS (textP x) none l = l ++ [x] := fun x hx l => by
    have := brS_text hx [] l
    rw [List.append_nil] at this
    exact this
  unfold textF
  dsimp only
  by_cases hu : u = 0#16
  · rw [if_pos hu, if_pos hu]
    by_cases hv : v = 0#16
    · rw [if_pos hv, if_pos hv]
      have := brS_skip noneT [] [] hn
      rw [List.append_nil] at this
      exact this
    · rw [if_neg hv, if_neg hv, brS_skip craT _ _ hc, e1 v h2]
  · rw [if_neg hu, if_neg hu]
    by_cases hv : v = 0#16
    · rw [if_pos hv, if_pos hv, brS_skip byzT _ _ hb, e1 u h1]; rfl
    · have h3 : ∀ b, b ∈ (32 :: craT : List UInt8) → b ≠ 123 := by decide
      have e : byzT ++ textP u ++ 32 :: (craT ++ textP v) = byzT ++ (textP u ++ ((32 :: craT) ++ textP v)) := by simp
      rw [if_neg hv, if_neg hv, e, brS_skip byzT _ _ hb, brS_text h1, brS_skip (32 :: craT) _ _ h3, e1 v h2]; rfl
/-- the faults that can have a text -/
def canF (r : List (BitVec 16)) : List Flt := if r.length = 2 then [(r.getD 0 0#16, r.getD 1 0#16)] else if r.length = 1 then [(r.getD 0 0#16, 0#16), (0#16, r.getD 0 0#16)] else [(0#16, 0#16)]
def readF (s : List UInt8) : Option Flt := (canF (brS s none [])).find? fun a => textF a == s
theorem getD_small {r : List (BitVec 16)} (h : ∀ x, x ∈ r → x.toNat < 4096) (i : Nat) : (r.getD i 0#16).toNat < 4096 := by
  rcases Nat.lt_or_ge i r.length with hi | hi
  · rw [List.getD_eq_getElem?_getD, List.getElem?_eq_getElem hi]
    exact h _ (List.getElem_mem _)
  · rw [List.getD_eq_getElem?_getD, List.getElem?_eq_none hi]
    decide
theorem canF_rd {r : List (BitVec 16)} (h : ∀ x, x ∈ r → x.toNat < 4096) : ∀ a, a ∈ canF r → rdF a := by
  intro a ha
  have h0 : (0#16).toNat < 4096 := by decide
  unfold canF at ha
  split at ha
  · rw [List.mem_singleton] at ha
    subst ha
    exact ⟨getD_small h 0, getD_small h 1⟩
  · split at ha
    · simp only [List.mem_cons, List.not_mem_nil, or_false] at ha
      rcases ha with rfl | rfl
      · exact ⟨getD_small h 0, h0⟩
      · exact ⟨h0, getD_small h 0⟩
    · rw [List.mem_singleton] at ha
      subst ha
      exact ⟨h0, h0⟩
theorem readF_some {s : List UInt8} {a : Flt} (h : readF s = some a) : textF a = s ∧ rdF a := by
  unfold readF at h
  have h1 := List.find?_some h
  have h2 := List.mem_of_find?_eq_some h
  exact ⟨by simpa using h1, canF_rd (brS_small s none [] (by simp)) a h2⟩
theorem readF_text {a : Flt} (ha : rdF a) : readF (textF a) = some a := by
  have hm : a ∈ canF (brS (textF a) none []) := by
    rw [brS_fault ha]
    obtain ⟨u, v⟩ := a
    dsimp only
    unfold canF
    by_cases hu : u = 0#16
    · by_cases hv : v = 0#16
      · simp [hu, hv]
      · simp [hu, hv]
    · by_cases hv : v = 0#16
      · simp [hu, hv]
      · simp [hu, hv]
  cases h : readF (textF a) with
  | none =>
    unfold readF at h
    have := List.find?_eq_none.1 h a hm
    simp at this
  | some b =>
    obtain ⟨h1, h2⟩ := readF_some h
    rw [textF_inj h2 ha h1]
theorem read_map {m : List Flt} (h : ∀ a, a ∈ m → rdF a) : (m.map textF).mapM readF = some m := by
  induction m with
  | nil => rfl
  | cons a m ih =>
    rw [List.map_cons, List.mapM_cons, readF_text (h a (List.mem_cons_self ..)), ih fun x hx => h x (List.mem_cons_of_mem _ hx)]
    rfl
theorem read_back : ∀ (ws : List (List UInt8)) (m : List Flt), ws.mapM readF = some m → m.map textF = ws ∧ ∀ a, a ∈ m → rdF a
  | [], m, h => by
    rw [List.mapM_nil] at h
    cases h
    exact ⟨rfl, by simp⟩
  | w :: ws, m, h => by
    rw [List.mapM_cons] at h
    cases h1 : readF w with
    | none => rw [h1] at h; cases h
    | some a =>
      rw [h1] at h
      cases h2 : ws.mapM readF with
      | none => rw [h2] at h; cases h
      | some l =>
        rw [h2] at h
        cases h
        obtain ⟨h3, h4⟩ := read_back ws l h2
        obtain ⟨h5, h6⟩ := readF_some h1
        refine ⟨by rw [List.map_cons, h3, h5], fun x hx => ?_⟩
        rcases List.mem_cons.1 hx with rfl | hx
        · exact h6
        · exact h4 x hx
/-- both Parses: the model whose text it is -/
theorem parse_both (s : List UInt8) : (if fmtF ((Lib.split s sepT).map parW) = s then some ((Lib.split s sepT).map parW) else none) = (spS s 0 []).mapM readF := by
  have hne : (Lib.split s sepT).map parW ≠ [] := fun h => split_ne s sepT (List.map_eq_nil_iff.1 h)
  have hrd : ∀ a, a ∈ (Lib.split s sepT).map parW → rdF a := fun a ha => by
    obtain ⟨w, _, rfl⟩ := List.mem_map.1 ha
    exact parW_rd w
  by_cases h : fmtF ((Lib.split s sepT).map parW) = s
  · rw [if_pos h]
    generalize (Lib.split s sepT).map parW = m at h hne hrd ⊢
    rw [← h, spS_fmt hne, read_map hrd]
  · rw [if_neg h]
    cases hr : (spS s 0 []).mapM readF with
    | none => rfl
    | some m =>
      exfalso
      obtain ⟨h1, h2⟩ := read_back _ _ hr
      have hj := spS_join s 0 []
      rw [← h1, List.nil_append, List.drop_zero] at hj
      have hm : m ≠ [] := by
        rintro rfl
        exact spS_ne s 0 [] h1.symm
      apply h
      have : fmtF m = s := hj
      rw [← this, split_fmt hm, par_map h2]
end Go.Abs
namespace Go.Abs
/-- the servers of a set -/
def mems (x : BitVec 16) : List Nat := (List.range 16).filter fun i => decide (x.toNat / 2 ^ i % 2 = 1)
theorem bit_eq (x : BitVec 16) (n : Nat) : (((x >>> n) &&& (BitVec.ofInt 16 1)) == (BitVec.ofInt 16 1)) = decide (x.toNat / 2 ^ n % 2 = 1) := by
  have h := bit_toNat x n
  rw [Bool.eq_iff_iff, beq_iff_eq, decide_eq_true_eq, ← h]
  constructor
  · intro e; rw [e]; rfl
  · intro e; exact BitVec.eq_of_toNat_eq e
theorem f78_eq (x : BitVec 16) (n : Nat) (h : n < 16) : f78 x (n : Int) = some (decide (x.toNat / 2 ^ n % 2 = 1)) := by
  unfold f78
  rw [chk_pos (by intro; omega), Int.toNat_natCast, bit_eq]
  have h1 : (decide ((n : Int) ≥ 0)) = true := by simp
  have h2 : (decide ((n : Int) < 16)) = true := by simp; omega
  rw [h1, h2]
  rfl
theorem f53_L0_eq (x : BitVec 16) (K : List Int → Option (List Int)) : ∀ (c k n : Nat) (l : List Int), n + c = 16 → c < k → l.length ≤ n →
    f53_L0 x K k (n, l) = K (l ++ ((List.range' n c).filter fun i => decide (x.toNat / 2 ^ i % 2 = 1)).map fun i : Nat => (i : Int))
  | 0, k, n, l, hn, hk, hl => by
    obtain ⟨k, rfl⟩ : ∃ q, k = q + 1 := ⟨k - 1, by omega⟩
    rw [f53_L0.eq_2, if_neg (by simp; omega)]
    simp
  | c + 1, k, n, l, hn, hk, hl => by
    obtain ⟨k, rfl⟩ : ∃ q, k = q + 1 := ⟨k - 1, by omega⟩
    rw [f53_L0.eq_2, if_pos (by simp; omega), jn_eq, f78_eq x n (by omega), some_bind, List.range'_succ, List.filter_cons]
    by_cases hb : x.toNat / 2 ^ n % 2 = 1
    · rw [if_pos (decide_eq_true hb), chk_pos (by omega), if_pos (decide_eq_true hb)]
      dsimp only
      rw [chk_pos (by omega), f53_L0_eq x K c k (n + 1) _ (by omega) (by omega) (by simp; omega)]
      simp
    · rw [if_neg (by simpa using hb), if_neg (by simpa using hb)]
      dsimp only
      rw [chk_pos (by omega), f53_L0_eq x K c k (n + 1) _ (by omega) (by omega) (by omega)]
theorem f53_eq (x : BitVec 16) : f53 x = some ((mems x).map fun i : Nat => (i : Int)) := by
  unfold f53
  rw [jn_eq, f53_L0_eq x _ 16 FUEL 0 [] rfl (by unfold FUEL; omega) (Nat.zero_le _), List.nil_append, mems, List.range_eq_range']
theorem mems_bsum (x : Nat) : ∀ c n, ((List.range' n c).filter fun i => decide (x / 2 ^ i % 2 = 1)).length = bsum x n c
  | 0, n => rfl
  | c + 1, n => by
    rw [List.range'_succ, List.filter_cons, bsum]
    have hb : x / 2 ^ n % 2 < 2 := Nat.mod_lt _ (by decide)
    split <;> rename_i h
    · have h : x / 2 ^ n % 2 = 1 := by simpa using h
      rw [List.length_cons, mems_bsum x c (n + 1), h]; omega
    · have h : ¬ x / 2 ^ n % 2 = 1 := by simpa using h
      rw [mems_bsum x c (n + 1)]; omega
theorem mems_len (x : BitVec 16) : (mems x).length = sz x := by
  unfold mems
  rw [List.range_eq_range', mems_bsum]
  rfl
theorem f24_eq (x : BitVec 16) : f24 x = some (sz x : Int) := by
  unfold f24
  rw [f53_eq, some_bind, List.length_map, mems_len]
theorem f74_eq (a b : BitVec 16) : ∃ c, f74 a b = some c ∧ (c = 0 ↔ a = b) ∧ (c < 0 ↔ key a < key b) := by
  unfold f74
  rw [f24_eq, f24_eq]
  by_cases h : a = b
  · subst h
    rw [if_pos (by simp)]
    exact ⟨0, rfl, by simp, by simp⟩
  · rw [if_neg (by simpa using h)]
    have hn : a.toNat ≠ b.toNat := fun e => h (BitVec.eq_of_toNat_eq e)
    have ha := a.isLt
    have hb := b.isLt
    rw [some_bind, some_bind]
    unfold key
    by_cases h1 : sz a < sz b
    · refine ⟨-1, ?_, ?_, ?_⟩
      · simp [optc, chk, h1]
      · simp [h]
      · simp; omega
    · by_cases h2 : sz a = sz b
      · by_cases h3 : a.toNat < b.toNat
        · exact ⟨-1, by simp [optc, chk, h2, h3], by simp [h], by simp; omega⟩
        · exact ⟨1, by simp [optc, chk, h2, h3], by simp [h], by simp; omega⟩
      · exact ⟨1, by simp [optc, chk, h1]; omega, by simp [h], by simp; omega⟩
theorem f45_eq (a b : Flt) : ∃ c, f45 a.1 a.2 b.1 b.2 = some c ∧ (c < 0 ↔ keyF a < keyF b) := by
  obtain ⟨c, h1, h2, h3⟩ := f74_eq a.1 b.1
  obtain ⟨d, h4, h5, h6⟩ := f74_eq a.2 b.2
  have k1 := key_lt a.1
  have k2 := key_lt a.2
  have k3 := key_lt b.1
  have k4 := key_lt b.2
  unfold f45 keyF
  rw [h1, h4, some_bind, some_bind]
  by_cases hc : c = 0
  · refine ⟨d, by simp [hc], ?_⟩
    rw [h2.1 hc, h6]; omega
  · refine ⟨c, by simp [hc], ?_⟩
    have : key a.1 ≠ key b.1 := fun e => hc (h2.2 (key_inj' e))
    rw [h3]; omega
theorem f43_lt (a b : Flt) : ∃ c, f43 a.1 a.2 b.1 b.2 = some c ∧ (c < 0 ↔ keyF a < keyF b) :=
  ⟨_, f43_eq' a b, by have := cmpF_lt a b; simpa using this⟩
theorem f16_eq (b a : Flt) : f16 b.1 b.2 a.1 a.2 = some (cov b a) := by
  unfold f16 f46 cov sub ftyS
  by_cases h : (a.1 &&& ~~~b.1) = 0#16
  · simp [h, optc_t]
  · have e : (a.1 &&& ~~~b.1 == 0#16) = false := by simpa using h
    simp [e, optc_f]
theorem f17_eq (b a : Flt) : f17 b.1 b.2 a.1 a.2 = some (cov b a) := by
  unfold f17 f47 f23 cov sub ftyS
  by_cases h : (a.1 &&& ~~~b.1) = 0#16
  · simp [h, optc_t]
  · have e : (a.1 &&& ~~~b.1 == 0#16) = false := by simpa using h
    simp [e, optc_f]
end Go.Abs
namespace Go.Abs
theorem and_hi (n : Nat) (h : n < 65536) : (n &&& 61440 = 0) ↔ n < 4096 := by
  have e : (n &&& 61440) >>> 12 = n / 4096 := by
    rw [Nat.shiftRight_and_distrib, Nat.shiftRight_eq_div_pow]
    show (n / 4096) &&& 15 = n / 4096
    rw [show (15 : Nat) = 2 ^ 4 - 1 from rfl, Nat.and_two_pow_sub_one_eq_mod]
    omega
  constructor
  · intro h0
    rw [h0] at e
    simp at e
    omega
  · intro hn
    apply Nat.eq_of_testBit_eq
    intro i
    rw [Nat.testBit_and, Nat.zero_testBit]
    by_cases hi : i < 12
    · have : Nat.testBit 61440 i = false := by
        rw [show (61440 : Nat) = 2 ^ 12 * 15 from rfl, Nat.testBit_two_pow_mul]
        simp; omega
      rw [this, Bool.and_false]
    · have : n.testBit i = false := Nat.testBit_lt_two_pow (Nat.lt_of_lt_of_le hn (Nat.pow_le_pow_right (n := 2) (by decide) (by omega : 12 ≤ i)))
      rw [this, Bool.false_and]
theorem outside_eq (x : BitVec 16) : ((x &&& (BitVec.ofInt 16 61440)) == (BitVec.ofInt 16 0)) = decide (x.toNat < 4096) := by
  have h := and_hi x.toNat x.isLt
  rw [Bool.eq_iff_iff, beq_iff_eq, decide_eq_true_eq, ← h]
  constructor
  · intro e
    have := congrArg BitVec.toNat e
    simpa using this
  · intro e
    apply BitVec.eq_of_toNat_eq
    simpa using e
/-- the error of a fault -/
def errF (a : Flt) : Int := if (ftyS a).toNat < 4096 then (if a.1 &&& a.2 = 0#16 then 0 else 1) else 7
theorem f42_eq (a : Flt) : f42 a.1 a.2 = some (errF a) := by
  have e : ((ftyS a &&& ~~~(BitVec.ofInt 16 4095)) == (BitVec.ofInt 16 0)) = decide ((ftyS a).toNat < 4096) := outside_eq (ftyS a)
  unfold f42 f46 errF
  rw [some_bind]
  change (if (!((ftyS a &&& ~~~(BitVec.ofInt 16 4095)) == (BitVec.ofInt 16 0))) = true then _ else _) = _
  rw [e]
  by_cases h : (ftyS a).toNat < 4096
  · rw [decide_eq_true h, if_neg (by simp), if_pos h]
    by_cases h2 : a.1 &&& a.2 = 0#16
    · rw [if_pos h2, if_neg (by simp [h2])]
    · rw [if_neg h2, if_pos (by simpa using h2)]
  · rw [decide_eq_false h, if_pos (by simp), if_neg h]
theorem f44_eq (a : Flt) : f44 a.1 a.2 = some (errF a) := by
  unfold f44 f23 errF
  rw [some_bind]
  change (if (decide ((ftyS a).toNat ≥ 4096)) = true then _ else _) = _
  by_cases h : (ftyS a).toNat < 4096
  · rw [if_neg (by simpa using h), if_pos h]
    by_cases h2 : a.1 &&& a.2 = 0#16
    · rw [if_pos h2, if_neg (by simp [h2])]
    · rw [if_neg h2, if_pos (by simpa using h2)]
  · rw [if_pos (by simpa using h), if_neg h]
/-- a fault that covers an earlier one, or is covered by it -/
def anyC (x : List Flt) (n : Nat) : Bool := (x.take n).any fun y => cov (x.getD n default) y || cov y (x.getD n default)
def scanF (x : List Flt) : Nat → Nat → Option Int
  | 0, _ => none
  | c + 1, n => if errF (x.getD n default) ≠ 0 then some (errF (x.getD n default)) else if anyC x n = true then some 5
    else if 0 < n ∧ ¬ keyF (x.getD (n - 1) default) < keyF (x.getD n default) then some 1 else scanF x c (n + 1)
def orE (e : Option Int) (K : Unit → Option Int) : Option Int := match e with
  | some e => some e
  | none => K ()
theorem getD_take {α : Type} (x : List α) (n m : Nat) (d : α) (h : m < n) : (x.take n).getD m d = x.getD m d := by
  simp [List.getD_eq_getElem?_getD, h]
theorem f13_L1_eq (x : List Flt) (n : Nat) (K : Unit → Option Int) (hn : n < x.length) (hx : x.length ≤ 65536) : f13_L1 x n K FUEL 0 = if anyC x n = true then some 5 else K () := by
  have hl : (x.take n).length = n := by simp; omega
  refine any_up (f13_L1 x n K) (x.take n) default (fun y => cov (x.getD n default) y || cov y (x.getD n default)) (some 5) (K ()) (fun k m hm => ?_) (fun k => ?_) FUEL (by rw [hl]; exact fuel_lt (by omega))
  · rw [hl] at hm
    rw [f13_L1.eq_2, if_pos (by simp; omega), chk_pos (by omega), f16_eq, some_bind]
    cases cov (x.getD n default) ((x.take n).getD m default) with
    | true =>
      rw [show ((true == false)) = false from rfl, optc_f, Bool.true_or, Bool.true_or, if_pos rfl, if_pos rfl]
    | false =>
      rw [show ((false == false) = true) from rfl, optc_t, f16_eq, some_bind, chk_pos (by omega)]
  · rw [hl, f13_L1.eq_2, if_neg (by simp)]
theorem f15_L1_eq (x : List Flt) (n : Nat) (K : Unit → Option Int) (hn : n < x.length) (hx : x.length ≤ 65536) : f15_L1 x n K FUEL 0 = if anyC x n = true then some 5 else K () := by
  have hl : (x.take n).length = n := by simp; omega
  refine any_up (f15_L1 x n K) (x.take n) default (fun y => cov (x.getD n default) y || cov y (x.getD n default)) (some 5) (K ()) (fun k m hm => ?_) (fun k => ?_) FUEL (by rw [hl]; exact fuel_lt (by omega))
  · rw [hl] at hm
    rw [f15_L1.eq_2, if_pos (by simp; omega), f17_eq, some_bind, getD_take x n m default hm]
    cases cov (x.getD n default) (x.getD m default) with
    | true =>
      rw [show ((true == false)) = false from rfl, optc_f, chk_pos (by omega), chk_pos (by omega), chk_pos (by intro h; cases h), chk_pos (by intro h; cases h), Bool.true_or, Bool.true_or, if_pos rfl, if_pos rfl]
    | false =>
      rw [show ((false == false)) = true from rfl, optc_t, f17_eq, some_bind, chk_pos (by omega), chk_pos (by omega), chk_pos (by intro; omega), chk_pos (by intro; omega), chk_pos (by omega)]
  · rw [hl, f15_L1.eq_2, if_neg (by simp)]
theorem f13_L0_eq (x : List Flt) (K : Unit → Option Int) (hx : x.length ≤ 65536) : ∀ (c k n : Nat), n + c = x.length → c < k → f13_L0 x K k n = orE (scanF x c n) K
  | 0, k, n, hn, hk => by
    obtain ⟨k, rfl⟩ : ∃ q, k = q + 1 := ⟨k - 1, by omega⟩
    rw [f13_L0.eq_2, if_neg (by simp; omega)]
    rfl
  | c + 1, k, n, hn, hk => by
    obtain ⟨k, rfl⟩ : ∃ q, k = q + 1 := ⟨k - 1, by omega⟩
    have ih := f13_L0_eq x K hx c k (n + 1) (by omega) (by omega)
    rw [f13_L0.eq_2, if_pos (by simp; omega), chk_pos (by omega), f42_eq, some_bind]
    unfold scanF
    by_cases he : errF (x.getD n default) = 0
    · rw [if_neg (by rw [he]; decide), if_neg (fun h => h he), jn_eq, chk_pos (by omega), f13_L1_eq x n _ (by omega) hx]
      by_cases ha : anyC x n = true
      · rw [if_pos ha, if_pos ha]; rfl
      · rw [if_neg ha, if_neg ha]
        have hn1 : ((n : Int) - 1).toNat = n - 1 := by omega
        rw [hn1]
        by_cases h0 : 0 < n
        · have h0' : ((decide ((n : Int) > 0)) == true) = true := by simp; omega
          obtain ⟨r, h1, h2⟩ := f43_lt (x.getD (n - 1) default) (x.getD n default)
          rw [h0', optc_t, h1, some_bind, chk_pos (by intro; omega), chk_pos (by intro; omega), chk_pos (by omega), ih]
          by_cases hk2 : keyF (x.getD (n - 1) default) < keyF (x.getD n default)
          · rw [if_neg (by have := h2.2 hk2; simp; omega), if_neg (fun h => h.2 hk2)]
          · rw [if_pos (by have : ¬ r < 0 := fun h => hk2 (h2.1 h); simp; omega), if_pos ⟨h0, hk2⟩]; rfl
        · have h0' : ((decide ((n : Int) > 0)) == true) = false := by simp; omega
          rw [h0', optc_f, chk_pos (by intro h; cases h), chk_pos (by intro h; cases h), if_neg (by simp; omega), if_neg (by omega), chk_pos (by omega), ih]
    · rw [if_pos (by simpa using he), if_pos he]; rfl
theorem f15_L0_eq (x : List Flt) (K : Unit → Option Int) (hx : x.length ≤ 65536) : ∀ (c k n : Nat), n + c = x.length → c < k → f15_L0 x K k n = orE (scanF x c n) K
  | 0, k, n, hn, hk => by
    obtain ⟨k, rfl⟩ : ∃ q, k = q + 1 := ⟨k - 1, by omega⟩
    rw [f15_L0.eq_2, if_neg (by simp; omega)]
    rfl
  | c + 1, k, n, hn, hk => by
    obtain ⟨k, rfl⟩ : ∃ q, k = q + 1 := ⟨k - 1, by omega⟩
    have ih := f15_L0_eq x K hx c k (n + 1) (by omega) (by omega)
    rw [f15_L0.eq_2, if_pos (by simp; omega), f44_eq, some_bind, chk_pos (by omega)]
    unfold scanF
    by_cases he : errF (x.getD n default) = 0
    · rw [if_neg (by rw [he]; decide), if_neg (fun h => h he), jn_eq, f15_L1_eq x n _ (by omega) hx]
      by_cases ha : anyC x n = true
      · rw [if_pos ha, if_pos ha]; rfl
      · rw [if_neg ha, if_neg ha]
        have hn1 : ((n : Int) - 1).toNat = n - 1 := by omega
        rw [hn1]
        by_cases h0 : 0 < n
        · have h0' : ((decide ((n : Int) > 0)) == true) = true := by simp; omega
          obtain ⟨r, h1, h2⟩ := f45_eq (x.getD (n - 1) default) (x.getD n default)
          rw [h0', optc_t, h1, some_bind, chk_pos (by intro; omega), chk_pos (by intro; omega), chk_pos (by intro; omega), chk_pos (by omega), ih]
          by_cases hk2 : keyF (x.getD (n - 1) default) < keyF (x.getD n default)
          · rw [if_neg (by have := h2.2 hk2; simp; omega), if_neg (fun h => h.2 hk2)]
          · rw [if_pos (by have : ¬ r < 0 := fun h => hk2 (h2.1 h); simp; omega), if_pos ⟨h0, hk2⟩]; rfl
        · have h0' : ((decide ((n : Int) > 0)) == true) = false := by simp; omega
          rw [h0', optc_f, chk_pos (by intro h; cases h), chk_pos (by intro h; cases h), chk_pos (by intro h; cases h), if_neg (by simp; omega), if_neg (by omega), chk_pos (by omega), ih]
    · rw [if_pos (by simpa using he), if_pos he]; rfl
/-- the error of a model -/
def validF (x : List Flt) : Int := if x.length = 0 then 9 else if x.length > 100 then 3 else (scanF x x.length 0).getD 0
theorem f13_eq (x : List Flt) : f13 x = some (validF x) := by
  unfold f13 validF
  by_cases h0 : x.length = 0
  · rw [if_pos (by simpa using h0), if_pos h0]
  · rw [if_neg (by simpa using h0), if_neg h0]
    by_cases h1 : x.length > 100
    · rw [if_pos (by simp; omega), if_pos h1]
    · rw [if_neg (by simp; omega), if_neg h1, jn_eq, f13_L0_eq x _ (by omega) x.length FUEL 0 (by omega) (fuel_lt (by omega))]
      cases scanF x x.length 0 <;> rfl
theorem f15_eq (x : List Flt) : f15 x = some (validF x) := by
  unfold f15 validF
  by_cases h0 : x.length = 0
  · rw [if_pos (by simpa using h0), if_pos h0]
  · rw [if_neg (by simpa using h0), if_neg h0]
    by_cases h1 : x.length > 100
    · rw [if_pos (by simp; omega), if_pos h1]
    · rw [if_neg (by simp; omega), if_neg h1, jn_eq, f15_L0_eq x _ (by omega) x.length FUEL 0 (by omega) (fuel_lt (by omega))]
      cases scanF x x.length 0 <;> rfl
end Go.Abs
namespace Go.Abs
open Go Go.Lib
/-- texts that the kernel can reckon -/
def itc (i : Nat) : List UInt8 := if i < 10 then [UInt8.ofNat (48 + i)] else [49, UInt8.ofNat (48 + i % 10)]
theorem textP_c (x : BitVec 16) : textP x = txtW ((memP x.toNat 16).map itc) := by
  unfold textP
  congr 1
  exact List.map_congr_left fun i hi => itw_eq i (memP_small hi)
theorem h83 (x : BitVec 16) : f83 x = some (txtW ((memP x.toNat 16).map itc)) := by rw [f83_eq, textP_c]
theorem h35 : f35 [(1#16, 2#16)] = some cs2 := by
  have h61 : f61 1#16 2#16 = some cs2 := by
    unfold f61
    rw [h83, h83]
    refine Eq.trans (b := some cs2) ?_ rfl
    kernel_rfl
  have hf : FUEL = (FUEL - 2) + 1 + 1 := by unfold FUEL; rfl
  unfold f35
  rw [jn_eq, hf, f35_L0.eq_2, if_pos (by rfl)]
  show (chk _ <| (f61 1#16 2#16).bind _) = _
  rw [h61]
  refine Eq.trans (b := some cs2) ?_ rfl
  kernel_rfl
theorem h27 : f27 [(BitVec.ofInt 16 3, BitVec.ofInt 16 0)] [(BitVec.ofInt 16 1, BitVec.ofInt 16 6)] = some (0, [(1#16, 2#16)]) := by kernel_rfl
theorem h20 : f20 3 1 1 = some ([(1#16, 2#16), (1#16, 4#16), (2#16, 1#16), (2#16, 4#16), (4#16, 1#16), (4#16, 2#16)], 0) := by kernel_rfl
theorem f12_true : f12 = some true := by
  unfold f12
  rw [h20, some_bind, h27, some_bind]
  dsimp only
  rw [h35]
  refine Eq.trans (b := some true) ?_ rfl
  kernel_rfl
end Go.Abs
namespace Go.Abs
open Go Go.Lib
theorem ixB_cons (b : UInt8) (l : List UInt8) (c : UInt8) : ixB (b :: l) c = if b == c then 0 else if ixB l c == -1 then -1 else ixB l c + 1 := by
  rw [← ixB_eq, ← ixB_eq]; rfl
theorem brk_none : ∀ (s : List UInt8), brk s = none → ixB s 125 = -1
  | [], _ => rfl
  | b :: t, h => by
    rw [brk] at h
    by_cases e : b = 125
    · rw [if_pos e] at h; cases h
    · rw [if_neg e, Option.map_eq_none_iff] at h
      rw [ixB_cons, if_neg (by simpa using e), brk_none t h]
      rfl
theorem brk_some : ∀ (s t r : List UInt8), brk s = some (t, r) → ∃ n : Nat, ixB s 125 = (n : Int) ∧ n < s.length ∧ t = s.take (n + 1) ∧ r = s.drop (n + 1)
  | [], _, _, h => by cases h
  | b :: s, t, r, h => by
    rw [brk] at h
    by_cases e : b = 125
    · rw [if_pos e] at h
      cases h
      exact ⟨0, by rw [ixB_cons, if_pos (by simpa using e)]; rfl, by simp, by simp [e], by simp⟩
    · rw [if_neg e] at h
      obtain ⟨⟨t', r'⟩, h1, h2⟩ := Option.map_eq_some_iff.1 h
      cases h2
      obtain ⟨n, h3, h4, h5, h6⟩ := brk_some s t' r' h1
      refine ⟨n + 1, ?_, by simp; omega, by rw [h5]; rfl, by rw [h6]; rfl⟩
      rw [ixB_cons, if_neg (by simpa using e), h3, if_neg (by simp)]
      rfl
theorem okT_nil : okT [] = none := by
  cases h : okT [] with
  | none => rfl
  | some x =>
    have := (okT_some h).1
    unfold textP txtW at this
    cases this
/-! ### the program -/
theorem f149_eq (x p : List UInt8) (_hx : x.length ≤ 9223372036854775807) : f149 x p = some (p.isPrefixOf x) := by
  unfold f149
  rw [chk_pos (by
    intro h
    simp at h
    omega)]
  congr 1
  rw [Bool.eq_iff_iff, Bool.and_eq_true, decide_eq_true_eq, beq_iff_eq, List.isPrefixOf_iff_prefix, List.prefix_iff_eq_take]
  constructor
  · intro h; exact h.2.symm
  · intro h
    have := congrArg List.length h
    rw [List.length_take] at this
    exact ⟨by omega, h.symm⟩
theorem pre_len {x p : List UInt8} (h : p.isPrefixOf x = true) : p.length ≤ x.length := by
  rw [List.isPrefixOf_iff_prefix] at h
  exact h.length_le
theorem f95_eq (x p : List UInt8) (hx : x.length ≤ 1000000) : f95 x p = some (if p.isPrefixOf x = true then (x.drop p.length, true) else (x, false)) := by
  unfold f95 f121
  rw [f149_eq x p (by omega), some_bind]
  by_cases h : p.isPrefixOf x = true
  · have := pre_len h
    rw [if_neg (by rw [h]; simp), chk_pos (by omega), some_bind, if_pos h]
  · have h' : p.isPrefixOf x = false := Bool.eq_false_iff.2 h
    rw [if_pos (by rw [h']; rfl), some_bind, if_neg h]
theorem f98_eq (x : List UInt8) (hx : x.length ≤ 1000000) : f98 x [32] = some (if x.head? = some 32 then x.tail else x) := by
  unfold f98 f126
  rw [f149_eq x _ (by omega), some_bind]
  cases x with
  | nil => rfl
  | cons b x =>
    have e : ([32] : List UInt8).isPrefixOf (b :: x) = (32 == b) := by
      show ((32 == b) && ([] : List UInt8).isPrefixOf x) = _
      simp
    rw [e]
    by_cases h : b = 32
    · rw [if_pos (by simp [h]), chk_pos (by simp; omega), some_bind, if_pos (by simp [h])]
      rfl
    · rw [if_neg (by simp [Ne.symm h]), some_bind, if_neg (by simpa using h)]
theorem f70_eq (s w : List UInt8) (hs : s.length ≤ 1000000) (hw : w.length ≤ 100) : f70 s w = some (partW (w ++ [32]) s) := by
  have h125 : (125 : Int).toNat.toUInt8 = 125 := rfl
  unfold f70 partW
  rw [f95_eq s _ hs, some_bind, chk_pos (by simp; omega)]
  by_cases h : (w ++ [32]).isPrefixOf s = true
  · have hd : (s.drop (w ++ [32]).length).length ≤ 1000000 := by rw [List.length_drop]; omega
    rw [if_pos h, if_pos h, if_neg (by simp)]
    dsimp only
    generalize s.drop (w ++ [32]).length = q at hd ⊢
    unfold f96 ixbO
    rw [some_bind, h125]
    cases hb : brk q with
    | none =>
      rw [brk_none q hb, chk_pos (by omega), show ((-1 : Int) + 1).toNat = 0 from rfl, List.take_zero, f97_eq [] (by simp), okT_nil, some_bind, chk_pos (by omega)]
      rfl
    | some z =>
      obtain ⟨t, r⟩ := z
      obtain ⟨n, h1, h2, h3, h4⟩ := brk_some q t r hb
      have hlt : t.length ≤ q.length := by rw [h3, List.length_take]; omega
      have hlr : r.length + (n + 1) = q.length := by rw [h4, List.length_drop]; omega
      rw [h1, chk_pos (by omega), show ((n : Int) + 1).toNat = n + 1 from by omega, ← h3, ← h4, f97_eq t (by omega), some_bind, chk_pos (by omega)]
      dsimp only
      cases okT t with
      | none => rfl
      | some x =>
        dsimp only
        rw [if_neg (by simp), f98_eq r (by omega), some_bind, chk_pos (by omega)]
  · rw [if_neg h, if_neg h, if_pos (by rfl)]; rfl
theorem textF_len (a : Flt) : (textF a).length ≤ 120 := by
  have h1 := textP_len a.1
  have h2 := textP_len a.2
  have e1 : byzT.length = 4 := rfl
  have e2 : craT.length = 6 := rfl
  have e3 : noneT.length = 4 := rfl
  unfold textF
  split
  · split
    · omega
    · rw [List.length_append]; omega
  · split
    · rw [List.length_append]; omega
    · simp only [List.length_append, List.length_cons]; omega
theorem cs1_cra : cs1 = craT := rfl
theorem f61_eq (u v : BitVec 16) : f61 u v = some (textF (u, v)) := by
  have h1 := textP_len u
  have h2 := textP_len v
  have hz : (BitVec.ofInt 16 0) = 0#16 := rfl
  have e1 : byzT.length = 4 := rfl
  have e2 : craT.length = 6 := rfl
  unfold f61 textF
  rw [jn_eq, hz, cs1_cra]
  dsimp only
  by_cases hu : u = 0#16
  · rw [if_neg (by simp [hu]), if_pos hu, jn_eq]
    by_cases hv : v = 0#16
    · rw [if_neg (by simp [hv]), if_pos hv]
      rfl
    · rw [if_pos (by simpa using hv), if_neg hv, f83_eq, some_bind, chk_pos (by omega), chk_pos (by simp)]
      dsimp only
      rw [if_neg (by simp)]
      unfold f62 joinP
      rw [List.nil_append, join_one, if_pos (by rw [List.length_append]; simp; omega), some_bind]
  · rw [if_pos (by simpa using hu), if_neg hu, f83_eq, some_bind, chk_pos (by simp; omega)]
    rw [jn_eq]
    by_cases hv : v = 0#16
    · rw [if_neg (by simp [hv]), if_pos hv]
      dsimp only
      rw [if_neg (by simp)]
      unfold f62 joinP
      rw [join_one, if_pos (by simp; omega), some_bind]
      rfl
    · rw [if_pos (by simpa using hv), if_neg hv, f83_eq, some_bind, chk_pos (by omega), chk_pos (by simp)]
      dsimp only
      rw [if_neg (by simp)]
      unfold f62 joinP
      have ej : join ([([98, 121, 122, 32] : List UInt8) ++ textP u] ++ [craT ++ textP v]) [32] = byzT ++ textP u ++ 32 :: (craT ++ textP v) := by
        show join ((byzT ++ textP u) :: [craT ++ textP v]) [32] = _
        rw [join_two, join_one]
        simp
      have ej2 : join ([([98, 121, 122, 32] : List UInt8) ++ textP u] ++ [craT ++ textP v]) [32] = byzT ++ textP u ++ 32 :: (craT ++ textP v) := ej
      rw [ej2, if_pos (by simp only [List.length_append, List.length_cons, List.length_nil]; omega), some_bind]
theorem ftl_len : ∀ (m : List Flt), (joinTail sepT (m.map textF)).length ≤ 123 * m.length
  | [] => by simp [joinTail]
  | a :: m => by
    have h1 := textF_len a
    have h2 := ftl_len m
    have e3 : sepT.length = 3 := rfl
    rw [List.map_cons, joinTail_cons, List.length_append, List.length_append, List.length_cons]
    omega
theorem fmtF_len (m : List Flt) : (fmtF m).length ≤ 123 * m.length := by
  unfold fmtF
  cases m with
  | nil => simp [join_nil]
  | cons a m =>
    have h1 := textF_len a
    have h2 := ftl_len m
    rw [List.map_cons, join_cons, List.length_append, List.length_cons]
    omega
theorem f35_eq (m : List Flt) (hm : m.length ≤ 1000000) : f35 m = some (fmtF m) := by
  unfold f35
  rw [jn_eq]
  have h := fold_up (f35_L0 m (fun (l5 : List (List UInt8)) => (f62 l5 ([32, 124, 32] : List UInt8)).bind fun (r6 : List UInt8) => some r6)) m (default : Flt) (fun n l => l.length ≤ n) (fun out v => out ++ [textF v]) _ (fun k n l hn hi => by
    rw [f35_L0.eq_2, ifd_pos (by omega), chk_pos (by omega), f61_eq, some_bind, chk_pos (by omega), chk_pos (by omega)]) (fun n l hn hi => by simp; omega) (fun k l hi => by
    rw [f35_L0.eq_2, ifd_neg (by omega)]) m.length FUEL 0 [] (by omega) (fuel_lt (by omega)) (by simp)
  rw [List.drop_zero, map_fold8, List.nil_append] at h
  refine Eq.trans h ?_
  have hl := fmtF_len m
  unfold fmtF sepT at hl ⊢
  unfold f62 joinP
  rw [if_pos (by rw [List.length_map]; omega), some_bind]
def finV (m : List Flt) : Int × List Flt := if validF m ≠ 0 then (validF m, []) else (0, m)
theorem fin_eq (m : List Flt) : (if (validF m != 0) = true then some (validF m, []) else some ((0 : Int), m)) = some (finV m) := by
  unfold finV
  by_cases h : validF m = 0
  · rw [if_neg (by simp [h]), if_neg (by simp [h])]
  · rw [if_pos (by simpa using h), if_pos h]
theorem piece_len : ∀ (k : Nat) (s : List UInt8), (∀ w, w ∈ splitK sepT 0 k s → w.length ≤ s.length) ∧ (splitK sepT 0 k s).length ≤ k + 1
  | 0, s => ⟨by intro w hw; rw [splitK, List.mem_singleton] at hw; rw [hw]; exact Nat.le_refl _, by simp [splitK]⟩
  | k + 1, s => by
    rw [splitK]
    split
    · exact ⟨by intro w hw; rw [List.mem_singleton] at hw; rw [hw]; exact Nat.le_refl _, by simp⟩
    · have ih := piece_len k (s.drop ((index s sepT).toNat + sepT.length))
      refine ⟨fun w hw => ?_, by simp; exact ih.2⟩
      rcases List.mem_cons.1 hw with rfl | hw
      · rw [List.length_take]; omega
      · have := ih.1 w hw
        rw [List.length_drop] at this
        omega
theorem f40_eq (s : List UInt8) (hs : s.length ≤ 10000) : f40 s = some (match (if fmtF ((Lib.split s sepT).map parW) = s then some ((Lib.split s sepT).map parW) else none) with | none => (2, []) | some m => finV m) := by
  have hc := count_le s sepT
  obtain ⟨hp1, hp2⟩ := piece_len (count s sepT) s
  have hp3 : ∀ w, w ∈ Lib.split s sepT → w.length ≤ s.length := hp1
  have hp4 : (Lib.split s sepT).length ≤ count s sepT + 1 := hp2
  unfold f40
  rw [jn_eq]
  unfold f69 splitMO
  have e0 : Lib.split s [32, 124, 32] = Lib.split s sepT := rfl
  rw [e0, if_pos ⟨by omega, by simp⟩, some_bind]
  generalize Lib.split s sepT = ws at hp3 hp4 ⊢
  have h := fold_up (f40_L0 (fun (l7 : List (BitVec 16 × BitVec 16)) => (f35 l7).bind fun (r8 : List UInt8) => if (!(r8 == s)) = true then some ((2 : Int), []) else (f13 l7).bind fun (r9 : Int) => if (r9 != (0 : Int)) = true then some (r9, []) else some ((0 : Int), l7)) ws) ws [] (fun n l => l.length ≤ n) (fun out w => out ++ [parW w]) _ (fun k n l hn hi => by
    have hw := hp3 _ (getD_mem8 ws n [] hn)
    have h1 := f70_eq (ws.getD n []) [98, 121, 122] (by omega) (by simp)
    have hs2 : (partW byzT (ws.getD n [])).2.length ≤ 1000000 := by
      unfold partW
      split
      · split
        · dsimp only; omega
        · rename_i t r hb
          obtain ⟨q, _, _, _, h4⟩ := brk_some _ t r hb
          have : r.length ≤ (ws.getD n []).length := by rw [h4, List.length_drop, List.length_drop]; omega
          split
          · dsimp only; omega
          · dsimp only
            split
            · rw [List.length_tail]; omega
            · omega
      · dsimp only; omega
    have h2 := f70_eq (partW byzT (ws.getD n [])).2 cs4 hs2 (by decide)
    rw [f40_L0.eq_2, ifd_pos (by omega), chk_pos (by omega), chk_pos (by omega), h1, some_bind]
    have e1 : ([98, 121, 122] ++ [32] : List UInt8) = byzT := rfl
    have e2 : (cs4 ++ [32] : List UInt8) = craT := rfl
    rw [e1, h2, some_bind, e2, chk_pos (by omega), chk_pos (by omega)]
    rfl) (fun n l hn hi => by simp; omega) (fun k l hi => by
    rw [f40_L0.eq_2, ifd_neg (by omega)]) ws.length FUEL 0 [] (by omega) (fuel_lt (by omega)) (by simp)
  rw [List.drop_zero, map_fold8, List.nil_append] at h
  refine Eq.trans h ?_
  have hl : (ws.map parW).length ≤ 1000000 := by rw [List.length_map]; omega
  generalize ws.map parW = m at hl ⊢
  rw [f35_eq m hl, some_bind]
  by_cases e : fmtF m = s
  · rw [if_neg (by simp [e]), if_pos e, f13_eq, some_bind]
    exact fin_eq m
  · rw [if_pos (by simpa using e), if_neg e]
/-! ### the reference -/
theorem f87_eq (x : BitVec 16) : f87 x = some (textP x) := by
  have hj := join_len (memP x.toNat 16) fun i hi => memP_small hi
  have h2 := memP_len16 x.toNat
  have h3 : ∀ i, i ∈ memP x.toNat 16 → i < 16 := fun i hi => memP_small hi
  unfold f87 textP txtW
  have hm : f53 x = some ((memP x.toNat 16).map fun i : Nat => (i : Int)) := f53_eq x
  rw [hm, some_bind, jn_eq]
  generalize memP x.toNat 16 = L at *
  have hl : (L.map fun i : Nat => (i : Int)).length = L.length := List.length_map _
  have loop : ∀ (c k n : Nat), n + c = L.length → c < k → f87_L0 (L.map fun i : Nat => (i : Int)) (fun (s7 : List UInt8) => chk (s7.length + ([125] : List UInt8).length ≤ 9223372036854775807) <| some (s7 ++ ([125] : List UInt8))) k (123 :: join ((L.take n).map itw) [32], n) = some (123 :: (join (L.map itw) [32] ++ [125])) := by
    intro c
    induction c with
    | zero =>
      intro k n hn hk
      obtain ⟨k, rfl⟩ : ∃ q, k = q + 1 := ⟨k - 1, by omega⟩
      rw [f87_L0.eq_2, ifd_neg (by rw [hl]; omega), List.take_of_length_le (by omega), chk_pos (by simp; omega)]
      rfl
    | succ c ih =>
      intro k n hn hk
      obtain ⟨k, rfl⟩ : ∃ q, k = q + 1 := ⟨k - 1, by omega⟩
      have hi := h3 _ (getD_mem8 L n 0 (by omega))
      have hw := itw_len hi
      have hjt := join_len (L.take n) fun i hi => h3 i (List.mem_of_mem_take hi)
      rw [List.length_take] at hjt
      have ht : L.take (n + 1) = L.take n ++ [L.getD n 0] := by
        rw [List.take_add_one]
        simp [List.getD_eq_getElem?_getD, show n < L.length by omega]
      have hsn : join ((L.take (n + 1)).map itw) [32] = if n = 0 then itw (L.getD n 0) else join ((L.take n).map itw) [32] ++ [32] ++ itw (L.getD n 0) := by
        rw [ht, List.map_append, List.map_singleton, join_snoc]
        by_cases h0 : n = 0
        · rw [if_pos h0, h0, List.take_zero, List.map_nil, if_pos rfl]
        · rw [if_neg h0, if_neg]
          intro e
          rw [List.map_eq_nil_iff, List.take_eq_nil_iff] at e
          rcases e with e | e
          · exact h0 e
          · rw [e] at hn; simp at hn
      have hit : f102 (((L.getD n 0 : Nat)) : Int) = some (itw (L.getD n 0)) := by
        unfold f102 itoaO
        rw [if_pos (by omega)]
        rfl
      rw [f87_L0.eq_2, ifd_pos (by rw [hl]; omega), jn_eq]
      by_cases h0 : n = 0
      · rw [ifd_neg (by omega)]
        dsimp only
        rw [mp_get8 L n (by omega), hit, some_bind, chk_pos (by rw [hl]; omega), chk_pos (by rw [hl]; omega), chk_pos (by simp only [List.length_cons]; omega), chk_pos (by omega), ← ih k (n + 1) (by omega) (by omega), hsn, if_pos h0, h0, List.take_zero]
        rfl
      · rw [ifd_pos (by omega), chk_pos (by simp only [List.length_cons, List.length_nil]; omega)]
        dsimp only
        rw [mp_get8 L n (by omega), hit, some_bind, chk_pos (by rw [hl]; omega), chk_pos (by rw [hl]; omega), chk_pos (by simp only [List.length_append, List.length_cons, List.length_nil]; omega), chk_pos (by omega), ← ih k (n + 1) (by omega) (by omega), hsn, if_neg h0]
        simp
  exact loop L.length FUEL 0 (by omega) (fuel_lt (by omega))
theorem cs3_cra : cs3 = 32 :: craT := rfl
theorem f63_eq (u v : BitVec 16) : f63 u v = some (textF (u, v)) := by
  have h1 := textP_len u
  have h2 := textP_len v
  have hz : (BitVec.ofInt 16 0) = 0#16 := rfl
  have e2 : craT.length = 6 := rfl
  unfold f63 textF f23
  rw [some_bind, hz, cs1_cra, cs3_cra]
  dsimp only
  have hor : (u ||| v = 0#16) ↔ (u = 0#16 ∧ v = 0#16) := by
    constructor
    · intro h
      constructor
      · have := congrArg (fun z => z &&& u) h
        apply BitVec.eq_of_getLsbD_eq
        intro i hi
        have h3 := congrArg (fun z => z.getLsbD i) h
        simp only [BitVec.getLsbD_or] at h3
        revert h3
        cases u.getLsbD i <;> simp
      · apply BitVec.eq_of_getLsbD_eq
        intro i hi
        have h3 := congrArg (fun z => z.getLsbD i) h
        simp only [BitVec.getLsbD_or] at h3
        revert h3
        cases v.getLsbD i <;> simp
    · rintro ⟨rfl, rfl⟩; rfl
  by_cases hu : u = 0#16
  · by_cases hv : v = 0#16
    · rw [if_pos (by rw [beq_iff_eq, hor]; exact ⟨hu, hv⟩), if_pos hu, if_pos hv]
      rfl
    · rw [if_neg (by rw [beq_iff_eq, hor]; exact fun h => hv h.2), if_neg (by simpa using hv), if_pos (by simpa using hu), if_pos hu, if_neg hv, f87_eq, some_bind, chk_pos (by omega)]
  · by_cases hv : v = 0#16
    · rw [if_neg (by rw [beq_iff_eq, hor]; exact fun h => hu h.1), if_pos (by simpa using hv), if_neg hu, if_pos hv, f87_eq, some_bind, chk_pos (by simp; omega)]
      rfl
    · rw [if_neg (by rw [beq_iff_eq, hor]; exact fun h => hu h.1), if_neg (by simpa using hv), if_neg (by simpa using hu), if_neg hu, if_neg hv, f87_eq, some_bind, f87_eq, some_bind, chk_pos (by simp; omega), chk_pos (by simp only [List.length_append, List.length_cons, List.length_nil]; omega), chk_pos (by simp only [List.length_append, List.length_cons, List.length_nil]; omega)]
      simp [byzT]
theorem spS_s {b : UInt8} {t : List UInt8} (h : 3 ≤ (b :: t).length) (k : Nat) (cur : List UInt8) : spS (b :: t) (k + 1) cur = spS t k cur := by
  conv => lhs; unfold spS
  rw [if_neg (by omega)]
theorem spS_z {b : UInt8} {t : List UInt8} (h : 3 ≤ (b :: t).length) (cur : List UInt8) : spS (b :: t) 0 cur = if (b :: t).take 3 = sepT then cur :: spS t 2 [] else spS t 0 (cur ++ [b]) := by
  conv => lhs; unfold spS
  rw [if_neg (by omega)]
theorem f71_L0_eq (x : List UInt8) (hx : x.length ≤ 1000000) : ∀ (c k n2 n3 : Nat) (l : List (List UInt8)), n3 + c = x.length → n2 ≤ x.length → c < k → l.length ≤ n3 + 2 →
    f71_L0 x (fun ((n7, l8) : Nat × List (List UInt8)) => chk ((n7 : Int) ≤ ((x.length : Nat) : Int)) <| chk (((l8).length + 1) * 16 ≤ 140737488355328) <| some (l8 ++ [(x.drop n7)])) k (n2, n3, l) = some (l ++ spS (x.drop n3) (n2 - n3) ((x.take n3).drop n2))
  | c, k, n2, n3, l, hn, h2, hk, hl => by
    obtain ⟨k, rfl⟩ : ∃ q, k = q + 1 := ⟨k - 1, by omega⟩
    have hsp : (x.take n3).drop n2 ++ (x.drop n3).drop (n2 - n3) = x.drop n2 := by
      rcases Nat.le_total n2 n3 with h | h
      · rw [Nat.sub_eq_zero_of_le h, List.drop_zero]
        conv => rhs; rw [← List.take_append_drop n3 x]
        rw [List.drop_append_of_le_length (by rw [List.length_take]; omega)]
      · rw [List.drop_eq_nil_of_le (by rw [List.length_take]; omega), List.nil_append, List.drop_drop, show n3 + (n2 - n3) = n2 from by omega]
    rw [f71_L0.eq_2, chk_pos (by omega)]
    by_cases h3 : n3 + 3 ≤ x.length
    · rw [ifd_pos (by omega), jn_eq, chk_pos (by intro; omega), chk_pos (by intro; omega)]
      obtain ⟨c, rfl⟩ : ∃ q, c = q + 1 := ⟨c - 1, by omega⟩
      have ih := f71_L0_eq x hx c k
      have hd := getD_drop x n3 0 (by omega)
      have hlen : (x.getD n3 0 :: x.drop (n3 + 1)).length = x.length - n3 := by rw [← hd, List.length_drop]
      have h33 : (x.take (n3 + 3)).drop n3 = (x.drop n3).take 3 := by
        rw [List.drop_take, show n3 + 3 - n3 = 3 from by omega]
      have ht1 : x.take (n3 + 1) = x.take n3 ++ [x.getD n3 0] := by
        rw [List.take_add_one]
        simp [List.getD_eq_getElem?_getD, show n3 < x.length by omega]
      have hlen3 : 3 ≤ (x.getD n3 0 :: x.drop (n3 + 1)).length := by rw [hlen]; omega
      rw [h33, hd]
      rcases Nat.lt_or_ge n3 n2 with hlt | hge
      · obtain ⟨j, hj⟩ : ∃ j, n2 - n3 = j + 1 := ⟨n2 - n3 - 1, by omega⟩
        rw [hj, spS_s hlen3, if_neg (by simp; omega)]
        dsimp only
        rw [chk_pos (by omega), ih n2 (n3 + 1) l (by omega) h2 (by omega) (by omega), show n2 - (n3 + 1) = j from by omega, List.drop_eq_nil_of_le (show (x.take (n3 + 1)).length ≤ n2 by rw [List.length_take]; omega), List.drop_eq_nil_of_le (show (x.take n3).length ≤ n2 by rw [List.length_take]; omega)]
      · rw [Nat.sub_eq_zero_of_le hge, spS_z hlen3]
        by_cases hm : (x.getD n3 0 :: x.drop (n3 + 1)).take 3 = sepT
        · rw [if_pos (by
            rw [Bool.and_eq_true, decide_eq_true_eq, beq_iff_eq]
            exact ⟨by omega, hm⟩), if_pos hm, chk_pos (by omega), chk_pos (by omega), chk_pos (by omega)]
          dsimp only
          rw [chk_pos (by omega), ih (n3 + 3) (n3 + 1) _ (by omega) (by omega) (by omega) (by simp; omega), show n3 + 3 - (n3 + 1) = 2 from by omega, List.drop_eq_nil_of_le (show (x.take (n3 + 1)).length ≤ n3 + 3 by rw [List.length_take]; omega)]
          simp
        · rw [if_neg (by
            rw [Bool.and_eq_true, decide_eq_true_eq, beq_iff_eq]
            exact fun h => hm h.2), if_neg hm]
          dsimp only
          rw [chk_pos (by omega), ih n2 (n3 + 1) l (by omega) h2 (by omega) (by omega), Nat.sub_eq_zero_of_le (by omega), ht1, List.drop_append_of_le_length (by rw [List.length_take]; omega)]
    · rw [ifd_neg (by omega)]
      dsimp only
      rw [chk_pos (by omega), chk_pos (by omega)]
      have : spS (x.drop n3) (n2 - n3) ((x.take n3).drop n2) = [x.drop n2] := by
        cases hq : x.drop n3 with
        | nil => rw [hq] at hsp; unfold spS; rw [hsp]
        | cons b t =>
          have : (b :: t).length ≤ 2 := by rw [← hq, List.length_drop]; omega
          rw [hq] at hsp
          unfold spS
          rw [if_pos (by omega), hsp]
      rw [this]
theorem f71_eq (x : List UInt8) (hx : x.length ≤ 1000000) : f71 x = some (spS x 0 []) := by
  unfold f71
  rw [jn_eq, f71_L0_eq x hx x.length FUEL 0 0 [] (by omega) (by omega) (fuel_lt (by omega)) (by simp)]
  simp
theorem textP_len40 {x : BitVec 16} (h : x.toNat < 4096) : (textP x).length ≤ 40 := by
  have h1 := join_len (memP x.toNat 16) fun i hi => memP_small hi
  have h2 : (memP x.toNat 16).length ≤ 12 := by
    have e : memP x.toNat 16 = memP x.toNat 12 := by
      have hb : ∀ j, 12 ≤ j → ¬ x.toNat / 2 ^ j % 2 = 1 := fun j hj => by
        have : 2 ^ 12 ≤ 2 ^ j := Nat.pow_le_pow_right (by decide) hj
        rw [Nat.div_eq_of_lt (by omega)]; decide
      rw [memP_succ, if_neg (hb 15 (by omega)), memP_succ, if_neg (hb 14 (by omega)), memP_succ, if_neg (hb 13 (by omega)), memP_succ, if_neg (hb 12 (by omega))]
      simp
    rw [e]
    have := List.length_filter_le (fun i => decide (x.toNat / 2 ^ i % 2 = 1)) (List.range 12)
    rw [List.length_range] at this
    exact this
  unfold textP txtW
  simp
  omega
theorem f127_L0_eq (t : List UInt8) (ht : t.length ≤ 1000000) (K : Unit → Option (BitVec 16 × Int)) : ∀ (c k n : Nat), n + c = 4096 → c < k →
    f127_L0 t K k n = match okT t with | some x => if n ≤ x.toNat then some (x, 0) else K () | none => K ()
  | 0, k, n, hn, hk => by
    obtain ⟨k, rfl⟩ : ∃ q, k = q + 1 := ⟨k - 1, by omega⟩
    rw [f127_L0_e2, ifd_neg (by omega)]
    cases ho : okT t with
    | none => rfl
    | some x =>
      have := (okT_some ho).2
      dsimp only
      rw [if_neg (by omega)]
  | c + 1, k, n, hn, hk => by
    obtain ⟨k, rfl⟩ : ∃ q, k = q + 1 := ⟨k - 1, by omega⟩
    have ih := f127_L0_eq t ht K c k (n + 1) (by omega) (by omega)
    have hb : (BitVec.ofInt 16 (n : Int)) = BitVec.ofNat 16 n := BitVec.ofInt_natCast ..
    have hbt : (BitVec.ofNat 16 n).toNat = n := ofNat_toNat16 (by omega)
    rw [f127_L0_e2, ifd_pos (by omega), hb]
    by_cases h40 : t.length ≤ 40
    · have h40' : ((decide (((t.length : Nat) : Int) ≤ (40 : Int))) == true) = true := by simp; omega
      rw [h40', optc_t, f87_eq, some_bind, chk_pos (by intro; trivial)]
      by_cases he : textP (BitVec.ofNat 16 n) = t
      · rw [if_pos (by rw [Bool.and_eq_true, decide_eq_true_eq, beq_iff_eq]; exact ⟨by omega, he⟩)]
        have ho := okT_text (BitVec.ofNat 16 n)
        rw [he, if_pos (by omega)] at ho
        rw [ho]
        dsimp only
        rw [if_pos (by omega)]
      · rw [if_neg (by rw [Bool.and_eq_true, decide_eq_true_eq, beq_iff_eq]; exact fun h => he h.2), chk_pos (by omega), ih]
        cases ho : okT t with
        | none => rfl
        | some x =>
          dsimp only
          have hx : x.toNat ≠ n := by
            rintro rfl
            apply he
            have : BitVec.ofNat 16 x.toNat = x := by simp
            rw [this]
            exact (okT_some ho).1
          by_cases hle : n ≤ x.toNat
          · rw [if_pos (by omega), if_pos hle]
          · rw [if_neg (by omega), if_neg hle]
    · have h40' : ((decide (((t.length : Nat) : Int) ≤ (40 : Int))) == true) = false := by simp; omega
      rw [h40', optc_f, chk_pos (by intro h; cases h), if_neg (by rw [Bool.and_eq_true, decide_eq_true_eq]; intro h; omega), chk_pos (by omega), ih]
      cases ho : okT t with
      | none => rfl
      | some x =>
        exfalso
        obtain ⟨h1, h2⟩ := okT_some ho
        have := textP_len40 h2
        rw [h1] at this
        omega
theorem f127_eq (t : List UInt8) (ht : t.length ≤ 1000000) : f127 t = some (match okT t with | some x => (x, 0) | none => (0#16, 2)) := by
  unfold f127
  rw [jn_eq, f127_L0_eq t ht _ 4096 FUEL 0 (by omega) (by unfold FUEL; omega)]
  cases okT t with
  | none => rfl
  | some x =>
    dsimp only
    rw [if_pos (Nat.zero_le _)]
theorem f99_L0_eq (x : List UInt8) (hx : x.length ≤ 1000000) (K : List (BitVec 16) → Option (List (BitVec 16))) : ∀ (c k n : Nat) (i : Int) (o : Option (List UInt8)) (l : List (BitVec 16)), n + c = x.length → c < k → l.length ≤ n →
    ((i = -1 ∧ o = none) ∨ ∃ p : Nat, p ≤ n ∧ i = (p : Int) ∧ o = some ((x.take n).drop p)) → f99_L0 x K k (i, n, l) = K (brS (x.drop n) o l)
  | 0, k, n, i, o, l, hn, hk, hl, hi => by
    obtain ⟨k, rfl⟩ : ∃ q, k = q + 1 := ⟨k - 1, by omega⟩
    rw [f99_L0.eq_2, ifd_neg (by omega), List.drop_eq_nil_of_le (by omega)]
    rfl
  | c + 1, k, n, i, o, l, hn, hk, hl, hi => by
    obtain ⟨k, rfl⟩ : ∃ q, k = q + 1 := ⟨k - 1, by omega⟩
    have ih := f99_L0_eq x hx K c k (n + 1)
    have ht1 : x.take (n + 1) = x.take n ++ [x.getD n 0] := by
      rw [List.take_add_one]
      simp [List.getD_eq_getElem?_getD, show n < x.length by omega]
    rw [f99_L0.eq_2, ifd_pos (by omega), jn_eq, getD_drop x n 0 (by omega), brS]
    have hb3 : ((((x.getD n 0).toNat : Nat) : Int) == 123) = decide (x.getD n 0 = 123) := by
      rw [Bool.eq_iff_iff, beq_iff_eq, decide_eq_true_eq]
      constructor
      · intro h
        exact UInt8.toNat_inj.1 (show (x.getD n 0).toNat = (123 : UInt8).toNat from by
          have : (123 : UInt8).toNat = 123 := rfl
          omega)
      · intro h; rw [h]; rfl
    have hb5 : ((((x.getD n 0).toNat : Nat) : Int) == 125) = decide (x.getD n 0 = 125) := by
      rw [Bool.eq_iff_iff, beq_iff_eq, decide_eq_true_eq]
      constructor
      · intro h
        exact UInt8.toNat_inj.1 (show (x.getD n 0).toNat = (125 : UInt8).toNat from by
          have : (125 : UInt8).toNat = 125 := rfl
          omega)
      · intro h; rw [h]; rfl
    rw [hb3, hb5]
    have step : ∀ (i5 : Int) (o5 : Option (List UInt8)), ((i5 = -1 ∧ o5 = none) ∨ ∃ p : Nat, p ≤ n ∧ i5 = (p : Int) ∧ o5 = some ((x.take n).drop p)) →
        (chk ((n : Int) < ((x.length : Nat) : Int)) <|
          if ((decide (x.getD n 0 = 125)) && (decide (i5 ≥ (0 : Int)))) = true then (
          (f127 ((x.take (n + 1)).drop ((i5).toNat))).bind fun (r6 : BitVec 16 × Int) =>
          chk (((n : Int) + (1 : Int)) ≤ 9223372036854775807) <|
          chk (0 ≤ i5 ∧ i5 ≤ (((n + 1) : Nat) : Int) ∧ (((n + 1) : Nat) : Int) ≤ ((x.length : Nat) : Int)) <|
          jn (fun (l7 : List (BitVec 16)) =>
          chk (((n : Int) + (1 : Int)) ≤ 9223372036854775807) <| (f99_L0 x K k) ((-1 : Int), (n + 1), l7)
          ) fun (K4 : (List (BitVec 16)) → Option (List (BitVec 16))) =>
          if (r6.2 == (0 : Int)) = true then (
          chk (((l).length + 1) * 2 ≤ 140737488355328) <|
          K4 (l ++ [r6.1])
          ) else (
          K4 l
          )
          ) else (
          chk (((n : Int) + (1 : Int)) ≤ 9223372036854775807) <| (f99_L0 x K k) (i5, (n + 1), l)
          )) = K (match o5 with | none => brS (x.drop (n + 1)) none l | some w => if x.getD n 0 = 125 then brS (x.drop (n + 1)) none (l ++ (okT (w ++ [x.getD n 0])).toList) else brS (x.drop (n + 1)) (some (w ++ [x.getD n 0])) l) := by
      intro i5 o5 h5
      rw [chk_pos (by omega)]
      rcases h5 with ⟨rfl, rfl⟩ | ⟨p, hp, rfl, rfl⟩
      · rw [if_neg (by simp), chk_pos (by omega), ih (-1) none l (by omega) (by omega) (by omega) (.inl ⟨rfl, rfl⟩)]
      · have hpc : (x.take (n + 1)).drop p = (x.take n).drop p ++ [x.getD n 0] := by
          rw [ht1, List.drop_append_of_le_length (by rw [List.length_take]; omega)]
        dsimp only
        by_cases h125 : x.getD n 0 = 125
        · rw [if_pos (by rw [decide_eq_true h125]; simp), if_pos h125, Int.toNat_natCast, hpc]
          have hlen : ((x.take n).drop p ++ [x.getD n 0]).length ≤ 1000000 := by
            rw [List.length_append, List.length_drop, List.length_take]; simp; omega
          rw [f127_eq _ hlen, some_bind, chk_pos (by omega), chk_pos (by omega), jn_eq]
          cases okT ((x.take n).drop p ++ [x.getD n 0]) with
          | none =>
            dsimp only
            rw [if_neg (by simp), chk_pos (by omega), ih (-1) none l (by omega) (by omega) (by omega) (.inl ⟨rfl, rfl⟩)]
            simp
          | some y =>
            dsimp only
            rw [if_pos (by rfl), chk_pos (by omega), chk_pos (by omega), ih (-1) none _ (by omega) (by omega) (by simp; omega) (.inl ⟨rfl, rfl⟩)]
            rfl
        · rw [if_neg (by rw [decide_eq_false h125]; simp), if_neg h125, chk_pos (by omega), ih (p : Int) (some ((x.take n).drop p ++ [x.getD n 0])) l (by omega) (by omega) (by omega) (.inr ⟨p, by omega, rfl, by rw [hpc]⟩)]
    rw [jn_eq, chk_pos (by omega)]
    by_cases h123 : x.getD n 0 = 123
    · rw [ifd_pos h123, if_pos h123]
      refine (step (n : Int) (some []) (.inr ⟨n, Nat.le_refl _, rfl, by rw [List.drop_eq_nil_of_le (by rw [List.length_take]; omega)]⟩)).trans ?_
      rfl
    · rw [ifd_neg h123, if_neg h123]
      exact step i o hi
theorem f99_eq (x : List UInt8) (hx : x.length ≤ 1000000) : f99 x = some (brS x none []) := by
  unfold f99
  rw [jn_eq, f99_L0_eq x hx _ x.length FUEL 0 (-1) none [] (by omega) (fuel_lt (by omega)) (by simp) (.inl ⟨rfl, rfl⟩), List.drop_zero]
theorem f72_L0_eq (s : List UInt8) (l : List Flt) (hl : l.length ≤ 1000) (K : Unit → Option (BitVec 16 × BitVec 16 × Bool)) : ∀ (c k n : Nat), n + c = l.length → c < k → f72_L0 s l K k n = match (l.drop n).find? (fun a => textF a == s) with | some a => some (a.1, a.2, true) | none => K ()
  | 0, k, n, hn, hk => by
    obtain ⟨k, rfl⟩ : ∃ q, k = q + 1 := ⟨k - 1, by omega⟩
    rw [f72_L0.eq_2, ifd_neg (by omega), List.drop_eq_nil_of_le (by omega)]
    rfl
  | c + 1, k, n, hn, hk => by
    obtain ⟨k, rfl⟩ : ∃ q, k = q + 1 := ⟨k - 1, by omega⟩
    rw [f72_L0.eq_2, ifd_pos (by omega), f63_eq, some_bind, chk_pos (by omega), chk_pos (by omega), getD_drop l n (default : Flt) (by omega), List.find?_cons]
    show (if (textF (l.getD n default) == s) = true then _ else _) = _
    cases h : textF (l.getD n default) == s with
    | true => rw [if_pos rfl, chk_pos (by omega), chk_pos (by omega)]
    | false => rw [if_neg (by simp), chk_pos (by omega), f72_L0_eq s l hl K c k (n + 1) (by omega) (by omega)]
theorem f72_eq (s : List UInt8) (hs : s.length ≤ 1000000) : f72 s = some (match readF s with | some a => (a.1, a.2, true) | none => (0#16, 0#16, false)) := by
  have hz : (BitVec.ofInt 16 0) = 0#16 := rfl
  unfold f72 readF
  rw [f99_eq s hs, some_bind, hz]
  generalize brS s none [] = r
  have fin : ∀ l : List Flt, l.length ≤ 1000 → (jn (fun (_ : Unit) => some (0#16, 0#16, false)) fun (K3 : Unit → Option (BitVec 16 × BitVec 16 × Bool)) => f72_L0 s l K3 FUEL 0) = some (match l.find? (fun a => textF a == s) with | some a => (a.1, a.2, true) | none => (0#16, 0#16, false)) := by
    intro l hl
    rw [jn_eq, f72_L0_eq s l hl _ l.length FUEL 0 (by omega) (fuel_lt (by omega)), List.drop_zero]
    cases l.find? (fun a => textF a == s) <;> rfl
  rw [jn_eq]
  unfold canF
  by_cases h1 : r.length = 1
  · rw [if_pos (by simp [h1]), chk_pos (by omega), chk_pos (by omega), chk_pos (by omega), chk_pos (by omega)]
    dsimp only
    rw [jn_eq, if_neg (by simp [h1]), if_neg (by omega), if_pos h1]
    exact fin _ (by simp)
  · rw [if_neg (by simp; omega)]
    dsimp only
    rw [jn_eq]
    by_cases h2 : r.length = 2
    · rw [if_pos (by simp [h2]), chk_pos (by omega), chk_pos (by omega), chk_pos (by omega), chk_pos (by omega), if_pos h2]
      exact fin _ (by simp)
    · rw [if_neg (by simp; omega), if_neg h2, if_neg h1]
      exact fin _ (by simp)
theorem spS_len : ∀ (s : List UInt8) (k : Nat) (cur : List UInt8), (∀ w, w ∈ spS s k cur → w.length ≤ cur.length + s.length) ∧ (spS s k cur).length ≤ s.length + 1
  | [], k, cur => ⟨by intro w hw; unfold spS at hw; rw [List.mem_singleton] at hw; subst hw; simp, by simp [spS]⟩
  | b :: t, k, cur => by
    unfold spS
    split
    · refine ⟨fun w hw => ?_, by simp⟩
      rw [List.mem_singleton] at hw
      subst hw
      rw [List.length_append, List.length_drop]; omega
    · split
      · rename_i k
        have ih := spS_len t k cur
        exact ⟨fun w hw => by have := ih.1 w hw; simp; omega, by have := ih.2; simp; omega⟩
      · split
        · have ih := spS_len t 2 []
          refine ⟨fun w hw => ?_, by have := ih.2; simp; omega⟩
          rcases List.mem_cons.1 hw with rfl | hw
          · omega
          · have := ih.1 w hw; simp at this ⊢; omega
        · have ih := spS_len t 0 (cur ++ [b])
          exact ⟨fun w hw => by have := ih.1 w hw; simp at this ⊢; omega, by have := ih.2; simp; omega⟩
theorem f41_L0_eq (ws : List (List UInt8)) (hw : ∀ w, w ∈ ws → w.length ≤ 1000000) (hl : ws.length ≤ 1000000) (K : List Flt → Option (Int × List Flt)) : ∀ (c k n : Nat) (l : List Flt), n + c = ws.length → c < k → l.length ≤ n →
    f41_L0 ws K k (n, l) = match (ws.drop n).mapM readF with | none => some (2, []) | some m => K (l ++ m)
  | 0, k, n, l, hn, hk, h => by
    obtain ⟨k, rfl⟩ : ∃ q, k = q + 1 := ⟨k - 1, by omega⟩
    rw [f41_L0.eq_2, ifd_neg (by omega), List.drop_eq_nil_of_le (by omega), List.mapM_nil]
    show K l = K (l ++ [])
    rw [List.append_nil]
  | c + 1, k, n, l, hn, hk, h => by
    obtain ⟨k, rfl⟩ : ∃ q, k = q + 1 := ⟨k - 1, by omega⟩
    rw [f41_L0.eq_2, ifd_pos (by omega), f72_eq _ (hw _ (getD_mem8 ws n [] (by omega))), some_bind, chk_pos (by omega), chk_pos (by omega), getD_drop ws n [] (by omega), List.mapM_cons]
    cases hr : readF (ws.getD n []) with
    | none =>
      dsimp only
      rw [if_pos (by rfl)]
      rfl
    | some a =>
      dsimp only
      rw [if_neg (by simp), chk_pos (by omega), chk_pos (by omega), f41_L0_eq ws hw hl K c k (n + 1) _ (by omega) (by omega) (by simp; omega)]
      cases hm : (ws.drop (n + 1)).mapM readF with
      | none => rfl
      | some m =>
        show K (l ++ [(a.1, a.2)] ++ m) = K (l ++ a :: m)
        rw [List.append_assoc]; rfl
theorem f41_eq (s : List UInt8) (hs : s.length ≤ 1000) : f41 s = some (match (spS s 0 []).mapM readF with | none => (2, []) | some m => finV m) := by
  obtain ⟨h1, h2⟩ := spS_len s 0 []
  unfold f41
  rw [f71_eq s (by omega), some_bind, jn_eq, f41_L0_eq _ (fun w hw => by have := h1 w hw; simp at this; omega) (by omega) _ _ FUEL 0 [] (Nat.zero_add _) (fuel_lt (by omega)) (by simp), List.drop_zero]
  cases (spS s 0 []).mapM readF with
  | none => rfl
  | some m =>
    dsimp only
    rw [List.nil_append, f15_eq, some_bind]
    exact fin_eq m
theorem f22_reflp (l : List Flt) (hl : l.length ≤ 1000000) : f22 l l = some true := by
  unfold f22
  rw [if_neg (by simp), jn_eq]
  have : ∀ (m k n : Nat), n + m = l.length → m < k → f22_L0 l l (fun _ => some true) k n = some true := by
    intro m
    induction m with
    | zero =>
      intro k n hn hk
      obtain ⟨k, rfl⟩ : ∃ z, k = z + 1 := ⟨k - 1, by omega⟩
      rw [f22_L0.eq_2, ifd_neg (by omega)]
    | succ m ih =>
      intro k n hn hk
      obtain ⟨k, rfl⟩ : ∃ z, k = z + 1 := ⟨k - 1, by omega⟩
      rw [f22_L0.eq_2, ifd_pos (by omega), chk_pos (by omega), chk_pos (by omega), if_neg (by simp), chk_pos (by omega)]
      exact ih k (n + 1) (by omega) (by omega)
  exact this l.length FUEL 0 (by omega) (fuel_lt (by omega))
theorem finV_len {s : List UInt8} (hs : s.length ≤ 1000) : (match (if fmtF ((Lib.split s sepT).map parW) = s then some ((Lib.split s sepT).map parW) else none) with | none => ((2 : Int), []) | some m => finV m).2.length ≤ 1000000 := by
  have hc := count_le s sepT
  have hp2 : (Lib.split s sepT).length ≤ count s sepT + 1 := (piece_len (count s sepT) s).2
  split
  · simp
  · rename_i m hm
    have : m.length ≤ 1000000 := by
      split at hm
      · cases hm; rw [List.length_map]; omega
      · cases hm
    unfold finV
    split
    · simp
    · exact this
theorem f11_true (s : List UInt8) {p : Prop} (_ : p) : f11 s = some true := by
  unfold f11
  rw [f12_true, some_bind]
  by_cases hs : s.length ≤ 200
  · have hl := finV_len (s := s) (by omega)
    rw [if_neg (by simp; omega), f40_eq s (by omega), some_bind, f41_eq s (by omega), some_bind, ← parse_both s]
    generalize (match (if fmtF ((Lib.split s sepT).map parW) = s then some ((Lib.split s sepT).map parW) else none) with | none => ((2 : Int), []) | some m => finV m) = A at hl ⊢
    have e1 : ((A.1 == A.1) == true) = true := by simp
    rw [e1, optc_t, f22_reflp A.2 hl, some_bind]
    simp
  · rw [if_pos (by simp; omega)]
    rfl
end Go.Abs
