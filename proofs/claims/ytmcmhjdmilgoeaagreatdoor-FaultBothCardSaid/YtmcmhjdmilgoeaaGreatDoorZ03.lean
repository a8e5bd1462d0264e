/- Part 3 of the proof: Fam, Fam2, FamF, PlC19, AbsD0, AbsD1, Srt1, SrtK, Lay19, Cmp19. -/
import Derived.Test.YtmcmhjdmilgoeaaGreatDoorZ02
import Derived.Calls
import Derived.RunT
import Derived.Lone
import Derived.Sort.Grow
import Derived.Deep.Draws
import Derived.Shelf.GgSortFunc.Insertion
import Derived.Shelf.GgSortFunc.InsertionK
import Derived.Shelf.Strings.OnBuilder
import Derived.Shelf.SlSortCmp.NoneTotal
import Derived.Test.YtmcmhjdmilgoeaaGreatDoorProg
namespace Go.Abs
/-- y is a part of x -/
def sub (y x : BitVec 16) : Bool := (y &&& ~~~x) == 0#16
theorem sub_iff {x y : BitVec 16} : sub y x = true ↔ ∀ i, i < 16 → y.getLsbD i = true → x.getLsbD i = true := by
  unfold sub
  rw [beq_iff_eq]
  constructor
  · intro h i hi hy
    have h1 := congrArg (fun z => z.getLsbD i) h
    rw [BitVec.getLsbD_eq_getElem hi] at hy ⊢
    simp [hi] at h1
    exact h1 hy
  · intro h
    apply BitVec.eq_of_getLsbD_eq
    intro i hi
    have := h i hi
    simp only [BitVec.getLsbD_eq_getElem hi] at this
    simp [hi]
    exact this
theorem sub_refl (x : BitVec 16) : sub x x = true := sub_iff.2 fun _ _ h => h
theorem key_lt (x : BitVec 16) : key x < 2000000 := by
  have := bsum_le x.toNat 16 0
  have := x.isLt
  unfold key sz; omega
theorem key_inj' {x y : BitVec 16} (h : key x = key y) : x = y := by
  have h1 := x.isLt
  have h2 := y.isLt
  unfold key at h
  exact BitVec.eq_of_toNat_eq (by omega)

/-- neighbours that are equal, once -/
def ddS {α : Type} [DecidableEq α] (acc : List α) (a : α) : List α := if acc.getLast? = some a then acc else acc ++ [a]
def dd {α : Type} [DecidableEq α] (l : List α) : List α := l.foldl ddS []
section
variable {α : Type} [DecidableEq α]
theorem ddS_last (acc : List α) (a : α) : (ddS acc a).getLast? = some a := by
  unfold ddS; split
  · assumption
  · simp
theorem dd_snoc (l : List α) (a : α) : dd (l ++ [a]) = ddS (dd l) a := by simp [dd]
theorem dd_last (l : List α) : (dd l).getLast? = l.getLast? := by
  rcases List.eq_nil_or_concat l with rfl | ⟨l', a, rfl⟩
  · rfl
  · rw [List.concat_eq_append, dd_snoc, ddS_last]; simp
theorem dd_len (l : List α) : (dd l).length ≤ l.length := by
  suffices H : ∀ (l acc : List α), (l.foldl ddS acc).length ≤ acc.length + l.length by simpa [dd] using H l []
  intro l
  induction l with
  | nil => intro acc; simp
  | cons a l ih =>
    intro acc
    have := ih (ddS acc a)
    have h2 : (ddS acc a).length ≤ acc.length + 1 := by unfold ddS; split <;> simp
    simp only [List.foldl_cons, List.length_cons]; omega
theorem dd_mem (a : α) : ∀ l : List α, a ∈ dd l ↔ a ∈ l := by
  suffices H : ∀ (l acc : List α), a ∈ l.foldl ddS acc ↔ a ∈ acc ∨ a ∈ l by intro l; simpa [dd] using H l []
  intro l
  induction l with
  | nil => intro acc; simp
  | cons b l ih =>
    intro acc
    rw [List.foldl_cons, ih]
    have : a ∈ ddS acc b ↔ a ∈ acc ∨ a = b := by
      unfold ddS; split
      · rename_i h
        have := List.mem_of_getLast? h
        constructor
        · exact .inl
        · rintro (h | rfl)
          · exact h
          · exact this
      · simp
    rw [this, List.mem_cons]
    constructor
    · rintro ((h | h) | h) <;> simp [h]
    · rintro (h | h | h) <;> simp [h]
end
theorem pairwise_snoc {α : Type} {R : α → α → Prop} {l : List α} {a : α} : (l ++ [a]).Pairwise R ↔ l.Pairwise R ∧ ∀ b ∈ l, R b a := by
  rw [List.pairwise_append]
  simp
theorem dd_strict {α : Type} [DecidableEq α] {k : α → Nat} (inj : ∀ x y, k x = k y → x = y) : ∀ n (l : List α), l.length = n → l.Pairwise (fun x y => k x ≤ k y) → (dd l).Pairwise fun x y => k x < k y
  | 0, l, hn, _ => by rw [List.length_eq_zero_iff.1 hn]; exact .nil
  | n + 1, l, hn, h => by
    rcases List.eq_nil_or_concat l with rfl | ⟨l', a, rfl⟩
    · exact .nil
    rw [List.concat_eq_append] at h hn ⊢
    rw [pairwise_snoc] at h
    have ih := dd_strict inj n l' (by simpa using hn) h.1
    rw [dd_snoc]
    unfold ddS
    split
    · exact ih
    · rename_i hne
      refine pairwise_snoc.2 ⟨ih, fun b hb => ?_⟩
      have hb' := (dd_mem b l').1 hb
      have hle := h.2 b hb'
      rcases Nat.lt_or_ge (k b) (k a) with h1 | h1
      · exact h1
      · exfalso
        have hba : b = a := inj _ _ (by omega)
        subst hba
        -- the last one is not less than b
        apply hne
        cases hl : (dd l').getLast? with
        | none => rw [List.getLast?_eq_none_iff.1 hl] at hb; cases hb
        | some c =>
          obtain ⟨p, hp⟩ := List.getLast?_eq_some_iff.1 hl
          rw [hp] at hb ih
          rcases List.mem_append.1 hb with h3 | h3
          · have h4 := (pairwise_snoc.1 ih).2 b h3
            have h5 : c ∈ l' := (dd_mem c l').1 (by rw [hp]; simp)
            have := h.2 c h5
            omega
          · simp at h3; rw [h3]
theorem strict_uniq {α : Type} {k : α → Nat} (inj : ∀ x y, k x = k y → x = y) : ∀ l1 l2 : List α, (∀ a, a ∈ l1 ↔ a ∈ l2) → l1.Pairwise (fun x y => k x < k y) → l2.Pairwise (fun x y => k x < k y) → l1 = l2
  | [], [], _, _, _ => rfl
  | [], b :: l2, h, _, _ => by have := (h b).2 (List.mem_cons_self ..); cases this
  | a :: l1, [], h, _, _ => by have := (h a).1 (List.mem_cons_self ..); cases this
  | a :: l1, b :: l2, h, h1, h2 => by
    rw [List.pairwise_cons] at h1 h2
    have e : a = b := by
      rcases List.mem_cons.1 ((h a).1 (List.mem_cons_self ..)) with e | ha
      · exact e
      · rcases List.mem_cons.1 ((h b).2 (List.mem_cons_self ..)) with e | hb
        · exact e.symm
        · have := h1.1 b hb; have := h2.1 a ha; omega
    subst e
    rw [strict_uniq inj l1 l2 (fun c => ?_) h1.2 h2.2]
    have := h c
    constructor
    · intro hc
      rcases List.mem_cons.1 (this.1 (List.mem_cons_of_mem _ hc)) with rfl | h3
      · have := h1.1 c hc; omega
      · exact h3
    · intro hc
      rcases List.mem_cons.1 (this.2 (List.mem_cons_of_mem _ hc)) with rfl | h3
      · have := h2.1 c hc; omega
      · exact h3
end Go.Abs
namespace Go.Abs
/-- what a list accepts -/
def acc (l : List (BitVec 16)) (t : BitVec 16) : Bool := l.any fun y => sub y t
end Go.Abs
namespace Go.Abs
/-- a place in a strictly ascending list -/
theorem strict_insert {α : Type} {k : α → Nat} (inj : ∀ x y, k x = k y → x = y) (out : List α) (x d : α) (m : Nat) (hm : m ≤ out.length) (hs : out.Pairwise fun a b => k a < k b)
    (h1 : ∀ j, j < m → k (out.getD j d) < k x) (h2 : m < out.length → ¬ k (out.getD m d) < k x) (hx : x ∉ out) : (out.take m ++ x :: out.drop m).Pairwise fun a b => k a < k b := by
  rw [List.pairwise_append]
  have hp := hs
  rw [← List.take_append_drop m out, List.pairwise_append] at hp
  have hbefore : ∀ a, a ∈ out.take m → k a < k x := by
    intro a ha
    obtain ⟨j, hj, rfl⟩ := List.getElem_of_mem ha
    simp at hj
    have := h1 j (by omega)
    have h3 : j < out.length := by omega
    simpa [List.getD_eq_getElem?_getD, h3] using this
  have hafter : ∀ a, a ∈ out.drop m → k x < k a := by
    intro a ha
    have hal := List.mem_of_mem_drop ha
    obtain ⟨j, hj, rfl⟩ := List.getElem_of_mem ha
    have hj' : j < out.length - m := by simpa using hj
    rw [List.getElem_drop] at hal ⊢
    have h3 : m + j < out.length := by omega
    have hm' : m < out.length := by omega
    have e0 : out.getD m d = out[m] := by simp [List.getD_eq_getElem?_getD, hm']
    have hm2 := h2 hm'
    rw [e0] at hm2
    have hge : k out[m] ≤ k out[m + j] := by
      by_cases e : j = 0
      · subst e; exact Nat.le_refl _
      · exact Nat.le_of_lt (List.pairwise_iff_getElem.1 hs m (m + j) hm' h3 (by omega))
    rcases Nat.lt_or_ge (k x) (k out[m + j]) with h4 | h4
    · exact h4
    · have : k x = k out[m + j] := by omega
      rw [inj _ _ this] at hx
      exact absurd (List.getElem_mem h3) hx
  refine ⟨hp.1, List.pairwise_cons.2 ⟨hafter, hp.2.1⟩, fun a ha b hb => ?_⟩
  rcases List.mem_cons.1 hb with rfl | hb
  · exact hbefore a ha
  · exact hp.2.2 a ha b hb
theorem mem_insert_at {α : Type} (out : List α) (x a : α) (m : Nat) : a ∈ out.take m ++ x :: out.drop m ↔ a = x ∨ a ∈ out := by
  have hm' : a ∈ out ↔ a ∈ out.take m ∨ a ∈ out.drop m := by rw [← List.mem_append, List.take_append_drop]
  simp only [List.mem_append, List.mem_cons]
  rw [hm']
  constructor
  · rintro (h | h | h) <;> simp [h]
  · rintro (h | h | h) <;> simp [h]

abbrev Flt := BitVec 16 × BitVec 16
def ftyS (a : Flt) : BitVec 16 := a.1 ||| a.2
/-- b covers a -/
def cov (b a : Flt) : Bool := sub a.1 b.1 && sub (ftyS a) (ftyS b)
def keyF (a : Flt) : Nat := key a.1 * 2000000 + key a.2
theorem keyF_inj {a b : Flt} (h : keyF a = keyF b) : a = b := by
  have h1 := key_lt a.1
  have h2 := key_lt a.2
  have h3 := key_lt b.1
  have h4 := key_lt b.2
  unfold keyF at h
  have e1 : key a.1 = key b.1 := by omega
  have e2 : key a.2 = key b.2 := by omega
  exact Prod.ext (key_inj' e1) (key_inj' e2)
theorem cov_refl (a : Flt) : cov a a = true := by unfold cov; rw [sub_refl, sub_refl]; rfl
def srtF (l : List Flt) : List Flt := dd (isortK keyF l)
theorem srtF_sorted (l : List Flt) : (srtF l).Pairwise fun x y => keyF x < keyF y := dd_strict (fun _ _ => keyF_inj) _ _ rfl (isortK_sorted l)
theorem mem_srtF (a : Flt) (l : List Flt) : a ∈ srtF l ↔ a ∈ l := (dd_mem a _).trans (isortK_perm l).mem_iff
theorem srtF_len (l : List Flt) : (srtF l).length ≤ l.length := Nat.le_trans (dd_len _) (Nat.le_of_eq (isortK_perm l).length_eq)
/-- no other one covers it -/
def undF (l : List Flt) (a : Flt) : Bool := !(l.any fun b => a != b && cov b a)
theorem undF_iff {l : List Flt} {a : Flt} : undF l a = true ↔ ∀ b, b ∈ l → a ≠ b → cov b a = false := by
  simp [undF, List.any_eq_false]
def normP (l : List Flt) : List Flt := (srtF l).filter (undF (srtF l))
theorem mem_normP (l : List Flt) (a : Flt) : a ∈ normP l ↔ a ∈ l ∧ ∀ b, b ∈ l → a ≠ b → cov b a = false := by
  unfold normP
  rw [List.mem_filter, mem_srtF, undF_iff]
  constructor
  · rintro ⟨h1, h2⟩; exact ⟨h1, fun b hb => h2 b ((mem_srtF b l).2 hb)⟩
  · rintro ⟨h1, h2⟩; exact ⟨h1, fun b hb => h2 b ((mem_srtF b l).1 hb)⟩
theorem normP_strict (l : List Flt) : (normP l).Pairwise fun x y => keyF x < keyF y := List.Pairwise.filter _ (srtF_sorted l)
end Go.Abs
namespace Go.Abs
theorem bit_toNat (x : BitVec 16) (i : Nat) : ((x >>> i) &&& (BitVec.ofInt 16 1)).toNat = x.toNat / 2 ^ i % 2 := by
  rw [BitVec.toNat_and, BitVec.toNat_ushiftRight, Nat.shiftRight_eq_div_pow]
  exact Nat.and_one_is_mod _
theorem cs0_at (b : Nat) (h : b < 256) : (cs0.getD b 0).toNat = bsum b 0 8 := pop8_at b h
theorem f116_eq (x : BitVec 16) : f116 x = some (sz x : Int) := by
  have h1 : (x >>> 8).toNat = x.toNat / 256 := by rw [BitVec.toNat_ushiftRight, Nat.shiftRight_eq_div_pow]
  have h2 : (x &&& (BitVec.ofInt 16 255)).toNat = x.toNat % 256 := by
    rw [BitVec.toNat_and]
    exact Nat.and_two_pow_sub_one_eq_mod x.toNat 8
  have hx := x.isLt
  have hl : cs0.length = 256 := by kernel_rfl
  have e1 := cs0_at (x.toNat / 256) (by omega)
  have e2 := cs0_at (x.toNat % 256) (by omega)
  have l1 := bsum_le (x.toNat / 256) 8 0
  have l2 := bsum_le (x.toNat % 256) 8 0
  unfold f116 chk
  rw [h1, h2, e1, e2, hl, if_pos (by omega), if_pos (by omega), if_pos (by omega), if_pos (by omega), bsum_split]
  rfl
theorem f91_eq (x : BitVec 16) : f91 x = some (sz x : Int) := by
  unfold f91; rw [f116_eq]; rfl
theorem f90_eq (a b : Int) : f90 a b = some (cmpI a b) := by
  unfold f90 f115 cmpI
  simp
  split
  · rfl
  · split <;> rfl
theorem f92_eq (a b : BitVec 16) : f92 a b = some (cmpI a.toNat b.toNat) := by
  unfold f92 f117 cmpI
  simp
  split
  · rfl
  · split <;> rfl
theorem f73_eq (a b : Int) : f73 [a, b] = some (if a ≠ 0 then a else b) := by
  unfold f73 jn
  dsimp only
  obtain ⟨k, hk⟩ : ∃ k, FUEL = k + 1 + 1 + 1 := ⟨FUEL - 3, by unfold FUEL; rfl⟩
  rw [hk, f73_L0.eq_2, if_pos (by simp)]
  unfold chk
  rw [if_pos (by simp)]
  by_cases ha : a = 0
  · subst ha
    simp only [List.getD_cons_zero, bne_self_eq_false, Bool.false_eq_true, if_false]
    rw [if_pos (by omega), f73_L0.eq_2, if_pos (by simp)]
    unfold chk
    rw [if_pos (by simp)]
    by_cases hb : b = 0
    · subst hb
      simp only [Nat.zero_add, List.getD_cons_succ, List.getD_cons_zero, bne_self_eq_false, Bool.false_eq_true, if_false]
      rw [if_pos (by omega), f73_L0.eq_2, if_neg (by simp)]
      simp
    · simp [hb]
  · simp [ha]
theorem f65_eq' (a b : BitVec 16) : f65 a b = some (cmpS a b) := by
  unfold f65
  rw [f91_eq, f91_eq]
  simp only [Option.bind_some, f90_eq, f92_eq, f73_eq]
  rfl
theorem cmpS_zero {a b : BitVec 16} (h : cmpS a b = 0) : key a = key b := by
  unfold cmpS cmpI at h
  unfold key
  have ha := a.isLt
  have hb := b.isLt
  by_cases h1 : sz a = sz b
  · rw [h1] at h ⊢
    simp at h
    split at h
    · cases h
    · split at h
      · cases h
      · omega
  · by_cases h2 : sz a < sz b
    · simp [h2] at h
    · have : sz b < sz a := by omega
      simp [h2, this] at h
theorem cmpS_neg (a b : BitVec 16) : cmpS a b < 0 ↔ key a < key b := by
  have h := cmpS_lt a b
  rw [← ltS_key, ← h]; simp
/-- fault.compare -/
def cmpF (a b : Flt) : Int := if cmpS a.1 b.1 ≠ 0 then cmpS a.1 b.1 else cmpS a.2 b.2
theorem cmpF_lt (a b : Flt) : decide (cmpF a b < 0) = decide (keyF a < keyF b) := by
  unfold cmpF keyF
  have h1 := key_lt a.1
  have h2 := key_lt a.2
  have h3 := key_lt b.1
  have h4 := key_lt b.2
  have n1 := cmpS_neg a.1 b.1
  have n2 := cmpS_neg a.2 b.2
  by_cases h : cmpS a.1 b.1 = 0
  · have := cmpS_zero h
    rw [if_neg (by simpa using h)]
    rw [decide_eq_decide, n2]; omega
  · rw [if_pos h, decide_eq_decide, n1]
    have h5 : key a.1 ≠ key b.1 := by
      intro e
      have e' := key_inj' e
      rw [e'] at h
      apply h
      unfold cmpS cmpI; simp
    omega
theorem f43_eq' (a b : Flt) : f43 a.1 a.2 b.1 b.2 = some (cmpF a b) := by
  unfold f43
  simp only [f65_eq', Option.bind_some, f73_eq]
  rfl
end Go.Abs
namespace Go.Abs
open Go
/-- a result whose world has drawn n at least -/
def RD {α : Type} (n : Nat) : Result α → Prop
  | .ok _ w => n ≤ w.drawn
  | .halt _ w => n ≤ w.drawn
theorem RD.mono {α : Type} {n m : Nat} (h : n ≤ m) : ∀ {r : Result α}, RD m r → RD n r
  | .ok _ _, k => Nat.le_trans h k
  | .halt _ _, k => Nat.le_trans h k
theorem ask_drawn {α : Type} : ∀ (a : Ask α) (w : World), w.drawn ≤ (w.ask a).2.drawn
  | .done a, w => Nat.le_refl _
  | .ask what range k, w => by
    unfold World.ask
    dsimp only
    split
    · exact ask_drawn _ w
    · exact Nat.le_trans (Nat.le_succ _) (ask_drawn _ { w with drawn := w.drawn + 1 })
theorem sys_drawn (w : World) (c : Sys) : w.drawn ≤ (w.sys c).2.drawn := by
  have h := ask_drawn (Kernel.perform c w.os) w
  unfold World.sys
  split
  · exact Nat.le_refl _
  · rename_i heq
    rw [heq] at h
    exact h
theorem viewStore_drawn {p : Program} {w w' : World} {at_ : Addr} {u : TypeId} {k : Addr} {v : Value} {b : Bool} {l : List Addr} (h : w.viewStore p at_ u k v b = .ok (w', l)) : w'.drawn = w.drawn := by
  unfold World.viewStore at h
  simp only [bind, Except.bind, pure, Except.pure, throw, throwThe, MonadExceptOf.throw] at h
  repeat' split at h
  all_goals first | cases h; done | skip
  all_goals (cases h; rfl)
theorem farStore_drawn {p : Program} {w w' : World} {a : Addr} {v : Value} {b : Bool} {l : List Addr} (h : w.farStore p a v b = .ok (w', l)) : w'.drawn = w.drawn := by
  unfold World.farStore at h
  split at h
  · split at h
    · rename_i r hr
      cases h
      exact viewStore_drawn hr
    · cases h
  · cases h
theorem freeze_drawn (w : World) (a : Addr) (n : Nat) : (w.freeze a n).drawn = w.drawn := by
  unfold World.freeze
  repeat' split
  all_goals rfl
theorem setCell_drawn (w : World) (a : Addr) (v : Value) : (w.setCell a v).drawn = w.drawn := by
  unfold World.setCell
  repeat' split
  all_goals rfl
theorem run_drawn {α : Type} (p : Program) : ∀ (s : Sem α) (w : World), RD w.drawn (s.run p w)
  | .pure a, w => Nat.le_refl _
  | .load m a k, w => by
    unfold Sem.run
    split
    · exact run_drawn p _ w
    · split
      · exact run_drawn p _ w
      · exact Nat.le_refl _
  | .store m a v k, w => by
    by_cases hv : (∃ c, v = .agg c) ∨ (∃ c, v = .tuple c)
    · rcases hv with ⟨c, rfl⟩ | ⟨c, rfl⟩ <;> exact Nat.le_refl _
    · rw [Sem.run]
      · split
        · split
          · exact Nat.le_refl _
          · exact RD.mono (Nat.le_of_eq (setCell_drawn ..).symm) (run_drawn p _ _)
        · split
          · rename_i heq
            exact RD.mono (Nat.le_of_eq (farStore_drawn heq).symm) (run_drawn p _ _)
          · exact Nat.le_refl _
      · intro c hc; exact hv (.inl ⟨c, hc⟩)
      · intro c hc; exact hv (.inr ⟨c, hc⟩)
  | .new o k, w => RD.mono (Nat.le_refl _) (run_drawn p (k w.heap.size) { w with heap := w.heap.push o })
  | .shape r k, w => run_drawn p (k (w.shape? r)) w
  | .freeze a n k, w => RD.mono (Nat.le_of_eq (freeze_drawn w a n).symm) (run_drawn p k (w.freeze a n))
  | .frozen a k, w => run_drawn p (k (w.frozen? a)) w
  | .getObj r k, w => by
    unfold Sem.run
    split
    · exact Nat.le_refl _
    · exact run_drawn p _ w
    · exact Nat.le_refl _
  | .setObj r o k, w => by
    unfold Sem.run
    split
    · exact Nat.le_refl _
    · exact RD.mono (Nat.le_refl _) (run_drawn p k { w with heap := w.heap.setIfInBounds r o })
    · exact Nat.le_refl _
  | .choose q k, w => by
    unfold Sem.run
    split
    · exact run_drawn p _ w
    · exact RD.mono (Nat.le_succ _) (run_drawn p _ { w with drawn := w.drawn + 1 })
  | .sys c k, w => RD.mono (sys_drawn w c) (run_drawn p (k (w.sys c).1) (w.sys c).2)
  | .program k, w => run_drawn p (k p) w
  | .mark _ k, w => run_drawn p k w
  | .halt h, w => Nat.le_refl _
theorem runT_drawn {α : Type} (p : Program) (s : Sem α) (w : World) (es : Array Event) : RD w.drawn (s.runT p w es).1 := by
  rw [Sem.runT_fst]
  exact run_drawn p s w
theorem ok_drawn {α : Type} {p : Program} {s : Sem α} {w w' : World} {a : α} (h : s.run p w = .ok a w') : w.drawn ≤ w'.drawn := by
  have := run_drawn p s w
  rw [h] at this
  exact this
theorem halt_drawn {α : Type} {p : Program} {s : Sem α} {w w' : World} {a : Halt} (h : s.run p w = .halt a w') : w.drawn ≤ w'.drawn := by
  have := run_drawn p s w
  rw [h] at this
  exact this
theorem okT_drawn {α : Type} {p : Program} {s : Sem α} {w w' : World} {a : α} {es es' : Array Event} (h : s.runT p w es = (.ok a w', es')) : w.drawn ≤ w'.drawn := by
  have := runT_drawn p s w es
  rw [h] at this
  exact this
theorem haltT_drawn {α : Type} {p : Program} {s : Sem α} {w w' : World} {a : Halt} {es es' : Array Event} (h : s.runT p w es = (.halt a w', es')) : w.drawn ≤ w'.drawn := by
  have := runT_drawn p s w es
  rw [h] at this
  exact this
/-- the world behind a step of a goroutine has drawn n at least -/
def GD (n : Nat) : GStep → Prop
  | .go _ w _ => n ≤ w.drawn
  | .comm _ _ _ _ w _ => n ≤ w.drawn
  | .spawn _ _ w _ => n ≤ w.drawn
  | .count _ w _ => n ≤ w.drawn
  | .timer _ _ w _ => n ≤ w.drawn
  | .alone _ _ w _ => n ≤ w.drawn
  | .newcoro _ _ _ w _ => n ≤ w.drawn
  | .coroswitch _ _ _ w _ => n ≤ w.drawn
  | .collect _ w _ => n ≤ w.drawn
  | .watch _ w _ => n ≤ w.drawn
  | .ended _ _ _ => True
theorem GD.after {n : Nat} {es : Array Event} : ∀ {s : GStep}, GD n s → GD n (s.after es)
  | .go .., h => h
  | .comm .., h => h
  | .spawn .., h => h
  | .count .., h => h
  | .timer .., h => h
  | .alone .., h => h
  | .newcoro .., h => h
  | .coroswitch .., h => h
  | .collect .., h => h
  | .watch .., h => h
  | .ended .., _ => trivial
theorem GD.mono {n m : Nat} (hn : n ≤ m) : ∀ {s : GStep}, GD m s → GD n s
  | .go .., h => Nat.le_trans hn h
  | .comm .., h => Nat.le_trans hn h
  | .spawn .., h => Nat.le_trans hn h
  | .count .., h => Nat.le_trans hn h
  | .timer .., h => Nat.le_trans hn h
  | .alone .., h => Nat.le_trans hn h
  | .newcoro .., h => Nat.le_trans hn h
  | .coroswitch .., h => Nat.le_trans hn h
  | .collect .., h => Nat.le_trans hn h
  | .watch .., h => Nat.le_trans hn h
  | .ended .., _ => trivial
theorem GD.ite {n : Nat} {c : Prop} [Decidable c] {a b : GStep} (ha : GD n a) (hb : GD n b) : GD n (if c then a else b) := by
  split
  · exact ha
  · exact hb
theorem endWith_drawn (w : World) (fd : Nat) (t : ByteArray) (o : Outcome) : GD w.drawn (endWith w fd t o) := by
  unfold endWith
  dsimp only
  repeat' split
  all_goals exact trivial
theorem endPrinting_drawn (p : Program) (fr : Frame) (v : Value) (w : World) : GD w.drawn (endPrinting p fr v w) := by
  unfold endPrinting
  dsimp only
  repeat' split
  all_goals first
    | exact trivial
    | exact Nat.le_refl _
theorem endFatal_drawn (p : Program) (fr : Frame) (callers : List Frame) (dying : Option Dying) (m : String) (w : World) : GD w.drawn (endFatal p fr callers dying m w) := by
  unfold endFatal
  dsimp only
  split
  · rename_i h
    exact ok_drawn h
  · exact trivial
  · exact trivial
theorem writeOn_drawn (p : Program) (fr : Frame) (d : Dying) (f : Fatal) (w : World) : GD w.drawn (writeOn p fr d f w) := by
  unfold writeOn
  dsimp only
  split
  · exact trivial
  · split
    all_goals first
      | exact trivial
      | (rename_i h; exact okT_drawn h)
      | (rename_i h; exact haltT_drawn h)
theorem die_drawn (p : Program) (fr : Frame) (d : Dying) (w : World) : GD w.drawn (die p fr d w) := by
  unfold die
  dsimp only
  split
  · exact writeOn_drawn ..
  · split
    · split
      · exact Nat.le_refl _
      · exact endWith_drawn ..
    · split
      · exact Nat.le_refl _
      · split
        · rename_i h
          exact ok_drawn h
        · exact trivial
      · rename_i t recv name _
        have hr := runT_drawn p (invoke (.fn (.method name) #[]) #[.iface t recv]) w #[]
        revert hr
        generalize (invoke (.fn (.method name) #[]) #[.iface t recv]).runT p w #[] = re
        rcases re with ⟨r, es⟩
        intro hr
        refine GD.after ?_
        dsimp only at hr ⊢
        split
        all_goals first
          | exact trivial
          | exact hr
          | exact GD.mono hr (endPrinting_drawn ..)
      · exact trivial
theorem doReturn_drawn (p : Program) (main : Bool) (fr : Frame) (callers : List Frame) (dying : Option Dying) (v : Value) (w : World) : GD w.drawn (doReturn p main fr callers dying v w) := by
  unfold doReturn
  dsimp only
  repeat' split
  all_goals first
    | exact trivial
    | exact Nat.le_refl _
theorem callDeferred_drawn (p : Program) (fr : Frame) (callers : List Frame) (dying : Option Dying) (d : Deferred) (w : World) : GD w.drawn (callDeferred p fr callers dying d w) := by
  unfold callDeferred
  refine GD.ite trivial ?_
  · have hr := runT_drawn p (invoke d.target d.args) w #[]
    revert hr
    generalize (invoke d.target d.args).runT p w #[] = re
    rcases re with ⟨r, es⟩
    intro hr
    refine GD.after ?_
    dsimp only at hr ⊢
    repeat' split
    all_goals first
      | exact trivial
      | exact hr
      | exact GD.mono hr (endFatal_drawn ..)
theorem unwind_drawn (p : Program) (main : Bool) (fr : Frame) (callers : List Frame) (dying : Option Dying) (w : World) : GD w.drawn (unwind p main fr callers dying w) := by
  unfold unwind
  split
  · rename_i block _ ds _
    dsimp only
    have hr := runT_drawn p (Instr.takeDeferred block) w #[]
    revert hr
    generalize (Instr.takeDeferred block).runT p w #[] = re
    rcases re with ⟨r, es⟩
    intro hr
    refine GD.after ?_
    dsimp only at hr ⊢
    cases r with
    | ok a w => exact hr
    | halt a w => exact trivial
  · exact callDeferred_drawn ..
  · split
    · exact trivial
    · split
      · exact trivial
      · split
        · exact Nat.le_refl _
        · split
          · split
            · exact Nat.le_refl _
            · split
              · rename_i h
                exact ok_drawn h
              · exact trivial
              · exact trivial
          · split
            · exact endPrinting_drawn ..
            · exact trivial
    · split
      · exact doReturn_drawn ..
      · rename_i fn _
        dsimp only
        have hr := runT_drawn p (results fn fr.tmps) w #[]
        revert hr
        generalize (results fn fr.tmps).runT p w #[] = re
        rcases re with ⟨r, es⟩
        intro hr
        refine GD.after ?_
        dsimp only at hr ⊢
        split
        · exact GD.mono hr (doReturn_drawn ..)
        · exact trivial
        · exact trivial
theorem early_drawn (p : Program) (fr : Frame) (callers : List Frame) (dying : Option Dying) (g : Nat) (w : World) : GD w.drawn (early p fr callers dying g w) := by
  unfold early
  dsimp only
  repeat' split
  all_goals first
    | exact trivial
    | exact Nat.le_refl _
    | (simp only [GD]; exact ok_drawn (by assumption))
theorem apply_drawn (p : Program) (listen : Bool) (fr : Frame) (callers : List Frame) (dying : Option Dying) (s : Sem Next) (w : World) : GD w.drawn (stepG.apply p listen fr callers dying s w) := by
  unfold stepG.apply
  dsimp only
  have hr : RD w.drawn (if listen then s.runT p w #[] else (s.run p w, #[])).1 := by
    split
    · exact runT_drawn ..
    · exact run_drawn ..
  revert hr
  generalize (if listen then s.runT p w #[] else (s.run p w, #[])) = re
  rcases re with ⟨r, es⟩
  intro hr
  refine GD.after ?_
  dsimp only at hr ⊢
  split
  all_goals first
    | exact trivial
    | exact hr
    | exact GD.mono hr (endFatal_drawn ..)
    | exact GD.mono hr (early_drawn ..)
    | (refine GD.ite ?_ ?_ <;> first | exact trivial | exact hr)
    | (repeat' split
       all_goals first
         | exact trivial
         | exact hr)
theorem oper_drawn (p : Program) (listen : Bool) (fr : Frame) (callers : List Frame) (dying : Option Dying) (w : World) : GD w.drawn (stepG.oper p listen fr callers dying w) := by
  unfold stepG.oper
  split
  · exact trivial
  · split <;> exact apply_drawn ..
theorem exec_drawn (p : Program) (main listen : Bool) (fr : Frame) (callers : List Frame) (dying : Option Dying) (w : World) : GD w.drawn (stepG.exec p main listen fr callers dying w) := by
  unfold stepG.exec
  extract_lets go to lost leave
  have hgo : ∀ fr w', w.drawn ≤ w'.drawn → GD w.drawn (go fr w') := fun _ _ h => h
  have hto : ∀ t, GD w.drawn (to t) := fun _ => Nat.le_refl _
  have hlost : ∀ t, GD w.drawn (lost t) := fun _ => trivial
  have hleave : ∀ jump, GD w.drawn (leave jump) := by
    intro jump
    show GD w.drawn (match fr.roundOf with | none => _ | some l => _)
    split
    · exact GD.ite (Nat.le_refl _) trivial
    · rename_i l _
      dsimp only
      have hr := runT_drawn p (Instr.endRound l jump) w #[]
      revert hr
      generalize (Instr.endRound l jump).runT p w #[] = re
      rcases re with ⟨r, es⟩
      intro hr
      refine GD.after ?_
      cases r with
      | ok v w' => exact GD.mono hr (doReturn_drawn ..)
      | halt v w' => exact trivial
  clear_value go to lost leave
  split
  all_goals first
    | exact hto _
    | exact hleave _
    | exact hlost _
    | exact trivial
    | exact apply_drawn ..
    | skip
  · split
    · exact hto _
    · exact hlost _
  · cases exitTo _ _
    · exact hleave _
    · exact hto _
  · cases gotoIn _ _
    · exact hleave _
    · exact hto _
  · rename_i f params assign body k _
    have hr := runT_drawn p (Instr.enterLoop fr.fn fr.tmps params assign body fr.roundOf) w #[]
    revert hr
    generalize (Instr.enterLoop fr.fn fr.tmps params assign body fr.roundOf).runT p w #[] = re
    rcases re with ⟨r, es⟩
    intro hr
    refine GD.after ?_
    cases r with
    | ok v w' => exact GD.mono hr (apply_drawn ..)
    | halt v w' => exact trivial
  · rename_i l k _
    have hr := runT_drawn p (Instr.endLoop l) w #[]
    revert hr
    generalize (Instr.endLoop l).runT p w #[] = re
    rcases re with ⟨r, es⟩
    intro hr
    refine GD.after ?_
    split
    · exact hgo _ _ hr
    · exact hgo _ _ hr
    · exact trivial
  · cases Extern.next _
    · exact hlost _
    · exact apply_drawn ..
  · refine GD.ite (hto _) ?_
    split
    · rename_i h
      exact hgo _ _ (ok_drawn h)
    · exact trivial
  · exact GD.ite (oper_drawn ..) (hgo _ _ (Nat.le_refl _))
theorem stepG_drawn (p : Program) (main : Bool) (g : Goroutine) (w : World) (listen : Bool) : GD w.drawn (stepG p main g w listen) := by
  unfold stepG
  dsimp only
  split
  · exact die_drawn ..
  · exact exec_drawn ..
  · exact unwind_drawn ..
/-- the machine behind a step has drawn n at least -/
def SD (n : Nat) (s : Stepped) : Prop := ∀ m, s = .next m → n ≤ m.world.drawn
theorem SD.next {n : Nat} {m : Machine} (h : n ≤ m.world.drawn) : SD n (.next m) := fun _ e => by cases e; exact h
theorem SD.ended {n : Nat} {o : Outcome} {w : World} : SD n (.ended o w) := fun _ e => by cases e
theorem SD.mono {n m : Nat} {s : Stepped} (hn : n ≤ m) (h : SD m s) : SD n s := fun k e => Nat.le_trans hn (h k e)
theorem waitingAt_drawn {rest : Rest} {cases : Array CommCase} {w w' : World} (h : waitingAt rest cases w = some w') : w'.drawn = w.drawn := by
  unfold waitingAt at h
  repeat' split at h
  all_goals (cases h; try rfl)
theorem communicate_drawn (p : Program) (rest : Rest) (gs : Array Goroutine) (i : Nat) (g : Goroutine) (cases : Array CommCase) (blocking : Bool)
    (shape : CommShape) (w : World) : SD w.drawn (communicate p rest gs i g cases blocking shape w).1 := by
  intro m' h
  unfold communicate at h
  simp only [] at h
  repeat' first
    | (simp at h; done)
    | (replace h := Stepped.next.inj h
       subst h
       dsimp only
       first
         | exact Nat.le_refl _
         | exact ok_drawn (by assumption)
         | exact Nat.le_trans (ok_drawn (by assumption)) (ok_drawn (by assumption))
         | exact Nat.le_trans (ok_drawn (by assumption)) (halt_drawn (by assumption))
         | exact Nat.le_of_eq (waitingAt_drawn (by assumption)).symm)
    | split at h
theorem look_drawn (p : Program) (gs : Array Goroutine) (rest : Rest) (w : World) : SD w.drawn (look p gs rest w) := by
  intro m' h
  unfold look at h
  simp only [] at h
  repeat' first
    | (simp at h; done)
    | (replace h := Stepped.next.inj h
       subst h
       dsimp only
       exact ok_drawn (by assumption))
    | split at h
theorem drain_drawn (w : World) (c : Nat) : (drain w c).2.drawn = w.drawn := by
  unfold drain
  split <;> rfl
theorem retime_drawn (m : Machine) (k : Nat) (t : Timer) (a b : Nat) : (retime m k t a b).2.world.drawn = m.world.drawn := by
  unfold retime
  cases t.chan with
  | none => rfl
  | some c => exact drain_drawn _ c
theorem opened_drawn {m m' : Machine} {a : Addr} (h : timerOp.opened m a = some m') : m'.world.drawn = m.world.drawn := by
  unfold timerOp.opened at h
  repeat' split at h
  all_goals first
    | (cases h; rfl)
    | (cases h; done)
theorem named_drawn {m m' : Machine} {a : Addr} {f : Nat → Timer → Value × Machine} {v : Value} {n : Nat} (hf : ∀ k t, (f k t).2.world.drawn = n) (h : timerOp.named m a f = .ok (v, m')) : m'.world.drawn = n := by
  unfold timerOp.named at h
  split at h
  · have := congrArg (fun p : Value × Machine => p.2.world.drawn) (Except.ok.inj h)
    exact this.symm.trans (hf _ _)
  · cases h
theorem timerOp_drawn {m m' : Machine} {op : TimerOp} {v : Value} (h : timerOp m op = .ok (v, m')) : m'.world.drawn = m.world.drawn := by
  unfold timerOp at h
  split at h
  · repeat' split at h
    all_goals first
      | (cases h; rfl)
      | (cases h; done)
  · exact named_drawn (fun _ _ => retime_drawn ..) h
  · split at h
    · rename_i h1
      exact named_drawn (fun _ _ => (retime_drawn ..).trans (opened_drawn h1)) h
    · cases h
  · cases h
    rfl
theorem serve_drawn (p : Program) (m : Machine) (k : Nat) : SD m.world.drawn (serve p m k) := by
  unfold serve
  dsimp only
  split
  · exact SD.ended
  · exact SD.next (Nat.le_refl _)
  · repeat' split
    all_goals first
      | exact SD.ended
      | exact SD.next (Nat.le_refl _)
/-- so for a move -/
def MD (n : Nat) : Move → Prop
  | .goroutine m _ => n ≤ m.world.drawn
  | .machine s _ => SD n s
theorem MD.mono {n m : Nat} (hn : n ≤ m) : ∀ {s : Move}, MD m s → MD n s
  | .goroutine .., h => Nat.le_trans hn h
  | .machine .., h => SD.mono hn h
theorem askOn_drawn (p : Program) (m : Machine) : MD m.world.drawn (askOn p m) := by
  unfold askOn
  extract_lets mono rs ds pick
  have hpick : ∀ m', MD m'.world.drawn (pick m') := by
    intro m'
    show MD m'.world.drawn (match (choose (.sched rs.length)).run p m'.world with | .halt _ w => _ | .ok k world => _)
    split
    · exact SD.ended
    · rename_i k world h1
      have h1 := ok_drawn h1
      split
      · exact h1
      · split
        · exact SD.ended
        · rename_i h2
          exact Nat.le_trans h1 (ok_drawn h2)
  clear_value pick
  split
  · exact SD.ended
  · rename_i k world h1
    have h1 := ok_drawn h1
    split
    · exact SD.mono h1 (serve_drawn p _ _)
    · extract_lets m1 msg
      have hm : m.world.drawn ≤ m1.world.drawn := h1
      have hpick1 : ∀ w' : World, world.drawn ≤ w'.drawn → MD m.world.drawn (pick { m1 with world := w' }) := fun w' h => MD.mono (Nat.le_trans h1 h) (hpick _)
      have hpick2 : ∀ (w' : World) t, world.drawn ≤ w'.drawn → MD m.world.drawn (pick (Machine.advanceTo { m1 with world := w' } t)) := fun w' t h => MD.mono (Nat.le_trans h1 h) (hpick _)
      have hadv2 : ∀ (w' : World) t, world.drawn ≤ w'.drawn → MD m.world.drawn (.machine (.next (Machine.advanceTo { m1 with world := w' } t))) := fun w' t h => SD.next (Nat.le_trans h1 h)
      have hadv : ∀ t, m.world.drawn ≤ (m1.advanceTo t).world.drawn := fun _ => h1
      clear_value m1 msg rs
      cases rs with
      | nil =>
        dsimp only
        split
        · exact SD.next (hadv _)
        · split
          · exact SD.next hm
          · split
            · exact SD.ended
            · exact SD.ended
      | cons r rs =>
        dsimp only
        split
        · exact MD.mono hm (hpick _)
        · split
          · exact SD.ended
          · rename_i h2
            exact hpick1 _ (ok_drawn h2)
          · rename_i h2
            exact hadv2 _ _ (ok_drawn h2)
          · rename_i h2
            exact hpick2 _ _ (ok_drawn h2)
theorem ask_drawn' (p : Program) (m : Machine) : MD m.world.drawn (ask p m) := by
  unfold ask
  split
  · split
    · exact SD.ended
    · rename_i h1
      have h1 := ok_drawn h1
      split
      · rename_i h2
        exact MD.mono (Nat.le_trans h1 (look_drawn _ _ _ _ _ h2)) (askOn_drawn ..)
      · rename_i h2
        exact SD.mono h1 (look_drawn p _ _ _)
    · rename_i h1
      have h1 := ok_drawn h1
      exact MD.mono h1 (askOn_drawn ..)
  · exact askOn_drawn ..
theorem move_drawn (p : Program) (m : Machine) : MD m.world.drawn (move p m) := by
  unfold move
  split
  · split
    · exact Nat.le_refl _
    · exact SD.ended
  · split
    · split
      · exact Nat.le_refl _
      · exact ask_drawn' p { m with rest := _ }
    · exact ask_drawn' p m
theorem runT_SD (p : Program) (m : Machine) (i : Nat) (b : Bool) : SD m.world.drawn (runT p m i b).1 := by
  simp only [runT]
  generalize m.gs.swapAt! _ _ = gg
  have hs := stepG_drawn p (i == 0) gg.1 m.world b
  revert hs
  generalize stepG p _ gg.1 m.world b = s
  intro hs
  cases s <;> simp only [] <;> simp only [GD] at hs
  all_goals first
    | exact SD.ended
    | exact SD.next hs
    | exact SD.mono hs (communicate_drawn p _ _ _ _ _ _ _ _)
    | exact SD.mono hs (look_drawn p _ _ _)
    | skip
  · split
    · exact SD.ended
    · exact SD.next hs
  · split
    · rename_i h
      exact SD.next (Nat.le_trans hs (Nat.le_of_eq (timerOp_drawn h).symm))
    · exact SD.next hs
    · exact SD.ended
    · exact SD.ended
  · split
    · exact SD.next hs
    · exact SD.next hs
    · exact SD.ended
theorem stepT_SD (p : Program) (m : Machine) (b : Bool) : SD m.world.drawn (stepT p m b).1 := by
  have h := move_drawn p m
  simp only [stepT]
  split
  next m₁ i hm =>
    rw [hm] at h
    exact SD.mono h (runT_SD p m₁ i b)
  next s ops hm =>
    rw [hm] at h
    exact h
theorem step_drawn {p : Program} {m m' : Machine} (h : step p m = .next m') : m.world.drawn ≤ m'.world.drawn := stepT_SD p m true m' h
theorem runN_drawn {p : Program} : ∀ (n : Nat) {m m' : Machine}, runN p n m = .next m' → m.world.drawn ≤ m'.world.drawn
  | 0, m, m', h => by
    simp only [runN, Stepped.next.injEq] at h
    rw [h]
    exact Nat.le_refl _
  | n + 1, m, m', h => by
    simp only [runN] at h
    cases hs : step p m with
    | next m1 =>
      rw [hs] at h
      exact Nat.le_trans (step_drawn hs) (runN_drawn n h)
    | ended o w =>
      rw [hs] at h
      cases h
theorem steps_drawn {p : Program} {m m' : Machine} (h : Steps p m m') : m.world.drawn ≤ m'.world.drawn := by
  obtain ⟨n, hn⟩ := h
  exact runN_drawn n hn
/-- a call that returns has drawn no fewer -/
theorem calls_drawn {P : Program} {f : FuncId} {args : Array Value} {w : World} {R : Ending → World → Prop} (h : Calls P f args w R) (hr : ∀ e w', R e w' → ∃ v, e = .returned v) :
    Calls P f args w fun e w' => R e w' ∧ w.drawn ≤ w'.drawn := by
  intro cs
  obtain ⟨e, w', fr, h1, h2, h3, h4⟩ := h cs
  obtain ⟨v, rfl⟩ := hr e w' h1
  exact ⟨_, w', fr, ⟨h1, steps_drawn h2⟩, h2, h3, h4⟩
end Go.Abs
namespace Go.Abs
open Go Go.Sort
theorem heap_grow {w w' : World} (h1 : w'.os = w.os) (h2 : w'.tape = w.tape) (h3 : w'.output = w.output) (hs : w.heap.size ≤ w'.heap.size) (hb : ∀ k, k < w.heap.size → w'.heap[k]? = w.heap[k]?) (hd : w.drawn ≤ w'.drawn) :
    ∃ q os, w' = Go.Sort.grow (w.drewN q) os := by
  refine ⟨w'.drawn - w.drawn, w'.heap.extract w.heap.size w'.heap.size, ?_⟩
  obtain ⟨hp, tp, dr, os, out⟩ := w'
  obtain ⟨hp0, tp0, dr0, os0, out0⟩ := w
  simp only at h1 h2 h3 hs hb hd
  subst h1 h2 h3
  unfold Go.Sort.grow World.drewN
  have e1 : dr0 + (dr - dr0) = dr := by omega
  have e2 : hp = hp0 ++ hp.extract hp0.size hp.size := by
    apply Array.ext_getElem?
    intro i
    by_cases hi : i < hp0.size
    · rw [hb i hi, Array.getElem?_append_left hi]
    · rw [Array.getElem?_append_right (by omega), Array.getElem?_extract]
      by_cases hj : i < hp.size
      · rw [if_pos (by omega)]
        congr 1
        omega
      · rw [if_neg (by omega), Array.getElem?_eq_none (by omega)]
  simp only
  rw [e1, ← e2]
/-- a comparison's contract as the kit's sorts ask for it -/
theorem calls_grow {P : Program} {f : FuncId} {args : List V} {vals : Array Value} {k : IntKind} {r : Int} (h : Spec1 P f [] [] [] args (.int k r) []) (w : World) (hl : vals.size = args.length)
    (ha : ∀ i, i < args.length → Rel (fun _ => False) w noGh (args.getD i .any) (vals.getD i undef)) :
    Calls P f vals w fun e w' => e = .returned (.int k r) ∧ ∃ q os, w' = Go.Sort.grow (w.drewN q) os := by
  have h0 := h ⟨w, fun _ => False, fun _ => False, noGh, none⟩ vals ⟨.refl _ _, fun _ h => h, fun _ h => h.elim, fun r b v hb => by simp [Heap.get] at hb, fun r b hb => by simp [Heap.get] at hb, fun r r' b b' v v' hb => by simp [Heap.get] at hb⟩ hl ha (fun p hp => by simp at hp)
  refine (calls_drawn h0 (fun e w' hx => by obtain ⟨x, _, _, _, _, he, _⟩ := hx; exact ⟨x, he⟩)).mono ?_
  rintro e w' ⟨⟨x, r', h1, St', g', rfl, ⟨rfl, rfl⟩, hW, hR, _⟩, hd⟩
  cases hR
  exact ⟨rfl, heap_grow hW.frm.os hW.frm.tape hW.frm.output hW.frm.size (fun k hk => hW.frm.block k hk id) hd⟩
end Go.Abs
namespace Go.Abs
open Go Go.RowKit Go.Sort Go.Proofs

def sortO {α : Type} (ky : α → Nat) (l : List α) : Option (List α) := if l.length ≤ 140737488355328 then some (isortK ky l) else none

theorem sort_spec {P : Program} {f g : FuncId} {α : Type} [Inhabited α] (enc : α → Value) (ev : α → V) (t : TypeId) (dflt : α) (ky : α → Nat)
    (hz : ∀ (p : Option Addr) (cap : Nat) (fv : Value) (w : World), Calls P f #[.slice p 0 cap, fv] w fun e w' => e = .returned (.tuple #[]) ∧ w' = w)
    (hs : ∀ (blk off cap : Nat) (d : Array α) (w : World), Holds enc w blk off d → blk < w.heap.size → d.size < 4611686018427387904 →
      Calls P f #[.slice (some ⟨blk, off, none⟩) d.size cap, .func (.func g) #[] #[]] w fun e w' => e = .returned (.tuple #[]) ∧ ∃ n os, w' = sortWorld enc w blk off n (isortK ky d.toList).toArray os)
    (hre : ∀ (St : Nat → Prop) (w : World) (x : α), Rel St w noGh (ev x) (enc x)) (hri : ∀ (St : Nat → Prop) (w : World) (x : α) (v : Value), Rel St w noGh (ev x) v → v = enc x)
    (h1 : ∀ x, (enc x).oneCell' = true) (l r : List α) (h : sortO ky l = some r) :
    Spec1 P f [] [2000] [(2000, bL t 1 (fun x => [ev x]) dflt l)] [.own 2000, .fn (.func g) []] (.tup []) [(2000, bL t 1 (fun x => [ev x]) dflt r)] := by
  unfold sortO at h
  split at h
  case isFalse => cases h
  rename_i hll
  cases h
  intro z vals hW hl hr _
  have e0 := hr 0 (by simp)
  have e1 := hr 1 (by simp)
  simp only [List.getD_cons_zero, List.getD_cons_succ] at e0 e1
  have hv : vals = #[vals.getD 0 undef, vals.getD 1 undef] := by
    apply Array.ext
    · simpa using hl
    · intro i h1 h2
      have : i = 0 ∨ i = 1 := by simp at h2; omega
      rcases this with rfl | rfl <;> simp [h1]
  rw [hv]
  generalize vals.getD 0 undef = u at e0
  generalize vals.getD 1 undef = u1 at e1
  cases e1 with
  | fn _ _ _ vs hvs _ =>
  obtain rfl : vs = #[] := Array.size_eq_zero_iff.1 hvs
  cases e0 with
  | own _ _ _ hg ho =>
  obtain ⟨v, hgv, xs, hown, hrel, hone⟩ := hW.ok 2000 _ (by simp [Heap.get]; rfl)
  rw [hg] at hgv
  cases hgv
  obtain ⟨hxs, hcase⟩ := hown
  have htup : ∀ (St : Nat → Prop) (w : World) (g : Gh), Rel St w g (.tup []) (.tuple #[]) := fun St w g => .tup g [] #[] rfl (fun i hi => by simp at hi)
  rcases hcase with ⟨rfl, hn⟩ | ⟨b, cap, cur, rfl, hb0, hb, hnc, hcm, hcs, htk⟩
  · refine (hz _ _ _ z.w).mono ?_
    rintro e w' ⟨rfl, rfl⟩
    rw [List.length_eq_zero_iff.1 hn] at hW ⊢
    exact ⟨_, _, _, z.St, z.g, rfl, ⟨rfl, by simp [isortK]⟩, hW, htup _ _ _, by simp⟩
  · have hbs : b < z.w.heap.size := (Array.getElem?_eq_some_iff.1 hb).1
    have hcur : ∀ j (hj : j < l.length), cur[j]? = some (enc l[j]) := by
      intro j hj
      have hjx : j < xs.length := by omega
      have h2 : cur.toList[j]? = xs[j]? := by rw [← htk, List.getElem?_take]; simp; omega
      have h3 := hrel j 0 hj (by decide)
      simp only [encF, List.getD_cons_zero] at h3
      have h4 := hri _ _ _ _ h3
      rw [← Array.getElem?_toList, h2]
      simp [List.getD_eq_getElem?_getD, hj, hjx] at h4 ⊢
      exact h4
    have hH : Holds enc z.w b 0 l.toArray := by
      intro j hj
      have hj : j < l.length := by simpa using hj
      refine ⟨?_, ?_⟩
      · simp only [World.cell?, hb, Nat.zero_add]
        simp [hcur j hj, hj]
      · simp [World.frozen?, hb]
    have hc := hs b 0 cap l.toArray z.w hH hbs (by simp; omega)
    rw [List.size_toArray] at hc
    refine hc.mono ?_
    rintro e w' ⟨rfl, m, os, rfl⟩
    have hlen : (isortK ky l).length = l.length := (isortK_perm l).length_eq
    have hblk : ∀ k, k < z.w.heap.size → (sortWorld enc z.w b 0 m (isortK ky l).toArray os).heap[k]? = (if b = k then (z.w.heap[k]?).map (onCells (putCells enc 0 (isortK ky l).toArray)) else z.w.heap[k]?) := by
      intro k hk
      unfold sortWorld
      rw [heap_grow_old _ _ (by simpa using hk)]
      simp only [putRow, mapBlock, heap_ahead, Array.getElem?_modify]
    have hself := hblk b hbs
    rw [if_pos rfl, hb] at hself
    simp only [Option.map_some, onCells] at hself
    have hother : ∀ k, k < z.w.heap.size → k ≠ b → (sortWorld enc z.w b 0 m (isortK ky l).toArray os).heap[k]? = z.w.heap[k]? := fun k hk hne => by rw [hblk k hk, if_neg (Ne.symm hne)]
    have hO := hW.ow 2000 _ _ (by simp [Heap.get]; rfl) hg b rfl
    have hsz : (sortWorld enc z.w b 0 m (isortK ky l).toArray os).heap.size = z.w.heap.size + os.size := by simp [sortWorld]
    refine ⟨_, _, _, z.St, z.g, rfl, ⟨rfl, rfl⟩, ⟨⟨rfl, rfl, rfl, by rw [hsz]; omega, fun k hk hno => hother k hk (fun e => hno (e ▸ hO.2.elim id (fun h => absurd h (by omega))))⟩, fun _ h => h, fun k hk => ⟨by rw [hsz]; have := (hW.st1 k hk).1; omega, .inl hk⟩, ?_, ?_, ?_⟩, htup _ _ _, by simp⟩
    · intro r bb v hbb hgr k hk
      simp only [Heap.get] at hbb
      split at hbb
      · rename_i e; subst e
        rw [hg] at hgr; cases hgr
        exact hW.ow 2000 _ _ (by simp [Heap.get]; rfl) hg k hk
      · cases hbb
    · intro r bb hbb
      simp only [Heap.get] at hbb
      split at hbb
      · rename_i e; subst e
        cases hbb
        refine ⟨_, hg, (isortK ky l).map enc, ⟨by simp [hlen], .inr ⟨b, cap, putCells enc 0 (isortK ky l).toArray cur, by rw [hlen], hb0, hself, by omega, hcm, by simp [putCells, hcs], ?_⟩⟩, ?_, ?_⟩
        · apply List.ext_getElem?
          intro k
          rw [List.getElem?_take, Array.getElem?_toList]
          simp only [putCells, Array.getElem?_mapIdx, List.size_toArray, Nat.zero_le, true_and, Nat.zero_add, Nat.sub_zero, Nat.mul_one, List.getElem?_map]
          by_cases hk : k < (isortK ky l).length
          · have hkc : k < cur.size := by omega
            simp [hk, hkc]
          · simp [hk]
        · intro i j hi hj
          obtain rfl : j = 0 := by omega
          simp only [encF, List.getD_cons_zero, Nat.mul_one, Nat.add_zero]
          have : ((isortK ky l).map enc).getD i undef = enc ((isortK ky l).getD i dflt) := by simp [List.getD_eq_getElem?_getD, hi]
          rw [this]
          exact hre _ _ _
        · intro x hx
          obtain ⟨y, _, rfl⟩ := List.mem_map.1 hx
          exact h1 y
      · cases hbb
    · intro r r' bb bb' v v' hbb hbb' _ _ hne
      simp only [Heap.get] at hbb hbb'
      split at hbb
      · split at hbb'
        · exact absurd (by omega) hne
        · cases hbb'
      · cases hbb
end Go.Abs
namespace Go.Abs
open Go Go.RowKit Go.Sort Go.Proofs

theorem getBang_getD (l : List Value) (j : Nat) (h : j < l.length) : l[j]! = l.getD j undef := by simp [List.getD_eq_getElem?_getD, h]
theorem sort_specK {P : Program} {f g : FuncId} {α : Type} [Inhabited α] (k : Nat) (hk0 : 0 < k) (enc : α → List Value) (hk : ∀ x, (enc x).length = k) (ev : α → List V) (t : TypeId) (dflt : α) (ky : α → Nat)
    (hz : ∀ (p : Option Addr) (cap : Nat) (fv : Value) (w : World), Calls P f #[.slice p 0 cap, fv] w fun e w' => e = .returned (.tuple #[]) ∧ w' = w)
    (hs : ∀ (blk off cap : Nat) (d : Array α) (w : World), HoldsK enc k w blk off d → blk < w.heap.size → d.size < 4611686018427387904 →
      Calls P f #[.slice (some ⟨blk, off, none⟩) d.size cap, .func (.func g) #[] #[]] w fun e w' => e = .returned (.tuple #[]) ∧ ∃ n os, w' = sortWorldK enc k w blk off n (isortK ky d.toList).toArray os)
    (hre : ∀ (St : Nat → Prop) (w : World) (x : α) (j : Nat), j < k → Rel St w noGh ((ev x).getD j .any) ((enc x).getD j undef))
    (hri : ∀ (St : Nat → Prop) (w : World) (x : α) (j : Nat) (v : Value), j < k → Rel St w noGh ((ev x).getD j .any) v → v = (enc x).getD j undef)
    (h1 : ∀ x v, v ∈ enc x → v.oneCell' = true) (l r : List α) (h : sortO ky l = some r) :
    Spec1 P f [] [2000] [(2000, bL t k ev dflt l)] [.own 2000, .fn (.func g) []] (.tup []) [(2000, bL t k ev dflt r)] := by
  unfold sortO at h
  split at h
  case isFalse => cases h
  rename_i hll
  cases h
  intro z vals hW hl hr _
  have e0 := hr 0 (by simp)
  have e1 := hr 1 (by simp)
  simp only [List.getD_cons_zero, List.getD_cons_succ] at e0 e1
  have hv : vals = #[vals.getD 0 undef, vals.getD 1 undef] := by
    apply Array.ext
    · simpa using hl
    · intro i h1 h2
      have : i = 0 ∨ i = 1 := by simp at h2; omega
      rcases this with rfl | rfl <;> simp [h1]
  rw [hv]
  generalize vals.getD 0 undef = u at e0
  generalize vals.getD 1 undef = u1 at e1
  cases e1 with
  | fn _ _ _ vs hvs _ =>
  obtain rfl : vs = #[] := Array.size_eq_zero_iff.1 hvs
  cases e0 with
  | own _ _ _ hg ho =>
  obtain ⟨v, hgv, xs, hown, hrel, hone⟩ := hW.ok 2000 _ (by simp [Heap.get]; rfl)
  rw [hg] at hgv
  cases hgv
  obtain ⟨hxs, hcase⟩ := hown
  have htup : ∀ (St : Nat → Prop) (w : World) (g : Gh), Rel St w g (.tup []) (.tuple #[]) := fun St w g => .tup g [] #[] rfl (fun i hi => by simp at hi)
  rcases hcase with ⟨rfl, hn⟩ | ⟨b, cap, cur, rfl, hb0, hb, hnc, hcm, hcs, htk⟩
  · refine (hz _ _ _ z.w).mono ?_
    rintro e w' ⟨rfl, rfl⟩
    rw [List.length_eq_zero_iff.1 hn] at hW ⊢
    exact ⟨_, _, _, z.St, z.g, rfl, ⟨rfl, by simp [isortK]⟩, hW, htup _ _ _, by simp⟩
  · have hbs : b < z.w.heap.size := (Array.getElem?_eq_some_iff.1 hb).1
    have hdiv : ∀ i j, j < k → (i * k + j) / k = i ∧ (i * k + j) % k = j := by
      intro i j hj
      constructor
      · rw [Nat.mul_comm, Nat.mul_add_div hk0, Nat.div_eq_of_lt hj]; rfl
      · rw [Nat.mul_comm, Nat.mul_add_mod, Nat.mod_eq_of_lt hj]
    have hlt : ∀ t n, t < n * k → t / k < n := fun t n ht => (Nat.div_lt_iff_lt_mul hk0).2 ht
    have hcur : ∀ q, q < l.length * k → cur[q]? = some ((flatK enc k l.toArray)[q]!) := by
      intro q hq
      have hi := hlt q _ hq
      have hj := Nat.mod_lt q hk0
      have hq' : q / k * k + q % k = q := Nat.div_add_mod' q k
      have hjx : q < xs.length := by omega
      have h2 : cur.toList[q]? = xs[q]? := by rw [← htk, List.getElem?_take, if_pos hq]
      have h3 := hrel (q / k) (q % k) hi hj
      simp only [encF] at h3
      have h4 := hri _ _ _ _ _ hj h3
      rw [hq'] at h4
      rw [← Array.getElem?_toList, h2, get_flatK _ _ _ _ (by simpa using hq)]
      have h5 : q % k < (enc (l.getD (q / k) dflt)).length := by rw [hk]; exact hj
      have h6 : l.toArray[q / k]! = l.getD (q / k) dflt := by simp [List.getD_eq_getElem?_getD, hi]
      rw [h6, List.getElem?_eq_getElem hjx]
      have h7 : xs.getD q undef = xs[q] := by simp [List.getD_eq_getElem?_getD, hjx]
      rw [← h7, h4, getBang_getD _ _ h5]
    have hH : HoldsK enc k z.w b 0 l.toArray := by
      intro j hj
      have hj : j < l.length * k := by simpa using hj
      refine ⟨?_, ?_⟩
      · simp only [World.cell?, hb, Nat.zero_add]
        simpa using hcur j hj
      · simp [World.frozen?, hb]
    have hc := hs b 0 cap l.toArray z.w hH hbs (by simp; omega)
    rw [List.size_toArray] at hc
    refine hc.mono ?_
    rintro e w' ⟨rfl, m, os, rfl⟩
    have hlen : (isortK ky l).length = l.length := (isortK_perm l).length_eq
    have hfs : (flatK enc k (isortK ky l).toArray).size = l.length * k := by simp [hlen]
    generalize hF : flatK enc k (isortK ky l).toArray = F at hfs
    have hwd : sortWorldK enc k z.w b 0 m (isortK ky l).toArray os = Go.Sort.grow (putRow id (Sort.ahead z.w m) b 0 F) os := by rw [← hF]; rfl
    rw [hwd]
    have hblk : ∀ q, q < z.w.heap.size → (Go.Sort.grow (putRow id (Sort.ahead z.w m) b 0 F) os).heap[q]? = (if b = q then (z.w.heap[q]?).map (onCells (putCells id 0 F)) else z.w.heap[q]?) := by
      intro q hq
      rw [heap_grow_old _ _ (by simpa using hq)]
      simp only [putRow, mapBlock, heap_ahead, Array.getElem?_modify]
    have hself := hblk b hbs
    rw [if_pos rfl, hb] at hself
    simp only [Option.map_some, onCells] at hself
    have hother : ∀ q, q < z.w.heap.size → q ≠ b → (Go.Sort.grow (putRow id (Sort.ahead z.w m) b 0 F) os).heap[q]? = z.w.heap[q]? := fun q hq hne => by rw [hblk q hq, if_neg (Ne.symm hne)]
    have hO := hW.ow 2000 _ _ (by simp [Heap.get]; rfl) hg b rfl
    have hsz : (Go.Sort.grow (putRow id (Sort.ahead z.w m) b 0 F) os).heap.size = z.w.heap.size + os.size := by simp
    refine ⟨_, _, _, z.St, z.g, rfl, ⟨rfl, rfl⟩, ⟨⟨rfl, rfl, rfl, by rw [hsz]; omega, fun q hq hno => hother q hq (fun e => hno (e ▸ hO.2.elim id (fun h => absurd h (by omega))))⟩, fun _ h => h, fun q hq => ⟨by rw [hsz]; have := (hW.st1 q hq).1; omega, .inl hq⟩, ?_, ?_, ?_⟩, htup _ _ _, by simp⟩
    · intro r bb v hbb hgr q hq
      simp only [Heap.get] at hbb
      split at hbb
      · rename_i e; subst e
        rw [hg] at hgr; cases hgr
        exact hW.ow 2000 _ _ (by simp [Heap.get]; rfl) hg q hq
      · cases hbb
    · intro r bb hbb
      simp only [Heap.get] at hbb
      split at hbb
      · rename_i e; subst e
        cases hbb
        have hget : ∀ q, q < l.length * k → F[q]! = (enc ((isortK ky l).getD (q / k) dflt)).getD (q % k) undef := by
          intro q hq
          have hi := hlt q _ hq
          have hj := Nat.mod_lt q hk0
          rw [← hF, get_flatK _ _ _ _ (by simpa [hlen] using hq)]
          have hi2 : q / k < (isortK ky l).length := by omega
          have h6 : (isortK ky l).toArray[q / k]! = (isortK ky l).getD (q / k) dflt := by simp [List.getD_eq_getElem?_getD, hi2]
          rw [h6]
          have h5 : q % k < (enc ((isortK ky l).getD (q / k) dflt)).length := by rw [hk]; exact hj
          rw [getBang_getD _ _ h5]
        refine ⟨_, hg, F.toList, ⟨by simp [hfs, hlen], .inr ⟨b, cap, putCells id 0 F cur, by rw [hlen], hb0, hself, by omega, hcm, by simp [putCells, hcs], ?_⟩⟩, ?_, ?_⟩
        · have hle : l.length * k ≤ cap * k := Nat.mul_le_mul_right k hnc
          apply List.ext_getElem?
          intro q
          rw [List.getElem?_take, Array.getElem?_toList, Array.getElem?_toList, hlen]
          simp only [putCells, Array.getElem?_mapIdx, Nat.zero_le, true_and, Nat.zero_add, Nat.sub_zero]
          by_cases hq : q < l.length * k
          · have hqc : q < cur.size := by omega
            have hqf : q < F.size := by omega
            simp [hq, hqc, hqf]
          · have hqf : ¬ q < F.size := by omega
            simp [hq, hqf]
        · intro i j hi hj
          rw [hlen] at hi
          have hq : i * k + j < l.length * k := by
            have : (i + 1) * k ≤ l.length * k := Nat.mul_le_mul_right k hi
            rw [Nat.add_mul, Nat.one_mul] at this; omega
          have hqf : i * k + j < F.size := by omega
          have h8 : F.toList.getD (i * k + j) undef = F[i * k + j]! := by
            simp [List.getD_eq_getElem?_getD, hqf]
          rw [h8, hget _ hq, (hdiv i j hj).1, (hdiv i j hj).2]
          exact hre _ _ _ _ hj
        · intro x hx
          obtain ⟨q, hq, rfl⟩ := List.getElem_of_mem hx
          have hq' : q < l.length * k := by simpa [hfs] using hq
          have h9 : F.toList[q] = F[q]! := by
            have : q < F.size := by omega
            simp [this]
          rw [h9, hget q hq']
          have h5 : q % k < (enc ((isortK ky l).getD (q / k) dflt)).length := by rw [hk]; exact Nat.mod_lt q hk0
          apply h1 ((isortK ky l).getD (q / k) dflt)
          have h10 : (enc ((isortK ky l).getD (q / k) dflt)).getD (q % k) undef = (enc ((isortK ky l).getD (q / k) dflt))[q % k] := by
            rw [List.getD_eq_getElem?_getD (l := enc ((isortK ky l).getD (q / k) dflt)), List.getElem?_eq_getElem h5]; rfl
          rw [h10]
          exact List.getElem_mem h5
      · cases hbb
    · intro r r' bb bb' v v' hbb hbb' _ _ hne
      simp only [Heap.get] at hbb hbb'
      split at hbb
      · split at hbb'
        · exact absurd (by omega) hne
        · cases hbb'
      · cases hbb
end Go.Abs
namespace Go.Proofs
open Go.Shelf
def Tryz.lays156_ren : Go.Shelf.Ren := ⟨fun | 156 => 62 | 165 => 84 | 166 => 85 | 169 => 86 | 240 => 103 | 241 => 104 | 276 => 138 | 277 => 139 | n => n, fun | 31 => 71 | 9 => 9 | 3 => 3 | 4 => 4 | 0 => 0 | 20 => 20 | 72 => 95 | 76 => 99 | 70 => 92 | 37 => 93 | 75 => 98 | 127 => 118 | 164 => 141 | 5 => 5 | 80 => 101 | n => n, fun | n => n⟩
theorem Tryz.lays156 : Go.Proofs.Lays.n156 Tryz.prog Tryz.lays156_ren := {
  mixed := by kernel_rfl
  f156 := Tryz.func62.trans (congrArg some (by kernel_rfl))
  f165 := Tryz.func84.trans (congrArg some (by kernel_rfl))
  f166 := Tryz.func85.trans (congrArg some (by kernel_rfl))
  f169 := Tryz.func86.trans (congrArg some (by kernel_rfl))
  f240 := Tryz.func103.trans (congrArg some (by kernel_rfl))
  f241 := Tryz.func104.trans (congrArg some (by kernel_rfl))
  f276 := Tryz.func138.trans (congrArg some (by kernel_rfl))
  f277 := Tryz.func139.trans (congrArg some (by kernel_rfl))
  t0 := Tryz.underlying0
  a0 := Tryz.isAgg0
  z0 := Tryz.sizeOf0
  v0 := Tryz.zeroValue0
  t3 := Tryz.underlying3
  a3 := Tryz.isAgg3
  z3 := Tryz.sizeOf3
  v3 := Tryz.zeroValue3
  t4 := Tryz.underlying4
  a4 := Tryz.isAgg4
  z4 := Tryz.sizeOf4
  v4 := Tryz.zeroValue4
  t9 := Tryz.underlying9
  a9 := Tryz.isAgg9
  z9 := Tryz.sizeOf9
  v9 := Tryz.zeroValue9
  t20 := Tryz.underlying20
  a20 := Tryz.isAgg20
  z20 := Tryz.sizeOf20
  v20 := Tryz.zeroValue20
  t31 := Tryz.underlying71
  a31 := Tryz.isAgg71
  z31 := Tryz.sizeOf71
  v31 := Tryz.zeroValue71
  t37 := Tryz.underlying93
  a37 := Tryz.isAgg93
  z37 := Tryz.sizeOf93
  v37 := Tryz.zeroValue93
  t70 := Tryz.underlying92
  a70 := Tryz.isAgg92
  z70 := Tryz.sizeOf92
  v70 := Tryz.zeroValue92
  t72 := Tryz.underlying95
  a72 := Tryz.isAgg95
  z72 := Tryz.sizeOf95
  v72 := Tryz.zeroValue95
  t75 := Tryz.underlying98
  a75 := Tryz.isAgg98
  z75 := Tryz.sizeOf98
  v75 := Tryz.zeroValue98
  t76 := Tryz.underlying99
  a76 := Tryz.isAgg99
  z76 := Tryz.sizeOf99
  v76 := Tryz.zeroValue99
  t127 := Tryz.underlying118
  a127 := Tryz.isAgg118
  z127 := Tryz.sizeOf118
  v127 := Tryz.zeroValue118
  t164 := Tryz.underlying141
  a164 := Tryz.isAgg141
  z164 := Tryz.sizeOf141
  v164 := Tryz.zeroValue141 }
def Tryz.sortSet_ren : Go.Shelf.Ren := ⟨fun | 6 => 64 | 15 => 89 | 14 => 88 | 28 => 113 | 29 => 114 | 20 => 105 | 21 => 106 | 22 => 107 | 23 => 108 | 24 => 109 | 25 => 110 | 26 => 111 | 27 => 112 | 46 => 140 | 47 => 141 | 48 => 142 | 49 => 143 | 50 => 144 | 57 => 157 | n => n, fun | 22 => 46 | 24 => 28 | 25 => 75 | 3 => 3 | 39 => 104 | 0 => 0 | 53 => 115 | 55 => 129 | 4 => 4 | 46 => 121 | 45 => 120 | 50 => 125 | 5 => 5 | 9 => 9 | 66 => 144 | 70 => 148 | 76 => 162 | 77 => 163 | n => n, fun | n => n⟩
theorem Tryz.sortSet : Go.Proofs.SlLaysF.n6 Tryz.prog Tryz.sortSet_ren := {
  mixed := by kernel_rfl
  f6 := ⟨Tryz.f64.name, by decide, Tryz.func64.trans (congrArg some (by kernel_rfl))⟩
  f14 := ⟨Tryz.f88.name, by decide, Tryz.func88.trans (congrArg some (by kernel_rfl))⟩
  f15 := Tryz.func89.trans (congrArg some (by kernel_rfl))
  f20 := ⟨Tryz.f105.name, by decide, Tryz.func105.trans (congrArg some (by kernel_rfl))⟩
  f21 := ⟨Tryz.f106.name, by decide, Tryz.func106.trans (congrArg some (by kernel_rfl))⟩
  f22 := ⟨Tryz.f107.name, by decide, Tryz.func107.trans (congrArg some (by kernel_rfl))⟩
  f23 := ⟨Tryz.f108.name, by decide, Tryz.func108.trans (congrArg some (by kernel_rfl))⟩
  f24 := ⟨Tryz.f109.name, by decide, Tryz.func109.trans (congrArg some (by kernel_rfl))⟩
  f25 := ⟨Tryz.f110.name, by decide, Tryz.func110.trans (congrArg some (by kernel_rfl))⟩
  f26 := ⟨Tryz.f111.name, by decide, Tryz.func111.trans (congrArg some (by kernel_rfl))⟩
  f27 := ⟨Tryz.f112.name, by decide, Tryz.func112.trans (congrArg some (by kernel_rfl))⟩
  f28 := Tryz.func113.trans (congrArg some (by kernel_rfl))
  f29 := Tryz.func114.trans (congrArg some (by kernel_rfl))
  f46 := ⟨Tryz.f140.name, by decide, Tryz.func140.trans (congrArg some (by kernel_rfl))⟩
  f47 := Tryz.func141.trans (congrArg some (by kernel_rfl))
  f48 := Tryz.func142.trans (congrArg some (by kernel_rfl))
  f49 := ⟨Tryz.f143.name, by decide, Tryz.func143.trans (congrArg some (by kernel_rfl))⟩
  f50 := ⟨Tryz.f144.name, by decide, Tryz.func144.trans (congrArg some (by kernel_rfl))⟩
  f57 := ⟨Tryz.f157.name, by decide, Tryz.func157.trans (congrArg some (by kernel_rfl))⟩
  t0 := Tryz.underlying0
  a0 := Tryz.isAgg0
  z0 := Tryz.sizeOf0
  v0 := Tryz.zeroValue0
  t3 := Tryz.underlying3
  a3 := Tryz.isAgg3
  z3 := Tryz.sizeOf3
  v3 := Tryz.zeroValue3
  t4 := Tryz.underlying4
  a4 := Tryz.isAgg4
  z4 := Tryz.sizeOf4
  v4 := Tryz.zeroValue4
  t5 := Tryz.underlying5
  a5 := Tryz.isAgg5
  z5 := Tryz.sizeOf5
  v5 := Tryz.zeroValue5
  t9 := Tryz.underlying9
  a9 := Tryz.isAgg9
  z9 := Tryz.sizeOf9
  v9 := Tryz.zeroValue9
  t22 := Tryz.underlying46
  a22 := Tryz.isAgg46
  z22 := Tryz.sizeOf46
  v22 := Tryz.zeroValue46
  a24 := Tryz.isAgg28
  z24 := Tryz.sizeOf28
  t25 := Tryz.underlying75
  a25 := Tryz.isAgg75
  z25 := Tryz.sizeOf75
  v25 := Tryz.zeroValue75
  t39 := Tryz.underlying104
  a39 := Tryz.isAgg104
  z39 := Tryz.sizeOf104
  v39 := Tryz.zeroValue104
  t45 := Tryz.underlying120
  a45 := Tryz.isAgg120
  z45 := Tryz.sizeOf120
  v45 := Tryz.zeroValue120
  t46 := Tryz.underlying121
  a46 := Tryz.isAgg121
  z46 := Tryz.sizeOf121
  v46 := Tryz.zeroValue121
  t50 := Tryz.underlying125
  a50 := Tryz.isAgg125
  z50 := Tryz.sizeOf125
  v50 := Tryz.zeroValue125
  t53 := Tryz.underlying115
  a53 := Tryz.isAgg115
  z53 := Tryz.sizeOf115
  v53 := Tryz.zeroValue115
  t55 := Tryz.underlying129
  a55 := Tryz.isAgg129
  z55 := Tryz.sizeOf129
  v55 := Tryz.zeroValue129
  t66 := Tryz.underlying144
  a66 := Tryz.isAgg144
  z66 := Tryz.sizeOf144
  v66 := Tryz.zeroValue144
  t70 := Tryz.underlying148
  a70 := Tryz.isAgg148
  z70 := Tryz.sizeOf148
  v70 := Tryz.zeroValue148
  t76 := Tryz.underlying162
  a76 := Tryz.isAgg162
  z76 := Tryz.sizeOf162
  v76 := Tryz.zeroValue162
  t77 := Tryz.underlying163
  a77 := Tryz.isAgg163
  z77 := Tryz.sizeOf163
  v77 := Tryz.zeroValue163 }
def Tryz.sortFlt_ren : Go.Shelf.Ren := ⟨fun | 6 => 79 | 15 => 89 | 14 => 101 | 28 => 113 | 29 => 114 | 20 => 129 | 21 => 130 | 22 => 131 | 23 => 132 | 24 => 133 | 25 => 134 | 26 => 135 | 27 => 136 | 46 => 153 | 47 => 141 | 48 => 142 | 49 => 154 | 50 => 155 | 57 => 167 | n => n, fun | 22 => 22 | 24 => 30 | 25 => 56 | 3 => 3 | 39 => 104 | 0 => 0 | 53 => 115 | 55 => 129 | 4 => 4 | 46 => 121 | 45 => 120 | 50 => 125 | 5 => 5 | 9 => 9 | 66 => 144 | 70 => 148 | 76 => 162 | 77 => 163 | n => n, fun | n => n⟩
theorem Tryz.sortFlt : Go.Proofs.SlLaysF0.n6 Tryz.prog Tryz.sortFlt_ren := {
  mixed := by kernel_rfl
  f6 := ⟨Tryz.f79.name, by decide, Tryz.func79.trans (congrArg some (by kernel_rfl))⟩
  f14 := ⟨Tryz.f101.name, by decide, Tryz.func101.trans (congrArg some (by kernel_rfl))⟩
  f15 := Tryz.func89.trans (congrArg some (by kernel_rfl))
  f20 := ⟨Tryz.f129.name, by decide, Tryz.func129.trans (congrArg some (by kernel_rfl))⟩
  f21 := ⟨Tryz.f130.name, by decide, Tryz.func130.trans (congrArg some (by kernel_rfl))⟩
  f22 := ⟨Tryz.f131.name, by decide, Tryz.func131.trans (congrArg some (by kernel_rfl))⟩
  f23 := ⟨Tryz.f132.name, by decide, Tryz.func132.trans (congrArg some (by kernel_rfl))⟩
  f24 := ⟨Tryz.f133.name, by decide, Tryz.func133.trans (congrArg some (by kernel_rfl))⟩
  f25 := ⟨Tryz.f134.name, by decide, Tryz.func134.trans (congrArg some (by kernel_rfl))⟩
  f26 := ⟨Tryz.f135.name, by decide, Tryz.func135.trans (congrArg some (by kernel_rfl))⟩
  f27 := ⟨Tryz.f136.name, by decide, Tryz.func136.trans (congrArg some (by kernel_rfl))⟩
  f28 := Tryz.func113.trans (congrArg some (by kernel_rfl))
  f29 := Tryz.func114.trans (congrArg some (by kernel_rfl))
  f46 := ⟨Tryz.f153.name, by decide, Tryz.func153.trans (congrArg some (by kernel_rfl))⟩
  f47 := Tryz.func141.trans (congrArg some (by kernel_rfl))
  f48 := Tryz.func142.trans (congrArg some (by kernel_rfl))
  f49 := ⟨Tryz.f154.name, by decide, Tryz.func154.trans (congrArg some (by kernel_rfl))⟩
  f50 := ⟨Tryz.f155.name, by decide, Tryz.func155.trans (congrArg some (by kernel_rfl))⟩
  f57 := ⟨Tryz.f167.name, by decide, Tryz.func167.trans (congrArg some (by kernel_rfl))⟩
  t0 := Tryz.underlying0
  a0 := Tryz.isAgg0
  z0 := Tryz.sizeOf0
  v0 := Tryz.zeroValue0
  t3 := Tryz.underlying3
  a3 := Tryz.isAgg3
  z3 := Tryz.sizeOf3
  v3 := Tryz.zeroValue3
  t4 := Tryz.underlying4
  a4 := Tryz.isAgg4
  z4 := Tryz.sizeOf4
  v4 := Tryz.zeroValue4
  t5 := Tryz.underlying5
  a5 := Tryz.isAgg5
  z5 := Tryz.sizeOf5
  v5 := Tryz.zeroValue5
  t9 := Tryz.underlying9
  a9 := Tryz.isAgg9
  z9 := Tryz.sizeOf9
  v9 := Tryz.zeroValue9
  t22 := Tryz.underlying22
  a22 := Tryz.isAgg22
  z22 := Tryz.sizeOf22
  v22 := Tryz.zeroValue22
  t25 := Tryz.underlying56
  a25 := Tryz.isAgg56
  z25 := Tryz.sizeOf56
  v25 := Tryz.zeroValue56
  t39 := Tryz.underlying104
  a39 := Tryz.isAgg104
  z39 := Tryz.sizeOf104
  v39 := Tryz.zeroValue104
  t45 := Tryz.underlying120
  a45 := Tryz.isAgg120
  z45 := Tryz.sizeOf120
  v45 := Tryz.zeroValue120
  t46 := Tryz.underlying121
  a46 := Tryz.isAgg121
  z46 := Tryz.sizeOf121
  v46 := Tryz.zeroValue121
  t50 := Tryz.underlying125
  a50 := Tryz.isAgg125
  z50 := Tryz.sizeOf125
  v50 := Tryz.zeroValue125
  t53 := Tryz.underlying115
  a53 := Tryz.isAgg115
  z53 := Tryz.sizeOf115
  v53 := Tryz.zeroValue115
  t55 := Tryz.underlying129
  a55 := Tryz.isAgg129
  z55 := Tryz.sizeOf129
  v55 := Tryz.zeroValue129
  t66 := Tryz.underlying144
  a66 := Tryz.isAgg144
  z66 := Tryz.sizeOf144
  v66 := Tryz.zeroValue144
  t70 := Tryz.underlying148
  a70 := Tryz.isAgg148
  z70 := Tryz.sizeOf148
  v70 := Tryz.zeroValue148
  t76 := Tryz.underlying162
  a76 := Tryz.isAgg162
  z76 := Tryz.sizeOf162
  v76 := Tryz.zeroValue162
  t77 := Tryz.underlying163
  a77 := Tryz.isAgg163
  z77 := Tryz.sizeOf163
  v77 := Tryz.zeroValue163 }
theorem Tryz.Builder_Extra_156 : Builder.Extra Tryz.prog Tryz.lays156_ren := {
  sizeBuilder := by kernel_rfl
  liesBuilder := by kernel_rfl
  t5 := Tryz.underlying5
  a5 := Tryz.isAgg5
  z5 := Tryz.sizeOf5
  v5 := Tryz.zeroValue5
  infoByte := by kernel_rfl
  cellsByte := by kernel_rfl
  sizeByte := by kernel_rfl
  neB5 := by decide }
end Go.Proofs
namespace Go.Abs
open Go Go.Proofs Go.RowKit Go.Sort
set_option maxHeartbeats 4000000
theorem swoS : SWO (ltOf cmpS) where
  irrefl x := by
    have h := ltS_key (a := x) (b := x)
    unfold ltOf; rw [cmpS_lt]; simpa using h
  trans x y z h1 h2 := by
    unfold ltOf at *; rw [cmpS_lt, ltS_key] at *; omega
  ntrans x y z h1 h2 := by
    unfold ltOf at *; rw [cmpS_lt] at *
    rw [Bool.eq_false_iff, Ne, ltS_key] at *; omega
theorem key_inj (x y : BitVec 16) (h : key x = key y) : x = y := by
  have h1 := x.isLt
  have h2 := y.isLt
  unfold key at h
  exact BitVec.eq_of_toNat_eq (by omega)
theorem sortS (l r : List (BitVec 16)) (h : sortO key l = some r) : Spec1 Tryz.prog 64 [] [2000] [(2000, bL 28 1 (fun x => [.b16 x]) 0#16 l)] [.own 2000, .fn (.func 65) []] (.tup []) [(2000, bL 28 1 (fun x => [.b16 x]) 0#16 r)] := by
  have hI := isortK_eq (k := key) key_inj (lt := ltOf cmpS) (fun x y => by unfold ltOf; rw [cmpS_lt, ltS_key])
  refine sort_spec (fun x : BitVec 16 => .int .u16 (x.toNat : Int)) (fun x => .b16 x) 28 0#16 key ?_ ?_ (fun _ _ x => .b16 _ x) (fun _ _ x v h => by cases h; rfl) (fun _ => rfl) l r h
  · exact fun p cap fv w => AnyF.slices_SortFunc_none (P := Tryz.prog) (ρ := Tryz.sortSet_ren) { Tryz.sortSet with } p cap fv w
  · intro blk off cap d w hH hb hd
    have eg : ∀ args w, (callFunc 65 args).run Tryz.prog w = .ok (.enter 65 args) w := enters_of Tryz.func65 (by kernel_rfl) rfl
    have := Any.slices_SortFunc_total Tryz.sortSet (fun x : BitVec 16 => .int .u16 (x.toNat : Int)) (fun _ => rfl) cmpS swoS 65 #[] blk off cap d w eg (fun m os dk _ x y => by
      exact calls_grow (f65_ok x y _ (f65_eq' x y)) _ rfl (fun i hi => match i, hi with | 0, _ => .b16 _ x | 1, _ => .b16 _ y)) hH hb hd (fun x y h1 h2 => by
      have e1 := ltS_key (a := x) (b := y)
      have e2 := ltS_key (a := y) (b := x)
      unfold ltOf at h1 h2
      rw [cmpS_lt] at h1 h2
      rw [h1] at e1; rw [h2] at e2
      simp at e1 e2
      exact key_inj x y (by omega))
    rw [hI] at this
    exact this
theorem swoF : SWO (ltOf cmpF) where
  irrefl x := by unfold ltOf; rw [cmpF_lt]; simp
  trans x y z h1 h2 := by unfold ltOf at *; rw [cmpF_lt] at *; simp at *; omega
  ntrans x y z h1 h2 := by unfold ltOf at *; rw [cmpF_lt] at *; simp at *; omega
def encFl (x : Flt) : List Value := [.int .u16 (x.1.toNat : Int), .int .u16 (x.2.toNat : Int)]
theorem aggFl {St : Nat → Prop} {w : World} {g : Gh} (x : Flt) : Rel St w g (.agg [.b16 x.1, .b16 x.2]) (.agg #[.int .u16 (x.1.toNat : Int), .int .u16 (x.2.toNat : Int)]) :=
  .agg g _ _ rfl fun i hi => match i, hi with
    | 0, _ => .b16 _ x.1
    | 1, _ => .b16 _ x.2
theorem sortFl (l r : List Flt) (h : sortO keyF l = some r) : Spec1 Tryz.prog 79 [] [2000] [(2000, bL 30 2 (fun x : Flt => [.b16 x.1, .b16 x.2]) default l)] [.own 2000, .fn (.func 43) []] (.tup []) [(2000, bL 30 2 (fun x : Flt => [.b16 x.1, .b16 x.2]) default r)] := by
  have hI := isortK_eq (k := keyF) (fun _ _ => keyF_inj) (lt := ltOf cmpF) (fun x y => by unfold ltOf; rw [cmpF_lt]; simp)
  refine sort_specK 2 (by decide) encFl (fun _ => rfl) (fun x : Flt => [.b16 x.1, .b16 x.2]) 30 default keyF ?_ ?_ (fun _ _ x j hj => ?_) (fun _ _ x j v hj h => ?_) (fun x v hv => ?_) l r h
  · exact fun p cap fv w => AnyF.slices_SortFunc_none (P := Tryz.prog) (ρ := Tryz.sortFlt_ren) Tryz.sortFlt p cap fv w
  · intro blk off cap d w hH hb hd
    have eg : ∀ args w, (callFunc 43 args).run Tryz.prog w = .ok (.enter 43 args) w := enters_of Tryz.func43 (by kernel_rfl) rfl
    have := AnyQ.slices_SortFunc_total Tryz.sortFlt 2 Tryz.isAgg30 Tryz.sizeOf30 encFl (fun _ => rfl) (fun x v hv => by simp [encFl] at hv; rcases hv with rfl | rfl <;> rfl) cmpF swoF 43 #[] blk off cap d w eg (fun m os dk _ x y => by
      exact calls_grow (f43_ok x.1 x.2 y.1 y.2 _ (f43_eq' x y)) _ rfl (fun i hi => match i, hi with | 0, _ => aggFl x | 1, _ => aggFl y)) hH hb hd (fun x y h1 h2 => by
      unfold ltOf at h1 h2
      rw [cmpF_lt] at h1 h2
      simp at h1 h2
      exact keyF_inj (by omega))
    rw [hI] at this
    exact this
  · match j, hj with
    | 0, _ => exact .b16 _ _
    | 1, _ => exact .b16 _ _
  · match j, hj with
    | 0, _ => cases h; rfl
    | 1, _ => cases h; rfl
  · simp [encFl] at hv
    rcases hv with rfl | rfl <;> rfl
end Go.Abs
