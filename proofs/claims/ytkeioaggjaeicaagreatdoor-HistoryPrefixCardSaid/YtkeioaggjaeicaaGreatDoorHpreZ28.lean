/- Part 28 of the proof: Hist, Hist2, His57a, His57b, His57c, His57d, Aw57, His57e, His57f, His57g, His57h, His57i, His57j, Open9. -/
import Derived.Test.YtkeioaggjaeicaaGreatDoorHpreZ27
import Init
namespace Go.Hist
section
variable {σ : Type} (n : Nat) (ok : List Nat → Nat → Bool) (fin : List Nat → Bool) (stp : σ → Nat → Option σ)
/-- the first witness that begins with 'o', which leads to 's' -/
def srch : Nat → List Nat → σ → Option (List Nat)
  | 0, _, _ => none
  | k + 1, o, s => if fin o then some o else (List.range n).findSome? fun i => if o.contains i || !ok o i then none else (stp s i).bind (srch k (o ++ [i]))
/-- what is left -/
def left (o : List Nat) : Nat := (List.range n).countP fun i => !o.contains i
end
theorem countP_lt {α : Type} {p q : α → Bool} : ∀ {l : List α}, (∀ x ∈ l, q x = true → p x = true) → ∀ {a : α}, a ∈ l → p a = true → q a = false → l.countP q < l.countP p
  | [], _, _, ha, _, _ => by cases ha
  | b :: l, h, a, ha, hp, hq => by
    have hle : l.countP q ≤ l.countP p := List.countP_mono_left fun x hx => h x (List.mem_cons_of_mem _ hx)
    rw [List.countP_cons, List.countP_cons]
    rcases List.mem_cons.1 ha with rfl | ha
    · simp only [hp, hq, if_true, Bool.false_eq_true, if_false]; omega
    · have ih := countP_lt (fun x hx => h x (List.mem_cons_of_mem _ hx)) ha hp hq
      have hb := h b (List.mem_cons_self ..)
      by_cases h1 : q b = true
      · simp only [h1, hb h1, if_true]; omega
      · by_cases h2 : p b = true <;> simp [h1, h2] <;> omega
theorem left_lt {n : Nat} {o : List Nat} {i : Nat} (hi : i < n) (h : o.contains i = false) : left n (o ++ [i]) < left n o := by
  unfold left
  refine countP_lt (a := i) (fun x _ hx => ?_) (List.mem_range.2 hi) (by simpa using h) (by simp)
  simp at hx ⊢
  exact hx.1
theorem findSome_congr {α β : Type} {f g : α → Option β} : ∀ {l : List α}, (∀ x ∈ l, f x = g x) → l.findSome? f = l.findSome? g
  | [], _ => rfl
  | a :: l, h => by
    rw [List.findSome?_cons, List.findSome?_cons, h a (List.mem_cons_self ..), findSome_congr fun x hx => h x (List.mem_cons_of_mem _ hx)]
section
variable {σ : Type} {n : Nat} {ok : List Nat → Nat → Bool} {fin : List Nat → Bool} {stp : σ → Nat → Option σ}
/-- any fuel that suffices gives the same -/
theorem srch_fuel : ∀ (k k' : Nat) (o : List Nat) (s : σ), left n o < k → left n o < k' → srch n ok fin stp k o s = srch n ok fin stp k' o s
  | 0, _, _, _, h, _ => by omega
  | _, 0, _, _, _, h => by omega
  | k + 1, k' + 1, o, s, h, h' => by
    unfold srch
    split
    · rfl
    · refine findSome_congr fun i hi => ?_
      split
      · rfl
      · rename_i hc
        simp only [Bool.or_eq_true, not_or, Bool.not_eq_true] at hc
        have := left_lt (List.mem_range.1 hi) hc.1
        congr 1
        funext t
        exact srch_fuel k k' (o ++ [i]) t (by omega) (by omega)
end
section
variable {σ : Type} {n : Nat} {B : Nat → Nat → Bool} {comp : Nat → Bool} {stp : σ → Nat → Option σ}
/-- an operation may come where it precedes nothing that came -/
def okP (B : Nat → Nat → Bool) (o : List Nat) (i : Nat) : Bool := o.all fun x => !B i x
/-- an operation may come where nothing that is left precedes it -/
def okR (n : Nat) (B : Nat → Nat → Bool) (o : List Nat) (i : Nat) : Bool := (List.range n).all fun k => o.contains k || !B k i
def finC (n : Nat) (comp : Nat → Bool) (o : List Nat) : Bool := (List.range n).all fun i => !comp i || o.contains i
theorem finC_iff {o : List Nat} : finC n comp o = true ↔ ∀ i, i < n → comp i = true → i ∈ o := by
  unfold finC
  simp only [List.all_eq_true, List.mem_range, Bool.or_eq_true, Bool.not_eq_true', List.contains_eq_mem, decide_eq_true_eq]
  constructor
  · intro h i hi hc
    rcases h i hi with h | h
    · rw [h] at hc; cases hc
    · exact h
  · intro h i hi
    cases hc : comp i with
    | false => exact .inl rfl
    | true => exact .inr (h i hi hc)
theorem doomed (hB : ∀ a b, B a b = true → comp a = true) : ∀ (k : Nat) (o : List Nat) (s : σ) (a x : Nat), a < n → a ∉ o → x ∈ o → B a x = true → srch n (okP B) (finC n comp) stp k o s = none
  | 0, _, _, _, _, _, _, _, _ => rfl
  | k + 1, o, s, a, x, ha, hao, hx, hb => by
    unfold srch
    have hf : finC n comp o = false := by
      rw [Bool.eq_false_iff]
      intro h
      exact hao (finC_iff.1 h a ha (hB a x hb))
    simp only [hf, Bool.false_eq_true, if_false]
    rw [List.findSome?_eq_none_iff]
    intro i _
    split
    · rfl
    · rename_i hc
      simp only [Bool.or_eq_true, not_or, Bool.not_eq_true, Bool.not_eq_true'] at hc
      have hia : i ≠ a := by
        rintro rfl
        have h2 := List.all_eq_true.1 (show (o.all fun x => !B i x) = true from (by simpa using hc.2 : okP B o i = true)) x hx
        rw [hb] at h2; cases h2
      cases hs : stp s i with
      | none => rfl
      | some t => exact doomed hB k (o ++ [i]) t a x ha (by simp [hao, Ne.symm hia]) (by simp [hx]) hb
/-- both rules lead to the same witness -/
theorem srch_same (hB : ∀ a b, B a b = true → comp a = true) (hI : ∀ a, B a a = false) : ∀ (k : Nat) (o : List Nat) (s : σ), (∀ a, a < n → a ∉ o → ∀ x ∈ o, B a x = false) →
    srch n (okP B) (finC n comp) stp k o s = srch n (okR n B) (finC n comp) stp k o s
  | 0, _, _, _ => rfl
  | k + 1, o, s, hd => by
    unfold srch
    split
    · rfl
    · refine findSome_congr fun i hi => ?_
      have hi := List.mem_range.1 hi
      by_cases hio : i ∈ o
      · simp [hio]
      have hp : okP B o i = true := by
        unfold okP
        rw [List.all_eq_true]
        intro x hx
        rw [hd i hi hio x hx]; rfl
      cases hr : okR n B o i with
      | true =>
        simp only [hp]
        congr 1
        cases hs : stp s i with
        | none => rfl
        | some t =>
          refine srch_same hB hI k (o ++ [i]) t fun a ha hao x hx => ?_
          simp only [List.mem_append, List.mem_singleton, not_or] at hao hx
          rcases hx with hx | rfl
          · exact hd a ha hao.1 x hx
          · have h2 := List.all_eq_true.1 hr a (List.mem_range.2 ha)
            simp only [List.contains_eq_mem, Bool.or_eq_true, decide_eq_true_eq, Bool.not_eq_true'] at h2
            exact h2.resolve_left hao.1
      | false =>
        have h2 : ∃ a, a < n ∧ a ∉ o ∧ B a i = true := by
          unfold okR at hr
          rw [List.all_eq_false] at hr
          obtain ⟨a, ha, h3⟩ := hr
          simp only [List.contains_eq_mem, Bool.or_eq_true, decide_eq_true_eq, Bool.not_eq_true', not_or, Bool.not_eq_false] at h3
          exact ⟨a, List.mem_range.1 ha, h3.1, h3.2⟩
        obtain ⟨a, ha, hao, hb⟩ := h2
        have hai : a ≠ i := by rintro rfl; rw [hI a] at hb; cases hb
        simp only [hp, Bool.not_true, Bool.or_false, Bool.not_false, Bool.or_true, if_true]
        split
        · rfl
        · cases hs : stp s i with
          | none => rfl
          | some t => exact doomed hB k (o ++ [i]) t a i ha (by simp [hao, hai]) (by simp) hb
/-- whether there is a witness depends on the set alone -/
theorem srch_set {fin : List Nat → Bool} (hf : ∀ o o' : List Nat, (∀ x, x ∈ o ↔ x ∈ o') → fin o = fin o') : ∀ (k : Nat) (o o' : List Nat) (s : σ), (∀ x, x ∈ o ↔ x ∈ o') → (srch n (okP B) fin stp k o s).isSome = (srch n (okP B) fin stp k o' s).isSome
  | 0, _, _, _, _ => rfl
  | k + 1, o, o', s, h => by
    unfold srch
    rw [hf o o' h]
    split
    · rfl
    · rw [List.findSome?_isSome_iff.trans Iff.rfl |> fun e => Bool.eq_iff_iff.2 (e.trans ?_ |>.trans List.findSome?_isSome_iff.symm)]
      have e1 : ∀ i, o.contains i = o'.contains i := fun i => by simp only [List.contains_eq_mem]; rw [decide_eq_decide]; exact h i
      have e2 : ∀ i, okP B o i = okP B o' i := fun i => by
        unfold okP
        rw [Bool.eq_iff_iff]
        simp only [List.all_eq_true]
        exact ⟨fun hh x hx => hh x ((h x).2 hx), fun hh x hx => hh x ((h x).1 hx)⟩
      have e3 : ∀ i, (if (o.contains i || !okP B o i) = true then none else (stp s i).bind (srch n (okP B) fin stp k (o ++ [i]))).isSome = (if (o'.contains i || !okP B o' i) = true then none else (stp s i).bind (srch n (okP B) fin stp k (o' ++ [i]))).isSome := fun i => by
        rw [e1, e2]
        split
        · rfl
        · cases stp s i with
          | none => rfl
          | some t => exact srch_set hf k (o ++ [i]) (o' ++ [i]) t fun x => by simp [h x]
      constructor
      · rintro ⟨i, hi, h2⟩; exact ⟨i, hi, by rw [← e3]; exact h2⟩
      · rintro ⟨i, hi, h2⟩; exact ⟨i, hi, by rw [e3]; exact h2⟩
end
section
variable {σ : Type} (n : Nat) (B : Nat → Nat → Bool) (comp : Nat → Bool) (stp : σ → Nat → Option σ)
def runs : σ → List Nat → Option σ
  | s, [] => some s
  | s, i :: l => (stp s i).bind fun t => runs t l
/-- a witness -/
def Wit (s0 : σ) (w : List Nat) : Prop := (∀ x ∈ w, x < n) ∧ w.Nodup ∧ w.Pairwise (fun x y => B y x = false) ∧ (∀ i, i < n → comp i = true → i ∈ w) ∧ (runs stp s0 w).isSome = true
end
section
variable {σ : Type} {n : Nat} {B : Nat → Nat → Bool} {comp : Nat → Bool} {stp : σ → Nat → Option σ}
theorem runs_append : ∀ (a b : List Nat) (s : σ), runs stp s (a ++ b) = (runs stp s a).bind fun t => runs stp t b
  | [], _, _ => rfl
  | i :: a, b, s => by
    simp only [List.cons_append, runs]
    cases stp s i with
    | none => rfl
    | some t => exact runs_append a b t
theorem runs_snoc {o : List Nat} {s0 s t : σ} {i : Nat} (h : runs stp s0 o = some s) (h2 : stp s i = some t) : runs stp s0 (o ++ [i]) = some t := by
  rw [runs_append, h]
  simp [runs, h2]
theorem srch_sound {s0 : σ} : ∀ (k : Nat) (o : List Nat) (s : σ) (w : List Nat), srch n (okP B) (finC n comp) stp k o s = some w → (∀ x ∈ o, x < n) → o.Nodup → o.Pairwise (fun x y => B y x = false) → runs stp s0 o = some s → Wit n B comp stp s0 w ∧ ∃ r, w = o ++ r
  | 0, _, _, _, h, _, _, _, _ => by cases h
  | k + 1, o, s, w, h, h1, h2, h3, h4 => by
    unfold srch at h
    split at h
    · rename_i hf
      cases h
      exact ⟨⟨h1, h2, h3, finC_iff.1 hf, by rw [h4]; rfl⟩, [], by simp⟩
    · obtain ⟨i, hi, h5⟩ := List.exists_of_findSome?_eq_some h
      split at h5
      · cases h5
      · rename_i hc
        simp only [Bool.or_eq_true, not_or, Bool.not_eq_true, Bool.not_eq_true', List.contains_eq_mem, decide_eq_false_iff_not] at hc
        cases hs : stp s i with
        | none => rw [hs] at h5; cases h5
        | some t =>
          rw [hs] at h5
          have hp : ∀ x ∈ o, B i x = false := fun x hx => by
            have := List.all_eq_true.1 (by simpa using hc.2 : okP B o i = true) x hx
            simpa using this
          obtain ⟨h6, r, h7⟩ := srch_sound k (o ++ [i]) t w h5 (fun x hx => by
            simp only [List.mem_append, List.mem_singleton] at hx
            rcases hx with hx | rfl
            · exact h1 x hx
            · exact List.mem_range.1 hi) (by
            rw [List.nodup_append]
            exact ⟨h2, by simp, fun a ha b hb => by simp only [List.mem_singleton] at hb; subst hb; rintro rfl; exact hc.1 ha⟩) (by
            rw [List.pairwise_append]
            exact ⟨h3, by simp, fun a ha b hb => by simp only [List.mem_singleton] at hb; subst hb; exact hp a ha⟩) (runs_snoc h4 hs)
          exact ⟨h6, i :: r, by rw [h7]; simp⟩
theorem srch_complete {s0 : σ} : ∀ (k : Nat) (o r : List Nat) (s : σ), Wit n B comp stp s0 (o ++ r) → runs stp s0 o = some s → r.length < k → (srch n (okP B) (finC n comp) stp k o s).isSome = true
  | 0, _, _, _, _, _, h => by omega
  | k + 1, o, r, s, hw, hs, hk => by
    unfold srch
    split
    · rfl
    · rename_i hf
      rw [List.findSome?_isSome_iff]
      obtain ⟨h1, h2, h3, h4, h5⟩ := hw
      cases r with
      | nil =>
        rw [List.append_nil] at h4
        exact absurd (finC_iff.2 h4) hf
      | cons i r =>
        refine ⟨i, List.mem_range.2 (h1 i (by simp)), ?_⟩
        have hio : i ∉ o := fun hi => by
          rw [List.nodup_append] at h2
          exact h2.2.2 i hi i (by simp) rfl
        have hp : okP B o i = true := by
          unfold okP
          rw [List.all_eq_true]
          intro x hx
          rw [List.pairwise_append] at h3
          rw [h3.2.2 x hx i (by simp)]; rfl
        rw [runs_append, hs] at h5
        simp only [Option.bind_some, runs] at h5
        simp only [List.contains_eq_mem, hio, decide_false, hp, Bool.not_true, Bool.or_self, Bool.false_eq_true, if_false]
        cases ht : stp s i with
        | none => rw [ht] at h5; cases h5
        | some t =>
          refine srch_complete k (o ++ [i]) r t ⟨by simpa using h1, by simpa using h2, by simpa using h3, by simpa using h4, ?_⟩ (runs_snoc hs ht) (by simp only [List.length_cons] at hk; omega)
          rw [List.append_assoc, runs_append, hs]
          simpa [runs] using h5
end
end Go.Hist
namespace Go.Hist
abbrev HOp := Int × Int × Int × List UInt8 × List UInt8
abbrev d0 : HOp := (0, 0, 0, [], [])
section
variable {σ : Type}
def cmpl (l : List HOp) (i : Nat) : Bool := decide ((l.getD i d0).2.2.1 ≠ -1)
def Bf (own : Bool) (l : List HOp) (a b : Nat) : Bool := cmpl l a && (decide ((l.getD a d0).2.2.1 < (l.getD b d0).2.1) && (!own || decide ((l.getD a d0).1 = (l.getD b d0).1)))
def stpl (X : σ → List UInt8 → σ × List UInt8) (l : List HOp) (s : σ) (i : Nat) : Option σ :=
  if cmpl l i && !((X s (l.getD i d0).2.2.2.1).2 == (l.getD i d0).2.2.2.2) then none else some (X s (l.getD i d0).2.2.2.1).1
def HasW (X : σ → List UInt8 → σ × List UInt8) (s0 : σ) (own : Bool) (l : List HOp) : Prop := ∃ w, Wit l.length (Bf own l) (cmpl l) (stpl X l) s0 w
def cutO (t : Int) (x : HOp) : HOp := if x.2.2.1 > t then (x.1, x.2.1, -1, x.2.2.2.1, []) else x
def upto (l : List HOp) (t : Int) : List HOp := (l.filter fun x => decide (x.2.1 ≤ t)).map (cutO t)
def ValE (l : List HOp) : Prop := ∀ x ∈ l, x.2.2.1 = -1 ∨ (0 ≤ x.2.1 ∧ x.2.1 ≤ x.2.2.1)
def kept (l : List HOp) (t : Int) : List Nat := (List.range l.length).filter fun i => decide ((l.getD i d0).2.1 ≤ t)
end
theorem range_getD (l : List HOp) : (List.range l.length).map (fun i => l.getD i d0) = l := by
  apply List.ext_getElem
  · simp
  · intro i h1 h2
    simp [List.getD_eq_getElem?_getD, h2]
theorem upto_kept (l : List HOp) (t : Int) : upto l t = (kept l t).map fun i => cutO t (l.getD i d0) := by
  unfold upto kept
  conv => lhs; rw [← range_getD l]
  rw [List.filter_map, List.map_map]
  rfl
theorem kept_nodup (l : List HOp) (t : Int) : (kept l t).Nodup := List.Pairwise.filter _ List.nodup_range
theorem mem_kept {l : List HOp} {t : Int} {i : Nat} : i ∈ kept l t ↔ i < l.length ∧ (l.getD i d0).2.1 ≤ t := by
  unfold kept
  simp
theorem upto_len (l : List HOp) (t : Int) : (upto l t).length = (kept l t).length := by rw [upto_kept]; simp
theorem upto_get {l : List HOp} {t : Int} {p i : Nat} (h : (kept l t)[p]? = some i) : (upto l t).getD p d0 = cutO t (l.getD i d0) := by
  rw [upto_kept, List.getD_eq_getElem?_getD, List.getElem?_map, h]
  rfl
theorem kept_inj {l : List HOp} {t : Int} {p q i : Nat} (h : (kept l t)[p]? = some i) (h2 : (kept l t)[q]? = some i) : p = q := by
  have hn := kept_nodup l t
  obtain ⟨hp, e1⟩ := List.getElem?_eq_some_iff.1 h
  obtain ⟨hq, e2⟩ := List.getElem?_eq_some_iff.1 h2
  exact (List.getElem_inj hn).1 (e1.trans e2.symm)
theorem cutO_en (t : Int) (x : HOp) : (cutO t x).2.2.1 ≠ -1 ↔ x.2.2.1 ≠ -1 ∧ x.2.2.1 ≤ t := by
  unfold cutO
  split
  · rename_i h; simp; intro _; omega
  · rename_i h; simp; omega
theorem cutO_same {t : Int} {x : HOp} (h : x.2.2.1 ≤ t) : cutO t x = x := by unfold cutO; rw [if_neg (by omega)]
theorem cutO_bg (t : Int) (x : HOp) : (cutO t x).2.1 = x.2.1 := by unfold cutO; split <;> rfl
theorem cutO_cl (t : Int) (x : HOp) : (cutO t x).1 = x.1 := by unfold cutO; split <;> rfl
theorem cutO_op (t : Int) (x : HOp) : (cutO t x).2.2.2.1 = x.2.2.2.1 := by unfold cutO; split <;> rfl
theorem upto_upto {l : List HOp} {t u : Int} (h : u ≤ t) (h0 : -1 ≤ u) : upto (upto l t) u = upto l u := by
  unfold upto
  rw [List.filter_map, List.map_map, List.filter_filter]
  have e1 : (fun x : HOp => ((fun x : HOp => decide (x.2.1 ≤ u)) ∘ cutO t) x && decide (x.2.1 ≤ t)) = fun x : HOp => decide (x.2.1 ≤ u) := by
    funext x
    simp only [Function.comp, cutO_bg]
    rw [Bool.eq_iff_iff]
    simp
    omega
  rw [e1]
  refine List.map_congr_left fun x _ => ?_
  simp only [Function.comp]
  unfold cutO
  by_cases h1 : x.2.2.1 > t
  · rw [if_pos h1, if_pos (show x.2.2.1 > u by omega), if_neg (show ¬ ((-1 : Int) > u) by omega)]
  · rw [if_neg h1]
theorem upto_val {l : List HOp} (h : ValE l) (t : Int) : ValE (upto l t) := by
  intro x hx
  unfold upto at hx
  obtain ⟨y, hy, rfl⟩ := List.mem_map.1 hx
  have hy := h y (List.mem_filter.1 hy).1
  rw [cutO_bg]
  by_cases h1 : y.2.2.1 ≤ t
  · rw [cutO_same h1]; exact hy
  · unfold cutO; rw [if_pos (by omega)]; exact .inl rfl
theorem split_last {C : Nat → Bool} : ∀ w : List Nat, ∃ w1 r, w = w1 ++ r ∧ (∀ i ∈ r, C i = false) ∧ (w1 = [] ∨ ∃ u c, w1 = u ++ [c] ∧ C c = true)
  | [] => ⟨[], [], rfl, by simp, .inl rfl⟩
  | i :: w => by
    obtain ⟨w1, r, e, h1, h2⟩ := split_last (C := C) w
    rcases h2 with rfl | ⟨u, c, rfl, hc⟩
    · cases hi : C i with
      | true => exact ⟨[i], r, by rw [e]; rfl, h1, .inr ⟨[], i, rfl, hi⟩⟩
      | false =>
        refine ⟨[], i :: r, by rw [e]; rfl, fun j hj => ?_, .inl rfl⟩
        rcases List.mem_cons.1 hj with rfl | hj
        · exact hi
        · exact h1 j hj
    · exact ⟨i :: (u ++ [c]), r, by rw [e]; rfl, h1, .inr ⟨i :: u, c, rfl, hc⟩⟩
section
variable {σ : Type} {X : σ → List UInt8 → σ × List UInt8} {s0 : σ}
theorem cmpl_iff {l : List HOp} {i : Nat} : cmpl l i = true ↔ (l.getD i d0).2.2.1 ≠ -1 := by unfold cmpl; simp
theorem getD_mem {l : List HOp} {i : Nat} (h : i < l.length) : l.getD i d0 ∈ l := by
  rw [List.getD_eq_getElem?_getD, List.getElem?_eq_getElem h]
  exact List.getElem_mem h
/-- what came to a good end up to a time is a beginning of what did so -/
theorem hasW_upto {l : List HOp} (hv : ValE l) (t : Int) (h : HasW X s0 false l) : HasW X s0 false (upto l t) := by
  obtain ⟨w, h1, h2, h3, h4, h5⟩ := h
  obtain ⟨w1, r, rfl, hr, hl⟩ := split_last (C := fun i => cmpl l i && decide ((l.getD i d0).2.2.1 ≤ t)) w
  have hk : ∀ x ∈ w1, x ∈ kept l t := by
    intro x hx
    refine mem_kept.2 ⟨h1 x (by simp [hx]), ?_⟩
    rcases hl with rfl | ⟨u, c, rfl, hc⟩
    · cases hx
    · simp only [Bool.and_eq_true, decide_eq_true_eq] at hc
      have hcl := h1 c (by simp)
      rcases List.mem_append.1 hx with hxu | hxc
      · have h6 : Bf false l c x = false := by
          rw [List.append_assoc, List.pairwise_append] at h3
          exact h3.2.2 x hxu c (by simp)
        unfold Bf at h6
        rw [hc.1] at h6
        simp only [Bool.true_and, Bool.not_false, Bool.true_or, Bool.and_true, decide_eq_false_iff_not] at h6
        omega
      · simp only [List.mem_singleton] at hxc
        subst hxc
        rcases hv _ (getD_mem hcl) with h7 | h7
        · exact absurd h7 (cmpl_iff.1 hc.1)
        · omega
  have hx : ∀ x : Nat, ∃ p, x ∈ kept l t → (kept l t)[p]? = some x := fun x => by
    by_cases hm : x ∈ kept l t
    · obtain ⟨p, hp, e⟩ := List.getElem_of_mem hm
      exact ⟨p, fun _ => by rw [List.getElem?_eq_getElem hp, e]⟩
    · exact ⟨0, fun h => absurd h hm⟩
  let φ : Nat → Nat := fun x => Classical.choose (hx x)
  have hφ : ∀ x, x ∈ w1 → (kept l t)[φ x]? = some x := fun x hm => Classical.choose_spec (hx x) (hk x hm)
  have hg : ∀ x, x ∈ w1 → (upto l t).getD (φ x) d0 = cutO t (l.getD x d0) := fun x hm => upto_get (hφ x hm)
  refine ⟨w1.map φ, fun p hp => ?_, ?_, ?_, fun p hp hc => ?_, ?_⟩
  · obtain ⟨x, hm, rfl⟩ := List.mem_map.1 hp
    rw [upto_len]
    exact (List.getElem?_eq_some_iff.1 (hφ x hm)).1
  · unfold List.Nodup
    rw [List.pairwise_map]
    rw [List.nodup_append] at h2
    refine List.Pairwise.imp_of_mem (fun {a b} ha hb hab e => hab ?_) h2.1
    have := hφ a ha
    rw [e, hφ b hb] at this
    simpa using this.symm
  · rw [List.pairwise_map]
    rw [List.pairwise_append] at h3
    refine List.Pairwise.imp_of_mem (fun {a b} ha hb hab => ?_) h3.1
    unfold Bf cmpl at hab ⊢
    rw [hg a ha, hg b hb, cutO_bg]
    by_cases hen : (cutO t (l.getD b d0)).2.2.1 ≠ -1
    · have h8 := (cutO_en t _).1 hen
      rw [cutO_same h8.2] at hen ⊢
      simp only [Bool.not_false, Bool.true_or, Bool.and_true] at hab ⊢
      exact hab
    · rw [decide_eq_false hen]; rfl
  · rw [upto_len] at hp
    have hq : (kept l t)[p]? = some ((kept l t)[p]) := List.getElem?_eq_getElem hp
    generalize (kept l t)[p] = y at hq
    rw [cmpl_iff, upto_get hq, cutO_en] at hc
    have hy : y ∈ kept l t := by rw [List.mem_iff_getElem?]; exact ⟨p, hq⟩
    have h7 := h4 y (mem_kept.1 hy).1 (cmpl_iff.2 hc.1)
    rcases List.mem_append.1 h7 with h8 | h8
    · exact List.mem_map.2 ⟨y, h8, kept_inj (hφ y h8) hq⟩
    · have := hr y h8
      simp only [cmpl_iff.2 hc.1, Bool.true_and, decide_eq_false_iff_not] at this
      exact absurd hc.2 this
  · rw [runs_append] at h5
    have h9 : (runs (stpl X l) s0 w1).isSome = true := by
      cases h : runs (stpl X l) s0 w1 with
      | none => rw [h] at h5; cases h5
      | some _ => rfl
    have main : ∀ (v : List Nat) (s : σ), (∀ x ∈ v, x ∈ w1) → ∀ u, runs (stpl X l) s v = some u → runs (stpl X (upto l t)) s (v.map φ) = some u := by
      intro v
      induction v with
      | nil => intro s _ u h; exact h
      | cons i v ih =>
        intro s hm u h
        simp only [runs, List.map_cons] at h ⊢
        have hi := hm i (by simp)
        have e : ∀ s', stpl X l s i = some s' → stpl X (upto l t) s (φ i) = some s' := by
          intro s' hs
          unfold stpl cmpl at hs ⊢
          rw [hg i hi, cutO_op]
          by_cases hen : (cutO t (l.getD i d0)).2.2.1 ≠ -1
          · have h8 := (cutO_en t _).1 hen
            rw [cutO_same h8.2]
            exact hs
          · rw [decide_eq_false hen]
            simp only [Bool.false_and, Bool.false_eq_true, if_false]
            split at hs
            · cases hs
            · exact hs
        cases hs : stpl X l s i with
        | none => rw [hs] at h; cases h
        | some s' =>
          rw [hs] at h
          rw [e s' hs]
          exact ih s' (fun x hx => hm x (List.mem_cons_of_mem _ hx)) u h
    obtain ⟨u, hu⟩ := Option.isSome_iff_exists.1 h9
    rw [main w1 s0 (fun _ h => h) u hu]
    rfl
/-- a good end up to the last end is one -/
theorem hasW_of_upto {l : List HOp} (hv : ValE l) (t : Int) (he : ∀ x ∈ l, x.2.2.1 ≠ -1 → x.2.2.1 ≤ t) (h : HasW X s0 false (upto l t)) : HasW X s0 false l := by
  obtain ⟨w, h1, h2, h3, h4, h5⟩ := h
  let φ : Nat → Nat := fun p => (kept l t).getD p 0
  have hφ : ∀ p, p ∈ w → (kept l t)[p]? = some (φ p) := fun p hp => by
    have := h1 p hp
    rw [upto_len] at this
    simp [φ, List.getD_eq_getElem?_getD, this]
  have hg : ∀ p, p ∈ w → (upto l t).getD p d0 = cutO t (l.getD (φ p) d0) := fun p hp => upto_get (hφ p hp)
  have hk : ∀ p, p ∈ w → φ p ∈ kept l t := fun p hp => by rw [List.mem_iff_getElem?]; exact ⟨p, hφ p hp⟩
  have hsame : ∀ p, p ∈ w → (l.getD (φ p) d0).2.2.1 ≠ -1 → cutO t (l.getD (φ p) d0) = l.getD (φ p) d0 := fun p hp hen => cutO_same (he _ (getD_mem (mem_kept.1 (hk p hp)).1) hen)
  have hpend : ∀ p, p ∈ w → (l.getD (φ p) d0).2.2.1 = -1 → (cutO t (l.getD (φ p) d0)).2.2.1 = -1 := fun p hp hen => by
    by_cases h : (cutO t (l.getD (φ p) d0)).2.2.1 = -1
    · exact h
    · exact absurd hen ((cutO_en t _).1 h).1
  refine ⟨w.map φ, fun x hx => ?_, ?_, ?_, fun i hi hc => ?_, ?_⟩
  · obtain ⟨p, hp, rfl⟩ := List.mem_map.1 hx
    exact (mem_kept.1 (hk p hp)).1
  · unfold List.Nodup
    rw [List.pairwise_map]
    refine List.Pairwise.imp_of_mem (fun {a b} ha hb hab e => hab ?_) h2
    exact kept_inj (hφ a ha) (by rw [e]; exact hφ b hb)
  · rw [List.pairwise_map]
    refine List.Pairwise.imp_of_mem (fun {a b} ha hb hab => ?_) h3
    unfold Bf cmpl at hab ⊢
    rw [hg a ha, hg b hb, cutO_bg] at hab
    by_cases hen : (l.getD (φ b) d0).2.2.1 = -1
    · rw [hen]; rfl
    · rw [hsame b hb hen] at hab
      simp only [Bool.not_false, Bool.true_or, Bool.and_true] at hab ⊢
      exact hab
  · have hen := cmpl_iff.1 hc
    have h7 := he _ (getD_mem hi) hen
    have hki : i ∈ kept l t := mem_kept.2 ⟨hi, by
      rcases hv _ (getD_mem hi) with h8 | h8
      · exact absurd h8 hen
      · omega⟩
    obtain ⟨p, hp⟩ := List.mem_iff_getElem?.1 hki
    have hpw := h4 p (by rw [upto_len]; exact (List.getElem?_eq_some_iff.1 hp).1) (by rw [cmpl_iff, upto_get hp, cutO_en]; exact ⟨hen, h7⟩)
    refine List.mem_map.2 ⟨p, hpw, ?_⟩
    have := hφ p hpw
    rw [hp] at this
    simpa using this.symm
  · have main : ∀ (v : List Nat) (s : σ), (∀ x ∈ v, x ∈ w) → runs (stpl X (upto l t)) s v = runs (stpl X l) s (v.map φ) := by
      intro v
      induction v with
      | nil => intro s _; rfl
      | cons p v ih =>
        intro s hm
        simp only [runs, List.map_cons]
        have hp := hm p (by simp)
        have e : stpl X (upto l t) s p = stpl X l s (φ p) := by
          unfold stpl cmpl
          rw [hg p hp, cutO_op]
          by_cases hen : (l.getD (φ p) d0).2.2.1 = -1
          · rw [hpend p hp hen, hen]; rfl
          · rw [hsame p hp hen]
        rw [e]
        congr 1
        funext s'
        exact ih s' fun x hx => hm x (List.mem_cons_of_mem _ hx)
    rw [← main w s0 fun _ h => h]
    exact h5
/-- without an end there is a witness -/
theorem hasW_none {l : List HOp} (h : ∀ x ∈ l, x.2.2.1 = -1) : HasW X s0 false l :=
  ⟨[], by simp, by simp, by simp, fun i hi hc => absurd (h _ (getD_mem hi)) (cmpl_iff.1 hc), rfl⟩
theorem maxEnd : ∀ l : List HOp, (∀ x ∈ l, x.2.2.1 = -1) ∨ ∃ y ∈ l, y.2.2.1 ≠ -1 ∧ ∀ x ∈ l, x.2.2.1 ≠ -1 → x.2.2.1 ≤ y.2.2.1
  | [] => .inl (by simp)
  | a :: l => by
    rcases maxEnd l with h | ⟨y, hy, h1, h2⟩
    · by_cases ha : a.2.2.1 = -1
      · left; intro x hx
        rcases List.mem_cons.1 hx with rfl | hx
        · exact ha
        · exact h x hx
      · right
        refine ⟨a, by simp, ha, fun x hx hne => ?_⟩
        rcases List.mem_cons.1 hx with rfl | hx
        · exact Int.le_refl _
        · exact absurd (h x hx) hne
    · right
      by_cases ha : a.2.2.1 ≠ -1 ∧ y.2.2.1 < a.2.2.1
      · refine ⟨a, by simp, ha.1, fun x hx hne => ?_⟩
        rcases List.mem_cons.1 hx with rfl | hx
        · exact Int.le_refl _
        · have := h2 x hx hne; omega
      · refine ⟨y, by simp [hy], h1, fun x hx hne => ?_⟩
        rcases List.mem_cons.1 hx with rfl | hx
        · by_cases h3 : x.2.2.1 ≤ y.2.2.1
          · exact h3
          · exact absurd ⟨hne, by omega⟩ ha
        · exact h2 x hx hne
/-- up to any time: there is a witness where there is one up to each end that came -/
theorem hasW_at {l : List HOp} (hv : ValE l) (u : Int) : HasW X s0 false (upto l u) ↔ ∀ x ∈ l, x.2.2.1 ≠ -1 → x.2.2.1 ≤ u → HasW X s0 false (upto l x.2.2.1) := by
  constructor
  · intro h x hx hne hxu
    rw [← upto_upto hxu (by rcases hv x hx with h1 | h1 <;> omega)]
    exact hasW_upto (upto_val hv u) _ h
  · intro h
    rcases maxEnd (upto l u) with h1 | ⟨y, hy, h1, h2⟩
    · exact hasW_none h1
    · unfold upto at hy
      obtain ⟨x, hx, rfl⟩ := List.mem_map.1 hy
      obtain ⟨h3, h4⟩ := (cutO_en u x).1 h1
      have hxl := (List.mem_filter.1 hx).1
      rw [cutO_same h4] at h2
      refine hasW_of_upto (upto_val hv u) x.2.2.1 h2 ?_
      rw [upto_upto h4 (by rcases hv x hxl with h5 | h5 <;> omega)]
      exact h x hxl h3 h4
end
end Go.Hist
namespace Go.Abs
open Go Go.Hist
theorem d0_eq : (default : Int × Int × Int × List UInt8 × List UInt8) = d0 := rfl
theorem and64 (a b : Nat) (ha : a < 2 ^ 64) (hb : b < 2 ^ 64) : bitsI .and .u64 (a : Int) (b : Int) = ((a &&& b : Nat) : Int) := by
  have h : (BitVec.ofInt IntKind.u64.bits (a : Int) &&& BitVec.ofInt IntKind.u64.bits (b : Int)).toNat = a &&& b := by
    have e : IntKind.u64.bits = 64 := rfl
    rw [e, BitVec.toNat_and, BitVec.ofInt_natCast, BitVec.ofInt_natCast, BitVec.toNat_ofNat, BitVec.toNat_ofNat, Nat.mod_eq_of_lt ha, Nat.mod_eq_of_lt hb]
  unfold bitsI
  simp only [h]
  have := Nat.and_le_left (n := a) (m := b)
  exact wrap_in (k := .u64) (show 0 ≤ ((a &&& b : Nat) : Int) ∧ ((a &&& b : Nat) : Int) ≤ 18446744073709551615 by omega)
theorem or64 (a b : Nat) (ha : a < 2 ^ 64) (hb : b < 2 ^ 64) : bitsI .or .u64 (a : Int) (b : Int) = ((a ||| b : Nat) : Int) := by
  have h : (BitVec.ofInt IntKind.u64.bits (a : Int) ||| BitVec.ofInt IntKind.u64.bits (b : Int)).toNat = a ||| b := by
    have e : IntKind.u64.bits = 64 := rfl
    rw [e, BitVec.toNat_or, BitVec.ofInt_natCast, BitVec.ofInt_natCast, BitVec.toNat_ofNat, BitVec.toNat_ofNat, Nat.mod_eq_of_lt ha, Nat.mod_eq_of_lt hb]
  unfold bitsI
  simp only [h]
  have := Nat.or_lt_two_pow ha hb
  exact wrap_in (k := .u64) (show 0 ≤ ((a ||| b : Nat) : Int) ∧ ((a ||| b : Nat) : Int) ≤ 18446744073709551615 by omega)
theorem bit64 (m n : Nat) (hm : m < 2 ^ 64) : (bitsI .and .u64 ((m : Int) / 2 ^ n) (1 : Int) == (1 : Int)) = m.testBit n := by
  have e : ((m : Int) / 2 ^ n) = ((m / 2 ^ n : Nat) : Int) := by simp
  have h1 := and64 (m / 2 ^ n) 1 (Nat.lt_of_le_of_lt (Nat.div_le_self ..) hm) (by decide)
  have e1 : ((1 : Nat) : Int) = 1 := rfl
  rw [e1] at h1
  rw [e, h1, Nat.and_one_is_mod, Nat.testBit_eq_decide_div_mod_eq, Bool.eq_iff_iff]
  simp
  omega
/-- the mask of a set -/
def Msk (n m : Nat) (o : List Nat) : Prop := m < 2 ^ n ∧ ∀ i, i < n → m.testBit i = o.contains i
theorem two10 {n : Nat} (h : n ≤ 10) : 2 ^ n ≤ 1024 := Nat.pow_le_pow_right (n := 2) (by decide) h
theorem Msk.lt {n m : Nat} {o : List Nat} (h : Msk n m o) (hn : n ≤ 10) : m < 2 ^ 64 := Nat.lt_of_lt_of_le h.1 (Nat.le_trans (two10 hn) (by decide))
theorem msk_add {n m i : Nat} {o : List Nat} (hn : n ≤ 10) (h : Msk n m o) (hi : i < n) : bitsI .or .u64 (m : Int) ((1 : Int) * 2 ^ i) = ((m ||| 2 ^ i : Nat) : Int) ∧ Msk n (m ||| 2 ^ i) (o ++ [i]) := by
  have h2 : 2 ^ i < 2 ^ n := Nat.pow_lt_pow_right (by decide) hi
  have h3 : 2 ^ i < 2 ^ 64 := Nat.lt_of_lt_of_le h2 (Nat.le_trans (two10 hn) (by decide))
  refine ⟨?_, Nat.or_lt_two_pow h.1 h2, fun j hj => ?_⟩
  · rw [← or64 m (2 ^ i) (h.lt hn) h3]
    congr 1
    simp
  · rw [Nat.testBit_or, h.2 j hj, Nat.testBit_two_pow]
    simp only [List.contains_eq_mem, List.mem_append, List.mem_singleton, Bool.decide_or]
    congr 1
    rw [decide_eq_decide]
    exact eq_comm
theorem msk_nil (n : Nat) : Msk n 0 [] := ⟨Nat.two_pow_pos n, fun i _ => by simp⟩
/-- the mask of what is complete -/
def Cmk (n c : Nat) (comp : Nat → Bool) : Prop := c < 2 ^ n ∧ ∀ i, i < n → c.testBit i = comp i
theorem msk_fin {n m c : Nat} {o : List Nat} {comp : Nat → Bool} (hn : n ≤ 10) (h : Msk n m o) (hc : Cmk n c comp) : (bitsI .and .u64 (m : Int) (c : Int) == (c : Int)) = finC n comp o := by
  have hc64 : c < 2 ^ 64 := Nat.lt_of_lt_of_le hc.1 (Nat.le_trans (two10 hn) (by decide))
  rw [and64 m c (h.lt hn) hc64, Bool.eq_iff_iff, beq_iff_eq, finC_iff, Int.natCast_inj]
  constructor
  · intro e i hi hci
    have h1 : (m &&& c).testBit i = true := by rw [e, hc.2 i hi]; exact hci
    rw [Nat.testBit_and, h.2 i hi] at h1
    simpa using (Bool.and_eq_true_iff.1 h1).1
  · intro hall
    apply Nat.eq_of_testBit_eq
    intro i
    rw [Nat.testBit_and]
    by_cases hi : i < n
    · rw [hc.2 i hi]
      cases hci : comp i with
      | false => simp
      | true =>
        rw [h.2 i hi]
        simpa using hall i hi hci
    · have : c.testBit i = false := Nat.testBit_lt_two_pow (Nat.lt_of_lt_of_le hc.1 (Nat.pow_le_pow_right (by decide) (by omega)))
      rw [this, Bool.and_false]
/-- the complete ones as the program notes them -/
theorem cmk_step {j c : Nat} {comp : Nat → Bool} (h : Cmk j c comp) : Cmk (j + 1) (if comp j then c ||| 2 ^ j else c) comp := by
  have h2 : c < 2 ^ (j + 1) := Nat.lt_of_lt_of_le h.1 (Nat.pow_le_pow_right (by decide) (by omega))
  have h3 : (2 : Nat) ^ j < 2 ^ (j + 1) := Nat.pow_lt_pow_right (by decide) (by omega)
  have h4 : c.testBit j = false := Nat.testBit_lt_two_pow h.1
  cases hc : comp j with
  | false =>
    simp only [Bool.false_eq_true, if_false]
    refine ⟨h2, fun i hi => ?_⟩
    by_cases hij : i = j
    · subst hij; rw [hc]; exact h4
    · exact h.2 i (by omega)
  | true =>
    simp only [if_true]
    refine ⟨Nat.or_lt_two_pow h2 h3, fun i hi => ?_⟩
    rw [Nat.testBit_or, Nat.testBit_two_pow]
    by_cases hij : i = j
    · subst hij; rw [hc]; simp
    · rw [h.2 i (by omega), decide_eq_false (Ne.symm hij), Bool.or_false]
/-! ### maps of keys and rows -/
section
variable {α β : Type} [DecidableEq α]
theorem idxL_snoc (x y : α) : ∀ (ks : List α) (i : Nat), idxL x (ks ++ [y]) i = match idxL x ks i with
    | some q => some q
    | none => if x = y then some (i + ks.length) else none
  | [], i => by simp [idxL]
  | a :: ks, i => by
    simp only [List.cons_append, idxL]
    by_cases h : x = a
    · rw [if_pos h, if_pos h]
    · rw [if_neg h, if_neg h, idxL_snoc x y ks (i + 1)]
      cases idxL x ks (i + 1) with
      | some q => rfl
      | none => simp only [List.length_cons]; congr 1; congr 1; omega
theorem idxL_inj {x y : α} : ∀ {ks : List α} {i q : Nat}, idxL x ks i = some q → idxL y ks i = some q → x = y
  | [], _, _, h, _ => by cases h
  | a :: ks, i, q, h, h2 => by
    simp only [idxL] at h h2
    by_cases hx : x = a
    · by_cases hy : y = a
      · rw [hx, hy]
      · rw [if_pos hx] at h; rw [if_neg hy] at h2
        cases h
        have := (idxL_lt y ks (i + 1) i h2).1
        omega
    · rw [if_neg hx] at h
      by_cases hy : y = a
      · rw [if_pos hy] at h2
        cases h2
        have := (idxL_lt x ks (i + 1) i h).1
        omega
      · rw [if_neg hy] at h2
        exact idxL_inj h h2
theorem upd_len (ks : List α) (vs : List β) (x : α) (y : β) (h : ks.length = vs.length) : (updK ks x).length = (updV ks vs x y).length := by
  unfold updK updV
  cases idxL x ks 0 <;> simp [h]
theorem getM_upd (ks : List α) (vs : List (List β)) (x x' : α) (y : List β) (h : ks.length = vs.length) : getM (updK ks x) (updV ks vs x y) [] [] x' = if x' = x then y else getM ks vs [] [] x' := by
  unfold getM updK updV
  cases hx : idxL x ks 0 with
  | some q =>
    have hq := (idxL_lt x ks 0 q hx).2.1
    by_cases e : x' = x
    · subst e
      simp only [hx, if_true]
      rw [List.getD_eq_getElem?_getD, List.getElem?_set_self (by omega)]; rfl
    · simp only [if_neg e]
      cases hx' : idxL x' ks 0 with
      | none => rfl
      | some q' =>
        have : q ≠ q' := fun e2 => e (idxL_inj hx' (e2 ▸ hx))
        simp only
        rw [List.getD_eq_getElem?_getD, List.getElem?_set_ne this, ← List.getD_eq_getElem?_getD]
  | none =>
    simp only
    rw [idxL_snoc]
    by_cases e : x' = x
    · subst e
      simp only [hx, if_true]
      simp [List.getD_eq_getElem?_getD, h]
    · simp only [if_neg e]
      cases hx' : idxL x' ks 0 with
      | none => rfl
      | some q' =>
        have hq := (idxL_lt x' ks 0 q' hx').2.1
        simp only
        rw [List.getD_eq_getElem?_getD, List.getElem?_append_left (by omega), ← List.getD_eq_getElem?_getD]
theorem getM_mem (ks : List α) (vs : List (List β)) (x : α) : getM ks vs [] [] x = [] ∨ getM ks vs [] [] x ∈ vs := by
  unfold getM
  cases idxL x ks 0 with
  | none => exact .inl rfl
  | some q =>
    simp only
    by_cases h : q < vs.length
    · right
      rw [List.getD_eq_getElem?_getD, List.getElem?_eq_getElem h]
      exact List.getElem_mem h
    · left
      rw [List.getD_eq_getElem?_getD, List.getElem?_eq_none (by omega)]; rfl
theorem updV_mem {ks : List α} {vs : List (List β)} {x : α} {y v : List β} (h : v ∈ updV ks vs x y) : v = y ∨ v ∈ vs := by
  unfold updV at h
  cases hx : idxL x ks 0 with
  | some q => rw [hx] at h; exact (List.mem_or_eq_of_mem_set h).symm
  | none => rw [hx] at h; simp at h; exact h.symm
end
/-! ### the memory's comparison -/
theorem f63_loop (x1 x2 : List Pr) (K : Unit → Option Bool) (hl : x1.length = x2.length) (hb : x1.length ≤ 1000000) : ∀ c k n, n + c = x1.length → c < k → f63_L0 x1 x2 K k n = if x1.drop n = x2.drop n then K () else some false
  | 0, k, n, hn, hk => by
    obtain ⟨k, rfl⟩ : ∃ q, k = q + 1 := ⟨k - 1, by omega⟩
    rw [f63_L0.eq_2, ifd_neg (by omega), List.drop_eq_nil_of_le (by omega), List.drop_eq_nil_of_le (by omega), if_pos rfl]
  | c + 1, k, n, hn, hk => by
    obtain ⟨k, rfl⟩ : ∃ q, k = q + 1 := ⟨k - 1, by omega⟩
    have h1 : n < x1.length := by omega
    have h2 : n < x2.length := by omega
    rw [f63_L0.eq_2, ifd_pos (by omega), chk_pos (by omega), chk_pos (by omega), chk_pos (by omega), f63_loop x1 x2 K hl hb c k (n + 1) (by omega) (by omega), getD_drop x1 n default h1, getD_drop x2 n default h2]
    by_cases e : x1.getD n default = x2.getD n default
    · rw [e]
      simp
    · have h3 : ¬ (x1.getD n default).1 = (x2.getD n default).1 ∨ ¬ (x1.getD n default).2.1 = (x2.getD n default).2.1 ∨ ¬ (x1.getD n default).2.2 = (x2.getD n default).2.2 := by
        by_cases q1 : (x1.getD n default).1 = (x2.getD n default).1
        · by_cases q2 : (x1.getD n default).2.1 = (x2.getD n default).2.1
          · by_cases q3 : (x1.getD n default).2.2 = (x2.getD n default).2.2
            · exact absurd (Prod.ext q1 (Prod.ext q2 q3)) e
            · exact .inr (.inr q3)
          · exact .inr (.inl q2)
        · exact .inl q1
      rw [if_pos ?_, if_neg (fun h => e (List.cons_eq_cons.1 h).1)]
      simp only [Bool.and_true, Bool.not_and, Bool.or_eq_true, Bool.not_eq_true', beq_eq_false_iff_ne, ne_eq]
      exact h3
theorem f63_eq (x1 x2 : List Pr) (hb : x1.length ≤ 1000000) : f63 x1 x2 = some (decide (x1 = x2)) := by
  unfold f63
  by_cases hl : x1.length = x2.length
  · rw [if_neg (by simp [hl]), jn_eq, f63_loop x1 x2 _ hl hb x1.length FUEL 0 (by omega) (fuel_lt (by omega))]
    simp only [List.drop_zero]
    by_cases e : x1 = x2
    · rw [if_pos e, decide_eq_true e]
    · rw [if_neg e, decide_eq_false e]
  · rw [if_pos (by simpa using fun h => hl (by omega)), decide_eq_false (fun e => hl (by rw [e]))]
theorem f101_loop (x1 : List (List Pr)) (p : List Pr) (K : List Pr → Option (Int × List (List Pr) × List Pr)) (hb : x1.length ≤ 4611686018427387904) (he : ∀ v ∈ x1, v.length ≤ 1000000) : ∀ c k n, n + c = x1.length → c < k →
    (∃ i : Nat, f101_L0 x1 K k (n, p) = some ((i : Int), x1, p) ∧ p ∈ x1.drop n) ∨ (f101_L0 x1 K k (n, p) = K p ∧ p ∉ x1.drop n)
  | 0, k, n, hn, hk => by
    obtain ⟨k, rfl⟩ : ∃ q, k = q + 1 := ⟨k - 1, by omega⟩
    right
    rw [f101_L0.eq_2, ifd_neg (by omega), List.drop_eq_nil_of_le (by omega)]
    exact ⟨rfl, by simp⟩
  | c + 1, k, n, hn, hk => by
    obtain ⟨k, rfl⟩ : ∃ q, k = q + 1 := ⟨k - 1, by omega⟩
    have h1 : n < x1.length := by omega
    have hm : x1.getD n [] ∈ x1 := by
      rw [List.getD_eq_getElem?_getD, List.getElem?_eq_getElem h1]
      exact List.getElem_mem h1
    have e62 : f62 (x1.getD n []) p = some (decide (x1.getD n [] = p), p) := by
      unfold f62
      rw [f63_eq _ _ (he _ hm), some_bind]
    rw [f101_L0.eq_2, ifd_pos (by omega), e62, some_bind, chk_pos (by omega), chk_pos h1, getD_drop x1 n [] h1]
    by_cases e : x1.getD n [] = p
    · left
      refine ⟨n, ?_, by rw [e]; simp⟩
      rw [if_pos (decide_eq_true e)]
    · rw [if_neg (by simpa using e), chk_pos (by omega)]
      rcases f101_loop x1 p K hb he c k (n + 1) (by omega) (by omega) with ⟨i, h2, h3⟩ | ⟨h2, h3⟩
      · exact .inl ⟨i, h2, List.mem_cons_of_mem _ h3⟩
      · exact .inr ⟨h2, fun h => by rcases List.mem_cons.1 h with h | h; exact e h.symm; exact h3 h⟩
theorem f61_eq (x1 : List (List Pr)) (p : List Pr) (hb : x1.length ≤ 4611686018427387904) (he : ∀ v ∈ x1, v.length ≤ 1000000) : f61 x1 p = some (decide (p ∈ x1), x1, p) := by
  unfold f61 f101
  rw [jn_eq]
  rcases f101_loop x1 p (fun l6 => some ((-1 : Int), x1, l6)) hb he x1.length FUEL 0 (by omega) (fuel_lt (by omega)) with ⟨i, h1, h2⟩ | ⟨h1, h2⟩
  · rw [h1, some_bind]
    rw [List.drop_zero] at h2
    rw [decide_eq_true h2, decide_eq_true (show ((i : Int) ≥ 0) by omega)]
  · rw [h1, some_bind]
    rw [List.drop_zero] at h2
    rw [decide_eq_false h2]; rfl
theorem f26_eq (o : List Int) (h : o.length ≤ 1000000) : f26 o = some o := by
  unfold f26
  rw [abc_eq fun h0 => ?_, chk_pos (by omega), List.nil_append]
  have e := List.eq_nil_of_length_eq_zero h0
  subst e
  rfl
/-! ### one operation -/
/-- a valid operation -/
structure HV (x : HOp) : Prop where
  cl : 0 ≤ x.1 ∧ x.1 < 6
  bg : 0 ≤ x.2.1
  en : x.2.2.1 = -1 ∨ x.2.1 ≤ x.2.2.1
  op : ∃ k a b c, okOp k a b c = true ∧ txt k a b c = x.2.2.2.1
  rs : x.2.2.1 = -1 → x.2.2.2.2 = []
/-- the state behind an operation's text and its result -/
def XS (s : List Pr) (x : List UInt8) : List Pr × List UInt8 := (f40 s 0 0 0 x []).getD (s, [])
theorem XS_ok {s : List Pr} {x : List UInt8} (hV : StV s) (hx : ∃ k a b c, okOp k a b c = true ∧ txt k a b c = x) (c b e : Int) (r : List UInt8) :
    f40 s c b e x r = some (XS s x) ∧ f39 s c b e x r = some ((XS s x).2, (XS s x).1) ∧ StV (XS s x).1 := by
  obtain ⟨k, a1, b1, c1, h1, h2⟩ := hx
  obtain ⟨la, lb, lc⟩ := ok_len h1
  obtain ⟨l', hE⟩ := exec s k a1 b1 c1 hV (by omega) (by omega) (by omega)
  have hlen : (txt k a1 b1 c1).length ≤ 1000000 := by
    have h3 := kd_len k
    have h4 : ∀ w : List UInt8, w.length ≤ 64 → (if w == [] then [] else 32 :: w).length ≤ 65 := fun w hw => by split <;> simp <;> omega
    unfold txt
    have := h4 a1 la; have := h4 b1 lb; have := h4 c1 lc
    simp only [List.length_append]
    omega
  have e40 : ∀ c b e r, f40 s c b e x r = some (l', (R (ent s a1) s.length k a1 b1 c1).1) := fun c b e r => by
    unfold f40
    rw [← h2, f50_hit h1 hlen, some_bind]
    simp only [hE.prog, some_bind]
  have eX : XS s x = (l', (R (ent s a1) s.length k a1 b1 c1).1) := by unfold XS; rw [e40]; rfl
  refine ⟨by rw [e40, eX], ?_, by rw [eX]; exact hE.ok⟩
  rw [eX]
  unfold f39
  rw [← h2, f35_hit h1 hlen, some_bind]
  simp only [hE.spec, some_bind]
end Go.Abs
namespace Go.Abs
open Go Go.Hist
abbrev HL := List (Int × Int × Int × List UInt8 × List UInt8)
abbrev StT := List (List UInt8 × List UInt8 × Int)
def valL (l : HL) : Prop := l.length ≤ 10 ∧ ∀ x ∈ l, HV x
def ints (o : List Nat) : List Int := o.map fun i : Nat => (i : Int)
theorem ints_snoc (o : List Nat) (i : Nat) : ints (o ++ [i]) = ints o ++ [(i : Int)] := by simp [ints]
theorem hv_at {l : HL} (h : valL l) {i : Nat} (hi : i < l.length) : HV (l.getD i d0) := h.2 _ (Hist.getD_mem hi)
/-! ### the memory -/
section
variable {n : Nat} (S : List Nat → StT → Option (List Nat))
/-- what the memory says is true, its rows are short -/
structure Memo (n : Nat) (S : List Nat → StT → Option (List Nat)) (M : Nat) (ks : List Int) (vs : List (List StT)) : Prop where
  len : ks.length = vs.length
  row : ∀ v ∈ vs, v.length ≤ M ∧ ∀ p ∈ v, StV p
  ok : ∀ (m : Nat) (p : StT), p ∈ getM ks vs [] [] (m : Int) → ∀ o, Msk n m o → (∀ x ∈ o, x < n) → S o p = none
theorem Memo.nil {M : Nat} : Memo n S M [] [] := ⟨rfl, by simp, by simp [getM, idxL]⟩
theorem Memo.get {M : Nat} {ks : List Int} {vs : List (List StT)} (h : Memo n S M ks vs) (x : Int) : (getM ks vs [] [] x).length ≤ M ∧ ∀ p ∈ getM ks vs [] [] x, StV p := by
  rcases getM_mem ks vs x with e | e
  · rw [e]; exact ⟨Nat.zero_le _, by simp⟩
  · exact h.row _ e
theorem Memo.mono {M M' : Nat} {ks : List Int} {vs : List (List StT)} (h : Memo n S M ks vs) (hM : M ≤ M') : Memo n S M' ks vs := ⟨h.len, fun v hv => ⟨Nat.le_trans (h.row v hv).1 hM, (h.row v hv).2⟩, h.ok⟩
theorem Memo.add {M : Nat} {ks : List Int} {vs : List (List StT)} (h : Memo n S M ks vs) {m : Nat} {p : StT} (hV : StV p) (hS : ∀ o, Msk n m o → (∀ x ∈ o, x < n) → S o p = none) :
    Memo n S (M + 1) (updK ks (m : Int)) (updV ks vs (m : Int) (getM ks vs [] [] (m : Int) ++ [p])) := by
  refine ⟨upd_len _ _ _ _ h.len, fun v hv => ?_, fun m' p' hp' o ho hx => ?_⟩
  · rcases updV_mem hv with rfl | hv
    · obtain ⟨h1, h2⟩ := h.get S (m : Int)
      refine ⟨by simp only [List.length_append, List.length_singleton]; omega, fun q hq => ?_⟩
      rcases List.mem_append.1 hq with hq | hq
      · exact h2 q hq
      · simp only [List.mem_singleton] at hq; rw [hq]; exact hV
    · exact ⟨Nat.le_trans (h.row v hv).1 (by omega), (h.row v hv).2⟩
  · rw [getM_upd _ _ _ _ _ h.len] at hp'
    split at hp'
    · rename_i e
      have e : m' = m := by omega
      subst e
      rcases List.mem_append.1 hp' with hp' | hp'
      · exact h.ok m' p' hp' o ho hx
      · simp only [List.mem_singleton] at hp'; rw [hp']; exact hS o ho hx
    · exact h.ok m' p' hp' o ho hx
end
theorem msk_same {n m : Nat} {o o' : List Nat} (h : Msk n m o) (h' : Msk n m o') (ho : ∀ x ∈ o, x < n) (ho' : ∀ x ∈ o', x < n) (x : Nat) : x ∈ o ↔ x ∈ o' := by
  have e : ∀ i, i < n → o.contains i = o'.contains i := fun i hi => (h.2 i hi).symm.trans (h'.2 i hi)
  constructor
  · intro hx; have := e x (ho x hx); simp only [List.contains_eq_mem] at this; rw [decide_eq_decide] at this; exact this.1 hx
  · intro hx; have := e x (ho' x hx); simp only [List.contains_eq_mem] at this; rw [decide_eq_decide] at this; exact this.2 hx
/-- the search with as much fuel as it wants -/
def SR (own : Bool) (l : HL) (o : List Nat) (p : StT) : Option (List Nat) := srch l.length (Hist.okP (Bf own l)) (finC l.length (cmpl l)) (stpl XS l) (l.length + 1) o p
theorem left_le (n : Nat) (o : List Nat) : left n o ≤ n := by
  unfold left
  have := List.countP_le_length (p := fun i => !o.contains i) (l := List.range n)
  simpa using this
theorem SR_eq (own : Bool) (l : HL) (o : List Nat) (p : StT) : SR own l o p = if finC l.length (cmpl l) o then some o else (List.range l.length).findSome? fun i => if o.contains i || !Hist.okP (Bf own l) o i then none else (stpl XS l p i).bind (SR own l (o ++ [i])) := by
  have hle := left_le l.length o
  conv => lhs; unfold SR
  rw [srch_fuel (l.length + 1) (left l.length o + 1) o p (by omega) (by omega), srch]
  split
  · rfl
  · refine findSome_congr fun i hi => ?_
    split
    · rfl
    · rename_i hc
      simp only [Bool.or_eq_true, not_or, Bool.not_eq_true] at hc
      have h1 := left_lt (List.mem_range.1 hi) hc.1
      congr 1
      funext t
      exact srch_fuel _ _ _ _ h1 (by have := left_le l.length (o ++ [i]); omega)
theorem SR_set {own : Bool} {l : HL} {o o' : List Nat} (h : ∀ x, x ∈ o ↔ x ∈ o') {p : StT} (hn : SR own l o p = none) : SR own l o' p = none := by
  have := srch_set (n := l.length) (B := Bf own l) (stp := stpl XS l) (fin := finC l.length (cmpl l)) (fun a b hab => by
    rw [Bool.eq_iff_iff, finC_iff, finC_iff]
    exact ⟨fun hh i hi hc => (hab i).1 (hh i hi hc), fun hh i hi hc => (hab i).2 (hh i hi hc)⟩) (l.length + 1) o o' p h
  unfold SR at hn ⊢
  rw [hn] at this
  cases h2 : srch l.length (Hist.okP (Bf own l)) (finC l.length (cmpl l)) (stpl XS l) (l.length + 1) o' p with
  | none => rfl
  | some _ => rw [h2] at this; cases this
/-- how many rows a search adds at most -/
def TT : Nat → Nat
  | 0 => 1
  | r + 1 => 1 + 10 * TT r
theorem TT_le : ∀ r, r ≤ 10 → TT r ≤ 20000000000 := by decide
theorem TT_pos : ∀ r, 1 ≤ TT r
  | 0 => Nat.le_refl _
  | r + 1 => by unfold TT; omega
theorem TT_mono : ∀ {r s : Nat}, r ≤ s → TT r ≤ TT s
  | r, s, h => by
    induction h with
    | refl => exact Nat.le_refl _
    | step h ih => exact Nat.le_trans ih (by show TT _ ≤ 1 + 10 * TT _; omega)
/-- the answer of the program -/
def ans (w : Option (List Nat)) (l : HL) (c : Int) (ks : List Int) (vs : List (List StT)) : List Int × Bool × HL × Int × List Int × List (List StT) := ((w.map ints).getD [], w.isSome, l, c, ks, vs)
theorem findSome_drop {α β : Type} (f : α → Option β) (a : α) (l : List α) : (a :: l).findSome? f = match f a with | some b => some b | none => l.findSome? f := by
  rw [List.findSome?_cons]
  cases f a <;> rfl
theorem range_drop (n j : Nat) (h : j < n) : (List.range n).drop j = j :: (List.range n).drop (j + 1) := by
  rw [List.drop_eq_getElem_cons (by simpa using h)]
  simp
end Go.Abs
namespace Go.Abs
open Go Go.Hist
theorem f41_loop {l : HL} {m : Nat} {o : List Nat} (hl : valL l) (hm : Msk l.length m o) (x2 x3 x4 : Int) (x5 x6 : List UInt8) (x8 : Int) (x9 : List Int) (x10 : List (List StT)) (K : Unit → Option (Bool × HL × Int × List Int × List (List StT)))
    (P : Nat → Bool) (hP : ∀ j, j < l.length → f31 x2 x3 x4 x5 x6 (l.getD j d0).1 (l.getD j d0).2.1 (l.getD j d0).2.2.1 (l.getD j d0).2.2.2.1 (l.getD j d0).2.2.2.2 = some (P j)) : ∀ c k n, n + c = l.length → c < k →
    ((∃ j, n ≤ j ∧ j < l.length ∧ j ∈ o ∧ P j = true) ∧ f41_L0 (m : Int) x2 x3 x4 x5 x6 l x8 x9 x10 K k n = some (false, l, x8, x9, x10)) ∨ ((∀ j, n ≤ j → j < l.length → j ∈ o → P j = false) ∧ f41_L0 (m : Int) x2 x3 x4 x5 x6 l x8 x9 x10 K k n = K ())
  | 0, k, n, hn, hk => by
    obtain ⟨k, rfl⟩ : ∃ q, k = q + 1 := ⟨k - 1, by omega⟩
    right
    rw [f41_L0.eq_2, ifd_neg (by omega)]
    exact ⟨fun j h1 h2 => by omega, rfl⟩
  | c + 1, k, n, hn, hk => by
    obtain ⟨k, rfl⟩ : ∃ q, k = q + 1 := ⟨k - 1, by omega⟩
    have h1 : n < l.length := by omega
    have h10 := hl.1
    rw [f41_L0.eq_2, ifd_pos (by omega), chk_pos (by omega), d0_eq, hP n h1, bit64 m n (hm.lt hl.1), hm.2 n h1]
    have e64 : n ≤ IntKind.bits .u64 := by show n ≤ 64; omega
    have ih := f41_loop hl hm x2 x3 x4 x5 x6 x8 x9 x10 K P hP c k (n + 1) (by omega) (by omega)
    have on : (n ∈ o → P n = false) → ((∃ j, n ≤ j ∧ j < l.length ∧ j ∈ o ∧ P j = true) ∧ (chk (((n : Int) + (1 : Int)) ≤ 9223372036854775807) <| (f41_L0 (m : Int) x2 x3 x4 x5 x6 l x8 x9 x10 K k) (n + 1)) = some (false, l, x8, x9, x10)) ∨ ((∀ j, n ≤ j → j < l.length → j ∈ o → P j = false) ∧ (chk (((n : Int) + (1 : Int)) ≤ 9223372036854775807) <| (f41_L0 (m : Int) x2 x3 x4 x5 x6 l x8 x9 x10 K k) (n + 1)) = K ()) := by
      intro hn0
      rw [chk_pos (by omega)]
      rcases ih with ⟨⟨j, h2, h3⟩, h4⟩ | ⟨h3, h4⟩
      · exact .inl ⟨⟨j, by omega, h3⟩, h4⟩
      · refine .inr ⟨fun j h5 h6 h7 => ?_, h4⟩
        rcases Nat.lt_or_ge n j with h8 | h8
        · exact h3 j h8 h6 h7
        · obtain rfl : j = n := by omega
          exact hn0 h7
    by_cases ho : n ∈ o
    · have e1 : o.contains n = true := by simpa using ho
      rw [e1]
      show (_ ∧ optc true _ _ = _) ∨ (_ ∧ optc true _ _ = _)
      rw [optc_t, some_bind, chk_pos e64, Bool.true_and]
      cases hp : P n with
      | true => rw [if_pos rfl]; exact .inl ⟨⟨n, Nat.le_refl _, h1, ho, hp⟩, rfl⟩
      | false => rw [if_neg (by simp)]; exact on fun _ => hp
    · have e1 : o.contains n = false := by simpa using ho
      rw [e1]
      show (_ ∧ optc false _ _ = _) ∨ (_ ∧ optc false _ _ = _)
      rw [optc_f, chk_pos e64, Bool.false_and, if_neg (by simp)]
      exact on fun h => absurd h ho
theorem f31_eq (x y : HOp) : f31 x.1 x.2.1 x.2.2.1 x.2.2.2.1 x.2.2.2.2 y.1 y.2.1 y.2.2.1 y.2.2.2.1 y.2.2.2.2 = some (decide (x.2.2.1 ≠ -1) && decide (x.2.2.1 < y.2.1)) := by
  unfold f31 f36
  rw [some_bind]
  congr 1
  congr 1
  rw [Bool.eq_iff_iff]
  simp
theorem f41_eq {l : HL} {m : Nat} {o : List Nat} (hl : valL l) (hm : Msk l.length m o) (ho : ∀ x ∈ o, x < l.length) {i : Nat} (x8 : Int) (x9 : List Int) (x10 : List (List StT)) :
    f41 (m : Int) (l.getD i d0).1 (l.getD i d0).2.1 (l.getD i d0).2.2.1 (l.getD i d0).2.2.2.1 (l.getD i d0).2.2.2.2 l x8 x9 x10 = some (Hist.okP (Bf false l) o i, l, x8, x9, x10) := by
  unfold f41
  rw [jn_eq]
  rcases f41_loop hl hm (l.getD i d0).1 (l.getD i d0).2.1 (l.getD i d0).2.2.1 (l.getD i d0).2.2.2.1 (l.getD i d0).2.2.2.2 x8 x9 x10 (fun _ => some (true, l, x8, x9, x10)) (fun j => Bf false l i j) (fun j _ => by rw [f31_eq]; unfold Bf cmpl; simp) l.length FUEL 0 (by omega) (fuel_lt (by have := hl.1; omega)) with ⟨⟨j, _, _, h3, h4⟩, h5⟩ | ⟨h3, h5⟩
  · have : Hist.okP (Bf false l) o i = false := by
      unfold Hist.okP
      rw [List.all_eq_false]
      exact ⟨j, h3, by simp [h4]⟩
    rw [h5, this]
  · have : Hist.okP (Bf false l) o i = true := by
      unfold Hist.okP
      rw [List.all_eq_true]
      intro j hj
      simp [h3 j (Nat.zero_le _) (ho j hj) hj]
    rw [h5, this]
theorem f48_eq {l : HL} (hl : valL l) {c : Nat} (hc : Cmk l.length c (cmpl l)) : ∀ (k : Nat) (o : List Nat) (m : Nat) (p : StT) (ks : List Int) (vs : List (List StT)) (M : Nat), left l.length o < k → Msk l.length m o → (∀ x ∈ o, x < l.length) → o.length + left l.length o ≤ 1000 → StV p → Memo l.length (SR false l) M ks vs →
    M + TT (left l.length o) ≤ 1000000000000 → ∃ ks' vs', f48 k (m : Int) (ints o) p l (c : Int) ks vs = some (ans (SR false l o p) l (c : Int) ks' vs') ∧ Memo l.length (SR false l) (M + TT (left l.length o)) ks' vs'
  | 0, _, _, _, _, _, _, h, _, _, _, _, _, _ => by omega
  | k + 1, o, m, p, ks, vs, M, hk, hm, ho, hlen, hV, hM, hB => by
    have h10 := hl.1
    have hTp := TT_pos (left l.length o)
    rw [f48.eq_2, msk_fin hl.1 hm hc, SR_eq]
    by_cases hf : finC l.length (cmpl l) o = true
    · rw [if_pos hf, if_pos hf]
      exact ⟨ks, vs, rfl, hM.mono _ (by omega)⟩
    rw [if_neg hf, if_neg hf]
    obtain ⟨hg1, hg2⟩ := hM.get (SR false l) (m : Int)
    rw [f61_eq _ p (by omega) (fun v hv => Nat.le_trans (hg2 v hv).len (by decide)), some_bind, chk_pos rfl]
    by_cases hmem : p ∈ getM ks vs [] [] (m : Int)
    · have hn := hM.ok m p hmem o hm ho
      rw [SR_eq, if_neg hf] at hn
      rw [hn, if_pos (decide_eq_true hmem)]
      exact ⟨ks, vs, rfl, hM.mono _ (by omega)⟩
    rw [if_neg (by simpa using hmem), jn_eq]
    -- one operation after the other
    let g : Nat → Option (List Nat) := fun i => if o.contains i || !Hist.okP (Bf false l) o i then none else (stpl XS l p i).bind (SR false l (o ++ [i]))
    let r := left l.length o - 1
    have main : ∀ (r8 : Bool × List StT × StT), r8.2.2 = p → ∀ (e q j : Nat) (ks : List Int) (vs : List (List StT)) (K : HL × Int × List Int × List (List StT) → Option (List Int × Bool × HL × Int × List Int × List (List StT))), j + e = l.length → e < q → Memo l.length (SR false l) (M + j * TT r) ks vs →
        ∃ ks' vs', Memo l.length (SR false l) (M + l.length * TT r) ks' vs' ∧ f48_L0 (m : Int) (ints o) l (f48 k) r8 K q (j, l, (c : Int), ks, vs) = match ((List.range l.length).drop j).findSome? g with
          | some w => some (ans (some w) l (c : Int) ks' vs')
          | none => K (l, (c : Int), ks', vs') := by
      intro r8 hr8 e
      induction e with
      | zero =>
        intro q j ks vs K hj hq hM
        obtain ⟨q, rfl⟩ : ∃ z, q = z + 1 := ⟨q - 1, by omega⟩
        obtain rfl : j = l.length := by omega
        refine ⟨ks, vs, hM, ?_⟩
        rw [f48_L0.eq_2, ifd_neg (by omega), List.drop_eq_nil_of_le (by simp)]
        rfl
      | succ e ih =>
        intro q j ks vs K hj hq hM
        obtain ⟨q, rfl⟩ : ∃ z, q = z + 1 := ⟨q - 1, by omega⟩
        have hjl : j < l.length := by omega
        have hj64 : j ≤ IntKind.bits .u64 := by show j ≤ 64; omega
        have hstep : M + (j + 1) * TT r = M + j * TT r + TT r := by rw [Nat.add_mul, Nat.one_mul, Nat.add_assoc]
        -- on to the next one
        have skip : ∀ ks vs, Memo l.length (SR false l) (M + (j + 1) * TT r) ks vs → g j = none → ∃ ks' vs', Memo l.length (SR false l) (M + l.length * TT r) ks' vs' ∧ (chk (((j : Int) + (1 : Int)) ≤ 9223372036854775807) <| (f48_L0 (m : Int) (ints o) l (f48 k) r8 K q) ((j + 1), l, (c : Int), ks, vs)) = match ((List.range l.length).drop j).findSome? g with
            | some w => some (ans (some w) l (c : Int) ks' vs')
            | none => K (l, (c : Int), ks', vs') := by
          intro ks vs hM' hgj
          obtain ⟨ks', vs', h1, h2⟩ := ih q (j + 1) ks vs K (by omega) (by omega) hM'
          refine ⟨ks', vs', h1, ?_⟩
          rw [chk_pos (by omega), h2, range_drop _ _ hjl, findSome_drop, hgj]
        have up : ∀ ks vs, Memo l.length (SR false l) (M + j * TT r) ks vs → Memo l.length (SR false l) (M + (j + 1) * TT r) ks vs := fun ks vs h => h.mono _ (by omega)
        rw [f48_L0.eq_2, ifd_pos (by omega), jn_eq, chk_pos (by omega), bit64 m j (hm.lt hl.1), hm.2 j hjl]
        by_cases hjo : j ∈ o
        · rw [if_pos (by simpa using hjo), chk_pos hj64]
          exact skip ks vs (up ks vs hM) (by simp only [g]; rw [if_pos (by simp [hjo])])
        rw [if_neg (by simpa using hjo)]
        simp only [d0_eq]
        rw [f41_eq hl hm ho (i := j) (c : Int) ks vs, some_bind, chk_pos hj64]
        cases hok : Hist.okP (Bf false l) o j with
        | false =>
          rw [if_pos (by simp)]
          exact skip ks vs (up ks vs hM) (by simp only [g]; rw [if_pos (by simp [hok])])
        | true =>
        have hg : g j = (stpl XS l p j).bind (SR false l (o ++ [j])) := by simp only [g]; rw [if_neg (by simp [hjo, hok])]
        obtain ⟨e40, _, eV⟩ := XS_ok hV (hv_at hl hjl).op (l.getD j d0).1 (l.getD j d0).2.1 (l.getD j d0).2.2.1 (l.getD j d0).2.2.2.2
        rw [if_neg (by simp), hr8, e40, some_bind]
        unfold f36
        rw [some_bind]
        have hstp : stpl XS l p j = if ((!((l.getD j d0).2.2.1 == (-1 : Int))) && (!((XS p (l.getD j d0).2.2.2.1).2 == (l.getD j d0).2.2.2.2))) = true then none else some (XS p (l.getD j d0).2.2.2.1).1 := by
          unfold stpl cmpl
          congr 2
          rw [Bool.eq_iff_iff]
          simp
        by_cases hres : ((!((l.getD j d0).2.2.1 == (-1 : Int))) && (!((XS p (l.getD j d0).2.2.2.1).2 == (l.getD j d0).2.2.2.2))) = true
        · rw [if_pos hres]
          rw [if_pos hres] at hstp
          exact skip ks vs (up ks vs hM) (by rw [hg, hstp]; rfl)
        rw [if_neg hres]
        rw [if_neg hres] at hstp
        obtain ⟨hor, hmsk⟩ := msk_add hl.1 hm hjl
        have hlt := left_lt (n := l.length) (o := o) hjl (by simpa using hjo)
        have hol : (ints o).length ≤ 1000 := by simp only [ints, List.length_map]; omega
        rw [f26_eq _ (by omega), some_bind, hor, ← ints_snoc]
        have hTm : TT (left l.length (o ++ [j])) ≤ TT r := TT_mono (by show _ ≤ left l.length o - 1; omega)
        have hTj : j * TT r ≤ 9 * TT r := Nat.mul_le_mul_right _ (by omega)
        have hTr : TT (left l.length o) = 1 + 10 * TT r := by
          show TT (left l.length o) = 1 + 10 * TT (left l.length o - 1)
          obtain ⟨z, hz⟩ : ∃ z, left l.length o = z + 1 := ⟨left l.length o - 1, by omega⟩
          rw [hz]; rfl
        obtain ⟨ks', vs', h1, h2⟩ := f48_eq hl hc k (o ++ [j]) (m ||| 2 ^ j) (XS p (l.getD j d0).2.2.2.1).1 ks vs (M + j * TT r) (by omega) hmsk (fun x hx => by
          rcases List.mem_append.1 hx with hx | hx
          · exact ho x hx
          · simp only [List.mem_singleton] at hx; omega) (by simp only [List.length_append, List.length_singleton]; omega) eV hM (by omega)
        have hp2 : (1 : Int) * 2 ^ j ≤ 18446744073709551615 := by
          have h3 : (2 : Nat) ^ j ≤ 2 ^ 10 := Nat.pow_le_pow_right (by decide) (by omega)
          have h4 : ((2 : Int) ^ j) = ((2 ^ j : Nat) : Int) := by simp
          rw [h4, Int.one_mul]
          have h5 : (2 : Nat) ^ 10 = 1024 := rfl
          generalize (2 : Nat) ^ j = z at h3
          omega
        have hp1 : 0 ≤ (1 : Int) * 2 ^ j := by
          have h4 : ((2 : Int) ^ j) = ((2 ^ j : Nat) : Int) := by simp
          rw [h4, Int.one_mul]
          exact Int.natCast_nonneg _
        rw [h1, some_bind, chk_pos ⟨hj64, hp1, hp2⟩, chk_pos (by omega)]
        have h2' : Memo l.length (SR false l) (M + (j + 1) * TT r) ks' vs' := h2.mono _ (by omega)
        cases hS : SR false l (o ++ [j]) (XS p (l.getD j d0).2.2.2.1).1 with
        | some w =>
          refine ⟨ks', vs', h2'.mono _ (by have := Nat.mul_le_mul_right (TT r) (show j + 1 ≤ l.length by omega); omega), ?_⟩
          rw [range_drop _ _ hjl, findSome_drop, hg, hstp]
          simp only [Option.bind_some, hS]
          rfl
        | none =>
          rw [if_neg (show ¬ ((ans none l (c : Int) ks' vs').2.1 = true) from fun h => by cases h)]
          exact skip ks' vs' h2' (by rw [hg, hstp]; simp only [Option.bind_some, hS])
    have hleft : 1 ≤ left l.length o := by
      rcases Nat.eq_zero_or_pos (left l.length o) with h0 | h0
      · exfalso
        apply hf
        rw [finC_iff]
        intro i hi _
        unfold left at h0
        rw [List.countP_eq_zero] at h0
        have := h0 i (List.mem_range.2 hi)
        simpa using this
      · exact h0
    have hTr : TT (left l.length o) = 1 + 10 * TT r := by
      show TT (left l.length o) = 1 + 10 * TT (left l.length o - 1)
      obtain ⟨z, hz⟩ : ∃ z, left l.length o = z + 1 := ⟨left l.length o - 1, by omega⟩
      rw [hz]; rfl
    have hTn : l.length * TT r ≤ 10 * TT r := Nat.mul_le_mul_right _ (by omega)
    obtain ⟨ks', vs', h1, h2⟩ := main (decide (p ∈ getM ks vs [] [] (m : Int)), getM ks vs [] [] (m : Int), p) rfl l.length FUEL 0 ks vs _ (by omega) (fuel_lt (by omega)) (by simpa using hM)
    rw [h2, List.drop_zero]
    have hgg : (List.range l.length).findSome? (fun i => if o.contains i || !Hist.okP (Bf false l) o i then none else (stpl XS l p i).bind (SR false l (o ++ [i]))) = (List.range l.length).findSome? g := rfl
    rw [hgg]
    cases hS : (List.range l.length).findSome? g with
    | some w => exact ⟨ks', vs', rfl, h1.mono _ (by omega)⟩
    | none =>
      have hno : SR false l o p = none := by rw [SR_eq, if_neg hf]; exact hS
      have hadd := h1.add (SR false l) (m := m) hV fun o' ho' hx' => SR_set (msk_same hm ho' ho hx') hno
      have hg3 := (h1.get (SR false l) (m : Int)).1
      dsimp only
      rw [chk_pos (by omega)]
      exact ⟨_, _, rfl, hadd.mono _ (by omega)⟩
theorem f30_loop {l : HL} (hl : valL l) (K : Int → Option (List Int × Int)) : ∀ e k n (c : Nat), n + e = l.length → e < k → Cmk n c (cmpl l) → ∃ c', Cmk l.length c' (cmpl l) ∧ f30_L0 l K k (n, (c : Int)) = K (c' : Int)
  | 0, k, n, c, hn, hk, hc => by
    obtain ⟨k, rfl⟩ : ∃ q, k = q + 1 := ⟨k - 1, by omega⟩
    obtain rfl : n = l.length := by omega
    exact ⟨c, hc, by rw [f30_L0.eq_2, ifd_neg (by omega)]⟩
  | e + 1, k, n, c, hn, hk, hc => by
    obtain ⟨k, rfl⟩ : ∃ q, k = q + 1 := ⟨k - 1, by omega⟩
    have h10 := hl.1
    have hnl : n < l.length := by omega
    obtain ⟨c', h1, h2⟩ := f30_loop hl K e k (n + 1) _ (by omega) (by omega) (cmk_step hc)
    refine ⟨c', h1, ?_⟩
    rw [f30_L0.eq_2, ifd_pos (by omega), jn_eq, chk_pos (by omega), d0_eq]
    unfold f36
    rw [some_bind]
    by_cases hen : (l.getD n d0).2.2.1 = -1
    · have e1 : cmpl l n = false := by unfold cmpl; simp only [hen]; rfl
      rw [e1] at h2
      simp only [Bool.false_eq_true, if_false] at h2
      rw [if_neg (by rw [hen]; decide)]
      dsimp only
      rw [chk_pos (by omega)]
      exact h2
    · have e1 : cmpl l n = true := cmpl_iff.2 hen
      rw [e1, if_pos rfl] at h2
      have hpow : ((2 : Int) ^ n) = ((2 ^ n : Nat) : Int) := by simp
      have hp3 : (2 : Nat) ^ n ≤ 2 ^ 10 := Nat.pow_le_pow_right (by decide) (by omega)
      have hp4 : (2 : Nat) ^ 10 = 1024 := rfl
      have hc64 : c < 2 ^ 64 := Nat.lt_of_lt_of_le hc.1 (Nat.le_trans (Nat.pow_le_pow_right (by decide) (show n ≤ 10 by omega)) (by decide))
      have hor : bitsI .or .u64 (c : Int) ((1 : Int) * 2 ^ n) = ((c ||| 2 ^ n : Nat) : Int) := by
        rw [Int.one_mul, hpow]
        exact or64 c (2 ^ n) hc64 (Nat.lt_of_le_of_lt hp3 (by decide))
      have hb : n ≤ IntKind.bits .u64 ∧ 0 ≤ ((1 : Int) * 2 ^ n) ∧ ((1 : Int) * 2 ^ n) ≤ 18446744073709551615 := by
        refine ⟨by show n ≤ 64; omega, ?_, ?_⟩
        · rw [Int.one_mul, hpow]; exact Int.natCast_nonneg _
        · rw [Int.one_mul, hpow]
          generalize (2 : Nat) ^ n = z at hp3
          omega
      rw [if_pos (by simpa using hen), chk_pos hb]
      dsimp only
      rw [chk_pos (by omega), hor]
      exact h2
/-- the answer to a search -/
theorem f30_eq {l : HL} (hl : valL l) : f30 l = some (match SR false l [] [] with | some w => (ints w, 0) | none => ([], 14)) := by
  have h10 := hl.1
  unfold f30
  rw [jn_eq]
  obtain ⟨c, h1, h2⟩ := f30_loop hl (fun i6 => (f48 FUEL (0 : Int) [] [] l i6 [] []).bind fun r7 => if (!r7.2.1) then some ([], (14 : Int)) else some (r7.1, (0 : Int))) l.length FUEL 0 0 (by omega) (fuel_lt (by omega)) ⟨by simp, fun i hi => by omega⟩
  have e0 : ((0 : Nat) : Int) = 0 := rfl
  rw [e0] at h2
  rw [h2]
  have hle := left_le l.length []
  have hT : TT (left l.length []) ≤ 20000000000 := TT_le _ (by omega)
  obtain ⟨ks', vs', h3, _⟩ := f48_eq hl h1 FUEL [] 0 [] [] [] 0 (fuel_lt (by omega)) (msk_nil _) (by simp) (by simp only [List.length_nil]; omega) .nil (Memo.nil _) (by omega)
  have e1 : ints [] = [] := rfl
  rw [e0, e1] at h3
  rw [h3, some_bind]
  cases hS : SR false l [] [] with
  | some w => rfl
  | none => rfl
end Go.Abs
namespace Go.Abs
open Go Go.Hist
/-! ### valid histories -/
def opOk (x : List UInt8) : Prop := ∃ k a b c, okOp k a b c = true ∧ txt k a b c = x
theorem parse_cases (x : List UInt8) (hx : x.length ≤ 1000000) : (opOk x ∧ (∃ r : Int × List UInt8 × List UInt8 × List UInt8 × Int, f50 x = some r ∧ r.2.2.2.2 = 0) ∧ ∃ r : Int × List UInt8 × List UInt8 × List UInt8 × Int, f35 x = some r ∧ r.2.2.2.2 = 0) ∨
    (¬ opOk x ∧ (∃ r : Int × List UInt8 × List UInt8 × List UInt8 × Int, f50 x = some r ∧ r.2.2.2.2 = 2) ∧ ∃ r : Int × List UInt8 × List UInt8 × List UInt8 × Int, f35 x = some r ∧ r.2.2.2.2 = 2) := by
  by_cases h : opOk x
  · left
    obtain ⟨k, a, b, c, h1, rfl⟩ := id h
    exact ⟨h, ⟨_, f50_hit h1 hx, rfl⟩, ⟨_, f35_hit h1 hx, rfl⟩⟩
  · right
    have hno : NoOp x := fun k a b c h1 h2 => h ⟨k, a, b, c, h1, h2⟩
    exact ⟨h, ⟨_, f50_miss hno hx, rfl⟩, ⟨_, f35_miss hno hx, rfl⟩⟩
/-- the error of an operation -/
noncomputable def vE (x : HOp) : Int :=
  if x.1 < 0 ∨ x.1 ≥ 6 ∨ x.2.1 < 0 ∨ (x.2.2.1 ≠ -1 ∧ x.2.2.1 < x.2.1) then 7
  else @ite Int (opOk x.2.2.2.1) (Classical.propDecidable _) (if x.2.2.1 = -1 ∧ x.2.2.2.2 ≠ [] then 1 else 0) 2
theorem vE_zero {x : HOp} : vE x = 0 ↔ HV x := by
  unfold vE
  split
  · rename_i h
    refine ⟨fun h => (by cases h), fun hv => ?_⟩
    have := hv.cl; have := hv.bg; have := hv.en
    omega
  · rename_i h
    split
    · rename_i ho
      split
      · rename_i hr
        exact ⟨fun h => (by cases h), fun hv => absurd (hv.rs hr.1) hr.2⟩
      · rename_i hr
        refine ⟨fun _ => ⟨by omega, by omega, by omega, ho, fun he => Classical.byContradiction fun hne => hr ⟨he, hne⟩⟩, fun _ => rfl⟩
    · rename_i ho
      exact ⟨fun h => (by cases h), fun hv => absurd hv.op ho⟩
def condB (x : HOp) : Bool := (((decide (x.1 < (0 : Int))) || (decide (x.1 ≥ (6 : Int)))) || (decide (x.2.1 < (0 : Int)))) || ((!(x.2.2.1 == (-1 : Int))) && (decide (x.2.2.1 < x.2.1)))
theorem condB_iff (x : HOp) : condB x = true ↔ (x.1 < 0 ∨ x.1 ≥ 6 ∨ x.2.1 < 0 ∨ (x.2.2.1 ≠ -1 ∧ x.2.2.1 < x.2.1)) := by
  unfold condB
  simp [or_assoc]
theorem f34_eq (x : HOp) (hx : x.2.2.2.1.length ≤ 1000000) : f34 x.1 x.2.1 x.2.2.1 x.2.2.2.1 x.2.2.2.2 = some (vE x) := by
  obtain ⟨x1, x2, x3, x4, x5⟩ := x
  simp only at hx ⊢
  have main : ∀ r6 : Bool, ((((decide (x1 < (0 : Int))) || (decide (x1 ≥ (6 : Int)))) || (decide (x2 < (0 : Int)))) = false → r6 = (x3 == (-1 : Int))) → (chk (((((decide (x1 < (0 : Int))) || (decide (x1 ≥ (6 : Int)))) || (decide (x2 < (0 : Int)))) == false) = true → ((((decide (x1 < (0 : Int))) || (decide (x1 ≥ (6 : Int)))) || (decide (x2 < (0 : Int)))) == false) = true → (!r6) = true → (((((decide (x1 < (0 : Int))) || (decide (x1 ≥ (6 : Int)))) || (decide (x2 < (0 : Int)))) == false) && ((!r6) == true)) = true) <|
      if ((((decide (x1 < (0 : Int))) || (decide (x1 ≥ (6 : Int)))) || (decide (x2 < (0 : Int)))) || ((!r6) && (decide (x3 < x2)))) then (
      some (7 : Int)
      ) else (
      (f50 x4).bind fun (r7 : Int × List UInt8 × List UInt8 × List UInt8 × Int) =>
      if (r7.2.2.2.2 != (0 : Int)) then (
      some (2 : Int)
      ) else (
      (f36 x1 x2 x3 x4 x5).bind fun (r8 : Bool) =>
      if (r8 && (!(x5 == []))) then (
      some (1 : Int)
      ) else (
      some (0 : Int)
      )
      )
      )) = some (vE (x1, x2, x3, x4, x5)) := by
    intro r6 hr6
    rw [chk_pos (fun h1 _ h3 => by simp only [h3, Bool.and_eq_true]; exact ⟨h1, rfl⟩)]
    have hc := condB_iff (x1, x2, x3, x4, x5)
    unfold condB at hc
    simp only at hc
    have hb : ((((decide (x1 < (0 : Int))) || (decide (x1 ≥ (6 : Int)))) || (decide (x2 < (0 : Int)))) || ((!r6) && (decide (x3 < x2)))) = ((((decide (x1 < (0 : Int))) || (decide (x1 ≥ (6 : Int)))) || (decide (x2 < (0 : Int)))) || ((!(x3 == (-1 : Int))) && (decide (x3 < x2)))) := by
      cases hA : (((decide (x1 < (0 : Int))) || (decide (x1 ≥ (6 : Int)))) || (decide (x2 < (0 : Int)))) with
      | true => rfl
      | false => rw [hr6 hA]
    rw [hb]
    by_cases hcc : ((((decide (x1 < (0 : Int))) || (decide (x1 ≥ (6 : Int)))) || (decide (x2 < (0 : Int)))) || ((!(x3 == (-1 : Int))) && (decide (x3 < x2)))) = true
    · rw [if_pos hcc]
      unfold vE
      rw [if_pos (hc.1 hcc)]
    · rw [if_neg hcc]
      unfold vE
      rw [if_neg (fun h => hcc (hc.2 h))]
      rcases parse_cases x4 hx with ⟨ho, ⟨r, hr, hr0⟩, _⟩ | ⟨ho, ⟨r, hr, hr0⟩, _⟩
      · rw [hr, some_bind, hr0, if_neg (by decide), if_pos ho]
        unfold f36
        rw [some_bind]
        by_cases h5 : x3 = -1 ∧ x5 ≠ []
        · rw [if_pos (by simpa using h5), if_pos h5]
        · rw [if_neg (by simpa using h5), if_neg h5]
      · rw [hr, some_bind, hr0, if_pos (by decide), if_neg ho]
  unfold f34
  cases hA : (((decide (x1 < (0 : Int))) || (decide (x1 ≥ (6 : Int)))) || (decide (x2 < (0 : Int)))) with
  | true =>
    have := main default (by rw [hA]; intro h; cases h)
    rw [hA] at this
    exact this
  | false =>
    have := main (x3 == (-1 : Int)) (fun _ => rfl)
    rw [hA] at this
    unfold f36
    exact this
/-- the error of a history -/
noncomputable def vLs : HL → Int
  | [] => 0
  | x :: l => if vE x ≠ 0 then vE x else vLs l
theorem vL_zero : ∀ {l : HL}, vLs l = 0 ↔ ∀ x ∈ l, HV x
  | [] => by simp [vLs]
  | x :: l => by
    unfold vLs
    split
    · rename_i h
      exact ⟨fun h2 => absurd h2 h, fun h2 => absurd (vE_zero.2 (h2 x (by simp))) h⟩
    · rename_i h
      have h : vE x = 0 := Classical.byContradiction h
      rw [vL_zero]
      constructor
      · intro h2 y hy
        rcases List.mem_cons.1 hy with rfl | hy
        · exact vE_zero.1 h
        · exact h2 y hy
      · exact fun h2 y hy => h2 y (List.mem_cons_of_mem _ hy)
noncomputable def vH (l : HL) : Int := if l.length > 10 then 3 else vLs l
theorem vH_zero {l : HL} : vH l = 0 ↔ valL l := by
  unfold vH valL
  split
  · exact ⟨fun h => (by cases h), fun h => by omega⟩
  · rw [vL_zero]; exact ⟨fun h => ⟨by omega, h⟩, fun h => h.2⟩
theorem f17_loop {l : HL} (hb : l.length ≤ 1000000) (ht : ∀ x ∈ l, x.2.2.2.1.length ≤ 1000000) : ∀ e k n, n + e = l.length → e < k → f17_L0 l (fun _ => some (0 : Int)) k n = some (vLs (l.drop n))
  | 0, k, n, hn, hk => by
    obtain ⟨k, rfl⟩ : ∃ q, k = q + 1 := ⟨k - 1, by omega⟩
    rw [f17_L0.eq_2, ifd_neg (by omega), List.drop_eq_nil_of_le (by omega)]; rfl
  | e + 1, k, n, hn, hk => by
    obtain ⟨k, rfl⟩ : ∃ q, k = q + 1 := ⟨k - 1, by omega⟩
    have hnl : n < l.length := by omega
    rw [f17_L0.eq_2, ifd_pos (by omega), chk_pos (by omega), d0_eq, f34_eq _ (ht _ (Hist.getD_mem hnl)), some_bind, chk_pos (by omega), f17_loop hb ht e k (n + 1) (by omega) (by omega), getD_drop l n d0 hnl]
    by_cases h : vE (l.getD n d0) = 0
    · rw [if_neg (by simp only [h]; decide)]
      conv => rhs; unfold vLs
      rw [if_neg (by simpa using h)]
    · rw [if_pos (by simpa using h)]
      conv => rhs; unfold vLs
      rw [if_pos h]
theorem f17_eq {l : HL} (hb : l.length ≤ 1000000) (ht : ∀ x ∈ l, x.2.2.2.1.length ≤ 1000000) : f17 l = some (vH l) := by
  unfold f17 vH
  by_cases h : l.length > 10
  · rw [ifd_pos (by omega), if_pos h]
  · rw [ifd_neg (by omega), if_neg h, jn_eq, f17_loop hb ht l.length FUEL 0 (by omega) (fuel_lt (by omega)), List.drop_zero]
theorem f18_loop {l : HL} (hb : l.length ≤ 1000000) (ht : ∀ x ∈ l, x.2.2.2.1.length ≤ 1000000) : ∀ e k n, n + e = l.length → e < k → f18_L0 l (fun _ => some (0 : Int)) k n = some (vLs (l.drop n))
  | 0, k, n, hn, hk => by
    obtain ⟨k, rfl⟩ : ∃ q, k = q + 1 := ⟨k - 1, by omega⟩
    rw [f18_L0.eq_2, ifd_neg (by omega), List.drop_eq_nil_of_le (by omega)]; rfl
  | e + 1, k, n, hn, hk => by
    obtain ⟨k, rfl⟩ : ∃ q, k = q + 1 := ⟨k - 1, by omega⟩
    have hnl : n < l.length := by omega
    rw [f18_L0.eq_2, ifd_pos (by omega), chk_pos (by omega), d0_eq, chk_pos (fun h1 _ h3 => by rw [h1, h3]; rfl), f18_loop hb ht e k (n + 1) (by omega) (by omega), getD_drop l n d0 hnl]
    have hx := ht _ (Hist.getD_mem hnl)
    generalize l.getD n d0 = x at hx
    have hc := condB_iff x
    unfold condB at hc
    have hb' : (x.2.2.1 != (-1 : Int)) = !(x.2.2.1 == (-1 : Int)) := rfl
    rw [hb']
    conv => rhs; unfold vLs
    unfold vE
    by_cases hcc : ((((decide (x.1 < (0 : Int))) || (decide (x.1 ≥ (6 : Int)))) || (decide (x.2.1 < (0 : Int)))) || ((!(x.2.2.1 == (-1 : Int))) && (decide (x.2.2.1 < x.2.1)))) = true
    · rw [if_pos hcc, if_pos (hc.1 hcc), if_pos (by decide)]
    · rw [if_neg hcc, if_neg (fun h => hcc (hc.2 h))]
      rcases parse_cases x.2.2.2.1 hx with ⟨ho, _, ⟨r, hr, hr0⟩⟩ | ⟨ho, _, ⟨r, hr, hr0⟩⟩
      · rw [hr, some_bind, hr0, if_neg (by decide), if_pos ho]
        by_cases h5 : x.2.2.1 = -1 ∧ x.2.2.2.2 ≠ []
        · rw [if_pos (by simpa using h5), if_pos h5, if_pos (by decide)]
        · rw [if_neg (by simpa using h5), if_neg h5, if_neg (by decide), chk_pos (by omega)]
      · rw [hr, some_bind, hr0, if_pos (by decide), if_neg ho, if_pos (by decide)]
theorem f18_eq {l : HL} (hb : l.length ≤ 1000000) (ht : ∀ x ∈ l, x.2.2.2.1.length ≤ 1000000) : f18 l = some (vH l) := by
  unfold f18 vH
  by_cases h : l.length > 10
  · rw [ifd_pos (by omega), if_pos h]
  · rw [ifd_neg (by omega), if_neg h, jn_eq, f18_loop hb ht l.length FUEL 0 (by omega) (fuel_lt (by omega)), List.drop_zero]
/-! ### the specification's search -/
theorem f42_loop {x : List Int} (y : Int) (hb : x.length ≤ 1000000) : ∀ e k n, n + e = x.length → e < k → f42_L0 x y (fun _ => some false) k n = some (decide (y ∈ x.drop n))
  | 0, k, n, hn, hk => by
    obtain ⟨k, rfl⟩ : ∃ q, k = q + 1 := ⟨k - 1, by omega⟩
    rw [f42_L0.eq_2, ifd_neg (by omega), List.drop_eq_nil_of_le (by omega)]; rfl
  | e + 1, k, n, hn, hk => by
    obtain ⟨k, rfl⟩ : ∃ q, k = q + 1 := ⟨k - 1, by omega⟩
    have hnl : n < x.length := by omega
    rw [f42_L0.eq_2, ifd_pos (by omega), chk_pos (by omega), chk_pos (by omega), f42_loop y hb e k (n + 1) (by omega) (by omega), getD_drop x n 0 hnl]
    by_cases h : x.getD n 0 = y
    · rw [if_pos (by simpa using h), h]; simp
    · rw [if_neg (by simpa using h)]
      congr 1
      rw [decide_eq_decide, List.mem_cons]
      exact ⟨.inr, fun h2 => h2.resolve_left fun e => h e.symm⟩
theorem f42_eq (x : List Int) (y : Int) (hb : x.length ≤ 1000000) : f42 x y = some (decide (y ∈ x)) := by
  unfold f42
  rw [jn_eq, f42_loop y hb x.length FUEL 0 (by omega) (fuel_lt (by omega)), List.drop_zero]
theorem mem_ints {o : List Nat} {i : Nat} : (i : Int) ∈ ints o ↔ i ∈ o := by
  unfold ints
  rw [List.mem_map]
  exact ⟨fun ⟨j, h1, h2⟩ => by have : j = i := by omega
                               exact this ▸ h1, fun h => ⟨i, h, rfl⟩⟩
theorem f42_ints (o : List Nat) (i : Nat) (hb : o.length ≤ 1000000) : f42 (ints o) (i : Int) = some (o.contains i) := by
  rw [f42_eq _ _ (by simpa [ints] using hb)]
  congr 1
  rw [Bool.eq_iff_iff]
  simp [mem_ints]
theorem f43_eq (x y : HOp) (own : Bool) : f43 x.1 x.2.1 x.2.2.1 x.2.2.2.1 x.2.2.2.2 y.1 y.2.1 y.2.2.1 y.2.2.2.1 y.2.2.2.2 own = some (decide (x.2.2.1 ≠ -1) && (decide (x.2.2.1 < y.2.1) && (!own || decide (x.1 = y.1)))) := by
  unfold f43
  rw [chk_pos (fun h1 _ h3 => by rw [h1, h3]; rfl)]
  congr 1
  rw [Bool.eq_iff_iff]
  simp [and_assoc]
end Go.Abs
namespace Go.Abs
open Go
theorem awake57 : f9 = some true := by kernel_rfl
end Go.Abs
namespace Go.Abs
open Go Go.Hist
/-- the specification's search with as much fuel as it wants -/
def SQ (own : Bool) (l : HL) (o : List Nat) (p : StT) : Option (List Nat) := srch l.length (okR l.length (Bf own l)) (finC l.length (cmpl l)) (stpl XS l) (l.length + 1) o p
theorem SQ_eq (own : Bool) (l : HL) (o : List Nat) (p : StT) : SQ own l o p = if finC l.length (cmpl l) o then some o else (List.range l.length).findSome? fun i => if o.contains i || !okR l.length (Bf own l) o i then none else (stpl XS l p i).bind (SQ own l (o ++ [i])) := by
  have hle := left_le l.length o
  conv => lhs; unfold SQ
  rw [srch_fuel (l.length + 1) (left l.length o + 1) o p (by omega) (by omega), srch]
  split
  · rfl
  · refine findSome_congr fun i hi => ?_
    split
    · rfl
    · rename_i hc
      simp only [Bool.or_eq_true, not_or, Bool.not_eq_true] at hc
      have h1 := left_lt (List.mem_range.1 hi) hc.1
      congr 1
      funext t
      exact srch_fuel _ _ _ _ h1 (by have := left_le l.length (o ++ [i]); omega)
theorem Bf_comp {own : Bool} {l : HL} (a b : Nat) (h : Bf own l a b = true) : cmpl l a = true := by
  unfold Bf at h
  exact (Bool.and_eq_true_iff.1 h).1
theorem Bf_irr {own : Bool} {l : HL} (hl : valL l) (a : Nat) : Bf own l a a = false := by
  unfold Bf
  cases hc : cmpl l a with
  | false => rfl
  | true =>
    have hen := cmpl_iff.1 hc
    by_cases ha : a < l.length
    · have := (hv_at hl ha).en
      have hlt : ¬ (l.getD a d0).2.2.1 < (l.getD a d0).2.1 := by omega
      rw [decide_eq_false hlt]; rfl
    · have e : l.getD a d0 = d0 := by rw [List.getD_eq_getElem?_getD, List.getElem?_eq_none (by omega)]; rfl
      rw [e]; rfl
theorem SR_SQ {own : Bool} {l : HL} (hl : valL l) : SR own l [] [] = SQ own l [] [] := srch_same (fun a b h => Bf_comp a b h) (fun a => Bf_irr hl a) _ _ _ fun a _ _ x hx => by cases hx
theorem all_drop (n j : Nat) (p : Nat → Bool) (h : j < n) : ((List.range n).drop j).all p = (p j && ((List.range n).drop (j + 1)).all p) := by rw [range_drop _ _ h, List.all_cons]
theorem any_drop (n j : Nat) (p : Nat → Bool) (h : j < n) : ((List.range n).drop j).any p = (p j || ((List.range n).drop (j + 1)).any p) := by rw [range_drop _ _ h, List.any_cons]
theorem f49_L0_eq {l : HL} (hl : valL l) {o : List Nat} (ho : o.length ≤ 1000) (K : Bool → Option (List Int × Bool)) : ∀ e k n b, n + e = l.length → e < k → f49_L0 l (ints o) K k (b, n) = K (b && ((List.range l.length).drop n).all fun i => !cmpl l i || o.contains i)
  | 0, k, n, b, hn, hk => by
    obtain ⟨k, rfl⟩ : ∃ q, k = q + 1 := ⟨k - 1, by omega⟩
    rw [f49_L0.eq_2, ifd_neg (by omega), List.drop_eq_nil_of_le (by simp; omega), List.all_nil, Bool.and_true]
  | e + 1, k, n, b, hn, hk => by
    obtain ⟨k, rfl⟩ : ∃ q, k = q + 1 := ⟨k - 1, by omega⟩
    have h10 := hl.1
    have hnl : n < l.length := by omega
    have ih := f49_L0_eq hl ho K e k (n + 1)
    have e1 : cmpl l n = !((l.getD n d0).2.2.1 == (-1 : Int)) := by
      unfold cmpl
      rw [Bool.eq_iff_iff]; simp
    rw [f49_L0.eq_2, ifd_pos (by omega), d0_eq, all_drop _ _ _ hnl, e1]
    cases b with
    | false =>
      show optc false _ _ = _
      rw [optc_f, chk_pos (fun h => by cases h), chk_pos (fun h => by cases h), chk_pos (by omega), Bool.false_and, ih _ (by omega) (by omega)]
      simp only [Bool.false_and]
    | true =>
      cases hen : ((l.getD n d0).2.2.1 == (-1 : Int)) with
      | true =>
        show optc false _ _ = _
        rw [optc_f, chk_pos (fun _ => by omega), chk_pos (fun _ _ h => by cases h), chk_pos (by omega), ih _ (by omega) (by omega)]
        simp
      | false =>
        show optc true _ _ = _
        rw [optc_t, f42_ints o n (by omega), some_bind, chk_pos (fun _ => by omega), chk_pos (by decide), chk_pos (by omega), ih _ (by omega) (by omega)]
        simp
theorem f49_L2_eq {l : HL} (hl : valL l) {o : List Nat} (ho : o.length ≤ 1000) (own : Bool) {i : Nat} (hi : i < l.length) (K : Bool → Option (List Int × Bool)) : ∀ e k n b, n + e = l.length → e < k → f49_L2 l (ints o) own i K k (b, n) = K (b || ((List.range l.length).drop n).any fun j => !o.contains j && Bf own l j i)
  | 0, k, n, b, hn, hk => by
    obtain ⟨k, rfl⟩ : ∃ q, k = q + 1 := ⟨k - 1, by omega⟩
    rw [f49_L2.eq_2, ifd_neg (by omega), List.drop_eq_nil_of_le (by simp; omega), List.any_nil, Bool.or_false]
  | e + 1, k, n, b, hn, hk => by
    obtain ⟨k, rfl⟩ : ∃ q, k = q + 1 := ⟨k - 1, by omega⟩
    have h10 := hl.1
    have hnl : n < l.length := by omega
    have ih := f49_L2_eq hl ho own hi K e k (n + 1)
    rw [f49_L2.eq_2, ifd_pos (by omega), d0_eq, any_drop _ _ _ hnl]
    cases b with
    | true =>
      show optc false _ _ = _
      rw [optc_f]
      show optc false _ _ = _
      rw [optc_f, chk_pos (fun h => by cases h), chk_pos (fun h => by cases h), chk_pos (fun h => by cases h), chk_pos (by omega), ih _ (by omega) (by omega)]
      simp only [Bool.true_or]
    | false =>
      show optc true _ _ = _
      rw [optc_t, f42_ints o n (by omega), some_bind]
      cases hc : o.contains n with
      | true =>
        show optc false _ _ = _
        rw [optc_f, chk_pos (fun h => by cases h), chk_pos (fun h => by cases h), chk_pos (fun _ _ h => by cases h), chk_pos (by omega), ih _ (by omega) (by omega)]
        simp
      | false =>
        show optc true _ _ = _
        rw [optc_t, f43_eq, some_bind, chk_pos (fun _ => by omega), chk_pos (fun _ => by omega), chk_pos (by decide), chk_pos (by omega), ih _ (by omega) (by omega)]
        unfold Bf cmpl
        simp
def ans2 (w : Option (List Nat)) : List Int × Bool := ((w.map ints).getD [], w.isSome)
theorem f49_eq {l : HL} (hl : valL l) (own : Bool) : ∀ (k : Nat) (o : List Nat) (p : StT), left l.length o < k → o.length + left l.length o ≤ 1000 → StV p → f49 k l (ints o) p own = some (ans2 (SQ own l o p))
  | 0, _, _, h, _, _ => by omega
  | k + 1, o, p, hk, hlen, hV => by
    have h10 := hl.1
    rw [f49.eq_2, jn_eq, f49_L0_eq hl (by omega) _ l.length FUEL 0 true (by omega) (fuel_lt (by omega)), List.drop_zero, Bool.true_and, SQ_eq]
    have hfin : ((List.range l.length).all fun i => !cmpl l i || o.contains i) = finC l.length (cmpl l) o := rfl
    rw [hfin]
    by_cases hf : finC l.length (cmpl l) o = true
    · rw [if_pos hf, if_pos hf]; rfl
    rw [if_neg hf, if_neg hf, jn_eq]
    let g : Nat → Option (List Nat) := fun i => if o.contains i || !okR l.length (Bf own l) o i then none else (stpl XS l p i).bind (SQ own l (o ++ [i]))
    have main : ∀ (e q j : Nat), j + e = l.length → e < q → f49_L1 l (ints o) p own (f49 k) (fun _ => some ([], false)) q j = some (ans2 (((List.range l.length).drop j).findSome? g)) := by
      intro e
      induction e with
      | zero =>
        intro q j hj hq
        obtain ⟨q, rfl⟩ : ∃ z, q = z + 1 := ⟨q - 1, by omega⟩
        rw [f49_L1.eq_2, ifd_neg (by omega), List.drop_eq_nil_of_le (by simp; omega)]; rfl
      | succ e ih =>
        intro q j hj hq
        obtain ⟨q, rfl⟩ : ∃ z, q = z + 1 := ⟨q - 1, by omega⟩
        have hjl : j < l.length := by omega
        have skip : g j = none → (chk (((j : Int) + (1 : Int)) ≤ 9223372036854775807) <| (f49_L1 l (ints o) p own (f49 k) (fun _ => some ([], false)) q) (j + 1)) = some (ans2 (((List.range l.length).drop j).findSome? g)) := by
          intro hg
          rw [chk_pos (by omega), ih q (j + 1) (by omega) (by omega), range_drop _ _ hjl, findSome_drop, hg]
        rw [f49_L1.eq_2, ifd_pos (by omega), jn_eq, f42_ints o j (by omega), some_bind]
        by_cases hjo : o.contains j = true
        · rw [if_pos hjo]
          exact skip (by simp only [g]; rw [if_pos (by rw [hjo]; rfl)])
        rw [if_neg hjo, jn_eq, f49_L2_eq hl (by omega) own hjl _ l.length FUEL 0 false (by omega) (fuel_lt (by omega)), List.drop_zero, Bool.false_or]
        have hearly : ((List.range l.length).any fun k => !o.contains k && Bf own l k j) = !okR l.length (Bf own l) o j := by
          unfold okR
          rw [List.not_all_eq_any_not]
          congr 1
          funext x
          cases o.contains x <;> cases Bf own l x j <;> rfl
        rw [hearly]
        cases hok : okR l.length (Bf own l) o j with
        | false =>
          rw [if_pos (by decide)]
          exact skip (by simp only [g]; rw [if_pos (by rw [hok]; simp)])
        | true =>
        rw [if_neg (by simp), d0_eq]
        have hg : g j = (stpl XS l p j).bind (SQ own l (o ++ [j])) := by
          simp only [g]
          rw [if_neg (by rw [hok, Bool.eq_false_iff.2 hjo]; simp)]
        obtain ⟨_, e39, eV⟩ := XS_ok hV (hv_at hl hjl).op (l.getD j d0).1 (l.getD j d0).2.1 (l.getD j d0).2.2.1 (l.getD j d0).2.2.2.2
        rw [e39, some_bind, chk_pos (by omega), chk_pos (by omega), chk_pos (fun _ => by omega)]
        have hstp : stpl XS l p j = if (((l.getD j d0).2.2.1 != (-1 : Int)) && (!((XS p (l.getD j d0).2.2.2.1).2 == (l.getD j d0).2.2.2.2))) = true then none else some (XS p (l.getD j d0).2.2.2.1).1 := by
          unfold stpl cmpl
          congr 2
          rw [Bool.eq_iff_iff]
          simp
        by_cases hres : (((l.getD j d0).2.2.1 != (-1 : Int)) && (!((XS p (l.getD j d0).2.2.2.1).2 == (l.getD j d0).2.2.2.2))) = true
        · rw [if_pos hres]
          rw [if_pos hres] at hstp
          exact skip (by rw [hg, hstp]; rfl)
        rw [if_neg hres]
        rw [if_neg hres] at hstp
        have hlt := left_lt (n := l.length) (o := o) hjl (by simpa using hjo)
        have hol : (ints o).length ≤ 1000 := by simp only [ints, List.length_map]; omega
        rw [List.nil_append, ← ints_snoc, f49_eq hl own k (o ++ [j]) _ (by omega) (by simp only [List.length_append, List.length_singleton]; omega) eV, some_bind, chk_pos (by omega), chk_pos (by omega)]
        cases hS : SQ own l (o ++ [j]) (XS p (l.getD j d0).2.2.2.1).1 with
        | some w =>
          rw [if_pos (show (ans2 (some w)).2 = true from rfl), range_drop _ _ hjl, findSome_drop, hg, hstp]
          simp only [Option.bind_some, hS]
          rfl
        | none =>
          rw [if_neg (show ¬ ((ans2 none).2 = true) from fun h => by cases h)]
          exact skip (by rw [hg, hstp]; simp only [Option.bind_some, hS])
    exact main l.length FUEL 0 (by omega) (fuel_lt (by omega))
/-- what both answer -/
noncomputable def ordA (own : Bool) (l : HL) : List Int × Int :=
  if vH l ≠ 0 then ([], vH l) else match SR own l [] [] with
    | some w => (ints w, 0)
    | none => ([], 14)
theorem f32_eq {l : HL} (hb : l.length ≤ 1000000) (ht : ∀ x ∈ l, x.2.2.2.1.length ≤ 1000000) (own : Bool) : f32 l own = some (ordA own l) := by
  unfold f32 ordA
  rw [f18_eq hb ht, some_bind]
  by_cases h : vH l = 0
  · have hl := vH_zero.1 h
    have h10 := hl.1
    have hle := left_le l.length []
    have e1 : ints [] = [] := rfl
    have h3 := f49_eq hl own FUEL [] [] (fuel_lt (by omega)) (by simp only [List.length_nil]; omega) .nil
    rw [e1] at h3
    rw [if_neg (by simp [h]), if_neg (by simp [h]), h3, some_bind, SR_SQ hl]
    cases SQ own l [] [] with
    | some w => rfl
    | none => rfl
  · rw [if_pos (by simpa using h), if_pos h]
theorem f13_eq {l : HL} (hb : l.length ≤ 1000000) (ht : ∀ x ∈ l, x.2.2.2.1.length ≤ 1000000) : f13 l = some (ordA false l) := by
  unfold f13; rw [f32_eq hb ht, some_bind]
theorem f11_eq {l : HL} (hb : l.length ≤ 1000000) (ht : ∀ x ∈ l, x.2.2.2.1.length ≤ 1000000) : f11 l = some (ordA false l) := by
  unfold f11 ordA
  rw [f17_eq hb ht, some_bind]
  by_cases h : vH l = 0
  · rw [if_neg (by simp [h]), if_neg (by simp [h])]
    exact (congrArg (fun o => Option.bind o _) (f30_eq (vH_zero.1 h))).trans rfl
  · rw [if_pos (by simpa using h), if_pos h]
theorem f12_eq {l : HL} (h : l.length ≤ 1000000) : f12 l = some l := by
  unfold f12
  rw [abc_eq fun h0 => ?_, chk_pos (by omega), List.nil_append]
  have e := List.eq_nil_of_length_eq_zero h0
  subst e
  rfl
/-! ### few operations, equal lists -/
def Few (l : HL) : Prop := ∀ x ∈ l, x.2.2.2.1.length ≤ 100 ∧ x.2.2.2.2.length ≤ 100
theorem f10_loop {l : HL} (hb : l.length ≤ 9223372036854775807) (K : Unit → Option Bool) : ∀ e k n, n + e = l.length → e < k → (f10_L0 l K k n = K () ∧ ∀ x ∈ l.drop n, x.2.2.2.1.length ≤ 100 ∧ x.2.2.2.2.length ≤ 100) ∨ f10_L0 l K k n = some false
  | 0, k, n, hn, hk => by
    obtain ⟨k, rfl⟩ : ∃ q, k = q + 1 := ⟨k - 1, by omega⟩
    left
    rw [f10_L0.eq_2, ifd_neg (by omega), List.drop_eq_nil_of_le (by omega)]
    exact ⟨rfl, by simp⟩
  | e + 1, k, n, hn, hk => by
    obtain ⟨k, rfl⟩ : ∃ q, k = q + 1 := ⟨k - 1, by omega⟩
    have hnl : n < l.length := by omega
    rw [f10_L0.eq_2, ifd_pos (by omega), chk_pos (by omega), chk_pos (fun _ => by omega), d0_eq, getD_drop l n d0 hnl]
    by_cases hc : ((decide (((((l.getD n d0).2.2.2.1).length : Nat) : Int) > (100 : Int))) || (decide (((((l.getD n d0).2.2.2.2).length : Nat) : Int) > (100 : Int)))) = true
    · rw [if_pos hc]; exact .inr rfl
    · rw [if_neg hc, chk_pos (by omega)]
      rcases f10_loop hb K e k (n + 1) (by omega) (by omega) with ⟨h1, h2⟩ | h1
      · left
        refine ⟨h1, fun x hx => ?_⟩
        rcases List.mem_cons.1 hx with rfl | hx
        · simp only [Bool.or_eq_true, decide_eq_true_eq, not_or] at hc
          omega
        · exact h2 x hx
      · exact .inr h1
theorem f10_eq {l : HL} (hb : l.length ≤ 9223372036854775807) (m : Int) : (f10 l m = some true ∧ Few l ∧ ((l.length : Int) ≤ m ∨ l.length = 11)) ∨ f10 l m = some false := by
  unfold f10
  rw [jn_eq]
  rcases f10_loop hb (fun _ => some ((decide ((((l).length : Nat) : Int) ≤ m)) || ((((l).length : Nat) : Int) == (11 : Int)))) l.length FUEL 0 (by omega) (fuel_lt (by omega)) with ⟨h1, h2⟩ | h1
  · rw [h1]
    by_cases hc : ((decide ((((l).length : Nat) : Int) ≤ m)) || ((((l).length : Nat) : Int) == (11 : Int))) = true
    · left
      rw [hc]
      rw [List.drop_zero] at h2
      refine ⟨rfl, h2, ?_⟩
      simp only [Bool.or_eq_true, decide_eq_true_eq, beq_iff_eq] at hc
      omega
    · right
      rw [Bool.not_eq_true] at hc
      rw [hc]
  · exact .inr h1
end Go.Abs
namespace Go.Abs
open Go Go.Hist
/-! ### Results -/
/-! ### Check, the program's -/
end Go.Abs
namespace Go.Abs
open Go Go.Hist
theorem left_nodup {n : Nat} : ∀ (w d : List Nat), (d ++ w).Nodup → (∀ x ∈ w, x < n) → left n (d ++ w) + w.length ≤ left n d
  | [], d, _, _ => by simp
  | i :: w, d, hn, hw => by
    have hid : d.contains i = false := by
      rw [List.nodup_append] at hn
      simpa using fun hi => hn.2.2 i hi i (by simp) rfl
    have h1 := left_lt (hw i (by simp)) hid
    have h2 := left_nodup w (d ++ [i]) (by simpa using hn) (fun x hx => hw x (by simp [hx]))
    rw [List.append_assoc] at h2
    simp only [List.singleton_append, List.length_cons] at h2 ⊢
    omega
theorem nodup_le {n : Nat} {w : List Nat} (hn : w.Nodup) (hw : ∀ x ∈ w, x < n) : w.length ≤ n := by
  have := left_nodup w [] (by simpa using hn) hw
  have := left_le n []
  simp only [List.nil_append] at *
  omega
section
variable {own : Bool} {l : HL}
/-! ### the specification's Witness -/
end
end Go.Abs
namespace Go.Abs
open Go Go.Hist
theorem SR_wit {own : Bool} {l : HL} {w : List Nat} (h : SR own l [] [] = some w) : Wit l.length (Bf own l) (cmpl l) (stpl XS l) [] w :=
  (srch_sound (s0 := ([] : StT)) _ _ _ _ h (by simp) (by simp) (by simp) rfl).1
theorem SR_some {own : Bool} {l : HL} {w : List Nat} (h : Wit l.length (Bf own l) (cmpl l) (stpl XS l) [] w) : (SR own l [] []).isSome = true := by
  refine srch_complete (s0 := ([] : StT)) (l.length + 1) [] w [] (by simpa using h) rfl ?_
  have := nodup_le h.2.1 h.1
  omega
end Go.Abs
namespace Go.Abs
open Go Go.Hist
theorem sorted_ext : ∀ {a b : List Nat}, a.Pairwise (· < ·) → b.Pairwise (· < ·) → (∀ x, x ∈ a ↔ x ∈ b) → a = b
  | [], [], _, _, _ => rfl
  | [], y :: b, _, _, h => by have := (h y).2 (by simp); cases this
  | x :: a, [], _, _, h => by have := (h x).1 (by simp); cases this
  | x :: a, y :: b, h1, h2, h => by
    have h1' := List.pairwise_cons.1 h1
    have h2' := List.pairwise_cons.1 h2
    have hxy : x = y := by
      have e1 := (h x).1 (by simp)
      have e2 := (h y).2 (by simp)
      rcases List.mem_cons.1 e1 with e1 | e1
      · exact e1
      · rcases List.mem_cons.1 e2 with e2 | e2
        · exact e2.symm
        · have := h2'.1 x e1; have := h1'.1 y e2; omega
    subst hxy
    congr 1
    refine sorted_ext h1'.2 h2'.2 fun z => ?_
    have := h z
    simp only [List.mem_cons] at this
    constructor
    · intro hz
      rcases this.1 (.inr hz) with e | e
      · have := h1'.1 z hz; omega
      · exact e
    · intro hz
      rcases this.2 (.inr hz) with e | e
      · have := h2'.1 z hz; omega
      · exact e
theorem range_sorted (n : Nat) : (List.range n).Pairwise (· < ·) := List.pairwise_lt_range
/-- one after the other -/
structure Seq (L : HL) : Prop where
  bg : ∀ i, i < L.length → (L.getD i d0).2.1 = 2 * (i : Int)
  en : ∀ i, i < L.length → (L.getD i d0).2.2.1 = 2 * (i : Int) + 1
theorem Seq.comp {L : HL} (h : Seq L) {i : Nat} (hi : i < L.length) : cmpl L i = true := cmpl_iff.2 (by rw [h.en i hi]; omega)
theorem Seq.B {L : HL} (h : Seq L) {a b : Nat} (ha : a < L.length) (hb : b < L.length) : Bf false L a b = decide (a < b) := by
  unfold Bf
  rw [h.comp ha, h.en a ha, h.bg b hb]
  simp only [Bool.true_and, Bool.not_false, Bool.true_or, Bool.and_true]
  rw [decide_eq_decide]
  omega
theorem Seq.wit {L : HL} (h : Seq L) {w : List Nat} (hW : Wit L.length (Bf false L) (cmpl L) (stpl XS L) [] w) : w = List.range L.length := by
  obtain ⟨h1, h2, h3, h4, _⟩ := hW
  refine sorted_ext ?_ (range_sorted _) fun x => ⟨fun hx => List.mem_range.2 (h1 x hx), fun hx => h4 x (List.mem_range.1 hx) (h.comp (List.mem_range.1 hx))⟩
  have h5 : w.Pairwise (fun x y => Bf false L y x = false ∧ x ≠ y) := List.Pairwise.and h3 h2
  refine List.Pairwise.imp_of_mem (fun {a b} ha hb hab => ?_) h5
  rw [h.B (h1 b hb) (h1 a ha)] at hab
  have := hab.1
  simp only [decide_eq_false_iff_not] at this
  have := hab.2
  omega
theorem Seq.SR {L : HL} (h : Seq L) : SR false L [] [] = if (runs (stpl XS L) [] (List.range L.length)).isSome = true then some (List.range L.length) else none := by
  by_cases hr : (runs (stpl XS L) [] (List.range L.length)).isSome = true
  · rw [if_pos hr]
    have hW : Wit L.length (Bf false L) (cmpl L) (stpl XS L) [] (List.range L.length) := by
      refine ⟨fun x hx => List.mem_range.1 hx, List.nodup_range, ?_, fun i hi _ => List.mem_range.2 hi, hr⟩
      refine List.Pairwise.imp_of_mem (fun {a b} ha hb hab => ?_) (range_sorted L.length)
      rw [h.B (List.mem_range.1 hb) (List.mem_range.1 ha), decide_eq_false_iff_not]
      omega
    obtain ⟨w, hw⟩ := Option.isSome_iff_exists.1 (SR_some hW)
    rw [hw, h.wit (SR_wit hw)]
  · rw [if_neg hr]
    cases hS : Abs.SR false L [] [] with
    | none => rfl
    | some w =>
      have hW := SR_wit hS
      have e := h.wit hW
      subst e
      exact absurd hW.2.2.2.2 hr
end Go.Abs
namespace Go.Abs
open Go Go.Hist
/-! ### the insertion sort -/
theorem setI_at (A C : List Int) (x y : Int) : (A ++ x :: C).set A.length y = A ++ y :: C := by
  rw [List.set_append_right _ _ (Nat.le_refl _), Nat.sub_self]; rfl
theorem getI_at (A C : List Int) (x d : Int) : (A ++ x :: C).getD A.length d = x := by
  rw [List.getD_eq_getElem?_getD, List.getElem?_append_right (Nat.le_refl _), Nat.sub_self]; rfl
theorem f60_eq (x : Int) : f60 x = some false := by
  unfold f60; simp
theorem f75_eq (x y : Int) : f75 x y = some (decide (x < y)) := by
  unfold f75
  rw [f60_eq, some_bind]; rfl
theorem ins_eq (K : List Int → Option (List Int)) (D : List Int) : ∀ (n : Nat) (A : List Int) (x : Int) (C : List Int) (k : Nat), A.length = n → n < k → (A ++ x :: (C ++ D)).length ≤ 1000000 → (A ++ C).Pairwise (· ≤ ·) → (∀ c ∈ C, x ≤ c) →
    ∃ B, f69_L1 0 K k ((A.length : Int), A ++ x :: (C ++ D)) = K (B ++ D) ∧ B.Pairwise (· ≤ ·) ∧ B.Perm (A ++ x :: C)
  | 0, A, x, C, k, hA, hk, hl, hs, hC => by
    obtain ⟨k, rfl⟩ : ∃ q, k = q + 1 := ⟨k - 1, by omega⟩
    obtain rfl := List.eq_nil_of_length_eq_zero hA
    refine ⟨x :: C, ?_, ?_, .refl _⟩
    · rw [f69_L1.eq_2]
      show optc false _ _ = _
      rw [optc_f, chk_pos (fun h => absurd h (by decide)), chk_pos (fun h => absurd h (by decide)), chk_pos (fun h => absurd h (by decide)), chk_pos (fun h => absurd h (by decide)), chk_pos (fun h => absurd h (by decide))]
      rfl
    · exact List.pairwise_cons.2 ⟨hC, by simpa using hs⟩
  | n + 1, A0, x, C, k, hA, hk, hl, hs, hC => by
    obtain ⟨k, rfl⟩ : ∃ q, k = q + 1 := ⟨k - 1, by omega⟩
    have hne : A0 ≠ [] := fun e => by subst e; simp at hA
    obtain ⟨A, a, rfl⟩ : ∃ A a, A0 = A ++ [a] := ⟨A0.dropLast, A0.getLast hne, (List.dropLast_concat_getLast hne).symm⟩
    have hAn : A.length = n := by simpa using hA
    have hlen1 : (A ++ [a]).length = A.length + 1 := by simp
    have hll : (A ++ [a] ++ x :: (C ++ D)).length = A.length + 2 + (C ++ D).length := by simp; omega
    have e1 : A ++ [a] ++ x :: (C ++ D) = A ++ a :: (x :: (C ++ D)) := by simp
    have g1 : (A ++ [a] ++ x :: (C ++ D)).getD (A.length + 1) 0 = x := by rw [← hlen1, getI_at]
    have g2 : (A ++ [a] ++ x :: (C ++ D)).getD A.length 0 = a := by rw [e1, getI_at]
    have t1 : (((A.length + 1 : Nat)) : Int).toNat = A.length + 1 := by omega
    have t2 : ((((A.length + 1 : Nat)) : Int) - 1).toNat = A.length := by omega
    have t3 : decide ((((A.length + 1 : Nat)) : Int) > 0) = true := by rw [decide_eq_true_eq]; omega
    have e2 : ((A ++ [a] ++ x :: (C ++ D)).set (A.length + 1) a).set A.length x = A ++ x :: ((a :: C) ++ D) := by
      rw [← hlen1, setI_at, show A ++ [a] ++ a :: (C ++ D) = A ++ a :: (a :: (C ++ D)) by simp, setI_at]; rfl
    have hstep : f69_L1 0 K (k + 1) (((A ++ [a]).length : Int), A ++ [a] ++ x :: (C ++ D)) = if x < a then f69_L1 0 K k ((A.length : Int), A ++ x :: ((a :: C) ++ D)) else K (A ++ [a] ++ x :: (C ++ D)) := by
      rw [f69_L1.eq_2]
      simp only [t1, t2, t3, g1, g2, f75_eq, e2, hlen1]
      rw [show (true == true) = true from rfl, optc_t, some_bind]
      rw [chk_pos (fun _ => by omega), chk_pos (fun _ => by omega), chk_pos (fun _ => by omega), chk_pos (fun _ => by omega), chk_pos (fun _ => by omega), Bool.true_and]
      by_cases hxa : x < a
      · rw [ifd_pos hxa, if_pos hxa, chk_pos (by omega), chk_pos (by omega), chk_pos (by omega), chk_pos (by omega), chk_pos (by omega), chk_pos (by omega), chk_pos (by omega), chk_pos (by omega), chk_pos (by omega), chk_pos (by omega), chk_pos (by omega), show ((A.length + 1 : Nat) : Int) - 1 = (A.length : Int) by omega]
      · rw [ifd_neg hxa, if_neg hxa]
    rw [hstep]
    have hs' : (A ++ (a :: C)).Pairwise (· ≤ ·) := by simpa using hs
    by_cases hxa : x < a
    · rw [if_pos hxa]
      obtain ⟨B, h1, h2, h3⟩ := ins_eq K D n A x (a :: C) k hAn (by omega) (by simp at hl ⊢; omega) hs' (fun c hc => by
        rcases List.mem_cons.1 hc with e | e
        · omega
        · exact hC c e)
      refine ⟨B, h1, h2, h3.trans ?_⟩
      have : (A ++ [a] ++ x :: C) = A ++ (a :: x :: C) := by simp
      rw [this]
      exact (List.Perm.swap a x C).append_left A
    · rw [if_neg hxa]
      refine ⟨A ++ [a] ++ x :: C, by simp, ?_, .refl _⟩
      have hp := List.pairwise_append.1 hs
      refine List.pairwise_append.2 ⟨hp.1, List.pairwise_cons.2 ⟨hC, hp.2.1⟩, fun u hu v hv => ?_⟩
      rcases List.mem_cons.1 hv with e | e
      · subst e
        rcases List.mem_append.1 hu with h | h
        · have := (List.pairwise_append.1 hp.1).2.2 u h a (by simp); omega
        · have : u = a := by simpa using h
          omega
      · exact hp.2.2 u hu v e
theorem insAll_eq (n : Int) : ∀ (e : Nat) (A D : List Int) (k : Nat), D.length = e → e < k → n = ((A ++ D).length : Int) → (A ++ D).length ≤ 1000000 → A.Pairwise (· ≤ ·) →
    ∃ B, f69_L0 0 n k ((A.length : Int), A ++ D) = some B ∧ B.Pairwise (· ≤ ·) ∧ B.Perm (A ++ D)
  | 0, A, D, k, hD, hk, hn, hl, hs => by
    obtain ⟨k, rfl⟩ : ∃ q, k = q + 1 := ⟨k - 1, by omega⟩
    obtain rfl := List.eq_nil_of_length_eq_zero hD
    refine ⟨A, ?_, hs, by simp⟩
    rw [f69_L0.eq_2, ifd_neg (by rw [hn]; simp)]
    simp
  | e + 1, A, D0, k, hD, hk, hn, hl, hs => by
    obtain ⟨k, rfl⟩ : ∃ q, k = q + 1 := ⟨k - 1, by omega⟩
    obtain ⟨x, D, rfl⟩ : ∃ x D, D0 = x :: D := by
      cases D0 with
      | nil => simp at hD
      | cons x D => exact ⟨x, D, rfl⟩
    have hll : (A ++ x :: D).length = A.length + 1 + D.length := by simp; omega
    obtain ⟨B, h1, h2, h3⟩ := ins_eq (fun l9 => chk (-9223372036854775808 ≤ ((A.length : Int) + (1 : Int)) ∧ ((A.length : Int) + (1 : Int)) ≤ 9223372036854775807) ((f69_L0 0 n k) (((A.length : Int) + (1 : Int)), l9))) D A.length A x [] FUEL rfl (fuel_lt (by omega)) (by simpa using hl) (by simpa using hs) (by simp)
    have hB : B.length = A.length + 1 := by rw [h3.length_eq]; simp
    obtain ⟨B', g1, g2, g3⟩ := insAll_eq n e B D k (by simpa using hD) (by omega) (by have e2 : (B ++ D).length = B.length + D.length := List.length_append; omega) (by have e2 : (B ++ D).length = B.length + D.length := List.length_append; omega) h2
    refine ⟨B', ?_, g2, g3.trans ?_⟩
    · rw [f69_L0.eq_2, ifd_pos (by omega), jn_eq]
      simp only [List.nil_append] at h1
      rw [h1, chk_pos (by omega), ← g1, hB]
      rfl
    · have := h3.append_right D
      simpa using this
theorem f69_eq (l : List Int) (hl : l.length ≤ 1000000) : ∃ B, f69 0 (l.length : Int) l = some B ∧ B.Pairwise (· ≤ ·) ∧ B.Perm l := by
  unfold f69
  rw [chk_pos (by omega)]
  cases l with
  | nil => exact ⟨[], by rfl, .nil, .refl _⟩
  | cons x D =>
    obtain ⟨B, h1, h2, h3⟩ := insAll_eq ((x :: D).length : Int) D.length [x] D FUEL rfl (fuel_lt (by simp only [List.length_cons] at hl; omega)) rfl hl (by simp)
    exact ⟨B, h1, h2, h3⟩
set_option maxRecDepth 100000 in
theorem f79_eq (n : Int) (h0 : 0 ≤ n) (h1 : n ≤ 255) : ∃ r, f79 n = some r := by
  unfold f79
  have hc : cs9.length = 256 := rfl
  have hu := UInt8.toNat_lt (cs9.getD n.toNat 0)
  rw [jn_eq, ifd_neg (by omega)]
  dsimp only
  rw [jn_eq, ifd_neg (by omega)]
  dsimp only
  rw [jn_eq, ifd_neg (by omega)]
  dsimp only
  rw [chk_pos (by omega), chk_pos (by omega), chk_pos (by omega), chk_pos (by omega)]
  exact ⟨_, rfl⟩
theorem f37_eq (l : List Int) (hl : l.length ≤ 12) : ∃ B, f37 l = some B ∧ B.Pairwise (· ≤ ·) ∧ B.Perm l := by
  obtain ⟨r, hr⟩ := f79_eq (l.length : Int) (by omega) (by omega)
  obtain ⟨B, h1, h2⟩ := f69_eq l (by omega)
  refine ⟨B, ?_, h2⟩
  unfold f37 f55
  rw [hr, some_bind, some_bind]
  unfold f54
  obtain ⟨k, hk⟩ : ∃ q, FUEL = q + 1 := ⟨FUEL - 1, (Nat.sub_add_cancel (fuel_lt (by omega))).symm⟩
  rw [hk, f54_L0.eq_2, chk_pos (by omega), ifd_pos (by omega), h1, some_bind, some_bind, chk_pos (by omega)]
/-! ### up to a time -/
theorem upto_cons (x : HOp) (l : HL) (t : Int) : upto (x :: l) t = if x.2.1 ≤ t then cutO t x :: upto l t else upto l t := by
  unfold upto
  rw [List.filter_cons]
  by_cases h : x.2.1 ≤ t
  · rw [if_pos (decide_eq_true h), if_pos h, List.map_cons]
  · rw [if_neg (by simpa using h), if_neg h]
theorem f38_L0_eq {l : HL} {t : Int} (hb : l.length ≤ 1000000) (K : HL → Option HL) : ∀ e k n acc, n + e = l.length → e < k → acc.length ≤ n → f38_L0 l t K k (n, acc) = K (acc ++ upto (l.drop n) t)
  | 0, k, n, acc, hn, hk, ha => by
    obtain ⟨k, rfl⟩ : ∃ q, k = q + 1 := ⟨k - 1, by omega⟩
    rw [f38_L0.eq_2, ifd_neg (by omega), List.drop_eq_nil_of_le (by omega)]
    simp [upto]
  | e + 1, k, n, acc, hn, hk, ha => by
    obtain ⟨k, rfl⟩ : ∃ q, k = q + 1 := ⟨k - 1, by omega⟩
    have hnl : n < l.length := by omega
    rw [f38_L0.eq_2, ifd_pos (by omega), jn_eq, chk_pos (by omega), d0_eq, getD_drop l n d0 hnl, upto_cons]
    by_cases h : (l.getD n d0).2.1 ≤ t
    · rw [ifd_neg (by omega), if_pos h, jn_eq]
      by_cases h2 : (l.getD n d0).2.2.1 > t
      · rw [ifd_pos h2]
        dsimp only
        rw [chk_pos (by omega), chk_pos (by omega), f38_L0_eq hb K e k (n + 1) _ (by omega) (by omega) (by simp; omega), List.append_assoc]
        unfold cutO
        rw [if_pos h2]; rfl
      · rw [ifd_neg h2]
        dsimp only
        rw [chk_pos (by omega), chk_pos (by omega), f38_L0_eq hb K e k (n + 1) _ (by omega) (by omega) (by simp; omega), List.append_assoc]
        unfold cutO
        rw [if_neg h2]; rfl
    · rw [ifd_pos (by omega), if_neg h]
      dsimp only
      rw [chk_pos (by omega), f38_L0_eq hb K e k (n + 1) acc (by omega) (by omega) (by omega)]
theorem f38_eq {l : HL} {t : Int} (hb : l.length ≤ 1000000) : f38 l t = some (upto l t) := by
  unfold f38
  rw [jn_eq, f38_L0_eq hb _ l.length FUEL 0 [] (by omega) (fuel_lt (by omega)) (Nat.le_refl _), List.drop_zero, List.nil_append]
theorem f21_L0_eq {l : HL} {t : Int} (hb : l.length ≤ 1000000) (K : HL → Option HL) : ∀ e k n acc, n + e = l.length → e < k → acc.length ≤ n → f21_L0 l t K k (n, acc) = K (acc ++ upto (l.drop n) t)
  | 0, k, n, acc, hn, hk, ha => by
    obtain ⟨k, rfl⟩ : ∃ q, k = q + 1 := ⟨k - 1, by omega⟩
    rw [f21_L0.eq_2, ifd_neg (by omega), List.drop_eq_nil_of_le (by omega)]
    simp [upto]
  | e + 1, k, n, acc, hn, hk, ha => by
    obtain ⟨k, rfl⟩ : ∃ q, k = q + 1 := ⟨k - 1, by omega⟩
    have hnl : n < l.length := by omega
    rw [f21_L0.eq_2, ifd_pos (by omega), jn_eq, chk_pos (by omega), d0_eq, getD_drop l n d0 hnl, upto_cons]
    by_cases h : (l.getD n d0).2.1 ≤ t
    · rw [ifd_neg (by omega), if_pos h, jn_eq]
      by_cases h2 : (l.getD n d0).2.2.1 > t
      · rw [ifd_pos h2]
        dsimp only
        rw [chk_pos (by omega), chk_pos (by omega), f21_L0_eq hb K e k (n + 1) _ (by omega) (by omega) (by simp; omega), List.append_assoc]
        unfold cutO
        rw [if_pos h2]; rfl
      · rw [ifd_neg h2]
        dsimp only
        rw [chk_pos (by omega), chk_pos (by omega), f21_L0_eq hb K e k (n + 1) _ (by omega) (by omega) (by simp; omega), List.append_assoc]
        unfold cutO
        rw [if_neg h2]; rfl
    · rw [ifd_pos (by omega), if_neg h]
      dsimp only
      rw [chk_pos (by omega), f21_L0_eq hb K e k (n + 1) acc (by omega) (by omega) (by omega)]
theorem f21_eq {l : HL} {t : Int} (hb : l.length ≤ 1000000) : f21 l t = some (upto l t) := by
  unfold f21
  rw [jn_eq, f21_L0_eq hb _ l.length FUEL 0 [] (by omega) (fuel_lt (by omega)) (Nat.le_refl _), List.drop_zero, List.nil_append]
theorem upto_mem {l : HL} {t : Int} {y : HOp} (h : y ∈ upto l t) : ∃ x ∈ l, y = cutO t x := by
  unfold upto at h
  obtain ⟨x, h1, h2⟩ := List.mem_map.1 h
  exact ⟨x, (List.mem_filter.1 h1).1, h2.symm⟩
theorem upto_ht {l : HL} {t : Int} (ht : ∀ x ∈ l, x.2.2.2.1.length ≤ 1000000) : ∀ x ∈ upto l t, x.2.2.2.1.length ≤ 1000000 := fun y hy => by
  obtain ⟨x, hx, rfl⟩ := upto_mem hy
  rw [cutO_op]
  exact ht x hx
theorem upto_le (l : HL) (t : Int) : (upto l t).length ≤ l.length := by
  unfold upto
  rw [List.length_map]
  exact List.length_filter_le _ _
theorem upto_valL {l : HL} (h : valL l) (t : Int) : valL (upto l t) := by
  refine ⟨by have := upto_le l t; have := h.1; omega, fun y hy => ?_⟩
  obtain ⟨x, hx, rfl⟩ := upto_mem hy
  have hv := h.2 x hx
  refine ⟨by rw [cutO_cl]; exact hv.cl, by rw [cutO_bg]; exact hv.bg, ?_, by rw [cutO_op]; exact hv.op, ?_⟩
  · unfold cutO
    split
    · exact .inl rfl
    · exact hv.en
  · unfold cutO
    split
    · exact fun _ => rfl
    · exact hv.rs
theorem val_valE {l : HL} (h : valL l) : ValE l := fun x hx => by
  have hv := h.2 x hx
  rcases hv.en with e | e
  · exact .inl e
  · exact .inr ⟨hv.bg, e⟩
/-- no order explains what came up to a time -/
noncomputable def failA (l : HL) (t : Int) : Bool := !(SR false (upto l t) [] []).isSome
theorem failA_iff {l : HL} {t : Int} : failA l t = false ↔ HasW XS [] false (upto l t) := by
  unfold failA HasW
  cases h : SR false (upto l t) [] [] with
  | some w => exact ⟨fun _ => ⟨w, SR_wit h⟩, fun _ => rfl⟩
  | none =>
    refine ⟨fun h => by simp at h, fun ⟨w, hw⟩ => ?_⟩
    have := SR_some hw
    rw [h] at this
    simp at this
theorem ord_fail {l : HL} (h : valL l) (t : Int) : ((ordA false (upto l t)).2 = 0 ↔ failA l t = false) ∧ ((ordA false (upto l t)).2 = 0 ∨ (ordA false (upto l t)).2 = 14) := by
  unfold failA ordA
  rw [if_neg (by simp [vH_zero.2 (upto_valL h t)])]
  cases h : SR false (upto l t) [] [] with
  | some w => exact ⟨⟨fun _ => rfl, fun _ => rfl⟩, .inl rfl⟩
  | none => exact ⟨⟨fun h => by simp at h, fun h => by simp at h⟩, .inr rfl⟩
/-- the ends -/
def endsA (l : HL) : List Int := (l.filter fun x => !(x.2.2.1 == (-1 : Int))).map fun x => x.2.2.1
theorem endsA_cons (x : HOp) (l : HL) : endsA (x :: l) = if x.2.2.1 = -1 then endsA l else x.2.2.1 :: endsA l := by
  unfold endsA
  rw [List.filter_cons]
  by_cases h : x.2.2.1 = -1
  · rw [if_neg (by simpa using h), if_pos h]
  · rw [if_pos (by simpa using h), if_neg h, List.map_cons]
theorem mem_ends {l : HL} {e : Int} : e ∈ endsA l ↔ ∃ x ∈ l, x.2.2.1 ≠ -1 ∧ x.2.2.1 = e := by
  unfold endsA
  simp [and_assoc]
/-- the first failing end -/
def FirstE (F : Int → Bool) (E : List Int) (r : Int × Int) : Prop := (r = (0, 13) ∧ ∀ e ∈ E, F e = false) ∨ ∃ e ∈ E, F e = true ∧ r = (e, 0) ∧ ∀ e' ∈ E, F e' = true → e ≤ e'
theorem FirstE.uniq {F : Int → Bool} {E : List Int} {r r' : Int × Int} (h : FirstE F E r) (h' : FirstE F E r') : r = r' := by
  rcases h with ⟨h1, h2⟩ | ⟨e, h1, h2, h3, h4⟩ <;> rcases h' with ⟨g1, g2⟩ | ⟨e', g1, g2, g3, g4⟩
  · rw [h1, g1]
  · rw [h2 e' g1] at g2; cases g2
  · rw [g2 e h1] at h2; cases h2
  · rw [h3, g3]
    have := h4 e' g1 g2
    have := g4 e h1 h2
    congr 1
    omega
theorem f19_L0_eq {l : HL} (hb : l.length ≤ 1000000) (K : List Int → Option (Int × Int)) : ∀ e k n acc, n + e = l.length → e < k → acc.length ≤ n → f19_L0 l K k (n, acc) = K (acc ++ endsA (l.drop n))
  | 0, k, n, acc, hn, hk, ha => by
    obtain ⟨k, rfl⟩ : ∃ q, k = q + 1 := ⟨k - 1, by omega⟩
    rw [f19_L0.eq_2, ifd_neg (by omega), List.drop_eq_nil_of_le (by omega)]
    simp [endsA]
  | e + 1, k, n, acc, hn, hk, ha => by
    obtain ⟨k, rfl⟩ : ∃ q, k = q + 1 := ⟨k - 1, by omega⟩
    have hnl : n < l.length := by omega
    rw [f19_L0.eq_2, ifd_pos (by omega), jn_eq, chk_pos (by omega), d0_eq, getD_drop l n d0 hnl, endsA_cons]
    unfold f36
    rw [some_bind]
    by_cases h : (l.getD n d0).2.2.1 = -1
    · rw [if_neg (by simpa using h), if_pos h]
      dsimp only
      rw [chk_pos (by omega), f19_L0_eq hb K e k (n + 1) acc (by omega) (by omega) (by omega)]
    · rw [if_pos (by simpa using h), if_neg h, chk_pos (by omega)]
      dsimp only
      rw [chk_pos (by omega), f19_L0_eq hb K e k (n + 1) _ (by omega) (by omega) (by simp; omega), List.append_assoc]
      rfl
theorem f19_L1_eq {l : HL} (hl : valL l) {S : List Int} (hS : S.length ≤ 1000000) (hsrt : S.Pairwise (· ≤ ·)) : ∀ e k n, n + e = S.length → e < k → ∃ r, f19_L1 l S (fun _ => some ((0 : Int), (13 : Int))) k n = some r ∧ FirstE (failA l) (S.drop n) r
  | 0, k, n, hn, hk => by
    obtain ⟨k, rfl⟩ : ∃ q, k = q + 1 := ⟨k - 1, by omega⟩
    refine ⟨(0, 13), ?_, .inl ⟨rfl, fun e he => ?_⟩⟩
    · rw [f19_L1.eq_2, ifd_neg (by omega)]
    · rw [List.drop_eq_nil_of_le (by omega)] at he; cases he
  | e + 1, k, n, hn, hk => by
    obtain ⟨k, rfl⟩ : ∃ q, k = q + 1 := ⟨k - 1, by omega⟩
    have hnl : n < S.length := by omega
    have h10 := hl.1
    have hd := getD_drop S n 0 hnl
    rw [f19_L1.eq_2, ifd_pos (by omega), chk_pos (by omega), chk_pos (by omega), f38_eq (by omega), some_bind, f30_eq (upto_valL hl _), some_bind, hd]
    have hpw : (S.drop n).Pairwise (· ≤ ·) := hsrt.drop
    rw [hd] at hpw
    have hpw' := List.pairwise_cons.1 hpw
    generalize S.getD n 0 = t at hpw'
    have hF : failA l t = !(SR false (upto l t) [] []).isSome := rfl
    cases hs : SR false (upto l t) [] [] with
    | some w =>
      rw [hs] at hF
      obtain ⟨r, h1, h2⟩ := f19_L1_eq hl hS hsrt e k (n + 1) (by omega) (by omega)
      refine ⟨r, ?_, ?_⟩
      · rw [if_neg (by simp), chk_pos (by omega), h1]
      · rcases h2 with ⟨g1, g2⟩ | ⟨e', g1, g2, g3, g4⟩
        · refine .inl ⟨g1, fun x hx => ?_⟩
          rcases List.mem_cons.1 hx with rfl | hx
          · exact hF
          · exact g2 x hx
        · refine .inr ⟨e', List.mem_cons_of_mem _ g1, g2, g3, fun x hx hx2 => ?_⟩
          rcases List.mem_cons.1 hx with rfl | hx
          · rw [hF] at hx2; simp at hx2
          · exact g4 x hx hx2
    | none =>
      rw [hs] at hF
      refine ⟨(t, 0), by rw [if_pos (by simp)], .inr ⟨t, by simp, hF, rfl, fun x hx _ => ?_⟩⟩
      rcases List.mem_cons.1 hx with rfl | hx
      · omega
      · exact hpw'.1 x hx
/-- the least failing end so far -/
def LeastE (F : Int → Bool) (E : List Int) (m : Int) : Prop := (m = -1 ∧ ∀ e ∈ E, F e = false) ∨ (0 ≤ m ∧ m ∈ E ∧ F m = true ∧ ∀ e' ∈ E, F e' = true → m ≤ e')
theorem LeastE.first {F : Int → Bool} {E : List Int} {m : Int} (h : LeastE F E m) : FirstE F E (if m < 0 then (0, 13) else (m, 0)) := by
  rcases h with ⟨h1, h2⟩ | ⟨h0, h1, h2, h3⟩
  · rw [if_pos (by omega)]; exact .inl ⟨rfl, h2⟩
  · rw [if_neg (by omega)]; exact .inr ⟨m, h1, h2, rfl, h3⟩
theorem endsA_app (a b : HL) : endsA (a ++ b) = endsA a ++ endsA b := by
  unfold endsA
  rw [List.filter_append, List.map_append]
theorem take_getD (l : HL) (n : Nat) (h : n < l.length) : l.take (n + 1) = l.take n ++ [l.getD n d0] := by
  rw [List.take_add_one, List.getD_eq_getElem?_getD, List.getElem?_eq_getElem h]; rfl
theorem f20_L0_eq {l : HL} (hl : valL l) (ht : ∀ x ∈ l, x.2.2.2.1.length ≤ 1000000) (K : Int → Option (Int × Int)) : ∀ e k n m, n + e = l.length → e < k → LeastE (failA l) (endsA (l.take n)) m → ∃ m', f20_L0 l K k (m, n) = K m' ∧ LeastE (failA l) (endsA l) m'
  | 0, k, n, m, hn, hk, h => by
    obtain ⟨k, rfl⟩ : ∃ q, k = q + 1 := ⟨k - 1, by omega⟩
    refine ⟨m, ?_, by rwa [List.take_of_length_le (by omega)] at h⟩
    rw [f20_L0.eq_2, ifd_neg (by omega)]
  | e + 1, k, n, m, hn, hk, h => by
    obtain ⟨k, rfl⟩ : ∃ q, k = q + 1 := ⟨k - 1, by omega⟩
    have h10 := hl.1
    have hnl : n < l.length := by omega
    have hv := hv_at hl hnl
    have htk := take_getD l n hnl
    have hen := hv.en
    have hbg := hv.bg
    have hE : endsA [l.getD n d0] = if (l.getD n d0).2.2.1 = -1 then [] else [(l.getD n d0).2.2.1] := by rw [endsA_cons]; rfl
    rw [f20_L0.eq_2, ifd_pos (by omega), jn_eq, chk_pos (by omega), d0_eq, chk_pos (fun h1 _ h3 => by rw [h1, h3]; rfl)]
    by_cases h1 : (l.getD n d0).2.2.1 = -1
    · rw [if_pos (by rw [h1]; rfl)]
      dsimp only
      rw [chk_pos (by omega)]
      refine f20_L0_eq hl ht K e k (n + 1) m (by omega) (by omega) ?_
      rw [htk, endsA_app, hE, if_pos h1, List.append_nil]; exact h
    · generalize hx : (l.getD n d0).2.2.1 = t at hE h1 hen
      rw [if_neg h1] at hE
      have ht0 : 0 ≤ t := by rcases hen with h2 | h2 <;> omega
      by_cases h2 : m ≥ 0 ∧ t ≥ m
      · rw [if_pos (by rw [decide_eq_true h2.1, decide_eq_true h2.2]; simp)]
        dsimp only
        rw [chk_pos (by omega)]
        refine f20_L0_eq hl ht K e k (n + 1) m (by omega) (by omega) ?_
        rw [htk, endsA_app, hE]
        rcases h with ⟨g1, _⟩ | ⟨g0, g1, g2, g3⟩
        · omega
        · refine .inr ⟨g0, List.mem_append_left _ g1, g2, fun e' he' hf => ?_⟩
          rcases List.mem_append.1 he' with h3 | h3
          · exact g3 e' h3 hf
          · have : e' = t := by simpa using h3
            omega
      · rw [if_neg (by simpa [h1] using h2), f21_eq (by omega), some_bind, f13_eq (by have := upto_le l t; omega) (upto_ht ht), some_bind]
        obtain ⟨o1, o2⟩ := ord_fail hl t
        by_cases h3 : failA l t = true
        · rw [if_pos (by
            have : (ordA false (upto l t)).2 ≠ 0 := fun h4 => by rw [o1.1 h4] at h3; cases h3
            simpa using this)]
          dsimp only
          rw [chk_pos (by omega)]
          refine f20_L0_eq hl ht K e k (n + 1) t (by omega) (by omega) ?_
          rw [htk, endsA_app, hE]
          refine .inr ⟨ht0, by simp, h3, fun e' he' hf => ?_⟩
          rcases List.mem_append.1 he' with h4 | h4
          · rcases h with ⟨_, g2⟩ | ⟨g0, g1, g2, g3⟩
            · rw [g2 e' h4] at hf; cases hf
            · have := g3 e' h4 hf; omega
          · have : e' = t := by simpa using h4
            omega
        · have h3 : failA l t = false := by simpa using h3
          rw [if_neg (by rw [o1.2 h3]; decide)]
          dsimp only
          rw [chk_pos (by omega)]
          refine f20_L0_eq hl ht K e k (n + 1) m (by omega) (by omega) ?_
          rw [htk, endsA_app, hE]
          rcases h with ⟨g1, g2⟩ | ⟨g0, g1, g2, g3⟩
          · refine .inl ⟨g1, fun e' he' => ?_⟩
            rcases List.mem_append.1 he' with h4 | h4
            · exact g2 e' h4
            · have : e' = t := by simpa using h4
              rw [this]; exact h3
          · refine .inr ⟨g0, List.mem_append_left _ g1, g2, fun e' he' hf => ?_⟩
            rcases List.mem_append.1 he' with h4 | h4
            · exact g3 e' h4 hf
            · have : e' = t := by simpa using h4
              rw [this, h3] at hf; cases hf
theorem f20_eq {l : HL} (hl : valL l) (ht : ∀ x ∈ l, x.2.2.2.1.length ≤ 1000000) : ∃ r, f20 l = some r ∧ FirstE (failA l) (endsA l) r := by
  have h10 := hl.1
  obtain ⟨m, h1, h2⟩ := f20_L0_eq hl ht (fun (i9 : Int) => if (decide (i9 < (0 : Int))) then (some ((0 : Int), (13 : Int))) else (some (i9, (0 : Int)))) l.length FUEL 0 (-1) (by omega) (fuel_lt (by omega)) (.inl ⟨rfl, fun e he => by simp [endsA] at he⟩)
  refine ⟨_, ?_, h2.first⟩
  unfold f20
  rw [f18_eq (by omega) ht, some_bind, vH_zero.2 hl, if_neg (by decide), jn_eq, h1]
  by_cases hm : m < 0
  · rw [if_pos (decide_eq_true hm), if_pos hm]
  · rw [if_neg (by simpa using hm), if_neg hm]
theorem FirstE.perm {F : Int → Bool} {E E' : List Int} {r : Int × Int} (hp : E'.Perm E) (h : FirstE F E' r) : FirstE F E r := by
  rcases h with ⟨h1, h2⟩ | ⟨e, h1, h2, h3, h4⟩
  · exact .inl ⟨h1, fun e he => h2 e (hp.mem_iff.2 he)⟩
  · exact .inr ⟨e, hp.mem_iff.1 h1, h2, h3, fun e' he' hf => h4 e' (hp.mem_iff.2 he') hf⟩
theorem endsA_le (l : HL) : (endsA l).length ≤ l.length := by
  unfold endsA
  rw [List.length_map]
  exact List.length_filter_le _ _
theorem f19_eq {l : HL} (hl : valL l) (ht : ∀ x ∈ l, x.2.2.2.1.length ≤ 1000000) : ∃ r, f19 l = some r ∧ FirstE (failA l) (endsA l) r := by
  have h10 := hl.1
  have hle := endsA_le l
  obtain ⟨B, b1, b2, b3⟩ := f37_eq (endsA l) (by omega)
  have hBl := b3.length_eq
  obtain ⟨r, h1, h2⟩ := f19_L1_eq hl (S := B) (by omega) b2 B.length FUEL 0 (by omega) (fuel_lt (by omega))
  rw [List.drop_zero] at h2
  refine ⟨r, ?_, h2.perm b3⟩
  unfold f19
  rw [f17_eq (by omega) ht, some_bind, vH_zero.2 hl, if_neg (by decide), jn_eq, f19_L0_eq (by omega) _ l.length FUEL 0 [] (by omega) (fuel_lt (by omega)) (Nat.le_refl _), List.drop_zero, List.nil_append, b1, some_bind, jn_eq]
  exact h1
theorem vE_ne (x : HOp) : vE x ≠ 13 := by
  unfold vE
  (repeat' split) <;> decide
theorem vLs_ne : ∀ l : HL, vLs l ≠ 13
  | [] => by decide
  | x :: l => by
    unfold vLs
    split
    · exact vE_ne x
    · exact vLs_ne l
theorem vH_ne (l : HL) : vH l ≠ 13 := by
  unfold vH
  split
  · decide
  · exact vLs_ne l
/-- HistoryPrefix -/
theorem f4_true (x1 : HL) (x2 : Int) (hx : x1.length ≤ 9223372036854775807) (h0 : 0 ≤ x2) (h255 : x2 ≤ 255) : f4 x1 x2 = some true := by
  unfold f4
  rw [awake57, some_bind]
  show optc true _ _ = _
  rw [optc_t]
  rcases f10_eq hx 6 with ⟨h1, h2, h3⟩ | h1
  · have hb : x1.length ≤ 1000000 := by omega
    have ht : ∀ x ∈ x1, x.2.2.2.1.length ≤ 1000000 := fun x hx => by have := (h2 x hx).1; omega
    rw [h1, some_bind, if_neg (by decide), f12_eq hb, some_bind]
    by_cases hv : vH x1 = 0
    · have hl := vH_zero.1 hv
      obtain ⟨r, r1, r2⟩ := f19_eq hl ht
      obtain ⟨r', q1, q2⟩ := f20_eq hl ht
      have e := r2.uniq q2
      subst e
      have hne : ((r.1 != r.1) || (r.2 != r.2)) = false := by simp
      have hUb : (upto x1 x2).length ≤ 1000000 := by have := upto_le x1 x2; omega
      have hord : ((ordA false (upto x1 x2)).2 = 0) ↔ ∀ e ∈ endsA x1, e ≤ x2 → failA x1 e = false := by
        rw [(ord_fail hl x2).1, failA_iff, hasW_at (val_valE hl)]
        constructor
        · intro h e he hex
          obtain ⟨x, g1, g2, g3⟩ := mem_ends.1 he
          subst g3
          exact failA_iff.2 (h x g1 g2 hex)
        · intro h x g1 g2 g3
          exact failA_iff.1 (h _ (mem_ends.2 ⟨x, g1, g2, rfl⟩) g3)
      have hr2 : r.2 = 0 ∨ r.2 = 13 := by
        rcases r2 with ⟨g1, _⟩ | ⟨e, _, _, g3, _⟩
        · right; rw [g1]
        · left; rw [g3]
      rw [r1, some_bind, q1, some_bind, hne, chk_pos (fun _ _ h => by rw [h]; rfl), if_neg (by rcases hr2 with h | h <;> rw [h] <;> decide), f21_eq hb, some_bind, f11_eq hUb (upto_ht ht), some_bind, chk_pos (by omega), chk_pos (fun _ => by omega)]
      congr 1
      rw [Bool.eq_iff_iff, beq_iff_eq, Bool.eq_iff_iff]
      simp only [Bool.or_eq_true, beq_iff_eq, decide_eq_true_eq, iff_true, hord]
      rcases r2 with ⟨g1, g2⟩ | ⟨e, g1, g2, g3, g4⟩
      · rw [g1]
        exact ⟨fun _ => .inl rfl, fun _ e he _ => g2 e he⟩
      · rw [g3]
        constructor
        · intro h
          right
          by_cases hle : e ≤ x2
          · rw [h e g1 hle] at g2; cases g2
          · exact Int.lt_of_not_ge hle
        · rintro (h | h)
          · cases h
          · intro e' he' hle
            cases hf : failA x1 e' with
            | false => rfl
            | true =>
              have h5 := g4 e' he' hf
              have h6 : x2 < e := h
              omega
    · have hne := vH_ne x1
      have e19 : f19 x1 = some (0, vH x1) := by
        unfold f19
        rw [f17_eq hb ht, some_bind, if_pos (by simpa using hv)]
      have e20 : f20 x1 = some (0, vH x1) := by
        unfold f20
        rw [f18_eq hb ht, some_bind, if_pos (by simpa using hv)]
      have hn : ((((0 : Int), vH x1).1 != ((0 : Int), vH x1).1) || (((0 : Int), vH x1).2 != ((0 : Int), vH x1).2)) = false := by simp
      rw [e19, some_bind, e20, some_bind, hn, chk_pos (fun _ _ h => by rw [h]; rfl), if_pos (by simp [hv, hne])]
      simp
  · rw [h1, some_bind, if_pos (by decide), some_bind]
end Go.Abs
namespace Go.Abs
open Go
theorem mkH {W : World} (cs : List Value) (_h : cs.length = [false, false, false, true, true].length) (hf : ∀ i, i < [false, false, false, true, true].length → fldV ([false, false, false, true, true].getD i true) (cs.getD i undef)) :
    ∃ a : Int × Int × Int × List UInt8 × List UInt8, True ∧ ∀ i, i < [false, false, false, true, true].length → Rel (allSt W) W noGh (([.int .i64 a.1, .int .i64 a.2.1, .int .i64 a.2.2.1, .str a.2.2.2.1, .str a.2.2.2.2] : List V).getD i .any) (cs.getD i undef) := by
  obtain ⟨n0, h0, _⟩ := hf 0 (by decide)
  obtain ⟨n1, h1, _⟩ := hf 1 (by decide)
  obtain ⟨n2, h2, _⟩ := hf 2 (by decide)
  obtain ⟨s3, h3, _⟩ := hf 3 (by decide)
  obtain ⟨s4, h4, _⟩ := hf 4 (by decide)
  refine ⟨(n0, n1, n2, s3.data.toList, s4.data.toList), trivial, fun i hi => ?_⟩
  match i, hi with
  | 0, _ => rw [h0]; exact .int _ _ _
  | 1, _ => rw [h1]; exact .int _ _ _
  | 2, _ => rw [h2]; exact .int _ _ _
  | 3, _ => rw [h3]; exact .str _ _ _ rfl
  | 4, _ => rw [h4]; exact .str _ _ _ rfl
end Go.Abs
