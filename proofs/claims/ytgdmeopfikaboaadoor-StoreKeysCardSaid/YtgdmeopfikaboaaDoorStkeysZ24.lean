/- Part 24 of the proof: Open3, Pl48c. -/
import Derived.Test.YtgdmeopfikaboaaDoorStkeysZ23
import Derived.Deep.SlicePairs
import Derived.Lib.LaidTab
namespace Go.Abs
open Go Go.RowKit Go.ChangeShapes Go.WideShapes Go.ChangeAt Go.Deep
theorem rel_tab {P : Program} {W : World} {name : String} {k : IntKind} {zs : List Int} {g : Nat} (h : Lib.TabIs P W name k zs) (hg : P.globalNamed name = some g) : Rel (allSt W) W noGh (.tab k zs) (.pointer (some ⟨g, 0, none⟩)) := by
  unfold Lib.TabIs World.var? at h
  rw [hg] at h
  simp only [Option.bind_some] at h
  split at h
  · rename_i cs t fr hb
    cases h
    refine .tab _ _ _ _ _ _ ?_ hb
    unfold allSt
    exact (Array.getElem?_eq_some_iff.1 hb).1
  · cases h
section
variable {H : Type} {enc : TypeId × Value → H} {P : Program} {W : World} {t e : TypeId} {base : Nat} {v : Value} {d : DataW H} {ps : List MemPlace}
/-- a field: a string (true) or an int (false) -/
def fldV (b : Bool) (x : Value) : Prop := if b then ∃ s : ByteArray, x = .string s ∧ s.size ≤ 9223372036854775807 else ∃ n : Int, x = .int .i64 n ∧ -9223372036854775808 ≤ n ∧ n ≤ 9223372036854775807
theorem fld_of {spare : Nat → Bool} {held : Bool} {fuel : Nat} {tf : TypeId} {x : Value} {y : DataW H × List MemPlace} {b : Bool} (ht : P.underlying tf = some (if b then .string else .int .i64)) (h : DataW.trod enc P W base spare held fuel tf [x] = some y) : fldV b x := by
  cases b
  · obtain ⟨n, e, _, hw⟩ := DataW.trod_int (by simpa using ht) h
    simp only [List.cons.injEq, and_true] at e
    refine ⟨n, e, ?_⟩
    have h3 : IntKind.i64.min ≤ n ∧ n ≤ 9223372036854775807 := by
      unfold Lit.wf at hw
      simpa using hw
    simp [IntKind.min, IntKind.signed, IntKind.bits] at h3
    omega
  · obtain ⟨s, e, _, hw⟩ := DataW.trod_string (by simpa using ht) h
    simp only [List.cons.injEq, and_true] at e
    refine ⟨s, e, ?_⟩
    have : maxLen = 9223372036854775807 := rfl
    omega
/-- the cells of a struct of one-cell fields -/
theorem cells_of {spare : Nat → Bool} {held : Bool} {fuel : Nat} {fs : Array Field} {bs : List Bool} {cs : List Value} {y : DataW H × List MemPlace} (he : P.underlying e = some (.struct fs)) (hn : fs.size = bs.length) (ce : P.cellsOf e = bs.length)
    (hf : ∀ (i : Nat) (f : Field), fs[i]? = some f → f.offset = i ∧ P.cellsOf f.type = 1 ∧ P.underlying f.type = some (if bs.getD i true then .string else .int .i64))
    (h : DataW.trod enc P W base spare held fuel e cs = some y) : cs.length = bs.length ∧ ∀ i, i < bs.length → fldV (bs.getD i true) (cs.getD i undef) := by
  obtain ⟨xs, n, _, _, hl, hxl, hx⟩ := DataW.trod_struct he h
  rw [ce] at hl
  refine ⟨hl, fun i hi => ?_⟩
  obtain ⟨f, hff⟩ : ∃ f, fs[i]? = some f := ⟨fs[i], by simp [hn, hi]⟩
  obtain ⟨h1, h2, h3⟩ := hf i f hff
  have := hx i f hff
  rw [h1, h2] at this
  have e1 : (cs.drop i).take 1 = [cs.getD i undef] := by
    rw [List.drop_eq_getElem_cons (by omega), List.take_succ_cons, List.take_zero]
    simp [List.getD_eq_getElem?_getD, hl, hi]
  rw [e1, List.getElem?_eq_getElem (by omega)] at this
  exact fld_of h3 this
theorem fldV_one {b : Bool} {x : Value} (h : fldV b x) : x.oneCell' = true := by
  cases b
  · obtain ⟨n, rfl, _⟩ := h; rfl
  · obtain ⟨s, rfl, _⟩ := h; rfl
/-- a slice of such structs -/
theorem open_rows {α : Type} [Inhabited α] {encA : α → List V} {dA : α} {fs : Array Field} {bs : List Bool} (ok : α → Prop) (ht : P.underlying t = some (.slice e)) (he : P.underlying e = some (.struct fs)) (hn : fs.size = bs.length) (ce : P.cellsOf e = bs.length) (_hpos : 0 < bs.length)
    (hf : ∀ (i : Nat) (f : Field), fs[i]? = some f → f.offset = i ∧ P.cellsOf f.type = 1 ∧ P.underlying f.type = some (if bs.getD i true then .string else .int .i64))
    (mk : ∀ cs : List Value, cs.length = bs.length → (∀ i, i < bs.length → fldV (bs.getD i true) (cs.getD i undef)) → ∃ a : α, ok a ∧ ∀ i, i < bs.length → Rel (allSt W) W noGh ((encA a).getD i .any) (cs.getD i undef))
    (hval : Value.okWide P W .any base t v) (h : DataW.Trod enc P W 0 (fun _ => true) true t v d ps) :
    ∃ l : List α, Rel (allSt W) W noGh (.arr bs.length l.length (encF encA dA l)) v ∧ (∀ a, a ∈ l → ok a) ∧ l.length ≤ 9223372036854775807 := by
  obtain ⟨fuel, hf'⟩ := h
  obtain ⟨a0, len0, cap0, rfl⟩ := okWide_slice ht hval
  simp only [Value.cells] at hf'
  rcases open_slice ht hf' with ⟨h1, h2⟩ | ⟨a, len, cap, m, n, D, Pl, h1, hb, hlc, hm, hz, hx, hcell⟩
  · simp only [List.cons.injEq, Value.slice.injEq, and_true] at h1
    obtain ⟨rfl, rfl, rfl⟩ := h1
    exact ⟨[], .arr0 _ _ _, by simp, by simp⟩
  · simp only [List.cons.injEq, Value.slice.injEq, and_true] at h1
    obtain ⟨rfl, rfl, rfl⟩ := h1
    simp only [if_true] at hz
    subst hz
    have hsp : a.spot = none := by
      unfold Value.okWide at hval
      rw [ht] at hval
      simp only [Cell.okWide, ht, Cell.ok] at hval
      exact hval.2.2.2.1
    obtain ⟨ab, ao, aas⟩ := a
    simp only at hsp
    subst hsp
    have each : ∀ i, i < len0 → ∃ q : α × List Value, ok q.1 ∧ q.2.length = bs.length ∧ (∀ j, j < bs.length → W.cell? ⟨ab, ao + i * bs.length + j, none⟩ = some (q.2.getD j undef) ∧ (q.2.getD j undef).oneCell' = true ∧ Rel (allSt W) W noGh ((encA q.1).getD j .any) (q.2.getD j undef)) := by
      intro i hi
      obtain ⟨cs', g1, g2⟩ := hcell i (by omega)
      rw [ce] at g1
      obtain ⟨_, hlen, hc⟩ := World.cells?_some g1
      obtain ⟨hl, hfv⟩ := cells_of he hn ce hf g2
      obtain ⟨a, hok, ha⟩ := mk cs' hl hfv
      refine ⟨(a, cs'), hok, hl, fun j hj => ⟨?_, fldV_one (hfv j hj), ha j hj⟩⟩
      have := hc j hj
      rw [add_plain, add_plain] at this
      rw [this, List.getElem?_eq_getElem (by omega)]
      simp [List.getD_eq_getElem?_getD, hl, hj]
    obtain ⟨q, hq⟩ := choose_lt each
    have hlen : ((List.range len0).map fun i => (q i).1).length = len0 := by simp
    have hget : ∀ i, i < len0 → ((List.range len0).map fun i => (q i).1).getD i dA = (q i).1 := fun i hi => by
      simp [List.getD_eq_getElem?_getD, hi]
    have hmm : maxLen = 9223372036854775807 := rfl
    refine ⟨(List.range len0).map fun i => (q i).1, ?_, ?_, by omega⟩
    · rw [hlen]
      refine .arr _ _ _ _ ab ao m (fun i j => (q i).2.getD j undef) hlc (by omega) (fun hn hs => ?_) (fun i j hi hj => ((hq i hi).2.2 j hj).1) (fun i j hi hj => ((hq i hi).2.2 j hj).2.1) (fun i j hi hj => ?_)
      · exact block_of_cell ((hq 0 hn).2.2 0 hs).1
      · show Rel _ _ _ ((encA (((List.range len0).map fun i => (q i).1).getD i dA)).getD j .any) _
        rw [hget i hi]
        exact ((hq i hi).2.2 j hj).2.2
    · intro a ha
      obtain ⟨i, hi, rfl⟩ := List.mem_map.1 ha
      exact (hq i (List.mem_range.1 hi)).1
end
/-- Op: int and three strings -/
def okO (x : Int × List UInt8 × List UInt8 × List UInt8) : Prop := (-9223372036854775808 ≤ x.1 ∧ x.1 ≤ 9223372036854775807) ∧ x.2.1.length ≤ 9223372036854775807 ∧ x.2.2.1.length ≤ 9223372036854775807 ∧ x.2.2.2.length ≤ 9223372036854775807
theorem mkO {W : World} (cs : List Value) (_h : cs.length = [false, true, true, true].length) (hf : ∀ i, i < [false, true, true, true].length → fldV ([false, true, true, true].getD i true) (cs.getD i undef)) :
    ∃ a : Int × List UInt8 × List UInt8 × List UInt8, okO a ∧ ∀ i, i < [false, true, true, true].length → Rel (allSt W) W noGh (([.int .i64 a.1, .str a.2.1, .str a.2.2.1, .str a.2.2.2] : List V).getD i .any) (cs.getD i undef) := by
  obtain ⟨n, h0, b0⟩ := hf 0 (by decide)
  obtain ⟨s1, h1, b1⟩ := hf 1 (by decide)
  obtain ⟨s2, h2, b2⟩ := hf 2 (by decide)
  obtain ⟨s3, h3, b3⟩ := hf 3 (by decide)
  refine ⟨(n, s1.data.toList, s2.data.toList, s3.data.toList), ⟨b0, ?_, ?_, ?_⟩, fun i hi => ?_⟩
  · exact b1
  · exact b2
  · exact b3
  · match i, hi with
    | 0, _ => rw [h0]; exact .int _ _ _
    | 1, _ => rw [h1]; exact .str _ _ _ rfl
    | 2, _ => rw [h2]; exact .str _ _ _ rfl
    | 3, _ => rw [h3]; exact .str _ _ _ rfl
end Go.Abs
namespace Go.Abs
abbrev Pr := List UInt8 × List UInt8 × Int
abbrev less (a b : List UInt8) : Bool := Op.bytesLess a b
theorem less_irrefl : ∀ a, less a a = false
  | [] => rfl
  | a :: x => by
    show (decide (a < a) || (a == a && less x x)) = false
    rw [less_irrefl x]; simp
theorem less_nil (a : List UInt8) : less a [] = false := by cases a <;> rfl
theorem less_trans : ∀ {a b c : List UInt8}, less a b = true → less b c = true → less a c = true
  | a, [], _, h, _ => by rw [less_nil] at h; cases h
  | _, b :: y, [], _, h => by rw [less_nil] at h; cases h
  | [], _ :: _, _ :: _, _, _ => rfl
  | a :: x, b :: y, c :: z, h1, h2 => by
    have g1 : (decide (a < b) || (a == b && less x y)) = true := h1
    have g2 : (decide (b < c) || (b == c && less y z)) = true := h2
    clear h1 h2
    show (decide (a < c) || (a == c && less x z)) = true
    simp only [Bool.or_eq_true, Bool.and_eq_true, decide_eq_true_eq, beq_iff_eq, UInt8.lt_iff_toNat_lt] at g1 g2 ⊢
    rcases g1 with k1 | ⟨e1, k1⟩
    · rcases g2 with k2 | ⟨e2, k2⟩
      · left; omega
      · left; rw [← e2]; exact k1
    · rcases g2 with k2 | ⟨e2, k2⟩
      · left; rw [e1]; exact k2
      · exact .inr ⟨e1.trans e2, less_trans k1 k2⟩
theorem less_total : ∀ a b : List UInt8, less a b = true ∨ a = b ∨ less b a = true
  | [], [] => .inr (.inl rfl)
  | [], _ :: _ => .inl rfl
  | _ :: _, [] => .inr (.inr rfl)
  | a :: x, b :: y => by
    show (decide (a < b) || (a == b && less x y)) = true ∨ _ ∨ (decide (b < a) || (b == a && less y x)) = true
    simp only [Bool.or_eq_true, Bool.and_eq_true, decide_eq_true_eq, beq_iff_eq, UInt8.lt_iff_toNat_lt]
    by_cases h : a = b
    · subst h
      rcases less_total x y with h | h | h
      · exact .inl (.inr ⟨rfl, h⟩)
      · exact .inr (.inl (by rw [h]))
      · exact .inr (.inr (.inr ⟨rfl, h⟩))
    · have : a.toNat ≠ b.toNat := fun e => h (UInt8.toNat.inj e)
      by_cases h1 : a.toNat < b.toNat
      · exact .inl (.inl h1)
      · exact .inr (.inr (.inl (by omega)))
theorem less_asymm {a b : List UInt8} (h : less a b = true) : less b a = false := by
  cases h' : less b a
  · rfl
  · have := less_trans h h'
    rw [less_irrefl] at this; cases this
theorem less_ne {a b : List UInt8} (h : less a b = true) : (a == b) = false := by
  cases e : a == b
  · rfl
  · have := eq_of_beq e; subst this; rw [less_irrefl] at h; cases h
theorem cmp_less : ∀ a b : List UInt8, Lib.compareBytes a b = if less a b = true then -1 else if a = b then 0 else 1
  | [], [] => rfl
  | [], _ :: _ => rfl
  | _ :: _, [] => rfl
  | a :: x, b :: y => by
    show (if a < b then (-1 : Int) else if b < a then 1 else Lib.compareBytes x y) = if (decide (a < b) || (a == b && less x y)) = true then -1 else _
    by_cases h : a < b
    · simp [h]
    · by_cases h2 : b < a
      · have : a ≠ b := by rintro rfl; simp at h2
        simp [h, h2, this]
      · have e : a = b := by
          apply UInt8.toNat.inj
          simp only [UInt8.lt_iff_toNat_lt] at h h2
          omega
        subst e
        rw [if_neg h, if_neg h2, cmp_less x y]
        simp
/-- strictly rising keys -/
abbrev Srtd (l : List Pr) : Prop := l.Pairwise (fun p q => less p.1 q.1 = true)
def okp (p : Pr) : Prop := gr p.1 64 = true ∧ gr p.2.1 256 = true ∧ 1 ≤ p.2.2 ∧ p.2.2 ≤ 1000000000000
/-- a valid state -/
structure StV (l : List Pr) : Prop where
  len : l.length ≤ 64
  each : ∀ p, p ∈ l → okp p
  srt : Srtd l
theorem StV.nil : StV [] := ⟨by simp, by simp, .nil⟩
/-- where a key is or belongs -/
inductive View (l : List Pr) (k : List UInt8) : Prop
  | hit (A C : List Pr) (v : List UInt8) (n : Int) (h : l = A ++ (k, v, n) :: C) (hA : ∀ a, a ∈ A → less a.1 k = true) (hC : ∀ c, c ∈ C → less k c.1 = true) : View l k
  | miss (A C : List Pr) (h : l = A ++ C) (hA : ∀ a, a ∈ A → less a.1 k = true) (hC : ∀ c, c ∈ C → less k c.1 = true) : View l k
theorem view : ∀ (l : List Pr) (k : List UInt8), Srtd l → View l k
  | [], k, _ => .miss [] [] rfl (by simp) (by simp)
  | (x, v, n) :: l, k, h => by
    obtain ⟨h1, h2⟩ := List.pairwise_cons.1 h
    rcases less_total x k with hx | rfl | hx
    · cases view l k h2 with
      | hit A C v' n' e hA hC => exact .hit ((x, v, n) :: A) C v' n' (by rw [e]; rfl) (by intro a ha; rcases List.mem_cons.1 ha with rfl | ha; exact hx; exact hA a ha) hC
      | miss A C e hA hC => exact .miss ((x, v, n) :: A) C (by rw [e]; rfl) (by intro a ha; rcases List.mem_cons.1 ha with rfl | ha; exact hx; exact hA a ha) hC
    · exact .hit [] l v n rfl (by simp) h1
    · exact .miss [] ((x, v, n) :: l) rfl (by simp) (by intro c hc; rcases List.mem_cons.1 hc with rfl | hc; exact hx; exact less_trans hx (h1 c hc))
theorem getD_app {α : Type} (A B : List α) (i : Nat) (d : α) : (A ++ B).getD i d = if i < A.length then A.getD i d else B.getD (i - A.length) d := by
  split
  · simp [List.getD_eq_getElem?_getD, List.getElem?_append_left, *]
  · rename_i h; simp [List.getD_eq_getElem?_getD, List.getElem?_append_right (Nat.le_of_not_lt h)]
theorem getD_mem {α : Type} (l : List α) (i : Nat) (d : α) (h : i < l.length) : l.getD i d ∈ l := by
  rw [List.getD_eq_getElem?_getD, List.getElem?_eq_getElem h]; exact List.getElem_mem ..
/-- the search of the program: A are the keys that are less -/
theorem f54_eq (A B : List Pr) (k : List UInt8) (hlen : (A ++ B).length ≤ 1000000) (hA : ∀ a, a ∈ A → less a.1 k = true) (hB : ∀ b, b ∈ B → less b.1 k = false) :
    f40 (A ++ B) k = some ((A.length : Int), decide (0 < B.length) && ((B.getD 0 (default : Pr)).1 == k)) := by
  have h55 : ∀ (a b : List UInt8) (n : Int) (y : List UInt8), f55 a b n y = some (Lib.compareBytes a y) := fun _ _ _ _ => rfl
  have main : ∀ (K : Int → Option (Int × Bool)) (c q i j : Nat), j - i ≤ c → c < q → i ≤ A.length → A.length ≤ j → j ≤ (A ++ B).length → f54_L0 (A ++ B) k K q ((i : Int), (j : Int)) = K (A.length : Int) := by
    intro K c
    induction c with
    | zero =>
      intro q i j hc hq h1 h2 h3
      obtain ⟨q, rfl⟩ : ∃ z, q = z + 1 := ⟨q - 1, by omega⟩
      conv => lhs; unfold f54_L0
      rw [ifd_neg (by omega)]
      congr 1; omega
    | succ c ih =>
      intro q i j hc hq h1 h2 h3
      obtain ⟨q, rfl⟩ : ∃ z, q = z + 1 := ⟨q - 1, by omega⟩
      conv => lhs; unfold f54_L0
      by_cases hij : i < j
      · have em : ((i : Int) + (j : Int)) / 2 ^ 1 = (((i + j) / 2 : Nat) : Int) := by omega
        rw [ifd_pos (by omega), chk_pos (by omega), chk_pos (by omega), chk_pos (by decide), em, chk_pos (by omega), h55, some_bind, chk_pos (by omega), Int.toNat_natCast, cmp_less]
        generalize hm : (i + j) / 2 = m
        have hm1 : i ≤ m := by omega
        have hm2 : m < j := by omega
        by_cases hmA : m < A.length
        · have hl : less ((A ++ B).getD m (default : Pr)).1 k = true := by
            rw [getD_app, if_pos hmA]; exact hA _ (getD_mem _ _ _ hmA)
          rw [if_pos hl, ifd_pos (by decide), chk_pos (by omega)]
          have := ih q (m + 1) j (by omega) (by omega) (by omega) h2 h3
          rw [← this]; rfl
        · have hl : less ((A ++ B).getD m (default : Pr)).1 k = false := by
            rw [getD_app, if_neg hmA]; exact hB _ (getD_mem _ _ _ (by rw [List.length_append] at h3; omega))
          rw [hl, ifd_neg (by split <;> simp_all <;> split <;> simp)]
          exact ih q i m (by omega) (by omega) h1 (by omega) (by omega)
      · rw [ifd_neg (by omega)]
        congr 1; omega
  unfold f40 f54
  simp only [jn]
  have e0 : (0 : Int) = ((0 : Nat) : Int) := rfl
  rw [e0, main _ (A ++ B).length FUEL 0 (A ++ B).length (by omega) (by unfold FUEL; omega) (Nat.zero_le _) (by simp) (Nat.le_refl _)]
  rw [h55, Int.toNat_natCast, getD_app, if_neg (Nat.lt_irrefl _), Nat.sub_self]
  by_cases hb : 0 < B.length
  · have h1 : decide ((A.length : Int) < (((A ++ B).length : Nat) : Int)) = true := by rw [List.length_append]; simp; omega
    rw [h1]
    simp only [beq_self_eq_true, Bool.true_and, optc_t, some_bind]
    rw [chk_pos (fun _ => by rw [List.length_append]; omega), some_bind, cmp_less, hB _ (getD_mem _ _ _ hb)]
    have hd : decide (0 < B.length) = true := by simp [hb]
    rw [hd]
    simp only [Bool.false_eq_true, if_false, Bool.true_and]
    by_cases e : (B.getD 0 (default : Pr)).1 = k
    · have e' : ((B.getD 0 (default : Pr)).1 == k) = true := by simpa using e
      rw [if_pos e, e']; rfl
    · have e' : ((B.getD 0 (default : Pr)).1 == k) = false := by simpa using e
      rw [if_neg e, e']; rfl
  · have h1 : decide ((A.length : Int) < (((A ++ B).length : Nat) : Int)) = false := by rw [List.length_append]; simp; omega
    rw [h1]
    have hd : decide (0 < B.length) = false := by simp [hb]
    rw [hd]
    simp [optc, chk]
end Go.Abs
