/- Part 24 of the proof: ItoaW, IdxW. -/
import Derived.Test.YtalhjegdidkflaaGreatDoorFamtxtZ23
import Derived.Shelf.Strconv.Itoa3
import Derived.Lib.Bytealg
namespace Go.Abs
open Go Go.RowKit Go.Lib Go.Shelf Go.Proofs
theorem below_grow (w : World) (k : Nat) (os : Array Obj) : Go.RowKit.Below w.heap.size w (Go.Sort.grow (w.drewN k) os) :=
  ⟨rfl, rfl, rfl, by simp [Go.Sort.grow, World.drewN], fun i hi => by
    show (w.heap ++ os)[i]? = _
    rw [Array.getElem?_append_left hi]⟩
def itoaO (n : Int) : Option (List UInt8) := if -9223372036854775808 ≤ n ∧ n ≤ 9223372036854775807 then some (Lib.itoa n) else none
theorem itoa_spec {P : Program} {f : FuncId} {g : Nat} {name : String} {T : List Int} (hg : P.globalNamed name = some g)
    (h : ∀ (n : Int) (w : World), -9223372036854775808 ≤ n → n ≤ 9223372036854775807 → Lib.TabIs P w name .u64 T → Calls P f #[.int .i64 n] w fun e w' => e = .returned (.string ⟨(Lib.itoa n).toArray⟩) ∧ ∃ k os, w' = Go.Sort.grow (w.drewN k) os)
    (n : Int) (r : List UInt8) (hr : itoaO n = some r) : Spec1 P f [(g, .tab .u64 T)] [] [] [.int .i64 n] (.str r) [] := by
  unfold itoaO at hr
  split at hr
  case isFalse => cases hr
  rename_i hn
  cases hr
  intro z vals hW hl hv hgs
  have e0 := hv 0 (by simp)
  simp only [List.getD_cons_zero] at e0
  have hx : vals.getD 0 undef = .int .i64 n := by
    generalize vals.getD 0 undef = y at e0
    cases e0; rfl
  have hv' : vals = #[vals.getD 0 undef] := by
    apply Array.ext
    · simpa using hl
    · intro i h1 h2
      have : i = 0 := by simp at h2; omega
      subst this; simp [h1]
  rw [hv', hx]
  have ht : Lib.TabIs P z.w name .u64 T := by
    have := hgs (g, .tab .u64 T) (List.mem_singleton.2 rfl)
    simp only at this
    cases this with
    | tab _ _ _ _ t fr hs ho =>
      unfold Lib.TabIs World.var?
      rw [hg]
      simp [ho]
  refine (h n z.w hn.1 hn.2 ht).mono ?_
  rintro e w' ⟨rfl, k, os, rfl⟩
  exact ⟨_, _, _, z.St, _, rfl, ⟨rfl, rfl⟩, hW.below (below_grow _ _ _), .str _ _ _ (by simp), fun k hk => by cases hk⟩
end Go.Abs
namespace Go.Abs
open Go Go.RowKit
def ixB (l : List UInt8) (c : UInt8) : Int := match l.findIdx? (· == c) with | some i => (i : Int) | none => -1
theorem ixB_eq (l : List UInt8) (c : UInt8) : Lib.indexByte l c = ixB l c := by
  induction l with
  | nil => rfl
  | cons b l ih =>
    have e : Lib.indexByte (b :: l) c = if b == c then 0 else if Lib.indexByte l c == -1 then -1 else Lib.indexByte l c + 1 := rfl
    rw [e, ih]
    unfold ixB
    rw [List.findIdx?_cons]
    cases h : b == c
    · cases h2 : List.findIdx? (fun x => x == c) l with
      | none => simp
      | some i =>
        have h3 : ((i : Int) == -1) = false := by simp
        simp [h3]
    · simp
def ixbO (l : List UInt8) (c : Int) : Option Int := some (ixB l c.toNat.toUInt8)
theorem ixb_spec {P : Program} {f : FuncId} (h : ∀ (s : ByteArray) (c : Int) (w : World), Calls P f #[.string s, .int .u8 c] w fun e w' => e = .returned (.int .i64 (Lib.indexByte s.data.toList c.toNat.toUInt8)) ∧ w' = w)
    (a : List UInt8) (c r : Int) (hr : ixbO a c = some r) : Spec1 P f [] [] [] [.str a, .int .u8 c] (.int .i64 r) [] := by
  cases hr
  intro z vals hW hl hv _
  have e0 := hv 0 (by simp)
  have e1 := hv 1 (by simp)
  simp only [List.getD_cons_zero, List.getD_cons_succ] at e0 e1
  obtain ⟨s, hs1, hs2⟩ := e0.str_inv
  have hs1' := e1.int_inv
  have hv : vals = #[vals.getD 0 undef, vals.getD 1 undef] := by
    apply Array.ext
    · simpa using hl
    · intro i h1 h2
      have : i = 0 ∨ i = 1 := by simp at h2; omega
      rcases this with rfl | rfl <;> simp [h1]
  rw [hv, hs1, hs1']
  refine (h s c z.w).mono ?_
  rintro e w' ⟨rfl, rfl⟩
  refine ⟨_, _, _, z.St, z.g, rfl, ⟨rfl, rfl⟩, hW, ?_, by simp⟩
  rw [hs2, ixB_eq]
  exact .int _ _ _
end Go.Abs
