/- Part 19 of the proof: SplW, ItoaW. -/
import Derived.Test.YtfkhgbcggabkjaaGreatDoorMoncomZ18
import Derived.Shelf.Strings.Split
import Derived.Lib.IndexBytes
import Derived.Shelf.Strconv.Itoa3
namespace Go.Abs
open Go Go.RowKit Go.Lib Go.Shelf Go.Proofs
end Go.Abs
namespace Go.Abs
open Go Go.RowKit Go.Lib Go.Shelf Go.Proofs
theorem below_grow (w : World) (k : Nat) (os : Array Obj) : Go.RowKit.Below w.heap.size w (Go.Sort.grow (w.drewN k) os) :=
 ⟨rfl, rfl, rfl, by simp [Go.Sort.grow, World.drewN], fun i hi => by
  show (w.heap ++ os)[i]? = _
  rw [Array.getElem?_append_left hi]⟩
def itoaO (n : Int) : Option (List UInt8) := if -9223372036854775808 ≤ n ∧ n ≤ 9223372036854775807 then some (Lib.itoa n) else none
theorem itoa_spec {P : Program} {f : FuncId} {g : Nat} {name : String} {T : List Int} (hg : P.globalNamed name = some g)
  (h : ∀ (n : Int) (w : World), -9223372036854775808 ≤ n → n ≤ 9223372036854775807 → Lib.TabIs P w name .u64 T → Calls P f #[.int .i64 n] w fun e w' => e = .returned (.string ⟨(Lib.itoa n).toArray⟩) ∧ ∃ k os, w' = Go.Sort.grow (w.drewN k) os)
  (n : Int) (r : List UInt8) (hr : itoaO n = some r) : Spec1 P f [(g, .tab .u64 T)] [] [] [.int .i64 n] (.str r) [] := by
 unfold itoaO at hr
 split at hr
 case isFalse => cases hr
 rename_i hn
 cases hr
 intro z vals hW hl hv hgs
 have e0 := hv 0 (by simp)
 simp only [List.getD_cons_zero] at e0
 have hx : vals.getD 0 undef = .int .i64 n := by
  generalize vals.getD 0 undef = y at e0
  cases e0; rfl
 have hv' : vals = #[vals.getD 0 undef] := by
  apply Array.ext
  ·simpa using hl
  ·intro i h1 h2
   have : i = 0 := by simp at h2; omega
   subst this; simp [h1]
 rw [hv', hx]
 have ht : Lib.TabIs P z.w name .u64 T := by
  have := hgs (g, .tab .u64 T) (List.mem_singleton.2 rfl)
  simp only at this
  cases this with
  | tab _ _ _ _ t fr hs ho =>
   unfold Lib.TabIs World.var?
   rw [hg]
   simp [ho]
 refine (h n z.w hn.1 hn.2 ht).mono ?_
 rintro e w' ⟨rfl, k, os, rfl⟩
 exact ⟨_, _, _, z.St, _, rfl, ⟨rfl, rfl⟩, hW.below (below_grow _ _ _), .str _ _ _ (by simp), fun k hk => by cases hk⟩
end Go.Abs
