/- Rules that shorten printed proofs: what a region asks is read off its proof. -/
import Derived.Test.YtmcmhjdmilgoeaaGreatDoorAbsR2
namespace Go.Abs
open Go
theorem VLes.same : ∀ l : List V, VLes l l
  | [] => trivial
  | v :: l => ⟨.refl v, VLes.same l⟩
theorem lendV_none (l : List V) : l.map (lendV [] []) = l := by
  induction l with
  | nil => rfl
  | cons v l ih => rw [List.map_cons, ih]; rfl
theorem ac6 {a b c d e f g : Prop} (ha : a) (hb : b) (hc : c) (hd : d) (he : e) (hf : f) (hg : g) : a ∧ b ∧ c ∧ d ∧ e ∧ f ∧ g := ⟨ha, hb, hc, hd, he, hf, hg⟩
section
variable {P : Program} {c : Bool} {fid : FuncId} {gs : List (Nat × V)} {bk : List Nat} {h0 : Heap} {a : List V} {r : V} {h1 : Heap}
theorem cpC (h : c = true → Spec1 P fid gs bk h0 a r h1) : callP P c fid gs bk h0 [] [] a a r h1 :=
  ⟨h, fun _ => by rw [lendV_none]; exact .same a, .inl rfl⟩
theorem cpT (h : Spec1 P fid gs bk h0 a r h1) : callP P true fid gs bk h0 [] [] a a r h1 := cpC fun _ => h
theorem cpL (hr : Heap) (lent : List Nat) (args : List V) (h : c = true → Spec1 P fid gs bk h0 a r h1) (hv : c = true → VLes (args.map (lendV hr lent)) a) (hf : lent = [] ∨ (r.flat = true ∧ Heap.Flat h1)) :
    callP P c fid gs bk h0 hr lent args a r h1 := ⟨h, hv, hf⟩
end
end Go.Abs
