/- Part 15 of the proof: AbsR6. -/
import Derived.Test.YtfkhgbcggabkjaaGreatDoorMonpreZ14
import Derived.Lib.ItoaNum
namespace Go.Abs
open Go
theorem tcovE {t:List (Nat×V)}:∀{l:List (Nat×V)},l.map (fun p=>cX t p.1)=l.map (·.2)→tcov t l
 |[],_=>trivial
 |(d,v)::l,h=>by
  have h1:cX t d=v:=(List.cons.inj h).1
  exact⟨h1▸ .refl _,tcovE (List.cons.inj h).2⟩
theorem hcovE {g:aK}:∀{l:aK},l.map (fun p=>g.get p.1)=l.map (fun p=>some p.2)→hcov g l
 |[],_=>trivial
 |(d,v)::l,h=>by
  have h1:g.get d=some v:=(List.cons.inj h).1
  exact⟨⟨v,h1,.refl _⟩,hcovE (List.cons.inj h).2⟩
theorem LR {s s':S} (h:(s'.N,s'.b,s'.t.map (·.2),s'.h.map fun p=>some p.2)=(s.N,s.b,s'.t.map (fun p=>cX s.t p.1),s'.h.map fun p=>s.h.get p.1):=by kernel_rfl):Le s s':=by
 simp only[Prod.mk.injEq]at h;exact Le.mk h.1.symm h.2.1 (tcovE h.2.2.1.symm) (hcovE h.2.2.2.symm)
end Go.Abs
