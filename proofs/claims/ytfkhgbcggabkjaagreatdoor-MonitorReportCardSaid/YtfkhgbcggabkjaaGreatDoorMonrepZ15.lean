/- Part 15 of the proof: AbsR6. -/
import Derived.Test.YtfkhgbcggabkjaaGreatDoorMonrepZ14
import Derived.Lib.ItoaNum
namespace Go.Abs
open Go
abbrev acO:=@Le.mk
theorem tcovE {t:List (Nat×V)}:∀{l:List (Nat×V)},l.map (fun p=>dD t p.1)=l.map (·.2)->tcov t l
 |[],_=>trivial
 |(d,v)::l,h=>by
  have h1:dD t d=v:=(List.cons.inj h).1
  exact⟨h1▸ .refl _,tcovE (List.cons.inj h).2⟩
theorem hcovE {g:aJ}:∀{l:aJ},l.map (fun p=>g.get p.1)=l.map (fun p=>some p.2)->hcov g l
 |[],_=>trivial
 |(d,v)::l,h=>by
  have h1:g.get d=some v:=(List.cons.inj h).1
  exact⟨⟨v,h1,.refl _⟩,hcovE (List.cons.inj h).2⟩
theorem LR {s s':S} (h:(s'.N,s'.b,s'.t.map (·.2),s'.h.map fun p=>some p.2)=(s.N,s.b,s'.t.map (fun p=>dD s.t p.1),s'.h.map fun p=>s.h.get p.1):=by kernel_rfl):Le s s':=by
 simp only[Prod.mk.injEq]at h;exact acO h.1.symm h.2.1 (tcovE h.2.2.1.symm) (hcovE h.2.2.2.symm)
theorem iN {n:Nat} {b:Int} (h:(n:Int)<b):0<=(n:Int)/\(n:Int)<b:=⟨by omega,h⟩
theorem iL {n:Nat} {b:Int} (h:(n:Int)<=b):0<=(n:Int)/\(n:Int)<=b:=⟨by omega,h⟩
theorem iP {n:Nat} (h:((n:Int)+(1:Int))<=9223372036854775807): -9223372036854775808<=((n:Int)+(1:Int))/\((n:Int)+(1:Int))<=9223372036854775807:=⟨by omega,h⟩
theorem cK {P:Program} {Q:Exit->S->Prop} {s:S} {c:Operand} {x y:Code} (b:Bool) (h1:b=true->AWp P x Q s) (h2:b=false->AWp P y Q s) (hc:raw s.t c= .bool b:=by kernel_rfl):AWp P (.cond c x y) Q s:= .cond hc h1 h2
abbrev pT :V:= .tab .u64 Lib.pow10Tab
theorem bK {P:Program} {fn:Func} {b:List Nat} {r:V} {h1:aJ} {s:S} (h:(resV P fn s,s.h,s.b)=(some r,h1,b):=by kernel_rfl):vT P fn b (fun v h=>v=r/\h=h1) .ret s:=by
 simp only[Prod.mk.injEq]at h;exact zM r h.1 ⟨rfl,h.2.1⟩ h.2.2
theorem bD {P:Program} {fn:Func} {b l:List Nat} {r:V} {h1:aJ} {s:S} (h:(resV P fn s,sN l s.h,s.b)=(some r,h1,b):=by kernel_rfl):vT P fn b (fun v h=>v=r/\sN l h=h1) .ret s:=by
 simp only[Prod.mk.injEq]at h;exact zM r h.1 ⟨rfl,h.2.1⟩ h.2.2
end Go.Abs
