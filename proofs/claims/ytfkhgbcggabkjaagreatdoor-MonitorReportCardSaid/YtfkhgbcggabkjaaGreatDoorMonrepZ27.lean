/- Part 27 of the proof: AbsZ, Open1. -/
import Derived.Test.YtfkhgbcggabkjaaGreatDoorMonrepZ26
import Derived.ProofKit
import Derived.OpenShut
import Derived.Carry
namespace Go.Abs
open Go Go.RowKit Go.ChangeShapes Go.WideShapes Go.ChangeAt
theorem lY {H:Type} {enc:TypeId×Value->H} {P:Program} (hl:laidOutB P=true) {W W':World} (hb:Below W.heap.size W W'):∀(ts:List TypeId) (vs:List Value) (ds:List (DataW H)) (ps:List MemPlace),
  (ts.all fun t=>P.readableRec t&&decide (t<P.types.size))=true->DataW.TrodAll enc P W 0 (fun _=>true) true ts vs ds ps->(∀x∈ps,x.block<W.heap.size)->
  DataW.TrodAll enc P W' 0 (fun b=>decide (b<W.heap.size)) true ts vs ds ps
 |[],vs,ds,ps,_,h,_=>by
  obtain⟨rfl,rfl,rfl⟩:=trodAll_nil h
  exact trodAll_mk0
 |t::ts,vs,ds,ps,hts,h,hlt=>by
  obtain⟨v0,vs0,d0,ds0,p0,q0,rfl,rfl,rfl,h0,r0⟩:=trodAll_cons h
  simp only[List.all_cons,aaL,abA]at hts
  exact trodAll_cons_mk (Below.trod hl hts.1.1 hts.1.2 h0 hb fun x hx=>hlt x (acI _ hx)) (lY hl hb ts vs0 ds0 q0 hts.2 r0 fun x hx=>hlt x (adU _ hx))
theorem post_law {H:Type} {enc:TypeId×Value->H} {P:Program} {f:Func} {s:ChangeSpec} {fresh handsOn:Bool} {W W':World} {args:Array Value} {ds gs:List (DataW H)} {before:List MemPlace} {tb:TypeId}
  (hl:laidOutB P=true) (hts:(f.params.toList.all fun t=>P.readableRec t&&decide (t<P.types.size))=true) (hr:f.resultTypes= #[tb]) (htb:P.underlying tb=some .bool)
  (hvars:s.vars=[]) (hW:DataW.Whole enc P f.params.toList s.vars false W args.toList ds gs before)
  (hs:(s.fn H (ds++gs)).results=[.lit (.bool true)]) (ha:(s.fn H (ds++gs)).args=ds) (hv:(s.fn H (ds++gs)).vars=[]) (hb:Below W.heap.size W W'):
  s.post enc P f false fresh handsOn false W args (.bool true) W':=by
 have hlt:∀p∈before,p.block<W.heap.size:=fun p hp=>hW.lt p hp;have hW0:=hW;obtain⟨p,q,hA,hV,rfl,hfz,hnd⟩:=hW;rw[hvars]at hV;obtain⟨rfl,rfl⟩:=trodVars_none hV;refine⟨ds,[],_,[],p,[],hW0, ?_, ?_, ?_,hb.frame _,fun h=>by cases h⟩
 ·rw[hs,hr];exact trodAll_cons_mk (shut_bool htb _) trodAll_mk0
 ·rw[ha];exact lY hl hb _ _ _ _ hts hA fun x hx=>hlt x (acI _ hx)
 ·rw[hv,hvars];exact rfl
theorem ofInt_u16 {n:Int} (h:(Lit.int .u16 n).wf=true):((BitVec.ofInt 16 n).toNat:Int)=n:=by
 have h1:0<=n/\n<=65535:=by
  simp[Lit.wf,IntKind.min,IntKind.max,IntKind.signed,IntKind.bits]at h;omega
 rw[aeP];omega
end Go.Abs
namespace Go.Abs
open Go Go.RowKit Go.ChangeShapes Go.WideShapes Go.ChangeAt
section
variable {H:Type} {enc:TypeId×Value->H} {P:Program} {W:World} {t e:TypeId} {base:Nat} {v:Value} {d:DataW H} {ps:List MemPlace}
theorem open_int {k:IntKind} (ht:P.underlying t=some (.int k)) (hval:Value.okWide P W .any base t v):∃n,v= .int k n/\k.has n:=by
 unfold Value.okWide at hval;rw[ht]at hval;simp only[Cell.okWide,ht,Cell.ok]at hval;cases v<;>simp at hval;exact⟨_,by rw[hval.1],hval.2⟩
theorem aAe (ht:P.underlying t=some (.int .u8)) (hval:Value.okWide P W .any base t v):∃n:Int,v= .int .u8 n/\0<=n/\n<=255:=by
 obtain⟨n,rfl,h⟩:=open_int ht hval;have h2:IntKind.u8.min<=n/\n<=IntKind.u8.max:=h;simp[IntKind.min,IntKind.max,IntKind.signed,IntKind.bits]at h2;exact⟨n,rfl,by omega,by omega⟩
end
end Go.Abs
