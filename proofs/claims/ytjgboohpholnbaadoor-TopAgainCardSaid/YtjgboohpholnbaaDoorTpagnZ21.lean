/- Part 21 of the proof: Open2, Open3, Open12, Open16, TaK. -/
import Derived.Test.YtjgboohpholnbaaDoorTpagnZ20
import Derived.Deep.SlicePairs
import Derived.Lib.LaidTab
namespace Go.Abs
open Go Go.RowKit Go.ChangeShapes Go.WideShapes Go.ChangeAt Go.Deep
section
variable {H:Type} {enc:TypeId×Value→H} {P:Program} {W:World} {t e:TypeId} {base:Nat} {v:Value} {d:DataW H} {ps:List MemPlace}
end
end Go.Abs
namespace Go.Abs
open Go Go.RowKit Go.ChangeShapes Go.WideShapes Go.ChangeAt Go.Deep
section
variable {H:Type} {enc:TypeId×Value→H} {P:Program} {W:World} {t e:TypeId} {base:Nat} {v:Value} {d:DataW H} {ps:List MemPlace}
end
end Go.Abs
namespace Go.Abs
open Go Go.RowKit Go.ChangeShapes Go.WideShapes Go.ChangeAt Go.Deep
section
variable {H:Type} {enc:TypeId×Value→H} {P:Program} {W:World} {t e:TypeId} {base:Nat} {v:Value} {d:DataW H} {ps:List MemPlace}
theorem rQ {a:Addr} {x:Value} (h:W.cell? a=some x):a.spot=none:=by
 unfold World.cell? at h;split at h
 ·split at h
  ·cases h
  ·rename_i hs
   cases hq:a.spot with
   |none=>rfl
   |some k=>rw[hq]at hs;simp at hs
 ·cases h
theorem qL {fuel:Nat} {cs:List Value} {y:DataW H×List MemPlace} (ht:P.underlying t=some (.int .u8)) (hf:DataW.trod enc P W 0 (fun _=>true) true fuel t cs=some y):∃n:Int,cs=[.int .u8 n]∧0≤n∧n≤255:=by
 obtain⟨n,e,_,hw⟩:=DataW.trod_int ht hf;refine⟨n,e, ?_⟩;simp[Lit.wf,IntKind.min,IntKind.max,IntKind.signed,IntKind.bits]at hw;omega
end
end Go.Abs
namespace Go.Abs
open Go Go.RowKit Go.ChangeShapes Go.WideShapes Go.ChangeAt Go.Deep
section
variable {H:Type} {enc:TypeId×Value→H} {P:Program} {W:World} {t e:TypeId} {base:Nat} {v:Value} {d:DataW H} {ps:List MemPlace}
theorem vH {fuel:Nat} {cs:List Value} {y:DataW H×List MemPlace} (ht:P.underlying t=some (.slice e)) (he:P.underlying e=some (.int .u8)) (hc:P.cellsOf e=1)
  (hf:DataW.trod enc P W 0 (fun _=>true) true fuel t cs=some y):
  ∃(l:List Int) (v:Value),cs=[v]∧v.oneCell'=true∧Rel (mC W) W dU (.arr 1 l.length (cM (fun x:Int=>[.int .u8 x]) 0 l)) v∧(∀n,n∈l→0≤n∧n≤255)∧l.length≤9223372036854775807:=by
 rcases Go.ChangeShapes.open_ints ht he hc hf with⟨h1,h2⟩|⟨a,len,cap,zs,h1,hb,hlc,hm,hz,hx,hcell,hwf⟩
 ·exact⟨[],_,h1,rfl,.arr0 _ _ _,by simp,by simp⟩
 ·simp only[if_true]at hz;have hmm:maxLen=9223372036854775807:=rfl;by_cases h0:cap=0
  ·subst h0;obtain rfl:len=0:=by omega
   exact⟨[],_,h1,rfl,.arrE _ _ _ _,by simp,by simp⟩
  have hsp:a.spot=none:=by
   have:=hcell 0 (by omega);exact rQ (show W.cell? a=some _ from this)
  obtain⟨ab,ao,aas⟩:=a;simp only at hsp;subst hsp;have hlen:(zs.take len).length=len:=by simp;omega
  refine⟨zs.take len,_,h1,rfl, ?_,fun n hn=> ?_,by omega⟩
  ·rw[hlen];refine .arr _ 1 _ _ ab ao cap (fun i _=> .int .u8 ((zs.take len).getD i 0)) hlc (by omega) (fun hn _=>fV (hcell 0 (by omega))) (fun i j hi hj=> ?_) (fun _ _ _ _=>rfl) (fun i j hi hj=> ?_)
   ·have:j=0:=by omega
    subst this;have h1:=hcell i (by omega);rw[add_plain]at h1;rw[Nat.mul_one,Nat.add_zero,h1];simp[List.getD_eq_getElem?_getD,hi]
   ·have:j=0:=by omega
    subst this;exact .int _ _ _
  ·have:=hwf n (List.mem_of_mem_take hn);simp[Lit.wf,IntKind.min,IntKind.max,IntKind.signed,IntKind.bits]at this;omega
abbrev Pcv :=Int×Int×Int×Bool×List Int
def okPcv (a:Pcv):Prop:=(0≤a.1∧a.1≤255)∧(0≤a.2.1∧a.2.1≤255)∧(0≤a.2.2.1∧a.2.2.1≤255)∧(∀n,n∈a.2.2.2.2→0≤n∧n≤255)∧a.2.2.2.2.length≤9223372036854775807
theorem vX {encA:Pcv→List V} (henc:∀a i,i<5→(encA a).getD i .any=([.int .u8 a.1,.int .u8 a.2.1,.int .u8 a.2.2.1,.bool a.2.2.2.1,.arr 1 a.2.2.2.2.length (cM (fun x:Int=>[.int .u8 x]) 0 a.2.2.2.2)]:List V).getD i .any)
  {f0 f1 f2 f3 f4:Field} {ew:TypeId} {fuel:Nat} {cs:List Value} {y:DataW H×List MemPlace}
  (he:P.underlying e=some (.struct #[f0,f1,f2,f3,f4])) (ce:P.cellsOf e=5)
  (ho:f0.offset=0∧f1.offset=1∧f2.offset=2∧f3.offset=3∧f4.offset=4)
  (hc:P.cellsOf f0.type=1∧P.cellsOf f1.type=1∧P.cellsOf f2.type=1∧P.cellsOf f3.type=1∧P.cellsOf f4.type=1)
  (h0:P.underlying f0.type=some (.int .u8)) (h1:P.underlying f1.type=some (.int .u8)) (h2:P.underlying f2.type=some (.int .u8)) (h3:P.underlying f3.type=some .bool) (h4:P.underlying f4.type=some (.slice ew))
  (hw:P.underlying ew=some (.int .u8)) (cw:P.cellsOf ew=1)
  (h:DataW.trod enc P W 0 (fun _=>true) true fuel e cs=some y):
  cs.length=5∧∃a:Pcv,okPcv a∧∀i,i<5→(cs.getD i undef).oneCell'=true∧Rel (mC W) W dU ((encA a).getD i .any) (cs.getD i undef):=by
 obtain⟨xs,n,_,_,hl,hxl,hx⟩:=DataW.trod_struct he h;rw[ce]at hl
 have one:∀i,i<5→(cs.drop i).take 1=[cs.getD i undef]:=fun i hi=>by
  rw[List.drop_eq_getElem_cons (by omega),List.take_succ_cons,List.take_zero];simp[List.getD_eq_getElem?_getD,hl,hi]
 have hx5:xs.length=5:=hxl
 have g:∀(i:Nat) (f:Field) (hi:i<5),(#[f0,f1,f2,f3,f4]:Array Field)[i]? =some f→f.offset=i→P.cellsOf f.type=1→DataW.trod enc P W 0 (fun _=>true) true n f.type [cs.getD i undef]=some (xs[i]'(by omega)):=fun i f hi hff ho hc=>by
  have:=hx i f hff;rw[ho,hc,one i hi,List.getElem?_eq_getElem (by omega)]at this;exact this
 obtain⟨n0,e0,b0⟩:=qL h0 (g 0 f0 (by omega) rfl ho.1 hc.1);obtain⟨n1,e1,b1⟩:=qL h1 (g 1 f1 (by omega) rfl ho.2.1 hc.2.1);obtain⟨n2,e2,b2⟩:=qL h2 (g 2 f2 (by omega) rfl ho.2.2.1 hc.2.2.1);obtain⟨n3,e3,_⟩:=DataW.trod_bool h3 (g 3 f3 (by omega) rfl ho.2.2.2.1 hc.2.2.2.1);obtain⟨l4,v4,e4,q4,r4,b4,m4⟩:=vH h4 hw cw (g 4 f4 (by omega) rfl ho.2.2.2.2 hc.2.2.2.2);simp only[List.cons.injEq,and_true]at e0 e1 e2 e3 e4;refine⟨hl,(n0,n1,n2,n3,l4),⟨b0,b1,b2,b4,m4⟩,fun i hi=> ?_⟩;rw[henc _ i hi]
 match i,hi with
 |0,_=>rw[e0];exact⟨rfl,.int _ _ _⟩
 |1,_=>rw[e1];exact⟨rfl,.int _ _ _⟩
 |2,_=>rw[e2];exact⟨rfl,.int _ _ _⟩
 |3,_=>rw[e3];exact⟨rfl,.bool _ _⟩
 |4,_=>rw[e4];exact⟨q4,r4⟩
theorem vC {encA:Pcv→List V} {dA:Pcv} (henc:∀a i,i<5→(encA a).getD i .any=([.int .u8 a.1,.int .u8 a.2.1,.int .u8 a.2.2.1,.bool a.2.2.2.1,.arr 1 a.2.2.2.2.length (cM (fun x:Int=>[.int .u8 x]) 0 a.2.2.2.2)]:List V).getD i .any)
  {f0 f1 f2 f3 f4:Field} {ew:TypeId} (ht:P.underlying t=some (.slice e))
  (he:P.underlying e=some (.struct #[f0,f1,f2,f3,f4])) (ce:P.cellsOf e=5)
  (ho:f0.offset=0∧f1.offset=1∧f2.offset=2∧f3.offset=3∧f4.offset=4)
  (hc:P.cellsOf f0.type=1∧P.cellsOf f1.type=1∧P.cellsOf f2.type=1∧P.cellsOf f3.type=1∧P.cellsOf f4.type=1)
  (h0:P.underlying f0.type=some (.int .u8)) (h1:P.underlying f1.type=some (.int .u8)) (h2:P.underlying f2.type=some (.int .u8)) (h3:P.underlying f3.type=some .bool) (h4:P.underlying f4.type=some (.slice ew))
  (hw:P.underlying ew=some (.int .u8)) (cw:P.cellsOf ew=1)
  (hval:Value.okWide P W .any base t v) (h:DataW.Trod enc P W 0 (fun _=>true) true t v d ps):
  ∃l:List Pcv,Rel (mC W) W dU (.arr 5 l.length (cM encA dA l)) v∧(∀a,a∈l→okPcv a)∧l.length≤9223372036854775807:=by
 obtain⟨fuel,hf'⟩:=h;obtain⟨a0,len0,cap0,rfl⟩:=okWide_slice ht hval;simp only[Value.cells]at hf';rcases open_slice ht hf' with⟨q1,q2⟩|⟨a,len,cap,m,n,D,Pl,q1,hb,hlc,hm,hz,hx,hcell⟩
 ·simp only[List.cons.injEq,Value.slice.injEq,and_true]at q1;obtain⟨rfl,rfl,rfl⟩:=q1;exact⟨[],.arr0 _ _ _,by simp,by simp⟩
 ·simp only[List.cons.injEq,Value.slice.injEq,and_true]at q1;obtain⟨rfl,rfl,rfl⟩:=q1;simp only[if_true]at hz;subst hz
  have hsp:a.spot=none:=by
   unfold Value.okWide at hval;rw[ht]at hval;simp only[Cell.okWide,ht,Cell.ok]at hval;exact hval.2.2.2.1
  obtain⟨ab,ao,aas⟩:=a;simp only at hsp;subst hsp
  have each:∀i,i<len0→∃q:Pcv×List Value,okPcv q.1∧q.2.length=5∧(∀j,j<5→W.cell? ⟨ab,ao+i *5+j,none⟩=some (q.2.getD j undef)∧(q.2.getD j undef).oneCell'=true∧Rel (mC W) W dU ((encA q.1).getD j .any) (q.2.getD j undef)):=by
   intro i hi;obtain⟨cs',g1,g2⟩:=hcell i (by omega);rw[ce]at g1;obtain⟨_,hlen,hcc⟩:=World.cells?_some g1;obtain⟨hl,a,hok,ha⟩:=vX henc he ce ho hc h0 h1 h2 h3 h4 hw cw g2;refine⟨(a,cs'),hok,hl,fun j hj=>⟨?_,(ha j hj).1,(ha j hj).2⟩⟩;have:=hcc j hj;rw[add_plain,add_plain]at this;rw[this,List.getElem?_eq_getElem (by omega)];simp[List.getD_eq_getElem?_getD,hl,hj]
  obtain⟨q,hq⟩:=choose_lt each;have hlen:((List.range len0).map fun i=>(q i).1).length=len0:=by simp
  have hget:∀i,i<len0→((List.range len0).map fun i=>(q i).1).getD i dA=(q i).1:=fun i hi=>by
   simp[List.getD_eq_getElem?_getD,hi]
  have hmm:maxLen=9223372036854775807:=rfl;refine⟨(List.range len0).map fun i=>(q i).1, ?_, ?_,by omega⟩
  ·rw[hlen];refine .arr _ _ _ _ ab ao m (fun i j=>(q i).2.getD j undef) hlc (by omega) (fun hn hs=> ?_) (fun i j hi hj=>((hq i hi).2.2 j hj).1) (fun i j hi hj=>((hq i hi).2.2 j hj).2.1) (fun i j hi hj=> ?_)
   ·exact fV ((hq 0 hn).2.2 0 hs).1
   ·show Rel _ _ _ ((encA (((List.range len0).map fun i=>(q i).1).getD i dA)).getD j .any) _;rw[hget i hi];exact((hq i hi).2.2 j hj).2.2
  ·intro a ha;obtain⟨i,hi,rfl⟩:=List.mem_map.1 ha;exact(hq i (List.mem_range.1 hi)).1
theorem vB {encA:Pcv→List V} {dA:Pcv} (henc:∀a i,i<5→(encA a).getD i .any=([.int .u8 a.1,.int .u8 a.2.1,.int .u8 a.2.2.1,.bool a.2.2.2.1,.arr 1 a.2.2.2.2.length (cM (fun x:Int=>[.int .u8 x]) 0 a.2.2.2.2)]:List V).getD i .any)
  {k0:Field} {tl:TypeId} {f0 f1 f2 f3 f4:Field} {ew:TypeId} (ht:P.underlying t=some (.struct #[k0])) (hk:k0.offset=0∧k0.type=tl) (hct:P.cellsOf t=1) (hcts:P.cellTypes P.depth t=some [tl]) (hl:P.underlying tl=some (.slice e)) (hcl:P.cellsOf tl=1)
  (he:P.underlying e=some (.struct #[f0,f1,f2,f3,f4])) (ce:P.cellsOf e=5)
  (ho:f0.offset=0∧f1.offset=1∧f2.offset=2∧f3.offset=3∧f4.offset=4)
  (hc:P.cellsOf f0.type=1∧P.cellsOf f1.type=1∧P.cellsOf f2.type=1∧P.cellsOf f3.type=1∧P.cellsOf f4.type=1)
  (h0:P.underlying f0.type=some (.int .u8)) (h1:P.underlying f1.type=some (.int .u8)) (h2:P.underlying f2.type=some (.int .u8)) (h3:P.underlying f3.type=some .bool) (h4:P.underlying f4.type=some (.slice ew))
  (hw:P.underlying ew=some (.int .u8)) (cw:P.cellsOf ew=1)
  (hval:Value.okWide P W .any base t v) (h:DataW.Trod enc P W 0 (fun _=>true) true t v d ps):
  ∃l:List Pcv,Rel (mC W) W dU (.agg [.arr 5 l.length (cM encA dA l)]) v∧(∀a,a∈l→okPcv a)∧l.length≤9223372036854775807:=by
 unfold Value.okWide at hval;rw[ht]at hval;obtain⟨cs,rfl,hsz,ts',hts',_,hcell⟩:=hval;rw[hcts]at hts';cases hts';rw[hct]at hsz;obtain⟨fuel,hf⟩:=h;obtain⟨xs,n,rfl,hx,hlen,hxl,hfld⟩:=DataW.trod_struct ht hf;have hv:cs[0]? =some (cs.getD 0 undef):=by simp[hsz]
 have w0:Value.okWide P W .any base tl (cs.getD 0 undef):=by
  obtain⟨u,hu1,hk1⟩:=hcell 0 _ hv;have hu2:tl=u:=by simpa using hu1
  subst hu2;unfold Value.okWide;rw[hl];exact hk1
 obtain⟨a0,len0,cap0,hs1⟩:=okWide_slice hl w0;have hf0:=hfld 0 k0 rfl;rw[hk.1,hk.2,hcl]at hf0
 have hcsl:cs.toList=[cs.getD 0 undef]:=by
  apply List.ext_getElem?;intro i
  match i with
  |0=>rw[Array.getElem?_toList];exact hv
  |i+1=>rw[Array.getElem?_toList,Array.getElem?_eq_none (by omega)];rfl
 have hclist:(Value.agg cs).cells.toList=cs.toList:=rfl;rw[hclist,hcsl]at hf0;simp only[List.drop_zero,List.take_succ_cons,List.take_zero]at hf0;have hx1:xs.length=1:=hxl;rw[List.getElem?_eq_getElem (by omega)]at hf0
 have hT:DataW.Trod enc P W 0 (fun _=>true) true tl (cs.getD 0 undef) (xs[0]'(by omega)).1 (xs[0]'(by omega)).2:=by
  refine⟨n, ?_⟩;rw[hs1]at hf0⊢;exact hf0
 obtain⟨l,hrel,hok,hn⟩:=vC (dA:=dA) henc hl he ce ho hc h0 h1 h2 h3 h4 hw cw w0 hT;refine⟨l,.agg _ _ _ (by simp[hsz]) fun i hi=> ?_,hok,hn⟩;have hi':i<1:=hi
 match i,hi' with
 |0,_=>exact hrel
end
end Go.Abs
namespace Go.Abs
theorem f3_true (x:List Pcv) (ho:∀a,a∈x→okPcv a) (_:x.length≤9223372036854775807):f3 x=some true:=
 f3_law x fun a ha=>⟨(ho a ha).1,(ho a ha).2.1,(ho a ha).2.2.1,(ho a ha).2.2.2.1⟩
end Go.Abs
