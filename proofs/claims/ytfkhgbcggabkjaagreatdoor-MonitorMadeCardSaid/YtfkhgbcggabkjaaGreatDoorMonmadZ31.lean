/- Part 31 of the proof: Open14, MonM. -/
import Derived.Test.YtfkhgbcggabkjaaGreatDoorMonmadZ30
namespace Go.Abs
open Go Go.RowKit Go.ChangeShapes Go.WideShapes Go.ChangeAt Go.Deep
section
variable {H:Type} {enc:TypeId×Value->H} {P:Program} {W:World} {t e:TypeId} {base:Nat} {v:Value} {d:DataW H} {ps:List MemPlace}
def fldU (x:Value):Prop:=∃n:Int,x= .int .u8 n/\0<=n/\n<=255
theorem fldU_one {x:Value} (h:fldU x):x.oneCell'=true:=by obtain⟨n,rfl,_⟩:=h;rfl
theorem cells_u8 {spare:Nat->Bool} {held:Bool} {fuel:Nat} {fs:Array Field} {n4:Nat} {cs:List Value} {y:DataW H×List MemPlace} (he:P.underlying e=some (.struct fs)) (hn:fs.size=n4) (ce:P.cellsOf e=n4)
  (hf:∀(i:Nat) (f:Field),fs[i]? =some f->f.offset=i/\P.cellsOf f.type=1/\P.underlying f.type=some (.int .u8))
  (h:DataW.trod enc P W base spare held fuel e cs=some y):cs.length=n4/\∀i,i<n4->fldU (cs.getD i undef):=by
 obtain⟨xs,n,_,_,hl,hxl,hx⟩:=DataW.trod_struct he h;rw[ce]at hl;refine⟨hl,fun i hi=> ?_⟩;obtain⟨f,hff⟩:∃f,fs[i]? =some f:=⟨fs[i],by simp[hn,hi]⟩;obtain⟨h1,h2,h3⟩:=hf i f hff;have:=hx i f hff;rw[h1,h2]at this
 have e1:(cs.drop i).take 1=[cs.getD i undef]:=by
  rw[agQ (by omega),List.take_succ_cons,List.take_zero];simp[aaC,hl,hi]
 rw[e1,aaT (by omega)]at this;obtain⟨m,e2,_,hw⟩:=DataW.trod_int h3 this;simp only[List.cons.injEq,and_true]at e2;refine⟨m,e2, ?_⟩;simp[Lit.wf,IntKind.min,IntKind.max,IntKind.signed,IntKind.bits]at hw;omega
abbrev St4v :=Int×Int×Int×Int
def okQ4 (x:St4v):Prop:=(0<=x.1/\x.1<=255)/\(0<=x.2.1/\x.2.1<=255)/\(0<=x.2.2.1/\x.2.2.1<=255)/\(0<=x.2.2.2/\x.2.2.2<=255)
theorem mkQ4 {W:World} {encA:St4v->List V} {n4:Nat} (h4:n4=4) (henc:∀a i,i<4->(encA a).getD i .any=([.int .u8 a.1,.int .u8 a.2.1,.int .u8 a.2.2.1,.int .u8 a.2.2.2]:List V).getD i .any) (cs:List Value) (hf:∀i,i<n4->fldU (cs.getD i undef)):
  ∃a:St4v,okQ4 a/\∀i,i<n4->Rel (mL W) W eD ((encA a).getD i .any) (cs.getD i undef):=by
 subst h4;obtain⟨n0,h0,b0⟩:=hf 0 (by decide);obtain⟨n1,h1,b1⟩:=hf 1 (by decide);obtain⟨n2,h2,b2⟩:=hf 2 (by decide);obtain⟨n3,h3,b3⟩:=hf 3 (by decide);refine⟨(n0,n1,n2,n3),⟨b0,b1,b2,b3⟩,fun i hi=> ?_⟩;rw[henc _ i hi]
 match i,hi with
 |0,_=>rw[h0];exact .int _ _ _
 |1,_=>rw[h1];exact .int _ _ _
 |2,_=>rw[h2];exact .int _ _ _
 |3,_=>rw[h3];exact .int _ _ _
theorem aBu {encA:St4v->List V} {dA:St4v} {fs:Array Field} {n4:Nat} (h4:n4=4) (ht:P.underlying t=some (.slice e)) (he:P.underlying e=some (.struct fs)) (hn:fs.size=n4) (ce:P.cellsOf e=n4)
  (hf:∀(i:Nat) (f:Field),fs[i]? =some f->f.offset=i/\P.cellsOf f.type=1/\P.underlying f.type=some (.int .u8))
  (henc:∀a i,i<4->(encA a).getD i .any=([.int .u8 a.1,.int .u8 a.2.1,.int .u8 a.2.2.1,.int .u8 a.2.2.2]:List V).getD i .any)
  (hval:Value.okWide P W .any base t v) (h:DataW.Trod enc P W 0 (fun _=>true) true t v d ps):
  ∃l:List St4v,Rel (mL W) W eD (.arr n4 l.length (cE encA dA l)) v/\(∀a,a∈l->okQ4 a)/\l.length<=9223372036854775807:=by
 obtain⟨fuel,hf'⟩:=h;obtain⟨a0,len0,cap0,rfl⟩:=okWide_slice ht hval;simp only[Value.cells]at hf';rcases open_slice ht hf' with⟨h1,h2⟩|⟨a,len,cap,m,n,D,Pl,h1,hb,hlc,hm,hz,hx,hcell⟩
 ·simp only[List.cons.injEq,Value.slice.injEq,and_true]at h1;obtain⟨rfl,rfl,rfl⟩:=h1;exact⟨[],.arr0 _ _ _,by simp,by simp⟩
 ·simp only[List.cons.injEq,Value.slice.injEq,and_true]at h1;obtain⟨rfl,rfl,rfl⟩:=h1;simp only[if_true]at hz;subst hz
  have hsp:a.spot=none:=by
   unfold Value.okWide at hval;rw[ht]at hval;simp only[Cell.okWide,ht,Cell.ok]at hval;exact hval.2.2.2.1
  obtain⟨ab,ao,aas⟩:=a;simp only at hsp;subst hsp
  have each:∀i,i<len0->∃q:St4v×List Value,okQ4 q.1/\q.2.length=n4/\(∀j,j<n4->W.cell? ⟨ab,ao+i *n4+j,none⟩=some (q.2.getD j undef)/\(q.2.getD j undef).oneCell'=true/\Rel (mL W) W eD ((encA q.1).getD j .any) (q.2.getD j undef)):=by
   intro i hi;obtain⟨cs',g1,g2⟩:=hcell i (by omega);rw[ce]at g1;obtain⟨_,hlen,hc⟩:=World.cells?_some g1;obtain⟨hl,hfv⟩:=cells_u8 he hn ce hf g2;obtain⟨a,hok,ha⟩:=mkQ4 h4 henc cs' hfv;refine⟨(a,cs'),hok,hl,fun j hj=>⟨?_,fldU_one (hfv j hj),ha j hj⟩⟩;have:=hc j hj;rw[add_plain,add_plain]at this;rw[this,aaT (by omega)];simp[aaC,hl,hj]
  obtain⟨q,hq⟩:=choose_lt each;have hlen:((List.range len0).map fun i=>(q i).1).length=len0:=by simp
  have hget:∀i,i<len0->((List.range len0).map fun i=>(q i).1).getD i dA=(q i).1:=fun i hi=>by
   simp[aaC,hi]
  have hmm:maxLen=9223372036854775807:=rfl;refine⟨(List.range len0).map fun i=>(q i).1, ?_, ?_,by omega⟩
  ·rw[hlen];refine .arr _ _ _ _ ab ao m (fun i j=>(q i).2.getD j undef) hlc (by omega) (fun hn hs=> ?_) (fun i j hi hj=>((hq i hi).2.2 j hj).1) (fun i j hi hj=>((hq i hi).2.2 j hj).2.1) (fun i j hi hj=> ?_)
   ·exact lT ((hq 0 hn).2.2 0 hs).1
   ·show Rel _ _ _ ((encA (((List.range len0).map fun i=>(q i).1).getD i dA)).getD j .any) _;rw[hget i hi];exact((hq i hi).2.2 j hj).2.2
  ·intro a ha;obtain⟨i,hi,rfl⟩:=adO.1 ha;exact(hq i (aeB.1 hi)).1
end
end Go.Abs
namespace Go.Abs
theorem f6_true (x1:List St4) (ok:∀a,a∈x1->okQ4 a) (n:x1.length<=9223372036854775807):f6 x1=some true:=by
 obtain⟨l,g1,g2,g3⟩:=f12_ok2 x1 (fun q hq=>ok q hq) n;unfold f6
 rw [g1, aC, f5_true l (fun p hp=>by
  have h:=g3 p hp;exact⟨h.1,h.2.1,h.2.2.1,h.2.2.2.1,h.2.2.2.2.1,by have:=h.2.2.2.2.2.1;omega,by have:=h.2.2.2.2.2.2;omega⟩) (by omega),aC]
end Go.Abs
