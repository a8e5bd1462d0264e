/- Part 31 of the proof: Open5, Open2, Open12, Open15. -/
import Derived.Test.YtfkhgbcggabkjaaGreatDoorMonrepZ30
import Derived.Stop.LaidErr
import Derived.Deep.SlicePairs
import Derived.Lib.LaidTab
namespace Go.Abs
open Go Go.RowKit Go.ChangeShapes Go.WideShapes Go.ChangeAt Go.Deep
section
variable {H:Type} {enc:TypeId×Value->H} {P:Program} {W:World} {t e:TypeId} {base:Nat} {v:Value} {d:DataW H} {ps:List MemPlace}
end
theorem aA7 {P:Program} {W:World} {name:String} {g:Nat} {tp:TypeId} {x:Value} (hg:P.globalNamed name=some g) (h:W.var? P name=some #[.iface tp x]):Rel (fI W) W dS bT (.pointer (some ⟨g,0,none⟩)):=by
 have hc:W.cell? ⟨g,0,none⟩=some (.iface tp x):=by
  have:=World.var?_cell hg h 0;simpa using this
 unfold bT;have hs:fI W g:=dR hc
 have := Rel.elem (St := fI W) (w := W) dS 1 1 (fun _ _ => V.ifc true) 0 0 g 0 (fun _ _ => .iface tp x) (by omega) (fun _ => hs) (fun i j hi hj=>by
  obtain rfl:i=0:=by omega
  obtain rfl:j=0:=by omega
  exact hc) (fun _ _ _ _=>rfl) (fun _ _ _ _=> .ifc _ _ _ ⟨_,_,rfl⟩)
 exact this
end Go.Abs
namespace Go.Abs
open Go Go.RowKit Go.ChangeShapes Go.WideShapes Go.ChangeAt Go.Deep
def encP (x:Tq3):List V:=[.b16 x.1,.b16 x.2]
theorem rel_pairs {W:World} {b o cap:Nat} {l:List Tq3} (hcap:l.length<=cap) (hm:cap<=maxLen)
  (hc:∀j,j<l.length->W.cell? ⟨b,o+j *2,none⟩=some (.int .u16 ((l.getD j default).1.toNat:Int))/\W.cell? ⟨b,o+(j *2+1),none⟩=some (.int .u16 ((l.getD j default).2.toNat:Int))):
  Rel (fI W) W dS (.arr 2 l.length (bY encP default l)) (.slice (some ⟨b,o,none⟩) l.length cap):=by
 refine .arr _ 2 _ _ b o cap (fun i j=>if j=0 then .int .u16 ((l.getD i default).1.toNat:Int)else .int .u16 ((l.getD i default).2.toNat:Int)) hcap (aeF hcap hm) (fun hn _=>dR (hc 0 hn).1) (fun i j hi hj=> ?_) (fun i j _ _=> ?_) (fun i j hi hj=> ?_)
 ·match j,hj with
  |0,_=>simpa using(hc i hi).1
  |1,_=>simpa[adY]using(hc i hi).2
 ·match j with
  |0=>rfl
  |j+1=>rfl
 ·match j,hj with
  |0,_=>exact .b16 _ _
  |1,_=>exact .b16 _ _
section
variable {H:Type} {enc:TypeId×Value->H} {P:Program} {W:World} {t e:TypeId} {base:Nat} {v:Value} {d:DataW H} {ps:List MemPlace}
end
end Go.Abs
namespace Go.Abs
open Go Go.RowKit Go.ChangeShapes Go.WideShapes Go.ChangeAt Go.Deep
section
variable {H:Type} {enc:TypeId×Value->H} {P:Program} {W:World} {t e:TypeId} {base:Nat} {v:Value} {d:DataW H} {ps:List MemPlace}
theorem nQ {a:Addr} {x:Value} (h:W.cell? a=some x):a.spot=none:=by
 unfold World.cell? at h;split at h
 ·split at h
  ·cases h
  ·rename_i hs
   cases hq:a.spot with
   |none=>rfl
   |some k=>rw[hq]at hs;simp at hs
 ·cases h
theorem qV {fuel:Nat} {cs:List Value} {y:DataW H×List MemPlace} (ht:P.underlying t=some (.slice e)) (he:P.underlying e=some (.int .u16)) (hc:P.cellsOf e=1)
  (hf:DataW.trod enc P W 0 (fun _=>true) true fuel t cs=some y):
  ∃(l:aaB) (v:Value),cs=[v]/\v.oneCell'=true/\Rel (fI W) W dS (.arr 1 l.length (bY (fun x=>[.b16 x]) 0#16 l)) v:=by
 rcases open_ints ht he hc hf with⟨h1,h2⟩|⟨a,len,cap,zs,h1,hb,hlc,hm,hz,hx,hcell,hwf⟩
 ·exact⟨[],_,h1,rfl,.arr0 _ _ _⟩
 ·simp only[if_true]at hz;by_cases h0:cap=0
  ·subst h0;obtain rfl:len=0:=by omega
   exact⟨[],_,h1,rfl,.arrE _ _ _ _⟩
  have hsp:a.spot=none:=by
   have:=hcell 0 (by omega);exact nQ (show W.cell? a=some _ from this)
  obtain⟨ab,ao,aas⟩:=a;simp only at hsp;subst hsp;have hlen:((zs.take len).map (BitVec.ofInt 16)).length=len:=by simp;omega
  refine⟨(zs.take len).map (BitVec.ofInt 16),_,h1,rfl, ?_⟩
  have := rel_sets (W := W) (b := ab) (o := ao) (cap := cap) (l := (zs.take len).map (BitVec.ofInt 16)) (by omega) hm (fun j hj=>by
   have hj':j<len:=by omega
   have h1:=hcell j (by omega);rw[add_plain]at h1;rw[h1]
   have hz1:zs.getD j 0∈zs:=by
    rw[aaC,aaO (by omega)];exact acU _
   have e1:((zs.take len).map (BitVec.ofInt 16)).getD j 0#16=BitVec.ofInt 16 (zs.getD j 0):=by
    have:j<zs.length:=by omega
    simp[aaC,hj',this]
   rw[e1,ofInt_u16 (hwf _ hz1)])
  rw[hlen]at this;rw[hlen];exact this
theorem aAi {f0 f1:Field} {fuel:Nat} {cs:List Value} {y:DataW H×List MemPlace} (ht:P.underlying t=some (.slice e)) (he:P.underlying e=some (.struct #[f0,f1])) (ce:P.cellsOf e=2) (o0:f0.offset=0) (o1:f1.offset=1) (c0:P.cellsOf f0.type=1) (c1:P.cellsOf f1.type=1)
  (t0:P.underlying f0.type=some (.int .u16)) (t1:P.underlying f1.type=some (.int .u16))
  (hf:DataW.trod enc P W 0 (fun _=>true) true fuel t cs=some y):
  ∃(l:List Tq3) (v:Value),cs=[v]/\v.oneCell'=true/\Rel (fI W) W dS (.arr 2 l.length (bY encP default l)) v:=by
 rcases open_slice_pairs ht he ce o0 o1 c0 c1 hf with⟨h1,h2⟩|⟨a,len,cap,m,n,V0,V1,D0,D1,P0,P1,h1,hb,hlc,hm,hz,hx,hcell⟩
 ·exact⟨[],_,h1,rfl,.arr0 _ _ _⟩
 ·simp only[if_true]at hz;subst hz;by_cases h0:m=0
  ·subst h0;obtain rfl:len=0:=by omega
   exact⟨[],_,h1,rfl,.arrE _ _ _ _⟩
  have hsp:a.spot=none:=by
   have:=(hcell 0 (by omega)).1;exact nQ (show W.cell? a=some _ from this)
  obtain⟨ab,ao,aas⟩:=a;simp only at hsp;subst hsp
  have each:∀i,∃q:Tq3,i<len->W.cell? ⟨ab,ao+i *2,none⟩=some (.int .u16 (q.1.toNat:Int))/\W.cell? ⟨ab,ao+(i *2+1),none⟩=some (.int .u16 (q.2.toNat:Int)):=by
   intro i;by_cases hi:i<len
   ·obtain⟨g1,g2,g3,g4⟩:=hcell i (by omega);obtain⟨n0,e0,_,w0⟩:=DataW.trod_int t0 g3;obtain⟨n1,e1,_,w1⟩:=DataW.trod_int t1 g4;simp only[List.cons.injEq,and_true]at e0 e1;rw[e0,add_plain]at g1;rw[e1,add_plain]at g2;refine⟨(BitVec.ofInt 16 n0,BitVec.ofInt 16 n1),fun _=> ?_⟩;rw[g1,g2,ofInt_u16 w0,ofInt_u16 w1];exact⟨rfl,rfl⟩
   ·exact⟨default,fun h=>absurd h hi⟩
  have hlen:((List.range len).map fun i=>Classical.choose (each i)).length=len:=by simp
  refine⟨(List.range len).map fun i=>Classical.choose (each i),_,h1,rfl, ?_⟩
  have := rel_pairs (W := W) (b := ab) (o := ao) (cap := m) (l := (List.range len).map fun i => Classical.choose (each i)) (by omega) hm (fun j hj=>by
   have hj':j<len:=by omega
   have e1:((List.range len).map fun i=>Classical.choose (each i)).getD j default=Classical.choose (each j):=by
    simp[aaC,hj']
   rw[e1];exact Classical.choose_spec (each j) hj')
  rw[hlen]at this;rw[hlen];exact this
theorem uQ {fuel:Nat} {cs:List Value} {y:DataW H×List MemPlace} (ht:P.underlying t=some (.int .u8)) (hf:DataW.trod enc P W 0 (fun _=>true) true fuel t cs=some y):∃n:Int,cs=[.int .u8 n]/\0<=n/\n<=255:=by
 obtain⟨n,e,_,hw⟩:=DataW.trod_int ht hf;refine⟨n,e, ?_⟩;simp[Lit.wf,IntKind.min,IntKind.max,IntKind.signed,IntKind.bits]at hw;omega
abbrev Drt :=Int×Int×Int×aaB×aaB×cU
def encDr (a:Drt):List V:=[.int .u8 a.1,.int .u8 a.2.1,.int .u8 a.2.2.1,.arr 1 a.2.2.2.1.length (bY (fun x=>[.b16 x]) 0#16 a.2.2.2.1),.arr 1 a.2.2.2.2.1.length (bY (fun x=>[.b16 x]) 0#16 a.2.2.2.2.1),.arr 2 a.2.2.2.2.2.length (bY encP default a.2.2.2.2.2)]
def okDrt (a:Drt):Prop:=(0<=a.1/\a.1<=255)/\(0<=a.2.1/\a.2.1<=255)/\(0<=a.2.2.1/\a.2.2.1<=255)
theorem aAP {f0 f1 f2 f3 f4 f5:Field} {ew ep:TypeId} {p0 p1:Field} {fuel:Nat} {cs:List Value} {y:DataW H×List MemPlace}
  (he:P.underlying e=some (.struct #[f0,f1,f2,f3,f4,f5])) (ce:P.cellsOf e=6)
  (ho:f0.offset=0/\f1.offset=1/\f2.offset=2/\f3.offset=3/\f4.offset=4/\f5.offset=5)
  (hc:P.cellsOf f0.type=1/\P.cellsOf f1.type=1/\P.cellsOf f2.type=1/\P.cellsOf f3.type=1/\P.cellsOf f4.type=1/\P.cellsOf f5.type=1)
  (h0:P.underlying f0.type=some (.int .u8)) (h1:P.underlying f1.type=some (.int .u8)) (h2:P.underlying f2.type=some (.int .u8)) (h3:P.underlying f3.type=some (.slice ew)) (h4:P.underlying f4.type=some (.slice ew)) (h5:P.underlying f5.type=some (.slice ep))
  (hw:P.underlying ew=some (.int .u16)) (cw:P.cellsOf ew=1) (hp:P.underlying ep=some (.struct #[p0,p1])) (cp:P.cellsOf ep=2) (o0:p0.offset=0) (o1:p1.offset=1) (c0:P.cellsOf p0.type=1) (c1:P.cellsOf p1.type=1)
  (t0:P.underlying p0.type=some (.int .u16)) (t1:P.underlying p1.type=some (.int .u16))
  (h:DataW.trod enc P W 0 (fun _=>true) true fuel e cs=some y):
  cs.length=6/\∃a:Drt,okDrt a/\∀i,i<6->(cs.getD i undef).oneCell'=true/\Rel (fI W) W dS ((encDr a).getD i .any) (cs.getD i undef):=by
 obtain⟨xs,n,_,_,hl,hxl,hx⟩:=DataW.trod_struct he h;rw[ce]at hl
 have one:∀i,i<6->(cs.drop i).take 1=[cs.getD i undef]:=fun i hi=>by
  rw[afJ (by omega),afL,ahF];simp[aaC,hl,hi]
 have hx6:xs.length=6:=hxl
 have g:∀(i:Nat) (f:Field) (hi:i<6),(#[f0,f1,f2,f3,f4,f5]:Array Field)[i]? =some f->f.offset=i->P.cellsOf f.type=1->DataW.trod enc P W 0 (fun _=>true) true n f.type [cs.getD i undef]=some (xs[i]'(by omega)):=fun i f hi hff ho hc=>by
  have:=hx i f hff;rw[ho,hc,one i hi,aaO (by omega)]at this;exact this
 obtain⟨n0,e0,b0⟩:=uQ h0 (g 0 f0 (by omega) rfl ho.1 hc.1);obtain⟨n1,e1,b1⟩:=uQ h1 (g 1 f1 (by omega) rfl ho.2.1 hc.2.1);obtain⟨n2,e2,b2⟩:=uQ h2 (g 2 f2 (by omega) rfl ho.2.2.1 hc.2.2.1);obtain⟨l3,v3,e3,q3,r3⟩:=qV h3 hw cw (g 3 f3 (by omega) rfl ho.2.2.2.1 hc.2.2.2.1);obtain⟨l4,v4,e4,q4,r4⟩:=qV h4 hw cw (g 4 f4 (by omega) rfl ho.2.2.2.2.1 hc.2.2.2.2.1);obtain⟨l5,v5,e5,q5,r5⟩:=aAi h5 hp cp o0 o1 c0 c1 t0 t1 (g 5 f5 (by omega) rfl ho.2.2.2.2.2 hc.2.2.2.2.2);simp only[List.cons.injEq,and_true]at e0 e1 e2 e3 e4 e5;refine⟨hl,(n0,n1,n2,l3,l4,l5),⟨b0,b1,b2⟩,fun i hi=> ?_⟩
 match i,hi with
 |0,_=>rw[e0];exact⟨rfl,.int _ _ _⟩
 |1,_=>rw[e1];exact⟨rfl,.int _ _ _⟩
 |2,_=>rw[e2];exact⟨rfl,.int _ _ _⟩
 |3,_=>rw[e3];exact⟨q3,r3⟩
 |4,_=>rw[e4];exact⟨q4,r4⟩
 |5,_=>rw[e5];exact⟨q5,r5⟩
theorem aAf {f0 f1 f2 f3 f4 f5:Field} {ew ep:TypeId} {p0 p1:Field} (ht:P.underlying t=some (.slice e))
  (he:P.underlying e=some (.struct #[f0,f1,f2,f3,f4,f5])) (ce:P.cellsOf e=6)
  (ho:f0.offset=0/\f1.offset=1/\f2.offset=2/\f3.offset=3/\f4.offset=4/\f5.offset=5)
  (hc:P.cellsOf f0.type=1/\P.cellsOf f1.type=1/\P.cellsOf f2.type=1/\P.cellsOf f3.type=1/\P.cellsOf f4.type=1/\P.cellsOf f5.type=1)
  (h0:P.underlying f0.type=some (.int .u8)) (h1:P.underlying f1.type=some (.int .u8)) (h2:P.underlying f2.type=some (.int .u8)) (h3:P.underlying f3.type=some (.slice ew)) (h4:P.underlying f4.type=some (.slice ew)) (h5:P.underlying f5.type=some (.slice ep))
  (hw:P.underlying ew=some (.int .u16)) (cw:P.cellsOf ew=1) (hp:P.underlying ep=some (.struct #[p0,p1])) (cp:P.cellsOf ep=2) (o0:p0.offset=0) (o1:p1.offset=1) (c0:P.cellsOf p0.type=1) (c1:P.cellsOf p1.type=1)
  (t0:P.underlying p0.type=some (.int .u16)) (t1:P.underlying p1.type=some (.int .u16))
  (hval:Value.okWide P W .any base t v) (h:DataW.Trod enc P W 0 (fun _=>true) true t v d ps):
  ∃l:List Drt,Rel (fI W) W dS (.arr 6 l.length (bY encDr default l)) v/\(∀a,a∈l->okDrt a)/\l.length<=9223372036854775807:=by
 obtain⟨fuel,hf'⟩:=h;obtain⟨a0,len0,cap0,rfl⟩:=okWide_slice ht hval;simp only[Value.cells]at hf';rcases open_slice ht hf' with⟨q1,q2⟩|⟨a,len,cap,m,n,D,Pl,q1,hb,hlc,hm,hz,hx,hcell⟩
 ·simp only[List.cons.injEq,Value.slice.injEq,and_true]at q1;obtain⟨rfl,rfl,rfl⟩:=q1;exact⟨[],.arr0 _ _ _,by simp,by simp⟩
 ·simp only[List.cons.injEq,Value.slice.injEq,and_true]at q1;obtain⟨rfl,rfl,rfl⟩:=q1;simp only[if_true]at hz;subst hz
  have hsp:a.spot=none:=by
   unfold Value.okWide at hval;rw[ht]at hval;simp only[Cell.okWide,ht,Cell.ok]at hval;exact hval.2.2.2.1
  obtain⟨ab,ao,aas⟩:=a;simp only at hsp;subst hsp
  have each:∀i,i<len0->∃q:Drt×List Value,okDrt q.1/\q.2.length=6/\(∀j,j<6->W.cell? ⟨ab,ao+i *6+j,none⟩=some (q.2.getD j undef)/\(q.2.getD j undef).oneCell'=true/\Rel (fI W) W dS ((encDr q.1).getD j .any) (q.2.getD j undef)):=by
   intro i hi;obtain⟨cs',g1,g2⟩:=hcell i (by omega);rw[ce]at g1;obtain⟨_,hlen,hcc⟩:=World.cells?_some g1;obtain⟨hl,a,hok,ha⟩:=aAP he ce ho hc h0 h1 h2 h3 h4 h5 hw cw hp cp o0 o1 c0 c1 t0 t1 g2;refine⟨(a,cs'),hok,hl,fun j hj=>⟨?_,(ha j hj).1,(ha j hj).2⟩⟩;have:=hcc j hj;rw[add_plain,add_plain]at this;rw[this,aaO (by omega)];simp[aaC,hl,hj]
  obtain⟨q,hq⟩:=choose_lt each;have hlen:((List.range len0).map fun i=>(q i).1).length=len0:=by simp
  have hget:∀i,i<len0->((List.range len0).map fun i=>(q i).1).getD i default=(q i).1:=fun i hi=>by
   simp[aaC,hi]
  have hmm:maxLen=9223372036854775807:=rfl;refine⟨(List.range len0).map fun i=>(q i).1, ?_, ?_,by omega⟩
  ·rw[hlen];refine .arr _ _ _ _ ab ao m (fun i j=>(q i).2.getD j undef) hlc (by omega) (fun hn hs=> ?_) (fun i j hi hj=>((hq i hi).2.2 j hj).1) (fun i j hi hj=>((hq i hi).2.2 j hj).2.1) (fun i j hi hj=> ?_)
   ·exact dR ((hq 0 hn).2.2 0 hs).1
   ·show Rel _ _ _ ((encDr (((List.range len0).map fun i=>(q i).1).getD i default)).getD j .any) _;rw[hget i hi];exact((hq i hi).2.2 j hj).2.2
  ·intro a ha;obtain⟨i,hi,rfl⟩:=adL.1 ha;exact(hq i (adN.1 hi)).1
theorem aCo {k0 k1 k2 k3:Field} {tu tl:TypeId} {f0 f1 f2 f3 f4 f5:Field} {ew ep:TypeId} {p0 p1:Field} (ht:P.underlying t=some (.struct #[k0,k1,k2,k3]))
  (hk:(k0.offset=0/\k0.type=tu)/\(k1.offset=1/\k1.type=tu)/\(k2.offset=2/\k2.type=tu)/\(k3.offset=3/\k3.type=tl)) (hct:P.cellsOf t=4) (hcts:P.cellTypes P.depth t=some [tu,tu,tu,tl]) (hu:P.underlying tu=some (.int .u8)) (hl:P.underlying tl=some (.slice e)) (hcl:P.cellsOf tl=1)
  (he:P.underlying e=some (.struct #[f0,f1,f2,f3,f4,f5])) (ce:P.cellsOf e=6)
  (ho:f0.offset=0/\f1.offset=1/\f2.offset=2/\f3.offset=3/\f4.offset=4/\f5.offset=5)
  (hc:P.cellsOf f0.type=1/\P.cellsOf f1.type=1/\P.cellsOf f2.type=1/\P.cellsOf f3.type=1/\P.cellsOf f4.type=1/\P.cellsOf f5.type=1)
  (h0:P.underlying f0.type=some (.int .u8)) (h1:P.underlying f1.type=some (.int .u8)) (h2:P.underlying f2.type=some (.int .u8)) (h3:P.underlying f3.type=some (.slice ew)) (h4:P.underlying f4.type=some (.slice ew)) (h5:P.underlying f5.type=some (.slice ep))
  (hw:P.underlying ew=some (.int .u16)) (cw:P.cellsOf ew=1) (hp:P.underlying ep=some (.struct #[p0,p1])) (cp:P.cellsOf ep=2) (o0:p0.offset=0) (o1:p1.offset=1) (c0:P.cellsOf p0.type=1) (c1:P.cellsOf p1.type=1)
  (t0:P.underlying p0.type=some (.int .u16)) (t1:P.underlying p1.type=some (.int .u16))
  (hval:Value.okWide P W .any base t v) (h:DataW.Trod enc P W 0 (fun _=>true) true t v d ps):
  ∃(n0 n1 n2:Int) (l:List Drt),Rel (fI W) W dS (.agg [.int .u8 n0,.int .u8 n1,.int .u8 n2,.arr 6 l.length (bY encDr default l)]) v/\(0<=n0/\n0<=255)/\(0<=n1/\n1<=255)/\(0<=n2/\n2<=255)/\(∀a,a∈l->okDrt a):=by
 unfold Value.okWide at hval;rw[ht]at hval;obtain⟨cs,rfl,hsz,ts',hts',_,hcell⟩:=hval;rw[hcts]at hts';cases hts';rw[hct]at hsz;obtain⟨fuel,hf⟩:=h;obtain⟨xs,n,rfl,hx,hlen,hxl,hfld⟩:=DataW.trod_struct ht hf;have hv:∀i,i<4->cs[i]? =some (cs.getD i undef):=fun i hi=>by simp[hsz,hi]
 have hwv:∀i tt,i<4->([tu,tu,tu,tl]:List TypeId)[i]? =some tt->(∀fs,P.underlying tt≠some (.struct fs))->(∀q w,P.underlying tt≠some (.array q w))->Cell.okWide P W .any base tt (cs.getD i undef):=fun i tt hi htt _ _=>by
  obtain⟨u,hu1,hk1⟩:=hcell i _ (hv i hi);rw[show i%([tu,tu,tu,tl]:List TypeId).length=i from aeO hi,htt]at hu1;cases hu1;exact hk1
 have w0:Value.okWide P W .any base tu (cs.getD 0 undef):=by
  have:=hwv 0 tu (by omega) rfl (by rw[hu];intro _ q;cases q) (by rw[hu];intro _ _ q;cases q);unfold Value.okWide;rw[hu];exact this
 have w1:Value.okWide P W .any base tu (cs.getD 1 undef):=by
  have:=hwv 1 tu (by omega) rfl (by rw[hu];intro _ q;cases q) (by rw[hu];intro _ _ q;cases q);unfold Value.okWide;rw[hu];exact this
 have w2:Value.okWide P W .any base tu (cs.getD 2 undef):=by
  have:=hwv 2 tu (by omega) rfl (by rw[hu];intro _ q;cases q) (by rw[hu];intro _ _ q;cases q);unfold Value.okWide;rw[hu];exact this
 have w3:Value.okWide P W .any base tl (cs.getD 3 undef):=by
  have:=hwv 3 tl (by omega) rfl (by rw[hl];intro _ q;cases q) (by rw[hl];intro _ _ q;cases q);unfold Value.okWide;rw[hl];exact this
 obtain⟨n0,m0,b0,c0'⟩:=aAe hu w0;obtain⟨n1,m1,b1,c1'⟩:=aAe hu w1;obtain⟨n2,m2,b2,c2'⟩:=aAe hu w2;obtain⟨a0,len0,cap0,hs1⟩:=okWide_slice hl w3;have hf3:=hfld 3 k3 rfl;rw[hk.2.2.2.1,hk.2.2.2.2,hcl]at hf3
 have hcsl:cs.toList=[cs.getD 0 undef,cs.getD 1 undef,cs.getD 2 undef,cs.getD 3 undef]:=by
  apply List.ext_getElem?;intro i
  match i with
  |0=>rw[adK];exact hv 0 (by omega)
  |1=>rw[adK];exact hv 1 (by omega)
  |2=>rw[adK];exact hv 2 (by omega)
  |3=>rw[adK];exact hv 3 (by omega)
  |i+4=>rw[adK,adQ (by omega)];rfl
 have hclist:(Value.agg cs).cells.toList=cs.toList:=rfl;rw[hclist,hcsl]at hf3;simp only[aeW,abY,afL,ahF]at hf3;have hx4:xs.length=4:=hxl;rw[aaO (by omega)]at hf3
 have hT:DataW.Trod enc P W 0 (fun _=>true) true tl (cs.getD 3 undef) (xs[3]'(by omega)).1 (xs[3]'(by omega)).2:=by
  refine⟨n, ?_⟩;rw[hs1]at hf3⊢;exact hf3
 obtain⟨l,hrel,hok,_⟩:=aAf hl he ce ho hc h0 h1 h2 h3 h4 h5 hw cw hp cp o0 o1 c0 c1 t0 t1 w3 hT;refine⟨n0,n1,n2,l,.agg _ _ _ (by simp[hsz]) fun i hi=> ?_,⟨b0,c0'⟩,⟨b1,c1'⟩,⟨b2,c2'⟩,hok⟩;have hi':i<4:=hi
 match i,hi' with
 |0,_=>
  show Rel _ _ _ (.int .u8 n0) (cs.getD 0 undef)
  rw[m0];exact .int _ _ _
 |1,_=>
  show Rel _ _ _ (.int .u8 n1) (cs.getD 1 undef)
  rw[m1];exact .int _ _ _
 |2,_=>
  show Rel _ _ _ (.int .u8 n2) (cs.getD 2 undef)
  rw[m2];exact .int _ _ _
 |3,_=>exact hrel
end
end Go.Abs
namespace Go.Abs
open Go Go.Lib
def zW {H:Type} (ls:List Ty0):DataW H:= .agg (ls.map fun s=> .lit (.string s))
def aB3 (P:Program) (w:World) (name:String) (ls:List Ty0):Prop:=w.var? P name=some (ls.map fun s=>Value.string ⟨s.toArray⟩).toArray
theorem vQ {H:Type} {enc:TypeId×Value->H} {P:Program} {w:World} {base:Nat} {sp:Nat->Bool} {held:Bool} {fuel:Nat} {t e:TypeId} {n:Nat} {cs:List Value} {ls:List Ty0} {p:List MemPlace}
  (ht:P.underlying t=some (.array n e)) (he:P.underlying e=some .string) (hce:P.cellsOf e=1) (hct:P.cellsOf t=n)
  (h:DataW.trod enc P w base sp held fuel t cs=some (zW ls,p)):cs=ls.map fun s=>Value.string ⟨s.toArray⟩:=by
 cases fuel with
 |zero=>simp[DataW.trod]at h
 |succ fuel=>
  simp only[DataW.trod,ht,hce,hct,ahD]at h;split at h
  ·rename_i hl;obtain⟨xs,hm,hx⟩:=aaQ.1 h
   have hxs:xs.map (·.1)=ls.map fun s=>(DataW.lit (.string s):DataW H):=by
    have:=congrArg Prod.fst hx;simpa[zW]using this
   have hxl:xs.length=n:=by simpa using mapM_length hm
   have hzl:ls.length=n:=by
    have:=congrArg List.length hxs;simp at this;omega
   apply List.ext_getElem?;intro i;by_cases hi:i<n
   ·obtain⟨b,hb,hf⟩:=mapM_at hm i i (by simp[hi]);obtain⟨s,hc,rfl,_⟩:=DataW.trod_string he hf
    have h1:cs[i]? =some (.string s):=by
     have:=congrArg (·[0]?) hc;simpa[acL,acC]using this
    have h2:(xs.map (·.1))[i]? =some (DataW.lit (.string s.data.toList):DataW H):=by simp[hb]
    rw[hxs]at h2;simp only[afD,aaQ,DataW.lit.injEq,Lit.string.injEq]at h2;obtain⟨s',hs',e'⟩:=h2;simp[h1,hs',e']
   ·rw[adT (by omega),adT (by simp;omega)]
  ·cases h
theorem wD {P:Program} {W:World} {name:String} {ls:List Ty0} {rest:List (String×DataW Unit)} {g:Nat} {t e:TypeId} {n:Nat}
  (hg:P.globalNamed name=some g) (hty:(P.globals[g]?).map (·.type)=some t) (ht:P.underlying t=some (.array n e)) (he:P.underlying e=some .string) (hce:P.cellsOf e=1) (hct:P.cellsOf t=n)
  (h:laidMet P ((name,zW ls)::rest) W):aB3 P W name ls:=by
 obtain⟨ps,⟨g',t',cs,fuel,p,q,hg',ht',hvar,hd,_,_⟩,_⟩:=h;obtain rfl:=aaD (hg.symm.trans hg');obtain rfl:=aaD (hty.symm.trans ht');unfold aB3;rw[hvar,<-vQ ht he hce hct hd]
theorem rel_strs {P:Program} {W:World} {name:String} {ls:List Ty0} {g:Nat} {f:Nat->Nat->V} (hf:∀i c,f i c= .str (ls.getD c [])) (h0:0<ls.length) (h:aB3 P W name ls) (hg:P.globalNamed name=some g):
  Rel (fI W) W dS (.elem ls.length 1 f 0 0) (.pointer (some ⟨g,0,none⟩)):=by
 have hc:∀j,j<ls.length->W.cell? ⟨g,j,none⟩=some (.string ⟨(ls.getD j []).toArray⟩):=fun j hj=>by
  have:=World.var?_cell hg h j;simpa[List.getD,hj]using this
 have := Rel.elem (St := fI W) (w := W) dS ls.length 1 f 0 0 g 0 (fun _ c => .string ⟨(ls.getD c []).toArray⟩) (by decide) (fun _ => dR (hc 0 h0)) (fun i j hi hj=>by
  obtain rfl:i=0:=by omega
  simpa using hc j hj) (fun _ _ _ _ => rfl) (fun i j hi _=>by
  rw[hf];exact .str _ _ _ (by simp))
 simpa using this
end Go.Abs
