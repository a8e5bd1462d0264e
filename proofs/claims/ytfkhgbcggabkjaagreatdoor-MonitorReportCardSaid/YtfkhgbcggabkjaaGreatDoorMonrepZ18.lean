/- Part 18 of the proof: InsW. -/
import Derived.Test.YtfkhgbcggabkjaaGreatDoorMonrepZ17
import Derived.Lib.JoinLaws
import Derived.Lib.SliceRun
import Derived.Laws.Externs
import Derived.Laws.IdiomCopy
import Derived.Laws.NewBlocks
namespace Go.Abs
open Go Go.RowKit Go.Lib
abbrev acQ:=@List.mem_of_mem_drop
abbrev aeB:=@List.append_nil
abbrev afW:=@List.take_append_of_le_length
abbrev afX:=@List.mem_of_mem_take
abbrev agN:=@List.take_take
abbrev ahE:=@Nat.one_mul
theorem cL {P:Program} (w:World) (dT sT ty elem:TypeId) (size b o dLen dCap:Nat) (a:Addr) (sLen sCap:Nat) (cs:List Value)
  (hu:P.underlying dT=some (.slice elem)) (hs:(P.info? elem).map (·.size)=some size) (hn:cs.length=Nat.min sLen dLen *size)
  (hsrc:∀j v,cs[j]? =some v->w.cell? (a.add j)=some v) (hc:∀j,j<cs.length->(w.cell? ⟨b,o+j,none⟩).isSome=true) (hf:∀j,j<cs.length->w.frozen? ⟨b,o+j,none⟩=false) (h1:∀v∈cs,v.oneCell'=true):
  (Builtin.copy_ #[dT,sT] ty #[.slice (some ⟨b,o,none⟩) dLen dCap,.slice (some a) sLen sCap]).run P w= .ok (goInt (Nat.min sLen dLen)) (w.setCells b o cs):=by
 have hl:=run_loadCells_list (P:=P) w a cs hsrc;have hst:=run_storeCells_cells (P:=P) b o cs 0 w (by simpa using hc) (by simpa using hf) h1
 cases hq:P.info? elem with
 |none=>simp[hq]at hs
 |some i=>
  have hi:i.size=size:=by simpa[hq]using hs
  simp[Builtin.copy_,run_underlying hu,Builtin.lenOf,Builtin.firstCells,sizeOf,typeInfo,hq,hi,<-hn,hl,hst]
theorem kX {P:Program} (w:World) {ops:Array Oper} {rest:List Oper} {o:Oper} {a:Act} {Q:Exit->Act->World->Prop} (hgd:o.guard=none) (d s:Operand) (t t':TypeId)
  (ho:o.op= .call {callee:= .builtin .copy,args:= #[d,s],argTypes:= #[t,t']}) (v u:Value) (hd:a.eval d=v) (hs:a.eval s=u) {v':Value} {w':World}
  (hr:(Builtin.copy_ #[t,t'] o.type #[v,u]).run P w= .ok v' w') (h:wpList P ops Q rest (a.put o.dst v') w'):wpList P ops Q (o::rest) a w:=
 wpList_plain hgd fun _ hK=>by
  unfold Oper.wp execOp
  simp only[ho,resolve,invoke,builtin,abI,abO,aaP,afT,abS,ahA,hd,hs,hr]
  exact hK _ _ h
theorem mW {P:Program} {ops:Array Oper} {o:Oper} {a:Act} {w:World} {K:Act->World->Prop} {Q:Exit->Act->World->Prop} {E:Prop}
  (hg:o.guard=none) (d x:Operand) (dT sT:TypeId) (hop:o.op=Op.call {callee:=Callee.builtin Builtin.copy,args:= #[d,x],argTypes:= #[dT,sT]})
  (v u:Value) (hd:a.eval d=v) (hx:a.eval x=u) {v':Value} {w':World} (hr:(Builtin.copy_ #[dT,sT] o.type #[v,u]).run P w= .ok v' w') (hK:K (a.put o.dst v') w'):
  if Region.wanted o (yielded ops a.tmps)=true then Oper.wp P o a w K Q else E:=by
 have hw:Region.wanted o (yielded ops a.tmps)=true:=by simp[Region.wanted,hg]
 rw[if_pos hw]
 unfold Oper.wp
 simp[execOp,hop,resolve,invoke,builtin,hd,hx,hr,Result.andThen]
 exact hK
theorem fS (b:Nat) (vs:List Value) (o:Nat) (w:World) (h:∀j,j<vs.length->(w.cell? ⟨b,o+j,none⟩).isSome=true) (k:Nat) (hk:(w.cell? ⟨b,k,none⟩).isSome=true):((w.setCells b o vs).cell? ⟨b,k,none⟩).isSome=true:=by
 by_cases hin:o<=k/\k<o+vs.length
 ·have:=World.cell?_setCells_in b vs o w h (k-o) (by omega);rw[show o+(k-o)=k by omega]at this;rw[this];rfl
 ·rw[World.cell?_setCells_out b vs o w ⟨b,k,none⟩ (fun _ _=>by show k<o\/o+vs.length<=k;omega)];exact hk
theorem dM (b:Nat) (t:TypeId):∀(vs:List Value) (o:Nat) (cur:Array Value) (w:World),w.heap[b]? =some (.cells cur t (0,0))->o+vs.length<=cur.size->
  w.setCells b o vs=w.setRow b (cur.toList.take o++vs++cur.toList.drop (o+vs.length)).toArray
 |[],o,cur,w,hg,_=>by
  simp only[World.setCells,aeB,abB,aeZ,List.take_append_drop,adC]
  rw[setRow_self w b cur t (0,0) hg]
 |v::r,o,cur,w,hg,hl=>by
  simp only[aaN]at hl
  rw[World.setCells,setCell_eq_setRow w b o cur t (0,0) v hg,dM b t r (o+1) (cur.setIfInBounds o v) _ (setRow_heap w b cur _ t _ hg) (by simp;omega),setRow_setRow]
  congr 2
  have e:=list_seg_step cur.toList o v r (by simp;omega)
  simpa[Array.toList_setIfInBounds,adY,agG 1]using e
theorem ins_rel {α:Type} {St:Nat->Prop} {w:World} (k:Nat) (ev:α->List V) (d:α) (l vs:List α) (i:Nat) (hi:i<=l.length) (xs ys:List Value) (hx:xs.length=l.length *k) (hy:ys.length=vs.length *k)
  (h1:∀p q,p<l.length->q<k->Rel St w dS (bY ev d l p q) (xs.getD (p *k+q) undef)) (h2:∀p q,p<vs.length->q<k->Rel St w dS (bY ev d vs p q) (ys.getD (p *k+q) undef)):
  ∀p q,p<(l.take i++vs++l.drop i).length->q<k->Rel St w dS (bY ev d (l.take i++vs++l.drop i) p q) ((xs.take (i *k)++ys++xs.drop (i *k)).getD (p *k+q) undef):=by
 intro p q hp hq;have hik:i *k<=l.length *k:=aaT k hi;have hl1:(l.take i).length=i:=by simp;omega
 have hl2:(xs.take (i *k)).length=i *k:=by simp;omega
 simp only[acD];unfold bY at *;by_cases c1:p<i
 ·have hpk:p *k+q<i *k:=by
   have:(p+1) *k<=i *k:=aaT k c1;rw[acA,ahE]at this;omega
  have e1:(l.take i++(vs++l.drop i)).getD p d=l.getD p d:=by
   rw[aaC,aaC,abU (by omega),acL,if_pos c1]
  have e2:(xs.take (i *k)++(ys++xs.drop (i *k))).getD (p *k+q) undef=xs.getD (p *k+q) undef:=by
   rw[aaC,aaC,abU (by omega),acL,if_pos hpk]
  rw[e1,e2];exact h1 p q (by omega) hq
 ·have hle:i *k<=p *k:=aaT k (by omega);by_cases c2:p<i+vs.length
  ·have hpk:(p-i) *k+q<vs.length *k:=by
    have:(p-i+1) *k<=vs.length *k:=aaT k (by omega);rw[acA,ahE]at this;omega
   have hsub:p *k+q-i *k=(p-i) *k+q:=by rw[aeX];omega
   have e1:(l.take i++(vs++l.drop i)).getD p d=vs.getD (p-i) d:=by
    rw[aaC,aaC,abQ (by omega),hl1,abU (by omega)]
   have e2:(xs.take (i *k)++(ys++xs.drop (i *k))).getD (p *k+q) undef=ys.getD ((p-i) *k+q) undef:=by
    rw[aaC,aaC,abQ (by omega),hl2,hsub,abU (by omega)]
   rw[e1,e2];exact h2 (p-i) q (by omega) hq
  ·have hsub:p *k+q-i *k=(p-i) *k+q:=by rw[aeX];omega
   have hsub2:(p-i) *k+q-vs.length *k=(p-i-vs.length) *k+q:=by
    rw[aeX (p-i)];have:vs.length *k<=(p-i) *k:=aaT k (by omega);omega
   have hpk:vs.length *k<=(p-i) *k+q:=by
    have:vs.length *k<=(p-i) *k:=aaT k (by omega);omega
   have hadd:i *k+((p-i-vs.length) *k+q)=(p-vs.length) *k+q:=by
    have:p-vs.length=i+(p-i-vs.length):=by omega
    rw[this,acA];omega
   have e1:(l.take i++(vs++l.drop i)).getD p d=l.getD (p-vs.length) d:=by
    rw[aaC,aaC,abQ (by omega),hl1,abQ (by omega),acC];congr 2;omega
   have e2:(xs.take (i *k)++(ys++xs.drop (i *k))).getD (p *k+q) undef=xs.getD ((p-vs.length) *k+q) undef:=by
    rw[aaC,aaC,abQ (by omega),hl2,hsub,abQ (by omega),hy,hsub2,acC,hadd]
   rw[e1,e2];refine h1 _ q ?_ hq;simp only[aaF,abE,aaZ]at hp;omega
theorem aB8 (cur xs ys:List Value) (A B C:Nat) (hx:cur.take C=xs) (hA:A<=C) (hl:C<=cur.length) (hy:ys.length=B) (hf:C+B<=cur.length):
  (((cur.take (A+B)++xs.drop A++cur.drop (A+B+(xs.drop A).length)).take A++ys++(cur.take (A+B)++xs.drop A++cur.drop (A+B+(xs.drop A).length)).drop (A+ys.length))).take (C+B)=xs.take A++ys++xs.drop A:=by
 have hxl:xs.length=C:=by rw[<-hx];simp;omega
 have e1:(cur.take (A+B)++xs.drop A++cur.drop (A+B+(xs.drop A).length)).take A=xs.take A:=by
  rw[acD,afW (by simp;omega),agN,<-hx,agN,aeS (by omega),aeS (by omega)]
 have e2:(cur.take (A+B)++xs.drop A++cur.drop (A+B+(xs.drop A).length)).drop (A+ys.length)=xs.drop A++cur.drop (A+B+(xs.drop A).length):=by
  rw[hy,acD];have:(cur.take (A+B)).length=A+B:=by simp;omega
  exact List.drop_left' this
 rw[e1,e2,<-acD];have h3:(xs.take A++ys++xs.drop A).length=C+B:=by simp;omega
 rw[<-h3,aeG]
theorem grow_list (Z xs ys:List Value) (A B C:Nat) (hA:A<=C) (hxl:xs.length=C) (hy:ys.length=B) (_hf:C+B<=A+Z.length):
  ((((xs.take A++Z).take A++ys++(xs.take A++Z).drop (A+ys.length)).take (A+B)++xs.drop A++((xs.take A++Z).take A++ys++(xs.take A++Z).drop (A+ys.length)).drop (A+B+(xs.drop A).length))).take (C+B)=xs.take A++ys++xs.drop A:=by
 have hxa:(xs.take A).length=A:=by simp;omega
 have e1:(xs.take A++Z).take A=xs.take A:=by
  have:=aeG (l₁:=xs.take A) (l₂:=Z);rwa [hxa]at this
 rw[e1];have h2:(xs.take A++ys).length=A+B:=by simp;omega
 have e3:(xs.take A++ys++(xs.take A++Z).drop (A+ys.length)).take (A+B)=xs.take A++ys:=by
  rw[<-h2,aeG]
 rw[e3];have h3:(xs.take A++ys++xs.drop A).length=C+B:=by simp;omega
 rw[<-h3,aeG]
theorem ins_one {xs ys:List Value} {A:Nat} (h1:∀x∈xs,x.oneCell'=true) (h2:∀x∈ys,x.oneCell'=true):∀x∈xs.take A++ys++xs.drop A,x.oneCell'=true:=by
 intro x hx;rcases abR.1 hx with h|h
 ·rcases abR.1 h with h|h
  ·exact h1 x (afX h)
  ·exact h2 x h
 ·exact h1 x (acQ h)
theorem xE {P:Program} {f:FuncId} {α:Type} (k:Nat) (hk0:0<k) (E:TypeId) (bytes:Nat) (ev:α->List V) (d:α)
  (hshift:∀(b n c i vb m vc:Nat) (cs vs:List Value) (w:World),i<n->0<m->n+m<=c->c<=9223372036854775807->vb≠b->cs.length=n *k->vs.length=m *k->
   (∀j v,cs[j]? =some v->w.cell? ⟨b,j,none⟩=some v)->(∀j,j<(n+m) *k->(w.cell? ⟨b,j,none⟩).isSome=true)->(∀j,j<(n+m) *k->w.frozen? ⟨b,j,none⟩=false)->
   (∀j v,vs[j]? =some v->w.cell? ⟨vb,j,none⟩=some v)->(∀v∈cs,v.oneCell'=true)->(∀v∈vs,v.oneCell'=true)->
   ∀(tA tB:TypeId) (kA kB:Nat),w.shape? vb=some (tA,kA)->w.shape? b=some (tB,kB)->kB≠0->w.frozen? ⟨vb,0,none⟩=false->w.frozen? ⟨vb,kA,none⟩=false->
   Calls P f #[.slice (some ⟨b,0,none⟩) n c,.int .i64 i,.slice (some ⟨vb,0,none⟩) m vc] w fun e w'=>
    e= .returned (.slice (some ⟨b,0,none⟩) (n+m) c)/\w'=(w.drew.setCells b ((i+m) *k) (cs.drop (i *k))).setCells b (i *k) vs)
  (hgrow:∀(b n c i vb m vc:Nat) (cs vs:List Value) (w:World),i<n->0<m->n<=c->c<n+m->(n+m) *bytes<=140737488355328->cs.length=n *k->vs.length=m *k->
   (∀j v,cs[j]? =some v->w.cell? ⟨b,j,none⟩=some v)->(∀j v,vs[j]? =some v->w.cell? ⟨vb,j,none⟩=some v)->(∀v∈cs,v.oneCell'=true)->(∀v∈vs,v.oneCell'=true)->
   ∃Z:Array Value,∃G,G<=maxLen/\n+m<=G/\((cs.take (i *k)).toArray++Z).size=G *k/\
   Calls P f #[.slice (some ⟨b,0,none⟩) n c,.int .i64 i,.slice (some ⟨vb,0,none⟩) m vc] w fun e w'=>
    e= .returned (.slice (some ⟨w.heap.size,0,none⟩) (n+m) G)/\
    w'=(((w.alloc (.cells ((cs.take (i *k)).toArray++Z) E)).drew.setCells w.heap.size (i *k) vs).drew).setCells w.heap.size ((i+m) *k) (cs.drop (i *k)))
  (l vs:List α) (i:Nat) (hi:i<l.length) (hm:0<vs.length) (hbig:(l.length+vs.length) *bytes<=140737488355328):
  aG P f [] [2001] [(2000,bL E k ev d l),(2001,bL E k ev d vs)] [.own 2000,.int .i64 (i:Int),.own 2001] (.own 2000) [(2000,bL E k ev d (l.take i++vs++l.drop i)),(2001,bL E k ev d vs)]:=by
 intro z vals hW hl hr _;have e0:=hr 0 (by simp);have e1:=hr 1 (by simp);have e2:=hr 2 (by simp);simp only[abK,abP]at e0 e1 e2
 have hv:vals= #[vals.getD 0 undef,vals.getD 1 undef,vals.getD 2 undef]:=by
  apply Array.ext
  ·simpa using hl
  ·intro j h1 h2;have:j=0\/j=1\/j=2:=by simp at h2;omega
   rcases this with rfl|rfl|rfl<;>simp[h1]
 rw[hv,e1.int_inv];generalize vals.getD 0 undef=u0 at e0;generalize vals.getD 2 undef=u2 at e2
 cases e0 with
 |own _ _ _ hg ho=>
 cases e2 with
 |own _ _ _ hg2 ho2=>
 obtain⟨v,hgv,xs,hown,hrel,hone⟩:=hW.ok 2000 (bL E k ev d l) (by simp[aJ.get]);rw[hg]at hgv;cases hgv;obtain⟨v2,hgv2,ys,hown2,hrel2,hone2⟩:=hW.ok 2001 (bL E k ev d vs) (by simp[aJ.get]);rw[hg2]at hgv2;cases hgv2;obtain⟨hxs,hcase⟩:=hown;obtain⟨hys,hcase2⟩:=hown2;rcases hcase with⟨_,hn⟩|⟨b,cap,cur,rfl,hb0,hb,hnc,hcm,hcs,htk⟩
 ·omega
 rcases hcase2 with⟨_,hn⟩|⟨vb,vcap,vcur,rfl,vb0,hvb,vnc,vcm,vcs,vtk⟩
 ·omega
 have hne:vb≠b:=fun e=>hW.sep 2001 2000 _ _ _ _ (by simp[aJ.get];rfl) (by simp[aJ.get];rfl) hg2 hg (by decide) vb rfl (by rw[e];rfl);have hcap63:cap<=9223372036854775807:=by unfold maxLen at hcm;omega
 have hbs:b<z.w.heap.size:=(abD.1 hb).1;have hck:l.length *k<=cap *k:=aaT k hnc;have hvk:vs.length *k<=vcap *k:=aaT k vnc;have hik:i *k<=l.length *k:=aaT k (by omega);have hadd:(l.length+vs.length) *k=l.length *k+vs.length *k:=acA ..;have hadd2:(i+vs.length) *k=i *k+vs.length *k:=acA ..
 have hcells:∀j x,xs[j]? =some x->z.w.cell? ⟨b,j,none⟩=some x:=by
  intro j x hj
  have hj2:cur.toList[j]? =some x:=by
   rw[<-htk,acL]at hj;split at hj
   ·exact hj
   ·cases hj
  simp only[World.cell?,hb];simpa using hj2
 have hvcells:∀j x,ys[j]? =some x->z.w.cell? ⟨vb,j,none⟩=some x:=by
  intro j x hj
  have hj2:vcur.toList[j]? =some x:=by
   rw[<-vtk,acL]at hj;split at hj
   ·exact hj
   ·cases hj
  simp only[World.cell?,hvb];simpa using hj2
 have hO:=hW.ow 2000 _ _ (by simp[aJ.get];rfl) hg b rfl;have hrelI:=fun(w':World) (hw':∀q,z.St q->w'.heap[q]? =z.w.heap[q]?)=>ins_rel (St:=z.St) (w:=w') k ev d l vs i (by omega) xs ys hxs hys (fun p q hp hq=>(hrel p q hp hq).mono (fun _ h=>h) hw') (fun p q hp hq=>(hrel2 p q hp hq).mono (fun _ h=>h) hw');have honeI:=ins_one (A:=i *k) hone hone2;have hlenI:(l.take i++vs++l.drop i).length=l.length+vs.length:=by simp;omega
 have hXS:(xs.take (i *k)++ys++xs.drop (i *k)).length=(l.length+vs.length) *k:=by simp;omega
 -- the answer, whatever block it lies in
 have fin:∀(w':World) (b' cap':Nat) (cur':Array Value) (ro:Option Nat),(∀q,ro=some q->q=b)->w'.os=z.w.os->w'.tape=z.w.tape->w'.output=z.w.output->z.w.heap.size<=w'.heap.size->
   (∀q,q<z.w.heap.size->some q≠ro->w'.heap[q]? =z.w.heap[q]?)->(ro=some b'\/(z.w.heap.size<=b'/\b'<w'.heap.size))->w'.heap[b']? =some (.cells cur' E (0,0))->l.length+vs.length<=cap'->cap'<=maxLen->cur'.size=cap' *k->
   cur'.toList.take ((l.length+vs.length) *k)=xs.take (i *k)++ys++xs.drop (i *k)->
   ∃x r h1 St' g',Ending.returned (.slice (some ⟨b',0,none⟩) (l.length+vs.length) cap')= .returned x/\(r= .own 2000/\h1=[(2000,bL E k ev d (l.take i++vs++l.drop i)),(2001,bL E k ev d vs)])/\WSim z St' g' h1 w'/\Rel St' w' g' r x/\(∀q,q∈[2001]->g' q=z.g q):=by
  intro w' b' cap' cur' ro hro hos htp hout hsz hfr hnew hbl hc1 hc2 hc3 htake;have hStw:∀q,z.St q->w'.heap[q]? =z.w.heap[q]? :=fun q hq=>hfr q (hW.st1 q hq).1 fun e=>hO.1 (hro q e.symm▸hq)
  have hok:dG z.St w' (z.g.set 2000 (.slice (some ⟨b',0,none⟩) (l.length+vs.length) cap')) (.slice (some ⟨b',0,none⟩) (l.length+vs.length) cap') (bL E k ev d (l.take i++vs++l.drop i)):=by
   refine⟨xs.take (i *k)++ys++xs.drop (i *k),⟨by rw[hXS,hlenI],.inr ⟨b',cap',cur',by rw[hlenI],abM _,hbl,by rw[hlenI];exact hc1,hc2,hc3,by rw[hlenI];exact htake⟩⟩,hrelI w' hStw,honeI⟩
  have hW2 := hW.change (d := 2000) (w' := w') (ro := ro) (fun q hq => by have := hro q hq; subst this; exact ⟨_, _, by simp [aJ.get]; rfl, hg, rfl⟩) hos htp hout hsz hfr (.inl rfl) (fun q hq=>by
   cases hq;exact hnew) hok
  exact⟨_,_,_,z.St,_,rfl,⟨rfl,rfl⟩,hW2,.own _ _ _ (by simp[Gh.set]) rfl,fun q hq=>by simp at hq;subst hq;simp[Gh.set]⟩
 by_cases hroom:l.length+vs.length<=cap
 ·have hck2:(l.length+vs.length) *k<=cap *k:=aaT k hroom
  have hcpos:cur.size≠0:=by
   have:0<cap:=by omega
   rw[hcs];exact Nat.mul_ne_zero (by omega) (by omega)
  refine(hshift b l.length cap i vb vs.length vcap xs ys z.w hi hm hroom hcap63 hne hxs hys hcells (fun j hj=> ?_) (fun j hj=> ?_) hvcells hone hone2 E E vcur.size cur.size ?_ ?_ hcpos ?_ ?_).mono ?_
  ·have:j<cur.size:=by omega
   simp[World.cell?,hb,this]
  ·simp[World.frozen?,hb]
  ·simp[World.shape?,hvb]
  ·simp[World.shape?,hb]
  ·simp[World.frozen?,hvb]
  ·simp[World.frozen?,hvb]
  ·rintro e w' ⟨rfl,rfl⟩;have hd:z.w.drew.heap[b]? =some (.cells cur E (0,0)):=hb;have hdl:(xs.drop (i *k)).length=l.length *k-i *k:=by simp;omega
   have hcl:cur.toList.length=cap *k:=by simpa using hcs
   rw [dM b E (xs.drop (i * k)) ((i + vs.length) * k) cur z.w.drew hd (by omega), dM b E ys (i * k) _ _ (setRow_heap _ b cur _ E (0, 0) hd) (by
    simp only[adZ,aaF,abE,aaZ,acY];omega),setRow_setRow]
   refine fin _ b cap _ (some b) (fun q hq=>(aaD hq).symm) rfl rfl rfl (by simp) (fun q _ hne=>setRow_other _ b q _ fun e=>hne (by rw[e])) (.inl rfl) (setRow_heap _ b cur _ E (0,0) hd) hroom hcm ?_ ?_
   ·simp only[adZ,aaF,abE,aaZ,acY];omega
   ·have:=aB8 cur.toList xs ys (i *k) (vs.length *k) (l.length *k) htk hik (by omega) hys (by omega);rw[hadd,hadd2];simpa using this
 ·obtain⟨Z,G,hG1,hG2,hZs,hc⟩:=hgrow b l.length cap i vb vs.length vcap xs ys z.w hi hm hnc (by omega) hbig hxs hys hcells hvcells hone hone2;refine hc.mono ?_;rintro e w' ⟨rfl,rfl⟩;have hck2:(l.length+vs.length) *k<=G *k:=aaT k hG2;have hxa:(xs.take (i *k)).length=i *k:=by simp;omega
  have hZl:i *k+Z.size=G *k:=by
   rw[<-hZs];simp;omega
  have hdl:(xs.drop (i *k)).length=l.length *k-i *k:=by simp;omega
  let N:=z.w.heap.size
  let ROW:Array Value:=(xs.take (i *k)).toArray++Z
  let W1:World:=(z.w.alloc (.cells ROW E)).drew
  have h1:W1.heap[N]? =some (.cells ROW E (0,0)):=heap_alloc_new _ _;have hRl:ROW.size=G *k:=hZs;have hold:∀q,q<z.w.heap.size->W1.heap[q]? =z.w.heap[q]? :=fun q hq=>by first|exact heap_alloc_old z.w _ hq|exact heap_alloc_old z.w _ q hq
  have s1:W1.setCells N (i *k) ys=W1.setRow N _:=dM N E ys (i *k) ROW W1 h1 (by omega);have h2:=setRow_heap W1 N ROW (ROW.toList.take (i *k)++ys++ROW.toList.drop (i *k+ys.length)).toArray E (0,0) h1
  have hl2:(ROW.toList.take (i *k)++ys++ROW.toList.drop (i *k+ys.length)).length=G *k:=by
   simp only[aaF,abE,aaZ,acY];omega
  have s2 := dM N E (xs.drop (i * k)) ((i + vs.length) * k) _ (W1.setRow N (ROW.toList.take (i * k) ++ ys ++ ROW.toList.drop (i * k + ys.length)).toArray).drew h2 (by
   rw[adZ,hl2];omega)
  show ∃x r h1 St' g',Ending.returned (.slice (some ⟨N,0,none⟩) (l.length+vs.length) G)= .returned x/\_/\WSim z St' g' h1 (((W1.setCells N (i *k) ys).drew).setCells N ((i+vs.length) *k) (xs.drop (i *k)))/\_/\_;rw[s1,s2];refine fin _ N G _ none (fun q hq=>by cases hq) rfl rfl rfl ?_ (fun q hq _=> ?_) (.inr ⟨aaY _, ?_⟩) (setRow_heap _ N _ _ E (0,0) h2) hG2 hG1 ?_ ?_
  ·simp[W1]
  ·rw[setRow_other _ N q _ (by show q≠z.w.heap.size;omega)];show(W1.setRow N _).heap[q]? =_;rw[setRow_other _ N q _ (by show q≠z.w.heap.size;omega)];exact hold q hq
  ·simp[W1,N]
  ·simp only[adZ,aaF,abE,aaZ,acY];omega
  ·have:=grow_list Z.toList xs ys (i *k) (vs.length *k) (l.length *k) hik hxs hys (by simp;omega);rw[hadd,hadd2];simpa[ROW]using this
theorem zZ {P:Program} (w:World) (t e ty:TypeId) (z:Value) (ht:P.underlying t=some (.slice e)) (hv:∀w,(zeroValue e).run P w= .ok z w) (b o n c:Nat) (hn:0<n)
  (hc:∀j,j<(Builtin.zeroCells z.cells n).toList.length->(w.cell? ⟨b,o+j,none⟩).isSome=true) (hf:∀j,j<(Builtin.zeroCells z.cells n).toList.length->w.frozen? ⟨b,o+j,none⟩=false) (h1:∀v∈(Builtin.zeroCells z.cells n).toList,v.oneCell'=true):
  (Builtin.clear_ #[t] ty #[.slice (some ⟨b,o,none⟩) n c]).run P w= .ok (.tuple #[]) (w.setCells b o (Builtin.zeroCells z.cells n).toList):=by
 have hst:=run_storeCells_cells (P:=P) b o (Builtin.zeroCells z.cells n).toList 0 w (by simpa using hc) (by simpa using hf) h1;simp only[aeZ]at hst;obtain⟨m,rfl⟩:∃m,n=m+1:=⟨n-1,by omega⟩;simp[Builtin.clear_,run_underlying ht,hv,hst]
theorem uM {zc:Array Value} {n:Nat} {x:Value} (h0:0<zc.size) (h:x∈(Builtin.zeroCells zc n).toList):x∈zc:=by
 simp only[Builtin.zeroCells,Array.toList_map,adL]at h;obtain⟨i,_,rfl⟩:=h;have hlt:=afA i h0;rw[getElem!_pos zc _ hlt];exact afC hlt
/-! ### slices.Delete -/
section
variable {α:Type} (St:Nat->Prop) (w:World) (k:Nat) (ev:α->List V) (d:α)
def RelL (l:List α) (xs:List Value):Prop:=xs.length=l.length *k/\∀p q,p<l.length->q<k->Rel St w dS (bY ev d l p q) (xs.getD (p *k+q) undef)
variable {St w k ev d}
theorem RelL.take {l:List α} {xs:List Value} (h:RelL St w k ev d l xs) (i:Nat) (hi:i<=l.length):RelL St w k ev d (l.take i) (xs.take (i *k)):=by
 have hik:i *k<=l.length *k:=aaT k hi;refine⟨by simp[h.1],fun p q hp hq=> ?_⟩;have hp':p<i:=by simp at hp;omega
 have hpk:p *k+q<i *k:=by
  have:(p+1) *k<=i *k:=aaT k hp';rw[acA,ahE]at this;omega
 have:=h.2 p q (by omega) hq;unfold bY at this⊢;rw[aaC (l:=l.take i),acL,if_pos hp',<-aaC,aaC (l:=xs.take (i *k)),acL,if_pos hpk,<-aaC];exact this
theorem RelL.drop {l:List α} {xs:List Value} (h:RelL St w k ev d l xs) (i:Nat) (hi:i<=l.length):RelL St w k ev d (l.drop i) (xs.drop (i *k)):=by
 refine⟨by simp[h.1,aeX],fun p q hp hq=> ?_⟩;have hp':i+p<l.length:=by simp at hp;omega
 have:=h.2 (i+p) q hp' hq;unfold bY at this⊢;rw[aaC (l:=l.drop i),acC,<-aaC,aaC (l:=xs.drop (i *k)),acC,<-aaC,<-adY,<-acA];exact this
theorem RelL.append {l m:List α} {xs ys:List Value} (h:RelL St w k ev d l xs) (h2:RelL St w k ev d m ys):RelL St w k ev d (l++m) (xs++ys):=by
 refine⟨by simp[h.1,h2.1,acA],fun p q hp hq=> ?_⟩;by_cases c:p<l.length
 ·have hpk:p *k+q<l.length *k:=by
   have:(p+1) *k<=l.length *k:=aaT k c;rw[acA,ahE]at this;omega
  have:=h.2 p q c hq;unfold bY at this⊢;rw[aaC (l:=l++m),abU c,<-aaC,aaC (l:=xs++ys),abU (by rw[h.1];exact hpk),<-aaC];exact this
 ·have hsub:p *k+q-l.length *k=(p-l.length) *k+q:=by
   have:l.length *k<=p *k:=aaT k (by omega);rw[aeX];omega
  have hpk:l.length *k<=p *k+q:=by
   have:l.length *k<=p *k:=aaT k (by omega);omega
  have:=h2.2 (p-l.length) q (by simp at hp;omega) hq;unfold bY at this⊢;rw[aaC (l:=l++m),abQ (by omega),<-aaC,aaC (l:=xs++ys),abQ (by rw[h.1];exact hpk),h.1,hsub,<-aaC];exact this
end
theorem delK_spec {P:Program} {f:FuncId} {α:Type} (k:Nat) (E:TypeId) (ev:α->List V) (d:α)
  (hdel:∀(b n c i j:Nat) (cs:List Value) (w:World),i<j->j<=n->n<=c->c<=9223372036854775807->cs.length=n *k->
   (∀q v,cs[q]? =some v->w.cell? ⟨b,q,none⟩=some v)->(∀q,q<n *k->w.frozen? ⟨b,q,none⟩=false)->(∀v∈cs,v.oneCell'=true)->
   ∃Z:List Value,Z.length=(j-i) *k/\
   Calls P f #[.slice (some ⟨b,0,none⟩) n c,.int .i64 i,.int .i64 j] w fun e w'=>e= .returned (.slice (some ⟨b,0,none⟩) (n-(j-i)) c)/\w'=(w.drew.setCells b (i *k) (cs.drop (j *k))).setCells b ((n-(j-i)) *k) Z)
  (l:List α) (i j:Nat) (hi:i<j) (hj:j<=l.length):
  aG P f [] [] [(2000,bL E k ev d l)] [.own 2000,.int .i64 (i:Int),.int .i64 (j:Int)] (.own 2000) [(2000,bL E k ev d (l.take i++l.drop j))]:=by
 intro z vals hW hl hr _;have e0:=hr 0 (by simp);have e1:=hr 1 (by simp);have e2:=hr 2 (by simp);simp only[abK,abP]at e0 e1 e2
 have hv:vals= #[vals.getD 0 undef,vals.getD 1 undef,vals.getD 2 undef]:=by
  apply Array.ext
  ·simpa using hl
  ·intro j h1 h2;have:j=0\/j=1\/j=2:=by simp at h2;omega
   rcases this with rfl|rfl|rfl<;>simp[h1]
 rw[hv,e1.int_inv,e2.int_inv];generalize vals.getD 0 undef=u0 at e0
 cases e0 with
 |own _ _ _ hg ho=>
 obtain⟨v,hgv,xs,hown,hrel,hone⟩:=hW.ok 2000 (bL E k ev d l) (by simp[aJ.get]);rw[hg]at hgv;cases hgv;obtain⟨hxs,hcase⟩:=hown;rcases hcase with⟨_,hn⟩|⟨b,cap,cur,rfl,hb0,hb,hnc,hcm,hcs,htk⟩
 ·omega
 have hcap63:cap<=9223372036854775807:=by unfold maxLen at hcm;omega
 have hck:l.length *k<=cap *k:=aaT k hnc;have hik:i *k<=l.length *k:=aaT k (by omega);have hjk:j *k<=l.length *k:=aaT k hj;have hij:i *k<=j *k:=aaT k (by omega)
 have hM:(l.length-(j-i)) *k=i *k+(l.length *k-j *k):=by
  have:l.length-(j-i)=i+(l.length-j):=by omega
  rw[this,acA,aeX]
 have hJI:(j-i) *k=j *k-i *k:=aeX ..;have hcl:cur.toList.length=cap *k:=by simpa using hcs
 have hcells:∀q x,xs[q]? =some x->z.w.cell? ⟨b,q,none⟩=some x:=by
  intro q x hq
  have hj2:cur.toList[q]? =some x:=by
   rw[<-htk,acL]at hq;split at hq
   ·exact hq
   ·cases hq
  simp only[World.cell?,hb];simpa using hj2
 have hO:=hW.ow 2000 _ _ (by simp[aJ.get];rfl) hg b rfl;obtain⟨Z,hZ,hc⟩:=hdel b l.length cap i j xs z.w hi hj hnc hcap63 hxs hcells (fun q _=>by simp[World.frozen?,hb]) hone;refine hc.mono ?_;rintro e w' ⟨rfl,rfl⟩;have hd:z.w.drew.heap[b]? =some (.cells cur E (0,0)):=hb;have hdl:(xs.drop (j *k)).length=l.length *k-j *k:=by simp;omega
 rw[dM b E (xs.drop (j *k)) (i *k) cur z.w.drew hd (by omega)]
 have hl1:(cur.toList.take (i *k)++xs.drop (j *k)++cur.toList.drop (i *k+(xs.drop (j *k)).length)).length=cap *k:=by
  simp only[aaF,abE,aaZ,acY];omega
 rw[dM b E Z ((l.length-(j-i)) *k) _ _ (setRow_heap _ b cur _ E (0,0) hd) (by rw[adZ,hl1,hM,hZ,hJI];omega),setRow_setRow];generalize hcur2:(List.take ((l.length-(j-i)) *k) (cur.toList.take (i *k)++xs.drop (j *k)++cur.toList.drop (i *k+(xs.drop (j *k)).length)).toArray.toList++Z++List.drop ((l.length-(j-i)) *k+Z.length) (cur.toList.take (i *k)++xs.drop (j *k)++cur.toList.drop (i *k+(xs.drop (j *k)).length)).toArray.toList)=cur2
 have hc2l:cur2.length=cap *k:=by
  rw[<-hcur2];simp only[aaF,abE,aaZ,acY];omega
 have htake:cur2.take ((l.length-(j-i)) *k)=xs.take (i *k)++xs.drop (j *k):=by
  rw[<-hcur2,acD,afW (by simp only[abE];rw[hl1];omega),agN,Nat.min_self]
  have h2:(cur.toList.take (i *k)++xs.drop (j *k)).length=(l.length-(j-i)) *k:=by
   rw[hM,aaF,hdl,abE];omega
  have h3:xs.take (i *k)=cur.toList.take (i *k):=by rw[<-htk,agN,aeS hik]
  rw[h3,<-h2];exact aeG
 have hStw:∀q,z.St q->(z.w.drew.setRow b cur2.toArray).heap[q]? =z.w.heap[q]? :=fun q hq=>setRow_other _ b q _ fun e=>hO.1 (e▸hq);have hR:RelL z.St (z.w.drew.setRow b cur2.toArray) k ev d l xs:=⟨hxs,fun p q hp hq=>(hrel p q hp hq).mono (fun _ h=>h) hStw⟩;have hRR:=(hR.take i (by omega)).append (hR.drop j hj);have hlenI:(l.take i++l.drop j).length=l.length-(j-i):=by simp;omega
 have hok:dG z.St (z.w.drew.setRow b cur2.toArray) (z.g.set 2000 (.slice (some ⟨b,0,none⟩) (l.length-(j-i)) cap)) (.slice (some ⟨b,0,none⟩) (l.length-(j-i)) cap) (bL E k ev d (l.take i++l.drop j)):=by
  refine⟨xs.take (i *k)++xs.drop (j *k),⟨hRR.1,.inr ⟨b,cap,cur2.toArray,by rw[hlenI],abM _,setRow_heap _ b cur _ E (0,0) hd,by rw[hlenI];omega,hcm,by rw[adZ,hc2l],by rw[hlenI];exact htake⟩⟩,hRR.2,fun x hx=> ?_⟩;rcases abR.1 hx with h|h
  ·exact hone x (afX h)
  ·exact hone x (acQ h)
 have hW2:=hW.change (d:=2000) (w':=z.w.drew.setRow b cur2.toArray) (ro:=some b) (fun q hq=>by cases hq;exact⟨_,_,by simp[aJ.get];rfl,hg,rfl⟩) rfl rfl rfl (by simp) (fun q _ hne=>setRow_other _ b q _ fun e=>hne (by rw[e])) (.inl rfl) (fun q hq=>by cases hq;exact .inl rfl) hok;exact⟨_,_,_,z.St,_,rfl,⟨rfl,rfl⟩,hW2,.own _ _ _ (by simp[Gh.set]) rfl,fun q hq=>by simp at hq⟩
end Go.Abs
