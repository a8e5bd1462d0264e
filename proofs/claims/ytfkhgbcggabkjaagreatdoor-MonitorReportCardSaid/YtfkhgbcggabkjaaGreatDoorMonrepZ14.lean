/- Part 14 of the proof: AbsM2, AbsR4, AbsR5. -/
import Derived.Test.YtfkhgbcggabkjaaGreatDoorMonrepZ13
import Derived.DeepKeys3
namespace Go.Abs
open Go Go.MapKept
abbrev acK:=@Bool.true_and
abbrev acR:=@List.length_singleton
abbrev adH:=@List.any_cons
abbrev aeA:=@List.find?_cons
abbrev agH:=@Nat.sub_self
def aCZ (P:Program) (kt:TypeId) {α:Type} [DecidableEq α] (ek:α->V):Prop:=
 (∀a,(ek a).closed=true)/\
 (∀(St:Nat->Prop) (w:World) (g:Gh) (a:α) (x:Value),Rel St w g (ek a) x->∀e,(Instr.checkKey e 10000 kt x).run P w= .ok () w)/\
 (∀(St:Nat->Prop) (w:World) (g:Gh) (a:α) (x:Value),Rel St w g (ek a) x->∀(l:List MapEntry) (ks:List α) (dk:α),l.length=ks.length->(∀j,j<ks.length->Rel St w dS (ek (ks.getD j dk)) (l.getD j default).key)->(Instr.findKey kt x l).run P w= .ok ((lA a ks 0).map fun q=>(q,(l.getD q default).val)) w)/\
 (∀(St:Nat->Prop) (w:World) (g g':Gh) (a:α) (x y:Value),Rel St w g (ek a) x->Rel St w g' (ek a) y->(Instr.keyThatStays y x).run P w= .ok x w)
theorem nF {α:Type} [DecidableEq α] (x:α):∀(l:List α) (i q:Nat),lA x l i=some q->i<=q/\q<i+l.length/\∀d,l.getD (q-i) d=x
 |[],_,_,h=>by cases h
 |a::l,i,q,h=>by
  simp only[lA]at h
  split at h
  ·rename_i he
   cases h
   refine⟨aaY _,by simp,fun d=> ?_⟩
   rw[agH]
   exact he.symm
  ·obtain⟨h1,h2,h3⟩:=nF x l (i+1) q h
   refine⟨by omega,by simp only[aaN];omega,fun d=> ?_⟩
   rw[show q-i=(q-(i+1))+1 by omega,abP]
   exact h3 d
section
variable {P:Program} {kt:TypeId} {α:Type} [DecidableEq α] {ek:α->V}
theorem aCk {St:Nat->Prop} {w:World} {g g':Gh} {d:TypeDesc} {v:V} {x y:Value} (hk:uP d v=true) (hx:Rel St w g v x) (hy:Rel St w g' v y):x=y:=by
 unfold uP at hk;split at hk
 ·rw[hx.int_inv,hy.int_inv]
 ·obtain⟨s,rfl,h1⟩:=hx.str_inv;obtain⟨u,rfl,h2⟩:=hy.str_inv;congr 1;exact ByteArray.ext (Array.ext' (h1.trans h2.symm))
 ·rw[hx.b16_inv,hy.b16_inv]
 ·cases hk
theorem nC {d:TypeDesc} (hd:P.underlying kt=some d) (hk:∀a b,sJ d (ek a) (ek b)=some (decide (a=b))) (hko:∀a,uP d (ek a)=true) (hc:∀a,(ek a).closed=true):aCZ P kt ek:=by
 refine⟨hc,fun St w g a x hx e=>run_checkKey hd (pN (hko a) hx) e 9999,fun St w g a x hx l ks dk hl hr=> ?_,fun St w g g' a x y hx hy=> ?_⟩
 ·obtain⟨h1,_⟩:=qE hx ks.length 0 l (lP hk a dk ks) hl fun j hj=>by simpa using hr j hj
  rw[run_findKey hd h1];simp
 ·rw[aCk (hko a) hx hy];exact run_keyThatStays (pN (hko a) hy)
theorem pG {St:Nat->Prop} {w:World} {g:Gh}:∀(d:Nat) {t:TypeId} {x y:V} {r:Bool} {a:Value},eqV P d t x y=some r->Rel St w g x a->∀e,(Instr.checkKey e d t a).run P w= .ok () w:=by
 intro d
 induction d with
 |zero=>intro t x y r a h;simp[eqV]at h
 |succ d ih=>
  intro t x y r a h ha e;unfold eqV at h;split at h
  ·rename_i p q hu;have:=ha.bool_inv;subst this;simp[Instr.checkKey,run_underlying hu]
  ·rename_i k0 k p k' q hu;have:=ha.int_inv;subst this;simp[Instr.checkKey,run_underlying hu]
  ·rename_i k0 p q hu;have:=ha.b16_inv;subst this;simp[Instr.checkKey,run_underlying hu]
  ·rename_i p q hu;obtain⟨s,rfl,rfl⟩:=ha.str_inv;simp[Instr.checkKey,run_underlying hu]
  ·rename_i fields xs ys hu;split at h
   case isFalse=>cases h
   obtain⟨vx,rfl,hlx,hrx⟩:=ha.agg_inv;rw[Instr.checkKey];simp only[abI,run_underlying hu,aaP];rw[<-Array.forIn_toList];generalize fields.toList=fs at h;clear hu
   induction fs generalizing r with
   |nil=>simp
   |cons f fs ihf=>
    simp only[ahC]at h;simp only[List.forIn_cons];by_cases hn:f.name= "_"
    ·rw[if_pos hn]at h;simp only[abI,hn,ne_eq,not_true_eq_false,if_false,abO,aaP];exact ihf h
    ·rw[if_neg hn]at h;split at h
     case h_2=>cases h
     rename_i pa pb pr e1 e2 e3;split at h
     case h_2=>cases h
     rename_i q e4;cases h;obtain⟨ya,hya,hra⟩:=jA e1 hlx hrx;have hq:=ih e4 hra e;simp only[abI,hn,ne_eq,not_false_eq_true,if_true,hya,hq,aaP,abO];exact ihf e3
  ·cases h
theorem tJ {St:Nat->Prop} {w:World} {g:Gh} (he:∀a b,eqV P 10000 kt (ek a) (ek b)=some (decide (a=b))) {a:α} {x:Value} (hx:Rel St w g (ek a) x) (dk:α):∀(l:List MapEntry) (ks:List α) (i:Nat),l.length=ks.length->(∀j,j<ks.length->Rel St w dS (ek (ks.getD j dk)) (l.getD j default).key)->
  (Instr.findAsking kt x l i).run P w= .ok ((lA a ks i).map fun q=>(q,(l.getD (q-i) default).val)) w
 |[],[],i,_,_=>by simp[Instr.findAsking,lA]
 |[],_::_,_,h,_=>by simp at h
 |_::_,[],_,h,_=>by simp at h
 |e::l,k::ks,i,hl,hr=>by
  have h0:=hr 0 (by simp)
  simp only[abK]at h0
  have heq:(Op.equal kt x e.key).run P w= .ok (decide (a=k)) w:=run_eqV 10000 (he a k) hx (eJ h0 rfl)
  simp only[Instr.findAsking,abI,heq,aaP,lA]
  by_cases hak:a=k
  ·simp[hak]
  ·have ih:=tJ he hx dk l ks (i+1) (by simpa using hl) fun j hj=>by
    have:=hr (j+1) (by simp only[aaN];omega)
    simpa using this
   rw[abV hak]
   simp only[abL,if_false,ih,if_neg hak]
   congr 1
   cases hq:lA a ks (i+1)with
   |none=>rfl
   |some q=>
    have:=(nF a ks (i+1) q hq).1
    simp only[afZ,Option.some.injEq,Prod.mk.injEq,true_and]
    rw[show q-i=(q-(i+1))+1 by omega,abP]
def wT :V->Bool
 | .int _ _=>true
 | .str _=>true
 | .b16 _=>true
 | .bool _=>true
 |_=>false
theorem qK {St:Nat->Prop} {w:World} {g g':Gh} {v:V} {x y:Value} (hk:wT v=true) (hx:Rel St w g v x) (hy:Rel St w g' v y):x=y/\∀n,Instr.sameBits n x x=true:=by
 unfold wT at hk;split at hk
 ·rw[hx.int_inv,hy.int_inv];exact⟨rfl,fun n=>by cases n<;>simp[Instr.sameBits]⟩
 ·obtain⟨s,rfl,h1⟩:=hx.str_inv;obtain⟨u,rfl,h2⟩:=hy.str_inv;have e:s=u:=ByteArray.ext (Array.ext' (h1.trans h2.symm));subst e;exact⟨rfl,fun n=>by cases n<;>simp[Instr.sameBits,bytes_beq]⟩
 ·rw[hx.b16_inv,hy.b16_inv];exact⟨rfl,fun n=>by cases n<;>simp[Instr.sameBits]⟩
 ·rw[hx.bool_inv,hy.bool_inv];exact⟨rfl,fun n=>by cases n<;>simp[Instr.sameBits]⟩
 ·cases hk
theorem agg_same {St:Nat->Prop} {w:World} {g g':Gh} {cs:List V} {x y:Value} (hk:cs.all wT=true) (hx:Rel St w g (.agg cs) x) (hy:Rel St w g' (.agg cs) y):x=y/\Instr.sameBits 10000 x x=true:=by
 obtain⟨vx,rfl,lx,rx⟩:=hx.agg_inv;obtain⟨vy,rfl,ly,ry⟩:=hy.agg_inv
 have hp:∀i,i<cs.length->wT (cs.getD i .any)=true:=fun i hi=>by
  rw[aaX]at hk;rw[aaC,aaO hi];exact hk _ (acU ..)
 have e:vx=vy:=by
  apply Array.ext
  ·omega
  ·intro i h1 h2;have hi:i<cs.length:=by omega
   have:=(qK (hp i hi) (rx i hi) (ry i hi)).1;simpa[h1,h2]using this
 subst e;refine⟨rfl, ?_⟩
 have hz:∀p,p∈vx.toList.zip vx.toList->Instr.sameBits 9999 p.1 p.2=true:=by
  intro p hp';obtain⟨i,hi,rfl⟩:=afV.1 hp';have hi':i<vx.size:=by simpa using hi
  have:=(qK (hp i (by omega)) (rx i (by omega)) (rx i (by omega))).2 9999;simpa[hi']using this
 show Instr.sameBits (9999+1) (.agg vx) (.agg vx)=true;simp only[Instr.sameBits,beq_self_eq_true,acK,aaX];exact hz
theorem lK (_dk:α) (hcs:∀a,∃cs,ek a= .agg cs/\cs.all wT=true) {fields:Array Field} (hd:P.underlying kt=some (.struct fields)) (he:∀a b,eqV P 10000 kt (ek a) (ek b)=some (decide (a=b))) (hc:∀a,(ek a).closed=true):aCZ P kt ek:=by
 refine⟨hc,fun St w g a x hx e=>pG 10000 (he a a) hx e,fun St w g a x hx l ks dk' hl hr=> ?_,fun St w g g' a x y hx hy=> ?_⟩
 ·have h1:=tJ he hx dk' l ks 0 hl hr;simp only[afQ]at h1;unfold Instr.findKey;simp only[abI,run_underlying hd,aaP]
  cases l with
  |nil=>
   have:ks=[]:=acB (by simpa using hl.symm);subst this
   simp[Instr.findNow,lA]
  |cons e l=>
   obtain⟨cs,hcs',_⟩:=hcs a;have hx':=hx;rw[hcs']at hx';obtain⟨vx,rfl,_⟩:=hx'.agg_inv;have:Instr.findNow (.struct fields) (.agg vx) (e::l) 0=none:=by simp[Instr.findNow,Instr.sameNow]
   rw[this];exact h1
 ·obtain⟨cs,hcs',hp⟩:=hcs a;rw[hcs']at hx hy;obtain⟨e,hs⟩:=agg_same hp hx hy;subst e;unfold Instr.keyThatStays;rw[hs];rfl
end
section
variable {P:Program} {α β:Type} [DecidableEq α]
def updK (ks:List α) (x:α):List α:=match lA x ks 0 with
 |some _=>ks
 |none=>ks++[x]
def updV (ks:List α) (vs:List β) (x:α) (y:β):List β:=match lA x ks 0 with
 |some i=>vs.set i y
 |none=>vs++[y]
theorem lL (es:Array MapEntry) (q:Nat) (f:MapEntry->MapEntry) (i:Nat) (hq:q<es.size):(es.modify q f).getD i default=if i=q then f (es.getD q default)else es.getD i default:=by
 by_cases h:i=q
 ·subst h;simp[hq,Array.getElem_modify]
 ·simp only[if_neg h,acW];rw[Array.getElem?_modify,if_neg (Ne.symm h)]
theorem updL_spec {mt kt et:TypeId} (hm:P.underlying mt=some (.map kt et)) (ek:α->V) (hK:aCZ P kt ek) (op:Op) (m k v:Operand) (hop:op= .insert mt m k v\/op= .mapUpdate mt m k v) (dk:α) (ev:β->V) (dv:β) (hvc:∀a,(ev a).closed=true) (ty r:Nat) (ks:List α) (vs:List β) (x:α) (y:β) (hl:vs.length=ks.length):
  eF P op ty [r] [(r,bM ek dk ev dv ks vs)] [.own r,ek x,ev y] .any [(r,bM ek dk ev dv (updK ks x) (updV ks vs x y))]:=by
 obtain⟨hkc,hck,hfd,hst⟩:=hK;rintro o ho _ z ρ hW hr;obtain⟨dst,op',ty0,pos,after,guard⟩:=o;dsimp only at ho;subst ho;obtain⟨u,hg,hb⟩:=hW.ok r (bM ek dk ev dv ks vs) (by simp[aJ.get]);obtain⟨b,es,rfl,ho,hn,hbn,hk,hv⟩:=dG.map_inv hb;have h0:=hr 0 (by simp);have h1:=hr 1 (by simp);have h2:=hr 2 (by simp);have hops:op'.operands.toList=[m,k,v]:=by rcases hop with rfl|rfl<;>simp[Op.operands]
 rw[hops]at h0 h1 h2;simp only[abK,abP]at h0 h1 h2;have hm0:ρ m= .map (some b):=by have:=h0.own_inv;rw[hg]at this;simpa using this.symm
 have hfk:=hfd z.St z.w z.g x (ρ k) h1 es.toList ks dk (by simpa using hn) fun j hj=>by simpa[aaC]using hk j hj
 have hck':=hck z.St z.w z.g x (ρ k) h1 false;have hlt:=(abD.1 ho).1;have hStb:¬z.St b:=(hW.ow r (bM ek dk ev dv ks vs) _ (by simp[aJ.get]) hg b rfl).1;have hdel:aJ.del [(r,bM ek dk ev dv ks vs)] r=[]:=by simp[aJ.del]
 -- what is left when the block is the new one
 have fin:∀(es':Array MapEntry) (ks':List α) (vs':List β),es'.size=ks'.length->(execOp ρ ⟨dst,op',ty0,pos,after,guard⟩).run P z.w= .ok .skip {z.w with heap:=z.w.heap.setIfInBounds b (.map es' ks'.length)}->
   (∀i,i<ks'.length->(es'.getD i default).born=i)->(∀i,i<ks'.length->Rel z.St z.w dS (ek (ks'.getD i dk)) (es'.getD i default).key)->(∀i,i<ks'.length->Rel z.St z.w dS (ev (vs'.getD i dv)) (es'.getD i default).val)->
   ∃n x w' St' g',(execOp ρ ⟨dst,op',ty0,pos,after,guard⟩).run P z.w= .ok n w'/\(n= .value x\/n= .skip/\x=undef)/\WSim z St' g' [(r,bM ek dk ev dv ks' vs')] w'/\Rel St' w' g' .any x/\∀q,q∈[r]->g' q=z.g q:=by
  intro es' ks' vs' hsz hrun hbn' hk' hv';let w':World:={z.w with heap:=z.w.heap.setIfInBounds b (.map es' ks'.length)}
  have hget:∀q,q≠b->w'.heap[q]? =z.w.heap[q]? :=fun q hq=>by simp[w',acX (Ne.symm hq)]
  have hStw:∀q,z.St q->w'.heap[q]? =z.w.heap[q]? :=fun q hq=>hget q fun e=>hStb (e▸hq);refine⟨_,undef,w',z.St,z.g.set r (.map (some b)),hrun,.inr ⟨rfl,rfl⟩, ?_,.any _ _,fun q hq=>by simp only[adP]at hq;subst hq;simp[Gh.set,hg]⟩;rw[<-hdel];refine hW.change (w':=w') (d:=r) (v':= .map (some b)) (blk:=bM ek dk ev dv ks' vs') (ro:=some b) (h:=[(r,bM ek dk ev dv ks vs)]) (fun q hq=>by cases hq;exact⟨bM ek dk ev dv ks vs,_,by simp[aJ.get],hg,rfl⟩) rfl rfl rfl (by simp[w']) (fun q _ hq=>hget q fun e=>hq (by rw[e])) (.inr hg) (fun q hq=> .inl (by simpa[cF,bS]using hq)) ?_;exact⟨b,es',rfl,by simp[w',hlt],hsz,hbn',fun i hi=>(hk' i hi).mono (fun _ h=>h) hStw,fun i hi=>(hv' i hi).mono (fun _ h=>h) hStw⟩
 unfold updK updV
 cases hq:lA x ks 0 with
 |none=>
  rw[hq]at hfk;dsimp only
  have hrun:(execOp ρ ⟨dst,op',ty0,pos,after,guard⟩).run P z.w= .ok .skip {z.w with heap:=z.w.heap.setIfInBounds b (.map (es.push ⟨ρ k,ρ v,ks.length⟩) (ks++[x]).length)}:=by
   have:(Instr.mapUpdate mt (ρ m) (ρ k) (ρ v)).run P z.w= .ok () {z.w with heap:=z.w.heap.setIfInBounds b (.map (es.push ⟨ρ k,ρ v,ks.length⟩) (ks.length+1))}:=by
    simp[Instr.mapUpdate,run_underlying hm,hm0,MapKept.run_getObj_map ho,hck',hfk,run_setObj_map _ ho,Result.andThen]
   rw[aaF,acR];rcases hop with rfl|rfl<;>simp[execOp,this]
  refine fin _ _ _ (by simp[hn]) hrun (fun i hi=> ?_) (fun i hi=> ?_) (fun i hi=> ?_)
  ·rw[gT];simp only[aaF,acR]at hi;split
   ·rename_i h;rw[h,hn]
   ·exact hbn i (by omega)
  ·rw[gT];simp only[aaF,acR]at hi;split
   ·rename_i h;rw[h,hn];have e:(ks++[x]).getD ks.length dk=x:=by simp[aaC]
    rw[e];exact h1.closed (hkc x) dS
   ·have e:(ks++[x]).getD i dk=ks.getD i dk:=by
     have:i<ks.length:=by omega
     simp[aaC,acP,this]
    rw[e];exact hk i (by omega)
  ·rw[gT];simp only[aaF,acR]at hi;split
   ·rename_i h;rw[h,hn];have e:(vs++[y]).getD ks.length dv=y:=by rw[<-hl];simp[aaC]
    rw[e];exact h2.closed (hvc y) dS
   ·have e:(vs++[y]).getD i dv=vs.getD i dv:=by
     have:i<vs.length:=by omega
     simp[aaC,acP,this]
    rw[e]
    exact hv i (by omega)
 |some q=>
  rw[hq]at hfk;dsimp only;obtain⟨_,hqlt,hqe⟩:=nF x ks 0 q hq;rw[abW]at hqlt;have hq':q<es.size:=by omega
  have hkq:Rel z.St z.w dS (ek x) (es.getD q default).key:=by
   have:=hk q hqlt;have e:=hqe dk;rw[afQ]at e;rwa [e]at this
  have hs:=hst z.St z.w z.g dS x (ρ k) _ h1 hkq;have ekey:(es[q]?.map (·.key)).getD (ρ k)=(es.getD q default).key:=by simp[hq']
  have hrun:(execOp ρ ⟨dst,op',ty0,pos,after,guard⟩).run P z.w= .ok .skip {z.w with heap:=z.w.heap.setIfInBounds b (.map (es.modify q fun e=>{e with key:=ρ k,val:=ρ v}) ks.length)}:=by
   have:(Instr.mapUpdate mt (ρ m) (ρ k) (ρ v)).run P z.w= .ok () {z.w with heap:=z.w.heap.setIfInBounds b (.map (es.modify q fun e=>{e with key:=ρ k,val:=ρ v}) ks.length)}:=by
    simp only[Instr.mapUpdate,abI,run_underlying hm,hm0,MapKept.run_getObj_map ho,hck',hfk,aaP,afZ,ekey,hs,run_setObj_map _ ho]
   rcases hop with rfl|rfl<;>simp[execOp,this]
  refine fin _ _ _ (by simp[hn]) hrun (fun i hi=> ?_) (fun i hi=> ?_) (fun i hi=> ?_)
  ·rw[lL es q _ i hq'];split
   ·rename_i h;subst h;have:=hbn i hi;simpa[hq']using this
   ·exact hbn i hi
  ·rw[lL es q _ i hq'];split
   ·rename_i h;subst h;have e:=hqe dk;rw[afQ]at e;rw[e];exact h1.closed (hkc x) dS
   ·exact hk i hi
  ·rw[lL es q _ i hq'];split
   ·rename_i h;subst h
    have e:(vs.set i y).getD i dv=y:=by
     have:i<vs.length:=by omega
     simp[aaC,this]
    rw[e];exact h2.closed (hvc y) dS
   ·rename_i h
    have e:(vs.set q y).getD i dv=vs.getD i dv:=by
     simp[aaC,afE (Ne.symm h)]
    rw[e];exact hv i hi
theorem tC {mt kt et:TypeId} (hm:P.underlying mt=some (.map kt et)) (ek:α->V) (hK:aCZ P kt ek) (dk:α) (ev:β->V) (dv zv:β) (hz:zeroV P et=some (ev zv)) (m k:Operand) (ty r:Nat) (ks:List α) (vs:List β) (x:α) (ok:Bool):
  eF P (.lookup mt m k ok) ty [r] [(r,bM ek dk ev dv ks vs)] [.own r,ek x] (if ok then .tup [ev (nG ks vs dv zv x),.bool (aAk ks x)]else ev (nG ks vs dv zv x)) [(r,bM ek dk ev dv ks vs)]:=by
 obtain⟨hkc,hck,hfd,hst⟩:=hK;rintro o ho _ z ρ hW hr;obtain⟨dst,op',ty0,pos,after,guard⟩:=o;dsimp only at ho;subst ho;obtain⟨u,hg,hb⟩:=hW.ok r (bM ek dk ev dv ks vs) (by simp[aJ.get]);obtain⟨b,es,rfl,ho,hn,hbn,hk,hv⟩:=dG.map_inv hb;have h0:=hr 0 (by simp);have h1:=hr 1 (by simp);simp[Op.operands]at h0 h1;have hm0:ρ m= .map (some b):=by have:=h0.own_inv;rw[hg]at this;simpa using this.symm
 have hfk:=hfd z.St z.w z.g x (ρ k) h1 es.toList ks dk (by simpa using hn) fun j hj=>by simpa[aaC]using hk j hj
 have hck':=hck z.St z.w z.g x (ρ k) h1 es.isEmpty;obtain⟨zz,hzr,_,hzrel⟩:=fN (P:=P) (St:=z.St) (w:=z.w) (g:=z.g) hz;unfold nG aAk
 cases hq:lA x ks 0 with
 |none=>
  rw[hq]at hfk;cases ok
  ·exact⟨_,zz,z.w,z.St,z.g,by simp[execOp,Instr.lookup,run_underlying hm,hm0,MapKept.run_getObj_map ho,hck',hfk,hzr,Result.andThen],.inl rfl,hW,hzrel,fun q hq=>rfl⟩
  ·refine⟨_,.tuple #[zz,.bool false],z.w,z.St,z.g,by simp[execOp,Instr.lookup,run_underlying hm,hm0,MapKept.run_getObj_map ho,hck',hfk,hzr,Result.andThen],.inl rfl,hW,.tup _ _ _ rfl fun i hi=> ?_,fun q hq=>rfl⟩
   match i,hi with
   |0,_=>exact hzrel
   |1,_=>exact .bool _ _
 |some q=>
  rw[hq]at hfk;have hqlt:=(nF x ks 0 q hq).2.1;rw[abW]at hqlt;cases ok
  ·exact⟨_,(es.getD q default).val,z.w,z.St,z.g,by simp[execOp,Instr.lookup,run_underlying hm,hm0,MapKept.run_getObj_map ho,hck',hfk,Result.andThen],.inl rfl,hW,eJ (hv q hqlt) rfl,fun q hq=>rfl⟩
  ·refine⟨_,.tuple #[(es.getD q default).val,.bool true],z.w,z.St,z.g,by simp[execOp,Instr.lookup,run_underlying hm,hm0,MapKept.run_getObj_map ho,hck',hfk,Result.andThen],.inl rfl,hW,.tup _ _ _ rfl fun i hi=> ?_,fun q hq=>rfl⟩
   match i,hi with
   |0,_=>exact eJ (hv q hqlt) rfl
   |1,_=>exact .bool _ _
end
section
variable {P:Program} {α β:Type} [DecidableEq α]
def bP (ek:α->V) (dk:α) (ev:β->V) (dv:β) (l:List (α×β)):Blk:=bM ek dk ev dv (l.map (·.1)) (l.map (·.2))
def gA (l:List (α×β)) (x:α) (y:β):List (α×β):=match lA x (l.map (·.1)) 0 with
 |some i=>l.set i (x,y)
 |none=>l++[(x,y)]
def gM (l:List (α×β)) (z:β) (x:α):β:=match l.find? (fun p=>decide (x=p.1))with
 |some p=>p.2
 |none=>z
def hM (l:List (α×β)) (x:α):Bool:=l.any fun p=>decide (x=p.1)
theorem qW (x:α) (z dv:β):∀(l:List (α×β)) (i:Nat),(match lA x (l.map (·.1)) i with|some q=>(l.map (·.2)).getD (q-i) dv|none=>z)=gM l z x/\(lA x (l.map (·.1)) i).isSome=hM l x
 |[],i=>⟨rfl,rfl⟩
 |p::l,i=>by
  obtain⟨ih1,ih2⟩:=qW x z dv l (i+1)
  simp only[abS,lA]
  unfold gM hM at *
  by_cases h:x=p.1
  ·simp[h]
  ·rw[if_neg h,aeA,adH,abV h]
   refine⟨?_,by rw[ih2,adG]⟩
   rw[<-ih1]
   cases hq:lA x (l.map (·.1)) (i+1)with
   |none=>rfl
   |some q=>
    have:=(nF x _ (i+1) q hq).1
    simp only
    rw[show q-i=(q-(i+1))+1 by omega,abP]
end
theorem eR {P:Program} {α β:Type} (ek:α->V) (dk:α) (ev:β->V) (dv:β) (ty r:Nat) (t:TypeId):eF P (.makeMap t none) ty [] [] [] (.own r) [(r,bP ek dk ev dv [])]:=nU ty r t _ _
section
variable {P:Program} {α β:Type} [DecidableEq α]
theorem wA (l:List (α×β)) (x:α) (y:β):(gA l x y).map (·.1)=updK (l.map (·.1)) x/\(gA l x y).map (·.2)=updV (l.map (·.1)) (l.map (·.2)) x y:=by
 unfold gA updK updV
 cases hq:lA x (l.map (·.1)) 0 with
 |none=>simp
 |some i=>
  obtain⟨_,h2,h3⟩:=nF x _ 0 i hq;refine⟨?_,by simp[List.map_set]⟩;simp only[List.map_set];have e:=h3 x;rw[afQ]at e;rw[abW]at h2;apply List.ext_getElem
  ·simp
  ·intro j h4 h5;rw[List.getElem_set];split
   ·rename_i hij;subst hij;rw[aaC,aaO h2]at e;exact e.symm
   ·rfl
theorem fM {mt kt et:TypeId} (hm:P.underlying mt=some (.map kt et)) (ek:α->V) (hK:aCZ P kt ek) (op:Op) (m k v:Operand) (hop:op= .insert mt m k v\/op= .mapUpdate mt m k v) (dk:α) (ev:β->V) (dv:β) (hvc:∀a,(ev a).closed=true) (ty r:Nat) (l:List (α×β)) (x:α) (y:β):
  eF P op ty [r] [(r,bP ek dk ev dv l)] [.own r,ek x,ev y] .any [(r,bP ek dk ev dv (gA l x y))]:=by
 refine(updL_spec hm ek hK op m k v hop dk ev dv hvc ty r (l.map (·.1)) (l.map (·.2)) x y (by simp)).to rfl ?_;unfold bP;rw[(wA l x y).1,(wA l x y).2]
theorem eD {mt kt et:TypeId} (hm:P.underlying mt=some (.map kt et)) (ek:α->V) (hK:aCZ P kt ek) (dk:α) (ev:β->V) (dv zv:β) (hz:zeroV P et=some (ev zv)) (m k:Operand) (ty r:Nat) (l:List (α×β)) (x:α):
  eF P (.lookup mt m k true) ty [r] [(r,bP ek dk ev dv l)] [.own r,ek x] (.tup [ev (gM l zv x),.bool (hM l x)]) [(r,bP ek dk ev dv l)]:=by
 refine(tC hm ek hK dk ev dv zv hz m k ty r (l.map (·.1)) (l.map (·.2)) x true).to ?_ rfl;obtain⟨h1,h2⟩:=qW x zv dv l 0;unfold nG aAk;rw[<-h1,<-h2];rfl
theorem fQ {mt kt et:TypeId} (hm:P.underlying mt=some (.map kt et)) (ek:α->V) (hK:aCZ P kt ek) (dk:α) (ev:β->V) (dv zv:β) (hz:zeroV P et=some (ev zv)) (m k:Operand) (ty r:Nat) (l:List (α×β)) (x:α):
  eF P (.lookup mt m k false) ty [r] [(r,bP ek dk ev dv l)] [.own r,ek x] (ev (gM l zv x)) [(r,bP ek dk ev dv l)]:=by
 refine(tC hm ek hK dk ev dv zv hz m k ty r (l.map (·.1)) (l.map (·.2)) x false).to ?_ rfl;obtain⟨h1,h2⟩:=qW x zv dv l 0;unfold nG;rw[<-h1];rfl
end
section
variable {P:Program} {α β:Type} [DecidableEq α]
end
section
variable {P:Program} {α β:Type} [DecidableEq α]
end
theorem BLe.P {α β:Type} {ek:α->V} {dk:α} {ev:β->V} {dv:β} {l l':List (α×β)} (h:l=l'):BLe (bP ek dk ev dv l) (bP ek dk ev dv l'):=by rw[h];exact .refl _
end Go.Abs
namespace Go.Abs
open Go
abbrev V.i (n:Int):V:= .int .i64 n
abbrev lZ {α:Type} (l:List α):Int:=((l.length:Nat):Int)
theorem idA (p:Prop):p->p:=fun h=>h
theorem bqA (b w:Bool):true=true->b=w->(b==w)=true:=fun _ h=>beq_iff_eq.2 h
section
variable {α:Type} {p q s t u:Prop} [Decidable p] [Decidable q] [Decidable s] [Decidable t] [Decidable u] {x:Option α} {r:α}
theorem ck2 (h:chk p (chk q x)=some r):p/\q/\x=some r:=by
 obtain⟨a,h⟩:=aB h;exact⟨a,aB h⟩
theorem ck3 (h:chk p (chk q (chk s x))=some r):p/\q/\s/\x=some r:=by
 obtain⟨a,h⟩:=aB h;exact⟨a,ck2 h⟩
theorem ck4 (h:chk p (chk q (chk s (chk t x)))=some r):p/\q/\s/\t/\x=some r:=by
 obtain⟨a,h⟩:=aB h;exact⟨a,ck3 h⟩
theorem ck5 (h:chk p (chk q (chk s (chk t (chk u x))))=some r):p/\q/\s/\t/\u/\x=some r:=by
 obtain⟨a,h⟩:=aB h;exact⟨a,ck4 h⟩
end
end Go.Abs
namespace Go.Abs
open Go
def rS :Option (S×Prop)->S
 |some p=>p.1
 |none=>⟨0,[],[],[],0⟩
theorem rS_eq {o:Option (S×Prop)} {φ:Prop} (h:o.map (·.2)=some φ):o=some (rS o,φ):=by
 cases o with
 |none=>cases h
 |some p=>cases h;rfl
end Go.Abs
