/- Part 14 of the proof: AbsM2, AbsR4, AbsM3, AbsM5. -/
import Derived.Test.YtjgboohpholnbaaDoorTpagnZ13
import Derived.DeepKeys3
namespace Go.Abs
open Go Go.MapKept
def KeyE (P:Program) (kt:TypeId) {α:Type} [DecidableEq α] (ek:α→V):Prop:=
 (∀a,(ek a).closed=true)∧
 (∀(St:Nat→Prop) (w:World) (g:Gh) (a:α) (x:Value),Rel St w g (ek a) x→∀e,(Instr.checkKey e 10000 kt x).run P w= .ok () w)∧
 (∀(St:Nat→Prop) (w:World) (g:Gh) (a:α) (x:Value),Rel St w g (ek a) x→∀(l:List MapEntry) (ks:List α) (dk:α),l.length=ks.length→(∀j,j<ks.length→Rel St w dU (ek (ks.getD j dk)) (l.getD j default).key)→(Instr.findKey kt x l).run P w= .ok ((jE a ks 0).map fun q=>(q,(l.getD q default).val)) w)∧
 (∀(St:Nat→Prop) (w:World) (g g':Gh) (a:α) (x y:Value),Rel St w g (ek a) x→Rel St w g' (ek a) y→(Instr.keyThatStays y x).run P w= .ok x w)
theorem kI {α:Type} [DecidableEq α] (x:α):∀(l:List α) (i q:Nat),jE x l i=some q→i≤q∧q<i+l.length∧∀d,l.getD (q-i) d=x
 |[],_,_,h=>by cases h
 |a::l,i,q,h=>by
  simp only[jE]at h
  split at h
  ·rename_i he
   cases h
   refine⟨Nat.le_refl _,by simp,fun d=> ?_⟩
   rw[Nat.sub_self]
   exact he.symm
  ·obtain⟨h1,h2,h3⟩:=kI x l (i+1) q h
   refine⟨by omega,by simp only[List.length_cons];omega,fun d=> ?_⟩
   rw[show q-i=(q-(i+1))+1 by omega,List.getD_cons_succ]
   exact h3 d
section
variable {P:Program} {kt:TypeId} {α:Type} [DecidableEq α] {ek:α→V}
theorem yQ {St:Nat→Prop} {w:World} {g g':Gh} {d:TypeDesc} {v:V} {x y:Value} (hk:keyOk d v=true) (hx:Rel St w g v x) (hy:Rel St w g' v y):x=y:=by
 unfold keyOk at hk;split at hk
 ·rw[hx.int_inv,hy.int_inv]
 ·obtain⟨s,rfl,h1⟩:=hx.str_inv;obtain⟨u,rfl,h2⟩:=hy.str_inv;congr 1;exact ByteArray.ext (Array.ext' (h1.trans h2.symm))
 ·rw[hx.b16_inv,hy.b16_inv]
 ·cases hk
theorem yX {d:TypeDesc} (hd:P.underlying kt=some d) (hk:∀a b,sO d (ek a) (ek b)=some (decide (a=b))) (hko:∀a,keyOk d (ek a)=true) (hc:∀a,(ek a).closed=true):KeyE P kt ek:=by
 refine⟨hc,fun St w g a x hx e=>run_checkKey hd (xA (hko a) hx) e 9999,fun St w g a x hx l ks dk hl hr=> ?_,fun St w g g' a x y hx hy=> ?_⟩
 ·obtain⟨h1,_⟩:=rW hx ks.length 0 l (vM hk a dk ks) hl fun j hj=>by simpa using hr j hj
  rw[run_findKey hd h1];simp
 ·rw[yQ (hko a) hx hy];exact run_keyThatStays (xA (hko a) hy)
theorem lW {St:Nat→Prop} {w:World} {g:Gh}:∀(d:Nat) {t:TypeId} {x y:V} {r:Bool} {a:Value},eqV P d t x y=some r→Rel St w g x a→∀e,(Instr.checkKey e d t a).run P w= .ok () w:=by
 intro d
 induction d with
 |zero=>intro t x y r a h;simp[eqV]at h
 |succ d ih=>
  intro t x y r a h ha e;unfold eqV at h;split at h
  ·rename_i p q hu;have:=ha.bool_inv;subst this;simp[Instr.checkKey,run_underlying hu]
  ·rename_i k0 k p k' q hu;have:=ha.int_inv;subst this;simp[Instr.checkKey,run_underlying hu]
  ·rename_i k0 p q hu;have:=ha.b16_inv;subst this;simp[Instr.checkKey,run_underlying hu]
  ·rename_i p q hu;obtain⟨s,rfl,rfl⟩:=ha.str_inv;simp[Instr.checkKey,run_underlying hu]
  ·rename_i fields xs ys hu;split at h
   case isFalse=>cases h
   obtain⟨vx,rfl,hlx,hrx⟩:=ha.agg_inv;rw[Instr.checkKey];simp only[Sem.run_bind,run_underlying hu,Result.andThen_ok];rw[←Array.forIn_toList];generalize fields.toList=fs at h;clear hu
   induction fs generalizing r with
   |nil=>simp
   |cons f fs ihf=>
    simp only[List.foldr_cons]at h;simp only[List.forIn_cons];by_cases hn:f.name= "_"
    ·rw[if_pos hn]at h;simp only[Sem.run_bind,hn,ne_eq,not_true_eq_false,if_false,Sem.run_pure,Result.andThen_ok];exact ihf h
    ·rw[if_neg hn]at h;split at h
     case h_2=>cases h
     rename_i pa pb pr e1 e2 e3;split at h
     case h_2=>cases h
     rename_i q e4;cases h;obtain⟨ya,hya,hra⟩:=gE e1 hlx hrx;have hq:=ih e4 hra e;simp only[Sem.run_bind,hn,ne_eq,not_false_eq_true,if_true,hya,hq,Result.andThen_ok,Sem.run_pure];exact ihf e3
  ·cases h
theorem pM {St:Nat→Prop} {w:World} {g:Gh} (he:∀a b,eqV P 10000 kt (ek a) (ek b)=some (decide (a=b))) {a:α} {x:Value} (hx:Rel St w g (ek a) x) (dk:α):∀(l:List MapEntry) (ks:List α) (i:Nat),l.length=ks.length→(∀j,j<ks.length→Rel St w dU (ek (ks.getD j dk)) (l.getD j default).key)→
  (Instr.findAsking kt x l i).run P w= .ok ((jE a ks i).map fun q=>(q,(l.getD (q-i) default).val)) w
 |[],[],i,_,_=>by simp[Instr.findAsking,jE]
 |[],_::_,_,h,_=>by simp at h
 |_::_,[],_,h,_=>by simp at h
 |e::l,k::ks,i,hl,hr=>by
  have h0:=hr 0 (by simp)
  simp only[List.getD_cons_zero]at h0
  have heq:(Op.equal kt x e.key).run P w= .ok (decide (a=k)) w:=run_eqV 10000 (he a k) hx (gX h0 rfl)
  simp only[Instr.findAsking,Sem.run_bind,heq,Result.andThen_ok,jE]
  by_cases hak:a=k
  ·simp[hak]
  ·have ih:=pM he hx dk l ks (i+1) (by simpa using hl) fun j hj=>by
    have:=hr (j+1) (by simp only[List.length_cons];omega)
    simpa using this
   rw[decide_eq_false hak]
   simp only[Bool.false_eq_true,if_false,ih,if_neg hak]
   congr 1
   cases hq:jE a ks (i+1)with
   |none=>rfl
   |some q=>
    have:=(kI a ks (i+1) q hq).1
    simp only[Option.map_some,Option.some.injEq,Prod.mk.injEq,true_and]
    rw[show q-i=(q-(i+1))+1 by omega,List.getD_cons_succ]
def sD :V→Bool
 | .int _ _=>true
 | .str _=>true
 | .b16 _=>true
 | .bool _=>true
 |_=>false
theorem nH {St:Nat→Prop} {w:World} {g g':Gh} {v:V} {x y:Value} (hk:sD v=true) (hx:Rel St w g v x) (hy:Rel St w g' v y):x=y∧∀n,Instr.sameBits n x x=true:=by
 unfold sD at hk;split at hk
 ·rw[hx.int_inv,hy.int_inv];exact⟨rfl,fun n=>by cases n<;>simp[Instr.sameBits]⟩
 ·obtain⟨s,rfl,h1⟩:=hx.str_inv;obtain⟨u,rfl,h2⟩:=hy.str_inv;have e:s=u:=ByteArray.ext (Array.ext' (h1.trans h2.symm));subst e;exact⟨rfl,fun n=>by cases n<;>simp[Instr.sameBits,bytes_beq]⟩
 ·rw[hx.b16_inv,hy.b16_inv];exact⟨rfl,fun n=>by cases n<;>simp[Instr.sameBits]⟩
 ·rw[hx.bool_inv,hy.bool_inv];exact⟨rfl,fun n=>by cases n<;>simp[Instr.sameBits]⟩
 ·cases hk
theorem agg_same {St:Nat→Prop} {w:World} {g g':Gh} {cs:List V} {x y:Value} (hk:cs.all sD=true) (hx:Rel St w g (.agg cs) x) (hy:Rel St w g' (.agg cs) y):x=y∧Instr.sameBits 10000 x x=true:=by
 obtain⟨vx,rfl,lx,rx⟩:=hx.agg_inv;obtain⟨vy,rfl,ly,ry⟩:=hy.agg_inv
 have hp:∀i,i<cs.length→sD (cs.getD i .any)=true:=fun i hi=>by
  rw[List.all_eq_true]at hk;rw[List.getD_eq_getElem?_getD,List.getElem?_eq_getElem hi];exact hk _ (List.getElem_mem ..)
 have e:vx=vy:=by
  apply Array.ext
  ·omega
  ·intro i h1 h2;have hi:i<cs.length:=by omega
   have:=(nH (hp i hi) (rx i hi) (ry i hi)).1;simpa[h1,h2]using this
 subst e;refine⟨rfl, ?_⟩
 have hz:∀p,p∈vx.toList.zip vx.toList→Instr.sameBits 9999 p.1 p.2=true:=by
  intro p hp';obtain⟨i,hi,rfl⟩:=List.mem_iff_getElem.1 hp';have hi':i<vx.size:=by simpa using hi
  have:=(nH (hp i (by omega)) (rx i (by omega)) (rx i (by omega))).2 9999;simpa[hi']using this
 show Instr.sameBits (9999+1) (.agg vx) (.agg vx)=true;simp only[Instr.sameBits,beq_self_eq_true,Bool.true_and,List.all_eq_true];exact hz
theorem nN (_dk:α) (hcs:∀a,∃cs,ek a= .agg cs∧cs.all sD=true) {fields:Array Field} (hd:P.underlying kt=some (.struct fields)) (he:∀a b,eqV P 10000 kt (ek a) (ek b)=some (decide (a=b))) (hc:∀a,(ek a).closed=true):KeyE P kt ek:=by
 refine⟨hc,fun St w g a x hx e=>lW 10000 (he a a) hx e,fun St w g a x hx l ks dk' hl hr=> ?_,fun St w g g' a x y hx hy=> ?_⟩
 ·have h1:=pM he hx dk' l ks 0 hl hr;simp only[Nat.sub_zero]at h1;unfold Instr.findKey;simp only[Sem.run_bind,run_underlying hd,Result.andThen_ok]
  cases l with
  |nil=>
   have:ks=[]:=List.eq_nil_of_length_eq_zero (by simpa using hl.symm);subst this
   simp[Instr.findNow,jE]
  |cons e l=>
   obtain⟨cs,hcs',_⟩:=hcs a;have hx':=hx;rw[hcs']at hx';obtain⟨vx,rfl,_⟩:=hx'.agg_inv;have:Instr.findNow (.struct fields) (.agg vx) (e::l) 0=none:=by simp[Instr.findNow,Instr.sameNow]
   rw[this];exact h1
 ·obtain⟨cs,hcs',hp⟩:=hcs a;rw[hcs']at hx hy;obtain⟨e,hs⟩:=agg_same hp hx hy;subst e;unfold Instr.keyThatStays;rw[hs];rfl
end
section
variable {P:Program} {α β:Type} [DecidableEq α]
def updK (ks:List α) (x:α):List α:=match jE x ks 0 with
 |some _=>ks
 |none=>ks++[x]
def updV (ks:List α) (vs:List β) (x:α) (y:β):List β:=match jE x ks 0 with
 |some i=>vs.set i y
 |none=>vs++[y]
theorem iT (es:Array MapEntry) (q:Nat) (f:MapEntry→MapEntry) (i:Nat) (hq:q<es.size):(es.modify q f).getD i default=if i=q then f (es.getD q default)else es.getD i default:=by
 by_cases h:i=q
 ·subst h;simp[hq,Array.getElem_modify]
 ·simp only[if_neg h,Array.getD_eq_getD_getElem?];rw[Array.getElem?_modify,if_neg (Ne.symm h)]
theorem updL_spec {mt kt et:TypeId} (hm:P.underlying mt=some (.map kt et)) (ek:α→V) (hK:KeyE P kt ek) (op:Op) (m k v:Operand) (hop:op= .insert mt m k v∨op= .mapUpdate mt m k v) (dk:α) (ev:β→V) (dv:β) (hvc:∀a,(ev a).closed=true) (ty r:Nat) (ks:List α) (vs:List β) (x:α) (y:β) (hl:vs.length=ks.length):
  dO P op ty [r] [(r,bM ek dk ev dv ks vs)] [.own r,ek x,ev y] .any [(r,bM ek dk ev dv (updK ks x) (updV ks vs x y))]:=by
 obtain⟨hkc,hck,hfd,hst⟩:=hK;rintro o ho _ z ρ hW hr;obtain⟨dst,op',ty0,pos,after,guard⟩:=o;dsimp only at ho;subst ho;obtain⟨u,hg,hb⟩:=hW.ok r (bM ek dk ev dv ks vs) (by simp[aG.get]);obtain⟨b,es,rfl,ho,hn,hbn,hk,hv⟩:=cJ.map_inv hb;have h0:=hr 0 (by simp);have h1:=hr 1 (by simp);have h2:=hr 2 (by simp);have hops:op'.operands.toList=[m,k,v]:=by rcases hop with rfl|rfl<;>simp[Op.operands]
 rw[hops]at h0 h1 h2;simp only[List.getD_cons_zero,List.getD_cons_succ]at h0 h1 h2;have hm0:ρ m= .map (some b):=by have:=h0.own_inv;rw[hg]at this;simpa using this.symm
 have hfk:=hfd z.St z.w z.g x (ρ k) h1 es.toList ks dk (by simpa using hn) fun j hj=>by simpa[List.getD_eq_getElem?_getD]using hk j hj
 have hck':=hck z.St z.w z.g x (ρ k) h1 false;have hlt:=(Array.getElem?_eq_some_iff.1 ho).1;have hStb:¬z.St b:=(hW.ow r (bM ek dk ev dv ks vs) _ (by simp[aG.get]) hg b rfl).1;have hdel:aG.del [(r,bM ek dk ev dv ks vs)] r=[]:=by simp[aG.del]
 -- what is left when the block is the new one
 have fin:∀(es':Array MapEntry) (ks':List α) (vs':List β),es'.size=ks'.length→(execOp ρ ⟨dst,op',ty0,pos,after,guard⟩).run P z.w= .ok .skip {z.w with heap:=z.w.heap.setIfInBounds b (.map es' ks'.length)}→
   (∀i,i<ks'.length→(es'.getD i default).born=i)→(∀i,i<ks'.length→Rel z.St z.w dU (ek (ks'.getD i dk)) (es'.getD i default).key)→(∀i,i<ks'.length→Rel z.St z.w dU (ev (vs'.getD i dv)) (es'.getD i default).val)→
   ∃n x w' St' g',(execOp ρ ⟨dst,op',ty0,pos,after,guard⟩).run P z.w= .ok n w'∧(n= .value x∨n= .skip∧x=undef)∧WSim z St' g' [(r,bM ek dk ev dv ks' vs')] w'∧Rel St' w' g' .any x∧∀q,q∈[r]→g' q=z.g q:=by
  intro es' ks' vs' hsz hrun hbn' hk' hv';let w':World:={z.w with heap:=z.w.heap.setIfInBounds b (.map es' ks'.length)}
  have hget:∀q,q≠b→w'.heap[q]? =z.w.heap[q]? :=fun q hq=>by simp[w',Array.getElem?_setIfInBounds_ne (Ne.symm hq)]
  have hStw:∀q,z.St q→w'.heap[q]? =z.w.heap[q]? :=fun q hq=>hget q fun e=>hStb (e▸hq);refine⟨_,undef,w',z.St,z.g.set r (.map (some b)),hrun,.inr ⟨rfl,rfl⟩, ?_,.any _ _,fun q hq=>by simp only[List.mem_singleton]at hq;subst hq;simp[Gh.set,hg]⟩;rw[←hdel];refine hW.change (w':=w') (d:=r) (v':= .map (some b)) (blk:=bM ek dk ev dv ks' vs') (ro:=some b) (h:=[(r,bM ek dk ev dv ks vs)]) (fun q hq=>by cases hq;exact⟨bM ek dk ev dv ks vs,_,by simp[aG.get],hg,rfl⟩) rfl rfl rfl (by simp[w']) (fun q _ hq=>hget q fun e=>hq (by rw[e])) (.inr hg) (fun q hq=> .inl (by simpa[bK,bC]using hq)) ?_;exact⟨b,es',rfl,by simp[w',hlt],hsz,hbn',fun i hi=>(hk' i hi).mono (fun _ h=>h) hStw,fun i hi=>(hv' i hi).mono (fun _ h=>h) hStw⟩
 unfold updK updV
 cases hq:jE x ks 0 with
 |none=>
  rw[hq]at hfk;dsimp only
  have hrun:(execOp ρ ⟨dst,op',ty0,pos,after,guard⟩).run P z.w= .ok .skip {z.w with heap:=z.w.heap.setIfInBounds b (.map (es.push ⟨ρ k,ρ v,ks.length⟩) (ks++[x]).length)}:=by
   have:(Instr.mapUpdate mt (ρ m) (ρ k) (ρ v)).run P z.w= .ok () {z.w with heap:=z.w.heap.setIfInBounds b (.map (es.push ⟨ρ k,ρ v,ks.length⟩) (ks.length+1))}:=by
    simp[Instr.mapUpdate,run_underlying hm,hm0,MapKept.run_getObj_map ho,hck',hfk,run_setObj_map _ ho,Result.andThen]
   rw[List.length_append,List.length_singleton];rcases hop with rfl|rfl<;>simp[execOp,this]
  refine fin _ _ _ (by simp[hn]) hrun (fun i hi=> ?_) (fun i hi=> ?_) (fun i hi=> ?_)
  ·rw[nU];simp only[List.length_append,List.length_singleton]at hi;split
   ·rename_i h;rw[h,hn]
   ·exact hbn i (by omega)
  ·rw[nU];simp only[List.length_append,List.length_singleton]at hi;split
   ·rename_i h;rw[h,hn];have e:(ks++[x]).getD ks.length dk=x:=by simp[List.getD_eq_getElem?_getD]
    rw[e];exact h1.closed (hkc x) dU
   ·have e:(ks++[x]).getD i dk=ks.getD i dk:=by
     have:i<ks.length:=by omega
     simp[List.getD_eq_getElem?_getD,List.getElem?_append,this]
    rw[e];exact hk i (by omega)
  ·rw[nU];simp only[List.length_append,List.length_singleton]at hi;split
   ·rename_i h;rw[h,hn];have e:(vs++[y]).getD ks.length dv=y:=by rw[←hl];simp[List.getD_eq_getElem?_getD]
    rw[e];exact h2.closed (hvc y) dU
   ·have e:(vs++[y]).getD i dv=vs.getD i dv:=by
     have:i<vs.length:=by omega
     simp[List.getD_eq_getElem?_getD,List.getElem?_append,this]
    rw[e]
    exact hv i (by omega)
 |some q=>
  rw[hq]at hfk;dsimp only;obtain⟨_,hqlt,hqe⟩:=kI x ks 0 q hq;rw[Nat.zero_add]at hqlt;have hq':q<es.size:=by omega
  have hkq:Rel z.St z.w dU (ek x) (es.getD q default).key:=by
   have:=hk q hqlt;have e:=hqe dk;rw[Nat.sub_zero]at e;rwa [e]at this
  have hs:=hst z.St z.w z.g dU x (ρ k) _ h1 hkq;have ekey:(es[q]?.map (·.key)).getD (ρ k)=(es.getD q default).key:=by simp[hq']
  have hrun:(execOp ρ ⟨dst,op',ty0,pos,after,guard⟩).run P z.w= .ok .skip {z.w with heap:=z.w.heap.setIfInBounds b (.map (es.modify q fun e=>{e with key:=ρ k,val:=ρ v}) ks.length)}:=by
   have:(Instr.mapUpdate mt (ρ m) (ρ k) (ρ v)).run P z.w= .ok () {z.w with heap:=z.w.heap.setIfInBounds b (.map (es.modify q fun e=>{e with key:=ρ k,val:=ρ v}) ks.length)}:=by
    simp only[Instr.mapUpdate,Sem.run_bind,run_underlying hm,hm0,MapKept.run_getObj_map ho,hck',hfk,Result.andThen_ok,Option.map_some,ekey,hs,run_setObj_map _ ho]
   rcases hop with rfl|rfl<;>simp[execOp,this]
  refine fin _ _ _ (by simp[hn]) hrun (fun i hi=> ?_) (fun i hi=> ?_) (fun i hi=> ?_)
  ·rw[iT es q _ i hq'];split
   ·rename_i h;subst h;have:=hbn i hi;simpa[hq']using this
   ·exact hbn i hi
  ·rw[iT es q _ i hq'];split
   ·rename_i h;subst h;have e:=hqe dk;rw[Nat.sub_zero]at e;rw[e];exact h1.closed (hkc x) dU
   ·exact hk i hi
  ·rw[iT es q _ i hq'];split
   ·rename_i h;subst h
    have e:(vs.set i y).getD i dv=y:=by
     have:i<vs.length:=by omega
     simp[List.getD_eq_getElem?_getD,this]
    rw[e];exact h2.closed (hvc y) dU
   ·rename_i h
    have e:(vs.set q y).getD i dv=vs.getD i dv:=by
     simp[List.getD_eq_getElem?_getD,List.getElem?_set_ne (Ne.symm h)]
    rw[e];exact hv i hi
theorem pG {mt kt et:TypeId} (hm:P.underlying mt=some (.map kt et)) (ek:α→V) (hK:KeyE P kt ek) (dk:α) (ev:β→V) (dv zv:β) (hz:zeroV P et=some (ev zv)) (m k:Operand) (ty r:Nat) (ks:List α) (vs:List β) (x:α) (ok:Bool):
  dO P (.lookup mt m k ok) ty [r] [(r,bM ek dk ev dv ks vs)] [.own r,ek x] (if ok then .tup [ev (getM ks vs dv zv x),.bool (hasM ks x)]else ev (getM ks vs dv zv x)) [(r,bM ek dk ev dv ks vs)]:=by
 obtain⟨hkc,hck,hfd,hst⟩:=hK;rintro o ho _ z ρ hW hr;obtain⟨dst,op',ty0,pos,after,guard⟩:=o;dsimp only at ho;subst ho;obtain⟨u,hg,hb⟩:=hW.ok r (bM ek dk ev dv ks vs) (by simp[aG.get]);obtain⟨b,es,rfl,ho,hn,hbn,hk,hv⟩:=cJ.map_inv hb;have h0:=hr 0 (by simp);have h1:=hr 1 (by simp);simp[Op.operands]at h0 h1;have hm0:ρ m= .map (some b):=by have:=h0.own_inv;rw[hg]at this;simpa using this.symm
 have hfk:=hfd z.St z.w z.g x (ρ k) h1 es.toList ks dk (by simpa using hn) fun j hj=>by simpa[List.getD_eq_getElem?_getD]using hk j hj
 have hck':=hck z.St z.w z.g x (ρ k) h1 es.isEmpty;obtain⟨zz,hzr,_,hzrel⟩:=eJ (P:=P) (St:=z.St) (w:=z.w) (g:=z.g) hz;unfold getM hasM
 cases hq:jE x ks 0 with
 |none=>
  rw[hq]at hfk;cases ok
  ·exact⟨_,zz,z.w,z.St,z.g,by simp[execOp,Instr.lookup,run_underlying hm,hm0,MapKept.run_getObj_map ho,hck',hfk,hzr,Result.andThen],.inl rfl,hW,hzrel,fun q hq=>rfl⟩
  ·refine⟨_,.tuple #[zz,.bool false],z.w,z.St,z.g,by simp[execOp,Instr.lookup,run_underlying hm,hm0,MapKept.run_getObj_map ho,hck',hfk,hzr,Result.andThen],.inl rfl,hW,.tup _ _ _ rfl fun i hi=> ?_,fun q hq=>rfl⟩
   match i,hi with
   |0,_=>exact hzrel
   |1,_=>exact .bool _ _
 |some q=>
  rw[hq]at hfk;have hqlt:=(kI x ks 0 q hq).2.1;rw[Nat.zero_add]at hqlt;cases ok
  ·exact⟨_,(es.getD q default).val,z.w,z.St,z.g,by simp[execOp,Instr.lookup,run_underlying hm,hm0,MapKept.run_getObj_map ho,hck',hfk,Result.andThen],.inl rfl,hW,gX (hv q hqlt) rfl,fun q hq=>rfl⟩
  ·refine⟨_,.tuple #[(es.getD q default).val,.bool true],z.w,z.St,z.g,by simp[execOp,Instr.lookup,run_underlying hm,hm0,MapKept.run_getObj_map ho,hck',hfk,Result.andThen],.inl rfl,hW,.tup _ _ _ rfl fun i hi=> ?_,fun q hq=>rfl⟩
   match i,hi with
   |0,_=>exact gX (hv q hqlt) rfl
   |1,_=>exact .bool _ _
end
section
variable {P:Program} {α β:Type} [DecidableEq α]
def bP (ek:α→V) (dk:α) (ev:β→V) (dv:β) (l:List (α×β)):Blk:=bM ek dk ev dv (l.map (·.1)) (l.map (·.2))
def mV (l:List (α×β)) (x:α) (y:β):List (α×β):=match jE x (l.map (·.1)) 0 with
 |some i=>l.set i (x,y)
 |none=>l++[(x,y)]
def gM (l:List (α×β)) (z:β) (x:α):β:=match l.find? (fun p=>decide (x=p.1))with
 |some p=>p.2
 |none=>z
def hM (l:List (α×β)) (x:α):Bool:=l.any fun p=>decide (x=p.1)
theorem nR (x:α) (z dv:β):∀(l:List (α×β)) (i:Nat),(match jE x (l.map (·.1)) i with|some q=>(l.map (·.2)).getD (q-i) dv|none=>z)=gM l z x∧(jE x (l.map (·.1)) i).isSome=hM l x
 |[],i=>⟨rfl,rfl⟩
 |p::l,i=>by
  obtain⟨ih1,ih2⟩:=nR x z dv l (i+1)
  simp only[List.map_cons,jE]
  unfold gM hM at *
  by_cases h:x=p.1
  ·simp[h]
  ·rw[if_neg h,List.find?_cons,List.any_cons,decide_eq_false h]
   refine⟨?_,by rw[ih2,Bool.false_or]⟩
   rw[←ih1]
   cases hq:jE x (l.map (·.1)) (i+1)with
   |none=>rfl
   |some q=>
    have:=(kI x _ (i+1) q hq).1
    simp only
    rw[show q-i=(q-(i+1))+1 by omega,List.getD_cons_succ]
end
theorem kH {P:Program} {α β:Type} (ek:α→V) (dk:α) (ev:β→V) (dv:β) (ty r:Nat) (t:TypeId):dO P (.makeMap t none) ty [] [] [] (.own r) [(r,bP ek dk ev dv [])]:=sG ty r t _ _
section
variable {P:Program} {α β:Type} [DecidableEq α]
theorem rN (l:List (α×β)) (x:α) (y:β):(mV l x y).map (·.1)=updK (l.map (·.1)) x∧(mV l x y).map (·.2)=updV (l.map (·.1)) (l.map (·.2)) x y:=by
 unfold mV updK updV
 cases hq:jE x (l.map (·.1)) 0 with
 |none=>simp
 |some i=>
  obtain⟨_,h2,h3⟩:=kI x _ 0 i hq;refine⟨?_,by simp[List.map_set]⟩;simp only[List.map_set];have e:=h3 x;rw[Nat.sub_zero]at e;rw[Nat.zero_add]at h2;apply List.ext_getElem
  ·simp
  ·intro j h4 h5;rw[List.getElem_set];split
   ·rename_i hij;subst hij;rw[List.getD_eq_getElem?_getD,List.getElem?_eq_getElem h2]at e;exact e.symm
   ·rfl
theorem mU {mt kt et:TypeId} (hm:P.underlying mt=some (.map kt et)) (ek:α→V) (hK:KeyE P kt ek) (op:Op) (m k v:Operand) (hop:op= .insert mt m k v∨op= .mapUpdate mt m k v) (dk:α) (ev:β→V) (dv:β) (hvc:∀a,(ev a).closed=true) (ty r:Nat) (l:List (α×β)) (x:α) (y:β):
  dO P op ty [r] [(r,bP ek dk ev dv l)] [.own r,ek x,ev y] .any [(r,bP ek dk ev dv (mV l x y))]:=by
 refine(updL_spec hm ek hK op m k v hop dk ev dv hvc ty r (l.map (·.1)) (l.map (·.2)) x y (by simp)).to rfl ?_;unfold bP;rw[(rN l x y).1,(rN l x y).2]
theorem pF {mt kt et:TypeId} (hm:P.underlying mt=some (.map kt et)) (ek:α→V) (hK:KeyE P kt ek) (dk:α) (ev:β→V) (dv zv:β) (hz:zeroV P et=some (ev zv)) (m k:Operand) (ty r:Nat) (l:List (α×β)) (x:α):
  dO P (.lookup mt m k true) ty [r] [(r,bP ek dk ev dv l)] [.own r,ek x] (.tup [ev (gM l zv x),.bool (hM l x)]) [(r,bP ek dk ev dv l)]:=by
 refine(pG hm ek hK dk ev dv zv hz m k ty r (l.map (·.1)) (l.map (·.2)) x true).to ?_ rfl;obtain⟨h1,h2⟩:=nR x zv dv l 0;unfold getM hasM;rw[←h1,←h2];rfl
theorem vF {mt kt et:TypeId} (hm:P.underlying mt=some (.map kt et)) (ek:α→V) (hK:KeyE P kt ek) (dk:α) (ev:β→V) (dv zv:β) (hz:zeroV P et=some (ev zv)) (m k:Operand) (ty r:Nat) (l:List (α×β)) (x:α):
  dO P (.lookup mt m k false) ty [r] [(r,bP ek dk ev dv l)] [.own r,ek x] (ev (gM l zv x)) [(r,bP ek dk ev dv l)]:=by
 refine(pG hm ek hK dk ev dv zv hz m k ty r (l.map (·.1)) (l.map (·.2)) x false).to ?_ rfl;obtain⟨h1,h2⟩:=nR x zv dv l 0;unfold getM;rw[←h1];rfl
end
section
variable {P:Program} {α β:Type} [DecidableEq α]
end
section
variable {P:Program} {α β:Type} [DecidableEq α]
end
theorem BLe.P {α β:Type} {ek:α→V} {dk:α} {ev:β→V} {dv:β} {l l':List (α×β)} (h:l=l'):BLe (bP ek dk ev dv l) (bP ek dk ev dv l'):=by rw[h];exact .refl _
end Go.Abs
namespace Go.Abs
open Go
abbrev V.i (n:Int):V:= .int .i64 n
abbrev lZ {α:Type} (l:List α):Int:=((l.length:Nat):Int)
theorem idA (p:Prop):p→p:=fun h=>h
theorem bqA (b w:Bool):true=true→b=w→(b==w)=true:=fun _ h=>beq_iff_eq.2 h
section
variable {α:Type} {p q s t u:Prop} [Decidable p] [Decidable q] [Decidable s] [Decidable t] [Decidable u] {x:Option α} {r:α}
theorem ck2 (h:chk p (chk q x)=some r):p∧q∧x=some r:=by
 obtain⟨a,h⟩:=aB h;exact⟨a,aB h⟩
theorem ck3 (h:chk p (chk q (chk s x))=some r):p∧q∧s∧x=some r:=by
 obtain⟨a,h⟩:=aB h;exact⟨a,ck2 h⟩
theorem ck4 (h:chk p (chk q (chk s (chk t x)))=some r):p∧q∧s∧t∧x=some r:=by
 obtain⟨a,h⟩:=aB h;exact⟨a,ck3 h⟩
theorem ck5 (h:chk p (chk q (chk s (chk t (chk u x))))=some r):p∧q∧s∧t∧u∧x=some r:=by
 obtain⟨a,h⟩:=aB h;exact⟨a,ck4 h⟩
end
end Go.Abs
namespace Go.Abs
open Go
abbrev cA {α:Type} (f:α→V) (d:α) (n:Nat) (l:List α):List V:=(List.range n).map fun i=>f (l.getD i d)
abbrev bA {α:Type} (e:TypeId) (f:α→V) (d:α) (n:Nat) (l:List α):Blk:= .cells e (cA f d n l)
theorem uP {α:Type} (f:α→V) (d:α) (n:Nat) (l:List α) (i:Nat) (h:i<n):(cA f d n l).getD i .any=f (l.getD i d):=by
 simp[List.getD_eq_getElem?_getD,h]
theorem jZ {α:Type} (f:α→V) (d:α) (n:Nat) (l:List α):(cA f d n l).length=n:=by simp
theorem pH {P:Program} {α:Type} {t:TypeId} (ha:aggT P t=some false) (hs:kV P t=some 1) (x:Operand) (ty r:Nat) (e:TypeId) (f:α→V) (d:α) (N:Nat) (l:List α) (i:Nat) (hi:i<N):
  dO P (.load t x) ty [r] [(r,bA e f d N l)] [.ptr r i] (f (l.getD i d)) [(r,bA e f d N l)]:=by
 rintro o ho _ z ρ hW hr;obtain⟨dst,op',ty0,pos,after,guard⟩:=o;dsimp only at ho;subst ho;have h0:=hr 0 (by simp);simp[Op.operands]at h0
 have hv:sK P [(r,bA e f d N l)] t (.ptr r i)=some (f (l.getD i d),True):=by
  unfold sK rO;rw[ha,hs];simp only[aG.get,if_true];rw[if_pos (by rw[jZ];exact hi)];rw[uP f d N l i hi];rfl
 obtain⟨y,h2,h3⟩:=nE (fun q b hq=>hW.ok q b hq) h0 hv trivial;exact⟨_,y,z.w,z.St,z.g,by simp[execOp,h2,Result.andThen],.inl rfl,hW,h3,fun q hq=>rfl⟩
theorem nB {P:Program} {α:Type} {t:TypeId} (hs:kV P t=some 1) (p x:Operand) (ty r:Nat) (e:TypeId) (f:α→V) (hf:∀a,(f a).isOne=true) (d:α) (N:Nat) (l:List α) (i:Nat) (y:α) (hi0:i<N∧i<l.length):
  dO P (.store t p x) ty [r] [(r,bA e f d N l)] [.ptr r i,f y] .any [(r,bA e f d N (l.set i y))]:=by
 rintro o ho _ z ρ hW hr;obtain⟨dst,op',ty0,pos,after,guard⟩:=o;dsimp only at ho;subst ho;have hi:=hi0.1;have h0:=hr 0 (by simp);have h1:=hr 1 (by simp);simp[Op.operands]at h0 h1;have hval:(f y).isVal=true:=by have:=hf y;unfold V.isOne at this;simp only[Bool.and_eq_true]at this;exact this.1
 have hcl:(f y).cells=[f y]:=by
  have:=hf y;unfold V.isOne at this;revert this;cases f y<;>simp[V.cells]
 have hdel:aG.del [(r,bA e f d N l)] r=[]:=by simp[aG.del]
 obtain⟨hlx,hrx⟩:=h1.cells hval;obtain⟨u,hgu,b,vals,rfl,hb,hl,hrv,hone⟩:=hW.ok r (bA e f d N l) (by simp[aG.get]);rw[hcl]at hlx hrx
 have hpe:ρ p= .pointer (some ⟨b,i,none⟩):=by
  generalize hp:ρ p=pv at h0
  cases h0 with
  |ptr _ _ _ b' hg=>rw[hg]at hgu;cases hgu;rfl
 have hll:vals.size=N:=by rw[jZ]at hl;exact hl
 have hx1:(ρ x).cells.size=1:=by simpa using hlx
 have hone1:((ρ x).cells.getD 0 undef).oneCell'=true:=(hrx 0 (by simp)).isOne (by simpa using hf y)
 have hrun := gD (P := P) (t := t) (o := i) (x := ρ x) (k := 1) hs hx1 hb (by omega) (fun j hj=>by
  have:j=0:=by omega
  subst this;exact hone1)
 have hnb:¬z.St b:=(hW.ow r (bA e f d N l) _ (by simp[aG.get]) hgu b rfl).1;generalize hrow:(vals.toList.take i++(ρ x).cells.toList++vals.toList.drop (i+(ρ x).cells.toList.length)).toArray=row at hrun;have hStw:∀k,z.St k→(z.w.setRow b row).heap[k]? =z.w.heap[k]? :=fun k hk=>setRow_other z.w b k _ (fun e=>hnb (e▸hk));refine⟨_,undef,z.w.setRow b row,z.St,z.g.set r (.pointer (some ⟨b,0,none⟩)), ?_,.inr ⟨rfl,rfl⟩, ?_,.any _ _,fun q hq=>by simp only[List.mem_singleton]at hq;subst hq;simp[Gh.set,hgu]⟩
 ·simp only[execOp,hpe,Instr.storeAt,Instr.sureAddr,Sem.run_bind,Sem.run_pure,Result.andThen_ok,hrun]
 ·rw[←hdel];refine hW.change (w':=z.w.setRow b row) (d:=r) (v':= .pointer (some ⟨b,0,none⟩)) (blk:=bA e f d N (l.set i y)) (ro:=some b) (h:=[(r,bA e f d N l)]) (fun q hq=>by cases hq;exact⟨bA e f d N l,_,by simp[aG.get],hgu,rfl⟩) rfl rfl rfl (by simp) (fun q _ hq=>setRow_other z.w b q _ (fun e=>hq (by rw[e]))) (.inr hgu) (fun q hq=> .inl (by simpa[bK,bC]using hq)) ?_
  have hset:∀j,row.getD j undef=if j=i then(ρ x).cells.getD 0 undef else vals.getD j undef:=by
   intro j;rw[←hrow];have hk':(ρ x).cells.toList.length=1:=by simpa using hx1
   have:=gS vals.toList i (ρ x).cells.toList (by simp;omega) j;rw[hk']at this⊢;by_cases hj:j=i
   ·subst hj;simpa[List.getD_eq_getElem?_getD]using this
   ·have hn:¬(i≤j∧j<i+1):=by omega
    rw[if_neg hj];rw[if_neg hn]at this;simpa[List.getD_eq_getElem?_getD]using this
  have hg0:∀j,j<N→(cA f d N (l.set i y)).getD j .any=if j=i then f y else(cA f d N l).getD j .any:=by
   intro j hj;rw[uP _ _ _ _ _ hj,uP _ _ _ _ _ hj];by_cases hji:j=i
   ·subst hji;rw[if_pos rfl];simp[List.getD_eq_getElem?_getD,hi0.2]
   ·rw[if_neg hji];simp[List.getD_eq_getElem?_getD,List.getElem?_set_ne (Ne.symm hji)]
  refine⟨b,row,rfl,setRow_heap z.w b vals _ e _ hb, ?_,fun j hj=> ?_,fun j hj=> ?_⟩
  ·rw[jZ,←hrow];simp[hx1];omega
  ·rw[jZ]at hj;rw[hset,hg0 j hj,Gh.set_self hgu];split
   ·exact(hrx 0 (by simp)).mono (fun _ h=>h) hStw
   ·exact(hrv j (by rw[jZ];exact hj)).mono (fun _ h=>h) hStw
  ·rw[jZ]at hj;rw[hset];split
   ·exact hone1
   ·exact hone j (by rw[jZ];exact hj)
theorem iS {P:Program} {t e:TypeId} {len:Nat} {kx:IntKind} (ht:P.underlying t=some (.array len e)) (hs:kV P e=some 1) (x i:Operand) (ty r:Nat) (B:Blk) (n:Nat) (hn:n<len):dO P (.indexAddr t x i) ty [r] [(r,B)] [.ptr r 0,.int kx (n:Int)] (.ptr r n) [(r,B)]:=by
 rintro o ho _ z ρ hW hr;obtain⟨dst,op',ty0,pos,after,guard⟩:=o;dsimp only at ho;subst ho;have h0:=hr 0 (by simp);have h1:=hr 1 (by simp);simp[Op.operands]at h0 h1
 have hv:fI P [] t (.ptr r 0) (.int kx (n:Int))=some (.ptr r n,0≤(n:Int)∧(n:Int)<len):=by
  unfold fI;rw[ht];simp only[hs,Int.toNat_natCast,Nat.mul_one,Nat.zero_add]
 obtain⟨y,h2,h3⟩:=iF (fun q b hq=>by simp[aG.get]at hq) h0 h1 hv ⟨by omega,by omega⟩;exact⟨_,y,z.w,z.St,z.g,by simp[execOp,h2,Result.andThen],.inl rfl,hW,h3,fun q hq=>rfl⟩
theorem kZ {P:Program} {t e:TypeId} {len:Nat} {kx:IntKind} (ht:P.underlying t=some (.array len e)) (hs:kV P e=some 1) (x i:Operand) (ty r:Nat) (B:Blk) (n:Int) (hn:0≤n∧n<len):dO P (.indexAddr t x i) ty [r] [(r,B)] [.ptr r 0,.int kx n] (.ptr r n.toNat) [(r,B)]:=by
 obtain⟨m,rfl⟩:=Int.eq_ofNat_of_zero_le hn.1;exact iS ht hs x i ty r B m (by omega)
theorem wC {P:Program} {α:Type} {t:TypeId} (f:α→V) (hf:∀a,(f a).isOne=true) (hfr:∀a k,(f a).fresh k=true) (d:α) (N:Nat) (l:List α) (hz:zeroV P t=some (.agg (cA f d N l))) (ty r:Nat):dO P (.alloc t) ty [] [] [] (.ptr r 0) [(r,bA t f d N l)]:=by
 rintro o ho _ z ρ hW _;obtain⟨dst,op',ty0,pos,after,guard⟩:=o;dsimp only at ho;subst ho;obtain⟨zv,hzr,_,hzrel⟩:=eJ (P:=P) (St:=z.St) (w:=z.w) (g:=z.g) hz;obtain⟨hcl,hcr⟩:=hzrel.cells (by rfl);simp only[V.cells]at hcl hcr;have hcl':zv.cells.size=(cA f d N l).length:=hcl;have hStw:∀k,z.St k→(z.w.alloc (.cells zv.cells t)).heap[k]? =z.w.heap[k]? :=fun k hk=>by first|exact heap_alloc_old z.w _ k (hW.st1 k hk).1|exact heap_alloc_old z.w _ (hW.st1 k hk).1
 refine⟨_,.pointer (some ⟨z.w.heap.size,0,none⟩),z.w.alloc (.cells zv.cells t),z.St,z.g.set r (.pointer (some ⟨z.w.heap.size,0,none⟩)),by simp[execOp,Instr.alloc,hzr,newVar,newRow,Result.andThen],.inl rfl, ?_,.ptr _ _ _ z.w.heap.size (by simp[Gh.set]),fun q hq=>by cases hq⟩;refine hW.newObj (h:=[]) (d:=r) rfl rfl ?_;refine⟨z.w.heap.size,zv.cells,rfl,heap_alloc_new z.w _,hcl',fun i hi=> ?_,fun i hi=> ?_⟩
 ·have hi':i<N:=by rw[jZ]at hi;exact hi
  refine Rel.mono (fun _ hk=>hk) hStw ((hcr i hi).rebind (fun k hk=>Gh.set_ne hk) ?_);rw[uP _ _ _ _ _ hi'];exact hfr _ _
 ·have hi':i<N:=by rw[jZ]at hi;exact hi
  refine(hcr i hi).isOne ?_;rw[uP _ _ _ _ _ hi'];exact hf _
end Go.Abs
namespace Go.Abs
open Go
theorem yB {P:Program} {t e:TypeId} {len:Nat} {parts:Array (Nat×Operand)} {args:List V} (ty:TypeId) {k:Nat} {cs:List V} {r:V}
  (hn:dL P ⟨1,[],[],[],0⟩ 0 t len ((parts.toList.map (·.1)).zip args)=some (⟨1,[(0,.own 0)],[(0,.rows e k len (fZ k cs))],[],0⟩,True))
  (hl:args.length=parts.size) (hv:VLe (.arr k len (fZ k cs)) r):
  dO P (.buildSlice t len parts) ty [] [] args r []:=by
 rintro o ho _ z ρ hW hr;obtain⟨dst,op',ty0,pos,after,guard⟩:=o;dsimp only at ho;subst ho;let z1:Start:={z with ro:=none}
 have hW1:WSim z1 z.St z.g [] z.w:=⟨hW.frm,hW.st0,hW.st1,hW.ow,hW.ok,hW.sep⟩;let a:Act:={tmps:= #[undef],defers:=[]}
 have hT:dH z.St z.w z.g 1 [] a:=⟨⟨trivial,by simp[a,G0]⟩,rfl,fun d=> .any _ _⟩;have hK:KD z1 z.St z.w z.g [] a:=⟨fun _ h=>by(cases h),⟨[],.nil,rfl,fun _ h=>by cases h⟩,fun _ h=>(by cases h),fun _=>rfl⟩;have hz:((parts.toList.map (·.1)).zip args).length=parts.size:=by simp[hl]
 obtain ⟨v', w', hrun, hsim⟩ := gG hW1 hT hK (us := parts.map fun (i, x) => (i, ρ x)) (by simp [hl]) (fun i hi=>by
  have hi1:i<parts.size:=by omega
  have hi2:i<args.length:=by omega
  have h1:=hr i hi2
  have e1:(Op.buildSlice t len parts).operands.toList.getD i (.const default)=(parts[i]).2:=by
   simp[Op.operands,List.getD_eq_getElem?_getD,hi1]
  rw[e1]at h1;simp only[Array.getD_eq_getD_getElem?,List.getD_eq_getElem?_getD,Array.getElem?_map,Array.getElem?_eq_getElem hi1,List.getElem?_eq_getElem hi,Option.map_some,Option.getD_some,List.getElem_zip,List.getElem_map,Array.getElem_toList];refine⟨trivial, ?_⟩;simpa[List.getD_eq_getElem?_getD,hi2]using h1) hn
 obtain⟨St2,g2,hW2,hT2,hK2⟩:=Le.freeze (s:=⟨1,[(0,.own 0)],[(0,.rows e k len (fZ k cs))],[],0⟩) 0 rfl rfl z1 _ _ hsim;have hW3:WSim z1 St2 g2 [] w':=hW2.less fun q b hb=>by simp[aG.get]at hb
 refine⟨_,v',w',St2,g2,by simp[execOp,hrun,Result.andThen],.inl rfl,⟨hW3.frm,hW3.st0,hW3.st1,hW3.ow,hW3.ok,hW3.sep⟩, ?_,fun q hq=>by cases hq⟩;have h5:=hT2.2.2 0;have e2:pV (a.put (some 0) v') 0=v':=by simp[pV,a,Act.put,G0]
 rw[e2]at h5;exact hv _ _ _ _ h5
end Go.Abs
