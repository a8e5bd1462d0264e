/- Part 11 of the proof: AbsT, AbsV. -/
import Derived.Test.YtfkhgbcggabkjaaGreatDoorMonrepZ10
import Derived.Laws.IdiomRangeMap
namespace Go.Abs
open Go Go.MapKept
abbrev agR:=@Array.filter_eq_empty_iff
abbrev agY:=@Array.mem_filter
section
variable {P:Program} {St:Nat->Prop} {w:World}
theorem run_set1 {q:Nat} {o:Obj} {m:Option Nat} {n c:Nat} {seen:Array Nat} (h:w.heap[q]? =some (.mapIter m n seen c)):(setObj q o).run P w= .ok () {w with heap:=w.heap.setIfInBounds q o}:=by simp[setObj,Sem.run,h]
theorem run_next_any (ty:TypeId) (q bm n:Nat) (seen:Array Nat) (es:Array MapEntry) (hq:w.heap[q]? =some (.mapIter (some bm) n seen n)) (hb:w.heap[bm]? =some (.map es n)) (hn:es.size=n) (hold:∀i,i<n->(es.getD i default).born=i):
  ((∀i,i<n->i∈seen.toList)/\(Instr.next (.pointer (some ⟨q,0,none⟩)) false ty).run P w= .ok (.tuple #[.bool false]) w)\/
  ((∀i,i<n->i∈seen.toList)/\(Instr.next (.pointer (some ⟨q,0,none⟩)) false ty).run P w= .ok (.tuple #[.bool false]) {w with drawn:=w.drawn+1})\/
  ∃i,i<n/\i∉seen.toList/\∃dr,(Instr.next (.pointer (some ⟨q,0,none⟩)) false ty).run P w= .ok (.tuple #[.bool true,(es.getD i default).key,(es.getD i default).val]) {w with heap:=w.heap.setIfInBounds q (.mapIter (some bm) n (seen.push i) n),drawn:=dr}:=by
 have hmem:∀e,e∈es.toList->e.born<n/\es.getD e.born default=e:=by
  intro e he
  obtain⟨i,hi,rfl⟩:=acG he
  have hi':i<es.size:=by simpa using hi
  have h1:=hold i (by omega)
  have h2:es.getD i default=es.toList[i]:=by simp[hi']
  rw[h2]at h1
  rw[h1]
  exact⟨by omega,h2⟩
 have htest:=next_test_false seen es n n (fun x hx=>(hmem x hx).1) (aaY _)
 have hold':(es.filter fun e=> !seen.contains e.born).filter (fun e=>decide (e.born<n))=es.filter fun e=> !seen.contains e.born:=by
  refine Array.filter_eq_self.2 fun e he=> ?_
  have:=(agY.1 he).1
  simpa using(hmem e (by simpa using this)).1
 have hnew':(es.filter fun e=> !seen.contains e.born).filter (fun e=>decide (e.born>=n))= #[]:=by
  refine agR.2 fun e he=> ?_
  have:=(agY.1 he).1
  have:=(hmem e (by simpa using this)).1
  simp;omega
 have hg:(getObj q).run P w= .ok (.mapIter (some bm) n seen n) w:=by simp[getObj,Sem.run,hq]
 let left:=es.filter fun e=> !seen.contains e.born
 let cand:Array (Option MapEntry):=(if left.isEmpty then #[none]else #[])++left.map some
 have hrun : (Instr.next (.pointer (some ⟨q, 0, none⟩)) false ty).run P w = ((choose (.mapNext cand.size)).run P w).andThen fun i w => (match cand[i]? with
   |some (some e)=>do
    setObj q (.mapIter (some bm) n (seen.push e.born) n)
    pure (.tuple #[.bool true,e.key,e.val])
   |some none=>pure (.tuple #[.bool false])
   |none=>stuck "Next: no such candidate" :Sem Value).run P w:=by
  unfold Instr.next
  simp only[abI,hg,aaP,MapKept.run_getObj_map hb]
  rw[if_neg (by rw[htest];simp)]
  simp only[hold',hnew',Array.append_empty]
  rw[abI]
  rfl
 have hsz:0<cand.size:=by
  cases hl:left.isEmpty with
  |true=>simp[cand,hl];omega
  |false=>
   have:left.size≠0:=by simpa[Array.isEmpty]using hl
   simp[cand];omega
 obtain⟨j,hj,w1,hch,hw1⟩:∃j,j<cand.size/\∃w1,(choose (.mapNext cand.size)).run P w= .ok j w1/\(w1=w\/w1={w with drawn:=w.drawn+1}):=by
  rw[run_choose]
  by_cases hf:cand.size<=1
  ·exact⟨0,hsz,w,by simp[Question.forced,hf],.inl rfl⟩
  ·refine⟨w.tape w.drawn (.mapNext cand.size)%cand.size,afA _ hsz,_, ?_,.inr rfl⟩
   simp[Question.forced,hf,Question.cut]
 rw[hrun,hch,aaP]
 have hcj:cand[j]? =some cand[j]:=by simp[hj]
 rw[hcj]
 have hql:=(abD.1 hq).1
 cases hc:cand[j]with
 |none=>
  have hempty:left.isEmpty=true:=by
   cases hl:left.isEmpty with
   |true=>rfl
   |false=>
    exfalso
    have hm:cand[j]∈cand:=afC hj
    rw[hc]at hm
    simp[cand,hl]at hm
  have hall:∀i,i<n->i∈seen.toList:=by
   intro i hi
   have h1:left= #[]:=by simpa using hempty
   have h2 := agR.1 h1 (es.getD i default) (by
    have:i<es.size:=by omega
    simp[this])
   rw[hold i hi]at h2
   simpa using h2
  rcases hw1 with rfl|rfl
  ·exact .inl ⟨hall,rfl⟩
  ·exact .inr (.inl ⟨hall,rfl⟩)
 |some e=>
  have hm:cand[j]∈cand:=afC hj
  rw[hc]at hm
  have hel:e∈left:=by
   cases hl:left.isEmpty<;>simp[cand,hl]at hm<;>exact hm
  obtain⟨h1,h2⟩:=agY.1 hel
  obtain⟨h3,h4⟩:=hmem e (by simpa using h1)
  refine .inr (.inr ⟨e.born,h3,by simpa using h2,w1.drawn, ?_⟩)
  rw[h4]
  have hq1:w1.heap=w.heap:=by rcases hw1 with rfl|rfl<;>rfl
  have hlt1:w1.heap[q]? =some (.mapIter (some bm) n seen n):=by rw[hq1];exact hq
  dsimp only
  rw[abI,run_set1 hlt1,aaP]
  rcases hw1 with rfl|rfl<;>rfl
theorem aCi {mt kt et:TypeId} (hm:P.underlying mt=some (.map kt et)) (x:Operand) (ty r n:Nat) (kf vf:Nat->V):eF P (.range mt x) ty [] [] [.mp n kf vf] (.own r) [(r,.iter n kf vf [])]:=by
 rintro o ho _ z ρ hW hr;obtain⟨dst,op,ty0,pos,after,guard⟩:=o;dsimp only at ho;subst ho;have h0:=hr 0 (by simp);simp[Op.operands]at h0;generalize hmv:ρ x=mv at h0
 cases h0 with
 |mp _ _ _ _ b es hs ho hn hb hk hv=>
  refine⟨_,.pointer (some ⟨z.w.heap.size,0,none⟩),z.w.alloc (.mapIter (some b) n #[] n),z.St,z.g.set r (.pointer (some ⟨z.w.heap.size,0,none⟩)),by simp[execOp,hmv,run_range_map z.w mt kt et b es n hm ho,Result.andThen],.inl rfl, ?_,.own _ _ _ (by simp[Gh.set]) rfl,fun k hk=>by cases hk⟩;refine hW.newObj (h:=[]) (d:=r) rfl rfl ?_;have hStw:∀k,z.St k->(z.w.alloc (.mapIter (some b) n #[] n)).heap[k]? =z.w.heap[k]? :=fun k hk=>by first|exact heap_alloc_old z.w _ (hW.st1 k hk).1|exact heap_alloc_old z.w _ k (hW.st1 k hk).1
  exact⟨_,b,rfl,heap_alloc_new _ _,(Rel.mp dS n kf vf b es hs ho hn hb hk hv).mono (fun _ h=>h) hStw⟩
theorem aCR (it:Operand) (ty r n:Nat) (kf vf:Nat->V) (seen:List Nat) (j:Nat) (hj:j<n):eF P (.entry it) ty [r] [(r,.iter n kf vf (seen++[j]))] [.own r] (.tup [kf j,vf j]) [(r,.iter n kf vf (seen++[j]))]:=by
 rintro o ho _ z ρ hW hr;obtain⟨dst,op,ty0,pos,after,guard⟩:=o;dsimp only at ho;subst ho;have h0:=hr 0 (by simp);simp[Op.operands]at h0;obtain⟨u,hg,hb⟩:=hW.ok r (.iter n kf vf (seen++[j])) (by simp[aJ.get]);obtain⟨b,m,rfl,hbo,hmp⟩:=hb;have hit:ρ it= .pointer (some ⟨b,0,none⟩):=by have:=h0.own_inv;rw[hg]at this;simpa using this.symm
 cases hmp with
 |mp _ _ _ _ _ es hs ho hn hbn hk hv=>
  have hjs:j<es.size:=by omega
  have hfind:es.find? (fun e=>e.born==j)=some es[j]:=by
   rw[Array.find?_eq_some_iff_getElem];refine⟨?_,j,hjs,rfl,fun i hi=> ?_⟩
   ·have:=hbn j hj;simp[hjs]at this;simp[this]
   ·have h1:=hbn i (by omega);have hi':i<es.size:=by omega
    simp[hi']at h1;simp[h1];omega
  have hgo:(getObj b).run P z.w= .ok (.mapIter (some m) n (seen++[j]).toArray n) z.w:=by simp[getObj,Sem.run,hbo]
  refine⟨_,.tuple #[es[j].key,es[j].val],z.w,z.St,z.g, ?_,.inl rfl,hW,.tup _ _ _ rfl fun i hi=> ?_,fun k _=>rfl⟩
  ·simp[execOp,Instr.entry,hit,hgo,MapKept.run_getObj_map ho,hfind,Result.andThen]
  ·have e1:es.getD j default=es[j]:=by simp[hjs]
   match i,hi with
   |0,_=>have:=eJ (g:=z.g) (hk j hj) rfl;rw[e1]at this;exact this
   |1,_=>have:=eJ (g:=z.g) (hv j hj) rfl;rw[e1]at this;exact this
theorem next_aops {ops:Array Oper} {Q:Exit->S->Prop} {o:Oper} {rest:List Oper} {s:S} {it:Operand} {d r n:Nat} {kf vf:Nat->V} {seen:List Nat} (hg:o.guard=none) (hop:o.op= .next it false) (hd:o.dst=some d) (hdN:Nat.ble (d+1) s.N=true)
  (hit:raw s.t it= .own r) (hh:s.h.get r=some (.iter n kf vf seen))
  (h1:∀j,j<n->j∉seen->vX P ops Q rest ⟨s.N,(d,.tup [.bool true,kf j,vf j])::s.t,(r,.iter n kf vf (seen++[j]))::s.h.del r,s.b,s.o⟩)
  (h2:(∀j,j<n->j∈seen)->vX P ops Q rest ⟨s.N,(d,.tup [.bool false])::s.t,s.h,s.b,s.o⟩):vX P ops Q (o::rest) s:=by
 rintro z a w ⟨St,g,hW,hT,hKp⟩;refine fD (fun c e=>by rw[hop]at e;cases e) hg fun K hKK=> ?_;have hdN':d<s.N:=aaW hdN;have h0:=jC hT it;rw[hit]at h0;obtain⟨u,hgr,hb⟩:=hW.ok r _ hh;obtain⟨b,m,rfl,hbo,hmp⟩:=hb;have hiv:a.eval it= .pointer (some ⟨b,0,none⟩):=by have:=h0.own_inv;rw[hgr]at this;simpa using this.symm
 have hmp':=hmp
 cases hmp with
 |mp _ _ _ _ _ es hs ho hn hbn hk hv=>
  have hse:seen.toArray.toList=seen:=by simp
  have key:=run_next_any (P:=P) o.type b m n seen.toArray es hbo ho hn hbn;rw[hse]at key
  have hx:∀(x:Value) (w':World),(Instr.next (.pointer (some ⟨b,0,none⟩)) false o.type).run P w= .ok x w'->(execOp a.eval o).run P w= .ok (.value x) w':=by
   intro x w' h;unfold execOp;rw[hop];simp[hiv,h,Result.andThen]
  unfold Oper.wp
  have over:∀w':World,w'.heap=w.heap->w'.os=w.os->w'.tape=w.tape->w'.output=w.output->(∀j,j<n->j∈seen)->K (a.put (some d) (.tuple #[.bool false])) w':=by
   intro w' e1 e2 e3 e4 hall;have hsame:∀k:Nat,w'.heap[k]? =w.heap[k]? :=fun k=>by rw[e1]
   refine hKK _ _ (h2 hall z _ _ ⟨St,g,⟨⟨e2.trans hW.frm.os,e3.trans hW.frm.tape,e4.trans hW.frm.output,by rw[e1];exact hW.frm.size,fun k hk hno=>(hsame k).trans (hW.frm.block k hk hno)⟩,hW.st0,fun k hk=>by rw[e1];exact hW.st1 k hk,hW.ow,fun k bb hbb=> ?_,hW.sep⟩,eL.put ⟨hT.1,hT.2.1,fun k=>(hT.2.2 k).mono (fun _ h=>h) fun k _=>hsame k⟩ hdN' ?_,hKp.to (fun _ h=>h) (fun k _=>hsame k) (put_defers ..) (fun _ _=>rfl)⟩)
   ·obtain⟨v,h3,h4⟩:=hW.ok k bb hbb;exact⟨v,h3,h4.mono (fun _ h=>h) (fun k _=>hsame k) (fun k _=>hsame k) (r:=k) (fun _ _=>rfl) (.inr rfl)⟩
   ·exact .tup _ _ _ rfl fun i hi=>by
     match i,hi with
     |0,_=>exact .bool _ _
  rcases key with⟨hall,hrun⟩|⟨hall,hrun⟩|⟨j,hj,hjn,dr,hrun⟩
  ·rw[hx _ _ hrun,Oper.upon_value,hd];exact over w rfl rfl rfl rfl hall
  ·rw[hx _ _ hrun,Oper.upon_value,hd];exact over _ rfl rfl rfl rfl hall
  ·rw[hx _ _ hrun,Oper.upon_value,hd];have hbl:=(abD.1 hbo).1;let w':World:={w with heap:=w.heap.setIfInBounds b (.mapIter (some m) n (seen.toArray.push j) n),drawn:=dr}
   have hget:∀q,q≠b->w'.heap[q]? =w.heap[q]? :=fun q hq=>by simp[w',acX (Ne.symm hq)]
   have hStb:¬St b:=(hW.ow r _ _ hh hgr b rfl).1;have hStw:∀q,St q->w'.heap[q]? =w.heap[q]? :=fun q hq=>hget q fun e=>hStb (e▸hq)
   have hset:g.set r (.pointer (some ⟨b,0,none⟩))=g:=by
    funext q;by_cases hq:q=r
    ·subst hq;simp[Gh.set,hgr]
    ·simp[Gh.set,hq]
   have hW2:WSim z St (g.set r (.pointer (some ⟨b,0,none⟩))) ((r,.iter n kf vf (seen++[j]))::s.h.del r) w':=
    hW.change (w':=w') (d:=r) (v':= .pointer (some ⟨b,0,none⟩)) (ro:=some b) (fun q hq=>by cases hq;exact⟨_,_,hh,hgr,rfl⟩) rfl rfl rfl (by simp[w']) (fun q _ hq=>hget q fun e=>hq (by rw[e])) (.inr hgr) (fun q hq=> .inl (by simpa[cF,bS]using hq))
     ⟨b,m,rfl,by simp[w',hbl],hmp'.mono (fun _ h=>h) hStw⟩
   rw[hset]at hW2;refine hKK _ _ (h1 j hj hjn z _ _ ⟨St,g,hW2,eL.put ⟨hT.1,hT.2.1,fun k=>(hT.2.2 k).mono (fun _ h=>h) hStw⟩ hdN' ?_,hKp.to (fun _ h=>h) hStw (put_defers ..) (fun _ _=>rfl)⟩)
   exact .tup _ _ _ rfl fun i hi=>by
    match i,hi with
    |0,_=>exact .bool _ _
    |1,_=>exact(eJ (hk j hj) rfl).mono (fun _ h=>h) hStw
    |2,_=>exact(eJ (hv j hj) rfl).mono (fun _ h=>h) hStw
/-! ### An own map that turns no more -/
def V.frzM (r:Nat) (u:V):V->V
 | .own k=>if k=r then u else .own k
 |v=>if v.fresh r then v else .any
def tfrzM (r:Nat) (u:V) (t:List (Nat×V)):List (Nat×V):=t.map fun p=>(p.1,V.frzM r u p.2)
theorem wC (r:Nat) (u:V) (k:Nat):∀t:List (Nat×V),dD (tfrzM r u t) k=V.frzM r u (dD t k)
 |[]=>by simp[tfrzM,dD,V.frzM,V.fresh]
 |(a,v)::t=>by
  have ih:=wC r u k t
  unfold tfrzM at ih⊢
  simp only[abS,dD]
  split
  ·rfl
  ·exact ih
theorem Le.freezeM {s:S} (r:Nat) {n:Nat} {kf vf:Nat->V} (hh:s.h.get r=some (.mapB n kf vf)) (hr:s.b.contains r=false):
  Le s ⟨s.N,tfrzM r (.mp n kf vf) s.t,(hdrop r s.h).del r,s.b,s.o⟩:=by
 rintro z a w ⟨St,g,hW,hT,hK⟩;obtain⟨u,hgu,hb⟩:=hW.ok r _ hh;obtain⟨b,es,rfl,ho,hn,hbn,hk,hv⟩:=hb.map_inv;let St':Nat->Prop:=fun k=>St k\/k=b
 have hS:∀k,St k->St' k:=fun k hk=> .inl hk;have hu:∀g',Rel St' w g' (.mp n kf vf) (.map (some b)):=fun g'=> .mp g' n kf vf b es (.inr rfl) ho hn hbn (fun i hi=>(hk i hi).mono hS fun _ _=>rfl) fun i hi=>(hv i hi).mono hS fun _ _=>rfl
 have hget:∀k bb,aJ.get ((hdrop r s.h).del r) k=some bb->k≠r/\∃b0,s.h.get k=some b0/\bb=b0.drop r:=by
  intro k bb hbb;rw[aJ.get_del]at hbb;split at hbb
  ·cases hbb
  ·rename_i hkr;rw[gS,aaQ]at hbb;obtain⟨b0,h2,rfl⟩:=hbb;exact⟨hkr,b0,h2,rfl⟩
 refine⟨St',g,⟨hW.frm,fun k hk=> .inl (hW.st0 k hk), ?_, ?_, ?_, ?_⟩,⟨hT.1,hT.2.1,fun d=> ?_⟩,hK.to hS (fun _ _=>rfl) rfl (fun _ _=>rfl)⟩
 ·rintro k (hk|rfl)
  ·exact hW.st1 k hk
  ·exact⟨(abD.1 ho).1,.inr (hW.ow r _ _ hh hgu k rfl).2⟩
 ·intro k bb v hbb hv q hq;obtain⟨hkr,b0,h2,rfl⟩:=hget k bb hbb;have h3:=hW.ow k b0 v h2 hv q hq;refine⟨?_,h3.2⟩;rintro(h4|rfl)
  ·exact h3.1 h4
  ·exact hW.sep k r b0 _ v _ h2 hh hv hgu hkr q hq rfl
 ·intro k bb hbb;obtain⟨hkr,b0,h2,rfl⟩:=hget k bb hbb;obtain⟨v,h3,h4⟩:=hW.ok k b0 h2;exact⟨v,h3,(h4.mono hS (fun _ _=>rfl) (fun _ _=>rfl) (r:=k) (fun _ _=>rfl) (.inr rfl)).dropG (d:=r) fun _ _=>rfl⟩
 ·intro k k' bb bb' v v' hbb hbb' hv hv' hne;obtain⟨_,b0,h2,rfl⟩:=hget k bb hbb;obtain⟨_,b0',h2',rfl⟩:=hget k' bb' hbb';exact hW.sep k k' b0 b0' v v' h2 h2' hv hv' hne
 ·rw[wC];have h:=hT.2.2 d;generalize zV a d=xv at h⊢;generalize dD s.t d=v at h⊢;unfold V.frzM;split
  ·rename_i k;split
   ·rename_i hkr;subst hkr;have:=h.own_inv;rw[hgu]at this;cases this;exact hu g
   ·exact h.mono hS fun _ _=>rfl
  ·split
   ·exact h.mono hS fun _ _=>rfl
   ·exact .any _ _
end
end Go.Abs
namespace Go.Abs
open Go
/-! ### Pure programs -/
def chk (p:Prop) [Decidable p] {α:Type} (k:Option α):Option α:=if p then k else none
theorem aB {p:Prop} [Decidable p] {α:Type} {k:Option α} {r:α} (h:chk p k=some r):p/\k=some r:=by
 unfold chk at h;split at h
 ·rename_i hp;exact⟨hp,h⟩
 ·cases h
theorem bind_ok {α β:Type} {x:Option α} {f:α->Option β} {r:β} (h:x.bind f=some r):∃y,x=some y/\f y=some r:=by
 cases x with
 |none=>cases h
 |some y=>exact⟨y,rfl,h⟩
def eO {α β:Type} [Inhabited α] (c:Bool) (x:Option α) (k:α->Option β):Option β:=if c then x.bind k else k default
theorem bI {α β:Type} [Inhabited α] {c:Bool} {x:Option α} {k:α->Option β} {r:β} (h:eO c x k=some r):∃y,(c=true->x=some y)/\k y=some r:=by
 unfold eO at h;split at h
 ·obtain⟨y,h1,h2⟩:=bind_ok h;exact⟨y,fun _=>h1,h2⟩
 ·rename_i hc;exact⟨default,fun h'=>absurd h' hc,h⟩
theorem xC {c:Prop} [Decidable c] {α:Type} {x y:Option α} {r:α} (hc:c) (h:(if c then x else y)=some r):x=some r:=by rwa [if_pos hc]at h
theorem xD {c:Prop} [Decidable c] {α:Type} {x y:Option α} {r:α} (hc:¬c) (h:(if c then x else y)=some r):y=some r:=by rwa [if_neg hc]at h
theorem aE {c:Bool} {α:Type} {x y:Option α} {r:α} (hc:c=true) (h:(if c then x else y)=some r):x=some r:=xC hc h
theorem aF {c:Bool} {α:Type} {x y:Option α} {r:α} (hc:c=false) (h:(if c then x else y)=some r):y=some r:=xD (by simp[hc]) h
def jn {α β:Type} (K:α->Option β) (x:(α->Option β)->Option β):Option β:=x K
theorem aI {α β:Type} {K:α->Option β} {x:(α->Option β)->Option β} {r:β} (h:jn K x=some r):∃K',K'=K/\x K'=some r:=⟨K,rfl,h⟩
def both {α:Type} [DecidableEq α] (x y:Option α):Option α:=if x=y then x else none
theorem zL {α:Type} [DecidableEq α] {x y:Option α} {r:α} (h:both x y=some r):x=some r/\y=some r:=by
 unfold both at h;split at h
 ·rename_i e;exact⟨h,e▸h⟩
 ·cases h
def abc {α:Type} [DecidableEq α] (q:Prop) [Decidable q] (x y:Option α):Option α:=if q then both x y else y
theorem aB2 {α:Type} [DecidableEq α] {q:Prop} [Decidable q] {x y:Option α} {r:α} (h:abc q x y=some r):(q->x=some r)/\y=some r:=by
 unfold abc at h;split at h
 ·exact⟨fun _=>(zL h).1,(zL h).2⟩
 ·rename_i hq;exact⟨fun h'=>absurd h' hq,h⟩
def aY :Nat:=18446744073709551616
/-! ### Rows as lists -/
def RL {α:Type} (sz:Nat) (enc:α->List V) (d:α) (n:Nat) (f:Nat->Nat->V) (l:List α):Prop:=n=l.length/\∀i j,i<n->j<sz->VLe (f i j) (bY enc d l i j)
section
variable {α:Type} {sz:Nat} {enc:α->List V} {d:α} {e:TypeId}
theorem RL.self (l:List α):RL sz enc d l.length (bY enc d l) l:=⟨rfl,fun _ _ _ _=> .refl _⟩
theorem RL.lst (xs:List α) {n:Nat} {cs:List V} (hn:n=xs.length) (h:cs=xs.flatMap enc) (hl:∀x,(enc x).length=sz):RL sz enc d n (dE sz cs) xs:=by
 subst h;exact⟨hn,fun i j hi hj=> .of_eq (by unfold dE bY;exact flat_get hl i j (by omega) hj)⟩
theorem RL.lstV (xs:List α) {n:Nat} {cs:List V} (hn:n=xs.length) (h:eU cs (xs.flatMap enc)) (hl:∀x,(enc x).length=sz):RL sz enc d n (dE sz cs) xs:=
 ⟨hn,fun i j hi hj=>(eU.get h (i *sz+j)).trans (.of_eq (by unfold bY;exact flat_get hl i j (by omega) hj))⟩
theorem RL.app {n m:Nat} {f f2:Nat->Nat->V} {l l2:List α} (h:RL sz enc d n f l) (h2:RL sz enc d m f2 l2):RL sz enc d (n+m) (fH n f f2) (l++l2):=by
 obtain⟨rfl,h⟩:=h;obtain⟨rfl,h2⟩:=h2;refine⟨by simp,fun i j hi hj=> ?_⟩;unfold fH;split
 ·rename_i hlt;exact(h i j hlt hj).trans (.of_eq (by simp[bY,aaC,acP,hlt]))
 ·rename_i hlt;exact(h2 (i-l.length) j (by omega) hj).trans (.of_eq (by simp[bY,aaC,acP,hlt]))
theorem RL.app0 {m:Nat} {f2:Nat->Nat->V} {l2:List α} (h2:RL sz enc d m f2 l2):RL sz enc d (0+m) f2 l2:=by rwa [abW]
theorem RL.set {n i off:Nat} {f:Nat->Nat->V} {l:List α} {cs:List V} (x:α) (h:RL sz enc d n f l) (hx:∀j,j<sz->(if off<=j/\j<off+cs.length then cs.getD (j-off) .any else(enc (l.getD i d)).getD j .any)=(enc x).getD j .any):
  RL sz enc d n (aC0 f i off cs) (l.set i x):=by
 obtain⟨rfl,h⟩:=h;refine⟨by simp,fun a j ha hj=> ?_⟩;have hh:=h a j ha hj;unfold aC0;by_cases e:a=i
 ·subst e;have h3:=hx j hj;have e2:bY enc d (l.set a x) a j=(enc x).getD j .any:=by simp[bY,aaC,ha]
  rw[e2,<-h3];split
  ·rename_i h1;rw[if_pos ⟨h1.2.1,h1.2.2⟩];exact .refl _
  ·rename_i h1;rw[if_neg (fun h4=>h1 ⟨rfl,h4.1,h4.2⟩)];exact hh
 ·rw[if_neg (fun h4=>e h4.1)];exact hh.trans (.of_eq (by simp[bY,aaC,Ne.symm e]))
theorem RL.take {n k:Nat} {f:Nat->Nat->V} {l:List α} (h:RL sz enc d n f l) (hk:k<=n):RL sz enc d k f (l.take k):=by
 obtain⟨rfl,h⟩:=h;refine⟨by simp;omega,fun a j ha hj=> ?_⟩;exact(h a j (by omega) hj).trans (.of_eq (by simp[bY,aaC,ha]))
theorem RL.dropL {l:List α} {k:Nat}:RL sz enc d (l.length-k) (fun i j=>bY enc d l (i+k) j) (l.drop k):=
 ⟨by simp,fun i j _ _=> .of_eq (by simp[bY,aaC,acC,agG])⟩
theorem RL.takeL {l:List α} {k:Nat} (h:k<=l.length):RL sz enc d k (bY enc d l) (l.take k):=
 ⟨by simp;omega,fun i j hi _=> .of_eq (by simp[bY,aaC,hi])⟩
theorem BLe.of {n:Nat} {f:Nat->Nat->V} {l:List α} (h:RL sz enc d n f l):BLe (.rows e sz n f) (bL e sz enc d l):= .rows h.1 h.2
theorem VLe.of {n:Nat} {f:Nat->Nat->V} {l:List α} (h:RL sz enc d n f l):VLe (.arr sz n f) (vL sz enc d l):= .arr h.1 h.2
end
/-! ### Other numbers -/
mutual
def V.ren (π:Nat->Nat):V->V
 | .own r=> .own (π r)
 | .ptr r o=> .ptr (π r) o
 | .oelem r sz i o=> .oelem (π r) sz i o
 | .osl r sz i o=> .osl (π r) sz i o
 | .agg cs=> .agg (V.renAll π cs)
 | .tup cs=> .tup (V.renAll π cs)
 | .fn f cs=> .fn f (V.renAll π cs)
 | .opt c v=> .opt c (V.ren π v)
 | .any=> .any
 | .bool b=> .bool b
 | .int k n=> .int k n
 | .b16 x=> .b16 x
 | .str l=> .str l
 | .nils=> .nils
 | .arr sz n f=> .arr sz n f
 | .elem sz n f i off=> .elem sz n f i off
 | .lit v=> .lit v
 | .abool p=> .abool p
 | .mp n kf vf=> .mp n kf vf
 | .tab k l=> .tab k l
 | .ifc b=> .ifc b
 | .opq=> .opq
def V.renAll (π:Nat->Nat):List V->List V
 |[]=>[]
 |v::l=>V.ren π v::V.renAll π l
end
theorem cA (π:Nat->Nat):∀l:List V,(V.renAll π l).length=l.length
 |[]=>rfl
 |_::l=>by simp[V.renAll,cA π l]
theorem fJ (π:Nat->Nat):∀(l:List V) (i:Nat),(V.renAll π l).getD i .any=V.ren π (l.getD i .any)
 |[],i=>by simp[V.renAll,V.ren]
 |v::l,0=>by simp[V.renAll]
 |v::l,i+1=>by simpa[V.renAll]using fJ π l i
mutual
theorem V.ren_ren {π:Nat->Nat} (hπ:∀k,π (π k)=k):∀v:V,(v.ren π).ren π=v
 | .own r=>by simp[V.ren,hπ]
 | .ptr r o=>by simp[V.ren,hπ]
 | .oelem r sz i o=>by simp[V.ren,hπ]
 | .osl r sz i o=>by simp[V.ren,hπ]
 | .agg cs=>by simp[V.ren,V.renAll_renAll hπ cs]
 | .tup cs=>by simp[V.ren,V.renAll_renAll hπ cs]
 | .fn f cs=>by simp[V.ren,V.renAll_renAll hπ cs]
 | .opt c v=>by simp[V.ren,V.ren_ren hπ v]
 | .any| .bool _| .int _ _| .b16 _| .str _| .nils| .arr _ _ _| .elem _ _ _ _ _| .lit _| .abool _| .mp _ _ _| .tab _ _| .ifc _| .opq=>by simp[V.ren]
theorem V.renAll_renAll {π:Nat->Nat} (hπ:∀k,π (π k)=k):∀l:List V,V.renAll π (V.renAll π l)=l
 |[]=>rfl
 |v::l=>by simp[V.renAll,V.ren_ren hπ v,V.renAll_renAll hπ l]
end
theorem Rel.ren {St:Nat->Prop} {w:World} {π:Nat->Nat}:∀{g:Gh} {v:V} {x:Value},Rel St w g v x->∀{g':Gh},(∀k,g' (π k)=g k)->Rel St w g' (v.ren π) x:=by
 intro g v x h
 induction h with
 |any g x=>intro _ _;exact .any _ x
 |bool g b=>intro _ _;exact .bool _ b
 |int g k n=>intro _ _;exact .int _ k n
 |b16 g x=>intro _ _;exact .b16 _ x
 |str g l s h=>intro _ _;exact .str _ l s h
 |agg g cs vs hl h ih=>intro g' hg;exact .agg _ _ vs (by rw[cA];exact hl) fun i hi=>by rw[fJ];exact ih i (by rwa [cA]at hi) hg
 |tup g cs vs hl h ih=>intro g' hg;exact .tup _ _ vs (by rw[cA];exact hl) fun i hi=>by rw[fJ];exact ih i (by rwa [cA]at hi) hg
 |nils g=>intro _ _;exact .nils _
 |arr0 g sz f=>intro _ _;exact .arr0 _ sz f
 |arrE g sz f a=>intro _ _;exact .arrE _ sz f a
 |arr g sz n f b o cap x hcap hmax hs hc h1 hr ih=>intro _ _;exact .arr _ sz n f b o cap x hcap hmax hs hc h1 hr
 |elem g sz n f i off b o x hi hs hc h1 hr ih=>intro _ _;exact .elem _ sz n f i off b o x hi hs hc h1 hr
 |own g k v h h1=>intro g' hg;exact .own _ _ v (by rw[hg k];exact h) h1
 |ptr g k off b h=>intro g' hg;exact .ptr _ _ off b (by rw[hg k];exact h)
 |oelem g k sz i off b n cap h=>intro g' hg;exact .oelem _ _ sz i off b n cap (by rw[hg k];exact h)
 |osl g k sz i off b n cap h=>intro g' hg;exact .osl _ _ sz i off b n cap (by rw[hg k];exact h)
 |fn g f cs vs hl h ih=>intro g' hg;exact .fn _ f _ vs (by rw[cA];exact hl) fun i hi=>by rw[fJ];exact ih i (by rwa [cA]at hi) hg
 |lit g x=>intro _ _;exact .lit _ x
 |opt g c v x h h0 ih=>intro g' hg;exact .opt _ c _ x (fun hc=>ih hc hg) h0
 |abool g p b h=>intro _ _;exact .abool _ p b h
 |mp g n kf vf b es hs ho hn hb hk hv=>intro _ _;exact .mp _ n kf vf b es hs ho hn hb hk hv
 |tab g k l b t fr hs ho=>intro _ _;exact .tab _ k l b t fr hs ho
 |ifc g b x h=>intro _ _;exact .ifc _ b x h
 |opq g x h=>intro _ _;exact .opq _ x h
def Blk.ren (π:Nat->Nat):Blk->Blk
 | .cells t cs=> .cells t (V.renAll π cs)
 | .rows e sz n f=> .rows e sz n f
 | .iter n kf vf seen=> .iter n kf vf seen
 | .siter l pos=> .siter l pos
 | .mapB n kf vf=> .mapB n kf vf
 | .mapI n kf o ho hq=> .mapI n kf (o.map π) ho (hq.map π)
 | .fam e sz n m f ho=> .fam e sz n m f ho
 | .yld o k=> .yld (hJ (!((iV o).all fun i=>Nat.beq (π i) i)) o) k
def Blk.renOk (π:Nat->Nat):Blk->Bool
 | .yld o _=>(iV o).all fun i=>Nat.beq (π i) i
 |_=>true
theorem Blk.ren_ren {π:Nat->Nat} (hπ:∀k,π (π k)=k) (b:Blk) (hb:b.renOk π=true):(b.ren π).ren π=b:=by
 cases b with
 |yld o k=>
  have e:Blk.ren π (.yld o k)= .yld o k:=by
   have hb':((iV o).all fun i=>Nat.beq (π i) i)=true:=hb;simp only[Blk.ren,hb',hJ,acS,abL,if_false]
  rw[e,e]
 |mapI n kf o ho hq=>cases o<;>cases hq<;>simp[Blk.ren,hπ]
 |_=>simp[Blk.ren,V.renAll_renAll hπ]
def hren (π:Nat->Nat) (h:aJ):aJ:=h.map fun p=>(π p.1,p.2.ren π)
def tren (π:Nat->Nat) (t:List (Nat×V)):List (Nat×V):=t.map fun p=>(p.1,p.2.ren π)
theorem inj_of {π:Nat->Nat} (hπ:∀k,π (π k)=k) {a b:Nat} (h:π a=π b):a=b:=by rw[<-hπ a,h,hπ]
theorem pO {π:Nat->Nat} (hπ:∀k,π (π k)=k) (k:Nat):∀h:aJ,aJ.get (hren π h) k=(aJ.get h (π k)).map (Blk.ren π)
 |[]=>rfl
 |(a,b)::h=>by
  have ih:=pO hπ k h
  unfold hren at ih⊢
  simp only[abS,aJ.get]
  by_cases hk:π a=k
  ·rw[if_pos hk,if_pos (by rw[<-hk,hπ])];rfl
  ·rw[if_neg hk,if_neg (fun e=>hk (by rw[e,hπ])),ih]
theorem aAY (π:Nat->Nat) (k:Nat):∀t:List (Nat×V),dD (tren π t) k=(dD t k).ren π
 |[]=>rfl
 |(a,v)::t=>by
  have ih:=aAY π k t
  unfold tren at ih⊢
  simp only[abS,dD]
  split
  ·rfl
  ·exact ih
theorem hren_hren {π:Nat->Nat} (hπ:∀k,π (π k)=k) (h:aJ) (hok:h.all (fun p=>p.2.renOk π)=true):hren π (hren π h)=h:=by
 unfold hren;rw[agZ]
 conv=>rhs;rw[<-List.map_id h]
 refine afK fun p hp=> ?_;simp[hπ,Blk.ren_ren hπ p.2 (aaX.1 hok p hp)]
theorem dG.ren {St:Nat->Prop} {w:World} {π:Nat->Nat} {g g':Gh} {v:Value} {b:Blk} (h:dG St w g v b) (hg:∀k,g' (π k)=g k):dG St w g' v (b.ren π):=by
 cases b with
 |cells t cs=>
  obtain⟨b,vals,rfl,hh,hl,hr,h1⟩:=h;refine⟨b,vals,rfl,hh,by rw[cA];exact hl,fun i hi=> ?_,fun i hi=>h1 i (by rwa [cA]at hi)⟩;rw[fJ]
  exact(hr i (by rwa [cA]at hi)).ren hg
 |rows e sz n f=>exact h
 |iter=>exact h
 |siter=>exact h
 |mapB=>exact h
 |fam=>exact h
 |mapI n kf o hole hq=>
  obtain⟨bb,es,h1,h2,h3,h4,h5,h6,h8⟩:=h;refine⟨bb,es,h1,h2,h3,h4,h5,fun r hr=> ?_,fun r hr=> ?_⟩
  ·cases o with
   |none=>cases hr
   |some q=>
    cases hr;obtain⟨a,ha,h7⟩:=h6 q rfl;exact⟨a,by rw[hg q];exact ha,h7⟩
  ·cases hq with
   |none=>cases hr
   |some q=>
    cases hr
    rw[hg q];exact h8 q rfl
 |yld o k=>
  obtain⟨l,r,h1,h2,h3⟩:=h;refine⟨l,r,h1,h2, ?_⟩;unfold hJ;split
  ·trivial
  ·rename_i hc;refine h3.mono (fun _ h=>h) (fun _ _=>rfl) fun i hi=> ?_;have hall:((iV o).all fun i=>Nat.beq (π i) i)=true:=by simpa using hc
   have:=adV (aaX.1 hall i hi);rw[<-hg i,this]
theorem WSim.ren {z:Start} {St:Nat->Prop} {π:Nat->Nat} (hπ:∀k,π (π k)=k) {g:Gh} {h:aJ} {w:World} (hs:WSim z St g h w):WSim z St (fun k=>g (π k)) (hren π h) w:=by
 have hg:∀k,(fun k=>g (π k)) (π k)=g k:=fun k=>by simp[hπ]
 refine⟨hs.frm,hs.st0,hs.st1, ?_, ?_, ?_⟩
 ·intro r b v hb hv k hk;rw[pO hπ,aaQ]at hb;obtain⟨b0,hb0,rfl⟩:=hb;exact hs.ow (π r) b0 v hb0 hv k hk
 ·intro r b hb;rw[pO hπ,aaQ]at hb;obtain⟨b0,hb0,rfl⟩:=hb;obtain⟨v,hv,hok⟩:=hs.ok (π r) b0 hb0;exact⟨v,hv,hok.ren hg⟩
 ·intro r r' b b' v v' hb hb' hv hv' hne k hk;rw[pO hπ,aaQ]at hb hb';obtain⟨b0,hb0,rfl⟩:=hb;obtain⟨b1,hb1,rfl⟩:=hb';exact hs.sep (π r) (π r') b0 b1 v v' hb0 hb1 hv hv' (fun e=>hne (inj_of hπ e)) k hk
theorem Le.ren {s:S} (π:Nat->Nat) (hπ:∀k,π (π k)=k) (hb:s.b.all (fun k=>Nat.beq (π k) k)=true):Le s ⟨s.N,tren π s.t,hren π s.h,s.b,s.o⟩:=by
 rintro z a w ⟨St,g,hW,hT,hK⟩;refine⟨St,fun k=>g (π k),hW.ren hπ,⟨hT.1,hT.2.1,fun d=> ?_⟩,hK.to (fun _ h=>h) (fun _ _=>rfl) rfl (fun r hr=> ?_)⟩
 ·rw[aAY];exact(hT.2.2 d).ren (fun k=>by simp[hπ])
 ·have:=adV (aaX.1 hb r hr);show g (π r)=_;rw[this]
theorem aG.ren {P:Program} {f:FuncId} {gs:List (Nat×V)} {bk:List Nat} {h0:aJ} {args:List V} {r:V} {h1:aJ} (π:Nat->Nat) (hπ:∀k,π (π k)=k) (hok:h0.all (fun p=>p.2.renOk π)=true) (h:aG P f gs bk h0 args r h1):
  aG P f (gs.map fun p=>(p.1,p.2.ren π)) (bk.map π) (hren π h0) (V.renAll π args) (r.ren π) (hren π h1):=by
 intro z vals hW hl ha hgs;let z0:Start:={z with g:=fun k=>z.g (π k)}
 have hW0:WSim z0 z0.St z0.g h0 z0.w:=by
  have:=hW.ren hπ;rw[hren_hren hπ h0 hok]at this;exact⟨this.frm,this.st0,this.st1,this.ow,this.ok,this.sep⟩
 have hg:∀k,z0.g (π k)=z.g k:=fun k=>by show z.g (π (π k))=_;rw[hπ]
 refine(h z0 vals hW0 (by rw[cA]at hl;exact hl) (fun i hi=> ?_) (fun p hp=> ?_)).mono ?_
 ·have:=(ha i (by rw[cA];exact hi)).ren hg;rw[fJ,V.ren_ren hπ]at this;exact this
 ·have:=(hgs (p.1,p.2.ren π) (adL.2 ⟨p,hp,rfl⟩)).ren hg;rw[V.ren_ren hπ]at this;exact this
 ·rintro e w' ⟨x,r',h1',St',g',rfl,⟨rfl,rfl⟩,hW',hrx,hkeep⟩;have hg':∀k,(fun k=>g' (π k)) (π k)=g' k:=fun k=>by simp[hπ]
  refine⟨x,_,_,St',fun k=>g' (π k),rfl,⟨rfl,rfl⟩, ?_,hrx.ren hg',fun k hk=> ?_⟩
  ·have:=hW'.ren hπ;exact⟨this.frm,this.st0,this.st1,this.ow,this.ok,this.sep⟩
  ·obtain⟨k0,hk0,rfl⟩:=adL.1 hk;show g' (π (π k0))=_;rw[hπ,hkeep k0 hk0]
theorem aG.pre {P:Program} {f:FuncId} {gs:List (Nat×V)} {bk:List Nat} {h0 h0':aJ} {args args':List V} {r:V} {h1:aJ} (h:aG P f gs bk h0' args' r h1) (hl:args'.length=args.length) (hG:Nat.ble args.length 1000000=true) (hc:gs.all (fun p=>p.2.closed)=true)
  (hle:Le ⟨args.length,kZ 0 args++sK gs,h0,bk,0⟩ ⟨args.length,kZ 0 args'++sK gs,h0',bk,0⟩):aG P f gs bk h0 args r h1:=by
 have hG:args.length<=G0:=aaW hG;intro z1 vals hW1 hlv hr hgs;let z:Start:={z1 with ro:=none}
 have hW:WSim z z.St z.g h0 z.w:=⟨hW1.frm,hW1.st0,hW1.st1,hW1.ow,hW1.ok,hW1.sep⟩
 have hsim:Sim z ⟨args.length,kZ 0 args++sK gs,h0,bk,0⟩ {tmps:=vals,defers:=[]} z.w:=by
  refine⟨z.St,z.g,hW,⟨⟨trivial,by simp;omega⟩,hlv,fun d=> ?_⟩,⟨fun _ _=>rfl,⟨[],.nil,rfl,fun D hD=>by cases hD⟩,fun _ h=>(by cases h),fun _=>rfl⟩⟩;rw[mB];by_cases hd:d<args.length
  ·rw[kK];simp only[abM,if_true,afQ];rw[if_pos (jE.2 hd),zV,if_pos (by omega)];exact hr d hd
  ·rw[if_neg (fun h=>hd (jE.1 h))];exact qH hgs d
 obtain⟨St',g',hW',hT',hK'⟩:=hle z _ _ hsim;let z2:Start:={z1 with St:=St',g:=g'}
 have hW2:WSim z2 z2.St z2.g h0' z2.w:=⟨hW'.frm,fun _ h=>h,fun k hk=>⟨(hW'.st1 k hk).1,.inl hk⟩,hW'.ow,hW'.ok,hW'.sep⟩;have hrel:∀d,Rel St' z1.w g' (dD (kZ 0 args'++sK gs) d) (zV {tmps:=vals,defers:=[]} d):=hT'.2.2;refine(h z2 vals hW2 (hlv.trans hl.symm) (fun i hi=> ?_) (fun p hp=> ?_)).mono ?_
 ·have:=hrel i;have hiG:i<G0:=by omega
  rw[mB,if_pos (jE.2 hi),kK,zV,if_pos hiG]at this;simpa using this
 ·exact(((hgs p hp).closed (aaX.1 hc p hp) g').mono hW'.st0 fun _ _=>rfl)
 ·rintro e w' ⟨x,r',h1',St2,g2,rfl,⟨rfl,rfl⟩,hW3,hrx,hkeep⟩;refine⟨x,_,_,St2,g2,rfl,⟨rfl,rfl⟩,⟨hW3.frm,fun k hk=>hW3.st0 k (hW'.st0 k hk),fun k hk=>⟨(hW3.st1 k hk).1, ?_⟩,hW3.ow,hW3.ok,hW3.sep⟩,hrx,fun k hk=>(hkeep k hk).trans (hK'.1 k hk)⟩;rcases(hW3.st1 k hk).2 with h4|h4|h4
  ·exact(hW'.st1 k h4).2
  ·exact .inr (.inl h4)
  ·exact .inr (.inr h4)
theorem Le.nilOwnC {s:S} (q i r:Nat) (e sz:Nat) (f:Nat->Nat->V) {t:TypeId} {cs:List V} (hq:s.h.get q=some (.cells t cs)) (hn:cs.getD i .any= .nils)
  (hf:(qA r s.t&&aJ.fresh r (s.h.del r)&& !s.b.contains r&&(s.h.get r).isNone&&Nat.ble (i+1) cs.length)=true):
  Le s ⟨s.N,s.t,(q,.cells t (cs.set i (.own r)))::((r,.rows e sz 0 f)::s.h.del r),s.b,s.o⟩:=by
 rintro z a w ⟨St,g,hW,hT,hK⟩;simp only[aaL,adM,agQ,acV,aeJ]at hf;obtain⟨⟨⟨⟨h1,h2⟩,h3⟩,h4⟩,h5⟩:=hf;have hilt:i<cs.length:=aaW h5;have hqr:q≠r:=fun e=>by subst e;rw[hq]at h4;cases h4
 have hW1:WSim z St (g.set r (.slice none 0 0)) ((r,.rows e sz 0 f)::s.h.del r) w:=
  hW.change (ro:=none) (fun k hk=>by cases hk) rfl rfl rfl (aaY _) (fun _ _ _=>rfl) (.inl h2) (fun k hk=>by simp[cF,bS]at hk) ⟨[],World.ownsRow_nil w 0 e sz,fun i j hi=>by omega,by simp⟩
 refine⟨St,g.set r (.slice none 0 0),hW1.less fun k b hb=> ?_, ?_,hK.set h3 _ (fun _ _=>rfl) rfl⟩
 ·by_cases e:k=q
  ·subst e;have hb':b= .cells t (cs.set i (.own r)):=by simpa[aJ.get]using hb.symm
   subst hb';refine⟨.cells t cs,by simp[aJ.get,Ne.symm hqr,aJ.get_del,hqr,hq],fun v hv=> ?_⟩;obtain⟨b,vals,rfl,hh,hl,hr,ho⟩:=hv;refine⟨b,vals,rfl,hh,by simpa using hl,fun j hj=> ?_,fun j hj=>ho j (by simpa using hj)⟩;have hj':j<cs.length:=by simpa using hj
   by_cases e2:i=j
   ·subst e2;have h6:=hr i hj';rw[hn]at h6;rw[h6.nils_inv];have h7:(cs.set i (.own r)).getD i .any= .own r:=by simp[aaC,hj']
    rw[h7];exact .own _ _ _ (by simp[Gh.set]) rfl
   ·have h7:(cs.set i (.own r)).getD j .any=cs.getD j .any:=by simp[aaC,afE e2]
    rw[h7];exact hr j hj'
  ·refine⟨b,by simpa[aJ.get,Ne.symm e]using hb,fun _ h=>h⟩
 ·exact hT.change (fun _ _=>rfl) (fun k hk=>Gh.set_ne hk) (.inl h1)
def aV (a b k:Nat):Nat:=bif Nat.beq k a then b else bif Nat.beq k b then a else k
theorem aD (a b:Nat):∀k,aV a b (aV a b k)=k:=by
 intro k;unfold aV;cases h1:Nat.beq k a
 ·cases h2:Nat.beq k b
  ·simp[h1,h2]
  ·have:=adV h2;simp only[cond_false,cond_true,Nat.beq_refl];exact this.symm
 ·have:=adV h1;simp only[cond_true,Nat.beq_refl];cases h3:Nat.beq b a
  ·simp only[cond_false];exact this.symm
  ·have:=adV h3;simp only[cond_true];omega
end Go.Abs
