/- Part 10 of the proof: AbsS. -/
import Derived.Test.YtfkhgbcggabkjaaGreatDoorMonrepZ09
import Derived.MapKept
namespace Go.Abs
open Go Go.MapKept
abbrev adP:=@List.mem_singleton
def sJ (d:TypeDesc):V->V->Option Bool
 | .int k a,.int k' b=>match d with
  | .int _=>if k=k' then some (a==b)else none
  |_=>none
 | .str a,.str b=>match d with
  | .string=>some (a==b)
  |_=>none
 | .b16 a,.b16 b=>match d with
  | .int _=>some (a==b)
  |_=>none
 |_,_=>none
def sL (d:TypeDesc) (key:V) (kf:Nat->V):Nat->Nat->Option (Option Nat)
 |0,_=>some none
 |n+1,i=>match sJ d key (kf i)with
  |some true=>some (some i)
  |some false=>sL d key kf n (i+1)
  |none=>none
section
variable {P:Program} {St:Nat->Prop} {w:World}
theorem wN {d:TypeDesc} {g g':Gh} {x y:V} {a b:Value} {r:Bool} (h:sJ d x y=some r) (hx:Rel St w g x a) (hy:Rel St w g' y b):Instr.sameNow d a b=some r:=by
 unfold sJ at h;split at h
 ·have:=hx.int_inv;subst this;have:=hy.int_inv;subst this;cases d<;>simp_all[Instr.sameNow]
 ·obtain⟨s,rfl,hs⟩:=hx.str_inv;obtain⟨s',rfl,hs'⟩:=hy.str_inv;cases d<;>simp only[reduceCtorEq,Option.some.injEq]at h;subst h;simp only[Instr.sameNow,Option.some.injEq];rw[<-hs,<-hs',aeT,bytes_beq,abZ];exact⟨fun e=>by rw[e],fun h=>ByteArray.ext (Array.ext' h)⟩
 ·have:=hx.b16_inv;subst this;have:=hy.b16_inv;subst this;cases d<;>simp only[reduceCtorEq,Option.some.injEq]at h;subst h;simp[Instr.sameNow,b16_beq]
 ·cases h
theorem qE {d:TypeDesc} {g:Gh} {x:V} {a:Value} (hx:Rel St w g x a) {kf:Nat->V}:∀(n i:Nat) (l:List MapEntry) {r:Option Nat},sL d x kf n i=some r->l.length=n->
  (∀j,j<n->Rel St w dS (kf (i+j)) (l.getD j default).key)->Instr.findNow d a l i=some (r.map fun q=>(q,(l.getD (q-i) default).val))/\(∀q,r=some q->i<=q/\q<i+n)
 |0,i,l,r,h,hl,hr=>by
  simp only[sL,Option.some.injEq]at h;subst h
  have:=acB hl
  subst this
  exact⟨rfl,by simp⟩
 |n+1,i,[],r,h,hl,hr=>by simp at hl
 |n+1,i,e::l,r,h,hl,hr=>by
  simp only[sL]at h
  have h0:=hr 0 (by omega)
  simp only[aeZ,abK]at h0
  split at h
  ·rename_i hk
   simp only[Option.some.injEq]at h;subst h
   exact⟨by simp[Instr.findNow,wN hk hx h0],by rintro q ⟨⟩;omega⟩
  ·rename_i hk
   obtain⟨h1,h2⟩:=qE hx n (i+1) l h (by simpa using hl) fun j hj=>by
    have:=hr (j+1) (by omega)
    rw[abP]at this
    rwa [show i+1+j=i+(j+1) by omega]
   refine⟨?_,fun q hq=>by have:=h2 q hq;omega⟩
   simp only[Instr.findNow,wN hk hx h0,h1]
   cases r with
   |none=>rfl
   |some q=>
    have:=h2 q rfl
    simp only[afZ,Option.some.injEq,Prod.mk.injEq,true_and]
    have e1:q-i=(q-(i+1))+1:=by omega
    rw[e1,abP]
  ·cases h
def uP (d:TypeDesc):V->Bool
 | .int k _=>match d with
  | .int k'=>k==k'
  |_=>false
 | .str _=>match d with
  | .string=>true
  |_=>false
 | .b16 _=>match d with
  | .int k'=>k'== .u16
  |_=>false
 |_=>false
theorem pN {d:TypeDesc} {g:Gh} {x:V} {a:Value} (h:uP d x=true) (hx:Rel St w g x a):IsKey d a:=by
 unfold uP at h;split at h
 ·have:=hx.int_inv;subst this;split at h
  ·simp only[abZ]at h;subst h;rfl
  ·cases h
 ·obtain⟨s,rfl,_⟩:=hx.str_inv;split at h
  ·trivial
  ·cases h
 ·have:=hx.b16_inv;subst this;split at h
  ·simp only[abZ]at h;subst h;rfl
  ·cases h
 ·cases h
theorem WSim.newObj {z:Start} {g:Gh} {h:aJ} (hs:WSim z St g h w) {d:Nat} {v':Value} {blk:Blk} {ob:Obj} (hfr:aJ.fresh d (h.del d)=true) (hb:cF v'=fun k=>some w.heap.size=some k)
  (hok:dG St (w.alloc ob) (g.set d v') v' blk):WSim z St (g.set d v') ((d,blk)::h.del d) (w.alloc ob):=
 hs.change (ro:=none) (fun k hk=>by cases hk) rfl rfl rfl (by simp) (fun k hk _=>by first|exact heap_alloc_old w _ hk|exact heap_alloc_old w _ k hk) (.inl hfr) (fun k hk=>by rw[hb]at hk;cases hk;exact .inr ⟨aaY _,by simp⟩) hok
theorem nU (ty r:Nat) (t:TypeId) (kf vf:Nat->V):eF P (.makeMap t none) ty [] [] [] (.own r) [(r,.mapB 0 kf vf)]:=by
 rintro o ho _ z ρ hW _;obtain⟨dst,op,ty0,pos,after,guard⟩:=o;dsimp only at ho;subst ho;refine⟨_,.map (some z.w.heap.size),z.w.alloc (.map #[] 0),z.St,z.g.set r (.map (some z.w.heap.size)),by simp[execOp,Instr.makeMap],.inl rfl, ?_,.own _ _ _ (by simp[Gh.set]) rfl,fun k hk=>by cases hk⟩;refine hW.newObj (h:=[]) (d:=r) rfl rfl ?_;exact⟨_, #[],rfl,heap_alloc_new _ _,rfl,fun i hi=>by omega,fun i hi=>by omega,fun i hi=>by omega⟩
def setF (f:Nat->V) (n:Nat) (v:V):Nat->V:=fun i=>if i=n then v else f i
theorem dG.map_inv {g:Gh} {v:Value} {n:Nat} {kf vf:Nat->V} (h:dG St w g v (.mapB n kf vf)):∃b es,v= .map (some b)/\w.heap[b]? =some (.map es n)/\es.size=n/\(∀i,i<n->(es.getD i default).born=i)/\
   (∀i,i<n->Rel St w dS (kf i) (es.getD i default).key)/\(∀i,i<n->Rel St w dS (vf i) (es.getD i default).val):=h
theorem aBl {kt:TypeId} {d:TypeDesc} (hd:P.underlying kt=some d) {g:Gh} {x:V} {a:Value} (hx:Rel St w g x a) {n:Nat} {kf:Nat->V} {es:Array MapEntry} (hn:es.size=n) (hk:∀i,i<n->Rel St w dS (kf i) (es.getD i default).key)
  {r:Option Nat} (hf:sL d x kf n 0=some r):(Instr.findKey kt a es.toList).run P w= .ok (r.map fun q=>(q,(es.getD q default).val)) w/\∀q,r=some q->q<n:=by
 obtain⟨h1,h2⟩:=qE hx n 0 es.toList hf (by simpa using hn) fun j hj=>by simpa[aaC]using hk j hj
 refine⟨?_,fun q hq=>by have:=h2 q hq;omega⟩;rw[run_findKey hd h1];congr 1
 cases r with
 |none=>rfl
 |some q=>simp[aaC]
theorem gT (es:Array MapEntry) (e:MapEntry) (i:Nat):(es.push e).getD i default=if i=es.size then e else es.getD i default:=by
 by_cases h:i<es.size
 ·simp[Array.getElem_push,h,Nat.lt_succ_of_lt h];omega
 ·by_cases h2:i=es.size
  ·subst h2;simp
  ·have:¬i<(es.push e).size:=by simp;omega
   simp[adQ (aeE this),adQ (aeE h),h2]
theorem aAh {mt kt et:TypeId} {d:TypeDesc} (hm:P.underlying mt=some (.map kt et)) (hd:P.underlying kt=some d) (op:Op) (m k x:Operand) (hop:op= .insert mt m k x\/op= .mapUpdate mt m k x) (ty r n:Nat) (kf vf:Nat->V) (key val:V)
  (hko:uP d key=true) (hkc:key.closed=true) (hvc:val.closed=true) (hf:sL d key kf n 0=some none):
  eF P op ty [r] [(r,.mapB n kf vf)] [.own r,key,val] .any [(r,.mapB (n+1) (setF kf n key) (setF vf n val))]:=by
 rintro o ho _ z ρ hW hr;obtain⟨dst,op',ty0,pos,after,guard⟩:=o;dsimp only at ho;subst ho;obtain⟨u,hg,hb⟩:=hW.ok r (.mapB n kf vf) (by simp[aJ.get]);obtain⟨b,es,rfl,ho,hn,hbn,hk,hv⟩:=hb.map_inv;have h0:=hr 0 (by simp);have h1:=hr 1 (by simp);have h2:=hr 2 (by simp);have hops:op'.operands.toList=[m,k,x]:=by rcases hop with rfl|rfl<;>simp[Op.operands]
 rw[hops]at h0 h1 h2;simp only[abK,abP]at h0 h1 h2;have hm0:ρ m= .map (some b):=by have:=h0.own_inv;rw[hg]at this;simpa using this.symm
 obtain⟨hfk,_⟩:=aBl hd h1 hn hk hf;have hlt:=(abD.1 ho).1;let w':World:={z.w with heap:=z.w.heap.setIfInBounds b (.map (es.push ⟨ρ k,ρ x,n⟩) (n+1))}
 have hrun:(execOp ρ ⟨dst,op',ty0,pos,after,guard⟩).run P z.w= .ok .skip w':=by
  have:(Instr.mapUpdate mt (ρ m) (ρ k) (ρ x)).run P z.w= .ok () w':=by
   simp[Instr.mapUpdate,run_underlying hm,hm0,MapKept.run_getObj_map ho,run_checkKey hd (pN hko h1) false 9999,hfk,run_setObj_map _ ho,Result.andThen,w']
  rcases hop with rfl|rfl<;>simp[execOp,this]
 have hget:∀q,q≠b->w'.heap[q]? =z.w.heap[q]? :=fun q hq=>by simp[w',acX (Ne.symm hq)]
 have hStb:¬z.St b:=(hW.ow r (.mapB n kf vf) _ (by simp[aJ.get]) hg b rfl).1;have hStw:∀q,z.St q->w'.heap[q]? =z.w.heap[q]? :=fun q hq=>hget q fun e=>hStb (e▸hq);refine⟨_,undef,w',z.St,z.g.set r (.map (some b)),hrun,.inr ⟨rfl,rfl⟩, ?_,.any _ _,fun q hq=>by simp only[adP]at hq;subst hq;simp[Gh.set,hg]⟩
 have hset:z.g.set r (.map (some b))=z.g:=by
  funext q;by_cases hq:q=r
  ·subst hq;simp[Gh.set,hg]
  ·simp[Gh.set,hq]
 have hdel:aJ.del [(r,Blk.mapB n kf vf)] r=[]:=by simp[aJ.del]
 rw[<-hdel];refine hW.change (w':=w') (d:=r) (v':= .map (some b)) (blk:= .mapB (n+1) (setF kf n key) (setF vf n val)) (ro:=some b) (h:=[(r,.mapB n kf vf)]) (fun q hq=>by cases hq;exact⟨.mapB n kf vf,_,by simp[aJ.get],hg,rfl⟩) rfl rfl rfl (by simp[w']) (fun q _ hq=>hget q fun e=>hq (by rw[e])) (.inr hg) (fun q hq=> .inl (by simpa[cF,bS]using hq)) ?_;refine⟨b,es.push ⟨ρ k,ρ x,n⟩,rfl,by simp[w',hlt],by simp[hn],fun i hi=> ?_,fun i hi=> ?_,fun i hi=> ?_⟩
 ·rw[gT];split
  ·rename_i h;rw[h,hn]
  ·exact hbn i (by omega)
 ·rw[gT,setF,hn];split
  ·exact(h1.closed hkc dS).mono (fun _ h=>h) hStw
  ·exact(hk i (by omega)).mono (fun _ h=>h) hStw
 ·rw[gT,setF,hn];split
  ·exact(h2.closed hvc dS).mono (fun _ h=>h) hStw
  ·exact(hv i (by omega)).mono (fun _ h=>h) hStw
theorem qQ {mt kt et:TypeId} {d:TypeDesc} (hm:P.underlying mt=some (.map kt et)) (hd:P.underlying kt=some d) (m k:Operand) (ty n:Nat) (kf vf:Nat->V) (key:V) (hko:uP d key=true) (q:Option Nat) (hf:sL d key kf n 0=some q)
  (zv:V) (hz:zeroV P et=some zv):eF P (.lookup mt m k true) ty [] [] [.mp n kf vf,key] (.tup [match q with|some i=>vf i|none=>zv,.bool q.isSome]) []:=by
 rintro o ho _ z ρ hW hr;obtain⟨dst,op',ty0,pos,after,guard⟩:=o;dsimp only at ho;subst ho;have h0:=hr 0 (by simp);have h1:=hr 1 (by simp);simp[Op.operands]at h0 h1;generalize hmv:ρ m=mv at h0
 cases h0 with
 |mp _ _ _ _ b es hs ho hn hb hk hv=>
  obtain⟨hfk,hlt⟩:=aBl hd h1 hn hk hf;obtain⟨zz,hzr,_,hzrel⟩:=fN (P:=P) (St:=z.St) (w:=z.w) (g:=z.g) hz;have hck:=run_checkKey (P:=P) (w:=z.w) hd (pN hko h1)
  cases q with
  |none=>
   refine⟨_,.tuple #[zz,.bool false],z.w,z.St,z.g,by simp[execOp,Instr.lookup,run_underlying hm,hmv,MapKept.run_getObj_map ho,hck _ 9999,hfk,hzr,Result.andThen],.inl rfl,hW,.tup _ _ _ rfl fun i hi=> ?_,fun q hq=>by cases hq⟩
   match i,hi with
   |0,_=>exact hzrel
   |1,_=>exact .bool _ _
  |some q=>
   refine⟨_,.tuple #[(es.getD q default).val,.bool true],z.w,z.St,z.g,by simp[execOp,Instr.lookup,run_underlying hm,hmv,MapKept.run_getObj_map ho,hck _ 9999,hfk,Result.andThen],.inl rfl,hW,.tup _ _ _ rfl fun i hi=> ?_,fun q hq=>by cases hq⟩
   match i,hi with
   |0,_=>exact eJ (hv q (hlt q rfl)) rfl
   |1,_=>exact .bool _ _
end
end Go.Abs
