/- Part 6 of the proof: AbsJ. -/
import Derived.Test.YtfkhgbcggabkjaaGreatDoorMonrepZ05
import Derived.Lib.AppendZerosOnto
namespace Go.Abs
open Go
abbrev abR:=@List.mem_append
abbrev afO:=@Array.getElem!_eq_getD
abbrev afP:=@Nat.lt_or_ge
abbrev afT:=@List.map_toArray
abbrev ahA:=@List.map_nil
def nT (s:S) (d:Nat) (e:TypeId) (v:V):Option (S×Prop):=
 if d<s.N/\v.isVal=true/\v.cells.all V.isOne=true/\V.freshAll (d+s.o) v.cells=true/\qA (d+s.o) s.t=true/\aJ.fresh (d+s.o) (s.h.del (d+s.o))=true/\s.b.contains (d+s.o)=false then
  some (⟨s.N,(d,.ptr (d+s.o) 0)::s.t,(d+s.o,.cells e v.cells)::s.h.del (d+s.o),s.b,s.o⟩,True)else none
def dB (z:List V) (k n:Nat):List V:=(List.range n).map fun q=>z.getD (q%k) .any
def repF (z:List V):Nat->Nat->V:=fun _ j=>z.getD j .any
def rowOf (h:aJ) (d:Nat):V->Option (Nat×Nat×Nat×(Nat->Nat->V)×Option TypeId)
 | .nils=>some (d,0,0,fun _ _=> .any,none)
 | .own r=>match h.get r with
  |some (.rows e sz n f)=>some (r,sz,n,f,some e)
  |_=>none
 |_=>none
def vV (P:Program) (s:S) (d:Nat) (t:TypeId) (x y:V):Option (S×Prop):=
 match P.underlying t with
 |some (.slice e)=>match P.info? e with
  |some i=>match i.zero with
   |some z=>match rowOf s.h (d+s.o) x,srcV s.h e i.size y with
    |some (r,sz,n,f,e'),some (m,f2)=>
     if d<s.N/\0<i.size/\0<i.bytes/\z.cells.size=i.size/\((e'=none/\n=0)\/(e'=some e/\sz=i.size))/\s.b.contains r=false then
      some (⟨s.N,(d,.own r)::pE r s.t,(r,.rows e i.size (n+m) (if e'=none then f2 else fH n f f2))::(hdrop r s.h).del r,s.b,s.o⟩,(n+m) *i.bytes<=140737488355328)else none
    |_,_=>none
   |none=>none
  |none=>none
 |_=>none
def fZ (P:Program) (s:S) (d:Nat) (t:TypeId) (len:Nat) (parts:List (Nat×V)):Option (S×Prop):=
 match P.underlying t with
 |some (.slice e)=>match sA P e,zeroV P e with
  |some k,some z=>match aAp (fun i=>some (i *k,k)) (dB z.cells k (len *k)) parts with
   |some cs=>
    if d<s.N/\0<k/\z.isVal=true/\z.cells.length=k/\len *k<=16777216/\parts.all (fun p=>p.2.isVal)=true/\cs.all V.isOne=true/\V.closedAll cs=true/\s.b.contains (d+s.o)=false then
     some (⟨s.N,(d,.own (d+s.o))::pE (d+s.o) s.t,(d+s.o,.rows e k len (dE k cs))::(hdrop (d+s.o) s.h).del (d+s.o),s.b,s.o⟩,True)else none
   |none=>none
  |_,_=>none
 |_=>none
def kV (P:Program) (s:S) (d:Nat) (t:TypeId) (l c:V):Option (S×Prop):=
 match P.underlying t,l,c with
 |some (.slice e),.int _ n,.int _ m=>match P.info? e with
  |some i=>match i.zero with
   |some zv=>
    let z:=(vcon zv).cells
    if d<s.N/\0<i.size/\(vcon zv).isVal=true/\z.length=i.size/\z.all V.isOne=true/\V.closedAll z=true/\s.b.contains (d+s.o)=false then
     some (⟨s.N,(d,.own (d+s.o))::pE (d+s.o) s.t,(d+s.o,.rows e i.size n.toNat (repF z))::(hdrop (d+s.o) s.h).del (d+s.o),s.b,s.o⟩,0<=n/\n<=m/\(i.bytes:Int) *m<=281474976710656/\m<=9223372036854775807)else none
   |none=>none
  |none=>none
 |_,_,_=>none
def pV (P:Program) (s:S) (d:Nat) (t t':TypeId) (x y:V):Option (S×Prop):=
 match P.underlying t,P.underlying t',x,y with
 |some (.slice e),some (.int _),.nils,.int _ n=>match P.info? e with
  |some i=>match i.zero with
   |some zv=>
    let z:=(vcon zv).cells
    if d<s.N/\0<i.size/\(vcon zv).isVal=true/\z.length=i.size/\z.all V.isOne=true/\V.closedAll z=true/\s.b.contains (d+s.o)=false then
     some (⟨s.N,(d,.own (d+s.o))::pE (d+s.o) s.t,(d+s.o,.rows e i.size n.toNat (repF z))::(hdrop (d+s.o) s.h).del (d+s.o),s.b,s.o⟩,0<n/\n *(i.bytes:Int)<=140737488355328/\n<=4611686018427387904)else none
   |none=>none
  |none=>none
 |_,_,_,_=>none
def clrF (f:Nat->Nat->V) (i m:Nat) (zs:List V):Nat->Nat->V:=fun a c=>if i<=a/\a<i+m then zs.getD c .any else f a c
def aB0 (P:Program) (s:S) (t:TypeId) (x:V):Option (S×Prop):=
 match P.underlying t,x with
 |some (.slice e),.osl r sz i m=>match s.h.get r,zeroV P e with
  |some (.rows e' sz' n f),some z=>
   if sz'=sz/\0<sz/\z.isVal=true/\z.cells.length=sz/\z.cells.all V.isOne=true/\V.closedAll z.cells=true then
    some (⟨s.N,s.t,(r,.rows e' sz n (clrF f i m z.cells))::s.h.del r,s.b,s.o⟩,i+m<=n/\0<m)else none
  |_,_=>none
 |_,_=>none
def hop (P:Program) (s:S) (dst:Option Nat):Op->Option (S×Prop)
 | .alloc e=>match dst,zeroV P e with
  |some d,some z=>nT s d e z
  |_,_=>none
 | .box e x=>match dst with
  |some d=>nT s d e (ev s.t x)
  |none=>none
 | .store ty p x=>match dst,ev s.t p,sA P ty with
  |none,.ptr r off,some k=>match s.h.get r with
   |some (.cells e cs)=>
    if(ev s.t x).isVal=true/\(ev s.t x).cells.length=k/\(ev s.t x).cells.all V.isOne=true/\off+k<=cs.length then
     some (⟨s.N,s.t,(r,.cells e (setCells cs off (ev s.t x).cells))::s.h.del r,s.b,s.o⟩,True)else none
   |_=>none
  |none,.oelem r sz i off,some k=>match s.h.get r with
   |some (.rows e sz' n f)=>
    if sz'=sz/\(ev s.t x).isVal=true/\(ev s.t x).cells.length=k/\(ev s.t x).cells.all V.isOne=true/\V.closedAll (ev s.t x).cells=true/\off+k<=sz then
     some (⟨s.N,s.t,(r,.rows e sz n (aC0 f i off (ev s.t x).cells))::s.h.del r,s.b,s.o⟩,i<n)else none
   |_=>none
  |_,_,_=>none
 | .buildSlice t len parts=>match dst with
  |some d=>fZ P s d t len (parts.toList.map fun p=>(p.1,ev s.t p.2))
  |none=>none
 | .makeSlice t l c=>match dst with
  |some d=>kV P s d t (ev s.t l) (ev s.t c)
  |none=>none
 | .call cl=>match cl.callee,cl.args.toList,cl.argTypes.toList,dst with
  | .builtin .append,[x,y],[t,t'],some d=>if t=t' then vV P s d t (ev s.t x) (ev s.t y)else pV P s d t t' (ev s.t x) (ev s.t y)
  | .builtin .clear,[x],[t],none=>aB0 P s t (ev s.t x)
  |_,_,_,_=>none
 |_=>none
section
variable {P:Program} {z:Start} {St:Nat->Prop} {g:Gh} {h:aJ} {w:World} {N:Nat} {t:List (Nat×V)} {a:Act} {b:List Nat} {o:Nat}
theorem qO {b:List Nat} {d:Nat} (h:b.contains d=false):d∉b:=by simpa using h
theorem sV (hs:WSim z St g h w) (ht:eL St w g N t a) (hk:KD z St w g b a) {d:Nat} {e:TypeId} {v:V} {x:Value} (hv:Rel St w g v x) {s':S} {φ:Prop} (hn:nT ⟨N,t,h,b,o⟩ d e v=some (s',φ)):
  Sim z s' (a.put (some d) (.pointer (some ⟨w.heap.size,0,none⟩))) (w.alloc (.cells x.cells e)):=by
 unfold nT at hn;split at hn
 case isFalse=>cases hn
 rename_i hc;cases hn;exact sim_box hs ht hv hc.2.1 hc.2.2.1 hc.2.2.2.1 hc.2.2.2.2.1 hc.2.2.2.2.2.1 hc.1 hk (qO hc.2.2.2.2.2.2)
theorem aAa (hs:WSim z St g h w) (ht:eL St w g N t a) (hk:KD z St w g b a) {d:Nat} {ty rt:TypeId} {x y:V} {u v:Value} (hx:Rel St w g x u) (hy:Rel St w g y v) {s':S} {φ:Prop}
  (hn:vV P ⟨N,t,h,b,o⟩ d ty x y=some (s',φ)) (hφ:φ):
  ∃v' w',(Builtin.append_ #[ty,ty] rt #[u,v]).run P w= .ok v' w'/\Sim z s' (a.put (some d) v') w':=by
 unfold vV at hn;split at hn
 case h_2=>cases hn
 rename_i e hu;split at hn
 case h_2=>cases hn
 rename_i i hi;split at hn
 case h_2=>cases hn
 rename_i zv hz;split at hn
 case h_2=>cases hn
 rename_i r sz n f e' m f2 hrow hsrc;split at hn
 case isFalse=>cases hn
 rename_i hc;obtain⟨hdN,hsz,hby,hzs,hee,hrb⟩:=hc;cases hn;dsimp only at hdN hrb hsrc hrow⊢;obtain⟨news,hsrc',hnl,hn1,hnr⟩:=run_src hs hsz hy hsrc
 have hbase:∃xs,w.ownsRow 0 e i.size u n xs/\(∀a b,a<n->b<i.size->Rel St w dS (f a b) (xs.getD (a *i.size+b) undef))/\(∀x∈xs,x.oneCell'=true)/\
   (∀k,cF u k->∃b v,h.get r=some b/\g r=some v/\cF v k):=by
  unfold rowOf at hrow;split at hrow
  ·cases hrow;have:=hx.nils_inv;subst this;exact⟨[],World.ownsRow_nil w 0 e i.size,fun a b ha=>by omega,by simp,fun k hk=>by simp[cF,bS]at hk⟩
  ·split at hrow
   case h_2=>cases hrow
   rename_i r' e2 sz2 n2 f2' hh;cases hrow;rcases hee with⟨he,_⟩|⟨he,rfl⟩
   ·cases he
   ·cases he;obtain⟨u',hgu,xs,ho,hr,h1⟩:=hs.ok _ _ hh;have hxr:=hx.own_inv;rw[hxr]at hgu;cases hgu;exact⟨xs,ho,hr,h1,fun k hk=>⟨_,_,hh,hxr,hk⟩⟩
  ·cases hrow
 obtain⟨xs,hown,hxr,hx1,hblk⟩:=hbase
 have h63:n+m<=maxLen:=by
  have:(n+m) *1<=(n+m) *i.bytes:=Nat.mul_le_mul_left _ hby;simp only[maxLen];omega
 obtain⟨v',w',hrun,hown',hos,htape,hout,hsize,hw,hnew,h1v⟩:=sG (ty:=rt) hu hi hz hzs hown hsrc' hn1 h63 hφ;refine⟨v',w',hrun, ?_⟩
 have hF:(if e'=none then f2 else fH n f f2)=fH n f f2\/n=0:=by
  rcases hee with⟨_,h0⟩|⟨he,_⟩
  ·exact .inr h0
  ·left;rw[he];rfl
 refine kO hs ht hdN (ro:=bS u) (v':=v') (fun k hk=>hblk k ((kQ hown k).2 hk)) hos htape hout hsize hw (fun k hk=>(hnew k hk).imp (kQ hown k).1 id) h1v hown' ?_ (fun x hx=> ?_) hk (qO hrb)
 ·have:=app_get (f:=f) (f2:=f2) hown.1 hxr hnr;rcases hF with hF|h0
  ·rw[hF];exact this
  ·subst h0;intro a b ha hb;have h2:=this a b ha hb;split
   ·simpa[fH]using h2
   ·exact h2
 ·rcases abR.1 hx with h|h
  ·exact hx1 x h
  ·exact hn1 x h
theorem range0 :Array.range 0= #[]:=rfl
theorem qG (hs:WSim z St g h w) (ht:eL St w g N t a) (hkeep:KD z St w g b a) {d:Nat} {ty:TypeId} {len:Nat} {parts:List (Nat×V)} {us:Array (Nat×Value)} (hl:us.size=parts.length)
  (hp:∀i,i<parts.length->(us.getD i (0,undef)).1=(parts.getD i (0,.any)).1/\Rel St w g (parts.getD i (0,.any)).2 (us.getD i (0,undef)).2) {s':S} {φ:Prop}
  (hn:fZ P ⟨N,t,h,b,o⟩ d ty len parts=some (s',φ)):
  ∃v' w',(Instr.buildSlice ty len us).run P w= .ok v' w'/\Sim z s' (a.put (some d) v') w':=by
 unfold fZ at hn;split at hn
 case h_2=>cases hn
 rename_i e hu;split at hn
 case h_2=>cases hn
 rename_i k zz hk hz;split at hn
 case h_2=>cases hn
 rename_i cs hf;split at hn
 case isFalse=>cases hn
 rename_i hc;obtain⟨hdN,hk0,hzv,hzl,hmax,hval,hone,hcl,hrb⟩:=hc;cases hn;dsimp only at hdN hrb⊢;obtain⟨zv,hzr,hze,hzrel⟩:=fN (P:=P) (St:=St) (w:=w) (g:=g) hz;obtain⟨hzs,hzc⟩:=hzrel.cells hzv
 have hval':∀i,i<parts.length->(parts.getD i (0,.any)).2.isVal=true:=by
  intro i hi;have:=aaX.1 hval (parts[i]) (by simp);simpa[aaC,hi]using this
 by_cases h0:len *k=0
 ·have hlen:len=0:=by
   rcases Nat.mul_eq_zero.1 h0 with h|h
   ·exact h
   ·omega
  subst hlen;obtain⟨vs',h1,h2,h3,h4⟩:=mD (St:=St) (w:=w) (g:=g) (vs:=(#[]:Array Value)) (us:=us.toList) hf (by simpa using hl) (fun i hi=>⟨by simpa[aaC]using(hp i hi).1,by simpa[aaC]using(hp i hi).2,hval' i hi⟩) (by simp[dB]) (fun i hi=>by simp[dB]at hi);have hcs:cs.length=0:=by rw[h3];simp[dB]
  refine⟨.slice (some ⟨w.heap.size,0,none⟩) 0 0,w.alloc (.cells vs' e), ?_, ?_⟩
  ·simp only[Instr.buildSlice,abI,run_underlying hu,aaP,cO hk,Nat.zero_mul,afN,abO];simp[h1,newRow,range0]
  ·refine kO (w':=w.alloc (.cells vs' e)) (v':= .slice (some ⟨w.heap.size,0,none⟩) 0 0) (r:=d+o) (e:=e) (sz:=k) (f:=dE k cs) (n:=0) hs ht hdN (ro:=none) (xs:=[]) (fun k hk=>by cases hk) rfl rfl rfl (by simp) (fun k hk _=>heap_alloc_old w _ k hk) (fun k hk=> .inr (by simp[cF,bS]at hk;subst hk;exact⟨aaY _,by simp⟩)) rfl ?_ (fun i j hi=>by omega) (by simp) hkeep (qO hrb);exact⟨by simp,.inr ⟨w.heap.size,0,vs',rfl,abM _,heap_alloc_new w _,aaY _,abM _,by rw[h2,hcs];simp,by simp⟩⟩
 ·have hzrow:∀i,i<(dB zz.cells k (len *k)).length->Rel St w g ((dB zz.cells k (len *k)).getD i .any) (((Array.range (len *k)).map (zv.cells[· %zv.cells.size]!)).getD i undef):=by
   intro i hi;have hi':i<len *k:=by simpa[dB]using hi
   have e1:(dB zz.cells k (len *k)).getD i .any=zz.cells.getD (i%k) .any:=by
    unfold dB;rw[getD_map _ _ _ _ 0 (by simpa using hi')];simp[aaC,hi']
   have hlt:i%k<k:=afA _ hk0
   have e2:((Array.range (len *k)).map (zv.cells[· %zv.cells.size]!)).getD i undef=zv.cells.getD (i%k) undef:=by
    have h1:i%k<zv.cells.size:=by omega
    have h2:zv.cells.size=k:=by omega
    simp[hi',h2,afO,acT h1]
   rw[e1,e2];exact hzc _ (by omega)
  obtain⟨vs',h1,h2,h3,h4⟩:=mD (us:=us.toList) hf (by simpa using hl) (fun i hi=>⟨by simpa[aaC]using(hp i hi).1,by simpa[aaC]using(hp i hi).2,hval' i hi⟩) (by simp[dB]) hzrow;have hcs:cs.length=len *k:=by rw[h3];simp[dB]
  refine⟨.slice (some ⟨w.heap.size,0,none⟩) len len,w.alloc (.cells vs' e), ?_, ?_⟩
  ·simp only[Instr.buildSlice,abI,run_underlying hu,aaP,cO hk,afN,abO];rw[if_neg (by omega)]
   try simp only[aaP]
   rw[if_neg h0,hzr];simp only[aaP];rw[h1];simp[newRow]
  ·have hlm:len<=maxLen:=by
    have:len *1<=len *k:=Nat.mul_le_mul_left _ hk0;simp only[maxLen];omega
   refine kO (w':=w.alloc (.cells vs' e)) (v':= .slice (some ⟨w.heap.size,0,none⟩) len len) (r:=d+o) (e:=e) (sz:=k) (f:=dE k cs) (n:=len) hs ht hdN (ro:=none) (xs:=vs'.toList) (fun k hk=>by cases hk) rfl rfl rfl (by simp) (fun k hk _=>heap_alloc_old w _ k hk) (fun k hk=> .inr (by simp[cF,bS]at hk;subst hk;exact⟨aaY _,by simp⟩)) rfl ?_ (fun i j hi hj=> ?_) (fun x hx=> ?_) hkeep (qO hrb)
   ·exact⟨by simp;omega,.inr ⟨w.heap.size,len,vs',rfl,abM _,heap_alloc_new w _,aaY _,hlm,by omega,by rw[aeY (by simp;omega)]⟩⟩
   ·have hq:=fC hi hj;have:=(h4 (i *k+j) (by omega)).closed (V.closedAll_get hcl) dS;simpa[dE,aaC]using this
   ·obtain⟨q,hq,rfl⟩:=acG hx;have hq':q<cs.length:=by simp at hq;omega
    have:=(h4 q hq').isOne (gP hone hq');have hq2:q<vs'.size:=by omega
    simpa[hq2]using this
theorem lX (zv:Array Value) (m q:Nat) (hq:q<m *zv.size) (h0:0<zv.size):(Builtin.zeroCells zv m).toList.getD q undef=zv.getD (q%zv.size) undef:=by
 have h4:q%zv.size<zv.size:=afA _ h0;simp[Builtin.zeroCells,aaC,hq,afO,acT h4]
theorem aCd (hs:WSim z St g h w) (ht:eL St w g N t a) (hkeep:KD z St w g b a) {ty rt:TypeId} {x:V} {p:Value} (hp:Rel St w g x p) {s':S} {φ:Prop}
  (hn:aB0 P ⟨N,t,h,b,o⟩ ty x=some (s',φ)) (hφ:φ):
  ∃w',(Builtin.clear_ #[ty] rt #[p]).run P w= .ok (.tuple #[]) w'/\Sim z s' a w':=by
 unfold aB0 at hn;split at hn
 case h_2=>cases hn
 rename_i e r sz i m hu;dsimp only at hn;split at hn
 case h_2=>cases hn
 rename_i e' sz' n f zz hh hz;split at hn
 case isFalse=>cases hn
 rename_i hc;obtain⟨rfl,hsz0,hval,hlen,h1,hcl0⟩:=hc;cases hn;obtain⟨hin,hm0⟩:=hφ;obtain⟨zv,hzr,hze,hzrel⟩:=fN (P:=P) (St:=St) (w:=w) (g:=g) hz;obtain⟨hcl,hcr⟩:=hzrel.cells hval;obtain⟨u,hgu,xs,ho,hr,hone⟩:=hs.ok r _ hh
 cases hp with
 |osl _ _ _ _ _ bo n' cap hgg=>
  obtain⟨hg,hle,hb0⟩:=hgg;rw[hg]at hgu;cases hgu
  cases bo with
  |none=>have:=hb0 rfl;omega
  |some b0=>
  rcases ho.2 with⟨hu',hn⟩|⟨gg,cap',cur,hu',_,hb,hncap,hcapm,hsz,htake⟩
  ·cases hu'
  simp only[Option.map]at hu' hg;cases hu';have hlenxs:=ho.1;have hne:¬cap=i:=by omega
  have hfit:n *sz'<=cur.size:=by rw[hsz];exact aaT _ hncap
  have hims:i *sz'+m *sz'<=n *sz':=by have:=aaT sz' hin;rw[acA]at this;exact this
  have hzs:zv.cells.size=sz':=by omega
  have hzl:(Builtin.zeroCells zv.cells m).toList.length=m *sz':=by simp[Builtin.zeroCells,hzs]
  have hzg:∀q,q<m *sz'->(Builtin.zeroCells zv.cells m).toList.getD q undef=zv.cells.getD (q%sz') undef:=fun q hq=>by
   have:=lX zv.cells m q (by rw[hzs];exact hq) (by omega);rw[hzs]at this;exact this
  have hrun := run_storeCells_at P b0 (i * sz') e' (Builtin.zeroCells zv.cells m).toList 0 cur w hb (by rw [hzl]; omega) (fun v hv=>by
   obtain⟨q,hq,rfl⟩:=acG hv;rw[hzl]at hq
   have e1:(Builtin.zeroCells zv.cells m).toList[q]'(by rw[hzl];exact hq)=zv.cells.getD (q%sz') undef:=by
    rw[<-hzg q hq,aaC,aaO (by rw[hzl];exact hq)];rfl
   rw[e1];have h4:q%sz'<sz':=afA _ hsz0;exact(hcr _ (by omega)).isOne (gP h1 (by omega)))
  simp only[aeZ]at hrun;rw[hzl]at hrun;have hnb:¬St b0:=(hs.ow r _ _ hh hg b0 rfl).1;generalize hcur:(cur.toList.take (i *sz')++(Builtin.zeroCells zv.cells m).toList++cur.toList.drop (i *sz'+m *sz')).toArray=cur' at hrun;have hStw:∀k,St k->(w.setRow b0 cur').heap[k]? =w.heap[k]? :=fun k hk=>setRow_other w b0 k _ (fun e=>hnb (e▸hk));refine⟨w.setRow b0 cur', ?_,St,g.set r (.slice (some ⟨b0,0,none⟩) n cap), ?_, ?_,by rw[Gh.set_self hg];exact hkeep.to (fun _ h=>h) hStw rfl (fun _ _=>rfl)⟩
  ·simp only[Option.map,if_neg hne];obtain⟨m',rfl⟩:∃m',m=m'+1:=⟨m-1,by omega⟩;simp[Builtin.clear_,run_underlying hu,hzr,hrun]
  ·have hset:∀q,cur'.getD q undef=if i *sz'<=q/\q<i *sz'+m *sz' then zv.cells.getD ((q-i *sz')%sz') undef else cur.getD q undef:=by
    intro q;have:=mY cur.toList (i *sz') (Builtin.zeroCells zv.cells m).toList (by rw[hzl];simp;omega) q;rw[hzl]at this;rw[<-hcur];by_cases hq:i *sz'<=q/\q<i *sz'+m *sz'
    ·rw[if_pos hq]at this⊢;rw[<-hzg _ (by omega)];simpa[aaC]using this
    ·rw[if_neg hq]at this⊢;simpa[aaC]using this
   have hcs:cur'.size=cur.size:=by rw[<-hcur];simp[Builtin.zeroCells,hzs];omega
   have hxs:∀q,q<n *sz'->xs.getD q undef=cur.getD q undef:=by
    intro q hq;rw[<-htake];simp[aaC,hq]
   refine hs.change (ro:=some b0) (fun k hk=> ?_) rfl rfl rfl (by simp) (fun k hk hne=>setRow_other w b0 k _ (fun e=>hne (by rw[e]))) (.inr hg) (fun k hk=> ?_) ?_
   ·cases hk;exact⟨_,_,hh,hg,rfl⟩
   ·simp[cF,bS]at hk;subst hk;exact .inl rfl
   ·have hget:∀q,q<n *sz'->(cur'.toList.take (n *sz')).getD q undef=cur'.getD q undef:=by
     intro q hq;simp[aaC,hq]
    refine⟨cur'.toList.take (n *sz'),⟨by simp;omega,.inr ⟨b0,cap,cur',rfl,abM _,setRow_heap w b0 cur _ e' _ hb,hncap,hcapm,by omega,rfl⟩⟩,fun i' j' hi' hj'=> ?_,fun u hu=> ?_⟩
    ·rw[hget _ (fC hi' hj'),hset];unfold clrF;by_cases hii:i<=i'/\i'<i+m
     ·have h5:i *sz'<=i' *sz':=aaT _ hii.1;have h6:(i'+1) *sz'<=(i+m) *sz':=aaT _ hii.2;rw[acA,acA]at h6;rw[if_pos hii,if_pos (by omega)]
      have e3:(i' *sz'+j'-i *sz')%sz'=j':=by
       obtain⟨d,rfl⟩:∃d,i'=i+d:=⟨i'-i,by omega⟩;have:(i+d) *sz'+j'-i *sz'=sz' *d+j':=by rw[acA,afG d];omega
       rw[this,afY,aeO hj']
      rw[e3];exact((hcr j' (by omega)).closed (V.closedAll_get hcl0) dS).mono (fun _ h=>h) hStw
     ·rw[if_neg hii,if_neg ?_,<-hxs _ (fC hi' hj')]
      ·exact(hr i' j' hi' hj').mono (fun _ h=>h) hStw
      ·intro h7;refine hii ⟨?_, ?_⟩
       ·rcases afP i' i with h2|h2
        ·have:=aaT sz' (show i'+1<=i from h2);rw[acA]at this;omega
        ·exact h2
       ·rcases afP i' (i+m)with h2|h2
        ·exact h2
        ·have:=aaT sz' h2;rw[acA]at this;omega
    ·obtain⟨q,hq,rfl⟩:=acG hu;have hq':q<n *sz':=by simp at hq;omega
     have e1:(cur'.toList.take (n *sz'))[q]=cur'.getD q undef:=by
      rw[<-hget q hq',aaC,aaO hq];rfl
     rw[e1,hset];split
     ·have h4:(q-i *sz')%sz'<sz':=afA _ hsz0;exact(hcr _ (by omega)).isOne (gP h1 (by omega))
     ·rw[<-hxs q hq'];refine hone _ ?_;have hqx:q<xs.length:=by omega
      rw[aaC,aaO hqx];exact acU hqx
  ·rw[Gh.set_self hg];exact ht.change hStw (d:=r) (fun k hk=>rfl) (.inr rfl)
theorem sD (hs:WSim z St g h w) (ht:eL St w g N t a) (hkeep:KD z St w g b a) {d:Nat} {ty:TypeId} {l c:V} {u v:Value} (hl:Rel St w g l u) (hc:Rel St w g c v) {s':S} {φ:Prop}
  (hn:kV P ⟨N,t,h,b,o⟩ d ty l c=some (s',φ)) (hφ:φ):
  ∃v' w',(Instr.makeSlice ty u v).run P w= .ok v' w'/\Sim z s' (a.put (some d) v') w':=by
 unfold kV at hn;split at hn
 case h_2=>cases hn
 rename_i e kl n kc m hu;split at hn
 case h_2=>cases hn
 rename_i i hi;split at hn
 case h_2=>cases hn
 rename_i zv hz;dsimp only at hn;split at hn
 case isFalse=>cases hn
 rename_i hcnd;obtain⟨hdN,hk0,hzv,hzl,hone,hcl,hrb⟩:=hcnd;cases hn;obtain⟨h0,h1,h2,h3⟩:=hφ;have:=hl.int_inv;subst this;have:=hc.int_inv;subst this;obtain⟨hzs,hzc⟩:=(pM (St:=St) (w:=w) (g:=g) zv).cells hzv;have hzs':zv.cells.size=i.size:=by omega
 refine⟨_,_,run_make (P:=P) w ty e i zv hu hi hz kl kc n m h0 h1 h2 h3, ?_⟩;have hnm:n.toNat<=m.toNat:=by omega
 have hmk:∀q,q<m.toNat *i.size->(madeCells zv.cells (m.toNat *i.size)).getD q undef=zv.cells.getD (q%i.size) undef:=by
  intro q hq;have h4:q%i.size<zv.cells.size:=by rw[hzs'];exact afA _ hk0
  simp[madeCells,hq,hzs',afO,acT h4]
 have hle:n.toNat *i.size<=m.toNat *i.size:=aaT _ hnm
 have hget:∀q,q<n.toNat *i.size->((madeCells zv.cells (m.toNat *i.size)).toList.take (n.toNat *i.size)).getD q undef=zv.cells.getD (q%i.size) undef:=by
  intro q hq;rw[<-hmk q (by omega)];simp[aaC,hq]
 refine kO (w':=w.alloc (.cells (madeCells zv.cells (m.toNat *i.size)) e)) (v':= .slice (some ⟨w.heap.size,0,none⟩) n.toNat m.toNat) (r:=d+o) (e:=e) (sz:=i.size) (f:=repF (vcon zv).cells) (n:=n.toNat) hs ht hdN (ro:=none) (xs:=(madeCells zv.cells (m.toNat *i.size)).toList.take (n.toNat *i.size)) (fun k hk=>by cases hk) rfl rfl rfl (by simp) (fun k hk _=>heap_alloc_old w _ k hk) (fun k hk=> .inr (by simp[cF,bS]at hk;subst hk;exact⟨aaY _,by simp⟩)) rfl ?_ (fun i' j hi' hj=> ?_) (fun x hx=> ?_) hkeep (qO hrb)
 ·refine⟨by rw[abE,acY,size_madeCells];omega,.inr ⟨w.heap.size,m.toNat,_,rfl,abM _,heap_alloc_new w _,hnm,by simp only[maxLen];omega,size_madeCells _ _,rfl⟩⟩
 ·have hq:=fC hi' hj;rw[hget _ hq];have e3:(i' *i.size+j)%i.size=j:=by rw[afG,afY,aeO hj]
  rw[e3];exact(hzc j (by omega)).closed (V.closedAll_get hcl) dS
 ·obtain⟨q,hq,rfl⟩:=acG hx;have hq':q<n.toNat *i.size:=by simp at hq;omega
  have e1:((madeCells zv.cells (m.toNat *i.size)).toList.take (n.toNat *i.size))[q]=zv.cells.getD (q%i.size) undef:=by
   rw[<-hget q hq',aaC,aaO hq];rfl
  have h4:q%i.size<i.size:=afA _ hk0;rw[e1];exact(hzc _ (by omega)).isOne (gP hone (by omega))
end
section
variable {P:Program} {z:Start} {St:Nat->Prop} {g:Gh} {h:aJ} {w:World} {N:Nat} {t:List (Nat×V)} {a:Act} {b:List Nat} {o:Nat}
theorem wQ (hs:WSim z St g h w) (ht:eL St w g N t a) (hkeep:KD z St w g b a) {d:Nat} {ty ty' rt:TypeId} {x y:V} {u v:Value} (hl:Rel St w g x u) (hc:Rel St w g y v) {s':S} {φ:Prop}
  (hn:pV P ⟨N,t,h,b,o⟩ d ty ty' x y=some (s',φ)) (hφ:φ):
  ∃v' w',(Builtin.append_ #[ty,ty'] rt #[u,v]).run P w= .ok v' w'/\Sim z s' (a.put (some d) v') w':=by
 unfold pV at hn;split at hn
 case h_2=>cases hn
 rename_i e kt kn n hu hu';split at hn
 case h_2=>cases hn
 rename_i i hi;split at hn
 case h_2=>cases hn
 rename_i zv hz;dsimp only at hn;split at hn
 case isFalse=>cases hn
 rename_i hcnd;obtain⟨hdN,hk0,hzv,hzl,hone,hcl,hrb⟩:=hcnd;cases hn;obtain⟨h0,h1,h2⟩:=hφ;have:=hl.nils_inv;subst this;have:=hc.int_inv;subst this;obtain⟨hzs,hzc⟩:=(pM (St:=St) (w:=w) (g:=g) zv).cells hzv;have hzs':zv.cells.size=i.size:=by omega
 obtain⟨k,rfl⟩:∃k:Nat,n=(k:Int):=⟨n.toNat,by omega⟩
 have h1':k *i.bytes<=140737488355328:=by
  have:(((k *i.bytes:Nat)):Int)=(k:Int) *(i.bytes:Int):=Int.natCast_mul _ _;omega
 have hrun:=Lib.run_append_grow_zeros (P:=P) w ty ty' rt e i zv kn kt hu hu' hi hz none 0 0 [] (run_firstCells_none w.drew i.size 0 0 0) k (by omega) hk0 (by omega) (by omega) (by omega) (growslice_fits (by omega) (by simpa using h1'));simp only[abW]at hrun;refine⟨_,_,hrun, ?_⟩;have hG:=grownCap_ge w k 0 e;have hGm:=grownCap_le_maxLen w k 0 e (by simp only[maxLen];omega);generalize grownCap w k 0 e=G at hG hGm;generalize hcells:(([]:List Value).toArray++Builtin.zeroCells zv.cells k++Builtin.zeroCells zv.cells (G-k))=cur
 have hsz:cur.size=G *i.size:=by
  rw[<-hcells];simp[Builtin.zeroCells,hzs'];rw[<-acA];congr 1;omega
 have hget:∀q,q<k *i.size->(cur.toList.take (k *i.size)).getD q undef=zv.cells.getD (q%i.size) undef:=by
  intro q hq;have h5:=lX zv.cells k q (by rw[hzs'];exact hq) (by omega);rw[hzs']at h5;rw[<-h5,<-hcells];have hl:q<(Builtin.zeroCells zv.cells k).toList.length:=by simp[Builtin.zeroCells,hzs'];exact hq
  rw[aaC,acL,if_pos hq];simp only[Array.toList_append,afB];rw[abU hl,aaC]
 have hkm:k *i.size<=G *i.size:=aaT _ hG
 have hhs:(w.drew.alloc (.cells cur e)).heap.size=w.heap.size+1:=by
  rw[show(w.drew.alloc (.cells cur e)).heap=(w.alloc (.cells cur e)).heap from rfl];simp
 have hnat:((k:Int)).toNat=k:=by simp
 rw[hnat];refine kO (w':=w.drew.alloc (.cells cur e)) (v':= .slice (some ⟨w.heap.size,0,none⟩) k G) (r:=d+o) (e:=e) (sz:=i.size) (f:=repF (vcon zv).cells) (n:=k) hs ht hdN (ro:=none) (xs:=cur.toList.take (k *i.size)) (fun k hk=>by cases hk) rfl rfl rfl (by omega) (fun k hk _=>heap_alloc_old w.drew _ k hk) (fun k hk=> .inr (by simp[cF,bS]at hk;subst hk;exact⟨aaY _,by omega⟩)) rfl ?_ (fun i' j hi' hj=> ?_) (fun x hx=> ?_) hkeep (qO hrb)
 ·refine⟨by rw[abE,acY,hsz];omega,.inr ⟨w.heap.size,G,_,rfl,abM _,heap_alloc_new w.drew _,hG,hGm,hsz,rfl⟩⟩
 ·have hq:=fC hi' hj;rw[hget _ hq];have e3:(i' *i.size+j)%i.size=j:=by rw[afG,afY,aeO hj]
  rw[e3];exact(hzc j (by omega)).closed (V.closedAll_get hcl) dS
 ·obtain⟨q,hq,rfl⟩:=acG hx;have hq':q<k *i.size:=by simp at hq;omega
  have e1:(cur.toList.take (k *i.size))[q]=zv.cells.getD (q%i.size) undef:=by
   rw[<-hget q hq',aaC,aaO hq];rfl
  have h4:q%i.size<i.size:=afA _ hk0;rw[e1];exact(hzc _ (by omega)).isOne (gP hone (by omega))
end
theorem run_hop {P:Program} {z:Start} {s s':S} {a:Act} {w:World} (hs:Sim z s a w) {o:Oper} {φ:Prop} (hn:hop P s o.dst o.op=some (s',φ)) (hφ:φ) (ho:obl true s.t (bZ o.op))
  {K:Act->World->Prop} {Q:Exit->Act->World->Prop} (hK:∀x w',Sim z s' (a.put o.dst x) w'->K (a.put o.dst x) w'):o.wp P a w K Q:=by
 obtain⟨St,g,hW,hT,hKp⟩:=hs;have E:=wS hT rfl ho;obtain⟨N,t,h,bb,oo⟩:=s;obtain⟨dst,op,ty0,pos,after,guard⟩:=o;dsimp only at hn E hW hT ho hKp;unfold Oper.wp;cases op<;>simp only[hop,reduceCtorEq]at hn<;>simp only[execOp]
 case alloc e=>
  split at hn
  case h_2=>cases hn
  rename_i d zz hz;obtain⟨zv,hzr,hze,hzrel⟩:=fN (P:=P) (St:=St) (w:=w) (g:=g) hz;simp only[Instr.alloc,abI,hzr,aaP,newVar,newRow,run_newObj,abO,Oper.upon];exact hK _ _ (sV hW hT hKp hzrel hn)
 case box e x=>
  split at hn
  case h_2=>cases hn
  rename_i d;simp only[Instr.box,abI,aaP,newVar,newRow,run_newObj,abO,Oper.upon];exact hK _ _ (sV hW hT hKp (E x (by simp[bZ,Op.operands])) hn)
 case store ty p x=>
  have hp:=E p (by simp[bZ,Op.operands]);have hx:=E x (by simp[bZ,Op.operands]);split at hn
  ·rename_i r off k hpe hk;rw[hpe]at hp;split at hn
   case h_2=>cases hn
   rename_i e cs hh;split at hn
   case isFalse=>cases hn
   rename_i hc;cases hn;obtain⟨w',hrun,hsim⟩:=sim_store (P:=P) hW hT hp hx hh hk hc.1 hc.2.1 hc.2.2.1 hc.2.2.2 hKp;simp only[abI,hrun,aaP,abO,Oper.upon];exact hK _ _ hsim
  ·rename_i r sz i off k hpe hk;rw[hpe]at hp;split at hn
   case h_2=>cases hn
   rename_i e sz' n f hh;split at hn
   case isFalse=>cases hn
   rename_i hc;cases hn;obtain⟨rfl,hc⟩:=hc;obtain⟨w',hrun,hsim⟩:=wJ (P:=P) hW hT hp hx hh hk hc.1 hc.2.1 hc.2.2.1 hc.2.2.2.1 hc.2.2.2.2 hφ hKp;simp only[abI,hrun,aaP,abO,Oper.upon];exact hK _ _ hsim
  ·cases hn
 case buildSlice ty len parts=>
  split at hn
  case h_2=>cases hn
  rename_i d
  obtain ⟨v', w', hrun, hsim⟩ := qG (P := P) hW hT hKp (us := parts.map fun (x : Nat × Operand) => match x with | (i, x) => (i, a.eval x)) (by simp) (fun i hi=>by
   have hi':i<parts.size:=by simpa using hi
   have h2:(parts.toList.map fun p=>(p.1,ev t p.2)).getD i (0,.any)=(parts[i].1,ev t parts[i].2):=by simp[aaC,hi']
   have h3:(parts.map fun(x:Nat×Operand)=>match x with|(i,x)=>(i,a.eval x)).getD i (0,undef)=(parts[i].1,a.eval parts[i].2):=by simp[hi']
   rw[h2,h3];exact⟨rfl,E parts[i].2 (by simp only[bZ,Op.operands];simp;exact⟨_,afC hi'⟩)⟩) hn
  simp only[abI,hrun,aaP,abO,Oper.upon];exact hK _ _ hsim
 case makeSlice ty l c=>
  split at hn
  case h_2=>cases hn
  rename_i d;obtain⟨v',w',hrun,hsim⟩:=sD (P:=P) hW hT hKp (E l (by simp[bZ,Op.operands])) (E c (by simp[bZ,Op.operands])) hn hφ;simp only[abI,hrun,aaP,abO,Oper.upon];exact hK _ _ hsim
 case call cl=>
  split at hn
  case h_3=>cases hn
  case h_2=>
   rename_i x t1 hcal hargs hts;have ha:cl.args= #[x]:=by rw[<-adC (xs:=cl.args),hargs]
   have hty:cl.argTypes= #[t1]:=by rw[<-adC (xs:=cl.argTypes),hts]
   obtain⟨w',hrun,hsim⟩:=aCd (P:=P) (rt:=ty0) hW hT hKp (E x (by simp[bZ,Op.operands,Call.operands,hcal,ha])) hn hφ;simp only[resolve,hcal,abI,abO,aaP,invoke,builtin,ha,hty,afT,abS,ahA];rw[hrun];simp only[aaP,Oper.upon];exact hK _ _ hsim
  rename_i x y t1 t2 d hcal hargs hts;split at hn
  case isFalse=>
   have ha:cl.args= #[x,y]:=by rw[<-adC (xs:=cl.args),hargs]
   have hty:cl.argTypes= #[t1,t2]:=by rw[<-adC (xs:=cl.argTypes),hts]
   obtain⟨v',w',hrun,hsim⟩:=wQ (P:=P) (rt:=ty0) hW hT hKp (E x (by simp[bZ,Op.operands,Call.operands,hcal,ha])) (E y (by simp[bZ,Op.operands,Call.operands,hcal,ha])) hn hφ;simp only[resolve,hcal,abI,abO,aaP,invoke,builtin,ha,hty,afT,abS,ahA];rw[hrun];simp only[aaP,Oper.upon];exact hK _ _ hsim
  rename_i htt;subst htt;have ha:cl.args= #[x,y]:=by rw[<-adC (xs:=cl.args),hargs]
  have hty:cl.argTypes= #[t1,t1]:=by rw[<-adC (xs:=cl.argTypes),hts]
  obtain⟨v',w',hrun,hsim⟩:=aAa (P:=P) (rt:=ty0) hW hT hKp (E x (by simp[bZ,Op.operands,Call.operands,hcal,ha])) (E y (by simp[bZ,Op.operands,Call.operands,hcal,ha])) hn hφ;simp only[resolve,hcal,abI,abO,aaP,invoke,builtin,ha,hty,afT,abS,ahA];rw[hrun];simp only[aaP,Oper.upon];exact hK _ _ hsim
end Go.Abs
