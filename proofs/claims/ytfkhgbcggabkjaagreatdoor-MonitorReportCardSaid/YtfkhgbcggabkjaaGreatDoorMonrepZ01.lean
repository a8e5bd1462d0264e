/- Part 1 of the proof: AbsA. -/
import Derived.Laws.AppendOwn
import Derived.Laws.Rows
import Derived.Laws.CopyRow
import Derived.Tactics2
import Derived.RowKit3
namespace Go.Abs
open Go
abbrev aaD:=@Option.some.inj
abbrev aaL:=@Bool.and_eq_true
abbrev aaY:=@Nat.le_refl
abbrev abD:=@Array.getElem?_eq_some_iff
abbrev abL:=@Bool.false_eq_true
abbrev acS:=@Bool.not_true
abbrev adW:=@Bool.not_false
abbrev aeC:=@List.filter_cons
abbrev aeI:=@Nat.add_sub_cancel_left
abbrev aaA:=List UInt8
abbrev aaB:=List (BitVec 16)
theorem oJ {α:Type} {a b:α} (h:some a=some b):a=b:=aaD h
abbrev TB :=BitVec 16
abbrev Tq0 :=Int×Int×aaA
abbrev Tq1 :=aaA×aaA×Int
abbrev Tq2 :=Int×Int
abbrev Tq3 :=BitVec 16×BitVec 16
abbrev Tq4 :=Int×Bool
abbrev Tq5 :=Int×aaA
abbrev Tq6 :=Int×Int×Int
abbrev Tq7 :=aaA×BitVec 16
abbrev Tq8 :=aaA×Bool×Bool×Bool
abbrev Tq9 :=Int×aaA×aaA×aaA×Int
abbrev Tq10 :=Int×Int×Int×Int×Int×Int×aaA×aaA
inductive V where
 |any
 |bool (b:Bool)
 |int (k:IntKind) (n:Int)
 |b16 (x:BitVec 16)
 |str (l:aaA)
 |agg (cs:List V)
 |tup (vs:List V)
 |nils
 |arr (sz n:Nat) (f:Nat->Nat->V)
 |elem (sz n:Nat) (f:Nat->Nat->V) (i off:Nat)
 |own (r:Nat)
 |ptr (r off:Nat)
 |oelem (r sz i off:Nat)
 |osl (r sz i off:Nat)
 |fn (f:Fn) (caps:List V)
 |lit (v:Value)
 |opt (c:Bool) (v:V)
 |abool (p:Bool->Prop)
 |mp (n:Nat) (kf vf:Nat->V)
 |tab (k:IntKind) (l:List Int)
 |ifc (b:Bool)
 |opq
abbrev Gh :=Nat->Option Value
def ifcOk :Bool->Value->Prop
 |true,x=>∃t v,x= .iface t v
 |false,x=>x= .nilIface
def dS :Gh:=fun _=>none
inductive Rel (St:Nat->Prop) (w:World):Gh->V->Value->Prop where
 |any (g:Gh) (x:Value):Rel St w g .any x
 |bool (g:Gh) (b:Bool):Rel St w g (.bool b) (.bool b)
 |int (g:Gh) (k:IntKind) (n:Int):Rel St w g (.int k n) (.int k n)
 |b16 (g:Gh) (x:BitVec 16):Rel St w g (.b16 x) (.int .u16 (x.toNat:Int))
 |str (g:Gh) (l:aaA) (s:ByteArray) (h:s.data.toList=l):Rel St w g (.str l) (.string s)
 |agg (g:Gh) (cs:List V) (vs:Array Value) (hl:vs.size=cs.length)
   (h:∀i,i<cs.length->Rel St w g (cs.getD i .any) (vs.getD i undef)):Rel St w g (.agg cs) (.agg vs)
 |tup (g:Gh) (cs:List V) (vs:Array Value) (hl:vs.size=cs.length)
   (h:∀i,i<cs.length->Rel St w g (cs.getD i .any) (vs.getD i undef)):Rel St w g (.tup cs) (.tuple vs)
 |nils (g:Gh):Rel St w g .nils (.slice none 0 0)
 |arr0 (g:Gh) (sz:Nat) (f:Nat->Nat->V):Rel St w g (.arr sz 0 f) (.slice none 0 0)
 |arrE (g:Gh) (sz:Nat) (f:Nat->Nat->V) (a:Addr):Rel St w g (.arr sz 0 f) (.slice (some a) 0 0)
 |arr (g:Gh) (sz n:Nat) (f:Nat->Nat->V) (b o cap:Nat) (x:Nat->Nat->Value) (hcap:n<=cap) (hmax:n<=maxLen) (hs:0<n->0<sz->St b)
   (hc:∀i j,i<n->j<sz->w.cell? ⟨b,o+i *sz+j,none⟩=some (x i j))
   (h1:∀i j,i<n->j<sz->(x i j).oneCell'=true)
   (hr:∀i j,i<n->j<sz->Rel St w dS (f i j) (x i j)):Rel St w g (.arr sz n f) (.slice (some ⟨b,o,none⟩) n cap)
 |elem (g:Gh) (sz n:Nat) (f:Nat->Nat->V) (i off b o:Nat) (x:Nat->Nat->Value) (hi:i<n) (hs:0<sz->St b)
   (hc:∀i j,i<n->j<sz->w.cell? ⟨b,o+i *sz+j,none⟩=some (x i j))
   (h1:∀i j,i<n->j<sz->(x i j).oneCell'=true)
   (hr:∀i j,i<n->j<sz->Rel St w dS (f i j) (x i j)):Rel St w g (.elem sz n f i off) (.pointer (some ⟨b,o+i *sz+off,none⟩))
 |own (g:Gh) (r:Nat) (v:Value) (h:g r=some v) (h1:v.oneCell'=true):Rel St w g (.own r) v
 |ptr (g:Gh) (r off b:Nat) (h:g r=some (.pointer (some ⟨b,0,none⟩))):Rel St w g (.ptr r off) (.pointer (some ⟨b,off,none⟩))
 |oelem (g:Gh) (r sz i off b n cap:Nat) (h:g r=some (.slice (some ⟨b,0,none⟩) n cap)):Rel St w g (.oelem r sz i off) (.pointer (some ⟨b,i *sz+off,none⟩))
 |osl (g:Gh) (r sz i off:Nat) (b:Option Nat) (n cap:Nat) (h:g r=some (.slice (b.map fun b=>⟨b,0,none⟩) n cap)/\i+off<=cap/\(b=none->cap=0)):Rel St w g (.osl r sz i off) (.slice (b.map fun b=>⟨b,(if cap=i then 0 else i *sz),none⟩) off (cap-i))
 |fn (g:Gh) (f:Fn) (cs:List V) (vs:Array Value) (hl:vs.size=cs.length)
   (h:∀i,i<cs.length->Rel St w g (cs.getD i .any) (vs.getD i undef)):Rel St w g (.fn f cs) (.func f #[] vs)
 |lit (g:Gh) (x:Value):Rel St w g (.lit x) x
 |opt (g:Gh) (c:Bool) (v:V) (x:Value) (h:c=true->Rel St w g v x) (h0:c=false->x=undef):Rel St w g (.opt c v) x
 |abool (g:Gh) (p:Bool->Prop) (b:Bool) (h:p b):Rel St w g (.abool p) (.bool b)
 |mp (g:Gh) (n:Nat) (kf vf:Nat->V) (b:Nat) (es:Array MapEntry) (hs:St b) (ho:w.heap[b]? =some (.map es n)) (hn:es.size=n) (hb:∀i,i<n->(es.getD i default).born=i)
   (hk:∀i,i<n->Rel St w dS (kf i) (es.getD i default).key) (hv:∀i,i<n->Rel St w dS (vf i) (es.getD i default).val):Rel St w g (.mp n kf vf) (.map (some b))
 |tab (g:Gh) (k:IntKind) (l:List Int) (b:Nat) (t:TypeId) (fr:Nat×Nat) (hs:St b) (ho:w.heap[b]? =some (.cells (l.map (Value.int k)).toArray t fr)):Rel St w g (.tab k l) (.pointer (some ⟨b,0,none⟩))
 |ifc (g:Gh) (b:Bool) (x:Value) (h:ifcOk b x):Rel St w g (.ifc b) x
 |opq (g:Gh) (x:Value) (h:x.oneCell'=true):Rel St w g .opq x
mutual
def V.fresh (r:Nat):V->Bool
 | .own k=> !(k==r)
 | .ptr k _=> !(k==r)
 | .oelem k _ _ _=> !(k==r)
 | .osl k _ _ _=> !(k==r)
 | .agg cs=>V.freshAll r cs
 | .tup cs=>V.freshAll r cs
 | .fn _ cs=>V.freshAll r cs
 | .opt _ v=>V.fresh r v
 |_=>true
def V.freshAll (r:Nat):List V->Bool
 |[]=>true
 |v::l=>V.fresh r v&&V.freshAll r l
end
theorem V.freshAll_get {r:Nat}:∀{l:List V} {i:Nat},V.freshAll r l=true->V.fresh r (l.getD i .any)=true
 |[],i,_=>by simp[V.fresh]
 |v::l,0,h=>by simp only[V.freshAll,aaL]at h;simpa using h.1
 |v::l,i+1,h=>by simp only[V.freshAll,aaL]at h;simpa using V.freshAll_get (i:=i) h.2
theorem Rel.mono {St St':Nat->Prop} {w w':World} (hS:∀k,St k->St' k) (hw:∀k,St k->w'.heap[k]? =w.heap[k]?):
  ∀{g:Gh} {v:V} {x:Value},Rel St w g v x->Rel St' w' g v x:=by
 intro g v x h
 induction h with
 |any g x=>exact .any g x
 |bool g b=>exact .bool g b
 |int g k n=>exact .int g k n
 |b16 g x=>exact .b16 g x
 |str g l s h=>exact .str g l s h
 |agg g cs vs hl h ih=>exact .agg g cs vs hl ih
 |tup g cs vs hl h ih=>exact .tup g cs vs hl ih
 |nils g=>exact .nils g
 |arr0 g sz f=>exact .arr0 g sz f
 |arrE g sz f a=>exact .arrE g sz f a
 |arr g sz n f b o cap x hcap hmax hs hc h1 hr ih=>
  exact .arr g sz n f b o cap x hcap hmax (fun hn hz => hS b (hs hn hz)) (fun i j hi hj=>by
   rw[World.cell?_of_block (w:=w) (hw b (hs (by omega) (by omega)))];exact hc i j hi hj) h1 ih
 |elem g sz n f i off b o x hi hs hc h1 hr ih=>
  exact .elem g sz n f i off b o x hi (fun hz => hS b (hs hz)) (fun i j hi hj=>by
   rw[World.cell?_of_block (w:=w) (hw b (hs (by omega)))];exact hc i j hi hj) h1 ih
 |own g r v h h1=>exact .own g r v h h1
 |ptr g r off b h=>exact .ptr g r off b h
 |oelem g r sz i off b n cap h=>exact .oelem g r sz i off b n cap h
 |osl g r sz i off b n cap h=>exact .osl g r sz i off b n cap h
 |fn g f cs vs hl h ih=>exact .fn g f cs vs hl ih
 |lit g x=>exact .lit g x
 |opt g c v x h h0 ih=>exact .opt g c v x ih h0
 |abool g p b h=>exact .abool g p b h
 |mp g n kf vf b es hs ho hn hb hk hv ihk ihv=>exact .mp g n kf vf b es (hS b hs) (by rw[hw b hs];exact ho) hn hb ihk ihv
 |tab g k l b t fr hs ho=>exact .tab g k l b t fr (hS b hs) (by rw[hw b hs];exact ho)
 |ifc g b x h=>exact .ifc g b x h
 |opq g x h=>exact .opq g x h
theorem Rel.rebind {St:Nat->Prop} {w:World} {r:Nat}:
  ∀{g:Gh} {v:V} {x:Value},Rel St w g v x->∀{g':Gh},(∀k,k≠r->g' k=g k)->v.fresh r=true->Rel St w g' v x:=by
 intro g v x h
 induction h with
 |any g x=>intro _ _ _;exact .any _ x
 |bool g b=>intro _ _ _;exact .bool _ b
 |int g k n=>intro _ _ _;exact .int _ k n
 |b16 g x=>intro _ _ _;exact .b16 _ x
 |str g l s h=>intro _ _ _;exact .str _ l s h
 |agg g cs vs hl h ih=>intro g' hg hf;simp only[V.fresh]at hf;exact .agg _ cs vs hl fun i hi=>ih i hi hg (V.freshAll_get hf)
 |tup g cs vs hl h ih=>intro g' hg hf;simp only[V.fresh]at hf;exact .tup _ cs vs hl fun i hi=>ih i hi hg (V.freshAll_get hf)
 |nils g=>intro _ _ _;exact .nils _
 |arr0 g sz f=>intro _ _ _;exact .arr0 _ sz f
 |arrE g sz f a=>intro _ _ _;exact .arrE _ sz f a
 |arr g sz n f b o cap x hcap hmax hs hc h1 hr ih=>intro _ _ _;exact .arr _ sz n f b o cap x hcap hmax hs hc h1 hr
 |elem g sz n f i off b o x hi hs hc h1 hr ih=>intro _ _ _;exact .elem _ sz n f i off b o x hi hs hc h1 hr
 |own g k v h h1=>intro g' hg hf;simp[V.fresh]at hf;exact .own _ k v (by rw[hg k hf];exact h) h1
 |ptr g k off b h=>intro g' hg hf;simp[V.fresh]at hf;exact .ptr _ k off b (by rw[hg k hf];exact h)
 |oelem g k sz i off b n cap h=>intro g' hg hf;simp[V.fresh]at hf;exact .oelem _ k sz i off b n cap (by rw[hg k hf];exact h)
 |osl g k sz i off b n cap h=>intro g' hg hf;simp[V.fresh]at hf;exact .osl _ k sz i off b n cap (by rw[hg k hf];exact h)
 |fn g f cs vs hl h ih=>intro g' hg hf;simp only[V.fresh]at hf;exact .fn _ f cs vs hl fun i hi=>ih i hi hg (V.freshAll_get hf)
 |lit g x=>intro _ _ _;exact .lit _ x
 |opt g c v x h h0 ih=>intro g' hg hf;simp only[V.fresh]at hf;exact .opt _ c v x (fun hc=>ih hc hg hf) h0
 |abool g p b h=>intro _ _ _;exact .abool _ p b h
 |mp g n kf vf b es hs ho hn hb hk hv ihk ihv=>intro _ _ _;exact .mp _ n kf vf b es hs ho hn hb hk hv
 |tab g k l b t fr hs ho=>intro _ _ _;exact .tab _ k l b t fr hs ho
 |ifc g b x h=>intro _ _ _;exact .ifc _ b x h
 |opq g x h=>intro _ _ _;exact .opq _ x h
def dD :List (Nat×V)->Nat->V
 |[],_=> .any
 |(k,v)::l,d=>if k=d then v else dD l d
def G0 :Nat:=1000000
def zV (a:Act) (d:Nat):Value:=if d<G0 then a.tmps.getD d undef else .pointer (some ⟨d-G0,0,none⟩)
structure YC where
 N:Nat
 t:List (Nat×V)
 ps:Array Tmp
 assign:Code
 body:Code
 jumps:List Code
 g0:Gh
def YOk (St:Nat->Prop) (w:World) (g:Gh) (r:Loop) (k:Nat):Option (List Nat×YC)->Prop
 |none=>True
 |some (ids,C)=>(∀i,i∈ids->g i=C.g0 i)/\r.params=C.ps/\r.assign=C.assign/\r.body=C.body/\(k=0->r.state= .ready/\r.pending=none)/\(k=1->r.state= .busy)/\(∀j,k=j+2->r.state= .done/\r.pending=C.jumps[j]?)/\
   r.tmps.size=C.N/\C.N<=G0/\∀d,Rel St w C.g0 (dD C.t d) (zV {tmps:=r.tmps,defers:=[]} d)
def iV :Option (List Nat×YC)->List Nat
 |some (ids,_)=>ids
 |none=>[]
def hJ (bad:Bool) (o:Option (List Nat×YC)):Option (List Nat×YC):=if bad then none else o
theorem YOk.mono {St St':Nat->Prop} {w w':World} {g g':Gh} {r:Loop} {k:Nat} {o:Option (List Nat×YC)} (h:YOk St w g r k o) (hS:∀k,St k->St' k) (hw:∀k,St k->w'.heap[k]? =w.heap[k]?) (hg:∀i,i∈iV o->g' i=g i):YOk St' w' g' r k o:=by
 cases o with
 |none=>trivial
 |some p=>
  obtain⟨ids,C⟩:=p;obtain⟨h1,h2,h3,h4,h5,h6,h6',h7,h8,h9⟩:=h;exact⟨fun i hi=>(hg i hi).trans (h1 i hi),h2,h3,h4,h5,h6,h6',h7,h8,fun d=>(h9 d).mono hS hw⟩
theorem YOk.cutb {St:Nat->Prop} {w:World} {g:Gh} {r:Loop} {k:Nat} {o:Option (List Nat×YC)} (h:YOk St w g r k o) (bad:Bool):YOk St w g r k (hJ bad o):=by
 unfold hJ;split
 ·trivial
 ·exact h
inductive Blk where
 |cells (t:TypeId) (cs:List V)
 |rows (e:TypeId) (sz n:Nat) (f:Nat->Nat->V)
 |iter (n:Nat) (kf vf:Nat->V) (seen:List Nat)
 |siter (l:aaA) (pos:Nat)
 |mapB (n:Nat) (kf vf:Nat->V)
 |yld (o:Option (List Nat×YC)) (k:Nat)
 |mapI (n:Nat) (kf:Nat->V) (o:Option Nat) (hole hq:Option Nat)
 |fam (e:TypeId) (sz n:Nat) (m:Nat->Nat) (f:Nat->Nat->Nat->V) (hole:Option Nat)
abbrev aJ :=List (Nat×Blk)
def aJ.get :aJ->Nat->Option Blk
 |[],_=>none
 |(k,b)::h,r=>if k=r then some b else aJ.get h r
def aJ.del (h:aJ) (r:Nat):aJ:=h.filter fun p=> !(p.1==r)
theorem aJ.get_cons (k:Nat) (b:Blk) (h:aJ) (r:Nat):aJ.get ((k,b)::h) r=if k=r then some b else aJ.get h r:=rfl
theorem aJ.get_del (r k:Nat):∀h:aJ,aJ.get (h.del r) k=if k=r then none else aJ.get h k
 |[]=>by simp[aJ.del,aJ.get]
 |(a,b)::h=>by
  have ih:=aJ.get_del r k h
  unfold aJ.del at ih⊢
  by_cases har:a=r
  ·subst har
   simp only[aeC,beq_self_eq_true,acS,abL,if_false,ih,aJ.get]
   by_cases hk:k=a
   ·simp[hk]
   ·simp[hk,Ne.symm hk]
  ·have:(a==r)=false:=by simpa using har
   simp only[aeC,this,adW,if_true,aJ.get,ih]
   by_cases hk:k=r
   ·subst hk;simp[har]
   ·simp[hk]
def Blk.fresh (r:Nat):Blk->Bool
 | .cells _ cs=>V.freshAll r cs
 | .rows .. =>true
 | .iter .. =>true
 | .siter .. =>true
 | .mapB .. =>true
 | .mapI _ _ o _ hq=> !(o==some r)&& !(hq==some r)
 | .fam .. =>true
 | .yld o _=> !(iV o).contains r
def aJ.fresh (r:Nat):aJ->Bool
 |[]=>true
 |(_,b)::h=>b.fresh r&&aJ.fresh r h
theorem aJ.fresh_get {r:Nat}:∀{h:aJ} {k:Nat} {b:Blk},aJ.fresh r h=true->h.get k=some b->b.fresh r=true
 |[],_,_,_,hg=>by simp[aJ.get]at hg
 |(a,c)::h,k,b,hf,hg=>by
  simp only[aJ.fresh,aaL]at hf
  simp only[aJ.get]at hg
  split at hg
  ·cases hg;exact hf.1
  ·exact aJ.fresh_get hf.2 hg
def bS :Value->Option Nat
 | .pointer (some a)=>some a.block
 | .slice (some a) _ _=>some a.block
 | .map b=>b
 | .func (.yield l) _ _=>some l
 |_=>none
def cF (v:Value) (k:Nat):Prop:=
 match v with
 | .tuple a=>∃i,i<a.size/\bS (a.getD i undef)=some k
 |v=>bS v=some k
def RowOk (St:Nat->Prop) (w:World) (e:TypeId) (sz n:Nat) (f:Nat->Nat->V) (v:Value):Prop:=
 ∃xs,w.ownsRow 0 e sz v n xs/\(∀i j,i<n->j<sz->Rel St w dS (f i j) (xs.getD (i *sz+j) undef))/\(∀x∈xs,x.oneCell'=true)
def dG (St:Nat->Prop) (w:World) (g:Gh) (v:Value):Blk->Prop
 | .cells t cs=>∃b vals,v= .pointer (some ⟨b,0,none⟩)/\w.heap[b]? =some (.cells vals t (0,0))/\vals.size=cs.length/\
   (∀i,i<cs.length->Rel St w g (cs.getD i .any) (vals.getD i undef))/\(∀i,i<cs.length->(vals.getD i undef).oneCell'=true)
 | .rows e sz n f=>∃xs,w.ownsRow 0 e sz v n xs/\(∀i j,i<n->j<sz->Rel St w dS (f i j) (xs.getD (i *sz+j) undef))/\
   (∀x∈xs,x.oneCell'=true)
 | .iter n kf vf seen=>∃b m,v= .pointer (some ⟨b,0,none⟩)/\w.heap[b]? =some (.mapIter (some m) n seen.toArray n)/\Rel St w dS (.mp n kf vf) (.map (some m))
 | .siter l pos=>∃b s,v= .pointer (some ⟨b,0,none⟩)/\w.heap[b]? =some (.stringIter s pos)/\s.data.toList=l
 | .yld o k=>∃l r,v= .func (.yield l) #[] #[]/\w.heap[l]? =some (.loop r)/\YOk St w g r k o
 | .mapB n kf vf=>∃b es,v= .map (some b)/\w.heap[b]? =some (.map es n)/\es.size=n/\(∀i,i<n->(es.getD i default).born=i)/\
   (∀i,i<n->Rel St w dS (kf i) (es.getD i default).key)/\(∀i,i<n->Rel St w dS (vf i) (es.getD i default).val)
 | .mapI n kf o hole hq=>∃b es,v= .map (some b)/\w.heap[b]? =some (.map es n)/\es.size=n/\(∀i,i<n->(es.getD i default).born=i)/\
   (∀i,i<n->Rel St w dS (kf i) (es.getD i default).key)/\(∀r,o=some r->∃a,g r=some (.tuple a)/\a.size=n/\∀i,i<n->hole≠some i->a.getD i undef=(es.getD i default).val)/\
   (∀q,hq=some q->(∀i,hole=some i->g q=some (es.getD i default).val)/\(hole=none->g q=some (.slice none 0 0)))
 | .fam e sz n m f hole=>∃a,v= .tuple a/\a.size=n/\(∀i,i<n->hole≠some i->RowOk St w e sz (m i) (f i) (a.getD i undef))/\
   (∀i,hole=some i->a.getD i undef=undef)/\(∀i j k,i<n->j<n->i≠j->bS (a.getD i undef)=some k->bS (a.getD j undef)≠some k)
theorem aCn {w:World} {e:TypeId} {sz:Nat} {v:Value} {n:Nat} {xs:List Value} (ho:w.ownsRow 0 e sz v n xs):∀k,bS v=some k->k<w.heap.size:=by
 intro k hk;rcases ho.2 with⟨rfl,_⟩|⟨gg,cap,cur,rfl,_,hg,_⟩
 ·simp[bS]at hk
 ·simp[bS]at hk;subst hk;exact(abD.1 hg).1
theorem kQ {w:World} {e:TypeId} {sz:Nat} {v:Value} {n:Nat} {xs:List Value} (ho:w.ownsRow 0 e sz v n xs) (k:Nat):cF v k↔bS v=some k:=by
 rcases ho.2 with⟨rfl,_⟩|⟨gg,cap,cur,rfl,_⟩<;>exact Iff.rfl
theorem dG.lt {St:Nat->Prop} {w:World} {g:Gh} {v:Value} {b:Blk} (h:dG St w g v b):∀k,cF v k->k<w.heap.size:=by
 intro k hk
 cases b with
 |cells t cs=>
  obtain⟨b,vals,rfl,hb,_⟩:=h;simp[cF,bS]at hk;subst hk
  exact(abD.1 hb).1
 |rows e sz n f=>
  obtain⟨xs,ho,_⟩:=h;rcases ho.2 with⟨rfl,_⟩|⟨gg,cap,cur,rfl,_,hg,_⟩
  ·simp[cF,bS]at hk
  ·simp[cF,bS]at hk;subst hk
   exact(abD.1 hg).1
 |iter n kf vf seen=>
  obtain⟨b,m,rfl,hb,_⟩:=h;simp[cF,bS]at hk;subst hk
  exact(abD.1 hb).1
 |siter l pos=>
  obtain⟨b,s,rfl,hb,_⟩:=h;simp[cF,bS]at hk;subst hk
  exact(abD.1 hb).1
 |mapB n kf vf=>
  obtain⟨b,es,rfl,hb,_⟩:=h;simp[cF,bS]at hk;subst hk
  exact(abD.1 hb).1
 |yld o j=>
  obtain⟨l,r,rfl,hb,_⟩:=h;simp[cF,bS]at hk;subst hk
  exact(abD.1 hb).1
 |mapI n kf o hole hq=>
  obtain⟨b,es,rfl,hb,_⟩:=h;simp[cF,bS]at hk;subst hk
  exact(abD.1 hb).1
 |fam e sz n m f hole=>
  obtain⟨a,rfl,hs,hr,hh,_⟩:=h;obtain⟨i,hi,hk⟩:=hk;by_cases hx:hole=some i
  ·rw[hh i hx]at hk;cases hk
  ·obtain⟨xs,ho,_⟩:=hr i (by omega) hx;exact aCn ho k hk
theorem gF {w w':World} {e:TypeId} {sz:Nat} {v:Value} {n:Nat} {xs:List Value} (h:w.ownsRow 0 e sz v n xs)
  (hb:∀k,bS v=some k->w'.heap[k]? =w.heap[k]?):w'.ownsRow 0 e sz v n xs:=by
 refine⟨h.1, ?_⟩;rcases h.2 with hn|⟨g,cap,cur,rfl,h0,hg,rest⟩
 ·exact .inl hn
 ·exact .inr ⟨g,cap,cur,rfl,h0,by rw[hb g rfl];exact hg,rest⟩
theorem dG.mono {St St':Nat->Prop} {w w':World} {g g':Gh} {v:Value} {b:Blk} (h:dG St w g v b)
  (hS:∀k,St k->St' k) (hw:∀k,St k->w'.heap[k]? =w.heap[k]?) (hb:∀k,cF v k->w'.heap[k]? =w.heap[k]?)
  {r:Nat} (hg:∀k,k≠r->g' k=g k) (hf:b.fresh r=true\/g'=g):dG St' w' g' v b:=by
 cases b with
 |cells t cs=>
  obtain⟨b,vals,rfl,hh,hl,hr,h1⟩:=h;refine⟨b,vals,rfl,by rw[hb b rfl];exact hh,hl,fun i hi=> ?_,h1⟩;rcases hf with hf|rfl
  ·exact((hr i hi).rebind hg (V.freshAll_get hf)).mono hS hw
  ·exact(hr i hi).mono hS hw
 |rows e sz n f=>
  obtain⟨xs,ho,hr,h1⟩:=h
  exact⟨xs,gF ho fun k hk=>hb k ((kQ ho k).2 hk),fun i j hi hj=>(hr i j hi hj).mono hS hw,h1⟩
 |iter n kf vf seen=>
  obtain⟨b,m,rfl,hh,hr⟩:=h
  exact⟨b,m,rfl,by rw[hb b rfl];exact hh,hr.mono hS hw⟩
 |siter l pos=>
  obtain⟨b,s,rfl,hh,hr⟩:=h
  exact⟨b,s,rfl,by rw[hb b rfl];exact hh,hr⟩
 |mapB n kf vf=>
  obtain⟨b,es,rfl,hh,hn,hbn,hk,hv⟩:=h
  exact⟨b,es,rfl,by rw[hb b rfl];exact hh,hn,hbn,fun i hi=>(hk i hi).mono hS hw,fun i hi=>(hv i hi).mono hS hw⟩
 |mapI n kf o hole hq=>
  obtain⟨b,es,rfl,hh,hn,hbn,hk,hv,hp⟩:=h;refine⟨b,es,rfl,by rw[hb b rfl];exact hh,hn,hbn,fun i hi=>(hk i hi).mono hS hw,fun q hq=> ?_,fun q hq=> ?_⟩
  ·obtain⟨a,ha,h2⟩:=hv q hq;refine⟨a, ?_,h2⟩;rcases hf with hf|rfl
   ·rw[hg q (by rintro rfl;subst hq;simp[Blk.fresh]at hf)];exact ha
   ·exact ha
  ·rcases hf with hf|rfl
   ·rw[hg q (by rintro rfl;subst hq;simp[Blk.fresh]at hf)];exact hp q hq
   ·exact hp q hq
 |fam e sz n m f hole=>
  obtain⟨a,rfl,hs,hr,hh,hd⟩:=h;refine⟨a,rfl,hs,fun i hi hx=> ?_,hh,hd⟩;obtain⟨xs,ho,h1,h2⟩:=hr i hi hx
  exact⟨xs,gF ho fun k hk=>hb k ⟨i,by omega,hk⟩,fun i j hi hj=>(h1 i j hi hj).mono hS hw,h2⟩
 |yld o k=>
  obtain⟨l,rr,rfl,hh,hy⟩:=h;refine⟨l,rr,rfl,by rw[hb l rfl];exact hh,hy.mono hS hw fun i hi=> ?_⟩;rcases hf with hf|rfl
  ·exact hg i (by rintro rfl;simp[Blk.fresh]at hf;exact hf hi)
  ·rfl
structure Frm (w w':World) (Own:Nat->Prop):Prop where
 os:w'.os=w.os
 tape:w'.tape=w.tape
 output:w'.output=w.output
 size:w.heap.size<=w'.heap.size
 block:∀k,k<w.heap.size->¬Own k->w'.heap[k]? =w.heap[k]?
theorem Frm.refl (w:World) (Own:Nat->Prop):Frm w w Own:=⟨rfl,rfl,rfl,aaY _,fun _ _ _=>rfl⟩
structure Start where
 w:World
 St:Nat->Prop
 Own:Nat->Prop
 g:Gh
 ro:Option Nat
structure WSim (z:Start) (St:Nat->Prop) (g:Gh) (h:aJ) (w:World):Prop where
 frm:Frm z.w w z.Own
 st0:∀k,z.St k->St k
 st1:∀k,St k->k<w.heap.size/\(z.St k\/z.Own k\/z.w.heap.size<=k)
 ow:∀r b v,h.get r=some b->g r=some v->∀k,cF v k->¬St k/\(z.Own k\/z.w.heap.size<=k)
 ok:∀r b,h.get r=some b->∃v,g r=some v/\dG St w g v b
 sep:∀r r' b b' v v',h.get r=some b->h.get r'=some b'->g r=some v->g r'=some v'->r≠r'->∀k,cF v k->¬cF v' k
structure S where
 N:Nat
 t:List (Nat×V)
 h:aJ
 b:List Nat
 o:Nat
def eL (St:Nat->Prop) (w:World) (g:Gh) (N:Nat) (t:List (Nat×V)) (a:Act):Prop:=
 (True/\a.tmps.size<=G0)/\a.tmps.size=N/\∀d,Rel St w g (dD t d) (zV a d)
theorem eL.tmp {St:Nat->Prop} {w:World} {g:Gh} {N:Nat} {t:List (Nat×V)} {a:Act} (h:eL St w g N t a) {d:Nat} (hd:d<G0):Rel St w g (dD t d) (a.tmps.getD d undef):=by
 have:=h.2.2 d;rwa [zV,if_pos hd]at this
theorem eL.glob {St:Nat->Prop} {w:World} {g:Gh} {N:Nat} {t:List (Nat×V)} {a:Act} (h:eL St w g N t a) (k:Nat):Rel St w g (dD t (G0+k)) (.pointer (some ⟨k,0,none⟩)):=by
 have:=h.2.2 (G0+k);rwa [zV,if_neg (by omega),aeI]at this
def Keep (z:Start) (g:Gh) (b:List Nat):Prop:=∀r,r∈b->g r=z.g r
def markD (D:Nat):Deferred:={target:= .collected D,args:= #[]}
structure KD (z:Start) (St:Nat->Prop) (w:World) (g:Gh) (b:List Nat) (a:Act):Prop where
 keep:Keep z g b
 dfr:∃dm:List Nat,dm.Nodup/\a.defers=dm.map markD/\∀D,D∈dm->St D/\w.heap[D]? =some (.deferred (some []))/\z.w.heap.size<=D
 rcd:∀l,z.ro=some l->St l/\∃r,w.heap[l]? =some (.loop r)
 rd:z.ro.isSome=true->a.defers=[]
theorem KD.to {z:Start} {St St':Nat->Prop} {w w':World} {g g':Gh} {b:List Nat} {a a':Act} (h:KD z St w g b a) (hS:∀k,St k->St' k) (hw:∀k,St k->w'.heap[k]? =w.heap[k]?) (ha:a'.defers=a.defers) (hg:∀r,r∈b->g' r=g r):KD z St' w' g' b a':=by
 obtain⟨hk,⟨dm,h1,h2,h3⟩,hr,hd⟩:=h;refine⟨fun r hr=>(hg r hr).trans (hk r hr),⟨dm,h1,ha.trans h2,fun D hD=> ?_⟩,fun l hl=> ?_,fun h=>ha.trans (hd h)⟩
 ·obtain⟨h4,h5,h6⟩:=h3 D hD;exact⟨hS D h4,by rw[hw D h4];exact h5,h6⟩
 ·obtain⟨h4,r,h5⟩:=hr l hl;exact⟨hS l h4,r,by rw[hw l h4];exact h5⟩
def Sim (z:Start) (s:S) (a:Act) (w:World):Prop:=∃St g,WSim z St g s.h w/\eL St w g s.N s.t a/\KD z St w g s.b a
end Go.Abs
