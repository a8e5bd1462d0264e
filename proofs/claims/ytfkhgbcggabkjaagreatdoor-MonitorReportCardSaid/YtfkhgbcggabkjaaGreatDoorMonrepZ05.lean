/- Part 5 of the proof: AbsH, AbsI. -/
import Derived.Test.YtfkhgbcggabkjaaGreatDoorMonrepZ04
import Derived.Laws.MakeOwn
import Derived.Laws.OwnMore
namespace Go.Abs
open Go
abbrev aaF:=@List.length_append
abbrev aaN:=@List.length_cons
abbrev aaO:=@List.getElem?_eq_getElem
abbrev abE:=@List.length_take
abbrev abM:=@Nat.zero_le
abbrev abP:=@List.getD_cons_succ
abbrev abS:=@List.map_cons
abbrev acC:=@List.getElem?_drop
abbrev acG:=@List.getElem_of_mem
abbrev acL:=@List.getElem?_take
abbrev acP:=@List.getElem?_append
abbrev acU:=@List.getElem_mem
abbrev aeF:=@Nat.le_trans
abbrev aeZ:=@Nat.add_zero
abbrev afE:=@List.getElem?_set_ne
def Gh.set (g:Gh) (d:Nat) (v:Value):Gh:=fun k=>if k=d then some v else g k
theorem Gh.set_ne {g:Gh} {d k:Nat} {v:Value} (h:k≠d):g.set d v k=g k:=by simp[Gh.set,h]
theorem Keep.set {z:Start} {g:Gh} {b:List Nat} (h:Keep z g b) {d:Nat} (hd:d∉b) (v:Value):Keep z (g.set d v) b:=by
 intro r hr;have:r≠d:=fun e=>hd (e▸hr);rw[Gh.set_ne this];exact h r hr
theorem KD.set {z:Start} {St:Nat->Prop} {w w':World} {g:Gh} {b:List Nat} {a a':Act} (h:KD z St w g b a) {d:Nat} (hd:d∉b) (v:Value) (hw:∀k,St k->w'.heap[k]? =w.heap[k]?) (ha:a'.defers=a.defers):KD z St w' (g.set d v) b a':=
 h.to (fun _ h=>h) hw ha (fun _r hr=>Gh.set_ne (fun e=>hd (e▸hr)))
theorem put_defers (a:Act) (d:Option Nat) (v:Value):(a.put d v).defers=a.defers:=by cases d<;>rfl
theorem Gh.set_self {g:Gh} {d:Nat} {v:Value} (h:g d=some v):g.set d v=g:=by
 funext k;by_cases hk:k=d
 ·subst hk;simp[Gh.set,h]
 ·simp[Gh.set,hk]
mutual
def V.closed :V->Bool
 | .own _=>false
 | .ptr _ _=>false
 | .oelem _ _ _ _=>false
 | .osl _ _ _ _=>false
 | .agg cs=>V.closedAll cs
 | .tup cs=>V.closedAll cs
 | .fn _ cs=>V.closedAll cs
 | .opt _ v=>V.closed v
 |_=>true
def V.closedAll :List V->Bool
 |[]=>true
 |v::l=>V.closed v&&V.closedAll l
end
theorem V.closedAll_get :∀{l:List V} {i:Nat},V.closedAll l=true->V.closed (l.getD i .any)=true
 |[],i,_=>by simp[V.closed]
 |v::l,0,h=>by simp only[V.closedAll,aaL]at h;simpa using h.1
 |v::l,i+1,h=>by simp only[V.closedAll,aaL]at h;simpa using V.closedAll_get (i:=i) h.2
theorem Rel.closed {St:Nat->Prop} {w:World}:∀{g:Gh} {v:V} {x:Value},Rel St w g v x->v.closed=true->∀g',Rel St w g' v x:=by
 intro g v x h
 induction h with
 |any=>intro _ _;exact .any _ _
 |bool=>intro _ _;exact .bool _ _
 |int=>intro _ _;exact .int _ _ _
 |b16=>intro _ _;exact .b16 _ _
 |str g l s h=>intro _ _;exact .str _ _ _ h
 |agg g cs vs hl h ih=>intro e g';simp only[V.closed]at e;exact .agg _ _ _ hl fun i hi=>ih i hi (V.closedAll_get e) g'
 |tup g cs vs hl h ih=>intro e g';simp only[V.closed]at e;exact .tup _ _ _ hl fun i hi=>ih i hi (V.closedAll_get e) g'
 |nils=>intro _ _;exact .nils _
 |arr0=>intro _ _;exact .arr0 _ _ _
 |arrE=>intro _ _;exact .arrE _ _ _ _
 |arr g sz n f b o cap x hcap hmax hs hc h1 hr ih=>intro _ _;exact .arr _ sz n f b o cap x hcap hmax hs hc h1 hr
 |elem g sz n f i off b o x hi hs hc h1 hr=>intro _ _;exact .elem _ sz n f i off b o x hi hs hc h1 hr
 |own g r v h h1=>intro e;simp[V.closed]at e
 |ptr g r off b h=>intro e;simp[V.closed]at e
 |oelem g r sz i off b n cap h=>intro e;simp[V.closed]at e
 |osl g r sz i off b n cap h=>intro e;simp[V.closed]at e
 |fn g f cs vs hl h ih=>intro e g';simp only[V.closed]at e;exact .fn _ _ _ _ hl fun i hi=>ih i hi (V.closedAll_get e) g'
 |lit=>intro _ _;exact .lit _ _
 |abool g p b h=>intro _ _;exact .abool _ p b h
 |mp g n kf vf b es hs ho hn hb hk hv=>intro _ _;exact .mp _ n kf vf b es hs ho hn hb hk hv
 |tab g k l b t fr hs ho=>intro _ _;exact .tab _ k l b t fr hs ho
 |ifc g b x h=>intro _ _;exact .ifc _ b x h
 |opq g x h=>intro _ _;exact .opq _ x h
 |opt g c v x h h0 ih=>intro e g';simp only[V.closed]at e;exact .opt _ _ _ _ (fun hc=>ih hc e g') h0
theorem WSim.change {z:Start} {St:Nat->Prop} {g:Gh} {h:aJ} {w w':World} (hs:WSim z St g h w) {d:Nat} {v':Value} {blk:Blk} {ro:Option Nat}
  (hro:∀k,ro=some k->∃b v,h.get d=some b/\g d=some v/\cF v k)
  (hos:w'.os=w.os) (htape:w'.tape=w.tape) (hout:w'.output=w.output) (hsize:w.heap.size<=w'.heap.size)
  (hw:∀k,k<w.heap.size->some k≠ro->w'.heap[k]? =w.heap[k]?)
  (hfresh:aJ.fresh d (h.del d)=true\/g d=some v')
  (hnew:∀k,cF v' k->ro=some k\/(w.heap.size<=k/\k<w'.heap.size))
  (hok:dG St w' (g.set d v') v' blk):WSim z St (g.set d v') ((d,blk)::h.del d) w':=by
 have hStne:∀k,St k->some k≠ro:=by
  intro k hk e;obtain⟨b,v,h1,h2,h3⟩:=hro k e.symm;exact(hs.ow d b v h1 h2 k h3).1 hk
 have hStw:∀k,St k->w'.heap[k]? =w.heap[k]? :=fun k hk=>hw k (hs.st1 k hk).1 (hStne k hk)
 have hget:∀r,r≠d->aJ.get ((d,blk)::h.del d) r=h.get r:=fun r hr=>by
  rw[aJ.get_cons,if_neg (Ne.symm hr),aJ.get_del,if_neg hr]
 have hold:∀r b v k,r≠d->h.get r=some b->g r=some v->cF v k->w'.heap[k]? =w.heap[k]? :=by
  intro r b v k hr h1 h2 h3;obtain⟨v2,h4,h5⟩:=hs.ok r b h1;rw[h2]at h4;cases h4;refine hw k (h5.lt k h3) fun e=> ?_;obtain⟨b2,v2,h6,h7,h8⟩:=hro k e.symm;exact hs.sep r d b b2 v v2 h1 h6 h2 h7 hr k h3 h8
 refine⟨⟨hos.trans hs.frm.os,htape.trans hs.frm.tape,hout.trans hs.frm.output,aeF hs.frm.size hsize,fun k hk hno=> ?_⟩,hs.st0,fun k hk=>⟨aeD (hs.st1 k hk).1 hsize,(hs.st1 k hk).2⟩, ?_, ?_, ?_⟩
 ·rw[<-hs.frm.block k hk hno];refine hw k (aeD hk hs.frm.size) fun e=> ?_;obtain⟨b,v,h1,h2,h3⟩:=hro k e.symm;rcases(hs.ow d b v h1 h2 k h3).2 with h4|h4
  ·exact hno h4
  ·omega
 ·intro r b v h1 h2 k h3;by_cases hr:r=d
  ·subst hr;have:v=v':=by simpa[Gh.set]using h2.symm
   subst this;rcases hnew k h3 with h4|h4
   ·obtain⟨b2,v2,h5,h6,h7⟩:=hro k h4;exact hs.ow r b2 v2 h5 h6 k h7
   ·exact⟨fun hSt=>by have:=(hs.st1 k hSt).1;omega,.inr (aeF hs.frm.size h4.1)⟩
  ·rw[hget r hr]at h1;rw[Gh.set_ne hr]at h2;exact hs.ow r b v h1 h2 k h3
 ·intro r b h1;by_cases hr:r=d
  ·subst hr;have:b=blk:=by simpa[aJ.get_cons]using h1.symm
   subst this;exact⟨v',by simp[Gh.set],hok⟩
  ·rw[hget r hr]at h1;obtain⟨v,h2,h3⟩:=hs.ok r b h1;refine⟨v,by rw[Gh.set_ne hr];exact h2,h3.mono (fun _ hk=>hk) hStw (fun k hk=>hold r b v k hr h1 h2 hk) (r:=d) (fun k hk=>Gh.set_ne hk) ?_⟩;rcases hfresh with hf|hf
   ·exact .inl (aJ.fresh_get hf (by rw[aJ.get_del,if_neg hr];exact h1))
   ·exact .inr (Gh.set_self hf)
 ·intro r r' b b' v v2 h1 h1' h2 h2' hne k hk hk'
  have lt:∀r b v k,r≠d->aJ.get ((d,blk)::h.del d) r=some b->g.set d v' r=some v->cF v k->k<w.heap.size:=by
   intro r b v k hr h1 h2 h3;rw[hget r hr]at h1;rw[Gh.set_ne hr]at h2;obtain⟨v2,h4,h5⟩:=hs.ok r b h1;rw[h2]at h4;cases h4;exact h5.lt k h3
  have one:∀r b v k,r≠d->aJ.get ((d,blk)::h.del d) r=some b->g.set d v' r=some v->cF v k->cF v' k->False:=by
   intro r b v k hr h1 h2 h3 h4;rcases hnew k h4 with h5|h5
   ·obtain⟨b2,v2,h6,h7,h8⟩:=hro k h5;rw[hget r hr]at h1;rw[Gh.set_ne hr]at h2;exact hs.sep r d b b2 v v2 h1 h6 h2 h7 hr k h3 h8
   ·have:=lt r b v k hr h1 h2 h3;omega
  by_cases hr:r=d
  ·have hr':r'≠d:=fun e=>hne (hr.trans e.symm);subst hr;have:v=v':=by simpa[Gh.set]using h2.symm
   subst this;exact one r' b' v2 k hr' h1' h2' hk' hk
  ·by_cases hr':r'=d
   ·subst hr';have:v2=v':=by simpa[Gh.set]using h2'.symm
    subst this;exact one r b v k hr h1 h2 hk hk'
   ·rw[hget r hr]at h1;rw[hget r' hr']at h1';rw[Gh.set_ne hr]at h2;rw[Gh.set_ne hr']at h2';exact hs.sep r r' b b' v v2 h1 h1' h2 h2' hne k hk hk'
/-! ### Temporaries -/
def qA (d:Nat):List (Nat×V)->Bool
 |[]=>true
 |(_,v)::t=>v.fresh d&&qA d t
theorem sS {d:Nat}:∀{t:List (Nat×V)} {k:Nat},qA d t=true->(dD t k).fresh d=true
 |[],_,_=>rfl
 |(a,v)::t,k,h=>by
  simp only[qA,aaL]at h
  simp only[dD]
  split
  ·exact h.1
  ·exact sS h.2
def pE (d:Nat) (t:List (Nat×V)):List (Nat×V):=t.map fun p=>(p.1,if p.2.fresh d then p.2 else .any)
theorem pZ (d k:Nat):∀t:List (Nat×V),dD (pE d t) k=if(dD t k).fresh d then dD t k else .any
 |[]=>by simp[pE,dD,V.fresh]
 |(a,v)::t=>by
  have ih:=pZ d k t
  unfold pE at ih⊢
  simp only[abS,dD]
  split
  ·rfl
  ·exact ih
theorem eL.change {St:Nat->Prop} {w w':World} {g g':Gh} {N:Nat} {t:List (Nat×V)} {a:Act} (h:eL St w g N t a) (hStw:∀k,St k->w'.heap[k]? =w.heap[k]?)
  {d:Nat} (hg:∀k,k≠d->g' k=g k) (hf:qA d t=true\/g'=g):eL St w' g' N t a:=by
 refine⟨h.1,h.2.1,fun k=> ?_⟩;rcases hf with hf|rfl
 ·exact((h.2.2 k).rebind hg (sS hf)).mono (fun _ hk=>hk) hStw
 ·exact(h.2.2 k).mono (fun _ hk=>hk) hStw
theorem eL.drop {St:Nat->Prop} {w w':World} {g g':Gh} {N:Nat} {t:List (Nat×V)} {a:Act} (h:eL St w g N t a) (hStw:∀k,St k->w'.heap[k]? =w.heap[k]?)
  {d:Nat} (hg:∀k,k≠d->g' k=g k):eL St w' g' N (pE d t) a:=by
 refine⟨h.1,h.2.1,fun k=> ?_⟩;rw[pZ];split
 ·rename_i hf;exact((h.2.2 k).rebind hg hf).mono (fun _ hk=>hk) hStw
 ·exact .any _ _
theorem eL.put {St:Nat->Prop} {w:World} {g:Gh} {N:Nat} {t:List (Nat×V)} {a:Act} (h:eL St w g N t a) {d:Nat} (hd:d<N) {v:V} {x:Value} (hv:Rel St w g v x):
  eL St w g N ((d,v)::t) (a.put (some d) x):=by
 refine⟨⟨h.1.1,by simpa[Act.put]using h.1.2⟩,by simp[Act.put,h.2.1],fun k=> ?_⟩;simp only[dD];split
 ·rename_i hk;subst hk;have h2:d<a.tmps.size:=by rw[h.2.1];exact hd
  have h1:=h.1.2;have h3:d<G0:=by omega
  rw[zV,if_pos h3];simpa[Act.put,h2]using hv
 ·rename_i hk;have:=h.2.2 k;unfold zV at this⊢;split
  ·rename_i hk2;rw[if_pos hk2]at this;simpa[Act.put,acX hk]using this
  ·rename_i hk2;rw[if_neg hk2]at this;exact this
theorem eL.get_any {St:Nat->Prop} {w:World} {g:Gh} {N:Nat} {t:List (Nat×V)} {a:Act} (h:eL St w g N t a) {t':List (Nat×V)} (ht:∀k,dD t' k=dD t k\/dD t' k= .any):eL St w g N t' a:=
 ⟨h.1,h.2.1,fun k=>by rcases ht k with e|e<;>rw[e];exact h.2.2 k;exact .any _ _⟩
def V.isOne (v:V):Bool:=v.isVal&&(match v with| .agg _=>false|_=>true)
theorem Rel.isOne {St:Nat->Prop} {w:World} {g:Gh} {v:V} {x:Value} (h:Rel St w g v x) (hv:v.isOne=true):x.oneCell'=true:=by
 unfold V.isOne at hv;simp only[aaL]at hv;refine h.one hv.1 fun cs e=> ?_;subst e;simp at hv
theorem gP {p:V->Bool} {l:List V} (h:l.all p=true) {i:Nat} (hi:i<l.length):p (l.getD i .any)=true:=by
 have:=aaX.1 h l[i] (by simp);simpa[aaC,hi]using this
/-! ### A new block of cells -/
theorem sim_box {z:Start} {St:Nat->Prop} {g:Gh} {h:aJ} {w:World} (hs:WSim z St g h w) {N:Nat} {t:List (Nat×V)} {a:Act} (ht:eL St w g N t a)
  {d:Nat} {e:TypeId} {v:V} {x:Value} (hv:Rel St w g v x) (hval:v.isVal=true) (h1:v.cells.all V.isOne=true) (hvf:V.freshAll d v.cells=true)
  (htf:qA d t=true) (hhf:aJ.fresh d (h.del d)=true) {dt:Nat} (hdN:dt<N) {b:List Nat} {o:Nat} (hk:KD z St w g b a) (hdb:d∉b):
  Sim z ⟨N,(dt,.ptr d 0)::t,(d,.cells e v.cells)::h.del d,b,o⟩ (a.put (some dt) (.pointer (some ⟨w.heap.size,0,none⟩))) (w.alloc (.cells x.cells e)):=by
 obtain⟨hcl,hcr⟩:=hv.cells hval;have hStw:∀k,St k->(w.alloc (.cells x.cells e)).heap[k]? =w.heap[k]? :=fun k hk=>heap_alloc_old w _ k (hs.st1 k hk).1;refine⟨St,g.set d (.pointer (some ⟨w.heap.size,0,none⟩)), ?_, ?_,hk.set hdb _ hStw (put_defers ..)⟩
 ·refine hs.change (ro:=none) (fun k hk=>by cases hk) rfl rfl rfl (by simp) (fun k hk _=>heap_alloc_old w _ k hk) (.inl hhf) (fun k hk=> ?_) ?_
  ·simp[cF,bS]at hk;subst hk;exact .inr ⟨aaY _,by simp⟩
  ·refine⟨w.heap.size,x.cells,rfl,heap_alloc_new w _,hcl,fun i hi=> ?_,fun i hi=>(hcr i hi).isOne (gP h1 hi)⟩;exact((hcr i hi).rebind (fun k hk=>Gh.set_ne hk) (V.freshAll_get hvf)).mono (fun _ hk=>hk) hStw
 ·exact(ht.change hStw (fun k hk=>Gh.set_ne hk) (.inl htf)).put hdN (.ptr _ d 0 w.heap.size (by simp[Gh.set]))
/-! ### Stores -/
theorem mH :∀(l:List V) (cs:List V) (off i:Nat),off+l.length<=cs.length->(setCells cs off l).getD i .any=if off<=i/\i<off+l.length then l.getD (i-off) .any else cs.getD i .any
 |[],cs,off,i,_=>by simp[setCells];intros;omega
 |v::l,cs,off,i,h=>by
  simp only[aaN]at h
  simp only[setCells]
  rw[mH l (cs.set off v) (off+1) i (by simp;omega)]
  by_cases h1:i=off
  ·subst h1
   rw[if_neg (by omega),if_pos (by simp)]
   have:i<cs.length:=by omega
   simp[aaC,this]
  ·by_cases h2:off+1<=i/\i<off+1+l.length
   ·rw[if_pos h2,if_pos (by simp;omega)]
    have:i-off=(i-(off+1))+1:=by omega
    rw[this,abP]
   ·rw[if_neg h2,if_neg (by simp;omega)]
    have:off≠i:=Ne.symm h1
    simp[aaC,afE this]
theorem mY (cur:List Value) (o:Nat) (vs:List Value) (h:o+vs.length<=cur.length) (i:Nat):
  (cur.take o++vs++cur.drop (o+vs.length)).getD i undef=if o<=i/\i<o+vs.length then vs.getD (i-o) undef else cur.getD i undef:=by
 simp only[aaC,acP,aaF,abE,acL,acC];have e:min o cur.length=o:=by omega
 simp only[e];by_cases h1:i<o
 ·rw[if_pos (by omega),if_pos h1,if_pos h1,if_neg (by omega)]
 ·by_cases h2:i<o+vs.length
  ·rw[if_pos h2,if_neg h1,if_pos (by omega)]
  ·rw[if_neg h2,if_neg (by omega)];congr 2;omega
theorem nR {P:Program} {w:World} {t e:TypeId} {k b o:Nat} {x:Value} {cur:Array Value} (hs:sA P t=some k) (hx:x.cells.size=k) (hb:w.heap[b]? =some (.cells cur e (0,0))) (hle:o+k<=cur.size)
  (h1:∀i,i<k->(x.cells.getD i undef).oneCell'=true):
  (storeVar t ⟨b,o,none⟩ x).run P w= .ok () (w.setRow b (cur.toList.take o++x.cells.toList++cur.toList.drop (o+x.cells.toList.length)).toArray):=by
 have h := run_storeCells_at P b o e x.cells.toList 0 cur w hb (by simpa [hx] using hle) (fun v hv=>by
  obtain⟨i,hi,rfl⟩:=acG hv;have hi':i<x.cells.size:=by simpa using hi
  have:=h1 i (by omega);simpa[hi']using this)
 simp only[aeZ]at h;simp only[storeVar,abI,cO hs,aaP,afN];rw[if_neg (by simp[hx])];exact h
theorem sim_store {P:Program} {z:Start} {St:Nat->Prop} {g:Gh} {h:aJ} {w:World} (hs:WSim z St g h w) {N:Nat} {t:List (Nat×V)} {a:Act} (ht:eL St w g N t a)
  {ty:TypeId} {r off k:Nat} {e:TypeId} {cs:List V} {p x:Value} {v:V} (hp:Rel St w g (.ptr r off) p) (hv:Rel St w g v x) (hh:h.get r=some (.cells e cs)) (hk:sA P ty=some k)
  (hval:v.isVal=true) (hlen:v.cells.length=k) (h1:v.cells.all V.isOne=true) (hle:off+k<=cs.length) {b:List Nat} {o:Nat} (hkeep:KD z St w g b a):
  ∃w',(Instr.storeAt ty p x).run P w= .ok () w'/\Sim z ⟨N,t,(r,.cells e (setCells cs off v.cells))::h.del r,b,o⟩ a w':=by
 obtain⟨hcl,hcr⟩:=hv.cells hval;obtain⟨u,hgu,b,vals,rfl,hb,hl,hr,hone⟩:=hs.ok r _ hh
 cases hp with
 |ptr _ _ _ b' hg=>
  rw[hg]at hgu;cases hgu;have hrun:=nR (P:=P) (t:=ty) (o:=off) (x:=x) hk (by omega) hb (by omega) (fun i hi=>(hcr i (by omega)).isOne (gP h1 (by omega)));have hnb:¬St b:=(hs.ow r _ _ hh hg b rfl).1
  have hStw:∀k,St k->(w.setRow b (vals.toList.take off++x.cells.toList++vals.toList.drop (off+x.cells.toList.length)).toArray).heap[k]? =w.heap[k]? :=
   fun k hk=>setRow_other w b k _ (fun e=>hnb (e▸hk))
  refine⟨_,by simp only[Instr.storeAt,Instr.sureAddr,abI,abO,aaP];exact hrun,St,g.set r (.pointer (some ⟨b,0,none⟩)), ?_, ?_,by rw[Gh.set_self hg];exact hkeep.to (fun _ h=>h) hStw rfl (fun _ _=>rfl)⟩
  ·refine hs.change (ro:=some b) (fun k hk=> ?_) rfl rfl rfl (by simp) (fun k hk hne=>setRow_other w b k _ (fun e=>hne (by rw[e]))) (.inr hg) (fun k hk=> ?_) ?_
   ·cases hk;exact⟨_,_,hh,hg,rfl⟩
   ·simp[cF,bS]at hk;subst hk;exact .inl rfl
   ·have hset:∀i,((vals.toList.take off++x.cells.toList++vals.toList.drop (off+x.cells.toList.length)).toArray.getD i undef)=if off<=i/\i<off+k then x.cells.getD (i-off) undef else vals.getD i undef:=by
     intro i;have:=mY vals.toList off x.cells.toList (by simp;omega) i;have hk':x.cells.toList.length=k:=by simp;omega
     rw[hk']at this;simpa[aaC,hk']using this
    refine⟨b,_,rfl,setRow_heap w b vals _ e _ hb, ?_,fun i hi=> ?_,fun i hi=> ?_⟩
    ·rw[cS];simp;omega
    ·rw[cS]at hi;rw[hset,mH _ _ _ _ (by omega),hlen,Gh.set_self hg];split
     ·rename_i h2;exact(hcr _ (by omega)).mono (fun _ h=>h) hStw
     ·exact(hr i hi).mono (fun _ h=>h) hStw
    ·rw[cS]at hi;rw[hset];split
     ·rename_i h2;exact(hcr _ (by omega)).isOne (gP h1 (by omega))
     ·exact hone i hi
  ·rw[Gh.set_self hg];exact ht.change hStw (d:=r) (fun k hk=>rfl) (.inr rfl)
def aC0 (f:Nat->Nat->V) (i off:Nat) (cs:List V):Nat->Nat->V:=
 fun i' j'=>if i'=i/\off<=j'/\j'<off+cs.length then cs.getD (j'-off) .any else f i' j'
theorem wJ {P:Program} {z:Start} {St:Nat->Prop} {g:Gh} {h:aJ} {w:World} (hs:WSim z St g h w) {N:Nat} {t:List (Nat×V)} {a:Act} (ht:eL St w g N t a)
  {ty:TypeId} {r sz i off k n:Nat} {e:TypeId} {f:Nat->Nat->V} {p x:Value} {v:V} (hp:Rel St w g (.oelem r sz i off) p) (hv:Rel St w g v x) (hh:h.get r=some (.rows e sz n f)) (hk:sA P ty=some k)
  (hval:v.isVal=true) (hlen:v.cells.length=k) (h1:v.cells.all V.isOne=true) (hcl0:V.closedAll v.cells=true) (hle:off+k<=sz) (hin:i<n) {b:List Nat} {o:Nat} (hkeep:KD z St w g b a):
  ∃w',(Instr.storeAt ty p x).run P w= .ok () w'/\Sim z ⟨N,t,(r,.rows e sz n (aC0 f i off v.cells))::h.del r,b,o⟩ a w':=by
 obtain⟨hcl,hcr⟩:=hv.cells hval;obtain⟨u,hgu,xs,ho,hr,hone⟩:=hs.ok r _ hh
 cases hp with
 |oelem _ _ _ _ _ b n' cap hg=>
  rw[hg]at hgu;cases hgu;rcases ho.2 with⟨hu,hn⟩|⟨gg,cap',cur,hu,_,hb,hncap,hcapm,hsz,htake⟩
  ·cases hu
  cases hu;have hlenxs:=ho.1;have hfit:n *sz<=cur.size:=by rw[hsz];exact aaT _ hncap
  have hisz:i *sz+sz<=n *sz:=by have:=aaT sz (show i+1<=n from hin);rw[acA]at this;omega
  have hrun:=nR (P:=P) (t:=ty) (o:=i *sz+off) (x:=x) hk (by omega) hb (by omega) (fun j hj=>(hcr j (by omega)).isOne (gP h1 (by omega)));have hnb:¬St b:=(hs.ow r _ _ hh hg b rfl).1;have hk':x.cells.toList.length=k:=by simp;omega
  rw[hk']at hrun;generalize hcur:(cur.toList.take (i *sz+off)++x.cells.toList++cur.toList.drop (i *sz+off+k)).toArray=cur' at hrun;have hStw:∀k,St k->(w.setRow b cur').heap[k]? =w.heap[k]? :=fun k hk=>setRow_other w b k _ (fun e=>hnb (e▸hk));refine⟨_,by simp only[Instr.storeAt,Instr.sureAddr,abI,abO,aaP];exact hrun,St,g.set r (.slice (some ⟨b,0,none⟩) n cap), ?_, ?_,by rw[Gh.set_self hg];exact hkeep.to (fun _ h=>h) hStw rfl (fun _ _=>rfl)⟩
  ·have hset:∀q,cur'.getD q undef=if i *sz+off<=q/\q<i *sz+off+k then x.cells.getD (q-(i *sz+off)) undef else cur.getD q undef:=by
    intro q;have:=mY cur.toList (i *sz+off) x.cells.toList (by simp;omega) q;rw[hk']at this;rw[<-hcur];simpa[aaC,hk']using this
   have hcs:cur'.size=cur.size:=by rw[<-hcur];simp;omega
   have hxs:∀q,q<n *sz->xs.getD q undef=cur.getD q undef:=by
    intro q hq;rw[<-htake];simp[aaC,hq]
   refine hs.change (ro:=some b) (fun k hk=> ?_) rfl rfl rfl (by simp) (fun k hk hne=>setRow_other w b k _ (fun e=>hne (by rw[e]))) (.inr hg) (fun k hk=> ?_) ?_
   ·cases hk;exact⟨_,_,hh,hg,rfl⟩
   ·simp[cF,bS]at hk;subst hk;exact .inl rfl
   ·have hget:∀q,q<n *sz->(cur'.toList.take (n *sz)).getD q undef=cur'.getD q undef:=by
     intro q hq;simp[aaC,hq]
    refine⟨cur'.toList.take (n *sz),⟨by simp;omega,.inr ⟨b,cap,cur',rfl,abM _,setRow_heap w b cur _ e _ hb,hncap,hcapm,by omega,rfl⟩⟩,fun i' j' hi' hj'=> ?_,fun u hu=> ?_⟩
    ·rw[hget _ (fC hi' hj'),hset];unfold aC0;rw[hlen];by_cases hii:i'=i
     ·subst hii;by_cases hj2:off<=j'/\j'<off+k
      ·rw[if_pos ⟨rfl,hj2⟩,if_pos (by omega)];have:i' *sz+j'-(i' *sz+off)=j'-off:=by omega
       rw[this];exact((hcr (j'-off) (by omega)).closed (V.closedAll_get hcl0) dS).mono (fun _ h=>h) hStw
      ·rw[if_neg (fun h=>hj2 h.2),if_neg (by omega),<-hxs _ (fC hi' hj')];exact(hr i' j' hi' hj').mono (fun _ h=>h) hStw
     ·rw[if_neg (fun h=>hii h.1),if_neg ?_,<-hxs _ (fC hi' hj')]
      ·exact(hr i' j' hi' hj').mono (fun _ h=>h) hStw
      ·rcases Nat.lt_or_gt_of_ne hii with h2|h2
       ·have:=aaT sz (show i'+1<=i from h2);rw[acA]at this;omega
       ·have:=aaT sz (show i+1<=i' from h2);rw[acA]at this;omega
    ·obtain⟨q,hq,rfl⟩:=acG hu;have hq':q<n *sz:=by simp at hq;omega
     have e1:(cur'.toList.take (n *sz))[q]=cur'.getD q undef:=by
      rw[<-hget q hq',aaC,aaO hq];rfl
     rw[e1,hset];split
     ·rename_i h2;exact(hcr _ (by omega)).isOne (gP h1 (by omega))
     ·rw[<-hxs q hq'];refine hone _ ?_;have hqx:q<xs.length:=by omega
      rw[aaC,aaO hqx];exact acU hqx
  ·rw[Gh.set_self hg];exact ht.change hStw (d:=r) (fun k hk=>rfl) (.inr rfl)
end Go.Abs
namespace Go.Abs
open Go
abbrev aaZ:=@List.length_drop
abbrev abQ:=@List.getElem?_append_right
abbrev abU:=@List.getElem?_append_left
abbrev acB:=@List.eq_nil_of_length_eq_zero
abbrev acD:=@List.append_assoc
abbrev acY:=@Array.length_toList
abbrev adL:=@List.mem_map
abbrev adN:=@List.mem_range
abbrev adZ:=@List.size_toArray
abbrev aeG:=@List.take_left
abbrev aeO:=@Nat.mod_eq_of_lt
abbrev aeR:=@Option.filter_eq_some_iff
abbrev aeX:=@Nat.sub_mul
abbrev afA:=@Nat.mod_lt
abbrev afG:=@Nat.mul_comm
abbrev afY:=@Nat.mul_add_mod
theorem sG {P:Program} {w:World} {t ty e:TypeId} {i:TypeInfo} {z:Value} (ht:P.underlying t=some (.slice e)) (hi:P.info? e=some i) (hz:i.zero=some z)
  (hzs:z.cells.size=i.size) {v:Value} {n:Nat} {xs:List Value} (hown:w.ownsRow 0 e i.size v n xs) {u:Value} {m:Nat} {news:List Value}
  (hsrc:(∃a c,u= .slice (some a) m c/\news.length=m *i.size/\∀j x,news[j]? =some x->w.cell? (a.add j)=some x)\/(u= .slice none 0 0/\m=0/\news=[]))
  (h1:∀x∈news,x.oneCell'=true) (h63:n+m<=maxLen) (hbytes:(n+m) *i.bytes<=140737488355328):
  ∃v' w',(Builtin.append_ #[t,t] ty #[v,u]).run P w= .ok v' w'/\w'.ownsRow 0 e i.size v' (n+m) (xs++news)/\w'.os=w.os/\w'.tape=w.tape/\w'.output=w.output/\w.heap.size<=w'.heap.size/\
   (∀k,k<w.heap.size->some k≠bS v->w'.heap[k]? =w.heap[k]?)/\(∀k,cF v' k->cF v k\/(w.heap.size<=k/\k<w'.heap.size))/\v'.oneCell'=true:=by
 rcases hsrc with⟨a,c,rfl,hl,hnews⟩|⟨rfl,rfl,rfl⟩
 ·have hlen:(xs++news).length=(n+m) *i.size:=by rw[aaF,hown.1,hl,acA]
  have hsmall:n+m<=9223372036854775807:=by simp only[maxLen]at h63;omega
  have grown:∀(old:Nat),old<n+m->
    (w.drew.alloc (.cells (xs.toArray++news.toArray++Builtin.zeroCells z.cells (grownCap w (n+m) old e-(n+m))) e)).ownsRow 0 e i.size
     (.slice (some ⟨w.heap.size,0,none⟩) (n+m) (grownCap w (n+m) old e)) (n+m) (xs++news):=by
   intro old ho;have hge:=grownCap_ge w (n+m) old e;have hcm:grownCap w (n+m) old e<=maxLen:=grownCap_le_maxLen w (n+m) old e h63;refine⟨hlen,.inr ⟨w.heap.size,_,_,rfl,abM _,heap_alloc_new w.drew _,hge,hcm, ?_, ?_⟩⟩
   ·simp only[Array.size_append,adZ,size_zeroCells,hzs,hown.1,hl,<-acA];congr 1;omega
   ·simp only[Array.toList_append,acD];rw[<-acD,<-hlen];exact aeG
  rcases hown.2 with⟨rfl,rfl⟩|⟨g,cap,cur,rfl,hbg,hg,hnc,hcm,hcs,htake⟩
  ·have hx:xs=[]:=acB (by simpa using hown.1);subst hx;by_cases hm:m=0
   ·subst hm;have hn:news=[]:=acB (by simpa using hl);subst hn;refine⟨.slice none 0 0,w, ?_,World.ownsRow_nil w 0 e i.size,rfl,rfl,rfl,aaY _,fun _ _ _=>rfl,fun k hk=> .inl hk,rfl⟩;simp[Builtin.append_,run_underlying ht,sizeOf,typeInfo,hi,Builtin.lenOf,Builtin.firstCells,loadCells,loadCellsFrom]
   ·have hr:=run_append_nil (P:=P) (ty:=ty) w t e i z ht hi hz a m c news hl hnews (by omega) (by omega) (by have hb:=hbytes;simp only[abW]at hb;omega);have hgr:=grown 0 (by omega);simp only[abW,afB,Array.empty_append]at hgr⊢;exact⟨_,_,hr,hgr,rfl,rfl,rfl,by simp,fun k hk _=>heap_alloc_old w.drew _ k hk,fun k hk=> .inr (by simp[cF,bS]at hk;subst hk;exact⟨aaY _,by simp⟩),rfl⟩
  ·by_cases hroom:n+m<=cap
   ·have hfit:n *i.size+news.length<=cur.size:=by rw[hl,hcs,<-acA];exact aaT _ hroom
    have hr:=run_append_room (P:=P) (ty:=ty) w t e i ht hi g n cap cur hg a m c news hl hnews h1 hroom hfit;refine⟨_,_,hr,⟨hlen,.inr ⟨g,cap,_,rfl,hbg,setRow_heap w g cur _ e _ hg,hroom,hcm, ?_, ?_⟩⟩,rfl,rfl,rfl,by simp,fun k _ hk=>setRow_other w g k _ (fun e=>hk (by simp[bS,e])),fun k hk=> .inl hk,rfl⟩
    ·simp only[adZ,aaF,abE,aaZ,acY];omega
    ·rw[htake,<-hlen];exact aeG
   ·have holds:∀j u,xs[j]? =some u->w.cell? ((⟨g,0,none⟩:Addr).add j)=some u:=hown.cells (g:=g) rfl;have hr:=run_append_grow (P:=P) (ty:=ty) w t e i z ht hi hz ⟨g,0,none⟩ n cap xs hown.1 holds a m c news hl hnews (by omega) (by omega) (growslice_fits (by omega) hbytes);exact⟨_,_,hr,grown cap (by omega),rfl,rfl,rfl,by simp,fun k hk _=>heap_alloc_old w.drew _ k hk,fun k hk=> .inr (by simp[cF,bS]at hk;subst hk;exact⟨aaY _,by simp⟩),rfl⟩
 ·refine⟨v,w, ?_,by simpa using hown,rfl,rfl,rfl,aaY _,fun _ _ _=>rfl,fun k hk=> .inl hk, ?_⟩
  ·exact run_append_owned_none (P:=P) (w:=w) 0 t ty e i i.size ht hi v n xs hown
  ·rcases hown.2 with⟨rfl,_⟩|⟨g,cap,cur,rfl,_⟩<;>rfl
/-! ### Boxes forget what names an own block -/
def Blk.drop (d:Nat):Blk->Blk
 | .cells t cs=> .cells t (cs.map fun v=>if v.fresh d then v else .any)
 | .yld o k=> .yld (hJ ((iV o).contains d) o) k
 | .mapI n kf o ho hq=> .mapI n kf (o.filter fun q=> !(q==d)) ho (hq.filter fun q=> !(q==d))
 |b=>b
def hdrop (d:Nat) (h:aJ):aJ:=h.map fun p=>(p.1,p.2.drop d)
theorem gS (d r:Nat):∀h:aJ,aJ.get (hdrop d h) r=(aJ.get h r).map (Blk.drop d)
 |[]=>rfl
 |(a,b)::h=>by
  have ih:=gS d r h
  unfold hdrop at ih⊢
  simp only[abS,aJ.get]
  split
  ·rfl
  ·exact ih
theorem nY (d:Nat):∀cs:List V,V.freshAll d (cs.map fun v=>if v.fresh d then v else .any)=true
 |[]=>rfl
 |v::cs=>by
  simp only[abS,V.freshAll,aaL]
  refine⟨?_,nY d cs⟩
  split
  ·assumption
  ·rfl
theorem qZ (d:Nat):∀h:aJ,aJ.fresh d (hdrop d h)=true
 |[]=>rfl
 |(a,b)::h=>by
  have ih:=qZ d h
  unfold hdrop at ih⊢
  simp only[abS,aJ.fresh,aaL]
  refine⟨?_,ih⟩
  cases b with
  |cells t cs=>exact nY d cs
  |rows=>rfl
  |iter=>rfl
  |siter=>rfl
  |mapB=>rfl
  |fam=>rfl
  |mapI n kf o hole hq=>
   have e:∀x:Option Nat,(!((x.filter fun q=> !(q==d))==some d))=true:=fun x=>by
    cases x with
    |none=>rfl
    |some q=>by_cases h:q=d<;>simp[Option.filter,h]
   simp only[Blk.drop,Blk.fresh,e,Bool.and_self]
  |yld o k=>
   simp only[Blk.drop,Blk.fresh,hJ]
   split
   ·simp[iV]
   ·rename_i h;simpa using h
theorem xJ (d r:Nat):∀h:aJ,aJ.fresh d h=true->aJ.fresh d (h.del r)=true
 |[],_=>rfl
 |(a,b)::h,hf=>by
  simp only[aJ.fresh,aaL]at hf
  have ih:=xJ d r h hf.2
  unfold aJ.del at ih⊢
  simp only[aeC]
  split
  ·simp only[aJ.fresh,aaL];exact⟨hf.1,ih⟩
  ·exact ih
theorem dG.drop {St:Nat->Prop} {w:World} {g:Gh} {v:Value} {b:Blk} (d:Nat) (h:dG St w g v b):dG St w g v (b.drop d):=by
 cases b with
 |rows=>exact h
 |iter=>exact h
 |siter=>exact h
 |mapB=>exact h
 |fam=>exact h
 |mapI n kf o hole hq=>
  obtain⟨b,es,h1,h2,h3,h4,h5,h6,h7⟩:=h
  exact⟨b,es,h1,h2,h3,h4,h5,fun r hr=>h6 r (aeR.1 hr).1,fun r hr=>h7 r (aeR.1 hr).1⟩
 |yld o k=>obtain⟨l,r,hv,hh,hy⟩:=h;exact⟨l,r,hv,hh,hy.cutb _⟩
 |cells t cs=>
  obtain⟨b,vals,rfl,hb,hl,hr,h1⟩:=h;refine⟨b,vals,rfl,hb,by simpa using hl,fun i hi=> ?_,fun i hi=>h1 i (by simpa using hi)⟩;have hi':i<cs.length:=by simpa using hi
  have e:(cs.map fun v=>if v.fresh d then v else .any).getD i .any=if(cs.getD i .any).fresh d then cs.getD i .any else .any:=by
   simp[aaC,hi']
  rw[e];split
  ·exact hr i hi'
  ·exact .any _ _
theorem WSim.less {z:Start} {St:Nat->Prop} {g:Gh} {h h':aJ} {w:World} (hs:WSim z St g h w)
  (hh:∀r b',h'.get r=some b'->∃b,h.get r=some b/\∀v,dG St w g v b->dG St w g v b'):WSim z St g h' w:=by
 refine⟨hs.frm,hs.st0,hs.st1,fun r b v h1 h2=> ?_,fun r b h1=> ?_,fun r r' b b' v v' h1 h1' h2 h2'=> ?_⟩
 ·obtain⟨b0,h0,_⟩:=hh r b h1;exact hs.ow r b0 v h0 h2
 ·obtain⟨b0,h0,hk⟩:=hh r b h1;obtain⟨v,h3,h4⟩:=hs.ok r b0 h0;exact⟨v,h3,hk v h4⟩
 ·obtain⟨b0,h0,_⟩:=hh r b h1;obtain⟨b0',h0',_⟩:=hh r' b' h1';exact hs.sep r r' b0 b0' v v' h0 h0' h2 h2'
theorem WSim.hdrop {z:Start} {St:Nat->Prop} {g:Gh} {h:aJ} {w:World} (hs:WSim z St g h w) (d:Nat):WSim z St g (hdrop d h) w:=
 hs.less fun r b' hb'=>by
  rw[gS,aaQ]at hb'
  obtain⟨b,h1,rfl⟩:=hb'
  exact⟨b,h1,fun v h=>h.drop d⟩
theorem kO {z:Start} {St:Nat->Prop} {g:Gh} {h:aJ} {w w':World} (hs:WSim z St g h w) {N:Nat} {t:List (Nat×V)} {a:Act} (ht:eL St w g N t a)
  {r d:Nat} (hd:d<N) {e:TypeId} {sz n:Nat} {f:Nat->Nat->V} {v':Value} {xs:List Value} {ro:Option Nat}
  (hro:∀k,ro=some k->∃b v,h.get r=some b/\g r=some v/\cF v k)
  (hos:w'.os=w.os) (htape:w'.tape=w.tape) (hout:w'.output=w.output) (hsize:w.heap.size<=w'.heap.size)
  (hw:∀k,k<w.heap.size->some k≠ro->w'.heap[k]? =w.heap[k]?)
  (hnew:∀k,cF v' k->ro=some k\/(w.heap.size<=k/\k<w'.heap.size)) (h1v:v'.oneCell'=true)
  (hown:w'.ownsRow 0 e sz v' n xs) (hr:∀i j,i<n->j<sz->Rel St w dS (f i j) (xs.getD (i *sz+j) undef)) (h1:∀x∈xs,x.oneCell'=true) {b:List Nat} {o:Nat} (hk:KD z St w g b a) (hrb:r∉b):
  Sim z ⟨N,(d,.own r)::pE r t,(r,.rows e sz n f)::(hdrop r h).del r,b,o⟩ (a.put (some d) v') w':=by
 have hStw : ∀ k, St k -> w'.heap[k]? = w.heap[k]? := fun k hk => hw k (hs.st1 k hk).1 (fun e=>by
  obtain⟨b,v,h1,h2,h3⟩:=hro k e.symm;exact(hs.ow r b v h1 h2 k h3).1 hk)
 refine⟨St,g.set r v', ?_, ?_,hk.set hrb _ hStw (put_defers ..)⟩
 ·refine(hs.hdrop r).change (ro:=ro) (fun k hk=> ?_) hos htape hout hsize hw (.inl (xJ r r _ (qZ r h))) hnew ⟨xs,hown,fun i j hi hj=>(hr i j hi hj).mono (fun _ h=>h) hStw,h1⟩;obtain⟨b,v,h2,h3,h4⟩:=hro k hk;exact⟨b.drop r,v,by rw[gS,h2];rfl,h3,h4⟩
 ·exact(ht.drop hStw (fun k hk=>Gh.set_ne hk)).put hd (.own _ r _ (by simp[Gh.set]) h1v)
/-! ### What the source of an append holds -/
def srcV (h:aJ) (e:TypeId) (sz:Nat):V->Option (Nat×(Nat->Nat->V))
 | .nils=>some (0,fun _ _=> .any)
 | .arr sz' m f=>if sz'=sz then some (m,f)else none
 | .own r=>match h.get r with
  |some (.rows e' sz' m f)=>if sz'=sz/\e'=e then some (m,f)else none
  |_=>none
 |_=>none
theorem run_src {z:Start} {St:Nat->Prop} {g:Gh} {h:aJ} {w:World} (hs:WSim z St g h w) {e:TypeId} {sz:Nat} (hsz:0<sz) {v:V} {u:Value} (hv:Rel St w g v u) {m:Nat} {f:Nat->Nat->V}
  (hm:srcV h e sz v=some (m,f)):∃news:List Value,((∃a c,u= .slice (some a) m c/\news.length=m *sz/\∀j x,news[j]? =some x->w.cell? (a.add j)=some x)\/(u= .slice none 0 0/\m=0/\news=[]))/\
   news.length=m *sz/\(∀x∈news,x.oneCell'=true)/\(∀i j,i<m->j<sz->Rel St w dS (f i j) (news.getD (i *sz+j) undef)):=by
 unfold srcV at hm;split at hm
 ·cases hm;have:=hv.nils_inv;subst this;exact⟨[],.inr ⟨rfl,rfl,rfl⟩,by simp,by simp,fun i j hi=>by omega⟩
 ·rename_i sz' m' f';split at hm
  case isFalse=>cases hm
  rename_i hsz';cases hm;subst hsz'
  cases hv with
  |arr0=>exact⟨[],.inr ⟨rfl,rfl,rfl⟩,by simp,by simp,fun i j hi=>by omega⟩
  |arrE=>exact⟨[],.inl ⟨_,_,rfl,by simp,by simp⟩,by simp,by simp,fun i j hi=>by omega⟩
  |arr _ _ _ _ b o cap x hcap hmax hS hc h1 hr=>
   have hdm:∀q,q<m *sz'->q/sz'<m/\q%sz'<sz'/\q/sz' *sz'+q%sz'=q:=fun q hq=>
    ⟨Nat.div_lt_of_lt_mul (by rw[afG];exact hq),afA _ hsz,by rw[afG];exact Nat.div_add_mod q sz'⟩
   refine⟨(List.range (m *sz')).map fun q=>x (q/sz') (q%sz'),.inl ⟨⟨b,o,none⟩,cap,rfl,by simp,fun j v hv=> ?_⟩,by simp,fun v hv=> ?_,fun i j hi hj=> ?_⟩
   ·have hj:j<m *sz':=by have:=(adD.1 hv).1;simpa using this
    obtain⟨h2,h3,h4⟩:=hdm j hj;have:=hc _ _ h2 h3;rw[add_plain];rw[adY,h4]at this;rw[this];simpa[hj]using hv
   ·simp only[adL,adN]at hv;obtain⟨q,hq,rfl⟩:=hv;exact h1 _ _ (hdm q hq).1 (hdm q hq).2.1
   ·have hq:=fC hi hj;rw[getD_map _ _ _ _ 0 (by simpa using hq)];have e1:(List.range (m *sz')).getD (i *sz'+j) 0=i *sz'+j:=by simp[aaC,hq]
    have e2:(i *sz'+j)/sz'=i:=by rw[afG,Nat.mul_add_div hsz,Nat.div_eq_of_lt hj];rfl
    have e3:(i *sz'+j)%sz'=j:=by rw[afG,afY,aeO hj]
    rw[e1,e2,e3];exact hr i j hi hj
 ·split at hm
  case h_2=>cases hm
  rename_i r e' sz' m' f' hh;split at hm
  case isFalse=>cases hm
  rename_i hse;obtain⟨rfl,rfl⟩:=hse;cases hm;obtain⟨u',hgu,xs,ho,hr,h1⟩:=hs.ok _ _ hh;rw[hv.own_inv]at hgu;cases hgu;refine⟨xs, ?_,ho.1,h1,hr⟩;rcases ho.2 with⟨rfl,hn⟩|⟨b,cap,cur,rfl,_,hg,hncap,hcapm,hsz,htake⟩
  ·subst hn;exact .inr ⟨rfl,rfl,acB (by simpa using ho.1)⟩
  ·exact .inl ⟨_,cap,rfl,ho.1,ho.cells (g:=b) rfl⟩
 ·cases hm
def fH (n:Nat) (f f2:Nat->Nat->V):Nat->Nat->V:=fun i j=>if i<n then f i j else f2 (i-n) j
def dE (sz:Nat) (cs:List V):Nat->Nat->V:=fun i j=>cs.getD (i *sz+j) .any
theorem app_get {St:Nat->Prop} {w:World} {sz n m:Nat} {f f2:Nat->Nat->V} {xs news:List Value} (hl:xs.length=n *sz)
  (hr:∀i j,i<n->j<sz->Rel St w dS (f i j) (xs.getD (i *sz+j) undef)) (hr2:∀i j,i<m->j<sz->Rel St w dS (f2 i j) (news.getD (i *sz+j) undef)):
  ∀i j,i<n+m->j<sz->Rel St w dS (fH n f f2 i j) ((xs++news).getD (i *sz+j) undef):=by
 intro i j hi hj;unfold fH;split
 ·rename_i h;have:=fC h hj;rw[aaC,abU (by omega),<-aaC];exact hr i j h hj
 ·rename_i h
  have e:i *sz+j-xs.length=(i-n) *sz+j:=by
   rw[hl,aeX];have:=aaT sz (show n<=i by omega);omega
  have hge:xs.length<=i *sz+j:=by rw[hl];have:=aaT sz (show n<=i by omega);omega
  rw[aaC,abQ hge,e,<-aaC];exact hr2 _ j (by omega) hj
end Go.Abs
