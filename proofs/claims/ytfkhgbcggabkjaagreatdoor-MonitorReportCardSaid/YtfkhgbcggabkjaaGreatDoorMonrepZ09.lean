/- Part 9 of the proof: AbsP, AbsQ, AbsR. -/
import Derived.Test.YtfkhgbcggabkjaaGreatDoorMonrepZ08
import Derived.Orders
namespace Go.Abs
open Go
abbrev abA:=@decide_eq_true_eq
abbrev abT:=@Bool.or_eq_true
abbrev acI:=@List.mem_append_left
abbrev acV:=@List.contains_eq_mem
abbrev adM:=@Bool.not_eq_true'
abbrev adO:=@List.pairwise_cons
abbrev adT:=@List.getElem?_eq_none
abbrev aeH:=@List.pairwise_append
abbrev aeJ:=@decide_eq_false_iff_not
abbrev aeQ:=@List.filter_append
abbrev afH:=@List.any_eq_true
abbrev agB:=@Array.getElem?_setIfInBounds
abbrev agF:=@List.filter_eq_self
abbrev agS:=@List.any_eq_false
abbrev agT:=@List.nodup_append
abbrev ahB:=@Bool.or_true
def V.freshL (ks:List Nat) (v:V):Bool:=ks.all fun r=>v.fresh r
def Blk.freshL (ks:List Nat) (b:Blk):Bool:=ks.all fun r=>b.fresh r
def cZ (ks:List Nat) (v:V):V:=if v.freshL ks then v else .any
def Blk.drops (ks:List Nat):Blk->Blk
 | .cells t cs=> .cells t (cs.map (cZ ks))
 | .yld o k=> .yld (hJ ((iV o).any ks.contains) o) k
 | .mapI n kf o ho hq=> .mapI n kf (o.filter fun q=> !(ks.contains q)) ho (hq.filter fun q=> !(ks.contains q))
 |b=>b
theorem V.any_freshL (ks:List Nat):V.freshL ks .any=true:=by simp[V.freshL,V.fresh]
theorem uA (v:V):cZ [] v=v:=by simp[cZ,V.freshL]
theorem aCS (ks:List Nat):cZ ks .any= .any:=by unfold cZ;split<;>rfl
theorem zJ (ks:List Nat) (v:V):cZ ks v=v\/cZ ks v= .any:=by unfold cZ;split<;>simp
theorem eZ {ks:List Nat} {v:V} (h:v.freshL ks=true):cZ ks v=v:=by simp[cZ,h]
theorem rV (k1 k2:List Nat) (v:V):cZ k1 (cZ k2 v)=cZ k2 (cZ k1 v):=by
 cases h1:v.freshL k1<;>cases h2:v.freshL k2
 ·simp[cZ,h1,h2,V.any_freshL]
 ·simp[cZ,h1,h2,V.any_freshL]
 ·simp[cZ,h1,h2,V.any_freshL]
 ·simp[cZ,h1,h2]
theorem pW (b1 b2:List Nat->Bool) (h1:b1 []=false) (_h2:b2 []=false) (o:Option (List Nat×YC)):hJ (b1 (iV (hJ (b2 (iV o)) o))) (hJ (b2 (iV o)) o)=hJ (b1 (iV o)||b2 (iV o)) o:=by
 cases h3:b2 (iV o)
 ·have e:hJ false o=o:=rfl;rw[e,Bool.or_false]
 ·have e:hJ true o=none:=rfl;rw[e,ahB,e];show hJ (b1 []) none=none;rw[h1];rfl
theorem filter_all {o:Option Nat} {p:Nat->Bool} (h:∀q,o=some q->p q=true):o.filter p=o:=by
 cases o with
 |none=>rfl
 |some q=>simp[Option.filter,h q rfl]
theorem filter_or (o:Option Nat) (p:Nat->Bool):o.filter p=none\/o.filter p=o:=by
 cases o with
 |none=>exact .inl rfl
 |some q=>by_cases h:p q=true<;>simp[Option.filter,h]
theorem Blk.drops_nil (b:Blk):b.drops []=b:=by cases b<;>simp[Blk.drops,funext uA,hJ,filter_all]
theorem Blk.drops_comm (k1 k2:List Nat) (b:Blk):(b.drops k1).drops k2=(b.drops k2).drops k1:=by
 cases b<;>simp only[Blk.drops]
 case yld o k=>rw[pW (fun l=>l.any k2.contains) (fun l=>l.any k1.contains) rfl rfl,pW (fun l=>l.any k1.contains) (fun l=>l.any k2.contains) rfl rfl,Bool.or_comm]
 case mapI n kf o ho hq=>
  have e:∀x:Option Nat,(x.filter fun q=> !(k1.contains q)).filter (fun q=> !(k2.contains q))=(x.filter fun q=> !(k2.contains q)).filter (fun q=> !(k1.contains q)):=fun x=>by
   cases x with
   |none=>rfl
   |some q=>by_cases h1:q∈k1<;>by_cases h2:q∈k2<;>simp[Option.filter,h1,h2]
  rw[e,e]
 all_goals simp[Function.comp_def,rV k2 k1]
theorem aCw {ks:List Nat} {cs:List V} (h:ks.all (fun r=>V.freshAll r cs)=true):∀v∈cs,v.freshL ks=true:=by
 intro v hv;unfold V.freshL;rw[aaX]at h⊢;intro r hr;have:=h r hr;obtain⟨i,hi,rfl⟩:=acG hv;have h2:=V.freshAll_get (i:=i) this;simpa[aaC,hi]using h2
theorem Blk.drops_fresh {ks:List Nat} {b:Blk} (h:b.freshL ks=true):b.drops ks=b:=by
 cases b with
 |rows=>rfl
 |iter=>rfl
 |siter=>rfl
 |mapB=>rfl
 |fam=>rfl
 |mapI n kf o hole hq=>
  simp only[Blk.drops];rw[filter_all (o:=o) fun q e=> ?_,filter_all (o:=hq) fun q e=> ?_]
  ·have h2:q∉ks:=fun h3=>by
    have:=aaX.1 h q h3;simp[Blk.fresh,e]at this
   simp[h2]
  ·have h2:q∉ks:=fun h3=>by
    have:=aaX.1 h q h3;simp[Blk.fresh,e]at this
   simp[h2]
 |yld o k=>
  have:(iV o).any ks.contains=false:=by
   rw[agS];intro i hi hc;have h2:=aaX.1 h i (by simpa using hc);simp only[Blk.fresh,adM,acV,aeJ]at h2;exact h2 hi
  simp only[Blk.drops,this,hJ,abL,if_false]
 |cells t cs=>
  simp only[Blk.drops,Blk.cells.injEq,true_and];have h2:=aCw (cs:=cs) h
  calc cs.map (cZ ks)=cs.map id:=afK fun v hv=>eZ (h2 v hv)
   _=cs:=by simp
theorem rU (d:Nat) (ks:List Nat) (v:V):(if V.fresh d (cZ ks v)then cZ ks v else .any)=cZ (d::ks) v:=by
 have e:V.freshL (d::ks) v=(V.fresh d v&&V.freshL ks v):=rfl;unfold cZ;rw[e];cases h2:v.freshL ks
 ·simp[V.fresh]
 ·simp
theorem sR (ks:List Nat) (k:Nat) (t:List (Nat×V)):dD (qB ks t) k=cZ ks (dD t k):=by
 induction ks with
 |nil=>simp[qB,uA]
 |cons d ks ih=>
  show dD (pE d (qB ks t)) k=_;rw[pZ,ih];exact rU d ks _
theorem get_drops (ks:List Nat) (k:Nat) (h:aJ):aJ.get (nW ks h) k=(h.get k).map (Blk.drops ks):=by
 induction ks with
 |nil=>simp[nW,funext Blk.drops_nil]
 |cons d ks ih=>
  show aJ.get (hdrop d (nW ks h)) k=_;rw[gS,ih,Option.map_map];congr 1;funext b
  cases b with
  |rows=>rfl
  |iter=>rfl
  |siter=>rfl
  |mapB=>rfl
  |fam=>rfl
  |mapI n kf o hole hq=>
   have e:∀x:Option Nat,(x.filter fun q=> !(ks.contains q)).filter (fun q=> !(q==d))=x.filter fun q=> !((d::ks).contains q):=fun x=>by
    cases x with
    |none=>rfl
    |some q=>
     by_cases h1:q∈ks
     ·simp[Option.filter,h1]
     ·by_cases h2:q=d
      ·subst h2;simp[Option.filter,h1]
      ·simp[Option.filter,h1,h2]
   simp only[Function.comp,Blk.drops,Blk.drop,e]
  |yld o k=>
   simp only[Function.comp,Blk.drops,Blk.drop];rw[pW (fun l=>l.contains d) (fun l=>l.any ks.contains) rfl rfl];congr 2;rw[aeT];simp only[abT,afH,acV,abA,abC];constructor
   ·rintro(h|⟨x,h1,h2⟩)
    ·exact⟨d,h,.inl rfl⟩
    ·exact⟨x,h1,.inr h2⟩
   ·rintro⟨x,h1,rfl|h2⟩
    ·exact .inl h1
    ·exact .inr ⟨x,h1,h2⟩
  |cells t cs=>
   simp only[Function.comp,Blk.drops,Blk.drop,agZ,Blk.cells.injEq,true_and];refine afK fun v _=> ?_;exact rU d ks v
def BW :Blk->Blk->Prop
 | .cells t cs,.cells t' cs'=>t=t'/\cs.length=cs'.length/\∀i,cs'.getD i .any= .any\/cs.getD i .any=cs'.getD i .any
 | .yld o k,.yld o' k'=>k=k'/\(o'=none\/o=o')
 | .mapI n kf o ho hq,.mapI n' kf' o' ho' hq'=>(n=n'/\kf=kf'/\ho=ho')/\(o'=none\/o=o')/\(hq'=none\/hq=hq')
 |b,b'=>b=b'
theorem BW.refl (b:Blk):BW b b:=by cases b<;>simp[BW]
theorem BW.ble {b b':Blk} (h:BW b b'):BLe b b':=by
 cases b<;>cases b'<;>simp only[BW]at h
 ·obtain⟨rfl,hl,h⟩:=h;refine .cells hl fun i _=> ?_;rcases h i with e|e<;>rw[e]
  ·exact .any _
  ·exact .refl _
 case yld.yld o k o' k'=>
  obtain⟨rfl,h⟩:=h;rcases h with rfl|rfl
  ·rintro St w g v ⟨l,r,h1,h2,_⟩;exact⟨l,r,h1,h2,trivial⟩
  ·exact .refl _
 case mapI.mapI n kf o ho hq n' kf' o' ho' hq'=>
  obtain⟨⟨rfl,rfl,rfl⟩,h,h'⟩:=h;rintro St w g v ⟨b,es,h1,h2,h3,h4,h5,h6,h7⟩;refine⟨b,es,h1,h2,h3,h4,h5,fun r hr=> ?_,fun r hr=> ?_⟩
  ·rcases h with rfl|rfl
   ·cases hr
   ·exact h6 r hr
  ·rcases h' with rfl|rfl
   ·cases hr
   ·exact h7 r hr
 all_goals (cases h;try exact .refl _)
theorem BW.rows {b':Blk} {e:TypeId} {sz n:Nat} {f:Nat->Nat->V} (h:BW b' (.rows e sz n f)):b'= .rows e sz n f:=by
 cases b'<;>simp[BW]at h⊢ <;>exact h
theorem tG (ks:List Nat) (cs:List V) (i:Nat):(cs.map (cZ ks)).getD i .any=cZ ks (cs.getD i .any):=by
 by_cases h:i<cs.length
 ·simp[aaC,h]
 ·simp[aaC,adT (aeE h),aCS]
theorem BW.undrop {ks:List Nat} {b b':Blk} (h:BW (b.drops ks) b'):BW b b':=by
 cases b<;>cases b'<;>simp only[BW,Blk.drops]at h⊢
 ·refine⟨h.1,by simpa using h.2.1,fun i=> ?_⟩;rcases h.2.2 i with e|e
  ·exact .inl e
  ·rw[tG]at e;rcases zJ ks (List.getD _ i .any)with e2|e2
   ·rw[e2]at e;exact .inr e
   ·rw[e2]at e;exact .inl e.symm
 case yld.yld o k o' k'=>
  refine⟨h.1, ?_⟩;rcases h.2 with h|h
  ·exact .inl h
  ·unfold hJ at h;split at h
   ·exact .inl h.symm
   ·exact .inr h
 case mapI.mapI n kf o ho hq n' kf' o' ho' hq'=>
  have e:∀x y:Option Nat,(y=none\/(x.filter fun q=> !(ks.contains q))=y)->y=none\/x=y:=fun x y h=>by
   rcases h with h|h
   ·exact .inl h
   ·rcases filter_or x (fun q=> !(ks.contains q))with e|e
    ·rw[e]at h;exact .inl h.symm
    ·rw[e]at h;exact .inr h
  exact⟨h.1,e _ _ h.2.1,e _ _ h.2.2⟩
 all_goals first|exact h|(cases h;done)
theorem Blk.fresh_get {ks:List Nat} {t:TypeId} {cs:List V} (h:Blk.freshL ks (.cells t cs)=true) (i:Nat):(cs.getD i .any).freshL ks=true:=by
 unfold V.freshL;unfold Blk.freshL at h;rw[aaX]at h⊢;intro r hr;exact V.freshAll_get (h r hr)
theorem BW.drop {ks:List Nat} {b b':Blk} (h:BW b b') (hf:b'.freshL ks=true):BW (b.drops ks) b':=by
 cases b<;>cases b'<;>simp only[BW,Blk.drops]at h⊢
 ·refine⟨h.1,by simpa using h.2.1,fun i=> ?_⟩;rw[tG];rcases h.2.2 i with e|e
  ·exact .inl e
  ·rw[e];exact .inr (eZ (Blk.fresh_get hf i))
 case yld.yld o k o' k'=>
  refine⟨h.1, ?_⟩;rcases h.2 with h|rfl
  ·exact .inl h
  ·have:=Blk.drops_fresh hf;simp only[Blk.drops,Blk.yld.injEq,and_true]at this;exact .inr this
 case mapI.mapI n kf o ho hq n' kf' o' ho' hq'=>
  have:=Blk.drops_fresh hf;simp only[Blk.drops,Blk.mapI.injEq,true_and]at this;refine⟨h.1, ?_, ?_⟩
  ·rcases h.2.1 with h|rfl
   ·exact .inl h
   ·exact .inr this.1
  ·rcases h.2.2 with h|rfl
   ·exact .inl h
   ·exact .inr this.2
 all_goals first|exact h|(cases h;done)
structure FS where
 N:Nat
 T:Nat->V
 H:Nat->Option Blk
 b:List Nat
 o:Nat
def S.toF (s:S):FS:=⟨s.N,dD s.t,aJ.get s.h,s.b,s.o⟩
def FSim (z:Start) (f:FS) (a:Act) (w:World):Prop:=∃s,Sim z s a w/\s.toF=f
theorem Sim.of_toF {z:Start} {s s':S} {a:Act} {w:World} (h:Sim z s a w) (e:s.toF=s'.toF):Sim z s' a w:=by
 obtain⟨N,t,hh,b,o⟩:=s;obtain⟨N',t',hh',b',o'⟩:=s';simp only[S.toF,FS.mk.injEq]at e;obtain⟨rfl,et,eh,rfl,rfl⟩:=e;obtain⟨St,g,hW,hT,hK⟩:=h;exact⟨St,g,hW.less fun r b hb=>⟨b,by show aJ.get hh r=some b;rw[eh];exact hb,fun _ h=>h⟩,⟨hT.1,hT.2.1,fun d=>by rw[<-et];exact hT.2.2 d⟩,hK⟩
theorem FSim.sim {z:Start} {s:S} {a:Act} {w:World} (h:FSim z s.toF a w):Sim z s a w:=by
 obtain⟨s',h,e⟩:=h;exact h.of_toF e
def FS.post (f : FS) (e : Eff) : FS := ⟨f.N,fun d=>if e.d=some d then e.v else cZ e.nw (f.T d),
 fun r=>match e.h1.get r with
  |some b=>some b
  |none=>if r∈dP e.h0 then none else(f.H r).map (Blk.drops e.nw),f.b,f.o⟩
structure FS.pre (f:FS) (e:Eff):Prop where
 t0:∀p∈e.t0,f.T p.1=p.2
 hr:∀p∈e.hr,∃b',f.H p.1=some b'/\BW b' p.2
 h0:∀p∈e.h0,∃b',f.H p.1=some b'/\BW b' p.2
 h1:∀k,k∈dP e.h1->k∉dP e.h0->f.H k=none
theorem mA (s:S) (e:Eff):(kJ s e).toF=s.toF.post e:=by
 simp only[S.toF,kJ,FS.post,FS.mk.injEq,true_and,and_true];refine⟨funext fun d=> ?_,funext fun r=> ?_⟩
 ·cases hd:e.d with
  |some k=>simp only[putT,dD,sR,Option.some.injEq]
  |none=>simp only[putT,sR];simp
 ·rw[aJ.get_append,get_drops,pQ]
  cases hb:e.h1.get r with
  |some b=>rfl
  |none=>
   dsimp only;split<;>rfl
def V.isAny :V->Bool
 | .any=>true
 |_=>false
def iI (e:Eff):Bool:=e.t0.all fun p=> !p.2.isAny
def Eff.touch (e:Eff):List Nat:=dP e.h0++dP e.h1
def Eff.ids (e:Eff):List Nat:=dP e.hr++dP e.h0++dP e.h1
def off (e e':Eff):Bool:=
 (match e.d with
  |some d=> !(e'.d==some d)&&e'.t0.all (fun p=> !(p.1==d))
  |none=>true)&&
 e.touch.all (fun k=> !e'.ids.contains k)&&
 e'.v.freshL e.nw&&e'.t0.all (fun p=>p.2.freshL e.nw)&&e'.hr.all (fun p=>p.2.freshL e.nw)&&e'.h0.all (fun p=>p.2.freshL e.nw)&&e'.h1.all (fun p=>p.2.freshL e.nw)
structure Off (e e':Eff):Prop where
 d:∀d,e.d=some d->e'.d≠some d/\∀p∈e'.t0,p.1≠d
 ids:∀k,k∈dP e.h0\/k∈dP e.h1->k∉dP e'.hr/\k∉dP e'.h0/\k∉dP e'.h1
 v:e'.v.freshL e.nw=true
 t0:∀p∈e'.t0,p.2.freshL e.nw=true
 hr:∀p∈e'.hr,p.2.freshL e.nw=true
 h0:∀p∈e'.h0,p.2.freshL e.nw=true
 h1:∀p∈e'.h1,p.2.freshL e.nw=true
theorem aBa {e e':Eff} (h:off e e'=true):Off e e':=by
 unfold off at h;simp only[aaL,aaX]at h;obtain⟨⟨⟨⟨⟨⟨h1,h2⟩,h3⟩,h4⟩,h5⟩,h6⟩,h7⟩:=h;refine⟨fun d hd=> ?_,fun k hk=> ?_,h3,h4,h5,h6,h7⟩
 ·rw[hd]at h1;simp only[aaL,adM,beq_eq_false_iff_ne,aaX]at h1;exact⟨h1.1,fun p hp=>h1.2 p hp⟩
 ·have:=h2 k (by unfold Eff.touch;exact abR.2 hk);simp only[adM,acV,aeJ,Eff.ids,abR,not_or]at this;exact⟨this.1.1,this.1.2,this.2⟩
theorem iA {h:aJ} {p:Nat×Blk} (hp:p∈h):p.1∈dP h:=adL.2 ⟨p,hp,rfl⟩
theorem dF {h:aJ} {k:Nat} (hk:k∉dP h):h.get k=none:=by
 cases hc:h.get k with
 |none=>rfl
 |some c=>exact absurd (aJ.get_mem hc) hk
theorem mG {h:aJ} {k:Nat} {b:Blk} (hk:h.get k=some b):(k,b)∈h:=by
 induction h with
 |nil=>simp[aJ.get]at hk
 |cons p h ih=>
  obtain⟨a,c⟩:=p;simp only[aJ.get]at hk;split at hk
  ·rename_i ha;subst ha;cases hk;simp
  ·exact aaU _ (ih hk)
theorem fK {f:FS} {e e':Eff} (ho:Off e e') {k:Nat} (hk:k∈dP e'.hr\/k∈dP e'.h0\/k∈dP e'.h1):(f.post e).H k=(f.H k).map (Blk.drops e.nw):=by
 have h0:k∉dP e.h0:=fun h=>by
  have:=ho.ids k (.inl h);rcases hk with h|h|h
  ·exact this.1 h
  ·exact this.2.1 h
  ·exact this.2.2 h
 have h1:k∉dP e.h1:=fun h=>by
  have:=ho.ids k (.inr h);rcases hk with h|h|h
  ·exact this.1 h
  ·exact this.2.1 h
  ·exact this.2.2 h
 simp[FS.post,dF h1,h0]
theorem sW {f:FS} {e e':Eff} (ho:Off e e') {p:Nat×V} (hp:p∈e'.t0):(f.post e).T p.1=cZ e.nw (f.T p.1):=by
 have:e.d≠some p.1:=fun h=>(ho.d _ h).2 p hp rfl;simp[FS.post,this]
theorem pre_back {f:FS} {e e':Eff} (hkn:iI e'=true) (ho:Off e e') (h:(f.post e).pre e'):f.pre e':=by
 refine⟨fun p hp=> ?_,fun p hp=> ?_,fun p hp=> ?_,fun k hk hk0=> ?_⟩
 ·have h1:=h.t0 p hp;rw[sW ho hp]at h1;rcases zJ e.nw (f.T p.1)with e2|e2
  ·rw[e2]at h1;exact h1
  ·rw[e2]at h1;have:=aaX.1 hkn p hp;rw[<-h1]at this;simp[V.isAny]at this
 ·obtain⟨b',h1,h2⟩:=h.hr p hp;rw[fK ho (.inl (iA hp)),aaQ]at h1;obtain⟨b0,h3,rfl⟩:=h1;exact⟨b0,h3,h2.undrop⟩
 ·obtain⟨b',h1,h2⟩:=h.h0 p hp;rw[fK ho (.inr (.inl (iA hp))),aaQ]at h1;obtain⟨b0,h3,rfl⟩:=h1;exact⟨b0,h3,h2.undrop⟩
 ·have h1:=h.h1 k hk hk0;rw[fK ho (.inr (.inr hk)),Option.map_eq_none_iff]at h1;exact h1
theorem pre_fwd {f:FS} {e e':Eff} (ho:Off e e') (h:f.pre e'):(f.post e).pre e':=by
 refine⟨fun p hp=> ?_,fun p hp=> ?_,fun p hp=> ?_,fun k hk hk0=> ?_⟩
 ·rw[sW ho hp,h.t0 p hp];exact eZ (ho.t0 p hp)
 ·obtain⟨b',h1,h2⟩:=h.hr p hp;exact⟨_,by rw[fK ho (.inl (iA hp)),h1];rfl,h2.drop (ho.hr p hp)⟩
 ·obtain⟨b',h1,h2⟩:=h.h0 p hp;exact⟨_,by rw[fK ho (.inr (.inl (iA hp))),h1];rfl,h2.drop (ho.h0 p hp)⟩
 ·rw[fK ho (.inr (.inr hk)),h.h1 k hk hk0];rfl
theorem post_comm {f:FS} {e e':Eff} (ho:Off e e') (ho':Off e' e):(f.post e).post e'=(f.post e').post e:=by
 have hT:∀d,((f.post e).post e').T d=((f.post e').post e).T d:=by
  intro d;simp only[FS.post];by_cases h1:e'.d=some d
  ·have h2:e.d≠some d:=fun h=>(ho.d d h).1 h1;simp[h1,h2,eZ ho.v]
  ·by_cases h2:e.d=some d
   ·simp[h1,h2,eZ ho'.v]
   ·simp[h1,h2,rV e.nw e'.nw]
 have hH:∀r,((f.post e).post e').H r=((f.post e').post e).H r:=by
  intro r;by_cases h1:r∈dP e'.h1
  ·have h2:=ho'.ids r (.inr h1);obtain⟨b,hb⟩:=aJ.mem_get h1;have h3:r∉dP e.h1:=h2.2.2;have:=Blk.drops_fresh (ho.h1 _ (mG hb));simp[FS.post,hb,dF h3,h2.2.1,this]
  ·by_cases h2:r∈dP e.h1
   ·have h3:=ho.ids r (.inr h2);obtain⟨b,hb⟩:=aJ.mem_get h2;have:=Blk.drops_fresh (ho'.h1 _ (mG hb));simp[FS.post,hb,dF h1,h3.2.1,this]
   ·by_cases h3:r∈dP e'.h0
    ·simp[FS.post,dF h1,dF h2,h3]
    ·by_cases h4:r∈dP e.h0
     ·simp[FS.post,dF h1,dF h2,h4]
     ·simp[FS.post,dF h1,dF h2,h3,h4,Option.map_map,Function.comp_def,Blk.drops_comm e.nw e'.nw]
 have key:∀x y:FS,x.N=y.N->(∀d,x.T d=y.T d)->(∀r,x.H r=y.H r)->x.b=y.b->x.o=y.o->x=y:=by
  rintro⟨_,_,_,_,_⟩ ⟨_,_,_,_,_⟩ h1 h2 h3 h4 h5;simp only at h1 h4 h5;subst h1;subst h4;subst h5;simp only[FS.mk.injEq,true_and,and_true];exact⟨funext h2,funext h3⟩
 exact key _ _ rfl hT hH rfl rfl
def chain (E:Nat->Option Eff) (fin:FS):List Nat->FS->Prop
 |[],f=>f=fin
 |i::l,f=>∃e,E i=some e/\f.pre e/\chain E fin l (f.post e)
theorem uB {E:Nat->Option Eff} {fin:FS} {i:Nat} {e:Eff} (hi:E i=some e) (hkn:∀j e,E j=some e->iI e=true):∀(js:List Nat) {rest:List Nat} {f:FS},
  (∀j,j∈js->∀e',E j=some e'->Off e e'/\Off e' e)->chain E fin (js++i::rest) f->f.pre e/\chain E fin (js++rest) (f.post e)
 |[],rest,f,_,h=>by
  obtain⟨e',h1,h2,h3⟩:=h
  rw[hi]at h1;cases h1
  exact⟨h2,h3⟩
 |j::js,rest,f,hc,h=>by
  obtain⟨e',h1,h2,h3⟩:=h
  obtain⟨h4,h5⟩:=uB hi hkn js (fun k hk=>hc k (aaU _ hk)) h3
  obtain⟨ho,ho'⟩:=hc j (aaV ..) e' h1
  refine⟨pre_back (hkn _ _ hi) ho' h4,e',h1,pre_fwd ho h2, ?_⟩
  rw[post_comm ho ho'];exact h5
def sP (P:Program) (ops:Array Oper) (b:List Nat) (N oo:Nat) (o:Oper) (e:Eff):Prop:=
 ∀(z:Start) (s:S) (a:Act) (w:World),Sim z s a w->s.N=N->s.b=b->s.o=oo->s.toF.pre e->∀(K:Act->World->Prop) (Q:Exit->Act->World->Prop),(∀a' w',Sim z (kJ s e) a' w'->K a' w')->
  if Region.wanted o (yielded ops a.tmps)then o.wpIn (lB z.ro) 1 P a w K Q else K (a.put o.dst undef) w
def unl (n:Nat) (listed:Array Bool):List Nat:=(List.range n).filter fun i=> !listed.getD i true
theorem qP {n:Nat} {listed:Array Bool} {i:Nat}:i∈unl n listed↔i<n/\listed.getD i true=false:=by
 simp[unl]
theorem unl_set {n:Nat} {listed:Array Bool} {i:Nat} (hi:listed.getD i true=false) {js rest:List Nat} (h:unl n listed=js++i::rest):unl n (listed.setIfInBounds i true)=js++rest:=by
 have hlt:i<listed.size:=by
  rcases afP i listed.size with h'|h'
  ·exact h'
  ·simp[adQ h']at hi
 have hnd:(unl n listed).Nodup:=List.Pairwise.filter _ List.nodup_range
 have e1:unl n (listed.setIfInBounds i true)=(unl n listed).filter fun k=>k !=i:=by
  unfold unl;rw[List.filter_filter];refine List.filter_congr fun k _=> ?_;by_cases hk:i=k
  ·subst hk;simp[hlt]
  ·rw[getD_set_ne true hk];have:(k !=i)=true:=by simpa using fun e=>hk e.symm
   simp[this]
 rw[e1,h]at *;rw[agT]at hnd;obtain⟨h1,h2,h3⟩:=hnd;rw[agA]at h2;rw[aeQ,aeC];simp only[bne_self_eq_false,abL,if_false];congr 1
 ·refine agF.2 fun k hk=> ?_;have:=h3 k hk i (aaV ..);simpa using this
 ·refine agF.2 fun k hk=> ?_;have:k≠i:=fun e=>h2.1 (e▸hk);simpa using this
theorem sQ (n:Nat) (listed:Array Bool):(unl n listed).Pairwise (· < ·):=List.Pairwise.filter _ List.pairwise_lt_range
inductive Bef (ops:Array Oper):Nat->Nat->Prop where
 |one {j i:Nat} {o:Oper} {x:Edge} (h:ops[i]? =some o) (hx:x∈o.after) (hb:Region.binds .any x=true) (hj:x.on=j):Bef ops j i
 |step {j i:Nat} {o:Oper} {x:Edge} (h:ops[i]? =some o) (hx:x∈o.after) (hb:Region.binds .any x=true) (hj:Bef ops j x.on):Bef ops j i
def Clo (ops:Array Oper) (listed:Array Bool):Prop:=∀i o,ops[i]? =some o->listed.getD i false=true->∀x∈o.after,Region.binds .any x=true->listed.getD x.on false=true
theorem Clo.bef {ops:Array Oper} {listed:Array Bool} (hc:Clo ops listed) {j i:Nat} (h:Bef ops j i):listed.getD i false=true->listed.getD j false=true:=by
 induction h with
 |one h hx hb hj=>intro hi;rw[<-hj];exact hc _ _ h hi _ hx hb
 |step h hx hb hj ih=>intro hi;exact ih (hc _ _ h hi _ hx hb)
theorem Clo.ready {ops:Array Oper} {listed:Array Bool} (hc:Clo ops listed) {j i:Nat} {o:Oper} (hi:ops[i]? =some o) (h3:∀x∈o.after,Region.binds .any x=true->listed.getD x.on false=true) (h:Bef ops j i):listed.getD j false=true:=by
 cases h with
 |one h hx hb hj=>rw[hi]at h;cases h;rw[<-hj];exact h3 _ hx hb
 |step h hx hb hj=>rw[hi]at h;cases h;exact hc.bef hj (h3 _ hx hb)
theorem Clo.set {ops:Array Oper} {listed:Array Bool} (hc:Clo ops listed) {i:Nat} {o:Oper} (hi:ops[i]? =some o) (h3:∀x∈o.after,Region.binds .any x=true->listed.getD x.on false=true):Clo ops (listed.setIfInBounds i true):=by
 have up:∀k,listed.getD k false=true->(listed.setIfInBounds i true).getD k false=true:=by
  intro k hk;simp only[acW,agB]at hk⊢;split
  ·split
   ·rfl
   ·rename_i h1 h2;subst h1;rw[adQ (by omega)]at hk;exact hk
  ·exact hk
 intro k o' hk hl x hx hb;refine up _ ?_;by_cases e:i=k
 ·subst e;rw[hi]at hk;cases hk;exact h3 x hx hb
 ·refine hc k o' hk ?_ x hx hb;simp only[acW,agB,if_neg e]at hl⊢;exact hl
structure Fits (P:Program) (ops:Array Oper) (b:List Nat) (N oo:Nat) (E:Nat->Option Eff):Prop where
 ok:∀i o,ops[i]? =some o->∃e,E i=some e/\sP P ops b N oo o e
 known:∀j e,E j=some e->iI e=true
 back:∀i o,ops[i]? =some o->∀e∈o.after,Region.binds .any e=true->e.on<i
 comm:∀j i oi e' e,j<i->ops[i]? =some oi->E j=some e'->E i=some e->Bef ops j i\/(Off e e'/\Off e' e)
theorem wpAny_eff {P:Program} {ops:Array Oper} {b:List Nat} {N oo:Nat} {E:Nat->Option Eff} (hF:Fits P ops b N oo E) {z:Start} {Q:Exit->S->Prop} {fin:S} (hQ:Q .normal fin):
  ∀(fuel:Nat) (listed:Array Bool) (f:FS) (a:Act) (w:World),Clo ops listed->listed.size=ops.size->(unl ops.size listed).length<=fuel->f.N=N->f.b=b->f.o=oo->chain E fin.toF (unl ops.size listed) f->FSim z f a w->
   wpAnyIn (lB z.ro) 1 P .any ops (Post z Q) fuel listed a w:=by
 have done:∀(listed:Array Bool) (f:FS) (a:Act) (w:World),listed.size=ops.size->Region.ready .any ops listed=[]->chain E fin.toF (unl ops.size listed) f->FSim z f a w->Post z Q .normal a w:=by
  intro listed f a w hsz hr hc hs
  cases hu:unl ops.size listed with
  |nil=>
   rw[hu]at hc;have hc:f=fin.toF:=hc;subst hc
   exact⟨fin,hQ,hs.sim⟩
  |cons i l=>
   exfalso;have him:i∈unl ops.size listed:=by rw[hu];exact aaV ..
   obtain⟨hi,hl⟩:=qP.1 him
   have:i∈Region.ready .any ops listed:=by
    refine mem_ready.2 ⟨hl,ops[i],by simp[hi],fun e he hb=> ?_⟩;have hlt:=hF.back i ops[i] (by simp[hi]) e he hb
    cases hc2:listed.getD e.on false with
    |true=>rfl
    |false=>
     have h1:e.on<listed.size:=by omega
     have h2:listed.getD e.on true=false:=by
      simp[h1]at hc2⊢;exact hc2
     have hm:e.on∈unl ops.size listed:=qP.2 ⟨by omega,h2⟩;have hp:=sQ ops.size listed;rw[hu]at hm hp;rcases abC.1 hm with h3|h3
     ·omega
     ·have:=(adO.1 hp).1 _ h3;omega
   rw[hr]at this;cases this
 intro fuel
 induction fuel with
 |zero=>
  intro listed f a w hclo hsz hle hN hb ho hc hs;have hu:unl ops.size listed=[]:=acB (by omega)
  have hr:Region.ready .any ops listed=[]:=by
   cases hr:Region.ready .any ops listed with
   |nil=>rfl
   |cons i l=>
    have:i∈Region.ready .any ops listed:=by rw[hr];exact aaV ..
    obtain⟨h1,o,h2,_⟩:=mem_ready.1 this;have:i∈unl ops.size listed:=qP.2 ⟨(abD.1 h2).1,h1⟩;rw[hu]at this;cases this
  exact⟨hr,done listed f a w hsz hr hc hs⟩
 |succ fuel ih=>
  intro listed f a w hclo hsz hle hN hb ho hc hs;refine⟨fun hr=>done listed f a w hsz hr hc hs,fun i hi=> ?_⟩;obtain⟨h1,o,h2,h3⟩:=mem_ready.1 hi;have him:i∈unl ops.size listed:=qP.2 ⟨(abD.1 h2).1,h1⟩;obtain⟨js,rest,hsplit⟩:=List.append_of_mem him;obtain⟨e,hE,hok⟩:=hF.ok i o h2
  have hcomm:∀j,j∈js->∀e',E j=some e'->Off e e'/\Off e' e:=by
   intro j hj e' he';have hp:=sQ ops.size listed;rw[hsplit,aeH]at hp;have hlt:j<i:=hp.2.2 j hj i (aaV ..);rcases hF.comm j i o e' e hlt h2 he' hE with hbf|h
   ·exfalso;have hl:=hclo.ready h2 h3 hbf;have hjm:j∈unl ops.size listed:=by rw[hsplit];exact acI _ hj
    have h4:=(qP.1 hjm);have h5:j<listed.size:=by omega
    have h6:=h4.2;simp[h5]at hl h6;rw[hl]at h6;cases h6
   ·exact h
  rw[hsplit]at hc;obtain⟨hpre,hch⟩:=uB hE hF.known js hcomm hc;obtain⟨s,hsim,rfl⟩:=hs
  have:=hok z s a w hsim hN hb ho hpre (wpAnyIn (lB z.ro) 1 P .any ops (Post z Q) fuel (listed.setIfInBounds i true)) (Post z Q) fun a' w' hsim'=>by
   refine ih (listed.setIfInBounds i true) (s.toF.post e) a' w' (hclo.set h2 h3) (by simpa using hsz) ?_ hN hb ho ?_ ⟨_,hsim',mA s e⟩
   ·rw[unl_set h1 hsplit];rw[hsplit]at hle;simp only[aaF,aaN]at hle⊢;omega
   ·rw[unl_set h1 hsplit];exact hch
  unfold wpOpIn;rw[h2];dsimp only;split
  ·rename_i hw;rw[if_pos hw]at this;exact this
  ·rename_i hw;rw[if_neg hw]at this;exact⟨fun _ _=>trivial,this⟩
theorem AWp.any {P:Program} {ops:Array Oper} {E:Nat->Option Eff} {Q:Exit->S->Prop} {s fin:S} {id:Nat} (hm:P.follows .mixedOrders=true) (hF:Fits P ops s.b s.N s.o E)
  (hc:chain E fin.toF (List.range ops.size) s.toF) (hQ:Q .normal fin):AWp P (.region id ops true) Q s:=by
 intro z a w hs;refine wpIn_region_any hm ?_
 have e:unl ops.size (Array.replicate ops.size false)=List.range ops.size:=by
  refine agF.2 fun k hk=> ?_;simp at hk;simp[hk]
 refine wpAny_eff hF hQ ops.size _ s.toF a _ (fun i o _ hl=>by simp[acW,Array.getElem?_replicate]at hl;split at hl<;>cases hl) (by simp) ?_ rfl rfl rfl (by rw[e];exact hc) ⟨s, ?_,rfl⟩
 ·rw[e];simp
 ·obtain⟨St,g,hW,hT,hK⟩:=hs;refine⟨St,g,⟨⟨hW.frm.os,hW.frm.tape,hW.frm.output,hW.frm.size,hW.frm.block⟩,hW.st0,hW.st1,hW.ow,fun r b hb=> ?_,hW.sep⟩,⟨hT.1,hT.2.1,fun d=>Rel.mono (w:=w) (w':={w with drawn:=w.drawn+1}) (fun _ h=>h) (fun _ _=>rfl) (hT.2.2 d)⟩,hK.to (fun _ h=>h) (fun _ _=>rfl) rfl (fun _ _=>rfl)⟩;obtain⟨v,h1,h2⟩:=hW.ok r b hb;exact⟨v,h1,dG.mono (w:=w) (w':={w with drawn:=w.drawn+1}) h2 (fun _ h=>h) (fun _ _=>rfl) (fun _ _=>rfl) (r:=0) (fun _ _=>rfl) (.inr rfl)⟩
end Go.Abs
namespace Go.Abs
open Go
abbrev acJ:=@List.filter_cons_of_neg
abbrev acZ:=@List.filter_cons_of_pos
abbrev adG:=@Bool.false_or
abbrev adU:=@List.mem_append_right
abbrev adV:=@Nat.eq_of_beq_eq_true
abbrev adX:=@List.mem_filter
abbrev aeU:=@List.length_map
abbrev agG:=@Nat.add_comm
abbrev agL:=@List.mem_filterMap
abbrev agM:=@Array.any_eq_true'
abbrev agQ:=@Option.isNone_iff_eq_none
structure CC where
 args:List V
 take:List Nat
 keep:List Nat
 h1:aJ
 r:V
 nw:List Nat
 lent:List Nat
 gl:List Nat
def gSlots (l:List Operand):List Nat:=l.filterMap fun
 | .global g=>some (G0+g)
 |_=>none
def wZ (ops:Array Oper) (t:List (Nat×V)) (o:Oper) (gl:List Nat):List (Nat×V):=(o.looksAt ops++gSlots o.op.operands.toList++gl.map (G0+ ·)).filterMap fun d=>if(dD t d).isAny then none else some (d,dD t d)
mutual
def V.ids :V->List Nat
 | .own r=>[r]
 | .ptr r _=>[r]
 | .oelem r _ _ _=>[r]
 | .osl r _ _ _=>[r]
 | .agg cs=>V.idsAll cs
 | .tup cs=>V.idsAll cs
 | .fn _ cs=>V.idsAll cs
 | .opt _ v=>V.ids v
 |_=>[]
def V.idsAll :List V->List Nat
 |[]=>[]
 |v::l=>V.ids v++V.idsAll l
end
def Blk.ids :Blk->List Nat
 | .cells _ cs=>V.idsAll cs
 | .yld o _=>iV o
 | .mapI _ _ o _ hq=>o.toList++hq.toList
 |_=>[]
def blks (h:aJ) (ids:List Nat):aJ:=ids.eraseDups.filterMap fun r=>match h.get r with
 |some b=>some (r,b)
 |none=>none
def grow (h:aJ):Nat->List Nat->List Nat
 |0,ids=>ids
 |n+1,ids=>match(ids.flatMap fun r=>match h.get r with|some b=>b.ids|none=>[]).filter (fun k=> !ids.contains k)with
  |[]=>ids
  |l=>grow h n (ids++l)
def opIds (t:List (Nat×V)) (l:List Operand):List Nat:=V.idsAll (l.map (raw t))
def zI (o:Oper) (N:Nat):Bool:=match o.dst with
 |some d=>decide (d<N)
 |none=>true
def effP (P:Program) (W:List Nat) (ops:Array Oper) (N:Nat) (t0:List (Nat×V)) (hr:aJ) (o:Oper):Option (Eff×Option Prop):=
 if zI o N then
  match o.guard with
  |none=>match pval P hr (uD W o) true t0 o.op with
   |some (v,φ)=>some (⟨o.dst,v,t0,hr,[],[],[]⟩,lW (triv t0 o.op) φ (jD t0 (bZ o.op)) (obl true t0 (bZ o.op)))
   |none=>none
  |some (j,want)=>match nX ops t0 j want,o.dst with
   |some c,some d=>match pval P hr (uD W o) c t0 o.op with
    |some (v,φ)=>some (⟨some d,.opt c v,t0,hr,[],[],[]⟩,lW (triv t0 o.op) (c=true->φ) (jD t0 (bZ o.op)) (obl c t0 (bZ o.op)))
    |none=>if c then none else some (⟨some d,.opt c (.bool false),t0,hr,[],[],[]⟩,none)
   |_,_=>none
 else none
def qX (ops:Array Oper) (t0:List (Nat×V)) (o:Oper):Bool:=match o.guard with
 |none=>true
 |some (j,want)=>match nX ops t0 j want with
  |some c=>c
  |none=>false
def nwOf (o:Oper) (t0:List (Nat×V)) (off:Nat):List Nat:=match o.dst with
 |none=>[]
 |some d=>match o.op with
  | .call cl=>match cl.args.toList with
   |x::_=>match ev t0 x with
    | .own r=>[r]
    |_=>[d+off]
   |_=>[d+off]
  |_=>[d+off]
def outB (b:List Nat) (h1:aJ) (nw:List Nat) (r:V):Bool:=
 V.within (dP h1) r&&aJ.within (dP h1) h1&&b.all (fun k=> !nw.contains k)&&nw.all (fun k=>(dP h1).contains k)
theorem uJ {s:S} {h0 h1:aJ} {nw:List Nat} {r:V} (h:outB s.b h1 nw r=true) {lent:List Nat} (hl:lent=[]\/(r.flat=true/\aJ.Flat h1))
  (hd:∀k,k∈dP h1->k∉dP h0->s.h.get k=none):outOk s lent h0 h1 nw r:=by
 unfold outB at h;simp only[aaL,aaX,adM,acV,abA,aeJ]at h;refine⟨h.1.1.1,h.1.1.2,fun k hk=> ?_,h.1.2,h.2,hl⟩;rw[pQ];split
 ·rfl
 ·rename_i hn;exact hd k hk hn
def dstV (o:Oper) (t:List (Nat×V)):V:=match o.dst with
 |some d=>dD t d
 |none=> .any
def effH (P:Program) (ops:Array Oper) (N:Nat) (b:List Nat) (off:Nat) (t0:List (Nat×V)) (h0:aJ) (o:Oper):Option (Eff×Option Prop):=
 if zI o N&&qX ops t0 o then
  let nw:=nwOf o t0 off
  match hop P ⟨N,t0,h0,b++(dP h0).filter (fun k=> !nw.contains k),off⟩ o.dst o.op with
  |some (s1,φ)=>
   if outB b s1.h nw (dstV o s1.t)&&(dP s1.h).all (fun k=>nw.contains k||(dP h0).contains k)then
    some (⟨o.dst,dstV o s1.t,t0,[],h0,s1.h,nw⟩,lW (trivH o.op) φ (jD t0 (bZ o.op)) (obl true t0 (bZ o.op)))
   else none
  |none=>none
 else none
def rX (P:Program) (c:Bool) (fid:FuncId) (gs:List (Nat×V)) (bk:List Nat) (h0 hr:aJ) (lent:List Nat) (args args':List V) (r:V) (h1:aJ):Prop:=
 (c=true->Spec P fid gs bk h0 args' (fun v h=>v=r/\h=h1))/\(c=true->eU (args.map (sI hr lent)) args')/\(lent=[]\/(r.flat=true/\aJ.Flat h1))
def effC (P:Program) (ops:Array Oper) (N:Nat) (b:List Nat) (t0:List (Nat×V)) (hr h0:aJ) (cc:CC) (o:Oper):Option (Eff×Option Prop):=
 match o.op with
 | .call cl=>match cl.callee with
  | .value f=>match ev t0 f with
   | .fn (.func fid) caps=>
    if zI o N&&vR P fid&&outB b cc.h1 cc.nw cc.r&&cc.lent.all (fun r=>(h0.get r).isNone&&(match hr.get r with|some (.rows _ _ _ _)=>true|_=>false))&&
     (dP cc.h1).all (fun k=>cc.nw.contains k||cc.keep.contains k)then
     match o.guard with
     |none=>some (⟨o.dst,cc.r,t0,hr,h0,cc.h1,cc.nw⟩,lW false (rX P true fid (cc.gl.map fun g=>(g,dD t0 (G0+g))) cc.keep h0 hr cc.lent (cl.args.toList.map (ev t0)++caps) cc.args cc.r cc.h1) (jD t0 (bZ o.op)) (obl true t0 (bZ o.op)))
     |some (j,want)=>match nX ops t0 j want with
      |some c=>match o.dst,h0,cc.h1,cc.nw with
       |some d,[],[],[]=>some (⟨some d,.opt c cc.r,t0,hr,[],[],[]⟩,lW false (rX P c fid (cc.gl.map fun g=>(g,dD t0 (G0+g))) cc.keep [] hr cc.lent (cl.args.toList.map (ev t0)++caps) cc.args cc.r []) (jD t0 (bZ o.op)) (obl c t0 (bZ o.op)))
       |_,_,_,_=>if c then some (⟨o.dst,cc.r,t0,hr,h0,cc.h1,cc.nw⟩,lW false (rX P true fid (cc.gl.map fun g=>(g,dD t0 (G0+g))) cc.keep h0 hr cc.lent (cl.args.toList.map (ev t0)++caps) cc.args cc.r cc.h1) (jD t0 (bZ o.op)) (obl true t0 (bZ o.op)))else none
      |none=>none
    else none
   |_=>none
  |_=>none
 |_=>none
theorem aAX {T:Nat->V}:∀{t0:List (Nat×V)},(∀p∈t0,T p.1=p.2)->∀d,dD t0 d=T d\/dD t0 d= .any
 |[],_,d=> .inr rfl
 |(k,v)::t,h,d=>by
  simp only[dD]
  split
  ·rename_i e;subst e;exact .inl (h (k,v) (aaV ..)).symm
  ·exact aAX (fun p hp=>h p (aaU _ hp)) d
theorem hcov_of {h:aJ}:∀{l:aJ},(∀p∈l,∃b,h.get p.1=some b/\BLe b p.2)->hcov h l
 |[],_=>trivial
 |(r,b')::_l,hh=>⟨hh (r,b') (aaV ..),hcov_of fun p hp=>hh p (aaU _ hp)⟩
theorem uI {s:S} {e:Eff} (h:s.toF.pre e):hcov s.h e.h0:=hcov_of fun p hp=>by
 obtain⟨b',h1,h2⟩:=h.h0 p hp
 exact⟨b',h1,h2.ble⟩
theorem pre_bok {St:Nat->Prop} {z:Start} {w:World} {g:Gh} {s:S} {e:Eff} (hW:WSim z St g s.h w) (h:s.toF.pre e):BOk St w g e.hr:=by
 intro r b hb;obtain⟨b',h1,h2⟩:=h.hr (r,b) (mG hb);obtain⟨v,h3,h4⟩:=hW.ok r b' h1;exact⟨v,h3,h2.ble _ _ _ _ h4⟩
theorem cP {St:Nat->Prop} {w:World} {g:Gh} {s:S} {a:Act} {e:Eff} (hT:eL St w g s.N s.t a) (h:s.toF.pre e):eL St w g s.N e.t0 a:=
 hT.get_any fun d=>aAX (T:=dD s.t) h.t0 d
theorem lI {o:Oper} {ops:Array Oper} {a:Act} (hg:o.guard=none):Region.wanted o (yielded ops a.tmps)=true:=by simp[Region.wanted,hg]
theorem eC {St:Nat->Prop} {w:World} {g:Gh} {N:Nat} {t:List (Nat×V)} {a:Act} (hT:eL St w g N t a) {o:Oper} {ops:Array Oper} {j:Nat} {want c:Bool} (hg:o.guard=some (j,want)) (hgc:nX ops t j want=some c):
  Region.wanted o (yielded ops a.tmps)=c:=by
 unfold nX at hgc;split at hgc
 case h_2=>cases hgc
 rename_i dj hdj;split at hgc
 case isTrue=>cases hgc
 rename_i hdjG;have hrel:=hT.tmp (d:=dj) (by omega)
 have hy:yielded ops a.tmps j=match a.tmps.getD dj undef with| .bool b=>some b|_=>none:=by
  unfold yielded;rw[hdj];simp only[agW];by_cases hlt:dj<a.tmps.size
  ·simp only[hlt,acT,acW,agX];generalize a.tmps[dj]=q;cases q<;>rfl
  ·simp[adQ (aeE hlt),undef]
 unfold Region.wanted;rw[hg];dsimp only;rw[hy];split at hgc
 ·rename_i b hb;cases hgc;rw[hb]at hrel;rw[hrel.bool_inv];cases b<;>cases want<;>rfl
 ·rename_i c' b hb;cases hgc;rw[hb]at hrel;generalize a.tmps.getD dj undef=u at hrel
  cases hrel with
  |opt _ _ _ _ h h0=>
   cases c' with
   |true=>rw[(h rfl).bool_inv];cases b<;>cases want<;>rfl
   |false=>rw[h0 rfl];rfl
 ·cases hgc
theorem aCT {o:Oper} {N:Nat} (h:zI o N=true):∀k,o.dst=some k->k<N:=by
 intro k hk;unfold zI at h;rw[hk]at h;simpa using h
theorem kP {z:Start} {s:S} {a:Act} {w:World} {St:Nat->Prop} {g:Gh} (hW:WSim z St g s.h w) (hT:eL St w g s.N s.t a) (hK:KD z St w g s.b a) {d:Option Nat} (hd:∀k,d=some k->k<s.N) {v:V} {x:Value}
  (hx:Rel St w g v x) (t0:List (Nat×V)) (hr:aJ):Sim z (kJ s ⟨d,v,t0,hr,[],[],[]⟩) (a.put d x) w:=by
 have:kJ s ⟨d,v,t0,hr,[],[],[]⟩=⟨s.N,putT d v s.t,s.h,s.b,s.o⟩:=by simp[kJ,qB,nW,dels,dP]
 rw[this]
 cases d with
 |none=>exact⟨St,g,hW,hT,hK⟩
 |some k=>exact⟨St,g,hW,hT.put (hd k rfl) hx,hK.to (fun _ h=>h) (fun _ _=>rfl) (put_defers ..) (fun _ _=>rfl)⟩
theorem pX {St:Nat->Prop} {w:World} {g:Gh} {N:Nat} {t:List (Nat×V)} {a:Act} (hT:eL St w g N t a) {o:Oper} {ops:Array Oper} (h:qX ops t o=true):Region.wanted o (yielded ops a.tmps)=true:=by
 unfold qX at h;split at h
 ·rename_i hg;exact lI hg
 ·rename_i j want hg;split at h
  ·rename_i c hgc;rw[eC hT hg hgc];exact h
  ·cases h
theorem effP_ok {P:Program} {W:List Nat} {ops:Array Oper} {N:Nat} {b:List Nat} {oo:Nat} {t0:List (Nat×V)} {hr:aJ} {o:Oper} {e:Eff} {φ:Option Prop} {ψ:Prop} (h:effP P W ops N t0 hr o=some (e,φ)) (hφ:aAU φ ψ):
  e.t0=t0/\e.hr=hr/\e.h0=[]/\e.h1=[]/\sP P ops b N oo o e/\ψ:=by
 unfold effP at h;split at h
 case isFalse=>cases h
 rename_i hdN;have hdN:=aCT hdN;split at h
 ·rename_i hg;split at h
  case h_2=>cases h
  rename_i v φ' hv;cases h;obtain⟨h1,h2,h3⟩:=dY hφ (iZ hv) dC;refine⟨rfl,rfl,rfl,rfl, ?_,h3⟩;rintro z s a w ⟨St,g,hW,hT,hKp⟩ hN _ _ hpre K Q hK;subst hN;obtain⟨x,hx,hrel⟩:=pK (P:=P) (pre_bok hW hpre) (cP hT hpre) rfl hv h1 h2;rw[if_pos (lI hg)];refine opUp (mZ hv) ?_;unfold Oper.wp;rw[hx,Oper.upon_value];exact hK _ _ (kP hW hT hKp hdN hrel _ _)
 ·rename_i j want hg;split at h
  case h_2=>cases h
  rename_i c d hgc hd;split at h
  case h_2=>
   split at h
   case isTrue=>cases h
   rename_i hcf;cases h;refine⟨rfl,rfl,rfl,rfl, ?_,hφ⟩;rintro z s a w ⟨St,g,hW,hT,hKp⟩ hN _ _ hpre K Q hK;subst hN;rw[eC (cP hT hpre) hg hgc,if_neg hcf,hd];have hcf:c=false:=by simpa using hcf
   subst hcf;exact hK _ _ (kP hW hT hKp (by rw[<-hd];exact hdN) (.opt _ _ _ _ (fun h=>by cases h) (fun _=>rfl)) _ _)
  rename_i v φ' hv;cases h;obtain⟨h1,h2,h3⟩:=dY hφ (fun ht _=>iZ hv ht) dC;refine⟨rfl,rfl,rfl,rfl, ?_,h3⟩;rintro z s a w ⟨St,g,hW,hT,hKp⟩ hN _ _ hpre K Q hK;subst hN;rw[eC (cP hT hpre) hg hgc]
  cases c with
  |true=>
   obtain⟨x,hx,hrel⟩:=pK (P:=P) (pre_bok hW hpre) (cP hT hpre) rfl hv (h1 rfl) h2;rw[if_pos rfl];refine opUp (mZ hv) ?_;unfold Oper.wp;rw[hx,Oper.upon_value,hd]
   exact hK _ _ (kP hW hT hKp (by rw[<-hd];exact hdN) (.opt _ _ _ _ (fun _=>hrel) (fun h=>by cases h)) _ _)
  |false=>
   rw[if_neg (by simp),hd];exact hK _ _ (kP hW hT hKp (by rw[<-hd];exact hdN) (.opt _ _ _ _ (fun h=>by cases h) (fun _=>rfl)) _ _)
theorem aBb {s s':S} {d:Nat} {e:TypeId} {v:V} {φ:Prop} (h:nT s d e v=some (s',φ)):s'.b=s.b:=by
 unfold nT at h;split at h<;>cases h;rfl
theorem hop_b {P:Program} {s s':S} {d:Option Nat} {op:Op} {φ:Prop} (h:hop P s d op=some (s',φ)):s'.b=s.b:=by
 cases op<;>simp only[hop,reduceCtorEq]at h
 case alloc=>split at h;exact aBb h;cases h
 case box=>split at h;exact aBb h;cases h
 case store=>
  split at h
  ·split at h
   ·split at h<;>cases h;rfl
   ·cases h
  ·split at h
   ·split at h<;>cases h;rfl
   ·cases h
  ·cases h
 case buildSlice=>
  split at h
  ·unfold fZ at h;split at h
   ·split at h
    ·split at h
     ·split at h<;>cases h;rfl
     ·cases h
    ·cases h
   ·cases h
  ·cases h
 case makeSlice=>
  split at h
  ·unfold kV at h;split at h
   ·split at h
    ·split at h
     ·dsimp only at h;split at h<;>cases h;rfl
     ·cases h
    ·cases h
   ·cases h
  ·cases h
 case call=>
  split at h
  ·split at h
   ·unfold vV at h;split at h
    ·split at h
     ·split at h
      ·split at h
       ·split at h<;>cases h;rfl
       ·cases h
      ·cases h
     ·cases h
    ·cases h
   ·unfold pV at h;split at h
    ·split at h
     ·split at h
      ·dsimp only at h;split at h<;>cases h;rfl
      ·cases h
     ·cases h
    ·cases h
  ·unfold aB0 at h;split at h
   ·split at h
    ·split at h<;>cases h;rfl
    ·cases h
   ·cases h
  ·cases h
theorem wp_swap {P:Program} {o:Oper} {a:Act} {w:World} {K0 K:Act->World->Prop} {Q:Exit->Act->World->Prop} (h:o.wp P {a with defers:=[]} w (fun a1 w1=>K0 a1 w1/\a1.defers=[]) (fun _ _ _=>False))
  (hK:∀x w',K0 (({a with defers:=[]}:Act).put o.dst x) w'->K (a.put o.dst x) w'):o.wp P a w K Q:=by
 have he:(execOp ({a with defers:=[]}:Act).eval o)=execOp a.eval o:=rfl
 unfold Oper.wp at h⊢
 rw[he]at h
 revert h
 generalize(execOp a.eval o).run P w=res
 intro h
 cases res with
 |ok nx w'=>
  cases nx with
  |value v=>exact hK _ _ h.1
  |skip=>exact hK _ _ h.1
  |defer d=>have:=h.2;rw[put_defers]at this;cases this
  |enter f args=>
   refine Calls.mono h ?_
   intro e w'' he
   cases e with
   |returned v=>exact hK _ _ he.1
   |panicked c=>exact he.elim
   |outgrown=>obtain⟨_,_,h⟩:=he;exact h.elim
  |row r args=>exact Rows.mono h fun v w'' hv=>hK _ _ hv.1
  |_=>exact h.elim
 |halt hl w'=>cases hl<;>exact h.elim
theorem effH_ok {P:Program} {ops:Array Oper} {N:Nat} {b:List Nat} {oo:Nat} {t0:List (Nat×V)} {h0:aJ} {o:Oper} {e:Eff} {φ:Option Prop} {ψ:Prop} (h:effH P ops N b oo t0 h0 o=some (e,φ)) (hφ:aAU φ ψ):
  e.t0=t0/\e.hr=[]/\e.h0=h0/\sP P ops b N oo o e/\ψ:=by
 unfold effH at h;split at h
 case isFalse=>cases h
 rename_i hc;rw[aaL]at hc;have hdN:=aCT hc.1;have hg:=hc.2;dsimp only at h;split at h
 case h_2=>cases h
 rename_i s1 φ' hn;split at h
 case isFalse=>cases h
 rename_i hc2;rw[aaL]at hc2;cases h;obtain⟨h1,h2,h3⟩:=dY hφ (aAV hn) dC;refine⟨rfl,rfl,rfl, ?_,h3⟩;rintro z s a w ⟨St,g,hW,hT,hKp⟩ hN hb ho hpre K Q hK;subst hN;subst hb;subst ho;rw[if_pos (pX (cP hT hpre) hg)];have hcv:=uI hpre;dsimp only at hcv;have hin:=pR hW hcv [] rfl;have hT0:=cP hT hpre;have hT1:eL (dQ z St g s.h w h0 []).St w g s.N t0 {a with defers:=[]}:=⟨hT0.1,hT0.2.1,fun d=>(hT0.2.2 d).mono (fun _ h=> .inl h) (fun _ _=>rfl)⟩;refine opUp (hop_nd hn) ?_;refine wp_swap (K0:=fun a1 w1=>Sim (dQ z St g s.h w h0 []) s1 a1 w1) (run_hop (z:=dQ z St g s.h w h0 []) (a:={a with defers:=[]}) ⟨_,g,hin,hT1,⟨fun _ _=>rfl,⟨[],.nil,rfl,fun D hD=>by cases hD⟩,fun _ h=>(by cases h),fun _=>rfl⟩⟩ hn h1 h2 fun x w' hsim=>⟨hsim,put_defers ..⟩) fun x w' hsim=> ?_;obtain⟨St',g',hW',hT',hKp'⟩:=hsim;refine hK _ _ (mJ (d:=o.dst) hW hT hKp hcv [] hdN hW' ?_ ?_ (uJ hc2.1 (.inl rfl) fun k hk hk0=> ?_) rfl)
 ·intro hne
  cases hd:o.dst with
  |none=>exact absurd hd hne
  |some d=>
   have hlt:d<a.tmps.size:=by rw[hT.2.1];exact hdN d hd
   have hr:=hT'.tmp (d:=d) (aeD hlt hT.1.2);rw[hd]at hr;simpa[dstV,hd,Act.put,hlt]using hr
 ·intro k hk hnk
  have hkb:k∈s1.b:=by
   have h4:=aaX.1 hc2.2 k hk;simp only[abT,acV,abA]at h4;have hsb:s1.b=s.b++(dP h0).filter (fun k=> !(nwOf o t0 s.o).contains k):=hop_b hn;rw[hsb];refine adU _ (adX.2 ⟨h4.resolve_left hnk,by simpa using hnk⟩)
  exact hKp'.keep k hkb
 ·have h4:=hpre.h1 k hk hk0;exact h4
theorem xA {h hr:aJ}:∀(lent:List Nat),(∀r,r∈lent->∃e sz n f,hr.get r=some (.rows e sz n f)/\h.get r=some (.rows e sz n f))->∀v,sI h lent v=sI hr lent v
 |[],_,_=>rfl
 |r::L,hL,v=>by
  obtain⟨e,sz,n,f,h1,h2⟩:=hL r (aaV ..)
  simp only[sI,h1,h2]
  exact xA L (fun q hq=>hL q (aaU _ hq)) _
theorem uH {P:Program} {St:Nat->Prop} {w:World} {g:Gh} {N:Nat} {t:List (Nat×V)} {a:Act} (hT:eL St w g N t a) {o:Oper} {cl:Call} {f:Operand} {fid:FuncId} {caps:List V} {c:Bool} (hc:c=true)
  (hop:o.op= .call cl) (hcal:cl.callee= .value f) (hfx:ev t f= .fn (.func fid) caps) (hcb:vR P fid=true) (ho:obl c t (bZ o.op)):
  ∃vals,(execOp a.eval o).run P w= .ok (.enter fid vals) w/\vals.size=(cl.args.toList.map (ev t)++caps).length/\
   ∀i,i<(cl.args.toList.map (ev t)++caps).length->Rel St w g ((cl.args.toList.map (ev t)++caps).getD i .any) (vals.getD i undef):=by
 have E:=wS hT hc ho;rw[hop]at E;have hfr:=E f (by simp[bZ,Op.operands,Call.operands,hcal]);rw[hfx]at hfr;generalize hfv:a.eval f=fv at hfr
 cases hfr with
 |fn _ _ _ cvs hcl hcr=>
  refine⟨cl.args.map a.eval++cvs, ?_,by simp[hcl],fun i hi=> ?_⟩
  ·unfold vR at hcb;split at hcb
   case h_2=>cases hcb
   rename_i fn hfn;simp only[aaL,bne_iff_ne,ne_eq]at hcb;have hb:fn.body.isNone=false:=by cases hb:fn.body<;>simp_all
   unfold execOp;rw[hop];simp only[resolve,hcal,hfv,Deferred.ofValue,abI,abO,aaP,invoke,callFunc,run_program,hfn];simp[hcb.1,hb]
  ·simp only[aaF,aeU,acY]at hi;by_cases h:i<cl.args.size
   ·have:=E cl.args[i] (by simp[bZ,Op.operands,Call.operands,hcal]);simpa[aaC,acP,afR,h]using this
   ·have:=hcr (i-cl.args.size) (by omega);simpa[aaC,acP,afR,h]using this
theorem nL {P:Program} {z:Start} {s:S} {a:Act} {w:World} {St:Nat->Prop} {g:Gh} (hW:WSim z St g s.h w) (hT:eL St w g s.N s.t a) (hK:KD z St w g s.b a) {fid:FuncId} {h0 hr h1:aJ} {args args':List V} {r:V} {nw lent:List Nat} {c:Bool} (hc:c=true)
  {gs:List (Nat×V)} {bk:List Nat} (hp:rX P c fid gs bk h0 hr lent args args' r h1) (hgs:∀p∈gs,Rel St w g p.2 (.pointer (some ⟨p.1,0,none⟩))) {vals:Array Value} (hvl:vals.size=args.length) (hvr:∀i,i<args.length->Rel St w g (args.getD i .any) (vals.getD i undef)) {t0:List (Nat×V)} {v:V} {d:Option Nat} (hd:∀k,d=some k->k<s.N)
  (hv:∀St w g x,Rel St w g r x->Rel St w g v x) (hvw:∀ids,v.within ids=r.within ids) (hvf:v.flat=r.flat)
  (hpre:s.toF.pre ⟨d,v,t0,hr,h0,h1,nw⟩) (hob:outB s.b h1 nw r=true) (hlent:lent.all (fun r=>(h0.get r).isNone&&(match hr.get r with|some (.rows _ _ _ _)=>true|_=>false))=true)
  (hnw:(dP h1).all (fun k=>nw.contains k||bk.contains k)=true) {K:Ending->World->Prop} (hK':∀x w',Sim z (kJ s ⟨d,v,t0,hr,h0,h1,nw⟩) (a.put d x) w'->K (.returned x) w'):Calls P fid vals w K:=by
 obtain⟨hspec,hargs,hfl⟩:=hp;have hargs:=hargs hc;have hcv:=uI hpre
 have hl1:lent.all (fun r=>(h0.get r).isNone)=true:=aaX.2 fun r hr=>by
  have:=aaX.1 hlent r hr;rw[aaL]at this;exact this.1
 have hin:=pR hW hcv lent hl1;have hlen:=hargs.len;rw[aeU]at hlen
 have hsame:=xA (h:=s.h) (hr:=hr) lent fun r hr'=>by
  have:=aaX.1 hlent r hr';rw[aaL]at this;have h2:=this.2;split at h2
  ·rename_i e sz n f hg;obtain⟨b',h3,h4⟩:=hpre.hr _ (mG hg);exact⟨e,sz,n,f,hg,by rw[<-h4.rows];exact h3⟩
  ·cases h2
 refine(hspec hc (dQ z St g s.h w h0 lent) vals hin (hvl.trans hlen) (fun i hi=> ?_) fun p hp=>(hgs p hp).mono (fun k hk=> .inl hk) (fun _ _=>rfl)).mono ?_
 ·have h2:=hargs.get i;rw[getD_map _ _ _ _ .any (by omega),<-hsame]at h2;exact h2 _ _ _ _ (Rel.lend hW (St':=(dQ z St g s.h w h0 lent).St) (fun k hk=> .inl hk) lent (fun r hr b v k h1 h2 h3=> .inr ⟨r,b,v,hr,h1,h2,h3⟩) ((hvr i (by omega)).mono (fun k hk=> .inl hk) (fun _ _=>rfl)))
 ·rintro e w' ⟨x,r',h1',St',g',rfl,⟨rfl,rfl⟩,hW',hrx,hkeep⟩;have hok:outOk s lent h0 h1' nw r':=uJ hob hfl hpre.h1;have hok':outOk s lent h0 h1' nw v:=⟨by rw[hvw];exact hok.1,hok.2.1,hok.2.2.1,hok.2.2.2.1,hok.2.2.2.2.1,by rw[hvf];exact hok.2.2.2.2.2⟩;refine hK' _ _ (mJ (d:=d) hW hT hK hcv lent hd hW' (fun _=>hv _ _ _ _ hrx) (fun k hk hnk=> ?_) hok' rfl);have h4:=aaX.1 hnw k hk;simp only[abT,acV,abA]at h4;exact hkeep k (h4.resolve_left hnk)
theorem rel_gl {St:Nat->Prop} {w:World} {g:Gh} {N:Nat} {t:List (Nat×V)} {a:Act} (h:eL St w g N t a) {gl:List Nat}:∀p∈gl.map (fun k=>(k,dD t (G0+k))),Rel St w g p.2 (.pointer (some ⟨p.1,0,none⟩)):=by
 intro p hp;rw[adL]at hp;obtain⟨k,_,rfl⟩:=hp;exact h.glob k
theorem effC_ok {P:Program} {ops:Array Oper} {N:Nat} {b:List Nat} {oo:Nat} {t0:List (Nat×V)} {hr h0:aJ} {cc:CC} {o:Oper} {e:Eff} {φ:Option Prop} {ψ:Prop} (h:effC P ops N b t0 hr h0 cc o=some (e,φ)) (hφ:aAU φ ψ):
  e.t0=t0/\e.hr=hr/\e.h0=h0/\e.h1=cc.h1/\sP P ops b N oo o e/\ψ:=by
 unfold effC at h;split at h
 case h_2=>cases h
 rename_i cl hop;split at h
 case h_2=>cases h
 rename_i f hcal;split at h
 case h_2=>cases h
 rename_i fid caps hfx;split at h
 case isFalse=>cases h
 rename_i hc;simp only[aaL]at hc;obtain⟨⟨⟨⟨hdN,hcb⟩,hob⟩,hlent⟩,hnw⟩:=hc;have hdN:=aCT hdN;split at h
 ·rename_i hg;cases h;obtain⟨h1,h2,h3⟩:=dY hφ (fun h=>by cases h) dC;refine⟨rfl,rfl,rfl,rfl, ?_,h3⟩;rintro z s a w ⟨St,g,hW,hT,hKp⟩ hN hb _ hpre K Q hK;subst hN;subst hb;rw[if_pos (lI hg)];obtain⟨vals,hrun,hvl,hvr⟩:=uH (P:=P) (cP hT hpre) rfl hop hcal hfx hcb h2;refine opUp (fun c e=>by rw[hop]at e;cases e) ?_;unfold Oper.wp;rw[hrun,Oper.upon_enter];exact nL hW hT hKp rfl h1 (rel_gl (cP hT hpre)) hvl hvr hdN (fun _ _ _ _ h=>h) (fun _=>rfl) rfl hpre hob hlent hnw fun x w' hs=>hK _ _ hs
 ·rename_i j want hg;split at h
  case h_2=>cases h
  rename_i c hgc;split at h
  case h_2=>
   split at h
   case isFalse=>cases h
   rename_i hct;cases h;obtain⟨h1,h2,h3⟩:=dY hφ (fun h=>by cases h) dC;refine⟨rfl,rfl,rfl,rfl, ?_,h3⟩;rintro z s a w ⟨St,g,hW,hT,hKp⟩ hN hb _ hpre K Q hK;subst hN;subst hb;rw[eC (cP hT hpre) hg hgc,if_pos hct];obtain⟨vals,hrun,hvl,hvr⟩:=uH (P:=P) (cP hT hpre) rfl hop hcal hfx hcb h2;refine opUp (fun c e=>by rw[hop]at e;cases e) ?_;unfold Oper.wp;rw[hrun,Oper.upon_enter];exact nL hW hT hKp rfl h1 (rel_gl (cP hT hpre)) hvl hvr hdN (fun _ _ _ _ h=>h) (fun _=>rfl) rfl hpre hob hlent hnw fun x w' hs=>hK _ _ hs
  rename_i d hd e1 enw;cases h;obtain⟨h1,h2,h3⟩:=dY hφ (fun h=>by cases h) dC;refine⟨rfl,rfl,rfl,by rw[e1], ?_,h3⟩;rintro z s a w ⟨St,g,hW,hT,hKp⟩ hN hb _ hpre K Q hK;subst hN;subst hb;rw[eC (cP hT hpre) hg hgc]
  cases c with
  |true=>
   rw[if_pos rfl];obtain⟨vals,hrun,hvl,hvr⟩:=uH (P:=P) (cP hT hpre) rfl hop hcal hfx hcb h2;refine opUp (fun c e=>by rw[hop]at e;cases e) ?_;unfold Oper.wp;rw[hrun,Oper.upon_enter,hd];rw[e1,enw]at hob;rw[e1,enw]at hnw
   exact nL (v:= .opt true cc.r) hW hT hKp rfl h1 (rel_gl (cP hT hpre)) hvl hvr (by rw[<-hd];exact hdN) (fun _ _ _ _ h=> .opt _ _ _ _ (fun _=>h) (fun h=>by cases h)) (fun _=>by simp[V.within]) (by simp[V.flat]) hpre hob hlent hnw fun x w' hs=>hK _ _ hs
  |false=>
   rw[if_neg (by simp),hd];exact hK _ _ (kP hW hT hKp (by rw[<-hd];exact hdN) (.opt _ _ _ _ (fun h=>by cases h) (fun _=>rfl)) _ _)
def eF (P:Program) (op:Op) (ty:TypeId) (bk:List Nat) (h0:aJ) (args:List V) (r:V) (h1:aJ):Prop:=
 ∀(o:Oper),o.op=op->o.type=ty->∀(z:Start) (ρ:Operand->Value),WSim z z.St z.g h0 z.w->(∀i,i<args.length->Rel z.St z.w z.g (args.getD i .any) (ρ (op.operands.toList.getD i (.const default))))->
  ∃nx x w' St' g',(execOp ρ o).run P z.w= .ok nx w'/\(nx= .value x\/(nx= .skip/\x=undef))/\WSim z St' g' h1 w'/\Rel St' w' g' r x/\(∀k,k∈bk->g' k=z.g k)
def isCall :Op->Bool
 | .call cl=>match cl.callee with
  | .value _=>true
  |_=>false
 |_=>false
def notDefer :Op->Bool
 | .defer _=>false
 |_=>true
def effX (P:Program) (ops:Array Oper) (N:Nat) (b:List Nat) (t0:List (Nat×V)) (h0:aJ) (cc:CC) (o:Oper):Option (Eff×Option Prop):=
 if zI o N&&qX ops t0 o&&notDefer o.op&&outB b cc.h1 cc.nw cc.r&&(dP cc.h1).all (fun k=>cc.nw.contains k||cc.keep.contains k)then
  some (⟨o.dst,cc.r,t0,[],h0,cc.h1,cc.nw⟩,lW false (eF P o.op o.type cc.keep h0 cc.args cc.r cc.h1/\eU (o.op.operands.toList.map (ev t0)) cc.args) (jD t0 o.op.operands.toList) (obl true t0 o.op.operands.toList))
 else match o.guard with
  |some (j,want)=>match nX ops t0 j want with
   |some false=>match o.dst,h0,cc.h1 with
    |some d,[],[]=>if zI o N then some (⟨some d,.opt false cc.r,t0,[],[],[],[]⟩,some True)else none
    |_,_,_=>none
   |_=>none
  |none=>none
theorem effX_ok {P:Program} {ops:Array Oper} {N:Nat} {b:List Nat} {oo:Nat} {t0:List (Nat×V)} {h0:aJ} {cc:CC} {o:Oper} {e:Eff} {φ:Option Prop} {ψ:Prop} (h:effX P ops N b t0 h0 cc o=some (e,φ)) (hφ:aAU φ ψ):
  e.t0=t0/\e.hr=[]/\e.h0=h0/\e.h1=cc.h1/\sP P ops b N oo o e/\ψ:=by
 unfold effX at h;split at h
 case isFalse=>
  split at h
  case h_2=>cases h
  rename_i j want hg;split at h
  case h_2=>cases h
  rename_i hgc;split at h
  case h_2=>cases h
  rename_i d hd e1;split at h
  case isFalse=>cases h
  rename_i hdN;have hdN:=aCT hdN;cases h;refine⟨rfl,rfl,rfl,e1.symm, ?_,hφ.2⟩;rintro z s a w ⟨St,g,hW,hT,hKp⟩ hN hb _ hpre K Q hK;subst hN;subst hb;rw[eC (cP hT hpre) hg hgc,if_neg (by simp),hd];exact hK _ _ (kP hW hT hKp (by rw[<-hd];exact hdN) (.opt _ _ _ _ (fun h=>by cases h) (fun _=>rfl)) _ _)
 rename_i hc;simp only[aaL]at hc;obtain⟨⟨⟨⟨hdN,hg⟩,hnd⟩,hob⟩,hnw⟩:=hc;have hdN:=aCT hdN;cases h;obtain⟨⟨h1,h1'⟩,h2,h3⟩:=dY hφ (fun h=>by cases h) dC;refine⟨rfl,rfl,rfl,rfl, ?_,h3⟩;rintro z s a w ⟨St,g,hW,hT,hKp⟩ hN hb _ hpre K Q hK;subst hN;subst hb;rw[if_pos (pX (cP hT hpre) hg)];have hcv:=uI hpre;dsimp only at hcv;have hin:=pR hW hcv [] rfl;have hT0:=cP hT hpre;have E:=wS hT0 rfl h2;have hlen:=h1'.len;rw[aeU]at hlen
 obtain⟨nx,x,w',St',g',hrun,hnx,hW',hrx,hkeep⟩:=h1 o rfl rfl (dQ z St g s.h w h0 []) a.eval hin fun i hi=>by
  have hi':i<o.op.operands.toList.length:=by omega
  have h4:=h1'.get i;rw[getD_map _ _ _ _ (.const default) hi']at h4;refine h4 _ _ _ _ ?_;refine(E _ ?_).mono (fun k hk=> .inl hk) (fun _ _=>rfl);rw[aaC,aaO hi'];exact acU hi'
 refine opUp (fun c e=>by rw[e]at hnd;cases hnd) ?_;unfold Oper.wp;have hrun':(execOp a.eval o).run P w= .ok nx w':=hrun
 have fin:K (a.put o.dst x) w'->Oper.upon P o a K Q (.ok nx w'):=fun hs=>by
  rcases hnx with rfl|⟨rfl,rfl⟩
  ·exact hs
  ·exact hs
 rw[hrun'];refine fin (hK _ _ (mJ (d:=o.dst) hW hT hKp hcv [] hdN hW' (fun _=>hrx) (fun k hk hnk=> ?_) (uJ hob (.inl rfl) hpre.h1) rfl));have h4:=aaX.1 hnw k hk;simp only[abT,acV,abA]at h4;exact hkeep k (h4.resolve_left hnk)
def aCX (P:Program) (y:Nat) (ids:List Nat) (C:YC) (bk:List Nat) (h0:aJ) (args:List V) (k:Nat) (h1:aJ):Prop:=
 args.length=C.ps.size/\∀(ro:Option Nat) (z:Start) (vals:Array Value) (l:Nat) (r:Loop),WSim z z.St z.g ((y,.yld (some (ids,C)) 0)::h0) z.w->z.g y=some (.func (.yield l) #[] #[])->z.w.heap[l]? =some (.loop r)->
  vals.size=args.length->(∀i,i<args.length->Rel z.St z.w z.g (args.getD i .any) (vals.getD i undef))->
  RoundIn (lB ro) 0 P l r.fn ((r.params.zip vals).foldl (fun tmps (t,a)=>tmps.setIfInBounds t a) r.tmps) r.assign r.body z.w
   (fun e w'=>∃St' g',e= .returned (.bool (k==0))/\WSim z St' g' ((y,.yld (some (ids,C)) k)::h1) w'/\∀i,i∈y::bk->g' i=z.g i)
def effY (P:Program) (ops:Array Oper) (N:Nat) (b:List Nat) (t0:List (Nat×V)) (h0:aJ) (cc:CC) (o:Oper):Option (Eff×Option Prop):=
 match o.op with
 | .call cl=>match cl.callee with
  | .value f=>match ev t0 f with
   | .own y=>match h0,cc.h1 with
    |(y0,.yld (some (ids,C)) 0)::h0',(y1,.yld _ k)::h1'=>
     if zI o N&&qX ops t0 o&&Nat.beq y y0&&Nat.beq y y1&&outB b cc.h1 cc.nw cc.r&&(dP cc.h1).all (fun k=>cc.nw.contains k||Nat.beq k y||cc.keep.contains k)then
      some (⟨o.dst,cc.r,t0,[],h0,cc.h1,cc.nw⟩,lW false (cc.h1=(y,.yld (some (ids,C)) k)::h1'/\cc.r= .bool (k==0)/\aCX P y ids C cc.keep h0' cc.args k h1'/\eU (cl.args.toList.map (ev t0)) cc.args) (jD t0 o.op.operands.toList) (obl true t0 o.op.operands.toList))
     else none
    |_,_=>none
   |_=>none
  |_=>none
 |_=>none
theorem effY_ok {P:Program} {ops:Array Oper} {N:Nat} {b:List Nat} {oo:Nat} {t0:List (Nat×V)} {h0:aJ} {cc:CC} {o:Oper} {e:Eff} {φ:Option Prop} {ψ:Prop} (h:effY P ops N b t0 h0 cc o=some (e,φ)) (hφ:aAU φ ψ):
  e.t0=t0/\e.hr=[]/\e.h0=h0/\e.h1=cc.h1/\sP P ops b N oo o e/\ψ:=by
 unfold effY at h;split at h
 case h_2=>cases h
 rename_i cl hop;split at h
 case h_2=>cases h
 rename_i f hcal;split at h
 case h_2=>cases h
 rename_i y hfx;split at h
 case h_2=>cases h
 rename_i y0 ids C h0' y1 o1 k h1' hh1;split at h
 case isFalse=>cases h
 rename_i hc;simp only[aaL]at hc;obtain⟨⟨⟨⟨⟨hdN,hg⟩,hy0⟩,hy1⟩,hob⟩,hnw⟩:=hc;have hdN:=aCT hdN;have hy0:=adV hy0;subst hy0;cases h;obtain⟨⟨hc1,hcr,⟨hps,hys⟩,hle⟩,h2,h3⟩:=dY hφ (fun h=>by cases h) dC;refine⟨rfl,rfl,rfl,rfl, ?_,h3⟩;rintro z s a w ⟨St,g,hW,hT,hKp⟩ hN hb _ hpre K Q hK;subst hN;subst hb;rw[if_pos (pX (cP hT hpre) hg)];have hcv:=uI hpre;dsimp only at hcv;have hin:=pR hW hcv [] rfl;have hT0:=cP hT hpre;have E:=wS hT0 rfl h2;rw[hop]at E;have hfr:=E f (by simp[Op.operands,Call.operands,hcal]);rw[hfx]at hfr;have hgy:=hfr.own_inv;obtain⟨u,hgu,l,r,hu,hl,hyo⟩:=hin.ok y (.yld (some (ids,C)) 0) (by simp[aJ.get]);rw[hgy]at hgu;cases hgu;have hlen:=hle.len;rw[aeU]at hlen;have hpr:r.params=C.ps:=hyo.2.1;have hsz:(cl.args.map a.eval).size=r.params.size:=by rw[hpr,<-hps,<-hlen];simp
 have hrun:(execOp a.eval o).run P w= .ok (.round l r.fn ((r.params.zip (cl.args.map a.eval)).foldl (fun tmps (t,a)=>tmps.setIfInBounds t a) r.tmps) r.assign r.body) w:=by
  unfold execOp;rw[hop];simp only[resolve,hcal,hu,Deferred.ofValue,abI,abO,aaP,invoke];have hy:=run_yield (P:=P) (args:=cl.args.map a.eval) hl hsz;simpa using hy
 refine⟨fun _ _=>trivial, ?_⟩;rw[show(lB z.ro).round=z.ro from rfl,Oper.semAt_eq z.ro a.eval o (fun c e=>by rw[hop]at e;cases e),hrun,Oper.uponIn_round];refine⟨fun h=>(by cases h), ?_⟩;refine(hys z.ro (dQ z St g s.h w ((y,.yld (some (ids,C)) 0)::h0') []) (cl.args.map a.eval) l r hin ?_ hl (by simp;omega) fun i hi=> ?_).mono ?_
 ·show g y=_;rw[hgy,hu]
 ·have hi':i<cl.args.size:=by rw[<-hlen]at hi;simpa using hi
  have h4:=hle.get i;rw[getD_map _ _ _ _ (.const default) (by simpa using hi')]at h4;refine h4 _ _ _ _ ?_;have h5:=E cl.args[i] (by simp[Op.operands,Call.operands,hcal]);have h6:=h5.mono (St':=(dQ z St g s.h w ((y,.yld (some (ids,C)) 0)::h0') []).St) (fun k hk=> .inl hk) (fun _ _=>rfl);have e1:(cl.args.toList.getD i (.const default))=cl.args[i]:=by simp[aaC,hi']
  have e2:(cl.args.map a.eval).getD i undef=a.eval cl.args[i]:=by simp[hi']
  rw[e1,e2];exact h6
 ·rintro e w' ⟨St',g',rfl,hW',hkeep⟩;refine hK _ _ (mJ (d:=o.dst) hW hT hKp hcv [] hdN (by rw[hc1];exact hW') (fun _=>by rw[hcr];exact .bool _ _) (fun k' hk hnk=> ?_) (uJ hob (.inl rfl) hpre.h1) rfl);have h4:=aaX.1 hnw k' hk;simp only[abT,acV,abA]at h4;rcases h4 with(h4|h4)|h4
  ·exact absurd h4 hnk
  ·exact hkeep k' (by rw[adV h4];exact aaV ..)
  ·exact hkeep k' (aaU _ h4)
def effV (P:Program) (W:List Nat) (ops:Array Oper) (N:Nat) (t0:List (Nat×V)) (hr:aJ) (r:V) (o:Oper):Option (Eff×Option Prop):=
 match effP P W ops N t0 hr o with
 |some (e,φ)=>some (⟨e.d,r,e.t0,e.hr,e.h0,e.h1,e.nw⟩,some (match φ with|none=>e.v=r|some p=>p/\e.v=r))
 |none=>none
theorem effV_ok {P:Program} {W:List Nat} {ops:Array Oper} {N:Nat} {b:List Nat} {oo:Nat} {t0:List (Nat×V)} {hr:aJ} {r:V} {o:Oper} {e:Eff} {φ:Option Prop} {ψ:Prop} (h:effV P W ops N t0 hr r o=some (e,φ)) (hφ:aAU φ ψ):
  e.t0=t0/\e.hr=hr/\e.h0=[]/\e.h1=[]/\sP P ops b N oo o e/\ψ:=by
 unfold effV at h;split at h
 case h_2=>cases h
 rename_i e0 φ0 h0;cases h
 have h1:e0.v=r/\aAU φ0 ψ:=by
  cases φ0 with
  |none=>exact hφ
  |some p=>exact⟨hφ.1.2,hφ.1.1,hφ.2⟩
 obtain⟨rfl,h2⟩:=h1;exact effP_ok h0 h2
/-! ### Rows that a call reads and does not turn -/
theorem pP (q:Nat->Bool) (k:Nat):∀h:aJ,aJ.get (h.filter fun p=>q p.1) k=if q k then h.get k else none
 |[]=>by simp[aJ.get]
 |(a,b)::h=>by
  by_cases hq:q a=true
  ·rw[acZ (by simpa using hq),aJ.get_cons,aJ.get_cons,pP q k h]
   by_cases e:a=k
   ·subst e;rw[if_pos rfl,if_pos hq,if_pos rfl]
   ·rw[if_neg e,if_neg e]
  ·rw[acJ (by simpa using hq),pP q k h,aJ.get_cons]
   by_cases e:a=k
   ·subst e;rw[if_neg hq,if_neg hq]
   ·rw[if_neg e]
def isRows :Blk->Bool
 | .rows _ _ _ _=>true
 | .cells _ cs=>cs.all fun v=> !v.isAny
 |_=>false
theorem BW.exact {b' B:Blk} (h:BW b' B) (hr:isRows B=true):b'=B:=by
 cases B with
 |rows e sz n f=>exact h.rows
 |cells t cs=>
  cases b' with
  |cells t' cs'=>
   obtain⟨h1,h2,h3⟩:=h;subst h1;congr 1;refine List.ext_getElem h2 fun i g1 g2=> ?_;have h4:=aaX.1 hr _ (acU g2);have h5:=h3 i;simp only[aaC,aaO g1,aaO g2,agX]at h5;rcases h5 with h5|h5
   ·rw[h5]at h4;cases h4
   ·exact h5
  |_=>cases h
 |_=>cases hr
def effR (P:Program) (ops:Array Oper) (N:Nat) (b:List Nat) (t0:List (Nat×V)) (h0:aJ) (cc:CC) (o:Oper):Option (Eff×Option Prop):=
 match effC P ops N b t0 [] h0 ⟨cc.args,cc.take,cc.keep,cc.h1,cc.r,cc.nw,[],cc.gl⟩ o with
 |some (e,φ)=>
  if e.h0.all (fun p=> !cc.lent.contains p.1||isRows p.2&&p.2.freshL e.nw)then
   some (⟨e.d,e.v,e.t0,e.h0.filter (fun p=>cc.lent.contains p.1),e.h0.filter (fun p=> !cc.lent.contains p.1),e.h1.filter (fun p=> !cc.lent.contains p.1),e.nw⟩,
    some ((match φ with|none=>True|some p=>p)/\e.h1.filter (fun p=>cc.lent.contains p.1)=e.h0.filter (fun p=>cc.lent.contains p.1)))
  else none
 |none=>none
theorem effR_ok {P:Program} {ops:Array Oper} {N:Nat} {b:List Nat} {oo:Nat} {t0:List (Nat×V)} {h0:aJ} {cc:CC} {o:Oper} {e:Eff} {φ:Option Prop} {ψ:Prop} (h:effR P ops N b t0 h0 cc o=some (e,φ)) (hφ:aAU φ ψ):
  e.t0=t0/\(∀p∈e.hr,p∈h0)/\(∀p∈e.h0,p∈h0)/\sP P ops b N oo o e/\ψ:=by
 unfold effR at h;split at h
 case h_2=>cases h
 rename_i e2 φ2 h2;split at h
 case isFalse=>cases h
 rename_i hro;cases h;obtain⟨⟨hp,heq⟩,hψ⟩:=hφ
 obtain ⟨g1, g2, g3, g4, g5, g6⟩ := effC_ok (oo := oo) (ψ := ψ) h2 (by
  cases φ2 with
  |none=>exact hψ
  |some p=>exact⟨hp,hψ⟩)
 refine⟨g1,fun p hp=>by rw[<-g3];exact(adX.1 hp).1,fun p hp=>by rw[<-g3];exact(adX.1 hp).1, ?_,g6⟩;have f1:∀(h:aJ) k,aJ.get (h.filter fun p=>cc.lent.contains p.1) k=if cc.lent.contains k=true then h.get k else none:=fun h k=>pP (fun k=>cc.lent.contains k) k h;have f2:∀(h:aJ) k,aJ.get (h.filter fun p=> !cc.lent.contains p.1) k=if(!cc.lent.contains k)=true then h.get k else none:=fun h k=>pP (fun k=> !cc.lent.contains k) k h
 have hget:∀k,cc.lent.contains k=true->e2.h1.get k=e2.h0.get k:=fun k hk=>by
  have h1:=f1 e2.h1 k;rw[heq,f1 e2.h0 k,if_pos hk,if_pos hk]at h1;exact h1.symm
 have hid:∀k,k∈dP e2.h0↔∃B,e2.h0.get k=some B:=fun k=>⟨fun hk=>aJ.mem_get hk,fun⟨B,hB⟩=>aJ.get_mem hB⟩;intro z s a w hS hN hb ho hpre K Q hK
 have hpre2:s.toF.pre e2:=by
  refine⟨hpre.t0,fun p hp=> ?_,fun p hp=> ?_,fun k hk hk0=> ?_⟩
  ·rw[g2]at hp;cases hp
  ·cases hc:cc.lent.contains p.1 with
   |true=>exact hpre.hr p (adX.2 ⟨hp,hc⟩)
   |false=>exact hpre.h0 p (adX.2 ⟨hp,by rw[hc];rfl⟩)
  ·have hnl:cc.lent.contains k=false:=by
    cases hc:cc.lent.contains k with
    |false=>rfl
    |true=>
     exfalso;obtain⟨B,hB⟩:=aJ.mem_get hk;rw[hget k hc]at hB;exact hk0 (aJ.get_mem hB)
   refine hpre.h1 k ?_ ?_
   ·obtain⟨B,hB⟩:=aJ.mem_get hk;have h3:=f2 e2.h1 k;rw[hnl,if_pos (by rfl)]at h3;exact aJ.get_mem (h3.trans hB)
   ·intro hk2;obtain⟨B,hB⟩:=aJ.mem_get hk2;have h3:=f2 e2.h0 k;rw[hnl,if_pos (by rfl)]at h3;exact hk0 (aJ.get_mem (h3.symm.trans hB))
 refine g5 z s a w hS hN hb ho hpre2 K Q fun a' w' h=>hK a' w' (h.of_toF ?_);rw[mA,mA];unfold FS.post;simp only[FS.mk.injEq,true_and,and_true];funext r;have hg1:=f2 e2.h1 r;have hg0:=f2 e2.h0 r
 cases hc:cc.lent.contains r with
 |true=>
  rw[hc,if_neg (by simp)]at hg1 hg0
  have hnm:¬r∈dP (e2.h0.filter fun p=> !cc.lent.contains p.1):=fun hm=>by
   obtain⟨B,hB⟩:=aJ.mem_get hm;rw[hg0]at hB;cases hB
  rw[hg1,hget r hc,if_neg hnm]
  cases hB:e2.h0.get r with
  |none=>
   have hnm2:¬r∈dP e2.h0:=fun hm=>by
    obtain⟨B,hB2⟩:=(hid r).1 hm;rw[hB]at hB2;cases hB2
   rw[if_neg hnm2]
  |some B=>
   have hm:=mG hB;have h3:=aaX.1 hro _ hm;rw[hc]at h3;simp only[acS,adG,aaL]at h3;obtain⟨b',h4,h5⟩:=hpre2.h0 _ hm;have e1:b'=B:=BW.exact h5 h3.1;subst e1;have h4':s.toF.H r=some b':=h4;rw[h4'];show some b'=some (Blk.drops e2.nw b')
   rw[Blk.drops_fresh h3.2]
 |false=>
  rw[hc,if_pos (by rfl)]at hg1 hg0;rw[hg1]
  cases e2.h1.get r with
  |some B=>rfl
  |none=>
   have:r∈dP (e2.h0.filter fun p=> !cc.lent.contains p.1)↔r∈dP e2.h0:=by
    constructor
    ·intro hm;obtain⟨B,hB⟩:=aJ.mem_get hm;exact aJ.get_mem (hg0.symm.trans hB)
    ·intro hm;obtain⟨B,hB⟩:=aJ.mem_get hm;exact aJ.get_mem (hg0.trans hB)
   by_cases hm:r∈dP e2.h0
   ·dsimp only;rw[if_pos hm,if_pos (this.2 hm)]
   ·dsimp only;rw[if_neg hm,if_neg (fun h=>hm (this.1 h))]
def readsH :Op->Bool
 | .move _=>false
 | .assign _=>false
 | .extract _ _=>false
 |_=>true
/-! ### Whole regions -/
def effOf (P:Program) (W:List Nat) (ops:Array Oper) (calls:List (Nat×CC)) (s:S) (k:Nat) (o:Oper):Option (Eff×Option Prop):=
 let t0:=wZ ops s.t o (match calls.lookup k with|some cc=>cc.gl|none=>[])
 let ids:=opIds t0 (bZ o.op)
 match calls.lookup k with
 |some cc=>if isCall o.op then(match effC P ops s.N s.b t0 (blks s.h cc.lent) (blks s.h cc.take) cc o with|some r=>some r|none=>match effR P ops s.N s.b t0 (blks s.h cc.take) cc o with|some r=>some r|none=>effY P ops s.N s.b t0 (blks s.h cc.take) cc o)else match cc.lent with|[]=>effX P ops s.N s.b t0 (blks s.h cc.take) cc o|_=>effV P W ops s.N t0 (blks s.h ids) cc.r o
 |none=>match effP P W ops s.N t0 (blks s.h (if readsH o.op then ids else[])) o with
  |some r=>some r
  |none=>effH P ops s.N s.b s.o t0 (blks s.h (grow s.h 4 ids)) o
def preB (s:S) (e:Eff):Bool:=(dP e.h1).all fun k=>(dP e.h0).contains k||(s.h.get k).isNone
def runE (P:Program) (W:List Nat) (ops:Array Oper) (calls:List (Nat×CC)):Nat->List Oper->S->Option (S×List Eff×Prop)
 |_,[],s=>some (s,[],True)
 |k,o::l,s=>match effOf P W ops calls s k o with
  |some (e,φ)=>if preB s e then match runE P W ops calls (k+1) l (kJ s e)with
   |some (s',es,ψ)=>some (s',e::es,aAU φ ψ)
   |none=>none
   else none
  |none=>none
theorem fP (ops:Array Oper) (s:S) (o:Oper) (gl:List Nat):∀p∈wZ ops s.t o gl,s.toF.T p.1=p.2:=by
 intro p hp;unfold wZ at hp;rw[agL]at hp;obtain⟨d,_,hd⟩:=hp;split at hd<;>cases hd;rfl
theorem dO (ops:Array Oper) (t:List (Nat×V)) (o:Oper) (gl:List Nat):(wZ ops t o gl).all (fun p=> !p.2.isAny)=true:=by
 rw[aaX];intro p hp;unfold wZ at hp;rw[agL]at hp;obtain⟨d,_,hd⟩:=hp;split at hd<;>cases hd;rename_i h;simpa using h
theorem iH (s:S) (ids:List Nat):∀p∈blks s.h ids,∃b',s.toF.H p.1=some b'/\BW b' p.2:=by
 intro p hp;unfold blks at hp;rw[agL]at hp;obtain⟨r,_,hr⟩:=hp;split at hr
 ·rename_i b hb;cases hr;exact⟨b,hb,.refl b⟩
 ·cases hr
theorem aBZ {P:Program} {W:List Nat} {ops:Array Oper} {calls:List (Nat×CC)} {s:S} {k:Nat} {o:Oper} {e:Eff} {φ:Option Prop} {ψ:Prop} (h:effOf P W ops calls s k o=some (e,φ)) (hφ:aAU φ ψ) (hb:preB s e=true):
  sP P ops s.b s.N s.o o e/\s.toF.pre e/\iI e=true/\ψ:=by
 have hh1:∀k,k∈dP e.h1->k∉dP e.h0->s.toF.H k=none:=by
  intro k hk hk0;have:=aaX.1 hb k hk;simp only[abT,acV,abA,agQ]at this;exact this.resolve_left hk0
 unfold effOf at h;dsimp only at h;split at h
 ·split at h
  ·split at h
   rotate_left
   ·split at h
    rotate_left
    ·obtain⟨h1,h2,h3,h4,h5,h6⟩:=effY_ok h hφ;exact⟨h5,⟨by rw[h1];exact fP ops s o _,by rw[h2];simp,by rw[h3];exact iH s _,hh1⟩,by unfold iI;rw[h1];exact dO ops s.t o _,h6⟩
    rename_i r0 hr0;cases h;obtain⟨h1,h2,h3,h4,h5⟩:=effR_ok hr0 hφ;exact⟨h4,⟨by rw[h1];exact fP ops s o _,fun p hp=>iH s _ p (h2 p hp),fun p hp=>iH s _ p (h3 p hp),hh1⟩,by unfold iI;rw[h1];exact dO ops s.t o _,h5⟩
   rename_i r0 hr0;cases h;obtain⟨h1,h2,h3,h4,h5,h6⟩:=effC_ok hr0 hφ;exact⟨h5,⟨by rw[h1];exact fP ops s o _,by rw[h2];exact iH s _,by rw[h3];exact iH s _,hh1⟩,by unfold iI;rw[h1];exact dO ops s.t o _,h6⟩
  ·split at h
   ·obtain⟨h1,h2,h3,h4,h5,h6⟩:=effX_ok h hφ;exact⟨h5,⟨by rw[h1];exact fP ops s o _,by rw[h2];simp,by rw[h3];exact iH s _,hh1⟩,by unfold iI;rw[h1];exact dO ops s.t o _,h6⟩
   ·obtain⟨h1,h2,h3,h4,h5,h6⟩:=effV_ok h hφ;exact⟨h5,⟨by rw[h1];exact fP ops s o _,by rw[h2];exact iH s _,by rw[h3];simp,hh1⟩,by unfold iI;rw[h1];exact dO ops s.t o _,h6⟩
 ·split at h
  ·rename_i r hr;cases h;obtain⟨h1,h2,h3,h4,h5,h6⟩:=effP_ok hr hφ;exact⟨h5,⟨by rw[h1];exact fP ops s o _,by rw[h2];exact iH s _,by rw[h3];simp,hh1⟩,by unfold iI;rw[h1];exact dO ops s.t o _,h6⟩
  ·obtain⟨h1,h2,h3,h4,h5⟩:=effH_ok h hφ;exact⟨h4,⟨by rw[h1];exact fP ops s o _,by rw[h2];simp,by rw[h3];exact iH s _,hh1⟩,by unfold iI;rw[h1];exact dO ops s.t o _,h5⟩
theorem runE_ok {P:Program} {W:List Nat} {ops:Array Oper} {calls:List (Nat×CC)} {b:List Nat} {N oo:Nat}:∀(l:List Oper) (k:Nat) {s s':S} {es:List Eff} {φ:Prop},runE P W ops calls k l s=some (s',es,φ)->φ->
  s.b=b->s.N=N->s.o=oo->es.length=l.length/\(∀(i:Nat) (o:Oper),l[i]? =some o->∃e,es[i]? =some e/\sP P ops b N oo o e)/\(∀e∈es,iI e=true)/\
   ∀(E:Nat->Option Eff),(∀i,i<es.length->E (k+i)=es[i]?)->chain E s'.toF (List.range' k es.length) s.toF
 |[],k,s,s',es,φ,h,_,_,_,_=>by
  simp only[runE]at h;cases h
  exact⟨rfl,by simp,by simp,fun E _=>rfl⟩
 |o::l,k,s,s',es,φ,h,hφ,hb,hN,ho=>by
  simp only[runE]at h
  split at h
  case h_2=>cases h
  rename_i e φ1 he
  split at h
  case isFalse=>cases h
  rename_i hpb
  split at h
  case h_2=>cases h
  rename_i s2 es2 ψ hr
  cases h
  obtain⟨h1,h2,h3,h4⟩:=aBZ he hφ hpb
  obtain⟨g1,g2,g3,g4⟩:=runE_ok l (k+1) hr h4 (b:=b) (N:=N) (oo:=oo) hb hN ho
  refine⟨by simp[g1],fun i o' hi=> ?_,fun x hx=> ?_,fun E hE=> ?_⟩
  ·cases i with
   |zero=>simp at hi;subst hi;exact⟨e,by simp,by rw[<-hb,<-hN,<-ho];exact h1⟩
   |succ i=>simpa using g2 i o' (by simpa using hi)
  ·rcases abC.1 hx with rfl|hx
   ·exact h3
   ·exact g3 x hx
  ·simp only[aaN,List.range'_succ]
   refine⟨e,by have:=hE 0 (by simp);simpa using this,h2, ?_⟩
   rw[<-mA]
   exact g4 E fun i hi=>by
    have:=hE (i+1) (by simp;omega)
    simpa[adY,agG 1 i]using this
def backB (ops:List Oper):Bool:=(List.range ops.length).all fun i=>match ops[i]? with
 |some o=>o.after.all fun e=> !Region.binds .any e||decide (e.on<i)
 |none=>true
def befL (ops:List Oper):Nat->Nat->Oper->Bool
 |0,_,_=>false
 | n + 1, j, o => o.after.any fun x => Region.binds .any x && (x.on==j||match ops[x.on]? with
  |some o'=>befL ops n j o'
  |none=>false)
theorem befL_ok {ops:List Oper}:∀(n:Nat) {j i:Nat} {o:Oper},ops[i]? =some o->befL ops n j o=true->Bef ops.toArray j i
 |0,_,_,_,_,h=>by cases h
 |n+1,j,i,o,hi,h=>by
  unfold befL at h
  obtain⟨x,hx,h2⟩:=agM.1 h
  rw[aaL,abT]at h2
  rcases h2.2 with h3|h3
  ·exact .one (by simpa using hi) hx h2.1 (by simpa using h3)
  ·split at h3
   ·rename_i o' ho'
    exact .step (by simpa using hi) hx h2.1 (befL_ok n ho' h3)
   ·cases h3
def befR :List Oper->Nat->List Nat->List Nat
 |[],_,R=>R
 |o::l,k,R=>match o.after.any fun x=>Region.binds .any x&&R.any (· ==x.on)with
  |true=>befR l (k+1) (k::R)
  |false=>befR l (k+1) R
theorem aAR {ops:List Oper} {j:Nat}:∀(l:List Oper) (k:Nat) (R:List Nat),(∀n,l[n]? =ops[k+n]?)->(∀r∈R,r=j\/Bef ops.toArray j r)->∀r∈befR l k R,r=j\/Bef ops.toArray j r
 |[],_,_,_,hR=>hR
 |o::l,k,R,hl,hR=>by
  have ho:ops[k]? =some o:=by simpa using(hl 0).symm
  have hl':∀n,l[n]? =ops[k+1+n]? :=fun n=>by have:=hl (n+1);simpa[adY,agG 1 n]using this
  unfold befR
  split
  ·rename_i h
   refine aAR l (k+1) (k::R) hl' fun r hr=> ?_
   rcases abC.1 hr with rfl|hr
   ·obtain⟨x,hx,h2⟩:=agM.1 h
    rw[aaL,afH]at h2
    obtain⟨hb,y,hy,hxy⟩:=h2
    have hxy:y=x.on:=by simpa using hxy
    rcases hR y hy with h3|h3
    ·exact .inr (.one (by simpa using ho) hx hb (hxy▸h3))
    ·exact .inr (.step (by simpa using ho) hx hb (hxy▸h3))
   ·exact hR r hr
  ·exact aAR l (k+1) R hl' hR
theorem befR_lt {ops:List Oper} {i j:Nat} (hj:j<i) (h:(befR (ops.drop (j+1)) (j+1) [j]).any (· ==i)=true):Bef ops.toArray j i:=by
 obtain⟨r,hr,h2⟩:=afH.1 h;have h2:r=i:=by simpa using h2
 subst h2;rcases aAR (ops:=ops) _ _ _ (fun n=>by simp[acC]) (fun r hr=> .inl (by simpa using hr)) r hr with h3|h3
 ·omega
 ·exact h3
def commB (ops:List Oper) (es:List Eff):Bool:=(List.range ops.length).all fun i=>match ops[i]?,es[i]? with
 | some o, some e => (List.range i).all fun j => o.after.any (fun x => Region.binds .any x && x.on == j) || (match es[j]? with
  |some e'=>off e e'&&off e' e
  |none=>true)||(befL ops 3 j o||(befR (ops.drop (j+1)) (j+1) [j]).any (· ==i))
 |_,_=>true
theorem AWp.draw {P:Program} (W:List Nat) {Q:Exit->S->Prop} {id:Nat} (calls:List (Nat×CC)) (ds rs:List Nat) {l:List Oper} {s s':S} {es:List Eff} {φ:Prop} (hm:P.follows .mixedOrders=true)
  (h:runE P W l.toArray calls 0 l s=some (s',es,φ)) (hφ:φ) (hb:backB l=true) (hc:commB l es=true) (hQ:Q .normal (proj s' ds rs)):AWp P (.region id l.toArray true) Q s:=by
 obtain⟨h1,h2,h3,h4⟩:=runE_ok l 0 h hφ rfl rfl rfl
 have hQ':AWp P (.region id l.toArray true) (fun e t=>e= .normal/\t=s') s:=by
  refine AWp.any (E:=fun i=>es[i]?) hm ⟨fun i o hi=>h2 i o (by simpa using hi),fun j e he=>h3 e (List.mem_of_getElem? he),fun i o hi e he hbd=> ?_,fun j i oi e' e hj hi he' he=> ?_⟩ (fin:=s') ?_ ⟨rfl,rfl⟩
  ·have hi':l[i]? =some o:=by simpa using hi
   have hlt:=(adD.1 hi').1;have:=aaX.1 hb i (adN.2 hlt);rw[hi']at this;have:=Array.all_eq_true_iff_forall_mem.1 this e he;rw[hbd]at this;simpa using this
  ·have hi':l[i]? =some oi:=by simpa using hi
   have hlt:=(adD.1 hi').1;have:=aaX.1 hc i (adN.2 hlt);rw[hi',he]at this;have:=aaX.1 this j (adN.2 hj);rw[he',abT,abT,aaL]at this;rcases this with(h5|h5)|h5
   ·obtain⟨x,hx,hx2⟩:=agM.1 h5;rw[aaL,abZ]at hx2;exact .inl (.one hi hx hx2.1 hx2.2)
   ·exact .inr ⟨aBa h5.1,aBa h5.2⟩
   ·rcases abT .. |>.mp h5 with h6|h6
    ·exact .inl (befL_ok 3 hi' h6)
    ·exact .inl (befR_lt hj h6)
  ·have:=h4 (fun i=>es[i]?) (fun i _=>by simp);rw[h1,<-List.range_eq_range']at this;simpa using this
 intro z a w hs;refine wpIn_mono (hQ' z a w hs) fun e a' w' ⟨t,⟨he,ht⟩,hs'⟩=> ?_;subst he;subst ht;exact⟨_,hQ,Le.proj t ds rs z a' w' hs'⟩
theorem runE_wp {P:Program} {W:List Nat} {ops:Array Oper} {calls:List (Nat×CC)} {Q:Exit->S->Prop}:∀(l:List Oper) (k:Nat) {s s':S} {es:List Eff} {φ:Prop},runE P W ops calls k l s=some (s',es,φ)->φ->Q .normal s'->vX P ops Q l s
 |[],k,s,s',es,φ,h,_,hQ=>by simp only[runE]at h;cases h;exact .nil hQ
 |o::l,k,s,s',es,φ,h,hφ,hQ=>by
  simp only[runE]at h
  split at h
  case h_2=>cases h
  rename_i e φ1 he
  split at h
  case isFalse=>cases h
  rename_i hpb
  split at h
  case h_2=>cases h
  rename_i s2 es2 ψ hr
  cases h
  obtain⟨h1,h2,h3,h4⟩:=aBZ he hφ hpb
  intro z a w hs
  refine wpListIn_step fun K hKK=> ?_
  have:=h1 z s a w hs rfl rfl rfl h2 K (Post z Q) fun a' w' hs'=>hKK _ _ (runE_wp l (k+1) hr h4 hQ z a' w' hs')
  split
  ·rename_i hw;rw[if_pos hw]at this;exact this
  ·rename_i hw;rw[if_neg hw]at this;exact⟨fun _ _=>trivial,this⟩
theorem AWp.text {P:Program} (W:List Nat) {Q:Exit->S->Prop} {id:Nat} (calls:List (Nat×CC)) (ds rs:List Nat) {l:List Oper} {s s':S} {es:List Eff} {φ:Prop}
  (h:runE P W l.toArray calls 0 l s=some (s',es,φ)) (hφ:φ) (hQ:Q .normal (proj s' ds rs)):AWp P (.region id l.toArray false) Q s:=by
 have hQ':AWp P (.region id l.toArray false) (fun e t=>e= .normal/\t=s') s:= .region (runE_wp l 0 h hφ ⟨rfl,rfl⟩);intro z a w hs;refine wpIn_mono (hQ' z a w hs) fun e a' w' ⟨t,⟨he,ht⟩,hs'⟩=> ?_;subst he;subst ht;exact⟨_,hQ,Le.proj t ds rs z a' w' hs'⟩
def regC (P:Program) (W:List Nat) (draw:Bool) (calls:List (Nat×CC)) (ds rs:List Nat) (l:List Oper) (s:S):Option (S×Prop):=
 match runE P W l.toArray calls 0 l s with
 |some (s',es,φ)=>if !draw||(backB l&&commB l es)then some (proj s' ds rs,φ)else none
 |none=>none
theorem AWp.regC {P:Program} (W:List Nat) {Q:Exit->S->Prop} {id:Nat} {draw:Bool} (calls:List (Nat×CC)) (ds rs:List Nat) {l:List Oper} {s:S} (s':S) (φ:Prop) (hm:P.follows .mixedOrders=true)
  (h:regC P W draw calls ds rs l s=some (s',φ)) (hφ:φ) (hQ:Q .normal s'):AWp P (.region id l.toArray draw) Q s:=by
 unfold Abs.regC at h;split at h
 case h_2=>cases h
 rename_i s1 es φ1 hr;split at h
 case isFalse=>cases h
 rename_i hc;cases h
 cases draw with
 |true=>
  simp only[acS,adG,aaL]at hc
  exact .draw W calls ds rs hm hr hφ hc.1 hc.2 hQ
 |false=>exact .text W calls ds rs hr hφ hQ
theorem Spec.heap {P:Program} {f:FuncId} {gs:List (Nat×V)} {bk:List Nat} {h0 h0':aJ} {args:List V} {R:V->aJ->Prop} (h:Spec P f gs bk h0' args R) (hc:hcov h0 h0'):Spec P f gs bk h0 args R:=
 fun z vals h1 h2 h3=>h z vals (h1.less fun r b' hb'=>by obtain⟨b,h4,h5⟩:=mE hc r b' hb';exact⟨b,h4,fun v hv=>h5 _ _ _ _ hv⟩) h2 h3
end Go.Abs
namespace Go.Abs
open Go
abbrev aaW:=@Nat.le_of_ble_eq_true
theorem VLe.int {k:IntKind} {a b:Int} (h:a=b):VLe (.int k a) (.int k b):= .of_eq (by rw[h])
theorem VLe.str {a b:aaA} (h:a=b):VLe (.str a) (.str b):= .of_eq (by rw[h])
theorem VLe.bool {a b:Bool} (h:a=b):VLe (.bool a) (.bool b):= .of_eq (by rw[h])
theorem VLe.b16 {a b:BitVec 16} (h:a=b):VLe (.b16 a) (.b16 b):= .of_eq (by rw[h])
theorem BLe.cellsL {t:TypeId} {cs cs':List V} (h:eU cs cs'):BLe (.cells t cs) (.cells t cs'):= .cells h.len fun i _=>h.get i
theorem VLe.aggs {cs cs':List V} (h:eU cs cs'):VLe (.agg cs) (.agg cs'):= .agg h.len fun i _=>h.get i
theorem VLe.opt {c:Bool} {v v':V} (h:VLe v v'):VLe (.opt c v) (.opt c v'):=by
 rintro St w g x hx
 cases hx with
 |opt _ _ _ _ h1 h0=>exact .opt _ _ _ _ (fun hc=>h _ _ _ _ (h1 hc)) h0
section
variable {α:Type} {sz:Nat} {enc:α->List V} {d:α} {e:TypeId}
theorem VLe.L {l l':List α} (h:l=l'):VLe (vL sz enc d l) (vL sz enc d l'):= .of_eq (by rw[h])
theorem VLe.nilL :VLe .nils (vL sz enc d []):= .nils
theorem VLe.dropL {l:List α} {k:Nat}:VLe (.arr sz (l.length-k) (fun i j=>bY enc d l (i+k) j)) (vL sz enc d (l.drop k)):=
 .arr_eq (by simp) fun i j _ _=>by simp[bY,aaC,acC,agG]
theorem VLe.takeL {l:List α} {k:Nat} (h:k<=l.length):VLe (.arr sz k (bY enc d l)) (vL sz enc d (l.take k)):=
 .arr_eq (by simp;omega) fun i j hi _=>by simp[bY,aaC,hi]
theorem BLe.L {l l':List α} (h:l=l'):BLe (bL e sz enc d l) (bL e sz enc d l'):=by rw[h];exact .refl _
theorem flat_get {xs:List α} (hl:∀x,(enc x).length=sz):∀i j,i<xs.length->j<sz->(xs.flatMap enc).getD (i *sz+j) .any=(enc (xs.getD i d)).getD j .any:=by
 induction xs with
 |nil=>intro i j hi;simp at hi
 |cons x xs ih=>
  intro i j hi hj;rw[List.flatMap_cons]
  cases i with
  |zero=>simp only[Nat.zero_mul,abW,abK];rw[aaC,abU (by rw[hl];exact hj),<-aaC]
  |succ i=>
   have:(i+1) *sz+j=sz+(i *sz+j):=by rw[Nat.succ_mul];omega
   rw[this,aaC,abQ (by rw[hl];omega),hl,aeI,<-aaC,ih i j (by simpa using hi) hj,abP]
theorem BLe.lst (xs:List α) {n:Nat} {cs:List V} (hn:n=xs.length) (h:cs=xs.flatMap enc) (hl:∀x,(enc x).length=sz):BLe (.rows e sz n (dE sz cs)) (bL e sz enc d xs):=by
 subst h;refine .rows_eq hn fun i j hi hj=> ?_;unfold dE bY;exact flat_get hl i j (by omega) hj
end
section
variable {P:Program} {Q:Exit->S->Prop} {s:S}
theorem AWp.condAb {c:Operand} {x y:Code} (p:Bool->Prop) (hc:raw s.t c= .abool p) (h1:p true->AWp P x Q s) (h2:p false->AWp P y Q s):AWp P (.cond c x y) Q s:=fun z a w hs=>by
 obtain⟨St,gh,hW,hT,hKp⟩:=hs
 have:=jC hT c
 rw[hc]at this
 generalize hv:a.eval c=v at this
 cases this with
 |abool _ _ b h=>
  exact wpIn_cond_split hv (fun hb=>h1 (hb▸h) z a w ⟨St,gh,hW,hT,hKp⟩) (fun hb=>h2 (hb▸h) z a w ⟨St,gh,hW,hT,hKp⟩)
theorem AWp.loopL {c:Code} {α:Type} (inv:α->S) (pre:α->Prop) (μ:α->Nat) (x:α) (hs:Le s (inv x)) (hx:pre x)
  (round:∀x,pre x->AWp P c (zT (fun s'=>∃y,Le s' (inv y)/\pre y/\μ y<μ x) Q) (inv x)):AWp P (.loop c) Q s:=by
 refine .le hs ?_;intro z a w hs;refine wpIn_loop_ghost (fun n a w=>∃x,pre x/\μ x=n/\Sim z (inv x) a w) (μ x) ⟨x,hx,rfl,hs⟩ ?_;rintro n a w ⟨x,hx,rfl,hs⟩;refine wpIn_mono (round x hx z a w hs) fun e a' w' ⟨s',hq,hs'⟩=> ?_
 cases e with
 |normal=>
  obtain⟨y,hle,hy,hlt⟩:=hq
  exact⟨μ y,hlt,y,hy,rfl,hle z a' w' hs'⟩
 |_=>exact⟨s',hq,hs'⟩
def joinQ {α:Type} (inv:α->S) (pre:α->Prop) (Q:Exit->S->Prop):Exit->S->Prop
 | .normal,s=>∃y,Le s (inv y)/\pre y
 |e,s=>Q e s
theorem AWp.join {x y:Code} {α:Type} (inv:α->S) (pre:α->Prop) (h:AWp P x (joinQ inv pre Q) s) (h2:∀v,pre v->AWp P y Q (inv v)):AWp P (.seq x y) Q s:=fun z a w hs=>
 wpIn_seq (wpIn_mono (h z a w hs) fun e a' w' ⟨s',hq,hs'⟩=>by
  cases e with
  |normal=>
   obtain⟨v,hle,hp⟩:=hq
   exact h2 v hp z a' w' (hle z a' w' hs')
  |_=>exact⟨s',hq,hs'⟩)
theorem xB {α:Type} {inv:α->S} {pre:α->Prop} {Q:Exit->S->Prop} (y:α) (h:Le s (inv y)) (hp:pre y):joinQ inv pre Q .normal s:=⟨y,h,hp⟩
theorem aR {α:Type} {inv:α->S} {pre:α->Prop} {Q:Exit->S->Prop} (h:Q .ret s):joinQ inv pre Q .ret s:=h
theorem wX {α:Type} {inv:α->S} {pre:α->Prop} {m:Nat} {μ:α->Nat} {Q:Exit->S->Prop} (y:α) (h:Le s (inv y)) (hp:pre y) (hm:μ y<m):zT (fun s'=>∃y,Le s' (inv y)/\pre y/\μ y<m) Q .normal s:=⟨y,h,hp,hm⟩
end
def aG (P:Program) (f:FuncId) (gs:List (Nat×V)) (bk:List Nat) (h0:aJ) (args:List V) (r:V) (h1:aJ):Prop:=Spec P f gs bk h0 args (fun v h=>v=r/\h=h1)
theorem aG.body {P:Program} {f:FuncId} {fn:Func} {c:Code} {N:Nat} {h0:aJ} {args:List V} {r:V} {h1:aJ} (o:Nat) (gs:List (Nat×V)) (bk:List Nat) (hf:P.funcs[f]? =some fn) (hb:fn.body=some c) (hN:fn.ntmps=N) (hle:Nat.ble args.length N=true) (hG:Nat.ble N 1000000=true)
  (h:AWp P c (vT P fn bk (fun v h=>v=r/\h=h1)) ⟨N,kZ 0 args++sK gs,h0,bk,o⟩):aG P f gs bk h0 args r h1:=Spec.body o gs bk hf hb hN (aaW hle) (aaW hG) h
end Go.Abs
