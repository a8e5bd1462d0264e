/- Part 11 of the proof: AbsT, AbsV. -/
import Derived.Test.YtjgboohpholnbaaDoorTpagnZ10
import Derived.Laws.IdiomRangeMap
namespace Go.Abs
open Go Go.MapKept
section
variable {P:Program} {St:Nat→Prop} {w:World}
/-! ### An own map that turns no more -/
end
end Go.Abs
namespace Go.Abs
open Go
/-! ### Pure programs -/
def chk (p:Prop) [Decidable p] {α:Type} (k:Option α):Option α:=if p then k else none
theorem aB {p:Prop} [Decidable p] {α:Type} {k:Option α} {r:α} (h:chk p k=some r):p∧k=some r:=by
 unfold chk at h;split at h
 ·rename_i hp;exact⟨hp,h⟩
 ·cases h
theorem bind_ok {α β:Type} {x:Option α} {f:α→Option β} {r:β} (h:x.bind f=some r):∃y,x=some y∧f y=some r:=by
 cases x with
 |none=>cases h
 |some y=>exact⟨y,rfl,h⟩
def rI {α β:Type} [Inhabited α] (c:Bool) (x:Option α) (k:α→Option β):Option β:=if c then x.bind k else k default
theorem cP {α β:Type} [Inhabited α] {c:Bool} {x:Option α} {k:α→Option β} {r:β} (h:rI c x k=some r):∃y,(c=true→x=some y)∧k y=some r:=by
 unfold rI at h;split at h
 ·obtain⟨y,h1,h2⟩:=bind_ok h;exact⟨y,fun _=>h1,h2⟩
 ·rename_i hc;exact⟨default,fun h'=>absurd h' hc,h⟩
theorem fG {c:Prop} [Decidable c] {α:Type} {x y:Option α} {r:α} (hc:c) (h:(if c then x else y)=some r):x=some r:=by rwa [if_pos hc]at h
theorem fH {c:Prop} [Decidable c] {α:Type} {x y:Option α} {r:α} (hc:¬c) (h:(if c then x else y)=some r):y=some r:=by rwa [if_neg hc]at h
theorem aK {c:Bool} {α:Type} {x y:Option α} {r:α} (hc:c=true) (h:(if c then x else y)=some r):x=some r:=fG hc h
theorem aL {c:Bool} {α:Type} {x y:Option α} {r:α} (hc:c=false) (h:(if c then x else y)=some r):y=some r:=fH (by simp[hc]) h
def jn {α β:Type} (K:α→Option β) (x:(α→Option β)→Option β):Option β:=x K
theorem aU {α β:Type} {K:α→Option β} {x:(α→Option β)→Option β} {r:β} (h:jn K x=some r):∃K',K'=K∧x K'=some r:=⟨K,rfl,h⟩
def both {α:Type} [DecidableEq α] (x y:Option α):Option α:=if x=y then x else none
theorem uS {α:Type} [DecidableEq α] {x y:Option α} {r:α} (h:both x y=some r):x=some r∧y=some r:=by
 unfold both at h;split at h
 ·rename_i e;exact⟨h,e▸h⟩
 ·cases h
def abc {α:Type} [DecidableEq α] (q:Prop) [Decidable q] (x y:Option α):Option α:=if q then both x y else y
theorem abc_some {α:Type} [DecidableEq α] {q:Prop} [Decidable q] {x y:Option α} {r:α} (h:abc q x y=some r):(q→x=some r)∧y=some r:=by
 unfold abc at h;split at h
 ·exact⟨fun _=>(uS h).1,(uS h).2⟩
 ·rename_i hq;exact⟨fun h'=>absurd h' hq,h⟩
def bG :Nat:=18446744073709551616
/-! ### Rows as lists -/
def RL {α:Type} (sz:Nat) (enc:α→List V) (d:α) (n:Nat) (f:Nat→Nat→V) (l:List α):Prop:=n=l.length∧∀i j,i<n→j<sz→VLe (f i j) (cM enc d l i j)
section
variable {α:Type} {sz:Nat} {enc:α→List V} {d:α} {e:TypeId}
theorem RL.self (l:List α):RL sz enc d l.length (cM enc d l) l:=⟨rfl,fun _ _ _ _=> .refl _⟩
theorem RL.lst (xs:List α) {n:Nat} {cs:List V} (hn:n=xs.length) (h:cs=xs.flatMap enc) (hl:∀x,(enc x).length=sz):RL sz enc d n (fZ sz cs) xs:=by
 subst h;exact⟨hn,fun i j hi hj=> .of_eq (by unfold fZ cM;exact flat_get hl i j (by omega) hj)⟩
theorem RL.lstV (xs:List α) {n:Nat} {cs:List V} (hn:n=xs.length) (h:eQ cs (xs.flatMap enc)) (hl:∀x,(enc x).length=sz):RL sz enc d n (fZ sz cs) xs:=
 ⟨hn,fun i j hi hj=>(eQ.get h (i *sz+j)).trans (.of_eq (by unfold cM;exact flat_get hl i j (by omega) hj))⟩
theorem RL.rep (x:α) {n:Nat} {cs:List V} (h:cs=enc x):RL sz enc d n (repF cs) (List.replicate n x):=by
 subst h;exact⟨by simp,fun i j hi _=> .of_eq (by unfold repF cM;simp[List.getD_eq_getElem?_getD,hi])⟩
theorem RL.app {n m:Nat} {f f2:Nat→Nat→V} {l l2:List α} (h:RL sz enc d n f l) (h2:RL sz enc d m f2 l2):RL sz enc d (n+m) (kB n f f2) (l++l2):=by
 obtain⟨rfl,h⟩:=h;obtain⟨rfl,h2⟩:=h2;refine⟨by simp,fun i j hi hj=> ?_⟩;unfold kB;split
 ·rename_i hlt;exact(h i j hlt hj).trans (.of_eq (by simp[cM,List.getD_eq_getElem?_getD,List.getElem?_append,hlt]))
 ·rename_i hlt;exact(h2 (i-l.length) j (by omega) hj).trans (.of_eq (by simp[cM,List.getD_eq_getElem?_getD,List.getElem?_append,hlt]))
theorem RL.set {n i off:Nat} {f:Nat→Nat→V} {l:List α} {cs:List V} (x:α) (h:RL sz enc d n f l) (hx:∀j,j<sz→(if off≤j∧j<off+cs.length then cs.getD (j-off) .any else(enc (l.getD i d)).getD j .any)=(enc x).getD j .any):
  RL sz enc d n (yF f i off cs) (l.set i x):=by
 obtain⟨rfl,h⟩:=h;refine⟨by simp,fun a j ha hj=> ?_⟩;have hh:=h a j ha hj;unfold yF;by_cases e:a=i
 ·subst e;have h3:=hx j hj;have e2:cM enc d (l.set a x) a j=(enc x).getD j .any:=by simp[cM,List.getD_eq_getElem?_getD,ha]
  rw[e2,←h3];split
  ·rename_i h1;rw[if_pos ⟨h1.2.1,h1.2.2⟩];exact .refl _
  ·rename_i h1;rw[if_neg (fun h4=>h1 ⟨rfl,h4.1,h4.2⟩)];exact hh
 ·rw[if_neg (fun h4=>e h4.1)];exact hh.trans (.of_eq (by simp[cM,List.getD_eq_getElem?_getD,Ne.symm e]))
theorem RL.take {n k:Nat} {f:Nat→Nat→V} {l:List α} (h:RL sz enc d n f l) (hk:k≤n):RL sz enc d k f (l.take k):=by
 obtain⟨rfl,h⟩:=h;refine⟨by simp;omega,fun a j ha hj=> ?_⟩;exact(h a j (by omega) hj).trans (.of_eq (by simp[cM,List.getD_eq_getElem?_getD,ha]))
theorem RL.takeL {l:List α} {k:Nat} (h:k≤l.length):RL sz enc d k (cM enc d l) (l.take k):=
 ⟨by simp;omega,fun i j hi _=> .of_eq (by simp[cM,List.getD_eq_getElem?_getD,hi])⟩
theorem BLe.of {n:Nat} {f:Nat→Nat→V} {l:List α} (h:RL sz enc d n f l):BLe (.rows e sz n f) (bL e sz enc d l):= .rows h.1 h.2
theorem VLe.of {n:Nat} {f:Nat→Nat→V} {l:List α} (h:RL sz enc d n f l):VLe (.arr sz n f) (vL sz enc d l):= .arr h.1 h.2
end
/-! ### Other numbers -/
mutual
def V.ren (π:Nat→Nat):V→V
 | .own r=> .own (π r)
 | .ptr r o=> .ptr (π r) o
 | .oelem r sz i o=> .oelem (π r) sz i o
 | .osl r sz i o=> .osl (π r) sz i o
 | .agg cs=> .agg (V.renAll π cs)
 | .tup cs=> .tup (V.renAll π cs)
 | .fn f cs=> .fn f (V.renAll π cs)
 | .opt c v=> .opt c (V.ren π v)
 | .any=> .any
 | .bool b=> .bool b
 | .int k n=> .int k n
 | .b16 x=> .b16 x
 | .str l=> .str l
 | .nils=> .nils
 | .arr sz n f=> .arr sz n f
 | .elem sz n f i off=> .elem sz n f i off
 | .lit v=> .lit v
 | .abool p=> .abool p
 | .mp n kf vf=> .mp n kf vf
 | .tab k l=> .tab k l
 | .ifc b=> .ifc b
 | .opq=> .opq
def V.renAll (π:Nat→Nat):List V→List V
 |[]=>[]
 |v::l=>V.ren π v::V.renAll π l
end
theorem bH (π:Nat→Nat):∀l:List V,(V.renAll π l).length=l.length
 |[]=>rfl
 |_::l=>by simp[V.renAll,bH π l]
theorem eD (π:Nat→Nat):∀(l:List V) (i:Nat),(V.renAll π l).getD i .any=V.ren π (l.getD i .any)
 |[],i=>by simp[V.renAll,V.ren]
 |v::l,0=>by simp[V.renAll]
 |v::l,i+1=>by simpa[V.renAll]using eD π l i
mutual
theorem V.ren_ren {π:Nat→Nat} (hπ:∀k,π (π k)=k):∀v:V,(v.ren π).ren π=v
 | .own r=>by simp[V.ren,hπ]
 | .ptr r o=>by simp[V.ren,hπ]
 | .oelem r sz i o=>by simp[V.ren,hπ]
 | .osl r sz i o=>by simp[V.ren,hπ]
 | .agg cs=>by simp[V.ren,V.renAll_renAll hπ cs]
 | .tup cs=>by simp[V.ren,V.renAll_renAll hπ cs]
 | .fn f cs=>by simp[V.ren,V.renAll_renAll hπ cs]
 | .opt c v=>by simp[V.ren,V.ren_ren hπ v]
 | .any| .bool _| .int _ _| .b16 _| .str _| .nils| .arr _ _ _| .elem _ _ _ _ _| .lit _| .abool _| .mp _ _ _| .tab _ _| .ifc _| .opq=>by simp[V.ren]
theorem V.renAll_renAll {π:Nat→Nat} (hπ:∀k,π (π k)=k):∀l:List V,V.renAll π (V.renAll π l)=l
 |[]=>rfl
 |v::l=>by simp[V.renAll,V.ren_ren hπ v,V.renAll_renAll hπ l]
end
theorem Rel.ren {St:Nat→Prop} {w:World} {π:Nat→Nat}:∀{g:Gh} {v:V} {x:Value},Rel St w g v x→∀{g':Gh},(∀k,g' (π k)=g k)→Rel St w g' (v.ren π) x:=by
 intro g v x h
 induction h with
 |any g x=>intro _ _;exact .any _ x
 |bool g b=>intro _ _;exact .bool _ b
 |int g k n=>intro _ _;exact .int _ k n
 |b16 g x=>intro _ _;exact .b16 _ x
 |str g l s h=>intro _ _;exact .str _ l s h
 |agg g cs vs hl h ih=>intro g' hg;exact .agg _ _ vs (by rw[bH];exact hl) fun i hi=>by rw[eD];exact ih i (by rwa [bH]at hi) hg
 |tup g cs vs hl h ih=>intro g' hg;exact .tup _ _ vs (by rw[bH];exact hl) fun i hi=>by rw[eD];exact ih i (by rwa [bH]at hi) hg
 |nils g=>intro _ _;exact .nils _
 |arr0 g sz f=>intro _ _;exact .arr0 _ sz f
 |arrE g sz f a=>intro _ _;exact .arrE _ sz f a
 |arr g sz n f b o cap x hcap hmax hs hc h1 hr ih=>intro _ _;exact .arr _ sz n f b o cap x hcap hmax hs hc h1 hr
 |elem g sz n f i off b o x hi hs hc h1 hr ih=>intro _ _;exact .elem _ sz n f i off b o x hi hs hc h1 hr
 |own g k v h h1=>intro g' hg;exact .own _ _ v (by rw[hg k];exact h) h1
 |ptr g k off b h=>intro g' hg;exact .ptr _ _ off b (by rw[hg k];exact h)
 |oelem g k sz i off b n cap h=>intro g' hg;exact .oelem _ _ sz i off b n cap (by rw[hg k];exact h)
 |osl g k sz i off b n cap h=>intro g' hg;exact .osl _ _ sz i off b n cap (by rw[hg k];exact h)
 |fn g f cs vs hl h ih=>intro g' hg;exact .fn _ f _ vs (by rw[bH];exact hl) fun i hi=>by rw[eD];exact ih i (by rwa [bH]at hi) hg
 |lit g x=>intro _ _;exact .lit _ x
 |opt g c v x h h0 ih=>intro g' hg;exact .opt _ c _ x (fun hc=>ih hc hg) h0
 |abool g p b h=>intro _ _;exact .abool _ p b h
 |mp g n kf vf b es hs ho hn hb hk hv=>intro _ _;exact .mp _ n kf vf b es hs ho hn hb hk hv
 |tab g k l b t fr hs ho=>intro _ _;exact .tab _ k l b t fr hs ho
 |ifc g b x h=>intro _ _;exact .ifc _ b x h
 |opq g x h=>intro _ _;exact .opq _ x h
def Blk.ren (π:Nat→Nat):Blk→Blk
 | .cells t cs=> .cells t (V.renAll π cs)
 | .rows e sz n f=> .rows e sz n f
 | .iter n kf vf seen=> .iter n kf vf seen
 | .siter l pos=> .siter l pos
 | .mapB n kf vf=> .mapB n kf vf
 | .mapI n kf o ho hq=> .mapI n kf (o.map π) ho (hq.map π)
 | .fam e sz n m f ho=> .fam e sz n m f ho
 | .yld o k=> .yld (fQ (!((fY o).all fun i=>Nat.beq (π i) i)) o) k
def Blk.renOk (π:Nat→Nat):Blk→Bool
 | .yld o _=>(fY o).all fun i=>Nat.beq (π i) i
 |_=>true
theorem Blk.ren_ren {π:Nat→Nat} (hπ:∀k,π (π k)=k) (b:Blk) (hb:b.renOk π=true):(b.ren π).ren π=b:=by
 cases b with
 |yld o k=>
  have e:Blk.ren π (.yld o k)= .yld o k:=by
   have hb':((fY o).all fun i=>Nat.beq (π i) i)=true:=hb;simp only[Blk.ren,hb',fQ,Bool.not_true,Bool.false_eq_true,if_false]
  rw[e,e]
 |mapI n kf o ho hq=>cases o<;>cases hq<;>simp[Blk.ren,hπ]
 |_=>simp[Blk.ren,V.renAll_renAll hπ]
def hren (π:Nat→Nat) (h:aG):aG:=h.map fun p=>(π p.1,p.2.ren π)
def tren (π:Nat→Nat) (t:List (Nat×V)):List (Nat×V):=t.map fun p=>(p.1,p.2.ren π)
theorem inj_of {π:Nat→Nat} (hπ:∀k,π (π k)=k) {a b:Nat} (h:π a=π b):a=b:=by rw[←hπ a,h,hπ]
theorem mK {π:Nat→Nat} (hπ:∀k,π (π k)=k) (k:Nat):∀h:aG,aG.get (hren π h) k=(aG.get h (π k)).map (Blk.ren π)
 |[]=>rfl
 |(a,b)::h=>by
  have ih:=mK hπ k h
  unfold hren at ih⊢
  simp only[List.map_cons,aG.get]
  by_cases hk:π a=k
  ·rw[if_pos hk,if_pos (by rw[←hk,hπ])];rfl
  ·rw[if_neg hk,if_neg (fun e=>hk (by rw[e,hπ])),ih]
theorem wJ (π:Nat→Nat) (k:Nat):∀t:List (Nat×V),cF (tren π t) k=(cF t k).ren π
 |[]=>rfl
 |(a,v)::t=>by
  have ih:=wJ π k t
  unfold tren at ih⊢
  simp only[List.map_cons,cF]
  split
  ·rfl
  ·exact ih
theorem hren_hren {π:Nat→Nat} (hπ:∀k,π (π k)=k) (h:aG) (hok:h.all (fun p=>p.2.renOk π)=true):hren π (hren π h)=h:=by
 unfold hren;rw[List.map_map]
 conv=>rhs;rw[←List.map_id h]
 refine List.map_congr_left fun p hp=> ?_;simp[hπ,Blk.ren_ren hπ p.2 (List.all_eq_true.1 hok p hp)]
theorem cJ.ren {St:Nat→Prop} {w:World} {π:Nat→Nat} {g g':Gh} {v:Value} {b:Blk} (h:cJ St w g v b) (hg:∀k,g' (π k)=g k):cJ St w g' v (b.ren π):=by
 cases b with
 |cells t cs=>
  obtain⟨b,vals,rfl,hh,hl,hr,h1⟩:=h;refine⟨b,vals,rfl,hh,by rw[bH];exact hl,fun i hi=> ?_,fun i hi=>h1 i (by rwa [bH]at hi)⟩;rw[eD]
  exact(hr i (by rwa [bH]at hi)).ren hg
 |rows e sz n f=>exact h
 |iter=>exact h
 |siter=>exact h
 |mapB=>exact h
 |fam=>exact h
 |mapI n kf o hole hq=>
  obtain⟨bb,es,h1,h2,h3,h4,h5,h6,h8⟩:=h;refine⟨bb,es,h1,h2,h3,h4,h5,fun r hr=> ?_,fun r hr=> ?_⟩
  ·cases o with
   |none=>cases hr
   |some q=>
    cases hr;obtain⟨a,ha,h7⟩:=h6 q rfl;exact⟨a,by rw[hg q];exact ha,h7⟩
  ·cases hq with
   |none=>cases hr
   |some q=>
    cases hr
    rw[hg q];exact h8 q rfl
 |yld o k=>
  obtain⟨l,r,h1,h2,h3⟩:=h;refine⟨l,r,h1,h2, ?_⟩;unfold fQ;split
  ·trivial
  ·rename_i hc;refine h3.mono (fun _ h=>h) (fun _ _=>rfl) fun i hi=> ?_;have hall:((fY o).all fun i=>Nat.beq (π i) i)=true:=by simpa using hc
   have:=Nat.eq_of_beq_eq_true (List.all_eq_true.1 hall i hi);rw[←hg i,this]
theorem WSim.ren {z:Start} {St:Nat→Prop} {π:Nat→Nat} (hπ:∀k,π (π k)=k) {g:Gh} {h:aG} {w:World} (hs:WSim z St g h w):WSim z St (fun k=>g (π k)) (hren π h) w:=by
 have hg:∀k,(fun k=>g (π k)) (π k)=g k:=fun k=>by simp[hπ]
 refine⟨hs.frm,hs.st0,hs.st1, ?_, ?_, ?_⟩
 ·intro r b v hb hv k hk;rw[mK hπ,Option.map_eq_some_iff]at hb;obtain⟨b0,hb0,rfl⟩:=hb;exact hs.ow (π r) b0 v hb0 hv k hk
 ·intro r b hb;rw[mK hπ,Option.map_eq_some_iff]at hb;obtain⟨b0,hb0,rfl⟩:=hb;obtain⟨v,hv,hok⟩:=hs.ok (π r) b0 hb0;exact⟨v,hv,hok.ren hg⟩
 ·intro r r' b b' v v' hb hb' hv hv' hne k hk;rw[mK hπ,Option.map_eq_some_iff]at hb hb';obtain⟨b0,hb0,rfl⟩:=hb;obtain⟨b1,hb1,rfl⟩:=hb';exact hs.sep (π r) (π r') b0 b1 v v' hb0 hb1 hv hv' (fun e=>hne (inj_of hπ e)) k hk
theorem Le.ren {s:S} (π:Nat→Nat) (hπ:∀k,π (π k)=k) (hb:s.b.all (fun k=>Nat.beq (π k) k)=true):Le s ⟨s.N,tren π s.t,hren π s.h,s.b,s.o⟩:=by
 rintro z a w ⟨St,g,hW,hT,hK⟩;refine⟨St,fun k=>g (π k),hW.ren hπ,⟨hT.1,hT.2.1,fun d=> ?_⟩,hK.to (fun _ h=>h) (fun _ _=>rfl) rfl (fun r hr=> ?_)⟩
 ·rw[wJ];exact(hT.2.2 d).ren (fun k=>by simp[hπ])
 ·have:=Nat.eq_of_beq_eq_true (List.all_eq_true.1 hb r hr);show g (π r)=_;rw[this]
theorem aF.ren {P:Program} {f:FuncId} {gs:List (Nat×V)} {bk:List Nat} {h0:aG} {args:List V} {r:V} {h1:aG} (π:Nat→Nat) (hπ:∀k,π (π k)=k) (hok:h0.all (fun p=>p.2.renOk π)=true) (h:aF P f gs bk h0 args r h1):
  aF P f (gs.map fun p=>(p.1,p.2.ren π)) (bk.map π) (hren π h0) (V.renAll π args) (r.ren π) (hren π h1):=by
 intro z vals hW hl ha hgs;let z0:Start:={z with g:=fun k=>z.g (π k)}
 have hW0:WSim z0 z0.St z0.g h0 z0.w:=by
  have:=hW.ren hπ;rw[hren_hren hπ h0 hok]at this;exact⟨this.frm,this.st0,this.st1,this.ow,this.ok,this.sep⟩
 have hg:∀k,z0.g (π k)=z.g k:=fun k=>by show z.g (π (π k))=_;rw[hπ]
 refine(h z0 vals hW0 (by rw[bH]at hl;exact hl) (fun i hi=> ?_) (fun p hp=> ?_)).mono ?_
 ·have:=(ha i (by rw[bH];exact hi)).ren hg;rw[eD,V.ren_ren hπ]at this;exact this
 ·have:=(hgs (p.1,p.2.ren π) (List.mem_map.2 ⟨p,hp,rfl⟩)).ren hg;rw[V.ren_ren hπ]at this;exact this
 ·rintro e w' ⟨x,r',h1',St',g',rfl,⟨rfl,rfl⟩,hW',hrx,hkeep⟩;have hg':∀k,(fun k=>g' (π k)) (π k)=g' k:=fun k=>by simp[hπ]
  refine⟨x,_,_,St',fun k=>g' (π k),rfl,⟨rfl,rfl⟩, ?_,hrx.ren hg',fun k hk=> ?_⟩
  ·have:=hW'.ren hπ;exact⟨this.frm,this.st0,this.st1,this.ow,this.ok,this.sep⟩
  ·obtain⟨k0,hk0,rfl⟩:=List.mem_map.1 hk;show g' (π (π k0))=_;rw[hπ,hkeep k0 hk0]
theorem aF.pre {P:Program} {f:FuncId} {gs:List (Nat×V)} {bk:List Nat} {h0 h0':aG} {args args':List V} {r:V} {h1:aG} (h:aF P f gs bk h0' args' r h1) (hl:args'.length=args.length) (hG:Nat.ble args.length 1000000=true) (hc:gs.all (fun p=>p.2.closed)=true)
  (hle:Le ⟨args.length,iB 0 args++oS gs,h0,bk,0⟩ ⟨args.length,iB 0 args'++oS gs,h0',bk,0⟩):aF P f gs bk h0 args r h1:=by
 have hG:args.length≤G0:=Nat.le_of_ble_eq_true hG;intro z1 vals hW1 hlv hr hgs;let z:Start:={z1 with ro:=none}
 have hW:WSim z z.St z.g h0 z.w:=⟨hW1.frm,hW1.st0,hW1.st1,hW1.ow,hW1.ok,hW1.sep⟩
 have hsim:Sim z ⟨args.length,iB 0 args++oS gs,h0,bk,0⟩ {tmps:=vals,defers:=[]} z.w:=by
  refine⟨z.St,z.g,hW,⟨⟨trivial,by simp;omega⟩,hlv,fun d=> ?_⟩,⟨fun _ _=>rfl,⟨[],.nil,rfl,fun D hD=>by cases hD⟩,fun _ h=>(by cases h),fun _=>rfl⟩⟩;rw[iX];by_cases hd:d<args.length
  ·rw[gR];simp only[Nat.zero_le,if_true,Nat.sub_zero];rw[if_pos (gI.2 hd),pV,if_pos (by omega)];exact hr d hd
  ·rw[if_neg (fun h=>hd (gI.1 h))];exact nG hgs d
 obtain⟨St',g',hW',hT',hK'⟩:=hle z _ _ hsim;let z2:Start:={z1 with St:=St',g:=g'}
 have hW2:WSim z2 z2.St z2.g h0' z2.w:=⟨hW'.frm,fun _ h=>h,fun k hk=>⟨(hW'.st1 k hk).1,.inl hk⟩,hW'.ow,hW'.ok,hW'.sep⟩;have hrel:∀d,Rel St' z1.w g' (cF (iB 0 args'++oS gs) d) (pV {tmps:=vals,defers:=[]} d):=hT'.2.2;refine(h z2 vals hW2 (hlv.trans hl.symm) (fun i hi=> ?_) (fun p hp=> ?_)).mono ?_
 ·have:=hrel i;have hiG:i<G0:=by omega
  rw[iX,if_pos (gI.2 hi),gR,pV,if_pos hiG]at this;simpa using this
 ·exact(((hgs p hp).closed (List.all_eq_true.1 hc p hp) g').mono hW'.st0 fun _ _=>rfl)
 ·rintro e w' ⟨x,r',h1',St2,g2,rfl,⟨rfl,rfl⟩,hW3,hrx,hkeep⟩;refine⟨x,_,_,St2,g2,rfl,⟨rfl,rfl⟩,⟨hW3.frm,fun k hk=>hW3.st0 k (hW'.st0 k hk),fun k hk=>⟨(hW3.st1 k hk).1, ?_⟩,hW3.ow,hW3.ok,hW3.sep⟩,hrx,fun k hk=>(hkeep k hk).trans (hK'.1 k hk)⟩;rcases(hW3.st1 k hk).2 with h4|h4|h4
  ·exact(hW'.st1 k h4).2
  ·exact .inr (.inl h4)
  ·exact .inr (.inr h4)
theorem Le.nilOwnC {s:S} (q i r:Nat) (e sz:Nat) (f:Nat→Nat→V) {t:TypeId} {cs:List V} (hq:s.h.get q=some (.cells t cs)) (hn:cs.getD i .any= .nils)
  (hf:(kU r s.t&&aG.fresh r (s.h.del r)&& !s.b.contains r&&(s.h.get r).isNone&&Nat.ble (i+1) cs.length)=true):
  Le s ⟨s.N,s.t,(q,.cells t (cs.set i (.own r)))::((r,.rows e sz 0 f)::s.h.del r),s.b,s.o⟩:=by
 rintro z a w ⟨St,g,hW,hT,hK⟩;simp only[Bool.and_eq_true,Bool.not_eq_true',Option.isNone_iff_eq_none,List.contains_eq_mem,decide_eq_false_iff_not]at hf;obtain⟨⟨⟨⟨h1,h2⟩,h3⟩,h4⟩,h5⟩:=hf;have hilt:i<cs.length:=Nat.le_of_ble_eq_true h5;have hqr:q≠r:=fun e=>by subst e;rw[hq]at h4;cases h4
 have hW1:WSim z St (g.set r (.slice none 0 0)) ((r,.rows e sz 0 f)::s.h.del r) w:=
  hW.change (ro:=none) (fun k hk=>by cases hk) rfl rfl rfl (Nat.le_refl _) (fun _ _ _=>rfl) (.inl h2) (fun k hk=>by simp[bK,bC]at hk) ⟨[],World.ownsRow_nil w 0 e sz,fun i j hi=>by omega,by simp⟩
 refine⟨St,g.set r (.slice none 0 0),hW1.less fun k b hb=> ?_, ?_,hK.set h3 _ (fun _ _=>rfl) rfl⟩
 ·by_cases e:k=q
  ·subst e;have hb':b= .cells t (cs.set i (.own r)):=by simpa[aG.get]using hb.symm
   subst hb';refine⟨.cells t cs,by simp[aG.get,Ne.symm hqr,aG.get_del,hqr,hq],fun v hv=> ?_⟩;obtain⟨b,vals,rfl,hh,hl,hr,ho⟩:=hv;refine⟨b,vals,rfl,hh,by simpa using hl,fun j hj=> ?_,fun j hj=>ho j (by simpa using hj)⟩;have hj':j<cs.length:=by simpa using hj
   by_cases e2:i=j
   ·subst e2;have h6:=hr i hj';rw[hn]at h6;rw[h6.nils_inv];have h7:(cs.set i (.own r)).getD i .any= .own r:=by simp[List.getD_eq_getElem?_getD,hj']
    rw[h7];exact .own _ _ _ (by simp[Gh.set]) rfl
   ·have h7:(cs.set i (.own r)).getD j .any=cs.getD j .any:=by simp[List.getD_eq_getElem?_getD,List.getElem?_set_ne e2]
    rw[h7];exact hr j hj'
  ·refine⟨b,by simpa[aG.get,Ne.symm e]using hb,fun _ h=>h⟩
 ·exact hT.change (fun _ _=>rfl) (fun k hk=>Gh.set_ne hk) (.inl h1)
def aW (a b k:Nat):Nat:=bif Nat.beq k a then b else bif Nat.beq k b then a else k
theorem aE (a b:Nat):∀k,aW a b (aW a b k)=k:=by
 intro k;unfold aW;cases h1:Nat.beq k a
 ·cases h2:Nat.beq k b
  ·simp[h1,h2]
  ·have:=Nat.eq_of_beq_eq_true h2;simp only[cond_false,cond_true,Nat.beq_refl];exact this.symm
 ·have:=Nat.eq_of_beq_eq_true h1;simp only[cond_true,Nat.beq_refl];cases h3:Nat.beq b a
  ·simp only[cond_false];exact this.symm
  ·have:=Nat.eq_of_beq_eq_true h3;simp only[cond_true];omega
end Go.Abs
