/- Part 30 of the proof: Ent54r, Map54, MonDr, MonFr1, MonFr2, MonFr3, MonR4, MonGr, MonR1, Open6, Open13, MonR5, Aw54R, MonR. -/
import Derived.Test.YtfkhgbcggabkjaaGreatDoorMonrepZ29
import Derived.Lib.SplitLaws
import Derived.Lib.ItoaLen
import Derived.Lib.ItoaMem
namespace Go.Abs
abbrev abY:=@List.drop_zero
abbrev adA:=@Bool.false_and
abbrev adB:=@List.foldl_append
abbrev adJ:=@List.not_mem_nil
abbrev adR:=@List.find?_append
abbrev aeN:=@Int.le_refl
abbrev aeW:=@List.drop_succ_cons
abbrev afI:=@Bool.true_or
abbrev afL:=@List.take_succ_cons
abbrev afM:=@List.find?_eq_none
abbrev agD:=@List.any_append
abbrev agO:=@List.drop_left
abbrev agV:=@Nat.lt_irrefl
def badB (b:UInt8):Bool:=decide (((b.toNat:Nat):Int)<33)||decide (((b.toNat:Nat):Int)>126)
def gr (s:aaA) (n:Int):Bool:= !s.any badB&&(!(s==[])&&decide (((s.length:Nat):Int)<=n))
theorem gr_ne {s:aaA} {n:Int} (h:gr s n=true):(s==[])=false:=by
 unfold gr at h;cases hs:s==[]
 ·rfl
 ·rw[hs]at h;simp at h
theorem f219_eq (s:aaA) (n:Int) (hs:s.length<=9223372036854775807):f219 s n=some (gr s n):=by
 simp only[f219,jn]
 rw [aB1 (fun k n => fU s _ k n) s 0 badB (some false) _ (fun k n hn=>by
  show fU s _ (k+1) n=_
  conv=>lhs;unfold fU
  rw[aM (by omega),aA (by omega),aA (fun _=>by omega)];show(if badB (s.getD n 0)=true then some false else _)=_
  rw [aA (by omega)]) (fun k=>by
  show fU s _ (k+1) _=_
  conv=>lhs;unfold fU
  rw[aK (by omega)]) aY (fuel_lt (by omega))]
 unfold gr;cases s.any badB<;>simp
theorem f178_eq (s:aaA) (n:Int) (hs:s.length<=9223372036854775807):f178 s n=some (gr s n):=by
 simp only[f178,jn]
 rw [aB1 (fun k n => fW s _ k n) s 0 badB (some false) _ (fun k n hn=>by
  show fW s _ (k+1) n=_
  conv=>lhs;unfold fW
  rw[aM (by omega),aA (by omega),aA (fun _=>by omega)];show(if badB (s.getD n 0)=true then some false else _)=_
  rw [aA (by omega)]) (fun k=>by
  show fW s _ (k+1) _=_
  conv=>lhs;unfold fW
  rw[aK (by omega)]) aY (fuel_lt (by omega))]
 have e:decide (((s.length:Nat):Int)>=1)= !(s==[]):=by
  cases s<;>simp<;>omega
 unfold gr;rw[e];cases s.any badB<;>simp
def fld (s:aaA) (b:Bool):Bool:=if b then gr s 64 else s==[]
theorem aAB (s:aaA) (b:Bool) (hs:s.length<=9223372036854775807):f206 s b=some (fld s b):=by
 unfold f206 fld;cases b
 ·rfl
 ·rw[f219_eq s 64 hs];rfl
def kd (k:Int):aaA×Bool×Bool×Bool:=
 if k=1 then([112,117,116],true,false,true)else if k=2 then([103,101,116],true,false,false)else if k=3 then(cs6,true,false,false)else
 if k=4 then(cs7,true,false,true)else if k=5 then([99,97,115],true,true,true)else if k=6 then(cs8,false,false,false)else([],false,false,false)
def isK (k:Int):Bool:=decide (1<=k)&&decide (k<=6)
def hY (k:Int) (a b c:aaA):Bool:=isK k&&fld a (kd k).2.1&&fld b (kd k).2.2.1&&fld c (kd k).2.2.2
theorem kinds (k:Int):k=1\/k=2\/k=3\/k=4\/k=5\/k=6\/isK k=false:=by
 unfold isK;by_cases h1:1<=k
 ·by_cases h2:k<=6
  ·omega
  ·simp[h1,h2]
 ·simp[h1]
theorem nD {k:Int} (h:isK k=false):k≠1/\k≠2/\k≠3/\k≠4/\k≠5/\k≠6:=by
 refine⟨?_, ?_, ?_, ?_, ?_, ?_⟩<;>(rintro rfl;cases h)
theorem hasM31 (k:Int):aAk bV k=isK k:=by
 rcases kinds k with rfl|rfl|rfl|rfl|rfl|rfl|h
 iterate 6 rfl
 rw[h];obtain⟨h1,h2,h3,h4,h5,h6⟩:=nD h;simp[aAk,bV,lA,h1,h2,h3,h4,h5,h6]
theorem getM31 (k:Int):nG bV bQ (default:Tq8) ([],false,false,false) k=kd k:=by
 rcases kinds k with rfl|rfl|rfl|rfl|rfl|rfl|h
 iterate 6 rfl
 obtain⟨h1,h2,h3,h4,h5,h6⟩:=nD h;simp[nG,bV,lA,kd,h1,h2,h3,h4,h5,h6]
theorem vG (k:Int) (a b c:aaA) (ha:a.length<=9223372036854775807) (hb:b.length<=9223372036854775807) (hc:c.length<=9223372036854775807):
  f185 k a b c=some ((kd k).1,(kd k).2.1,(kd k).2.2.1,(kd k).2.2.2,hY k a b c):=by
 unfold f185 f182 hY;rw[aC,hasM31,getM31,aAB a _ ha,aAB b _ hb,aAB c _ hc];cases isK k<;>cases fld a (kd k).2.1<;>cases fld b (kd k).2.2.1<;>cases fld c (kd k).2.2.2<;>rfl
def txt (k:Int) (a b c:aaA):aaA:=(kd k).1++(if a==[]then[]else 32::a)++(if b==[]then[]else 32::b)++(if c==[]then[]else 32::c)
theorem kd_len (k:Int):(kd k).1.length<=6:=by
 rcases kinds k with rfl|rfl|rfl|rfl|rfl|rfl|h
 iterate 6 decide
 obtain⟨h1,h2,h3,h4,h5,h6⟩:=nD h;simp[kd,h1,h2,h3,h4,h5,h6]
theorem tF {s:aaA} {n:Int} (h:gr s n=true):(s.length:Int)<=n:=by
 unfold gr at h;simp only[aaL,abA]at h;exact h.2.2
theorem aAo {s:aaA} {b:Bool} (h:fld s b=true):s.length<=64:=by
 unfold fld at h;cases b
 ·simp at h;subst h;simp
 ·have:=tF h;omega
theorem aA9 {k:Int} {a b c:aaA} (h:hY k a b c=true):a.length<=64/\b.length<=64/\c.length<=64:=by
 unfold hY at h;simp only[aaL]at h;exact⟨aAo h.1.1.2,aAo h.1.2,aAo h.2⟩
theorem fuel_succ :∃k,aY=k+5:=⟨aY-5,by unfold aY;omega⟩
theorem aCu {l:List Ty0} {r:aaA} (h:Lib.join l [32]=r) (h1:r.length<=140737488355328) (h2:l.length<=140737488355328):joinP l [32]=some r:=by
 unfold joinP;rw[h,if_pos ⟨h1,h2⟩]
theorem f184_eq (k:Int) (a b c:aaA) (ha:a.length<=9223372036854775807) (hb:b.length<=9223372036854775807) (hc:c.length<=9223372036854775807):
  f184 k a b c=some (if hY k a b c=true then(txt k a b c,0)else([],1)):=by
 unfold f184;rw[vG k a b c ha hb hc,aC];have hlen:= @aA9 k a b c;revert hlen;cases hY k a b c
 ·intro _;rfl
 intro hlen;have hlen:=hlen rfl;have hk:=kd_len k;simp only[acS,abL,if_false,if_true];obtain⟨q,hq⟩:=fuel_succ;simp only[jn];rw[hq];generalize hw:(kd k).1=w at hk
 have step:∀K,lU a b c K (q+5) (0,[w])=K ([w]++(if a==[]then[]else[a])++(if b==[]then[]else[b])++(if c==[]then[]else[c])):=by
  intro K;cases ha:a==[]<;>cases hb:b==[]<;>cases hc:c==[]<;>simp[lU,ha,hb,hc,chk,jn]
 rw[step];unfold f205
 have hj:Lib.join ([w]++(if a==[]then[]else[a])++(if b==[]then[]else[b])++(if c==[]then[]else[c])) [32]=txt k a b c:=by
  unfold txt;rw[hw];cases ha:a==[]<;>cases hb:b==[]<;>cases hc:c==[]<;>simp[Lib.join,List.intercalate]
 have hl:(txt k a b c).length<=140737488355328:=by
  unfold txt;rw[hw];cases ha:a==[]<;>cases hb:b==[]<;>cases hc:c==[]<;>simp<;>omega
 rw[aCu hj hl (by cases ha:a==[]<;>cases hb:b==[]<;>cases hc:c==[]<;>simp)];rfl
theorem f114_eq (k:Int):f114 k=some (kd k).1:=by
 rcases kinds k with rfl|rfl|rfl|rfl|rfl|rfl|h
 iterate 6 rfl
 have h0:=h;unfold isK at h0
 have h':(decide (k<1)||decide (k>6))=true:=by
  simp only[Bool.and_eq_false_iff,aeJ,abT,abA]at h0⊢;omega
 obtain⟨h1,h2,h3,h4,h5,h6⟩:=nD h;unfold f114;rw[if_pos h'];simp[kd,h1,h2,h3,h4,h5,h6]
theorem kd_ne (k:Int):((kd k).1==[])= !isK k:=by
 rcases kinds k with rfl|rfl|rfl|rfl|rfl|rfl|h
 iterate 6 rfl
 obtain⟨h1,h2,h3,h4,h5,h6⟩:=nD h;simp[kd,h,h1,h2,h3,h4,h5,h6]
theorem vK (k:Int) (a b c:aaA) (ha:a.length<=9223372036854775807) (hb:b.length<=9223372036854775807) (hc:c.length<=9223372036854775807):
  f115 k a b c=some (if hY k a b c=true then(txt k a b c,0)else([],1)):=by
 have e38:∀s:aaA,s.length<=9223372036854775807->f148 s=some (gr s 64):=fun s hs=>by unfold f148;rw[f178_eq s 64 hs];rfl
 unfold f115;rw[f114_eq,aC,e38 a ha,e38 b hb,e38 c hc,kd_ne];have na:= @gr_ne a 64;have nb:= @gr_ne b 64;have nc:= @gr_ne c 64;have hk:=kd_len k;unfold hY fld txt;have la:= @tF a 64;have lb:= @tF b 64;have lc:= @tF c 64;generalize ga:gr a 64=va at *;generalize gb:gr b 64=vb at *;generalize gc:gr c 64=vc at *;generalize ea:(a==[])=wa at *;generalize eb:(b==[])=wb at *;generalize ec:(c==[])=wc at *;rcases kinds k with rfl|rfl|rfl|rfl|rfl|rfl|h
 iterate 6
  cases va<;>cases vb<;>cases vc<;>cases wa<;>cases wb<;>cases wc<;>first|(exfalso;simp at na;done)|(exfalso;simp at nb;done)|(exfalso;simp at nc;done)|(simp[eO,chk,isK,kd,jn,cs8,cs6,cs7];done)|(simp[eO,chk,isK,kd,jn,cs6,cs7];simp at la lb lc;omega)|(simp[eO,chk,isK,kd,jn,aC,cs8,cs6,cs7];simp at la lc;omega)|(simp[eO,chk,isK,kd,jn,aC,cs8,cs6,cs7];simp at la;omega)
 ·rw[h];rfl
def spl :aaA->List Ty0
 |[]=>[[]]
 |c::l=>if c=32 then[]::spl l else match spl l with
  |[]=>[[c]]
  |w::r=>(c::w)::r
theorem wG (l:aaA):∃w r,spl l=w::r:=by
 cases l with
 |nil=>exact⟨_,_,rfl⟩
 |cons c l=>
  unfold spl;split
  ·exact⟨_,_,rfl⟩
  ·split<;>exact⟨_,_,rfl⟩
theorem kM {c:UInt8} {l w:aaA} {r:List Ty0} (hc:c≠32) (h:spl l=w::r):spl (c::l)=(c::w)::r:=by
 conv=>lhs;unfold spl
 rw[if_neg hc,h]
theorem spl_sp (l:aaA):spl (32::l)=[]::spl l:=rfl
theorem wF :∀l:aaA,Lib.split l [32]=spl l
 |[]=>by
  unfold Lib.split
  rw[Lib.count_one];rfl
 |b::l=>by
  have ih:=wF l
  have hp:([32]:aaA).isPrefixOf (b::l)=(b==32):=by simp[List.isPrefixOf,BEq.comm]
  by_cases h:b=32
  ·subst h
   have hix:Lib.index (32::l) [32]=0:=by rw[Lib.index];simp[List.isPrefixOf]
   have hc:Lib.count (32::l) [32]=Lib.count l [32]+1:=by rw[Lib.count_cons_eq];omega
   unfold Lib.split at ih⊢
   rw[hc]
   unfold Lib.splitK
   rw[hix,if_neg (by decide),spl_sp,<-ih]
   rfl
  ·have hix:Lib.index (b::l) [32]=if Lib.index l [32]== -1 then-1 else Lib.index l [32]+1:=by
    rw[Lib.index,hp];simp[h]
   have hc:Lib.count (b::l) [32]=Lib.count l [32]:=Lib.count_cons_ne b 32 l h
   unfold Lib.split at ih⊢
   rw[hc]
   by_cases hm:Lib.index l [32]= -1
   ·rw[Lib.count_miss hm]at ih⊢
    rw[kM h ih.symm]
    rfl
   ·have hge:=Lib.index_ge l [32]
    obtain⟨j,hj⟩:∃j:Nat,Lib.index l [32]=j:=⟨(Lib.index l [32]).toNat,by omega⟩
    obtain⟨m,hm'⟩:∃m,Lib.count l [32]=m+1:=⟨Lib.count (l.drop (j+([32]:aaA).length)) [32],by rw[Lib.count_hit (by simp) hj];omega⟩
    rw[hm']at ih⊢
    unfold Lib.splitK at ih⊢
    have hm1:¬(Lib.index l [32]== -1)=true:=by simpa using hm
    rw[hix,if_neg hm1]
    rw[if_neg hm1]at ih
    rw[kM h ih.symm,if_neg (by simp;omega)]
    have e1:(Lib.index l [32]+1).toNat+0=(Lib.index l [32]).toNat+0+1:=by omega
    have e2:(Lib.index l [32]+1).toNat+[32].length=(Lib.index l [32]).toNat+([32]:aaA).length+1:=by simp;omega
    rw[e1,afL]
    congr 1
    have e2':(Lib.index l [32]+1).toNat+([32]:aaA).length=((Lib.index l [32]).toNat+([32]:aaA).length)+1:=by simp;omega
    rw[e2',aeW]
theorem lJ :∀(l:aaA) (w:aaA),w∈spl l->w.length<=l.length
 |[],w,h=>by
  simp[spl]at h;subst h;exact aaY _
 |c::l,w,h=>by
  by_cases hc:c=32
  ·subst hc
   rw[spl_sp]at h
   rcases abC.1 h with rfl|h
   ·exact abM _
   ·have:=lJ l w h;simp;omega
  ·obtain⟨v,r,hv⟩:=wG l
   rw[kM hc hv]at h
   rcases abC.1 h with rfl|h
   ·have:=lJ l v (by rw[hv];exact aaV ..);simp;omega
   ·have:=lJ l w (by rw[hv];exact aaU _ h);simp;omega
def noSp (w:aaA):Prop:=∀c,c∈w->c≠32
theorem aA3 :∀(w:aaA),noSp w->spl w=[w]
 |[],_=>rfl
 |c::w,h=>kM (h c (aaV ..)) (aA3 w fun d hd=>h d (aaU _ hd))
theorem spl_app :∀(w l:aaA),noSp w->spl (w++32::l)=w::spl l
 |[],_l,_=>rfl
 |c::w,l,h=>kM (h c (aaV ..)) (spl_app w l fun d hd=>h d (aaU _ hd))
theorem gr_sp {s:aaA} {n:Int} (h:gr s n=true):noSp s:=by
 rintro c hc rfl;unfold gr at h;have:s.any badB=true:=afH.2 ⟨32,hc,by decide⟩;rw[this]at h;cases h
theorem kd_sp (k:Int):noSp (kd k).1:=by
 have:∀c,c∈(kd k).1->(c==32)=false:=by
  have:(kd k).1.all (fun c=> !(c==32))=true:=by
   rcases kinds k with rfl|rfl|rfl|rfl|rfl|rfl|h
   iterate 6 rfl
   obtain⟨h1,h2,h3,h4,h5,h6⟩:=nD h;simp[kd,h1,h2,h3,h4,h5,h6]
  intro c hc;simpa using aaX.1 this c hc
 intro c hc e;have:=this c hc;simp[e]at this
theorem f113_eq (x:aaA) (hx:x.length<=1000000):f113 x=some (spl x):=by
 have main:∀(K:List Ty0->Option (List Ty0)) (c k n b:Nat) (l:List Ty0) (w:aaA) (r:List Ty0),n+c=x.length->b<=n->c+1<k->l.length<=n->spl (x.drop n)=w::r->
   iG x K k (b,n,l)=K (l++(((x.take n).drop b++w)::r)):=by
  intro K c
  induction c with
  |zero=>
   intro k n b l w r hn hb hk hl hs;obtain⟨k,rfl⟩:∃q,k=q+2:=⟨k-2,by omega⟩;obtain rfl:n=x.length:=by omega
   rw[abF (aaY _)]at hs;cases hs
   conv=>lhs;unfold iG
   rw[aM (by omega),bG,aA (fun h=>by simp at h)];have e:(((x.length:Nat):Int)==((x.length:Nat):Int)||(((x.getD x.length 0).toNat:Nat):Int)==32)=true:=by simp
   rw[if_pos e,aA (by omega),aA (by omega),aA (by omega)];simp only[];rw[aA (by omega)]
   conv=>lhs;unfold iG
   rw[aK (by omega)]
   simp
  |succ c ih=>
   intro k n b l w r hn hb hk hl hs;obtain⟨k,rfl⟩:∃q,k=q+1:=⟨k-1,by omega⟩;have hlt:n<x.length:=by omega
   rw[getD_drop x n 0 hlt]at hs
   conv=>lhs;unfold iG
   rw[aM (by omega),bG,aA (fun _=>by omega)];have e0:(((n:Nat):Int)==((x.length:Nat):Int))=false:=by simp;omega
   rw[e0,adG]
   have et:(x.take (n+1))=x.take n++[x.getD n 0]:=by
    rw[agU];simp[aaC,hlt]
   by_cases hc:x.getD n 0=32
   ·rw[hc,spl_sp]at hs;obtain⟨w',r',hw'⟩:=wG (x.drop (n+1));rw[hw']at hs;cases hs;rw[if_pos (by rw[hc];rfl),aA (by omega),aA (by omega),aA (by omega)];simp only[];rw[aA (by omega),ih k (n+1) (n+1) _ w' r' (by omega) (aaY _) (by omega) (by simp;omega) hw'];congr 1;rw[abF (show(x.take (n+1)).length<=n+1 by rw[abE];omega)];simp
   ·have hc' : (x.getD n 0).toNat ≠ 32 := fun h => hc (by
     apply UInt8.toNat.inj;rw[h];rfl)
    rw[if_neg (by simp only[abZ];omega)];simp only[];obtain⟨w',r',hw'⟩:=wG (x.drop (n+1));rw[kM hc hw']at hs;cases hs;rw[aA (by omega),ih k (n+1) b _ w' r (by omega) (by omega) (by omega) (by omega) hw'];congr 2;rw[et,List.drop_append_of_le_length (by simp;omega)];simp
 obtain⟨w,r,hw⟩:=wG x;unfold f113;simp only[jn];rw[main _ x.length aY 0 0 [] w r (by omega) (aaY _) (by unfold aY;omega) (aaY _) (by simpa using hw)];rw[hw];simp
abbrev OpR :=Int×aaA×aaA×aaA×Int
theorem nextO_of {R:Type} [DecidableEq R] {n:Nat} {seen:List Nat} {K:Nat->Option R} {E:Option R} {r:R} (h1:∀j,j<n->j∉seen->K j=some r) (h2:(∀j,j<n->j∈seen)->E=some r):aCr n seen K E=some r:=by
 have hm:∀j,j∈(List.range n).filter (fun j=> !seen.contains j)↔j<n/\j∉seen:=by
  intro j;rw[adX,adN];simp
 unfold aCr;split
 ·rename_i he;refine h2 fun j hj=>Decidable.byContradiction fun hs=> ?_;have:=(hm j).2 ⟨hj,hs⟩;rw[he]at this;cases this
 ·rename_i l hl
  have hall:∀y,y∈((List.range n).filter (fun j=> !seen.contains j)).map K->y=some r:=by
   intro y hy;obtain⟨j,hj,rfl⟩:=adL.1 hy;have:=(hm j).1 hj;exact h1 j this.1 this.2
  revert hall;generalize(List.range n).filter (fun j=> !seen.contains j)=l at hl;intro hall
  cases l with
  |nil=>exact absurd rfl hl
  |cons a l=>
   simp only[abS,agree];rw[hall (K a) (aaV ..),if_pos];rw[aaX];intro y hy;exact abN (hall y (aaU _ hy))
def tk (b:Bool) (l:List Ty0):aaA×List Ty0:=if(!b||l.length==0)=true then([],l)else(l.getD 0 [],l.drop 1)
theorem aAE (b:Bool) (l:List Ty0):f183 b l=some (tk b l):=by
 unfold f183 tk;cases b
 ·rfl
 ·cases l with
  |nil=>rfl
  |cons a l=>
   simp[chk];rw[if_neg (by omega),if_pos (by omega)]
theorem tk_len (b:Bool) (l:List Ty0) (m:Nat) (h:∀w,w∈l->w.length<=m):(tk b l).1.length<=m/\∀w,w∈(tk b l).2->w.length<=m:=by
 unfold tk;split
 ·exact⟨abM _,h⟩
 ·cases l with
  |nil=>exact⟨abM _,fun w hw=>by simp at hw⟩
  |cons a l=>exact⟨h a (aaV ..),fun w hw=>h w (aaU _ (by simpa using hw))⟩
def zP (x:aaA) (l:List Ty0) (j:Nat):Option OpR:=
 let v:=bQ.getD j (default:Tq8)
 if v.1==l.getD 0 []then
  let r7:=tk v.2.1 (l.drop 1);let r8:=tk v.2.2.1 r7.2;let r9:=tk v.2.2.2 r8.2
  if hY (bV.getD j 0) r7.1 r8.1 r9.1&&(txt (bV.getD j 0) r7.1 r8.1 r9.1==x)then some (bV.getD j 0,r7.1,r8.1,r9.1,0)else none
 else none
theorem f152_step (x:aaA) (K:Unit->Option OpR) (k:Nat) (l:List Ty0) (seen:List Nat) (m:Nat) (hm:m<=1000000) (h0:0<l.length) (hl:∀w,w∈l->w.length<=m):
  gN x K (k+1) (l,seen)=aCr 6 seen (fun j=>match zP x l j with|some r=>some r|none=>gN x K k (l,seen++[j])) (K ()):=by
 have h6:bV.length=6:=rfl
 conv=>lhs;unfold gN
 rw[h6];congr 1;funext j;rw[aA (by omega)];unfold zP;simp only[];cases hw:(bQ.getD j (default:Tq8)).1==l.getD 0 []
 ·rfl
 ·simp only[acS,abL,if_false,if_true];rw[aA (by omega),aAE,aC,aAE,aC,aAE,aC];obtain⟨a1,a2⟩:=tk_len (bQ.getD j (default:Tq8)).2.1 (l.drop 1) m (fun w hw=>hl w (acQ hw));generalize tk (bQ.getD j (default:Tq8)).2.1 (l.drop 1)=r7 at *;obtain⟨b1,b2⟩:=tk_len (bQ.getD j (default:Tq8)).2.2.1 r7.2 m a2;generalize tk (bQ.getD j (default:Tq8)).2.2.1 r7.2=r8 at *;obtain⟨c1,c2⟩:=tk_len (bQ.getD j (default:Tq8)).2.2.2 r8.2 m b2;generalize tk (bQ.getD j (default:Tq8)).2.2.2 r8.2=r9 at *;rw[f184_eq _ _ _ _ (by omega) (by omega) (by omega),aC];cases hY (bV.getD j 0) r7.1 r8.1 r9.1
  ·rfl
  ·simp only[if_true,acK,beq_self_eq_true];cases txt (bV.getD j 0) r7.1 r8.1 r9.1==x<;>rfl
theorem vH (x:aaA) (K:Unit->Option OpR) (l:List Ty0) (m:Nat) (hm:m<=1000000) (h0:0<l.length) (hl:∀w,w∈l->w.length<=m) (r:OpR) (S:Nat->Prop)
  (h1:∀j,j<6->S j->zP x l j=some r) (h2:∀j,j<6->¬S j->zP x l j=none) (h3:(∀j,j<6->¬S j)->K ()=some r):
  ∀k seen,seen.Nodup->(∀j,j∈seen->j<6/\¬S j)->6<k+seen.length->gN x K k (l,seen)=some r
 |0,seen,hn,hs,hk=>by
  have:seen.length<=(List.range 6).length:=hn.length_le_of_subset fun j hj=>adN.2 (hs j hj).1
  simp at this
  omega
 |k+1,seen,hn,hs,hk=>by
  rw[f152_step x K k l seen m hm h0 hl]
  refine nextO_of (fun j hj hns=> ?_) fun hall=>h3 fun j hj=>(hs j (hall j hj)).2
  by_cases hS:S j
  ·rw[h1 j hj hS]
  ·rw[h2 j hj hS]
   refine vH x K l m hm h0 hl r S h1 h2 h3 k (seen++[j]) ?_ ?_ (by simp;omega)
   ·rw[agT]
    exact⟨hn,by simp,fun a ha b hb=>by rintro rfl;simp at hb;subst hb;exact hns ha⟩
   ·intro i hi
    rcases abR.1 hi with hi|hi
    ·exact hs i hi
    ·simp at hi;subst hi;exact⟨hj,hS⟩
def aBj (a b c:aaA):List Ty0:=(if a==[]then[]else[a])++(if b==[]then[]else[b])++(if c==[]then[]else[c])
theorem fld_sp {s:aaA} {b:Bool} (h:fld s b=true):noSp s:=by
 unfold fld at h;cases b
 ·simp at h;subst h;intro c hc;cases hc
 ·exact gr_sp h
theorem spl_txt {k:Int} {a b c:aaA} (h:hY k a b c=true):spl (txt k a b c)=(kd k).1::aBj a b c:=by
 unfold hY at h;simp only[aaL]at h;obtain⟨⟨⟨h0,h1⟩,h2⟩,h3⟩:=h;have s0:=kd_sp k;have s1:=fld_sp h1;have s2:=fld_sp h2;have s3:=fld_sp h3;unfold txt aBj;cases a==[]<;>cases b==[]<;>cases c==[]<;>simp[spl_app,aA3,s0,s1,s2,s3,acD]
theorem f181_eq (x:aaA) (hx:x.length<=1000000):f181 x [32]=some (spl x):=by
 unfold f181 aA2;simp only[];rw[if_pos (by omega),wF]
theorem vY {s:aaA} (h:fld s true=true):(s==[])=false:=gr_ne h
theorem vZ {s:aaA} (h:fld s false=true):s=[]:=by simpa[fld]using h
theorem okOp_kd {k:Int} {a b c:aaA} (h:hY k a b c=true):isK k=true/\fld a (kd k).2.1=true/\fld b (kd k).2.2.1=true/\fld c (kd k).2.2.2=true:=by
 unfold hY at h;simp only[aaL]at h;exact⟨h.1.1.1,h.1.1.2,h.1.2,h.2⟩
set_option maxHeartbeats 1000000 in
theorem tryP_hit {k:Int} {a b c:aaA} (h:hY k a b c=true):∃j0,j0<6/\zP (txt k a b c) (spl (txt k a b c)) j0=some (k,a,b,c,0)/\∀j,j<6->j≠j0->zP (txt k a b c) (spl (txt k a b c)) j=none:=by
 rw[spl_txt h];obtain⟨h0,h1,h2,h3⟩:=okOp_kd h
 have nope:∀(w:aaA) (l:List Ty0) j,((bQ.getD j (default:Tq8)).1==w)=false->zP (txt k a b c) (w::l) j=none:=by
  intro w l j hj;unfold zP;simp only[abK];rw[hj];rfl
 rcases kinds k with rfl|rfl|rfl|rfl|rfl|rfl|hn
 ·refine⟨0,by decide, ?_,fun j hj hne=>nope _ _ j ?_⟩
  ·obtain rfl:=vZ h2;have e1:=vY h1;have e3:=vY h3;simp[zP,aBj,e1,e3,tk,bQ,bV,kd,h]
  ·match j,hj,hne with|1,_,_=>rfl|2,_,_=>rfl|3,_,_=>rfl|4,_,_=>rfl|5,_,_=>rfl
 ·refine⟨1,by decide, ?_,fun j hj hne=>nope _ _ j ?_⟩
  ·obtain rfl:=vZ h2;obtain rfl:=vZ h3;have e1:=vY h1;simp[zP,aBj,e1,tk,bQ,bV,kd,h]
  ·match j,hj,hne with|0,_,_=>rfl|2,_,_=>rfl|3,_,_=>rfl|4,_,_=>rfl|5,_,_=>rfl
 ·refine⟨2,by decide, ?_,fun j hj hne=>nope _ _ j ?_⟩
  ·obtain rfl:=vZ h2;obtain rfl:=vZ h3;have e1:=vY h1;simp[zP,aBj,e1,tk,bQ,bV,kd,h]
  ·match j,hj,hne with|0,_,_=>rfl|1,_,_=>rfl|3,_,_=>rfl|4,_,_=>rfl|5,_,_=>rfl
 ·refine⟨3,by decide, ?_,fun j hj hne=>nope _ _ j ?_⟩
  ·obtain rfl:=vZ h2;have e1:=vY h1;have e3:=vY h3;simp[zP,aBj,e1,e3,tk,bQ,bV,kd,h]
  ·match j,hj,hne with|0,_,_=>rfl|1,_,_=>rfl|2,_,_=>rfl|4,_,_=>rfl|5,_,_=>rfl
 ·refine⟨4,by decide, ?_,fun j hj hne=>nope _ _ j ?_⟩
  ·have e1:=vY h1;have e2:=vY h2;have e3:=vY h3;simp[zP,aBj,e1,e2,e3,tk,bQ,bV,kd,h]
  ·match j,hj,hne with|0,_,_=>rfl|1,_,_=>rfl|2,_,_=>rfl|3,_,_=>rfl|5,_,_=>rfl
 ·refine⟨5,by decide, ?_,fun j hj hne=>nope _ _ j ?_⟩
  ·obtain rfl:=vZ h1;obtain rfl:=vZ h2;obtain rfl:=vZ h3;simp[zP,aBj,tk,bQ,bV,kd,h]
  ·match j,hj,hne with|0,_,_=>rfl|1,_,_=>rfl|2,_,_=>rfl|3,_,_=>rfl|4,_,_=>rfl|5,_,hne=>exact absurd rfl hne
 ·rw[hn]at h0;cases h0
theorem uG (x:aaA):0<(spl x).length:=by
 obtain⟨w,r,h⟩:=wG x;rw[h];exact Nat.succ_pos _
def NoOp (x:aaA):Prop:=∀k a b c,hY k a b c=true->txt k a b c≠x
theorem tryP_none {x:aaA} (h:NoOp x) (l:List Ty0) (j:Nat):zP x l j=none:=by
 unfold zP;simp only[];split
 ·split
  ·rename_i h';simp only[aaL,abZ]at h';exact absurd h'.2 (h _ _ _ _ h'.1)
  ·rfl
 ·rfl
theorem f152_hit {k:Int} {a b c:aaA} (h:hY k a b c=true) (hx:(txt k a b c).length<=1000000):f152 (txt k a b c)=some (k,a,b,c,0):=by
 obtain⟨j0,hj0,h1,h2⟩:=tryP_hit h;unfold f152 f182;rw[f181_eq _ hx,aC];simp only[jn,aC];exact vH _ _ _ _ hx (uG _) (lJ _) _ (fun j=>j=j0) (fun j _ e=>e▸h1) (fun j hj e=>h2 j hj e) (fun hall=>absurd rfl (hall j0 hj0)) aY [] List.nodup_nil (fun j hj=>by cases hj) (by unfold aY;simp)
theorem f152_miss {x:aaA} (h:NoOp x) (hx:x.length<=1000000):f152 x=some (0,[],[],[],2):=by
 unfold f152 f182;rw[f181_eq _ hx,aC];simp only[jn,aC];exact vH _ _ _ _ hx (uG _) (lJ _) _ (fun _=>False) (fun j _ e=>e.elim) (fun j hj e=>tryP_none h _ _) (fun _=>rfl) aY [] List.nodup_nil (fun j hj=>by cases hj) (by unfold aY;simp)
def zO (x:aaA) (l:List Ty0) (n:Nat):Option OpR:=
 if l.getD 0 []==(kd n).1 then
  let a:=l.getD 1 []
  let b:=if n=5 then l.getD 2 []else[]
  let c:=if n=5 then l.getD 3 []else l.getD 2 []
  if hY n a b c&&(txt n a b c==x)then some ((n:Int),a,b,c,0)else none
 else none
theorem getD_len (l:List Ty0) (i m:Nat) (hl:∀w,w∈l->w.length<=m):(l.getD i []).length<=m:=by
 by_cases h:i<l.length
 ·rw[aaC,aaO h];exact hl _ (acU ..)
 ·rw[aaC,adT (by omega)];exact abM _
theorem getD_out (l:List Ty0) (i:Nat) (h:¬i<l.length):l.getD i []=[]:=by
 rw[aaC,adT (by omega)];rfl
set_option maxHeartbeats 1000000 in
theorem f84_step (x:aaA) (l:List Ty0) (K:Unit->Option OpR) (k n m:Nat) (hm:m<=1000000) (h0:0<l.length) (hl:∀w,w∈l->w.length<=m) (hn:n<=6):
  gX x l K (k+1) n=match zO x l n with|some r=>some r|none=>gX x l K k (n+1):=by
 have hg:=fun i=>getD_len l i m hl;have ho:=getD_out l
 conv=>lhs;unfold gX
 rw[aM (by omega),bG,f114_eq,aC,aA (by omega),aA (by omega),aA (by omega)];unfold zO;cases hw:l.getD 0 []==(kd n).1
 ·rfl
 ·simp only[acS,abL,if_false,if_true,jn]
  have fin:∀a b c:aaA,a.length<=m->b.length<=m->c.length<=m->((f115 n a b c).bind fun(r9:aaA×Int)=>if((r9.2==(0:Int))&&(r9.1==x))=true then some ((n:Int),a,b,c,(0:Int))else gX x l K k (n+1))=
    match(if hY n a b c&&(txt n a b c==x)then some ((n:Int),a,b,c,(0:Int))else none)with|some r=>some r|none=>gX x l K k (n+1):=by
   intro a b c ha hb hc;rw[vK _ _ _ _ (by omega) (by omega) (by omega),aC];cases hY n a b c
   ·rfl
   ·cases h:txt n a b c==x<;>simp[h]
  by_cases h5:n=5
  ·subst h5;by_cases l1:1<l.length
   ·by_cases l2:2<l.length
    ·by_cases l3:3<l.length
     ·rw[aM (by omega),aA (by omega),aA l1,if_pos (by simp;omega),aA (by omega),aA l2,if_neg (by simp),if_pos (by simp;omega),aA (by omega),aA l3];exact fin _ _ _ (hg _) (hg _) (hg _)
     ·rw[aM (by omega),aA (by omega),aA l1,if_pos (by simp;omega),aA (by omega),aA l2,if_neg (by simp),if_neg (by simp;omega),ho 3 l3];exact fin _ _ _ (hg _) (hg _) (abM _)
    ·rw[aM (by omega),aA (by omega),aA l1,if_neg (by simp;omega),if_neg (by simp),if_neg (by simp;omega),ho 2 l2,ho 3 (by omega)];exact fin _ _ _ (hg _) (abM _) (abM _)
   ·rw[aK (by omega),if_neg (by simp;omega),if_neg (by simp),if_neg (by simp;omega),ho 1 l1,ho 2 (by omega),ho 3 (by omega)];exact fin _ _ _ (abM _) (abM _) (abM _)
  ·have e5:((n:Int)==5)=false:=by simp;omega
   have e5':((n:Int) !=5)=true:=by simp;omega
   rw[if_neg h5,if_neg h5,e5,e5'];simp only[adA,acK,abL,if_false];by_cases l1:1<l.length
   ·by_cases l2:2<l.length
    ·rw[aM (by omega),aA (by omega),aA l1,aM (by omega),aA (by omega),aA l2];exact fin _ _ _ (hg _) (abM _) (hg _)
    ·rw[aM (by omega),aA (by omega),aA l1,aK (by omega),ho 2 l2];exact fin _ _ _ (hg _) (abM _) (abM _)
   ·rw[aK (by omega),aK (by omega),ho 1 l1,ho 2 (by omega)];exact fin _ _ _ (abM _) (abM _) (abM _)
theorem f84_end (x:aaA) (l:List Ty0) (K:Unit->Option OpR) (k:Nat):gX x l K (k+1) 7=K ():=by
 conv=>lhs;unfold gX
 rw[aK (by omega)]
theorem aAs (x:aaA) (l:List Ty0) (K:Unit->Option OpR) (m:Nat) (hm:m<=1000000) (h0:0<l.length) (hl:∀w,w∈l->w.length<=m) (r:OpR) (S:Nat->Prop)
  (h1:∀j,1<=j->j<=6->S j->zO x l j=some r) (h2:∀j,1<=j->j<=6->¬S j->zO x l j=none) (h3:(∀j,1<=j->j<=6->¬S j)->K ()=some r):
  ∀c k n,n+c=7->c<k->1<=n->(∀j,1<=j->j<n->¬S j)->gX x l K k n=some r
 |0,k,n,hn,hk,h1n,hs=>by
  obtain⟨k,rfl⟩:∃q,k=q+1:=⟨k-1,by omega⟩
  obtain rfl:n=7:=by omega
  rw[f84_end]
  exact h3 fun j a b=>hs j a (by omega)
 |c+1,k,n,hn,hk,h1n,hs=>by
  obtain⟨k,rfl⟩:∃q,k=q+1:=⟨k-1,by omega⟩
  rw[f84_step x l K k n m hm h0 hl (by omega)]
  by_cases hS:S n
  ·rw[h1 n h1n (by omega) hS]
  ·rw[h2 n h1n (by omega) hS]
   refine aAs x l K m hm h0 hl r S h1 h2 h3 c k (n+1) (by omega) (by omega) (by omega) fun j hj hjn=> ?_
   by_cases e:j=n
   ·rw[e];exact hS
   ·exact hs j hj (by omega)
theorem tryR_none {x:aaA} (h:NoOp x) (l:List Ty0) (j:Nat):zO x l j=none:=by
 unfold zO;simp only[];generalize(if j=5 then l.getD 2 []else[])=b;generalize(if j=5 then l.getD 3 []else l.getD 2 [])=c;split
 ·split
  ·rename_i h';simp only[aaL,abZ]at h';exact absurd h'.2 (h _ _ _ _ h'.1)
  ·rfl
 ·rfl
set_option maxHeartbeats 1000000 in
theorem tryR_hit {k:Int} {a b c:aaA} (h:hY k a b c=true):∃j0,1<=j0/\j0<=6/\zO (txt k a b c) (spl (txt k a b c)) j0=some (k,a,b,c,0)/\∀j,1<=j->j<=6->j≠j0->zO (txt k a b c) (spl (txt k a b c)) j=none:=by
 rw[spl_txt h];obtain⟨h0,h1,h2,h3⟩:=okOp_kd h
 have nope:∀(w:aaA) (l:List Ty0) (j:Nat),(w==(kd j).1)=false->zO (txt k a b c) (w::l) j=none:=by
  intro w l j hj;unfold zO;simp only[abK];rw[hj];rfl
 rcases kinds k with rfl|rfl|rfl|rfl|rfl|rfl|hn
 ·refine⟨1,by decide,by decide, ?_,fun j h1 hj hne=>nope _ _ j ?_⟩
  ·obtain rfl:=vZ h2;have e1:=vY h1;have e3:=vY h3;have h':hY (1:Nat) a [] c=true:=h;simp[zO,aBj,e1,e3,kd,h]
  ·match j,h1,hj,hne with|2,_,_,_=>rfl|3,_,_,_=>rfl|4,_,_,_=>rfl|5,_,_,_=>rfl|6,_,_,_=>rfl
 ·refine⟨2,by decide,by decide, ?_,fun j h1 hj hne=>nope _ _ j ?_⟩
  ·obtain rfl:=vZ h2;obtain rfl:=vZ h3;have e1:=vY h1;simp[zO,aBj,e1,kd,h]
  ·match j,h1,hj,hne with|1,_,_,_=>rfl|3,_,_,_=>rfl|4,_,_,_=>rfl|5,_,_,_=>rfl|6,_,_,_=>rfl
 ·refine⟨3,by decide,by decide, ?_,fun j h1 hj hne=>nope _ _ j ?_⟩
  ·obtain rfl:=vZ h2;obtain rfl:=vZ h3;have e1:=vY h1;simp[zO,aBj,e1,kd,h]
  ·match j,h1,hj,hne with|1,_,_,_=>rfl|2,_,_,_=>rfl|4,_,_,_=>rfl|5,_,_,_=>rfl|6,_,_,_=>rfl
 ·refine⟨4,by decide,by decide, ?_,fun j h1 hj hne=>nope _ _ j ?_⟩
  ·obtain rfl:=vZ h2;have e1:=vY h1;have e3:=vY h3;simp[zO,aBj,e1,e3,kd,h]
  ·match j,h1,hj,hne with|1,_,_,_=>rfl|2,_,_,_=>rfl|3,_,_,_=>rfl|5,_,_,_=>rfl|6,_,_,_=>rfl
 ·refine⟨5,by decide,by decide, ?_,fun j h1 hj hne=>nope _ _ j ?_⟩
  ·have e1:=vY h1;have e2:=vY h2;have e3:=vY h3;simp[zO,aBj,e1,e2,e3,kd,h]
  ·match j,h1,hj,hne with|1,_,_,_=>rfl|2,_,_,_=>rfl|3,_,_,_=>rfl|4,_,_,_=>rfl|6,_,_,_=>rfl
 ·refine⟨6,by decide,by decide, ?_,fun j h1 hj hne=>nope _ _ j ?_⟩
  ·obtain rfl:=vZ h1;obtain rfl:=vZ h2;obtain rfl:=vZ h3;simp[zO,aBj,kd,h]
  ·match j,h1,hj,hne with|1,_,_,_=>rfl|2,_,_,_=>rfl|3,_,_,_=>rfl|4,_,_,_=>rfl|5,_,_,_=>rfl|6,_,_,hne=>exact absurd rfl hne
 ·rw[hn]at h0;cases h0
theorem f84_hit {k:Int} {a b c:aaA} (h:hY k a b c=true) (hx:(txt k a b c).length<=1000000):f84 (txt k a b c)=some (k,a,b,c,0):=by
 obtain⟨j0,hj0,hj1,h1,h2⟩:=tryR_hit h;unfold f84;rw[f113_eq _ hx,aC];simp only[jn];exact aAs _ _ _ _ hx (uG _) (lJ _) _ (fun j=>j=j0) (fun j _ _ e=>e▸h1) (fun j a b e=>h2 j a b e) (fun hall=>absurd rfl (hall j0 hj0 hj1)) 6 aY 1 (by omega) (by unfold aY;omega) (by omega) (fun j a b=>by omega)
theorem f84_miss {x:aaA} (h:NoOp x) (hx:x.length<=1000000):f84 x=some (0,[],[],[],2):=by
 unfold f84;rw[f113_eq _ hx,aC];simp only[jn];exact aAs _ _ _ _ hx (uG _) (lJ _) _ (fun _=>False) (fun j _ _ e=>e.elim) (fun j _ _ e=>tryR_none h _ _) (fun _=>rfl) 6 aY 1 (by omega) (by unfold aY;omega) (by omega) (fun j a b=>by omega)
theorem txt_len {k:Int} {a b c:aaA}:a.length<=(txt k a b c).length/\b.length<=(txt k a b c).length/\c.length<=(txt k a b c).length:=by
 unfold txt;cases ha:a==[]<;>cases hb:b==[]<;>cases hc:c==[]<;>simp at ha hb hc<;>simp[*]<;>omega
abbrev Pr :=aaA×aaA×Int
abbrev less (a b:aaA):Bool:=Op.bytesLess a b
theorem fR :∀a,less a a=false
 |[]=>rfl
 |a::x=>by
  show(decide (a<a)||(a==a&&less x x))=false
  rw[fR x];simp
theorem aBd (a:aaA):less a []=false:=by cases a<;>rfl
theorem nA :∀{a b c:aaA},less a b=true->less b c=true->less a c=true
 |a,[],_,h,_=>by rw[aBd]at h;cases h
 |_,b::y,[],_,h=>by rw[aBd]at h;cases h
 |[],_::_,_::_,_,_=>rfl
 |a::x,b::y,c::z,h1,h2=>by
  have g1:(decide (a<b)||(a==b&&less x y))=true:=h1
  have g2:(decide (b<c)||(b==c&&less y z))=true:=h2
  clear h1 h2
  show(decide (a<c)||(a==c&&less x z))=true
  simp only[abT,aaL,abA,abZ,UInt8.lt_iff_toNat_lt]at g1 g2⊢
  rcases g1 with k1|⟨e1,k1⟩
  ·rcases g2 with k2|⟨e2,k2⟩
   ·left;omega
   ·left;rw[<-e2];exact k1
  ·rcases g2 with k2|⟨e2,k2⟩
   ·left;rw[e1];exact k2
   ·exact .inr ⟨e1.trans e2,nA k1 k2⟩
theorem tD :∀a b:aaA,less a b=true\/a=b\/less b a=true
 |[],[]=> .inr (.inl rfl)
 |[],_::_=> .inl rfl
 |_::_,[]=> .inr (.inr rfl)
 |a::x,b::y=>by
  show(decide (a<b)||(a==b&&less x y))=true\/_\/(decide (b<a)||(b==a&&less y x))=true
  simp only[abT,aaL,abA,abZ,UInt8.lt_iff_toNat_lt]
  by_cases h:a=b
  ·subst h
   rcases tD x y with h|h|h
   ·exact .inl (.inr ⟨rfl,h⟩)
   ·exact .inr (.inl (by rw[h]))
   ·exact .inr (.inr (.inr ⟨rfl,h⟩))
  ·have:a.toNat≠b.toNat:=fun e=>h (UInt8.toNat.inj e)
   by_cases h1:a.toNat<b.toNat
   ·exact .inl (.inl h1)
   ·exact .inr (.inr (.inl (by omega)))
theorem nB {a b:aaA} (h:less a b=true):less b a=false:=by
 cases h':less b a
 ·rfl
 ·have:=nA h h';rw[fR]at this;cases this
theorem jF {a b:aaA} (h:less a b=true):(a==b)=false:=by
 cases e:a==b
 ·rfl
 ·have:=eq_of_beq e;subst this;rw[fR]at h;cases h
theorem vP :∀a b:aaA,Lib.compareBytes a b=if less a b=true then-1 else if a=b then 0 else 1
 |[],[]=>rfl
 |[],_::_=>rfl
 |_::_,[]=>rfl
 |a::x,b::y=>by
  show(if a<b then(-1:Int)else if b<a then 1 else Lib.compareBytes x y)=if(decide (a<b)||(a==b&&less x y))=true then-1 else _
  by_cases h:a<b
  ·simp[h]
  ·by_cases h2:b<a
   ·have:a≠b:=by rintro rfl;simp at h2
    simp[h,h2,this]
   ·have e:a=b:=by
     apply UInt8.toNat.inj
     simp only[UInt8.lt_iff_toNat_lt]at h h2
     omega
    subst e
    rw[if_neg h,if_neg h2,vP x y]
    simp
abbrev Srtd (l:List Pr):Prop:=l.Pairwise (fun p q=>less p.1 q.1=true)
def okp (p:Pr):Prop:=gr p.1 64=true/\gr p.2.1 256=true/\1<=p.2.2/\p.2.2<=1000000000000
structure StV (l:List Pr):Prop where
 len:l.length<=64
 each:∀p,p∈l->okp p
 srt:Srtd l
theorem StV.nil :StV []:=⟨by simp,by simp,.nil⟩
inductive View (l:List Pr) (k:aaA):Prop
 |hit (A C:List Pr) (v:aaA) (n:Int) (h:l=A++(k,v,n)::C) (hA:∀a,a∈A->less a.1 k=true) (hC:∀c,c∈C->less k c.1=true):View l k
 |miss (A C:List Pr) (h:l=A++C) (hA:∀a,a∈A->less a.1 k=true) (hC:∀c,c∈C->less k c.1=true):View l k
theorem view :∀(l:List Pr) (k:aaA),Srtd l->View l k
 |[],k,_=> .miss [] [] rfl (by simp) (by simp)
 |(x,v,n)::l,k,h=>by
  obtain⟨h1,h2⟩:=adO.1 h
  rcases tD x k with hx|rfl|hx
  ·cases view l k h2 with
   |hit A C v' n' e hA hC=>exact .hit ((x,v,n)::A) C v' n' (by rw[e];rfl) (by intro a ha;rcases abC.1 ha with rfl|ha;exact hx;exact hA a ha) hC
   |miss A C e hA hC=>exact .miss ((x,v,n)::A) C (by rw[e];rfl) (by intro a ha;rcases abC.1 ha with rfl|ha;exact hx;exact hA a ha) hC
  ·exact .hit [] l v n rfl (by simp) h1
  ·exact .miss [] ((x,v,n)::l) rfl (by simp) (by intro c hc;rcases abC.1 hc with rfl|hc;exact hx;exact nA hx (h1 c hc))
theorem mI {α:Type} (A B:List α) (i:Nat) (d:α):(A++B).getD i d=if i<A.length then A.getD i d else B.getD (i-A.length) d:=by
 split
 ·simp[aaC,abU, *]
 ·rename_i h;simp[aaC,abQ (aeE h)]
theorem bW {α:Type} (l:List α) (i:Nat) (d:α) (h:i<l.length):l.getD i d∈l:=by
 rw[aaC,aaO h];exact acU ..
theorem f207_eq (A B:List Pr) (k:aaA) (hlen:(A++B).length<=1000000) (hA:∀a,a∈A->less a.1 k=true) (hB:∀b,b∈B->less b.1 k=false):
  f186 (A++B) k=some ((A.length:Int),decide (0<B.length)&&((B.getD 0 (default:Pr)).1==k)):=by
 have h55:∀(a b:aaA) (n:Int) (y:aaA),f208 a b n y=some (Lib.compareBytes a y):=fun _ _ _ _=>rfl
 have main:∀(K:Int->Option Tq4) (c q i j:Nat),j-i<=c->c<q->i<=A.length->A.length<=j->j<=(A++B).length->iC (A++B) k K q ((i:Int),(j:Int))=K (A.length:Int):=by
  intro K c
  induction c with
  |zero=>
   intro q i j hc hq h1 h2 h3;obtain⟨q,rfl⟩:∃z,q=z+1:=⟨q-1,by omega⟩
   conv=>lhs;unfold iC
   rw[aK (by omega)]
   congr 1;omega
  |succ c ih=>
   intro q i j hc hq h1 h2 h3;obtain⟨q,rfl⟩:∃z,q=z+1:=⟨q-1,by omega⟩
   conv=>lhs;unfold iC
   by_cases hij:i<j
   ·have em:((i:Int)+(j:Int))/2^1=(((i+j)/2:Nat):Int):=by omega
    rw[aM (by omega),aA (by omega),aA (by omega),aA (by decide),em,aA (by omega),h55,aC,aA (by omega),abH,vP];generalize hm:(i+j)/2=m;have hm1:i<=m:=by omega
    have hm2:m<j:=by omega
    by_cases hmA:m<A.length
    ·have hl:less ((A++B).getD m (default:Pr)).1 k=true:=by
      rw[mI,if_pos hmA];exact hA _ (bW _ _ _ hmA)
     rw[if_pos hl,aM (by decide),aA (by omega)];have:=ih q (m+1) j (by omega) (by omega) (by omega) h2 h3;rw[<-this];rfl
    ·have hl:less ((A++B).getD m (default:Pr)).1 k=false:=by
      rw[mI,if_neg hmA];exact hB _ (bW _ _ _ (by rw[aaF]at h3;omega))
     rw[hl,aK (by split<;>simp_all<;>split<;>simp)];exact ih q i m (by omega) (by omega) h1 (by omega) (by omega)
   ·rw[aK (by omega)];congr 1;omega
 unfold f186 f207;simp only[jn];have e0:(0:Int)=((0:Nat):Int):=rfl;rw[e0,main _ (A++B).length aY 0 (A++B).length (by omega) (by unfold aY;omega) (abM _) (by simp) (aaY _)];rw[h55,abH,mI,if_neg (agV _),agH];by_cases hb:0<B.length
 ·have h1:decide ((A.length:Int)<(((A++B).length:Nat):Int))=true:=by rw[aaF];simp;omega
  rw[h1];simp only[beq_self_eq_true,acK,eH,aC];rw[aA (fun _=>by rw[aaF];omega),aC,vP,hB _ (bW _ _ _ hb)];have hd:decide (0<B.length)=true:=by simp[hb]
  rw[hd];simp only[abL,if_false,acK];by_cases e:(B.getD 0 (default:Pr)).1=k
  ·have e':((B.getD 0 (default:Pr)).1==k)=true:=by simpa using e
   rw[if_pos e,e'];rfl
  ·have e':((B.getD 0 (default:Pr)).1==k)=false:=by simpa using e
   rw[if_neg e,e'];rfl
 ·have h1:decide ((A.length:Int)<(((A++B).length:Nat):Int))=false:=by rw[aaF];simp;omega
  rw[h1];have hd:decide (0<B.length)=false:=by simp[hb]
  rw[hd];simp[eO,chk]
abbrev MV :Int:=1000000000000
theorem getD_at (A C:List Pr) (x d:Pr):(A++x::C).getD A.length d=x:=by
 rw[mI,if_neg (agV _),agH];rfl
theorem set_at :∀(A C:List Pr) (x y:Pr),(A++x::C).set A.length y=A++y::C
 |[],_,_,_=>rfl
 |a::A,C,x,y=>by
  show a::(A++x::C).set A.length y=_
  rw[set_at A C x y];rfl
theorem cV (A C:List Pr) (x:Pr):(A++x::C).length=A.length+C.length+1:=by simp;omega
theorem drop_at (A C:List Pr) (x:Pr):(A++x::C).drop (A.length+1)=C:=by
 rw[List.drop_append];simp
theorem take_at (A C:List Pr):(A++C).take A.length=A:=by simp
theorem dropA_at (A C:List Pr):(A++C).drop A.length=C:=by simp
theorem f117_eq :∀(q n:Nat),n<10^(q+1)->n<=1000000000000000->∀k,q+1<=k->f117 k (n:Int)=some (Lib.itoa (n:Int))
 |q,n,hn,hb,k,hk=>by
  obtain⟨k,rfl⟩:∃z,k=z+1:=⟨k-1,by omega⟩
  conv=>lhs;unfold f117
  rw[Lib.itoa_nonneg]
  by_cases h:n<10
  ·rw[aM (by omega),aA (by omega),aA (by omega),Lib.decDigits_one h]
   congr 3
  ·rw[aK (by omega)]
   match q,hn,hk with
   |0,hn,_=>omega
   |q+1,hn,hk=>
    have e1:(n:Int)/10=((n/10:Nat):Int):=by omega
    have e2:(n:Int)%10=((n%10:Nat):Int):=by omega
    rw[e1,e2,f117_eq q (n/10) (by rw[agI]at hn;omega) (by omega) k (by omega),aC,aA (by omega),aA (by omega),aA (by omega),aA (by omega)]
    have hl:=Lib.itoa_length_le ((n/10:Nat):Int) (by omega) (by omega)
    rw[aA (by rw[acR];omega),Lib.itoa_nonneg]
    conv=>rhs;rw[Lib.decDigits,dif_neg h]
    congr 3
theorem dig {n:Int} (h0:0<=n) (h1:n<=1000000000000000):f117 aY n=some (Lib.itoa n):=by
 obtain⟨m,rfl⟩:∃m:Nat,n=m:=⟨n.toNat,by omega⟩;exact f117_eq 15 m (by omega) (by omega) aY (by unfold aY;omega)
theorem ito {n:Int} (h0:0<=n) (h1:n<=1000000000000000):f58 n=some (Lib.itoa n):=by
 unfold f58 itoaO;rw[if_pos ⟨by omega,by omega⟩]
theorem aCv {n:Int} (h0:0<=n) (h1:n<=1000000000000000):(Lib.itoa n).length<=21:=Lib.itoa_length_le n (by omega) (by omega)
theorem vJ (A C:List Pr) (k v:aaA) (n:Int) (hlen:(A++(k,v,n)::C).length<=1000000) (hA:∀a,a∈A->(a.1==k)=false) (hC:∀c,c∈C->(c.1==k)=false):f116 (A++(k,v,n)::C) k=some (A.length:Int):=by
 unfold f116;simp only[jn]
 rcases uW (fun q i => eA (A ++ (k, v, n) :: C) k (fun _ => some (-1)) q i) (A ++ (k, v, n) :: C) (default : Pr) (fun p => p.1 == k) (fun i => some (i : Int)) (some (-1)) (fun q i hi=>by
   show eA _ _ _ (q+1) i=_
   conv=>lhs;unfold eA
   rw [aM (by omega), aA (by omega), aA (by omega)]) (fun q=>by
   show eA _ _ _ (q+1) _=_
   conv=>lhs;unfold eA
   rw[aK (by omega)]) (A++(k,v,n)::C).length aY 0 (by omega) (fuel_lt (by omega))with⟨m,h1,h2,h3,h4,h5⟩|⟨h4,h5⟩
 ·rw[h4];rw[mI]at h3;by_cases e:m<A.length
  ·rw[if_pos e,hA _ (bW _ _ _ e)]at h3;cases h3
  ·rw[if_neg e]at h3;by_cases e2:m=A.length
   ·rw[e2]
   ·obtain⟨z,hz⟩:∃z,m-A.length=z+1:=⟨m-A.length-1,by omega⟩;rw[hz,abP,hC _ (bW _ _ _ (by rw[cV]at h2;omega))]at h3;cases h3
 ·exfalso;rw[abY]at h5;have:=agS.1 h5 (k,v,n) (by simp);simp at this
theorem f116_miss (l:List Pr) (k:aaA) (hlen:l.length<=1000000) (h:∀a,a∈l->(a.1==k)=false):f116 l k=some (-1):=by
 unfold f116;simp only[jn]
 rw [aB1 (fun q i => eA l k (fun _ => some (-1)) q i) l (default : Pr) (fun _ => false) none (some (-1)) (fun q i hi=>by
   show eA _ _ _ (q+1) i=_
   conv=>lhs;unfold eA
   rw[aM (by omega),aA (by omega),h _ (bW _ _ _ hi),aA (by omega)]
   rfl) (fun q=>by
   show eA _ _ _ (q+1) _=_
   conv=>lhs;unfold eA
   rw[aK (by omega)]) aY (fuel_lt (by omega))]
 simp
def xI (k s:aaA) (z:Bool×List Pr) (a:Pr):Bool×List Pr:=
 if a.1==k then(true,z.2++[(k,s,min (a.2.2+1) MV)])else
 if(!(less a.1 k||a.1==k))&& !z.1 then(true,(z.2++[(k,s,1)])++[(a.1,a.2.1,a.2.2)])else(z.1,z.2++[(a.1,a.2.1,a.2.2)])
theorem zC (l:List Pr) (k s:aaA) (hlen:l.length<=1000000) (hv:∀a,a∈l->1<=a.2.2/\a.2.2<=MV):
  f118 l k s=some (let z:=l.foldl (xI k s) (false,[]);if z.1 then z.2 else z.2++[(k,s,1)]):=by
 unfold f118;simp only[jn]
 have hI:∀n (z:Bool×List Pr),n<l.length->z.2.length<=2 *n->(xI k s z (l.getD n (default:Pr))).2.length<=2 *(n+1):=by
  intro n z hn hz;unfold xI;split
  ·simp;omega
  ·split
   ·simp;omega
   ·simp;omega
 have:=uU (fun q (y:Nat×(Bool×List Pr))=>gO l k s (fun y=>if(!y.1)=true then chk ((y.2.length+1) *40<=140737488355328) (some (y.2++[(k,s,1)]))else some y.2) q (y.2.1,y.1,y.2.2)) l (default:Pr) (fun n z=>z.2.length<=2 *n) (xI k s)
  (fun y=>if(!y.1)=true then chk ((y.2.length+1) *40<=140737488355328) (some (y.2++[(k,s,1)]))else some y.2)
  (fun q n z hn hz=>by
   obtain⟨b,w⟩:=z;simp only at hz;show gO l k s _ (q+1) (b,n,w)=_
   conv=>lhs;unfold gO
   have hh:=hv _ (bW l n (default:Pr) hn);simp only[MV]at hh;rw[aM (by omega)];simp only[jn];rw[aA (by omega)];unfold xI;simp only[];by_cases e:((l.getD n (default:Pr)).1==k)=true
   ·rw[if_pos e,if_pos e,aA (by omega),aA (by omega),aA (by omega),aA (by omega)]
   ·rw[if_neg e,if_neg e,aA (by omega)];by_cases e2:((!(less (l.getD n (default:Pr)).1 k||(l.getD n (default:Pr)).1==k))&& !b)=true
    ·rw[if_pos e2,if_pos e2,aA (by omega),aA (by omega),aA (by simp;omega),aA (by omega)]
    ·rw[if_neg e2,if_neg e2,aA (by omega),aA (by omega),aA (by omega)])
  hI (fun q z hz=>by
   obtain⟨b,w⟩:=z;show gO l k s _ (q+1) (b,l.length,w)=_
   conv=>lhs;unfold gO
   rw[aK (by omega)]) l.length aY 0 (false,[]) (by omega) (fuel_lt (by omega)) (abM _)
 refine Eq.trans this ?_;rw[abY];have hl:=foldl_inv (fun n (z:Bool×List Pr)=>z.2.length<=2 *n) (xI k s) (default:Pr) l hI (false,[]) (abM _);generalize l.foldl (xI k s) (false,[])=z at hl;obtain⟨b,w⟩:=z;simp only at hl;cases b
 ·simp only[adW,if_true,abL,if_false];rw[aA (by omega)]
 ·rfl
theorem aAm (k s:aaA) (b:Bool):∀(A w:List Pr),(∀a,a∈A->less a.1 k=true)->A.foldl (xI k s) (b,w)=(b,w++A)
 |[],w,_=>by simp
 |a::A,w,h=>by
  have ha:=h a (aaV ..)
  have e:xI k s (b,w) a=(b,w++[a]):=by
   unfold xI
   rw[jF ha,ha]
   simp
  rw[acF,e,aAm k s b A _ fun x hx=>h x (aaU _ hx)]
  simp
theorem xH {a b:aaA} (h:less b a=true):(a==b)=false:=by
 have:=jF h;cases e:a==b
 ·rfl
 ·have:=eq_of_beq e;subst this;rw[fR]at h;cases h
theorem aAn (k s:aaA):∀(C w:List Pr),(∀a,a∈C->less k a.1=true)->C.foldl (xI k s) (true,w)=(true,w++C)
 |[],w,_=>by simp
 |a::C,w,h=>by
  have ha:=h a (aaV ..)
  have e:xI k s (true,w) a=(true,w++[a]):=by
   unfold xI
   rw[xH ha]
   simp
  rw[acF,e,aAn k s C _ fun x hx=>h x (aaU _ hx)]
  simp
theorem put_hit (A C:List Pr) (k v s:aaA) (n:Int) (hlen:(A++(k,v,n)::C).length<=1000000) (hv:∀a,a∈(A++(k,v,n)::C)->1<=a.2.2/\a.2.2<=MV) (hA:∀a,a∈A->less a.1 k=true) (hC:∀c,c∈C->less k c.1=true):
  f118 (A++(k,v,n)::C) k s=some (A++(k,s,min (n+1) MV)::C):=by
 rw[zC _ k s hlen hv,adB,aAm k s false A [] hA,acF]
 have e:xI k s (false,[]++A) (k,v,n)=(true,A++[(k,s,min (n+1) MV)]):=by
  unfold xI;simp
 rw[e,aAn k s C _ hC];simp
theorem put_miss (A C:List Pr) (k s:aaA) (hlen:(A++C).length<=1000000) (hv:∀a,a∈(A++C)->1<=a.2.2/\a.2.2<=MV) (hA:∀a,a∈A->less a.1 k=true) (hC:∀c,c∈C->less k c.1=true):
  f118 (A++C) k s=some (A++(k,s,1)::C):=by
 rw[zC _ k s hlen hv,adB,aAm k s false A [] hA]
 cases C with
 |nil=>simp
 |cons c C=>
  have hc:=hC c (aaV ..)
  have e:xI k s (false,[]++A) c=(true,A++[(k,s,1),c]):=by
   unfold xI;rw[xH hc,nB hc];simp
  rw[acF,e,aAn k s C _ fun x hx=>hC x (aaU _ hx)];simp
theorem aAC (l:List Pr) (h:l.length<=1000000):f189 l=some l:=by
 unfold f189;rw[abc_eq,aA (by omega)]
 ·rfl
 ·intro hl;rw[aA (by omega)];have:l=[]:=aeK.1 hl;rw[this];rfl
abbrev okW :aaA:=[111,107,32]
abbrev aAl :aaA:=[102,117,108,108]
theorem aBm (A C:List Pr) (k v:aaA) (n:Int) (hlen:(A++(k,v,n)::C).length<=1000000) (hA:∀a,a∈A->less a.1 k=true) (hC:∀c,c∈C->less k c.1=true):f186 (A++(k,v,n)::C) k=some ((A.length:Int),true):=by
 rw[f207_eq A _ k hlen hA]
 ·simp
 ·intro b hb;rcases abC.1 hb with rfl|hb
  ·exact fR _
  ·exact nB (hC b hb)
theorem xL (A C:List Pr) (k:aaA) (hlen:(A++C).length<=1000000) (hA:∀a,a∈A->less a.1 k=true) (hC:∀c,c∈C->less k c.1=true):f186 (A++C) k=some ((A.length:Int),false):=by
 rw[f207_eq A _ k hlen hA fun b hb=>nB (hC b hb)]
 cases C with
 |nil=>simp
 |cons c C=>simp[xH (hC c (aaV ..))]
theorem putP_hit (A C:List Pr) (k v s:aaA) (n:Int) (hlen:(A++(k,v,n)::C).length<=64) (h1:1<=n) (h2:n<=MV) (hA:∀a,a∈A->less a.1 k=true) (hC:∀c,c∈C->less k c.1=true):
  aC1 (A++(k,v,n)::C) k s=some (A++(k,s,min (n+1) MV)::C,okW++Lib.itoa (min (n+1) MV)):=by
 simp only[MV]at *;have hmin:0<=min (n+1) 1000000000000/\min (n+1) 1000000000000<=1000000000000000:=by omega
 have hl:=aCv hmin.1 hmin.2;unfold aC1;rw[aBm A C k v n (by omega) hA hC,aC];simp only[acS,adA,abL,if_false];rw[aAC _ (by omega),aC];simp only[jn,abH,set_at,getD_at];rw[cV]at hlen
 rw [aA (by rw[cV];omega),aA (by rw[cV];omega),aA (by rw[cV];omega),aA (by rw[cV];omega),aA (by omega),aA (by rw[cV];omega),aA (by rw[cV];omega),
  ito hmin.1 hmin.2,aC,aA (by rw[cV];omega),aA (by rw[cV];omega),aA (by simp;omega)]
theorem putP_miss (A C:List Pr) (k s:aaA) (hlen:(A++C).length<=64) (hA:∀a,a∈A->less a.1 k=true) (hC:∀c,c∈C->less k c.1=true):
  aC1 (A++C) k s=if 64<=(A++C).length then some (A++C,aAl)else some (A++(k,s,1)::C,okW++Lib.itoa 1):=by
 have hl:=aCv (n:=1) (by omega) (by omega);unfold aC1;rw[xL A C k (by omega) hA hC,aC];by_cases hf:64<=(A++C).length
 ·rw[if_pos hf,if_pos (by simp only[adW,acK,abA];omega)]
 rw[if_neg hf,if_neg (by simp only[adW,acK,abA];omega),aAC _ (by omega),aC];simp only[jn]
 have e58:f210 (A.length:Int) (A++C) [(k,[],(0:Int))]=some (A++(k,[],0)::C,[(k,[],0)]):=by
  unfold f210;by_cases hc:A.length<(A++C).length
  ·rw[if_pos ⟨by omega,by rw[abH];exact hc,by simp,by simp;simp at hlen;omega⟩,abH,take_at,dropA_at];simp
  ·have:C=[]:=by
    cases C with
    |nil=>rfl
    |cons c C=>simp at hc
   subst this;rw[if_neg (by rw[abH];omega)];unfold f210e;rw[aeB,aA (by omega),if_neg (by simp),if_pos (by simp),aA (by simp;simp at hlen;omega)]
 simp only[adW,if_true,e58,aC,abH,set_at,getD_at];rw[aaF]at hlen hf;have e1:min ((0:Int)+1) 1000000000000=1:=by decide
 rw[e1]
 rw [aA (by rw[cV];omega),aA (by rw[cV];omega),aA (by rw[cV];omega),aA (by rw[cV];omega),aA (by omega),aA (by rw[cV];omega),aA (by rw[cV];omega),
  ito (by omega) (by omega),aC,aA (by rw[cV];omega),aA (by rw[cV];omega),aA (by simp;omega)]
def aB6 (x1:List Pr) (x3:aaA) (r7:Int) (s10:aaA):Option (aaA×List Pr):=
 if((decide (r7<(0:Int)))&&(decide ((((x1).length:Nat):Int)>=(64:Int))))then(
 some (([102,117,108,108]:aaA),([]++x1))
 )else(
 (f118 x1 x3 s10).bind fun(r12:List Tq1)=>
 (f116 r12 x3).bind fun(r13:Int)=>
 (f117 aY ((r12.getD ((r13).toNat) (default:Tq1)).2.2)).bind fun(r14:aaA)=>
 chk (0<=r13/\r13<(((r12).length:Nat):Int))<|
 chk (((r13).toNat)<(r12).length)<|
 chk (([111,107,32]:aaA).length+r14.length<=9223372036854775807)<|
 some ((([111,107,32]:aaA)++r14),r12)
 )
theorem tail_hit (A C:List Pr) (k v s:aaA) (n:Int) (hlen:(A++(k,v,n)::C).length<=64) (hv:∀a,a∈(A++(k,v,n)::C)->1<=a.2.2/\a.2.2<=MV) (hA:∀a,a∈A->less a.1 k=true) (hC:∀c,c∈C->less k c.1=true):
  aB6 (A++(k,v,n)::C) k (A.length:Int) s=some (okW++Lib.itoa (min (n+1) MV),A++(k,s,min (n+1) MV)::C):=by
 have hn:=hv (k,v,n) (by simp);simp only[MV]at hn;have hmin:0<=min (n+1) 1000000000000/\min (n+1) 1000000000000<=1000000000000000:=by omega
 have hl:=aCv hmin.1 hmin.2;unfold aB6;rw[if_neg (by simp;omega),put_hit A C k v s n (by omega) hv hA hC,aC];simp only[MV];rw[cV]at hlen;rw[vJ A C k s _ (by rw[cV];omega) (fun a ha=>jF (hA a ha)) (fun c hc=>xH (hC c hc)),aC,abH,getD_at,dig hmin.1 hmin.2,aC,aA (by rw[cV];omega),aA (by rw[cV];omega),aA (by simp;omega)]
theorem tail_miss (A C:List Pr) (k s:aaA) (hlen:(A++C).length<=64) (hv:∀a,a∈(A++C)->1<=a.2.2/\a.2.2<=MV) (hA:∀a,a∈A->less a.1 k=true) (hC:∀c,c∈C->less k c.1=true):
  aB6 (A++C) k (-1) s=if 64<=(A++C).length then some (aAl,A++C)else some (okW++Lib.itoa 1,A++(k,s,1)::C):=by
 have hl:=aCv (n:=1) (by omega) (by omega);unfold aB6;by_cases hf:64<=(A++C).length
 ·rw[if_pos hf,if_pos (by simp only[aaL,abA];omega)];rfl
 rw[if_neg hf,if_neg (by simp only[aaL,abA];omega),put_miss A C k s (by omega) hv hA hC,aC];rw[aaF]at hlen hf;rw[vJ A C k s _ (by rw[cV];omega) (fun a ha=>jF (hA a ha)) (fun c hc=>xH (hC c hc)),aC,abH,getD_at,dig (n:=1) (by omega) (by omega),aC,aA (by rw[cV];omega),aA (by rw[cV];omega),aA (by simp;omega)]
theorem gr_app {v c:aaA} (hv:gr v 256=true) (hc:gr c 64=true) (h:(v++c).length<=256):gr (v++c) 256=true:=by
 unfold gr at *;simp only[aaL,adM,abA]at *;refine⟨by rw[agD,hv.1,hc.1];rfl, ?_,by omega⟩
 cases v with
 |nil=>have:=hv.2.1;simp at this
 |cons x v=>rfl
theorem gr_up {c:aaA} (hc:gr c 64=true):gr c 256=true:=by
 unfold gr at *;simp only[aaL,abA]at *;exact⟨hc.1,hc.2.1,by omega⟩
theorem stv_set {A C:List Pr} {k v s:aaA} {n m:Int} (h:StV (A++(k,v,n)::C)) (hs:gr s 256=true) (h1:1<=m) (h2:m<=MV):StV (A++(k,s,m)::C):=by
 refine⟨by have:=h.len;rw[cV]at this⊢;exact this,fun p hp=> ?_, ?_⟩
 ·rcases abR.1 hp with hp|hp
  ·exact h.each p (acI _ hp)
  ·rcases abC.1 hp with rfl|hp
   ·have:=h.each (k,v,n) (by simp);exact⟨this.1,hs,h1,h2⟩
   ·exact h.each p (by simp[hp])
 ·have:=h.srt;simp only[Srtd,aeH,adO]at this⊢;refine⟨this.1,this.2.1,fun a ha b hb=> ?_⟩;rcases abC.1 hb with rfl|hb
  ·exact this.2.2 a ha (k,v,n) (aaV ..)
  ·exact this.2.2 a ha b (aaU _ hb)
theorem stv_ins {A C:List Pr} {k s:aaA} (h:StV (A++C)) (hl:(A++C).length<64) (hk:gr k 64=true) (hs:gr s 256=true) (hA:∀a,a∈A->less a.1 k=true) (hC:∀c,c∈C->less k c.1=true):StV (A++(k,s,1)::C):=by
 refine⟨by rw[aaF]at hl;rw[cV];omega,fun p hp=> ?_, ?_⟩
 ·rcases abR.1 hp with hp|hp
  ·exact h.each p (acI _ hp)
  ·rcases abC.1 hp with rfl|hp
   ·exact⟨hk,hs,by simp,by simp⟩
   ·exact h.each p (adU _ hp)
 ·have:=h.srt;simp only[Srtd,aeH,adO]at this⊢;refine⟨this.1,⟨hC,this.2.1⟩,fun a ha b hb=> ?_⟩;rcases abC.1 hb with rfl|hb
  ·exact hA a ha
  ·exact this.2.2 a ha b hb
theorem stv_del {A C:List Pr} {x:Pr} (h:StV (A++x::C)):StV (A++C):=by
 refine⟨by have:=h.len;rw[cV]at this;rw[aaF];omega,fun p hp=>h.each p (by rcases abR.1 hp with hp|hp<;>simp[hp]), ?_⟩;have:=h.srt;simp only[Srtd,aeH,adO]at this⊢;exact⟨this.1,this.2.1.2,fun a ha b hb=>this.2.2 a ha b (aaU _ hb)⟩
def ent (l:List Pr) (k:aaA):Option (aaA×Int):=(l.find? fun p=>p.1==k).map (·.2)
theorem rT {A C:List Pr} {k v:aaA} {n:Int} (hA:∀a,a∈A->less a.1 k=true):ent (A++(k,v,n)::C) k=some (v,n):=by
 unfold ent;rw[adR,afM.2 fun a ha=>by simp[jF (hA a ha)]];simp
theorem aBX {A C:List Pr} {k:aaA} (hA:∀a,a∈A->less a.1 k=true) (hC:∀c,c∈C->less k c.1=true):ent (A++C) k=none:=by
 unfold ent;rw[afM.2 fun a ha=>by rcases abR.1 ha with ha|ha;simp[jF (hA a ha)];simp[xH (hC a ha)]];rfl
theorem mV {A C:List Pr} {k k' v:aaA} {n:Int} (h:k'≠k):ent (A++(k,v,n)::C) k'=ent (A++C) k':=by
 unfold ent;rw[adR,adR,aeA];have:(k==k')=false:=beq_false_of_ne fun e=>h e.symm;simp only[this]
def R (e:Option (aaA×Int)) (cnt:Nat) (k:Int) (a b c:aaA):aaA×Option (aaA×Int):=
 if hY k a b c=false then(cs3,e)else
 if k=6 then(cs9++Lib.itoa (cnt:Int),e)else
 match e with
 |none=>if k=1\/k=4 then(if 64<=cnt then(aAl,none)else(okW++Lib.itoa 1,some (c,1)))else([110,111,110,101],none)
 |some (v,n)=>
  if k=1 then(okW++Lib.itoa (min (n+1) MV),some (c,min (n+1) MV))else
  if k=2 then(sO++v++[32]++Lib.itoa n,some (v,n))else
  if k=3 then([111,107],none)else
  if k=4 then(if(v++c).length>256 then([108,111,110,103],some (v,n))else(okW++Lib.itoa (min (n+1) MV),some (v++c,min (n+1) MV)))else
  if v=b then(okW++Lib.itoa (min (n+1) MV),some (c,min (n+1) MV))else([110,111,32]++v,some (v,n))
structure Ex (l:List Pr) (k:Int) (a b c:aaA) (l':List Pr):Prop where
 prog:aCN l k a b c=some (l',(R (ent l a) l.length k a b c).1)
 spec:f85 l k a b c=some ((R (ent l a) l.length k a b c).1,l')
 ok:StV l'
 here:ent l' a=(R (ent l a) l.length k a b c).2
 there:∀k',k'≠a->ent l' k'=ent l k'
 keys:∀p,p∈l'->p.1=a\/∃q,q∈l/\q.1=p.1
 read:(k=2\/k=6)->l'=l
theorem R_bad {e:Option (aaA×Int)} {cnt:Nat} {k:Int} {a b c:aaA} (h:hY k a b c=false):R e cnt k a b c=(cs3,e):=by
 unfold R;rw[if_pos h]
theorem nmin {n:Int} (h1:1<=n) (h2:n<=MV):1<=min (n+1) MV/\min (n+1) MV<=MV:=by
 simp only[MV]at *;omega
theorem spec_head (l:List Pr) (k:Int) (a b c:aaA) (hl:l.length<=64) (ha:a.length<=9223372036854775807) (hb:b.length<=9223372036854775807) (hc:c.length<=9223372036854775807) (h:hY k a b c=false):f85 l k a b c=some (cs3,l):=by
 unfold f85;rw[aA (by omega),vK k a b c ha hb hc,aC,h];rfl
theorem prog_head (l:List Pr) (k:Int) (a b c:aaA) (ha:a.length<=9223372036854775807) (hb:b.length<=9223372036854775807) (hc:c.length<=9223372036854775807) (h:hY k a b c=false):aCN l k a b c=some (l,cs3):=by
 unfold aCN;rw[vG k a b c ha hb hc,aC,h];rfl
theorem spec_hit (A C:List Pr) (k:Int) (a b c v:aaA) (n:Int) (hV:StV (A++(a,v,n)::C)) (ha:a.length<=9223372036854775807) (hb:b.length<=9223372036854775807) (hc:c.length<=9223372036854775807) (h:hY k a b c=true)
  (hA:∀x,x∈A->less x.1 a=true) (hC:∀x,x∈C->less a x.1=true):
  f85 (A++(a,v,n)::C) k a b c=
   if k=6 then some (cs9++Lib.itoa ((A++(a,v,n)::C).length:Int),A++(a,v,n)::C)else
   if k=2 then some (sO++v++[32]++Lib.itoa n,A++(a,v,n)::C)else
   if k=3 then some ([111,107],A++C)else
   if k=5 then(if v=b then some (okW++Lib.itoa (min (n+1) MV),A++(a,c,min (n+1) MV)::C)else some ([110,111,32]++v,A++(a,v,n)::C))else
   if k=4 then(if(v++c).length>256 then some ([108,111,110,103],A++(a,v,n)::C)else some (okW++Lib.itoa (min (n+1) MV),A++(a,v++c,min (n+1) MV)::C))else
   some (okW++Lib.itoa (min (n+1) MV),A++(a,c,min (n+1) MV)::C):=by
 have hl:=hV.len;have hp:=hV.each (a,v,n) (by simp);obtain⟨p1,p2,p3,p4⟩:=hp;simp only at p1 p2 p3 p4;have hvl:=tF p2;have hil:=aCv (n:=n) (by omega) (by omega);have hcl:=(aA9 h).2.2;have hl2:=aCv (n:=(((A++(a,v,n)::C).length:Nat):Int)) (by omega) (by omega)
 have tl:∀s,aB6 (A++(a,v,n)::C) a (A.length:Int) s=some (okW++Lib.itoa (min (n+1) MV),A++(a,s,min (n+1) MV)::C):=fun s=>
  tail_hit A C a v s n hl (fun x hx=>⟨(hV.each x hx).2.2.1,(hV.each x hx).2.2.2⟩) hA hC
 have hla:=cV A C (a,v,n);unfold f85;rw[aA (by omega),vK k a b c ha hb hc,aC,h,vJ A C a v n (by omega) (fun x hx=>jF (hA x hx)) (fun x hx=>xH (hC x hx))];simp only[if_true,bne_self_eq_false,abL,if_false,aC,jn,abH,getD_at,afB,abZ];rw[dig (n:=(((A++(a,v,n)::C).length:Nat):Int)) (by omega) (by omega),aC,aA (by have:cs9.length=6:=rfl;omega)];have hneg:decide ((A.length:Int)<0)=false:=by simp
 simp only[hneg,abL,if_false];split
 ·rfl
 split
 ·rw[dig (n:=n) (by omega) (by omega),aC,aA (by rw[hla];omega),aA (by simp[sO];omega),aA (by simp[sO];omega),aA (by rw[hla];omega),aA (by simp[sO];omega)]
 split
 ·rw[aA (by rw[hla];omega),aA (by omega),aA (by omega),aA (by rw[hla];omega),aA (by rw[hla];omega)];have e1:((A.length:Int)+1).toNat=A.length+1:=by omega
  rw[e1,take_at,drop_at]
 split
 ·rw[aA (by rw[hla];omega)];by_cases e:v=b
  ·rw[if_pos e,if_neg (by simp[e])];exact tl c
  ·rw[if_neg e,if_pos (by simp[e]),aA (by rw[hla];omega),aA (by simp;omega)]
 split
 ·rw[aM (by omega),aA (by rw[hla];omega),aA (by omega)];by_cases e:(v++c).length>256
  ·rw[if_pos e,aM (by omega)]
  ·rw[if_neg e,aK (by omega)];exact tl (v++c)
 ·exact tl c
theorem spec_miss (A C:List Pr) (k:Int) (a b c:aaA) (hV:StV (A++C)) (ha:a.length<=9223372036854775807) (hb:b.length<=9223372036854775807) (hc:c.length<=9223372036854775807) (h:hY k a b c=true)
  (hA:∀x,x∈A->less x.1 a=true) (hC:∀x,x∈C->less a x.1=true):
  f85 (A++C) k a b c=
   if k=6 then some (cs9++Lib.itoa ((A++C).length:Int),A++C)else
   if k=2\/k=3\/k=5 then some ([110,111,110,101],A++C)else
   if 64<=(A++C).length then some (aAl,A++C)else some (okW++Lib.itoa 1,A++(a,c,1)::C):=by
 have hl:=hV.len;have hcl:=(aA9 h).2.2;have hl2:=aCv (n:=(((A++C).length:Nat):Int)) (by omega) (by omega)
 have tl:aB6 (A++C) a (-1) c=if 64<=(A++C).length then some (aAl,A++C)else some (okW++Lib.itoa 1,A++(a,c,1)::C):=
  tail_miss A C a c hl (fun x hx=>⟨(hV.each x hx).2.2.1,(hV.each x hx).2.2.2⟩) hA hC
 unfold f85;rw[aA (by omega),vK k a b c ha hb hc,aC,h,f116_miss (A++C) a (by omega) (fun x hx=>by rcases abR.1 hx with hx|hx;exact jF (hA x hx);exact xH (hC x hx))];simp only[if_true,bne_self_eq_false,abL,if_false,aC,jn,afB,abZ];rw[dig (n:=(((A++C).length:Nat):Int)) (by omega) (by omega),aC,aA (by have:cs9.length=6:=rfl;omega)];have hneg:decide ((-1:Int)<0)=true:=by decide
 have hneg2:decide ((-1:Int)>=0)=false:=by decide
 simp only[hneg,hneg2,if_true,abL,if_false];by_cases h6:k=6
 ·rw[if_pos h6,if_pos h6]
 rw[if_neg h6,if_neg h6];by_cases h2:k=2
 ·rw[if_pos h2,if_pos (.inl h2)]
 rw[if_neg h2];by_cases h3:k=3
 ·rw[if_pos h3,if_pos (.inr (.inl h3))]
 rw[if_neg h3];by_cases h5:k=5
 ·rw[if_pos h5,if_pos (.inr (.inr h5))]
 rw[if_neg h5,if_neg (show ¬(k=2\/k=3\/k=5) by omega)];split
 ·rw[aK (by omega)];exact tl
 ·exact tl
theorem okOp_is {k:Int} {a b c:aaA} (h:hY k a b c=true):isK k=true:=by
 unfold hY at h;simp only[aaL]at h;exact h.1.1.1
theorem okK {k:Int} {a b c:aaA} (h:hY k a b c=true):k=1\/k=2\/k=3\/k=4\/k=5\/k=6:=by
 have h0:=(okOp_is h);rcases kinds k with h|h|h|h|h|h|h
 ·exact .inl h
 ·exact .inr (.inl h)
 ·exact .inr (.inr (.inl h))
 ·exact .inr (.inr (.inr (.inl h)))
 ·exact .inr (.inr (.inr (.inr (.inl h))))
 ·exact .inr (.inr (.inr (.inr (.inr h))))
 ·rw[h]at h0;cases h0
theorem prog_hit (A C:List Pr) (k:Int) (a b c v:aaA) (n:Int) (hV:StV (A++(a,v,n)::C)) (ha:a.length<=9223372036854775807) (hb:b.length<=9223372036854775807) (hc:c.length<=9223372036854775807) (h:hY k a b c=true)
  (hA:∀x,x∈A->less x.1 a=true) (hC:∀x,x∈C->less a x.1=true):
  aCN (A++(a,v,n)::C) k a b c=
   if k=6 then some (A++(a,v,n)::C,cs9++Lib.itoa ((A++(a,v,n)::C).length:Int))else
   if k=1 then some (A++(a,c,min (n+1) MV)::C,okW++Lib.itoa (min (n+1) MV))else
   if k=2 then some (A++(a,v,n)::C,sO++v++[32]++Lib.itoa n)else
   if k=3 then some (A++C,[111,107])else
   if k=4 then(if(v++c).length>256 then some (A++(a,v,n)::C,[108,111,110,103])else some (A++(a,v++c,min (n+1) MV)::C,okW++Lib.itoa (min (n+1) MV)))else
   if v=b then some (A++(a,c,min (n+1) MV)::C,okW++Lib.itoa (min (n+1) MV))else some (A++(a,v,n)::C,[110,111,32]++v):=by
 have hl:=hV.len;have hp:=hV.each (a,v,n) (by simp);obtain⟨p1,p2,p3,p4⟩:=hp;simp only at p1 p2 p3 p4;have hvl:=tF p2;have hil:=aCv (n:=n) (by omega) (by omega);have hcl:=(aA9 h).2.2;have hl2:=aCv (n:=(((A++(a,v,n)::C).length:Nat):Int)) (by omega) (by omega);have hla:=cV A C (a,v,n);have put:∀s,aC1 (A++(a,v,n)::C) a s=some (A++(a,s,min (n+1) MV)::C,okW++Lib.itoa (min (n+1) MV)):=fun s=>putP_hit A C a v s n hl p3 p4 hA hC;unfold aCN;rw[vG k a b c ha hb hc,aC,h];simp only[acS,abL,if_false];rw[aBm A C a v n (by omega) hA hC,aC];simp only[abZ,acS,Bool.and_false,abL,if_false,abH,getD_at];split
 ·rw[ito (n:=(((A++(a,v,n)::C).length:Nat):Int)) (by omega) (by omega),aC,aA (by have:cs9.length=6:=rfl;omega)]
 split
 ·rw[put,aC]
 rw[aA (by rw[hla];omega)];split
 ·rw[ito (n:=n) (by omega) (by omega),aC,aA (by have:sO.length=6:=rfl;omega),aA (by simp[sO];omega),aA (by simp[sO];omega)]
 split
 ·rw[aAC _ (by omega),aC];unfold f188;have e1:((A.length:Int)+1).toNat=A.length+1:=by omega
  rw[if_pos ⟨by omega,by omega,by rw[e1,hla];omega⟩,aC,aA (by omega),e1,abH,take_at,drop_at]
 split
 ·rw[aA (by omega)];by_cases e:(v++c).length>256
  ·rw[if_pos e,aM (by rw[aaF]at e;omega)]
  ·rw[if_neg e,aK (by rw[aaF]at e;omega),put,aC,aA (by omega)]
 ·by_cases e:v=b
  ·rw[if_pos e,if_neg (by simp[e]),put,aC]
  ·rw[if_neg e,if_pos (by simp[e]),aA (by simp;omega)]
theorem prog_miss (A C:List Pr) (k:Int) (a b c:aaA) (hV:StV (A++C)) (ha:a.length<=9223372036854775807) (hb:b.length<=9223372036854775807) (hc:c.length<=9223372036854775807) (h:hY k a b c=true)
  (hA:∀x,x∈A->less x.1 a=true) (hC:∀x,x∈C->less a x.1=true):
  aCN (A++C) k a b c=
   if k=6 then some (A++C,cs9++Lib.itoa ((A++C).length:Int))else
   if k=1\/k=4 then(if 64<=(A++C).length then some (A++C,aAl)else some (A++(a,c,1)::C,okW++Lib.itoa 1))else
   some (A++C,[110,111,110,101]):=by
 have hl:=hV.len;have hl2:=aCv (n:=(((A++C).length:Nat):Int)) (by omega) (by omega);have put:=putP_miss A C a c hl hA hC
 have put':((aC1 (A++C) a c).bind fun r=>some (r.1,r.2))=if 64<=(A++C).length then some (A++C,aAl)else some (A++(a,c,1)::C,okW++Lib.itoa 1):=by
  rw[put];split<;>rfl
 unfold aCN;rw[vG k a b c ha hb hc,aC,h];simp only[acS,abL,if_false];rw[xL A C a (by omega) hA hC,aC];simp only[abZ,adW,Bool.and_true,if_true];split
 ·rw[ito (n:=(((A++C).length:Nat):Int)) (by omega) (by omega),aC,aA (by have:cs9.length=6:=rfl;omega)]
 by_cases h1:k=1
 ·rw[if_pos h1,if_pos (.inl h1)];exact put'
 by_cases h4:k=4
 ·rw[if_neg h1,if_pos h4,if_pos (.inr h4)];exact put'
 ·rw[if_neg h1,if_neg h4,if_neg (by omega)]
theorem exec (l:List Pr) (k:Int) (a b c:aaA) (hV:StV l) (ha:a.length<=9223372036854775807) (hb:b.length<=9223372036854775807) (hc:c.length<=9223372036854775807):∃l',Ex l k a b c l':=by
 cases h:hY k a b c
 ·exact⟨l,by rw[R_bad h];exact prog_head l k a b c ha hb hc h,by rw[R_bad h];exact spec_head l k a b c hV.len ha hb hc h,hV,by rw[R_bad h],fun _ _=>rfl,fun p hp=> .inr ⟨p,hp,rfl⟩,fun _=>rfl⟩
 have hk:=okK h
 have hcg:k=1\/k=4\/k=5->gr c 64=true:=by
  unfold hY at h;simp only[aaL]at h;have:=h.2;rintro(rfl|rfl|rfl)<;>exact this
 have hag:k≠6->gr a 64=true:=by
  unfold hY at h;simp only[aaL]at h;have:=h.1.1.2;rcases hk with rfl|rfl|rfl|rfl|rfl|rfl<;>intro h6<;>first|exact this|exact absurd rfl h6
 have hf:hY k a b c=false↔False:=by rw[h];simp
 cases view l a hV.srt with
 |hit A C v n e hA hC=>
  subst e;have p:=prog_hit A C k a b c v n hV ha hb hc h hA hC;have s:=spec_hit A C k a b c v n hV ha hb hc h hA hC;have hp:=hV.each (a,v,n) (by simp);have e0:=rT (C:=C) (v:=v) (n:=n) hA;have hm:=nmin hp.2.2.1 hp.2.2.2
  have keysS:∀s m,∀p,p∈A++(a,s,m)::C->p.1=a\/∃q,q∈A++(a,v,n)::C/\q.1=p.1:=by
   intro s m p hp;rcases abR.1 hp with hp|hp
   ·exact .inr ⟨p,acI _ hp,rfl⟩
   ·rcases abC.1 hp with rfl|hp
    ·exact .inl rfl
    ·exact .inr ⟨p,by simp[hp],rfl⟩
  have setS:∀s,gr s 256=true->StV (A++(a,s,min (n+1) MV)::C):=fun s hs=>stv_set hV hs hm.1 hm.2;have there:∀(s:aaA) (m:Int),∀k',k'≠a->ent (A++(a,s,m)::C) k'=ent (A++(a,v,n)::C) k':=fun s m k' hk'=>by rw[mV hk',mV hk']
  rcases hk with rfl|rfl|rfl|rfl|rfl|rfl
  ·refine⟨A++(a,c,min (n+1) MV)::C, ?_, ?_,setS c (gr_up (hcg (.inl rfl))), ?_,there _ _,keysS _ _,fun h=>by omega⟩
   ·rw[p,e0];simp[R,hf]
   ·rw[s,e0];simp[R,hf]
   ·rw[e0,rT hA];simp[R,hf]
  ·refine⟨A++(a,v,n)::C, ?_, ?_,hV, ?_,there _ _,keysS _ _,fun _=>rfl⟩
   ·rw[p,e0];simp[R,hf]
   ·rw[s,e0];simp[R,hf]
   ·rw[e0];simp[R,hf]
  ·refine⟨A++C, ?_, ?_,stv_del hV, ?_,fun k' hk'=>by rw[mV hk'],fun p hp=> .inr ⟨p,by rcases abR.1 hp with hp|hp<;>simp[hp],rfl⟩,fun h=>by omega⟩
   ·rw[p,e0];simp[R,hf]
   ·rw[s,e0];simp[R,hf]
   ·rw[e0,aBX hA hC];simp[R,hf]
  ·by_cases hlong:(v++c).length>256
   ·refine⟨A++(a,v,n)::C, ?_, ?_,hV, ?_,there _ _,keysS _ _,fun h=>by omega⟩
    ·rw[p,e0];simp only[R,hf,hlong];simp
    ·rw[s,e0];simp only[R,hf,hlong];simp
    ·rw[e0];simp only[R,hf,hlong];simp
   ·refine⟨A++(a,v++c,min (n+1) MV)::C, ?_, ?_,setS _ (gr_app hp.2.1 (hcg (.inr (.inl rfl))) (by omega)), ?_,there _ _,keysS _ _,fun h=>by omega⟩
    ·rw[p,e0];simp only[R,hf,hlong];simp
    ·rw[s,e0];simp only[R,hf,hlong];simp
    ·rw[e0,rT hA];simp only[R,hf,hlong];simp
  ·by_cases hvb:v=b
   ·refine⟨A++(a,c,min (n+1) MV)::C, ?_, ?_,setS c (gr_up (hcg (.inr (.inr rfl)))), ?_,there _ _,keysS _ _,fun h=>by omega⟩
    ·rw[p,e0];simp[R,hf,hvb]
    ·rw[s,e0];simp[R,hf,hvb]
    ·rw[e0,rT hA];simp[R,hf,hvb]
   ·refine⟨A++(a,v,n)::C, ?_, ?_,hV, ?_,there _ _,keysS _ _,fun h=>by omega⟩
    ·rw[p,e0];simp[R,hf,hvb]
    ·rw[s,e0];simp[R,hf,hvb]
    ·rw[e0];simp[R,hf,hvb]
  ·refine⟨A++(a,v,n)::C, ?_, ?_,hV, ?_,there _ _,keysS _ _,fun _=>rfl⟩
   ·rw[p,e0];simp only[R,hf,if_true,if_false]
   ·rw[s,e0];simp only[R,hf,if_true,if_false]
   ·rw[e0];simp only[R,hf,if_true,if_false]
 |miss A C e hA hC=>
  subst e;have p:=prog_miss A C k a b c hV ha hb hc h hA hC;have s:=spec_miss A C k a b c hV ha hb hc h hA hC;have e0:=aBX hA hC;have keep:∀p,p∈A++C->p.1=a\/∃q,q∈A++C/\q.1=p.1:=fun p hp=> .inr ⟨p,hp,rfl⟩
  have keysS:∀s m,∀p,p∈A++(a,s,m)::C->p.1=a\/∃q,q∈A++C/\q.1=p.1:=by
   intro s m p hp;rcases abR.1 hp with hp|hp
   ·exact .inr ⟨p,acI _ hp,rfl⟩
   ·rcases abC.1 hp with rfl|hp
    ·exact .inl rfl
    ·exact .inr ⟨p,by simp[hp],rfl⟩
  have ins:(k=1\/k=4)->∃l',Ex (A++C) k a b c l':=by
   intro h14;have h6:k≠6:=by omega
   have h235:¬(k=2\/k=3\/k=5):=by omega
   by_cases hfull:64<=(A++C).length
   ·refine⟨A++C, ?_, ?_,hV, ?_,fun _ _=>rfl,keep,fun _=>rfl⟩
    ·rw[p,e0,if_neg h6,if_pos h14,if_pos hfull];simp only[R,hf,if_false,if_neg h6,if_pos h14,if_pos hfull]
    ·rw[s,e0,if_neg h6,if_neg h235,if_pos hfull];simp only[R,hf,if_false,if_neg h6,if_pos h14,if_pos hfull]
    ·rw[e0];simp only[R,hf,if_false,if_neg h6,if_pos h14,if_pos hfull]
   ·refine⟨A++(a,c,1)::C, ?_, ?_,stv_ins hV (by omega) (hag h6) (gr_up (hcg (by omega))) hA hC, ?_,fun k' hk'=>by rw[mV hk'],keysS _ _,fun h=>by omega⟩
    ·rw[p,e0,if_neg h6,if_pos h14,if_neg hfull];simp only[R,hf,if_false,if_neg h6,if_pos h14,if_neg hfull]
    ·rw[s,e0,if_neg h6,if_neg h235,if_neg hfull];simp only[R,hf,if_false,if_neg h6,if_pos h14,if_neg hfull]
    ·rw[e0,rT hA];simp only[R,hf,if_false,if_neg h6,if_pos h14,if_neg hfull]
  have non:(k=2\/k=3\/k=5)->∃l',Ex (A++C) k a b c l':=by
   intro h235;have h6:k≠6:=by omega
   have h14:¬(k=1\/k=4):=by omega
   refine⟨A++C, ?_, ?_,hV, ?_,fun _ _=>rfl,keep,fun _=>rfl⟩
   ·rw[p,e0,if_neg h6,if_neg h14];simp only[R,hf,if_false,if_neg h6,if_neg h14]
   ·rw[s,e0,if_neg h6,if_pos h235];simp only[R,hf,if_false,if_neg h6,if_neg h14]
   ·rw[e0];simp only[R,hf,if_false,if_neg h6,if_neg h14]
  rcases hk with h|h|h|h|h|rfl
  ·exact ins (.inl h)
  ·exact non (.inl h)
  ·exact non (.inr (.inl h))
  ·exact ins (.inr h)
  ·exact non (.inr (.inr h))
  ·refine⟨A++C, ?_, ?_,hV, ?_,fun _ _=>rfl,keep,fun _=>rfl⟩
   ·rw[p,e0];simp only[R,hf,if_true,if_false]
   ·rw[s,e0];simp only[R,hf,if_true,if_false]
   ·rw[e0];simp only[R,hf,if_true,if_false]
abbrev Ss :=Int×Int×aaA
structure SesV (l:List Ss):Prop where
 rng:∀p,p∈l->0<=p.1/\p.1<6
 srt:l.Pairwise (fun p q=>p.1<q.1)
theorem SesV.nil :SesV []:=⟨by simp,.nil⟩
theorem ses_len :∀(l:List Ss) (k:Int),l.Pairwise (fun p q=>p.1<q.1)->(∀p,p∈l->k<=p.1/\p.1<6)->(l.length:Int)<=max 0 (6-k)
 |[],k,_,_=>by simp;omega
 |a::l,k,h,hr=>by
  obtain⟨h1,h2⟩:=adO.1 h
  have ha:=hr a (aaV ..)
  have:=ses_len l (a.1+1) h2 fun p hp=>⟨by have:=h1 p hp;omega,(hr p (aaU _ hp)).2⟩
  simp only[aaN]
  omega
theorem SesV.len {l:List Ss} (h:SesV l):l.length<=6:=by
 have:=ses_len l 0 h.srt h.rng;omega
inductive SView (l:List Ss) (c:Int):Prop
 |hit (A C:List Ss) (n:Int) (r:aaA) (h:l=A++(c,n,r)::C) (hA:∀a,a∈A->a.1<c) (hC:∀b,b∈C->c<b.1):SView l c
 |miss (A C:List Ss) (h:l=A++C) (hA:∀a,a∈A->a.1<c) (hC:∀b,b∈C->c<b.1):SView l c
theorem sview :∀(l:List Ss) (c:Int),l.Pairwise (fun p q=>p.1<q.1)->SView l c
 |[],c,_=> .miss [] [] rfl (by simp) (by simp)
 |(x,n,r)::l,c,h=>by
  obtain⟨h1,h2⟩:=adO.1 h
  by_cases hx:x<c
  ·cases sview l c h2 with
   |hit A C n' r' e hA hC=>exact .hit ((x,n,r)::A) C n' r' (by rw[e];rfl) (by intro a ha;rcases abC.1 ha with rfl|ha;exact hx;exact hA a ha) hC
   |miss A C e hA hC=>exact .miss ((x,n,r)::A) C (by rw[e];rfl) (by intro a ha;rcases abC.1 ha with rfl|ha;exact hx;exact hA a ha) hC
  ·by_cases he:x=c
   ·subst he
    exact .hit [] l n r rfl (by simp) h1
   ·exact .miss [] ((x,n,r)::l) rfl (by simp) (by intro b hb;rcases abC.1 hb with rfl|hb;simp only;omega;have:=h1 b hb;simp only at this;omega)
theorem jG (A B:List Ss) (i:Nat) (d:Ss):(A++B).getD i d=if i<A.length then A.getD i d else B.getD (i-A.length) d:=by
 split
 ·simp[aaC,abU, *]
 ·rename_i h;simp[aaC,abQ (aeE h)]
theorem f151_eq (A B:List Ss) (c:Int) (hc:0<=c/\c<6) (hr:∀p,p∈A++B->0<=p.1/\p.1<6) (hlen:(A++B).length<=1000000) (hA:∀a,a∈A->a.1<c) (hB:∀b,b∈B->¬b.1<c):
  f151 (A++B) c=some ((A.length:Int),decide (0<B.length)&&((B.getD 0 (default:Ss)).1==c)):=by
 have h24:∀(p:Ss),p∈A++B->f180 p.1 p.2.1 p.2.2 c=some (p.1-c):=fun p hp=>by
  have:=hr p hp;unfold f180;rw[gJ (k:= .i64) (show-9223372036854775808<=p.1-c/\p.1-c<=9223372036854775807 by omega)]
 have main:∀(K:Int->Option Tq4) (d q i j:Nat),j-i<=d->d<q->i<=A.length->A.length<=j->j<=(A++B).length->iD (A++B) c K q ((i:Int),(j:Int))=K (A.length:Int):=by
  intro K d
  induction d with
  |zero=>
   intro q i j hd hq h1 h2 h3;obtain⟨q,rfl⟩:∃z,q=z+1:=⟨q-1,by omega⟩
   conv=>lhs;unfold iD
   rw[aK (by omega)]
   congr 1;omega
  |succ d ih=>
   intro q i j hd hq h1 h2 h3;obtain⟨q,rfl⟩:∃z,q=z+1:=⟨q-1,by omega⟩
   conv=>lhs;unfold iD
   by_cases hij:i<j
   ·have em:((i:Int)+(j:Int))/2^1=(((i+j)/2:Nat):Int):=by omega
    rw[aM (by omega),aA (by omega),aA (by omega),aA (by decide),em,aA (by omega),abH];generalize hm:(i+j)/2=m;have hm1:i<=m:=by omega
    have hm2:m<j:=by omega
    rw[h24 _ (bW _ _ _ (by omega)),aC,aA (by omega)];by_cases hmA:m<A.length
    ·have hl:((A++B).getD m (default:Ss)).1<c:=by
      rw[jG,if_pos hmA];exact hA _ (bW _ _ _ hmA)
     rw[aM (by omega),aA (by omega)];have:=ih q (m+1) j (by omega) (by omega) (by omega) h2 h3;rw[<-this];rfl
    ·have hl:¬((A++B).getD m (default:Ss)).1<c:=by
      rw[jG,if_neg hmA];exact hB _ (bW _ _ _ (by rw[aaF]at h3;omega))
     rw[aK (by omega)];exact ih q i m (by omega) (by omega) h1 (by omega) (by omega)
   ·rw[aK (by omega)];congr 1;omega
 unfold f151 f179;simp only[jn];have e0:(0:Int)=((0:Nat):Int):=rfl;rw[e0,main _ (A++B).length aY 0 (A++B).length (by omega) (by unfold aY;omega) (abM _) (by simp) (aaY _)];rw[abH];by_cases hb:0<B.length
 ·have h1:decide ((A.length:Int)<(((A++B).length:Nat):Int))=true:=by rw[aaF];simp;omega
  rw[h24 _ (bW _ _ _ (by rw[aaF];omega)),h1,jG,if_neg (agV _),agH];simp only[beq_self_eq_true,acK,eH,aC];rw[aA (fun _=>by rw[aaF];omega),aC];have hd:decide (0<B.length)=true:=by simp[hb]
  rw[hd];by_cases e:(B.getD 0 (default:Ss)).1=c
  ·have e':((B.getD 0 (default:Ss)).1==c)=true:=by simpa using e
   have e2:((B.getD 0 (default:Ss)).1-c==((0:Nat):Int))=true:=by simp only[abZ];omega
   rw[e',e2];rfl
  ·have e':((B.getD 0 (default:Ss)).1==c)=false:=by simpa using e
   have e2:((B.getD 0 (default:Ss)).1-c==((0:Nat):Int))=false:=by
    cases h:((B.getD 0 (default:Ss)).1-c==((0:Nat):Int))
    ·rfl
    ·simp only[abZ]at h;omega
   rw[e',e2];rfl
 ·have h1:decide ((A.length:Int)<(((A++B).length:Nat):Int))=false:=by rw[aaF];simp;omega
  rw[h1];have hd:decide (0<B.length)=false:=by simp[hb]
  rw[hd];simp[eO,chk]
def num (l:List Ss) (c:Int):Int:=match l.find? (fun p=>p.1==c)with|some p=>p.2.1|none=>0
theorem qN {A C:List Ss} {c n:Int} {r:aaA} (hA:∀a,a∈A->a.1<c):num (A++(c,n,r)::C) c=n:=by
 unfold num;rw[adR,afM.2 fun a ha=>by have:=hA a ha;simp;omega];simp
theorem num_miss {A C:List Ss} {c:Int} (hA:∀a,a∈A->a.1<c) (hC:∀b,b∈C->c<b.1):num (A++C) c=0:=by
 unfold num
 rw [afM.2 fun a ha=>by
  rcases abR.1 ha with ha|ha
  ·have:=hA a ha;simp;omega
  ·have:=hC a ha;simp;omega]
theorem qM {A C:List Ss} {c c' n:Int} {r:aaA} (h:c'≠c):num (A++(c,n,r)::C) c'=num (A++C) c':=by
 unfold num;have e:((c,n,r).1==c')=false:=by simp;omega
 rw[adR,adR,aeA];simp only[e]
def mF (q:Ss):Bool:=(((((decide (q.1>=0))&&(decide (q.1<6)))&&(decide (q.2.1>=1)))&&(decide (q.2.1<=1000000)))&& !(q.2.2==[]))&&decide (((q.2.2.length:Nat):Int)<=200)
theorem iB {q:Ss} (h:mF q=true):0<=q.1/\q.1<6/\1<=q.2.1/\q.2.1<=1000000/\q.2.2.length<=200:=by
 unfold mF at h;simp only[aaL,abA]at h;omega
abbrev Mc :=List Pr×List Ss
structure McV (m:Mc):Prop where
 st:StV m.1
 se:SesV m.2
theorem ses_set {A C:List Ss} {c n n':Int} {r r':aaA} (h:SesV (A++(c,n,r)::C)):SesV (A++(c,n',r')::C):=by
 refine⟨fun p hp=> ?_, ?_⟩
 ·rcases abR.1 hp with hp|hp
  ·exact h.rng p (acI _ hp)
  ·rcases abC.1 hp with rfl|hp
   ·exact h.rng (c,n,r) (by simp)
   ·exact h.rng p (by simp[hp])
 ·have:=h.srt;simp only[aeH,adO]at this⊢;refine⟨this.1,this.2.1,fun a ha b hb=> ?_⟩;rcases abC.1 hb with rfl|hb
  ·exact this.2.2 a ha (c,n,r) (aaV ..)
  ·exact this.2.2 a ha b (aaU _ hb)
theorem ses_ins {A C:List Ss} {c n:Int} {r:aaA} (h:SesV (A++C)) (hc:0<=c/\c<6) (hA:∀a,a∈A->a.1<c) (hC:∀b,b∈C->c<b.1):SesV (A++(c,n,r)::C):=by
 refine⟨fun p hp=> ?_, ?_⟩
 ·rcases abR.1 hp with hp|hp
  ·exact h.rng p (acI _ hp)
  ·rcases abC.1 hp with rfl|hp
   ·exact hc
   ·exact h.rng p (adU _ hp)
 ·have:=h.srt;simp only[aeH,adO]at this⊢;refine⟨this.1,⟨hC,this.2.1⟩,fun a ha b hb=> ?_⟩;rcases abC.1 hb with rfl|hb
  ·exact hA a ha
  ·exact this.2.2 a ha b hb
theorem setS_at :∀(A C:List Ss) (x y:Ss),(A++x::C).set A.length y=A++y::C
 |[],_,_,_=>rfl
 |a::A,C,x,y=>by
  show a::(A++x::C).set A.length y=_
  rw[setS_at A C x y];rfl
theorem getS_at (A C:List Ss) (x d:Ss):(A++x::C).getD A.length d=x:=by
 rw[jG,if_neg (agV _),agH];rfl
theorem f154_eq (l:List Ss) (h:l.length<=1000000):f154 l=some l:=by
 unfold f154;rw[abc_eq,aA (by omega)]
 ·rfl
 ·intro hl;rw[aA (by omega)];have:l=[]:=aeK.1 hl;rw[this];rfl
structure Ap (m:Mc) (q:Ss) (m':Mc):Prop where
 ok:McV m'
 bad:mF q=false->m'=m
 old:mF q=true->q.2.1<=num m.2 q.1->m'=m
 new:mF q=true->q.2.1<=num m'.2 q.1
 mono:∀c,num m.2 c<=num m'.2 c
theorem aCm (x:aaA) (hx:x.length<=1000):∃k a b c e,f152 x=some (k,a,b,c,e)/\f84 x=some (k,a,b,c,e)/\a.length<=1000/\b.length<=1000/\c.length<=1000:=by
 by_cases h:NoOp x
 ·exact⟨_,_,_,_,_,f152_miss h (by omega),f84_miss h (by omega),by simp,by simp,by simp⟩
 ·obtain⟨k,a,b,c,hk,rfl⟩:∃k a b c,hY k a b c=true/\txt k a b c=x:=by
   refine Classical.byContradiction fun hn=>h fun k a b c hk hx=>hn ⟨k,a,b,c,hk,hx⟩
  obtain⟨t1,t2,t3⟩:= @txt_len k a b c;exact⟨_,_,_,_,_,f152_hit hk (by omega),f84_hit hk (by omega),by omega,by omega,by omega⟩
theorem zK :∀(q n:Nat),n<10^(q+1)->n<=1000000000000000->∀k,q+1<=k->f88 k (n:Int)=some (Lib.itoa (n:Int))
 |q,n,hn,hb,k,hk=>by
  obtain⟨k,rfl⟩:∃z,k=z+1:=⟨k-1,by omega⟩
  conv=>lhs;unfold f88
  rw[Lib.itoa_nonneg]
  by_cases h:n<10
  ·rw[aM (by omega),aA (by omega),aA (by omega),Lib.decDigits_one h]
   congr 3
  ·rw[aK (by omega)]
   match q,hn,hk with
   |0,hn,_=>omega
   |q+1,hn,hk=>
    have e1:(n:Int)/10=((n/10:Nat):Int):=by omega
    have e2:(n:Int)%10=((n%10:Nat):Int):=by omega
    rw[e1,e2,zK q (n/10) (by rw[agI]at hn;omega) (by omega) k (by omega),aC,aA (by omega),aA (by omega),aA (by omega),aA (by omega)]
    have hl:=Lib.itoa_length_le ((n/10:Nat):Int) (by omega) (by omega)
    rw[aA (by rw[acR];omega),Lib.itoa_nonneg]
    conv=>rhs;rw[Lib.decDigits,dif_neg h]
    congr 3
theorem rW {n:Int} (h0:0<=n) (h1:n<=1000000000000000):f88 aY n=some (Lib.itoa n):=by
 obtain⟨m,rfl⟩:∃m:Nat,n=m:=⟨n.toNat,by omega⟩;exact zK 15 m (by omega) (by omega) aY (by unfold aY;omega)
theorem kW (n:Nat) (hn:n<128) (k:Nat):aC2 (k+1) (n:Int)=some [UInt8.ofNat n]:=by
 conv=>lhs;unfold aC2
 rw[aM (by omega),aA (by omega),abH]
theorem aBK (n:Nat) (hn:n<16384):∃r,aC2 aY (n:Int)=some r/\r.length<=2:=by
 obtain⟨k,hk⟩:∃k,aY=k+2:=⟨aY-2,by unfold aY;omega⟩;rw[hk];by_cases h:n<128
 ·exact⟨_,kW n h (k+1),by simp⟩
 ·conv=>arg 1;intro r;lhs;lhs;unfold aC2
  have e1:(n:Int)/128=((n/128:Nat):Int):=by omega
  rw[aK (by omega),e1,kW (n/128) (by omega) k,aC,aA (by omega),aA (by omega),aA (by omega),aA (by omega),aA (by simp)];exact⟨_,rfl,by simp⟩
theorem f87_len (x:List Ty0) (hx:∀s,s∈x->s.length<=200) (hl:x.length<=100) (K:aaA->Option Ty0):∀c k n s,n+c=x.length->c<k->s.length<=2000000-c *10000->∃r,jI x K k (s,n)=K r/\r.length<=s.length+c *202
 |0,k,n,s,hn,hk,hs=>by
  obtain⟨k,rfl⟩:∃z,k=z+1:=⟨k-1,by omega⟩
  obtain rfl:n=x.length:=by omega
  refine⟨s, ?_,by omega⟩
  conv=>lhs;unfold jI
  rw[aK (by omega)]
 |c+1,k,n,s,hn,hk,hs=>by
  obtain⟨k,rfl⟩:∃z,k=z+1:=⟨k-1,by omega⟩
  have hlt:n<x.length:=by omega
  have hxn:(x.getD n []).length<=200:=by
   rw[aaC,aaO hlt]
   exact hx _ (acU ..)
  obtain⟨r,hr,hr2⟩:=aBK (x.getD n []).length (by omega)
  have hsl:(s++r).length=s.length+r.length:=aaF
  have hsl2:((s++r)++x.getD n []).length=s.length+r.length+(x.getD n []).length:=by rw[aaF,aaF]
  obtain⟨r',h1,h2⟩:=f87_len x hx hl K c k (n+1) ((s++r)++x.getD n []) (by omega) (by omega) (by omega)
  refine⟨r', ?_,by omega⟩
  conv=>lhs;unfold jI
  rw[aM (by omega),hr,aC,aA (by omega),aA (by omega),aA (by omega),aA (by omega),aA (by omega)]
  exact h1
theorem f87_tot (x:List Ty0) (hx:∀s,s∈x->s.length<=200) (hl:x.length<=4):∃r,f87 x=some r/\r.length<=2000:=by
 obtain⟨r0,h0,h02⟩:=aBK x.length (by omega);unfold f87;rw[h0,aC,bG];obtain⟨r,h1,h2⟩:=f87_len x hx (by omega) (fun s6=>some s6) x.length aY 0 r0 (by omega) (fuel_lt (by omega)) (by omega);exact⟨r,h1,by omega⟩
theorem f65_tot (c n:Int) (op:aaA) (hc:0<=c/\c<6) (hn:1<=n/\n<=1000000) (hop:op.length<=200):∃r,f65 1 0 [(c,n,op)]=some r/\r.length<=2000:=by
 have l1:=Lib.itoa_length_le c (by omega) (by omega);have l2:=Lib.itoa_length_le n (by omega) (by omega)
 obtain ⟨r, hr, hr2⟩ := f87_tot [cs2, Lib.itoa c, Lib.itoa n, op] (by
  intro s hs;simp only[abC,adJ,or_false]at hs;rcases hs with rfl|rfl|rfl|rfl
  ·decide
  ·omega
  ·omega
  ·exact hop) (by simp)
 obtain⟨k,hk⟩:∃k,aY=k+2:=⟨aY-2,by unfold aY;omega⟩;have hd1:=rW (n:=c) (by omega) (by omega);have hd2:=rW (n:=n) (by omega) (by omega)
 have hL:∀K:List Ty0->Option Ty0,jL [(c,n,op)] K aY (0,[cs2])=K [cs2,Lib.itoa c,Lib.itoa n,op]:=by
  intro K;rw[hk]
  conv=>lhs;unfold jL
  rw[aM (by simp)];simp only[abK,aaN,abB];rw[aA (by omega),hd1,aC,hd2,aC,aA (by omega),aA (by omega)]
  conv=>lhs;unfold jL
  rw[aK (by simp)];rfl
 unfold f65;rw[if_neg (by decide),if_neg (by decide),bG,hL,hr];exact⟨r,rfl,hr2⟩
theorem f64_eq (c n:Int) (op:aaA):∃v,f64 1 0 [(c,n,op)]=some v/\(v=0↔mF (c,n,op)=true):=by
 have hg:mF (c,n,op)=true↔(0<=c/\c<6/\1<=n/\n<=1000000/\op≠[]/\op.length<=200):=by
  unfold mF;simp only[aaL,abA,adM,beq_eq_false_iff_ne];constructor
  ·rintro⟨⟨⟨⟨⟨h1,h2⟩,h3⟩,h4⟩,h5⟩,h6⟩;exact⟨h1,h2,h3,h4,h5,by omega⟩
  ·rintro⟨h1,h2,h3,h4,h5,h6⟩;exact⟨⟨⟨⟨⟨h1,h2⟩,h3⟩,h4⟩,h5⟩,by omega⟩
 obtain⟨k,hk⟩:∃k,aY=k+2:=⟨aY-2,by unfold aY;omega⟩
 have h47:f120 [] c n op=some false:=by
  unfold f120;rw[bG,hk]
  conv=>lhs;unfold iF
  rw[aK (by simp)]
 have h114:∃v,f119 c n op=some v/\(v=0↔mF (c,n,op)=true):=by
  unfold f119;rw[hg];by_cases h1:0<=c/\c<6/\1<=n/\n<=1000000
  ·rw[if_neg (by simp;omega)];by_cases h2:op=[]
   ·rw[if_pos (by simp[h2])];exact⟨_,rfl,by simp[h2]⟩
   ·rw[if_neg (by simpa using h2)];by_cases h3:op.length<=200
    ·rw[aK (by omega)];exact⟨_,rfl,by simp[h1,h2,h3]⟩
    ·rw[aM (by omega)];exact⟨_,rfl,by simp;omega⟩
  ·rw[if_pos (by simp;omega)];exact⟨_,rfl,by simp;omega⟩
 obtain⟨v,hv,hvg⟩:=h114
 have h73:f86 [(c,n,op)]=some v:=by
  unfold f86;rw[bG,hk]
  conv=>lhs;unfold lC
  rw[aM (by simp)];simp only[abK,aaN,abB];rw[hv,aC,aA (by omega)];by_cases h0:v=0
  ·subst h0;rw[if_neg (by simp),show List.take 0 [(c,n,op)]=[]from rfl,h47,aC,aA (by omega),aA (by omega),if_neg (by simp),aA (by omega)]
   conv=>lhs;unfold lC
   rw[aK (by simp)]
  ·rw[if_pos (by simpa using h0)]
 unfold f64;rw[aA (by simp),aA (by simp),if_neg (by simp),aK (by simp),h73,aC];by_cases h0:v=0
 ·have:=iB (hvg.1 h0);simp only at this;obtain⟨r,hr,hr2⟩:=f65_tot c n op (by omega) (by omega) (by omega);rw[if_neg (by simpa using h0),hr,aC,aK (by omega)];exact⟨0,rfl,by rw[<-hvg];simp[h0]⟩
 ·rw[if_pos (by simpa using h0)];exact⟨v,rfl,hvg⟩
theorem f83_hit (p:List Pr) (A C:List Ss) (c n:Int) (r:aaA) (hlen:(A++(c,n,r)::C).length<=1000000) (hA:∀a,a∈A->a.1<c) (hC:∀b,b∈C->c<b.1):f83 p (A++(c,n,r)::C) c=some (c,n,r,true):=by
 have hla:(A++(c,n,r)::C).length=A.length+C.length+1:=by simp;omega
 unfold f83;rw[bG]
 rcases uW (fun q i => fT (A ++ (c, n, r) :: C) c (fun _ => some (0, 0, [], false)) q i) (A ++ (c, n, r) :: C) (default : Ss) (fun x => x.1 == c) (fun i => some ((((A ++ (c, n, r) :: C).getD i (default : Ss)).1), (((A ++ (c, n, r) :: C).getD i (default : Ss)).2.1), (((A ++ (c, n, r) :: C).getD i (default : Ss)).2.2), true)) (some (0, 0, [], false)) (fun q i hi=>by
   show fT _ _ _ (q+1) i=_
   conv=>lhs;unfold fT
   rw [aM (by omega), aA (by omega), aA (by omega), aA (by omega)]) (fun q=>by
   show fT _ _ _ (q+1) _=_
   conv=>lhs;unfold fT
   rw[aK (by omega)]) (A++(c,n,r)::C).length aY 0 (by omega) (fuel_lt (by omega))with⟨m,h1,h2,h3,h4,h5⟩|⟨h4,h5⟩
 ·rw[h4]
  have hm:m=A.length:=by
   rw[jG]at h3;by_cases e:m<A.length
   ·rw[if_pos e]at h3;have:=hA _ (bW A m (default:Ss) e);have h6:(A.getD m (default:Ss)).1=c:=beq_iff_eq.1 h3;omega
   ·rw[if_neg e]at h3;by_cases e2:m=A.length
    ·exact e2
    ·obtain⟨z,hz⟩:∃z,m-A.length=z+1:=⟨m-A.length-1,by omega⟩;rw[hz,abP]at h3;have:=hC _ (bW C z (default:Ss) (by omega));have h6:(C.getD z (default:Ss)).1=c:=beq_iff_eq.1 h3;omega
  rw[hm,getS_at]
 ·exfalso;rw[abY]at h5;have:=agS.1 h5 (c,n,r) (by simp);simp at this
theorem f83_miss (p:List Pr) (l:List Ss) (c:Int) (hlen:l.length<=1000000) (h:∀a,a∈l->(a.1==c)=false):f83 p l c=some (0,0,[],false):=by
 unfold f83
 rw [bG, aB1 (fun q i => fT l c (fun _ => some (0, 0, [], false)) q i) l (default : Ss) (fun _ => false) none (some (0, 0, [], false)) (fun q i hi=>by
   show fT _ _ _ (q+1) i=_
   conv=>lhs;unfold fT
   rw [aM (by omega), aA (by omega), h _ (bW _ _ _ hi), if_neg (by simp), aA (by omega), if_neg (by simp)]) (fun q=>by
   show fT _ _ _ (q+1) _=_
   conv=>lhs;unfold fT
   rw[aK (by omega)]) aY (fuel_lt (by omega))]
 simp
abbrev RApp :=Option (List Pr×List Ss×aaA)
theorem f62_L0_eq (x:List Ss) (c:Int) (K:List Ss->RApp) (hl:x.length<=1000) (F:Nat) (hF:x.length<F):mN x c K F (0,[])=K (x.foldl (fun s a=>if a.1<c then s++[a]else s) []):=by
 have := uU (mN x c K) x default (fun n s => s.length <= n) (fun s a => if a.1 < c then s ++ [a] else s) K (fun k n s hn hi=>by
  conv=>lhs;unfold mN
  rw[aM (by omega),bG,aA (by omega)];by_cases h:(x.getD n (default:Ss)).1<c
  ·rw[aM h,if_pos h,aA (by omega),aA (by omega)];simp only[];rw[aA (by omega)]
  ·rw[aK h,if_neg h];simp only[]
   rw [aA (by omega)]) (fun n s hn hi=>by
  split
  ·simp;omega
  ·omega) (fun k s _=>by
  conv=>lhs;unfold mN
  rw[aK (by omega)]) x.length F 0 [] (by omega) hF (aaY _)
 rw[abY]at this;exact this
theorem f62_L1_eq (x:List Ss) (c:Int) (K:List Ss->RApp) (hl:x.length<=1000) (s0:List Ss) (hs:s0.length<=1000) (F:Nat) (hF:x.length<F):mM x c K F (0,s0)=K (x.foldl (fun s a=>if a.1>c then s++[a]else s) s0):=by
 have := uU (mM x c K) x default (fun n s => s.length <= n + 1000) (fun s a => if a.1 > c then s ++ [a] else s) K (fun k n s hn hi=>by
  conv=>lhs;unfold mM
  rw[aM (by omega),bG,aA (by omega)];by_cases h:(x.getD n (default:Ss)).1>c
  ·rw[aM h,if_pos h,aA (by omega),aA (by omega)];simp only[];rw[aA (by omega)]
  ·rw[aK h,if_neg h];simp only[]
   rw [aA (by omega)]) (fun n s hn hi=>by
  split
  ·simp;omega
  ·omega) (fun k s _=>by
  conv=>lhs;unfold mM
  rw[aK (by omega)]) x.length F 0 s0 (by omega) hF (by omega)
 rw[abY]at this;exact this
theorem uV (p:Ss->Prop) [DecidablePred p]:∀(A s:List Ss),(∀a,a∈A->p a)->A.foldl (fun s a=>if p a then s++[a]else s) s=s++A
 |[],s,_=>by simp
 |a::A,s,h=>by
  rw[acF,if_pos (h a (aaV ..)),uV p A _ fun x hx=>h x (aaU _ hx)]
  simp
theorem lO (p:Ss->Prop) [DecidablePred p]:∀(A s:List Ss),(∀a,a∈A->¬p a)->A.foldl (fun s a=>if p a then s++[a]else s) s=s
 |[],s,_=>rfl
 |a::A,s,h=>by
  rw[acF,if_neg (h a (aaV ..)),lO p A _ fun x hx=>h x (aaU _ hx)]
theorem spec_ses (A C mid:List Ss) (c n:Int) (s:aaA) (hmid:∀a,a∈mid->a.1=c) (hA:∀a,a∈A->a.1<c) (hC:∀b,b∈C->c<b.1):
  ((A++mid++C).foldl (fun s a=>if a.1>c then s++[a]else s) (((A++mid++C).foldl (fun s a=>if a.1<c then s++[a]else s) [])++[(c,n,s)]))=A++(c,n,s)::C:=by
 have e1:(A++mid++C).foldl (fun s a=>if a.1<c then s++[a]else s) []=A:=by
  rw[adB,adB,uV (fun a:Ss=>a.1<c) A [] hA,lO (fun a:Ss=>a.1<c) mid _ (fun a ha=>by have:=hmid a ha;omega),lO (fun a:Ss=>a.1<c) C _ (fun a ha=>by have:=hC a ha;omega)];simp
 rw[e1,adB,adB,lO (fun a:Ss=>a.1>c) A _ (fun a ha=>by have:=hA a ha;omega),lO (fun a:Ss=>a.1>c) mid _ (fun a ha=>by have:=hmid a ha;omega),uV (fun a:Ss=>a.1>c) C _ (fun a ha=>by have:=hC a ha;omega)];simp
theorem pars_both (l1:List Pr) (op:aaA) (hop:op.length<=200) (hst:StV l1):∃s l1',StV l1'/\
  (∀ K : aaA × List Pr -> RApp, ((f152 op).bind fun(r8:Tq9)=>
   if(r8.2.2.2.2==(0:Int))=true then(aCN l1 r8.1 r8.2.1 r8.2.2.1 r8.2.2.2.1).bind fun(r9:List Pr×aaA)=>K (r9.2,r9.1)else K (cs5,l1))=K (s,l1'))/\
  (∀ K : aaA × List Pr -> RApp, ((f84 op).bind fun(r8:Tq9)=>
   if(r8.2.2.2.2==(0:Int))=true then(f85 l1 r8.1 r8.2.1 r8.2.2.1 r8.2.2.2.1).bind fun(r9:aaA×List Pr)=>K (r9.1,r9.2)else K (cs5,l1))=K (s,l1')):=by
 obtain⟨k,a,b,d,e,hp,hp2,ha,hb,hd⟩:=aCm op (by omega);obtain⟨l',hx⟩:=exec l1 k a b d hst (by omega) (by omega) (by omega);rw[hp,hp2];cases he:e==0
 ·refine⟨cs5,l1,hst,fun K=> ?_,fun K=> ?_⟩
  ·show(if(e==0)=true then(aCN l1 k a b d).bind (fun r9=>K (r9.2,r9.1))else K (cs5,l1))=_;rw[he];rfl
  ·show(if(e==0)=true then(f85 l1 k a b d).bind (fun r9=>K (r9.1,r9.2))else K (cs5,l1))=_;rw[he];rfl
 ·refine⟨(R (ent l1 a) l1.length k a b d).1,l',hx.ok,fun K=> ?_,fun K=> ?_⟩
  ·show(if(e==0)=true then(aCN l1 k a b d).bind (fun r9=>K (r9.2,r9.1))else K (cs5,l1))=_;rw[he,if_pos rfl,hx.prog];rfl
  ·show(if(e==0)=true then(f85 l1 k a b d).bind (fun r9=>K (r9.1,r9.2))else K (cs5,l1))=_;rw[he,if_pos rfl,hx.spec];rfl
theorem spec_bad (l1:List Pr) (l2:List Ss) (c n:Int) (op:aaA) (hg:mF (c,n,op)=false):f62 l1 l2 c n op=some (l1,l2,cs3):=by
 obtain⟨v,hv,hvg⟩:=f64_eq c n op;have h0:v≠0:=fun h=>Bool.noConfusion (hg.symm.trans (hvg.1 h));unfold f62;rw[hv,aC,if_pos (by simpa using h0)]
theorem wH (l1:List Pr) (l2 A mid C:List Ss) (c n:Int) (op:aaA) (hg:mF (c,n,op)=true) (hl2:l2=A++mid++C) (hl6:l2.length<=6) (hmid:∀a,a∈mid->a.1=c) (hA:∀a,a∈A->a.1<c) (hC:∀b,b∈C->c<b.1)
  (x n':Int) (r':aaA) (has:Bool) (hf:f83 l1 l2 c=some (x,n',r',has)) (s:aaA) (l1':List Pr)
  (hK : ∀ K : aaA × List Pr -> RApp, ((f84 op).bind fun(r8:Tq9)=>
   if(r8.2.2.2.2==(0:Int))=true then(f85 l1 r8.1 r8.2.1 r8.2.2.1 r8.2.2.2.1).bind fun(r9:aaA×List Pr)=>K (r9.1,r9.2)else K (cs5,l1))=K (s,l1')):
  f62 l1 l2 c n op=if(has&&decide (n'>n))=true then some (l1,l2,cs4)else if(has&&(n'==n))=true then some (l1,l2,r')else some (l1',A++(c,n,s)::C,s):=by
 obtain⟨v,hv,hvg⟩:=f64_eq c n op;have h0:v=0:=hvg.2 hg;subst h0;unfold f62;have hF:1000<aY:=fuel_lt (by omega);generalize aY=F at hF;rw[hv,aC,if_neg (by simp),hf,aC];simp only[];split
 ·rfl
 split
 ·rfl
 have hj : ∀ (J : aaA × List Pr -> RApp), ((f84 op).bind fun(r8:Tq9)=>jn J fun K1=>
   if(r8.2.2.2.2==(0:Int))=true then(f85 l1 r8.1 r8.2.1 r8.2.2.1 r8.2.2.2.1).bind fun(r9:aaA×List Pr)=>K1 (r9.1,r9.2)else K1 (cs5,l1))=J (s,l1'):=hK
 rw[hj];simp only[];rw[bG,f62_L0_eq l2 c _ (by omega) F (by omega)]
 have hle:((l2.foldl (fun s a=>if a.1<c then s++[a]else s) []).length)<=6:=by
  rw[hl2,adB,adB,uV (fun a:Ss=>a.1<c) A [] hA,lO (fun a:Ss=>a.1<c) mid _ (fun a ha=>by have:=hmid a ha;omega),lO (fun a:Ss=>a.1<c) C _ (fun a ha=>by have:=hC a ha;omega)];rw[hl2,aaF,aaF]at hl6;simp;omega
 rw[aA (by omega),bG,f62_L1_eq l2 c _ (by omega) _ (by simp;omega) F (by omega),hl2,spec_ses A C mid c n s hmid hA hC]
theorem aCV (m:Mc) (q:Ss) (hm:McV m):∃m' s,f123 m.1 m.2 q.1 q.2.1 q.2.2=some (m'.1,m'.2,s)/\f62 m.1 m.2 q.1 q.2.1 q.2.2=some (m'.1,m'.2,s)/\Ap m q m':=by
 obtain⟨l1,l2⟩:=m;obtain⟨c,n,op⟩:=q;obtain⟨hst,hse⟩:=hm;simp only at hst hse⊢
 have hgd:(((!((((decide (c>=0))&&(decide (c<6)))&&(decide (n>=1)))&&(decide (n<=1000000))))||(op==[]))||decide (((op.length:Nat):Int)>200))= !mF (c,n,op):=by
  unfold mF;simp only
  have e:decide (((op.length:Nat):Int)>200)= !decide (((op.length:Nat):Int)<=200):=by
   by_cases h:((op.length:Nat):Int)<=200
   ·simp[h]<;>omega
   ·simp[h]<;>omega
  rw[e];cases(((decide (c>=0))&&(decide (c<6)))&&(decide (n>=1)))&&(decide (n<=1000000))<;>cases op==[]<;>cases decide (((op.length:Nat):Int)<=200)<;>rfl
 unfold f123 f150;rw[aC,hgd];cases hg:mF (c,n,op)
 ·refine⟨(l1,l2),cs3,by simp,spec_bad l1 l2 c n op hg,⟨⟨hst,hse⟩,fun _=>rfl,fun h=>Bool.noConfusion (hg.symm.trans h),fun h=>Bool.noConfusion (hg.symm.trans h),fun _=>aeN _⟩⟩
 obtain⟨c0,c6,n1,n2,hop⟩:=iB hg;simp only at c0 c6 n1 n2 hop;have hl6:=hse.len;rw[if_neg (by simp)];obtain⟨s,l1',hv',hK,hK2⟩:=pars_both l1 op hop hst;simp only[hK]
 cases sview l2 c hse.srt with
 |hit A C n' r' e hA hC=>
  subst e
  have hf := f151_eq A ((c, n', r') :: C) c ⟨c0, c6⟩ hse.rng (by omega) hA (fun b hb=>by
   rcases abC.1 hb with rfl|hb
   ·simp
   ·have:=hC b hb;omega)
  have hf':f151 (A++(c,n',r')::C) c=some ((A.length:Int),true):=by rw[hf];simp
  have hla:(A++(c,n',r')::C).length=A.length+C.length+1:=by simp;omega
  have hnum:=qN (n:=n') (r:=r') (C:=C) hA;have hsp:=wH l1 (A++(c,n',r')::C) A [(c,n',r')] C c n op hg (by simp) hl6 (fun a ha=>by rw[adP.1 ha]) hA hC c n' r' true (f83_hit l1 A C c n' r' (by omega) hA hC) s l1' hK2;simp only[acK]at hsp;rw[hf',aC];simp only[abH,getS_at,acK];rw[aA (fun _=>by rw[hla];omega)];by_cases h1:n'>n
  ·rw[aM h1];rw[aM h1]at hsp;exact⟨(l1,A++(c,n',r')::C),_,rfl,hsp,⟨⟨hst,hse⟩,fun _=>rfl,fun _ _=>rfl,fun _=>(by simp only;rw[hnum];omega),fun _=>aeN _⟩⟩
  rw[aK h1,aA (fun _=>by rw[hla];omega)];rw[aK h1]at hsp;by_cases h2:n'=n
  ·have e2:(n'==n)=true:=by simp[h2]
   rw[e2,if_pos rfl,aA (by rw[hla];omega)];rw[e2,if_pos rfl]at hsp;exact⟨(l1,A++(c,n',r')::C),_,rfl,hsp,⟨⟨hst,hse⟩,fun _=>rfl,fun _ _=>rfl,fun _=>(by simp only;rw[hnum];omega),fun _=>aeN _⟩⟩
  ·have e2:(n'==n)=false:=by simp[h2]
   rw[e2,if_neg (by simp),bG];rw[e2,if_neg (by simp)]at hsp;refine⟨(l1',A++(c,n,s)::C),s, ?_,hsp,⟨⟨hv',ses_set hse⟩,fun h=>Bool.noConfusion (hg.symm.trans h),fun _ h=>(by simp only at h;rw[hnum]at h;omega),fun _=>(by simp only;rw[qN hA];exact aeN _),fun c'=> ?_⟩⟩
   ·simp only[];rw[f154_eq _ (by omega),aC,bG,if_pos (by simp),aA (by rw[hla];omega),aA (by rw[hla];omega),setS_at]
   ·simp only;by_cases hc:c'=c
    ·rw[hc,hnum,qN hA];omega
    ·rw[qM hc,qM hc];exact aeN _
 |miss A C e hA hC=>
  subst e;have hf:=f151_eq A C c ⟨c0,c6⟩ hse.rng (by omega) hA (fun b hb=>by have:=hC b hb;omega)
  have hf':f151 (A++C) c=some ((A.length:Int),false):=by
   rw[hf]
   cases C with
   |nil=>simp
   |cons b C=>
    have:=hC b (aaV ..);have e:(b.1==c)=false:=by simp;omega
    simp[e]
  have hnum:=num_miss hA hC;have hsp:=wH l1 (A++C) A [] C c n op hg (by simp) hl6 (fun a ha=>(adJ ha).elim) hA hC 0 0 [] false (f83_miss l1 (A++C) c (by omega) (fun a ha=>beq_eq_false_iff_ne.2 (by rcases abR.1 ha with ha|ha;have:=hA a ha;omega;have:=hC a ha;omega))) s l1' hK2;rw[adA,adA,if_neg (by simp),if_neg (by simp)]at hsp;rw[hf',aC];simp only[adA,abL,if_false];rw[aA (fun h=>by cases h),aA (fun h=>by cases h),bG]
  have e16:f155 (A.length:Int) (A++C) [(c,n,s)]=some (A++(c,n,s)::C,[(c,n,s)]):=by
   unfold f155;by_cases hc:A.length<(A++C).length
   ·rw[if_pos ⟨by omega,by rw[abH];exact hc,by simp,by simp;simp at hl6;omega⟩,abH];simp
   ·have:C=[]:=by
     cases C with
     |nil=>rfl
     |cons b C=>simp at hc
    subst this;rw[if_neg (by rw[abH];omega)];unfold f155e;rw[aeB,aA (by omega),if_neg (by simp),if_pos (by simp),aA (by simp;simp at hl6;omega)]
  refine⟨(l1',A++(c,n,s)::C),s, ?_,hsp,⟨⟨hv',ses_ins hse ⟨c0,c6⟩ hA hC⟩,fun h=>Bool.noConfusion (hg.symm.trans h),fun _ h=>(by simp only at h;rw[hnum]at h;omega),fun _=>(by simp only;rw[qN hA];exact aeN _),fun c'=> ?_⟩⟩
  ·simp only[];rw[f154_eq _ (by omega),aC,bG,e16,aC]
  ·simp only;by_cases hc:c'=c
   ·rw[hc,qN hA,hnum];omega
   ·rw[qM hc];exact aeN _
def wE (m:Mc) (q:Ss):Mc:=let t:=(f62 m.1 m.2 q.1 q.2.1 q.2.2).getD ([],[],[]);(t.1,t.2.1)
theorem stpR_ex {m:Mc} (q:Ss) (hm:McV m):∃s,f123 m.1 m.2 q.1 q.2.1 q.2.2=some ((wE m q).1,(wE m q).2,s)/\f62 m.1 m.2 q.1 q.2.1 q.2.2=some ((wE m q).1,(wE m q).2,s)/\Ap m q (wE m q):=by
 obtain⟨m',s,h1,h2,ha⟩:=aCV m q hm
 have e:wE m q=m':=by
  unfold wE;rw[h2];rfl
 rw[e];exact⟨s,h1,h2,ha⟩
open Go
theorem bits_u8 (x y:Int):0<=eB .and .u8 x y/\eB .and .u8 x y<=255:=by
 unfold eB;generalize((BitVec.ofInt IntKind.u8.bits x&&&BitVec.ofInt IntKind.u8.bits y).toNat:Int)=n;unfold IntKind.wrap;simp[IntKind.bits,IntKind.signed];omega
theorem bits_u64 (x y:Int):0<=eB .or .u64 x y/\eB .or .u64 x y<=18446744073709551615:=by
 unfold eB;generalize((BitVec.ofInt IntKind.u64.bits x|||BitVec.ofInt IntKind.u64.bits y).toNat:Int)=n;unfold IntKind.wrap;simp[IntKind.bits,IntKind.signed];omega
theorem or64 (a b:Nat) (ha:a<2^64) (hb:b<2^64):eB .or .u64 (a:Int) (b:Int)=((a|||b:Nat):Int):=by
 have h:(BitVec.ofInt IntKind.u64.bits (a:Int)|||BitVec.ofInt IntKind.u64.bits (b:Int)).toNat=a|||b:=by
  have e:IntKind.u64.bits=64:=rfl;rw[e,BitVec.toNat_or,BitVec.ofInt_natCast,BitVec.ofInt_natCast,BitVec.toNat_ofNat,BitVec.toNat_ofNat,aeO ha,aeO hb]
 unfold eB;simp only[h];have:=Nat.or_lt_two_pow ha hb;exact gJ (k:= .u64) (show 0<=((a|||b:Nat):Int)/\((a|||b:Nat):Int)<=18446744073709551615 by omega)
theorem and127 :∀m:Fin 256,eB .and .u8 ((m.val:Nat):Int) 127=((m.val%128:Nat):Int):=by decide+kernel
def chk8 (c:Nat):Option Int->Bool
 |some r=>decide (c<2^r.toNat)&&decide (0<=r)&&decide (r<=8)
 |none=>false
theorem len8 :∀c:Fin 128,chk8 c.val (f192 ((c.val:Nat):Int))=true:=by decide+kernel
theorem len8' (c:Nat) (h:c<128):∃t:Nat,f192 (c:Int)=some (t:Int)/\c<2^t/\t<=8:=by
 have h1:=len8 ⟨c,h⟩;simp only at h1;generalize f192 ((c:Nat):Int)=q at h1
 cases q with
 |none=>cases h1
 |some r=>
  simp only[chk8,aaL,abA]at h1;obtain⟨⟨h3,h4⟩,h5⟩:=h1;exact⟨r.toNat,by rw[aeM h4],h3,by omega⟩
theorem shl_ok (c t n:Nat) (hc:c<2^t) (h:t+7 *n<=64):c *2^(7 *n)<18446744073709551616:=by
 have h1:c *2^(7 *n)<2^t *2^(7 *n):=Nat.mul_lt_mul_of_pos_right hc (Nat.pow_pos (by decide));rw[<-Nat.pow_add]at h1;have h2:2^(t+7 *n)<=2^64:=aeV (by decide) h;omega
theorem uT (x:aaA) (K:Unit->Option Tq6) (i:Int) (n k c:Nat) (hn:n<min x.length 10) (hx:x.length<=1000000) (hc:(x.getD n 0).toNat=c) (h8:c<128):
  ∃t:Nat,f192 (c:Int)=some (t:Int)/\eK x K (k+1) (i,n)=if 64<t+7 *n then some (0,0,7)else if c=0/\0<n then some (0,0,2)else some (eB .or .u64 i (((c *2^(7 *n):Nat):Int)),((n+1:Nat):Int),0):=by
 obtain⟨t,ht,h1,h2⟩:=len8' c h8;refine⟨t,ht, ?_⟩
 conv=>lhs;unfold eK
 rw[hc,aM (by omega),aA (by omega),aK (by omega),ht,aC,aA (by omega),aA (by omega)];by_cases h64:64<t+7 *n
 ·rw[aM (by omega),if_pos h64]
 ·rw[aK (by omega),if_neg h64];by_cases hz:c=0/\0<n
  ·rw[if_pos (by simp;omega),if_pos hz]
  ·rw[if_neg (by simp;omega),if_neg hz,aA (by omega),aA (by omega)];have hs:=shl_ok c t n h1 (by omega);have hb:IntKind.bits .u64=64:=rfl
   have e:((c:Int) *2^(7 *n))=((c *2^(7 *n):Nat):Int):=by
    rw[Int.natCast_mul,Int.natCast_pow];rfl
   rw[e,aA ⟨by omega,by omega,by omega⟩,aA (by omega)]
theorem aBg (x:aaA) (K:Unit->Option Tq6) (i:Int) (n k c:Nat) (hn:n<min x.length 10) (hx:x.length<=1000000) (hc:(x.getD n 0).toNat=c) (h8:128<=c):
  eK x K (k+1) (i,n)=eK x K k (eB .or .u64 i (IntKind.wrap .u64 (eB .and .u8 (c:Int) 127 *2^min (7 *n) (IntKind.bits .u64))),n+1):=by
 have hb:=bits_u8 (c:Int) 127
 conv=>lhs;unfold eK
 rw[hc,aM (by omega),aA (by omega),aM (by omega),aA (by omega),aA (by omega),aA (by omega)]
theorem get_end (x:aaA) (K:Unit->Option Tq6) (i:Int) (n k:Nat) (hn:¬n<min x.length 10):eK x K (k+1) (i,n)=K ():=by
 conv=>lhs;unfold eK
 rw[aK (by omega)]
theorem oX (x:aaA) (hx:x.length<=1000000) (K:Unit->Option Tq6) (hK:∃e,K ()=some (0,0,e)/\e≠0):∀(c k n:Nat) (i:Int),n+c=min x.length 10->c<k->
  ∃v j e,eK x K k (i,n)=some (v,j,e)/\(e=0->0<=v/\v<=18446744073709551615/\1<=j/\j<=(x.length:Int))
 |0,k,n,i,hn,hk=>by
  obtain⟨k,rfl⟩:∃z,k=z+1:=⟨k-1,by omega⟩
  obtain⟨e,he,h0⟩:=hK
  rw[get_end x K i n k (by omega),he]
  exact⟨0,0,e,rfl,fun h=>absurd h h0⟩
 |c+1,k,n,i,hn,hk=>by
  obtain⟨k,rfl⟩:∃z,k=z+1:=⟨k-1,by omega⟩
  by_cases h8:(x.getD n 0).toNat<128
  ·obtain⟨t,_,h⟩:=uT x K i n k _ (by omega) hx rfl h8
   rw[h]
   split
   ·exact⟨_,_,_,rfl,fun h=>by cases h⟩
   ·split
    ·exact⟨_,_,_,rfl,fun h=>by cases h⟩
    ·have:=bits_u64 i (((x.getD n 0).toNat *2^(7 *n):Nat):Int)
     exact⟨_,_,_,rfl,fun _=>⟨this.1,this.2,by omega,by omega⟩⟩
  ·rw[aBg x K i n k _ (by omega) hx rfl (by omega)]
   exact oX x hx K hK c k (n+1) _ (by omega) (by omega)
theorem yR (x:aaA) (hx:x.length<=1000000):∃v j e,f156 x=some (v,j,e)/\(e=0->0<=v/\v<=18446744073709551615/\1<=j/\j<=(x.length:Int)):=by
 unfold f156;rw[bG];refine oX x hx _ ?_ (min x.length 10) aY 0 0 (by omega) (fuel_lt (by omega));by_cases h:x.length<10
 ·exact⟨9,by rw[aM (by omega)],by decide⟩
 ·exact⟨7,by rw[aK (by omega)],by decide⟩
theorem yQ (n:Nat) (r:aaA) (hn:n<16384) (hx:(dU n++r).length<=1000000):f156 (dU n++r)=some ((n:Int),((dU n).length:Int),0):=by
 obtain⟨k,hk⟩:∃k,aY=k+2:=⟨aY-2,by unfold aY;omega⟩;unfold f156;rw[bG,hk];by_cases h:n<128
 ·rw[fL h]at hx⊢;have e:([UInt8.ofNat n]++r).getD 0 0=UInt8.ofNat n:=rfl;have e2:(([UInt8.ofNat n]++r).getD 0 0).toNat=n:=by rw[e];simp[UInt8.toNat_ofNat'];omega
  obtain⟨t,ht,h1⟩:=uT ([UInt8.ofNat n]++r) (fun(_:Unit)=>if(decide (((([UInt8.ofNat n]++r).length:Nat):Int)<(10:Int)))then some ((0:Int),(0:Int),(9:Int))else some ((0:Int),(0:Int),(7:Int))) 0 0 (k+1) n (by simp;omega) hx e2 h;obtain⟨t',ht',_,h8⟩:=len8' n h;rw[ht]at ht';cases ht';rw[h1,if_neg (by omega),if_neg (by omega)];have:=or64 0 n (by omega) (by omega);rw[Nat.zero_or]at this;simpa using this
 ·rw[mX h,fL (show n/128<128 by omega)]at hx⊢;generalize hy:UInt8.ofNat (n%128+128)::[UInt8.ofNat (n/128)]++r=y at hx⊢;have e0:(y.getD 0 0).toNat=n%128+128:=by rw[<-hy];simp[UInt8.toNat_ofNat'];omega
  have e1:(y.getD 1 0).toNat=n/128:=by rw[<-hy];simp[UInt8.toNat_ofNat'];omega
  have hl:2<=y.length:=by rw[<-hy];simp
  rw[aBg y _ 0 0 (k+1) _ (by omega) hx e0 (by omega)];have ea:=and127 ⟨n%128+128,by omega⟩;simp only at ea;rw[ea];have em:(n%128+128)%128=n%128:=by omega
  have ew:IntKind.wrap .u64 (((n%128+128)%128:Nat) *2^min (7 *0) (IntKind.bits .u64))=((n%128:Nat):Int):=by
   rw[em];have:((2:Int)^min (7 *0) (IntKind.bits .u64))=1:=rfl;rw[this,Int.mul_one];exact gJ (k:= .u64) (show 0<=((n%128:Nat):Int)/\((n%128:Nat):Int)<=18446744073709551615 by omega)
  rw[ew];have eo:=or64 0 (n%128) (by omega) (by omega);rw[Nat.zero_or]at eo;have eo':eB .or .u64 0 ((n%128:Nat):Int)=((n%128:Nat):Int):=eo;rw[eo'];obtain⟨t',ht',_,h8⟩:=len8' (n/128) (by omega);obtain⟨t,ht,h1⟩:=uT y (fun(_:Unit)=>if(decide (((y.length:Nat):Int)<(10:Int)))then some ((0:Int),(0:Int),(9:Int))else some ((0:Int),(0:Int),(7:Int))) ((n%128:Nat):Int) 1 k (n/128) (by omega) hx e1 (by omega);rw[ht]at ht';cases ht';rw[h1,if_neg (by omega),if_neg (by omega)];have e3:=or64 (n%128) (n/128 *2^(7 *1)) (by omega) (by omega)
  have e4:(n%128|||n/128 *2^(7 *1))=n:=by
   have:=Nat.two_pow_add_eq_or_of_lt (i:=7) (b:=n%128) (by omega) (n/128);rw[Nat.or_comm,show n/128 *2^(7 *1)=2^7 *(n/128) by omega,<-this];omega
  rw[e3,e4];rfl
theorem f126_some (x:aaA) (hx:x.length<=1000000):∃s j e,f126 x=some (s,j,e)/\(e=0->1<=j/\j<=(x.length:Int)/\s.length<=x.length):=by
 obtain⟨v,j,e,h,hb⟩:=yR x hx;unfold f126;rw[h,aC];by_cases he:e=0
 ·subst he;obtain⟨h1,h2,h3,h4⟩:=hb rfl;rw[if_neg (by simp)];dsimp only;rw[aA (by omega),aA (by omega)];by_cases hv:v>(x.length:Int)-j
  ·rw[aM hv];exact⟨_,_,_,rfl,fun h=>by cases h⟩
  ·rw[aK hv,aA (by omega),aA (by omega),aA (by omega)];refine⟨_,_,_,rfl,fun _=>⟨by omega,by omega, ?_⟩⟩;simp only[aaZ,abE];omega
 ·rw[if_pos (by simpa using he)];exact⟨_,_,_,rfl,fun h=>absurd h he⟩
def item (s:aaA):aaA:=dU s.length++s
theorem f126_item (s r:aaA) (hs:s.length<16384) (hx:(item s++r).length<=1000000):f126 (item s++r)=some (s,((item s).length:Int),0):=by
 unfold item at hx⊢;rw[acD]at hx⊢;unfold f126;rw[yQ s.length (s++r) hs hx,aC];have hl:(dU s.length++(s++r)).length=(dU s.length).length+(s.length+r.length):=by simp
 have hl2:(dU s.length++s).length=(dU s.length).length+s.length:=by simp
 rw[if_neg (by simp)];dsimp only;rw[aA (by omega),aA (by omega),aK (by omega),aA (by omega),aA (by omega),aA (by omega)];have e:((dU s.length).length:Int)+(s.length:Int)=(((dU s.length).length+s.length:Nat):Int):=by omega
 rw[e,abH,abH,<-acD,<-hl2,aeG,agO]
def gD (L:List Ty0):aaA:=(L.map item).flatten
theorem hP (L:List Ty0):cX L=dU L.length++gD L:=rfl
theorem cR (s:aaA) (L:List Ty0):gD (s::L)=item s++gD L:=rfl
theorem yV (x:aaA) (hx:x.length<=1000000) (r2:Tq6) (K:Int×List Ty0->Option (Int×Int×List Ty0)) (hK:∀i l,∃j e l',K (i,l)=some (j,e,l')/\l'=l):
  ∀(c k i n:Nat) (l:List Ty0),i+c=x.length->c<k->n<=i->l.length=n->(∀s,s∈l->s.length<=x.length)->∃j e l',eT x r2 K k ((i:Int),n,l)=some (j,e,l')/\(∀s,s∈l'->s.length<=x.length)/\l'.length<=x.length:=by
 intro c
 induction c using Nat.strongRecOn with
 |ind c ih=>
  intro k i n l hi hk hn hl hs;obtain⟨k,rfl⟩:∃z,k=z+1:=⟨k-1,by omega⟩;by_cases hr:(n:Int)<r2.1
  ·obtain⟨s,j,e,h,hb⟩:=f126_some (x.drop i) (by rw[aaZ];omega);rw[aaZ]at hb
   have hu:eT x r2 K (k+1) ((i:Int),n,l)=if(e !=0)=true then some (0,e,[])else chk ((l.length+1) *16<=140737488355328) (chk (-9223372036854775808<=(i:Int)+j/\(i:Int)+j<=9223372036854775807) (chk ((n:Int)+1<=18446744073709551615) (eT x r2 K k ((i:Int)+j,n+1,l++[s])))):=by
    conv=>lhs;unfold eT
    rw[aM hr,abH,h,aC,aA (by omega)]
   rw[hu];by_cases he:e=0
   ·subst he;obtain⟨h1,h2,h3⟩:=hb rfl;rw[if_neg (by simp),aA (by omega),aA (by omega),aA (by omega)];obtain⟨m,rfl⟩:∃m:Nat,j=m:=⟨j.toNat,by omega⟩
    have := ih (c - m) (by omega) k (i + m) (n + 1) (l ++ [s]) (by omega) (by omega) (by omega) (by simp [hl]) (fun t ht=>by
     rcases abR.1 ht with ht|ht
     ·exact hs t ht
     ·simp only[adP]at ht;subst ht;omega)
    simpa using this
   ·rw[if_pos (by simpa using he)];exact⟨_,_,_,rfl,by simp,by simp⟩
  ·obtain⟨j,e,l',h,rfl⟩:=hK i l;refine⟨j,e,l', ?_,hs,by omega⟩
   conv=>lhs;unfold eT
   rw[aK hr];exact h
theorem f96_some (x:aaA) (hx:x.length<=1000000):∃j e l,f96 x=some (j,e,l)/\(∀s,s∈l->s.length<=x.length)/\l.length<=x.length:=by
 obtain⟨v,j,e,h,hb⟩:=yR x hx
 have h119:∃j e l,f125 x=some (j,e,l)/\(∀s,s∈l->s.length<=x.length)/\l.length<=x.length:=by
  unfold f125;rw[h,aC];by_cases he:e=0
  ·subst he;obtain⟨h1,h2,h3,h4⟩:=hb rfl;rw[if_neg (by simp),bG];obtain⟨m,rfl⟩:∃m:Nat,j=m:=⟨j.toNat,by omega⟩;exact yV x hx _ _ (fun i l=>⟨i,0,l,rfl,rfl⟩) (x.length-m) aY m 0 [] (by omega) (fuel_lt (by omega)) (by omega) rfl (by simp)
  ·rw[if_pos (by simpa using he)];exact⟨_,_,_,rfl,by simp,by simp⟩
 obtain⟨j,e,l,h,hs⟩:=h119;unfold f96;rw[h];exact⟨j,e,l,rfl,hs⟩
theorem uE (n:Nat):1<=(dU n).length:=by
 rw[dU];split<;>simp
theorem item_pos (s:aaA):1<=(item s).length:=by
 unfold item;have:=uE s.length;rw[aaF];omega
theorem mT (x:aaA) (hx:x.length<=1000000) (r2:Tq6) (K:Int×List Ty0->Option (Int×Int×List Ty0)) (L:List Ty0) (hr:r2.1=(L.length:Int)):
  ∀(M:List Ty0) (A:aaA) (D:List Ty0) (k:Nat),(∀s,s∈M->s.length<16384)->x=A++gD M->L=D++M->D.length<=A.length->M.length<k->eT x r2 K k ((A.length:Int),D.length,D)=K ((x.length:Int),L)
 |[],A,D,k,_,hxe,hL,_,hk=>by
  obtain⟨k,rfl⟩:∃z,k=z+1:=⟨k-1,by omega⟩
  have e1:x.length=A.length:=by rw[hxe];simp[gD]
  have e2:L=D:=by rw[hL];simp
  conv=>lhs;unfold eT
  rw[aK (by rw[hr,e2];omega),e1,e2]
 |s::M,A,D,k,hM,hxe,hL,hD,hk=>by
  obtain⟨k,rfl⟩:∃z,k=z+1:=⟨k-1,by omega⟩
  simp only[aaN]at hk
  have hl:L.length=D.length+(M.length+1):=by rw[hL];simp
  have e1:x.drop A.length=item s++gD M:=by rw[hxe,agO,cR]
  have hxl:x.length=A.length+((item s).length+(gD M).length):=by rw[hxe,cR];simp
  have h:=f126_item s (gD M) (hM s (aaV ..)) (by rw[<-e1,aaZ];omega)
  have hp:=item_pos s
  have ih := mT x hx r2 K L hr M (A ++ item s) (D ++ [s]) k (fun t ht => hM t (aaU _ ht)) (by rw [hxe, cR]; simp) (by rw [hL]; simp) (by
   simp only[aaF,acR]
   omega) (by omega)
  conv=>lhs;unfold eT
  rw[aM (by rw[hr];omega),abH,e1,h,aC,aA (by omega),if_neg (by simp)]
  dsimp only
  rw[aA (by omega),aA (by omega),aA (by omega),<-ih]
  simp
theorem f96_plist (L:List Ty0) (hL:L.length<16384) (hs:∀s,s∈L->s.length<16384) (hx:(cX L).length<=1000000):f96 (cX L)=some (((cX L).length:Int),0,L):=by
 have h119:f125 (cX L)=some (((cX L).length:Int),0,L):=by
  unfold f125;rw[hP]at hx⊢;rw[yQ L.length (gD L) hL hx,aC,if_neg (by simp),bG];exact mT (dU L.length++gD L) hx ((L.length:Int),((dU L.length).length:Int),0) _ L rfl L (dU L.length) [] aY hs rfl rfl (abM _) (fuel_lt (by omega))
 unfold f96;rw[h119];rfl
open Go
abbrev Ent :=Int×Int×List Ss×Int
def errE :Ent:=((0:Int),(0:Int),[],(2:Int))
def pH :aaA:=[106,111,105,110]
def flt (l:List Ss):List Ty0:=l.flatMap fun q=>[Lib.itoa q.1,Lib.itoa q.2.1,q.2.2]
def strs (k c:Int) (l:List Ss):List Ty0:=if k=2 then[pH,Lib.itoa c]else if k=3 then[cs1]else cs2::flt l
def zQ (l:List Ss) (i:Nat):Bool:=mF (l.getD i default)&& !((l.take i).any fun p=>p.1==(l.getD i default).1&&p.2.1==(l.getD i default).2.1)
def okRs (l:List Ss):Prop:=∀i,i<l.length->zQ l i=true
def okE (k c:Int) (l:List Ss):Prop:=(k=1/\c=0/\l.length<=8/\okRs l)\/(k=2/\0<=c/\c<6/\l=[])\/(k=3/\c=0/\l=[])
theorem aBf (c n:Int) (op:aaA):mF (c,n,op)=true↔(0<=c/\c<6/\1<=n/\n<=1000000/\op≠[]/\op.length<=200):=by
 unfold mF;simp only[aaL,abA,adM,beq_eq_false_iff_ne];constructor
 ·rintro⟨⟨⟨⟨⟨h1,h2⟩,h3⟩,h4⟩,h5⟩,h6⟩;exact⟨h1,h2,h3,h4,h5,by omega⟩
 ·rintro⟨h1,h2,h3,h4,h5,h6⟩;exact⟨⟨⟨⟨⟨h1,h2⟩,h3⟩,h4⟩,h5⟩,by omega⟩
theorem kU {l:List Ss} (h:okRs l):∀q,q∈l->mF q=true:=by
 intro q hq;obtain⟨i,hi,rfl⟩:=afV.1 hq;have:=h i hi;unfold zQ at this;simp only[aaL]at this;have e:l.getD i default=l[i]:=by simp[aaC,hi]
 rw[e]at this;exact this.1
theorem lM (l:List Ss):(flt l).length=3 *l.length:=by
 unfold flt
 induction l with
 |nil=>rfl
 |cons a l ih=>simp[ih];omega
theorem pS (q:Ss) (l:List Ss):flt (q::l)=Lib.itoa q.1::Lib.itoa q.2.1::q.2.2::flt l:=rfl
theorem itoa1 (n:Int) (h0:0<=n) (h1:n<10):(Lib.itoa n).length=1:=by
 rw[Lib.itoa,if_neg (by omega),Lib.decDigits,dif_pos (by omega)];rfl
theorem flt_small {l:List Ss} (h:∀q,q∈l->mF q=true):∀s,s∈flt l->s.length<=200:=by
 intro s hs;unfold flt at hs;obtain⟨q,hq,hs⟩:=List.mem_flatMap.1 hs;have hg:=iB (h q hq);simp only[abC,adJ,or_false]at hs;rcases hs with rfl|rfl|rfl
 ·have:=itoa1 q.1 (by omega) (by omega);omega
 ·have:=qT q.2.1 (by omega) (by omega);omega
 ·omega
theorem kL {k c:Int} {l:List Ss} (h:okE k c l):(∀s,s∈strs k c l->s.length<=200)/\(strs k c l).length<=25/\0<(strs k c l).length:=by
 rcases h with⟨rfl,rfl,h1,h2⟩|⟨rfl,h1,h2,rfl⟩|⟨rfl,rfl,rfl⟩
 ·rw[strs,if_neg (by decide),if_neg (by decide)];refine⟨fun s hs=> ?_,by rw[aaN,lM];omega,by simp⟩;rcases abC.1 hs with rfl|hs
  ·decide
  ·exact flt_small (kU h2) s hs
 ·rw[strs,if_pos rfl];refine⟨fun s hs=> ?_,by simp,by simp⟩;simp only[abC,adJ,or_false]at hs;rcases hs with rfl|rfl
  ·decide
  ·have:=itoa1 c (by omega) (by omega);omega
 ·rw[strs,if_neg (by decide),if_pos rfl];exact⟨fun s hs=>by simp only[adP]at hs;subst hs;decide,by simp,by simp⟩
theorem items_len (L:List Ty0) (b:Nat) (hb:b<16384) (h:∀s,s∈L->s.length<=b):(gD L).length<=L.length *(b+2):=by
 induction L with
 |nil=>simp[gD]
 |cons s L ih=>
  have h1:=ih fun t ht=>h t (aaU _ ht);have h2:=h s (aaV ..);have h3:=dX 1 s.length (by omega);rw[cR,aaF,item,aaF,aaN,acA];omega
theorem qJ (L:List Ty0) (b:Nat) (hb:b<16384) (hl:L.length<16384) (h:∀s,s∈L->s.length<=b):(cX L).length<=2+L.length *(b+2):=by
 have h1:=items_len L b hb h;have h2:=dX 1 L.length (by omega);rw[hP,aaF];omega
theorem flt_items {l:List Ss} (h:∀q,q∈l->mF q=true):(gD (flt l)).length<=l.length *212:=by
 induction l with
 |nil=>simp[gD,flt]
 |cons q l ih=>
  have h1:=ih fun t ht=>h t (aaU _ ht);have hg:=iB (h q (aaV ..));have a1:=itoa1 q.1 (by omega) (by omega);have a2:=qT q.2.1 (by omega) (by omega);have v1:=dX 0 (Lib.itoa q.1).length (by omega);have v2:=dX 0 (Lib.itoa q.2.1).length (by omega);have v3:=dX 1 q.2.2.length (by omega);rw[pS,cR,cR,cR];simp only[aaF,item,aaN];omega
theorem zR {k c:Int} {l:List Ss} (h:okE k c l):(cX (strs k c l)).length<=2000:=by
 rcases h with⟨rfl,rfl,h1,h2⟩|⟨rfl,h1,h2,rfl⟩|⟨rfl,rfl,rfl⟩
 ·rw[strs,if_neg (by decide),if_neg (by decide),hP,cR];have:=flt_items (kU h2);have hl:(cs2::flt l).length=1+3 *l.length:=by rw[aaN,lM];omega
  have v:=dX 0 (cs2::flt l).length (by omega)
  have e:(item cs2).length=6:=by
   have:cs2.length=5:=rfl;rw[item,aaF,this,fL (by decide)];rfl
  simp only[aaF];omega
 ·rw[strs,if_pos rfl]
  have := qJ [pH, Lib.itoa c] 200 (by omega) (by simp) (fun s hs=>by
   simp only[abC,adJ,or_false]at hs;rcases hs with rfl|rfl
   ·decide
   ·have:=itoa1 c (by omega) (by omega);omega)
  simp only[aaN,abB]at this;omega
 ·rw[strs,if_neg (by decide),if_pos rfl];have:=qJ [cs1] 200 (by omega) (by simp) (fun s hs=>by simp only[adP]at hs;subst hs;decide);simp only[aaN,abB]at this;omega
theorem tY (x:List Ss) (hl:x.length<=1000000) (c m:Int) (s:aaA) (K:Int×Int×aaA->Option (Int×Int×Int×aaA)):∀(d k n:Nat),n+d=x.length->d<k->
  ((x.drop n).any (fun p=>p.1==c&&p.2.1==m)=true->∃i:Nat,fY x K k (n,c,m,s)=some ((i:Int),c,m,s))/\((x.drop n).any (fun p=>p.1==c&&p.2.1==m)=false->fY x K k (n,c,m,s)=K (c,m,s))
 |0,k,n,hn,hk=>by
  obtain⟨k,rfl⟩:∃z,k=z+1:=⟨k-1,by omega⟩
  rw[abF (by omega)]
  refine⟨fun h=>by simp at h,fun _=> ?_⟩
  conv=>lhs;unfold fY
  rw[aK (by omega)]
 |d+1,k,n,hn,hk=>by
  obtain⟨k,rfl⟩:∃z,k=z+1:=⟨k-1,by omega⟩
  obtain⟨i1,i2⟩:=tY x hl c m s K d k (n+1) (by omega) (by omega)
  have e:fY x K (k+1) (n,c,m,s)=if((x.getD n default).1==c&&(x.getD n default).2.1==m)=true then some ((n:Int),c,m,s)else fY x K k (n+1,c,m,s):=by
   conv=>lhs;unfold fY
   rw[aM (by omega)]
   unfold f196 f197
   simp only[aC]
   rw[aA (by omega),aA (by omega)]
  rw[e,getD_drop x n default (by omega),adH]
  cases h:((x.getD n default).1==c&&(x.getD n default).2.1==m)
  ·simp only[adG,abL,if_false]
   exact⟨i1,i2⟩
  ·refine⟨fun _=>⟨n,by simp⟩,fun h=>by simp at h⟩
theorem f162_eq (x:List Ss) (hl:x.length<=1000000) (c m:Int) (s:aaA):f162 x c m s=some (x.any (fun p=>p.1==c&&p.2.1==m)):=by
 unfold f162 f69 f100;rw[bG];obtain⟨h1,h2⟩:=tY x hl c m s (fun((i10,i11,s12):Tq0)=>some ((-1:Int),i10,i11,s12)) x.length aY 0 (by omega) (fuel_lt (by omega));rw[abY]at h1 h2;cases h:x.any (fun p=>p.1==c&&p.2.1==m)
 ·rw[h2 h];rfl
 ·obtain⟨i,hi⟩:=h1 h;rw[hi];simp[aC]
theorem tT (x:List Ss) (hl:x.length<=1000000):∀(d k n:Nat),n+d=x.length->d<k->∃v,iE x (fun _=>some 0) k n=some v/\(v=0↔∀i,n<=i->i<x.length->zQ x i=true)
 |0,k,n,hn,hk=>by
  obtain⟨k,rfl⟩:∃z,k=z+1:=⟨k-1,by omega⟩
  refine⟨0, ?_,by simp;omega⟩
  conv=>lhs;unfold iE
  rw[aK (by omega)]
 |d+1,k,n,hn,hk=>by
  obtain⟨k,rfl⟩:∃z,k=z+1:=⟨k-1,by omega⟩
  obtain⟨v,hv,hi⟩:=tT x hl d k (n+1) (by omega) (by omega)
  have hg:=aBf (x.getD n default).1 (x.getD n default).2.1 (x.getD n default).2.2
  have bad:zQ x n=false->∀w:Int,w≠0->(w=0↔∀i,n<=i->i<x.length->zQ x i=true):=fun h w hw=>
   ⟨fun e=>absurd e hw,fun h'=>by have:=h' n (aaY _) (by omega);rw[h]at this;cases this⟩
  have gbad:mF (x.getD n default)≠true->zQ x n=false:=fun h=>by
   unfold zQ
   simp only[Bool.not_eq_true]at h
   rw[h,adA]
  conv=>enter [1,v,1,1];unfold iE
  rw[aM (by omega),aA (by omega)]
  generalize hq:x.getD n default=q at *
  by_cases h1:0<=q.1/\q.1<6/\1<=q.2.1/\q.2.1<=1000000
  ·rw[if_neg (by simp;omega)]
   by_cases h2:q.2.2=[]
   ·rw[if_pos (by simp[h2])]
    exact⟨_,rfl,bad (gbad fun h=>(hg.1 h).2.2.2.2.1 h2) _ (by decide)⟩
   ·rw[if_neg (by simpa using h2)]
    by_cases h3:q.2.2.length<=200
    ·rw[aK (by omega),f162_eq _ (by rw[abE];omega),aC,aA (by omega)]
     have hgd:mF q=true:=hg.2 ⟨h1.1,h1.2.1,h1.2.2.1,h1.2.2.2,h2,h3⟩
     cases ha:(x.take n).any (fun p=>p.1==q.1&&p.2.1==q.2.1)
     ·rw[if_neg (by simp),aA (by omega)]
      refine⟨v,hv,hi.trans ⟨fun h i h4 h5=> ?_,fun h i h4 h5=>h i (by omega) h5⟩⟩
      by_cases hin:i=n
      ·subst hin
       unfold zQ
       rw[hq,hgd,ha]
       rfl
      ·exact h i (by omega) h5
     ·rw[if_pos rfl]
      exact⟨_,rfl,bad (by unfold zQ;rw[hq,ha];simp) _ (by decide)⟩
    ·rw[aM (by omega)]
     exact⟨_,rfl,bad (gbad fun h=>h3 (hg.1 h).2.2.2.2.2) _ (by decide)⟩
  ·rw[if_pos (by simp;omega)]
   exact⟨_,rfl,bad (gbad fun h=>h1 (by have:=hg.1 h;omega)) _ (by decide)⟩
theorem f98_eq (k c:Int) (l:List Ss) (hl:l.length<=1000000):∃v,f98 k c l=some v/\(v=0↔okE k c l):=by
 unfold f98 okE;by_cases h1:k=1
 ·subst h1;rw[if_pos (by decide)];by_cases hc:c=0
  ·rw[if_neg (by simp[hc])];by_cases h8:l.length<=8
   ·rw[aK (by omega)];obtain⟨v,hv,hi⟩:=tT l hl l.length aY 0 (by omega) (fuel_lt (by omega))
    have h136:f129 l=some v:=by
     unfold f129;rw[bG];exact hv
    rw[h136];refine⟨v,rfl,hi.trans ⟨fun h=> .inl ⟨rfl,hc,h8,fun i h2=>h i (abM _) h2⟩, ?_⟩⟩;rintro(⟨_,_,_,h⟩|⟨h,_⟩|⟨h,_⟩)
    ·exact fun i _ h2=>h i h2
    ·omega
    ·omega
   ·rw[aM (by omega)];exact⟨_,rfl,by simp;omega⟩
  ·rw[if_pos (by simpa using hc)];exact⟨_,rfl,by simp;omega⟩
 ·rw[if_neg (by simpa using h1)];have hn:l=[]↔l.length=0:=List.length_eq_zero_iff.symm;by_cases h2:k=2
  ·subst h2;rw[if_pos (by decide)];by_cases h3:0<=c/\c<6/\l=[]
   ·rw[if_neg (by rw[h3.2.2];simp;omega)];exact⟨_,rfl,by simp[h3]⟩
   ·rw[if_pos (by rw[hn]at h3;simp only[abT,abA];omega)]
    exact ⟨_,rfl,fun h=>absurd h (by decide),fun h=>by
     rcases h with⟨h,_⟩|⟨_,h5,h6,h7⟩|⟨h,_⟩
     ·omega
     ·exact absurd ⟨h5,h6,h7⟩ h3
     ·omega⟩
  ·rw[if_neg (by simpa using h2)];by_cases h3:k=3
   ·subst h3;rw[if_pos (by decide)];by_cases h4:c=0/\l=[]
    ·rw[if_neg (by rw[h4.2];simp;omega)];exact⟨_,rfl,by simp[h4]⟩
    ·rw[if_pos (by rw[hn]at h4;simp only[abT,bne_iff_ne,abA];omega)]
     exact ⟨_,rfl,fun h=>absurd h (by decide),fun h=>by
      rcases h with⟨h,_⟩|⟨h,_⟩|⟨_,h5,h6⟩
      ·omega
      ·omega
      ·exact absurd ⟨h5,h6⟩ h4⟩
   ·rw[if_neg (by simpa using h3)];exact⟨_,rfl,by simp;omega⟩
theorem f58_eq (n:Int) (h: -9223372036854775808<=n/\n<=9223372036854775807):f58 n=some (Lib.itoa n):=by
 unfold f58 itoaO;rw[if_pos h]
theorem aAI (L:List Ty0) (h:(cX L).length<=1000000) (hl:L.length<=1000000):f130 L=some (cX L):=by
 unfold f130 aA8;rw[if_pos (by omega)]
theorem xN (x:List Ss) (hl:x.length<=8) (hx:∀q,q∈x->mF q=true) (K:List Ty0->Option Ty0):∀(d k n:Nat) (a:List Ty0),n+d=x.length->d<k->a.length<=1+3 *n->nZ x K k (n,a)=K (a++flt (x.drop n))
 |0,k,n,a,hn,hk,ha=>by
  obtain⟨k,rfl⟩:∃z,k=z+1:=⟨k-1,by omega⟩
  rw[abF (by omega)]
  conv=>lhs;unfold nZ
  rw[aK (by omega)]
  simp[flt]
 |d+1,k,n,a,hn,hk,ha=>by
  obtain⟨k,rfl⟩:∃z,k=z+1:=⟨k-1,by omega⟩
  have hg:=iB (hx _ (bW x n default (by omega)))
  have ih:=xN x hl hx K d k (n+1) (a++[Lib.itoa (x.getD n default).1,Lib.itoa (x.getD n default).2.1,(x.getD n default).2.2]) (by omega) (by omega) (by simp;omega)
  conv=>lhs;unfold nZ
  rw[aM (by omega),aA (by omega),f58_eq _ (by omega),aC,f58_eq _ (by omega),aC,aA (by omega),aA (by omega),ih,getD_drop x n default (by omega),pS]
  simp
theorem f99_eq {k c:Int} {l:List Ss} (h:okE k c l):f99 k c l=some (cX (strs k c l)):=by
 have hl:=zR h;have hs:=kL h;rcases h with⟨rfl,rfl,h1,h2⟩|⟨rfl,h1,h2,rfl⟩|⟨rfl,rfl,rfl⟩
 ·have e:strs 1 0 l=cs2::flt l:=by rw[strs,if_neg (by decide),if_neg (by decide)]
  rw[e]at hl hs⊢;unfold f99;rw[if_neg (by decide),if_neg (by decide),bG,xN l h1 (kU h2) _ l.length aY 0 [cs2] (by omega) (fuel_lt (by omega)) (by simp),abY];rw[afS,aAI _ (by omega) (by omega)];rfl
 ·have e:strs 2 c []=[pH,Lib.itoa c]:=by rw[strs,if_pos rfl]
  rw[e]at hl hs⊢;unfold f99;rw[if_pos (by decide),f58_eq _ (by omega),aC];have:=aAI [pH,Lib.itoa c] (by omega) (by omega);unfold pH at this⊢;rw[this];rfl
 ·have e:strs 3 0 []=[cs1]:=by rw[strs,if_neg (by decide),if_pos rfl]
  rw[e]at hl hs⊢;unfold f99;rw[if_neg (by decide),if_pos (by decide),aAI _ (by omega) (by omega)];rfl
open Classical in
theorem tail_eq (x:aaA) (n c:Int) (l:List Ss) (hl:l.length<=1000000):
  ((f98 n c l).bind fun(r11:Int)=>
   eO ((r11 !=(0:Int))==false) (f99 n c l) fun(r12:aaA)=>
   if((r11 !=(0:Int))||(!(r12==x)))then some ((0:Int),(0:Int),([]:List Ss),(2:Int))else some (n,c,l,(0:Int)))=some (if okE n c l/\cX (strs n c l)=x then(n,c,l,0)else errE):=by
 obtain⟨v,hv,hi⟩:=f98_eq n c l hl;rw[hv,aC];by_cases h:v=0
 ·have hE:=hi.1 h;subst h;rw[f99_eq hE];rw[show(((0:Int) !=0)==false)=true from rfl,eH,aC];by_cases he:cX (strs n c l)=x
  ·rw[if_neg (by simp[he]),if_pos ⟨hE,he⟩]
  ·rw[if_pos (by simp[he]),if_neg (fun h=>he h.2)];rfl
 ·have hE:¬okE n c l:=fun hE=>h (hi.2 hE);have e:((v !=(0:Int))==false)=false:=by simpa using h
  rw[e,eX,if_pos (by simp[h]),if_neg (fun h=>hE h.1)];rfl
open Go
theorem aAu (K:Nat×Int×List Ss->Option Ent):∀(d k:Nat) (L:List Ty0) (a:List Ss),L.length<=d->d<k->(∀s,s∈L->s.length<=1000000)->L.length<=1000000->a.length+L.length<=1000000->∃l,l.length<=1000000/\iJ K k (L,a)=K (1,0,l):=by
 intro d
 induction d with
 |zero=>
  intro k L a hL hk _ _ ha;obtain⟨k,rfl⟩:∃z,k=z+1:=⟨k-1,by omega⟩;refine⟨a,by omega, ?_⟩
  conv=>lhs;unfold iJ
  rw[aK (by omega)]
 |succ d ih=>
  intro k L a hL hk hs hl ha;obtain⟨k,rfl⟩:∃z,k=z+1:=⟨k-1,by omega⟩;by_cases h3:3<=L.length
  ·obtain⟨v0,b0,h0,_⟩:=nM (L.getD 0 []) (by have:=hs _ (bW L 0 [] (by omega));omega);obtain⟨v1,b1,h1,_⟩:=nM (L.getD 1 []) (by have:=hs _ (bW L 1 [] (by omega));omega);obtain⟨l,hl2,h⟩:=ih k (L.drop 3) (a++[(v0,v1,L.getD 2 [])]) (by rw[aaZ];omega) (by omega) (fun s hs'=>hs s (acQ hs')) (by rw[aaZ];omega) (by rw[aaZ,aaF];simp only[acR];omega);refine⟨l,hl2, ?_⟩
   conv=>lhs;unfold iJ
   unfold f97;rw[aM (by omega),h0,aC,aA (by omega),h1,aC,aA (by omega),aA (by omega),aA (by omega),aA (by omega)];exact h
  ·refine⟨a,by omega, ?_⟩
   conv=>lhs;unfold iJ
   rw[aK (by omega)]
theorem tK (K:Nat×Int×List Ss->Option Ent):∀(l a:List Ss) (k:Nat),l.length<k->(∀q,q∈l->mF q=true)->a.length+l.length<=1000->iJ K k (flt l,a)=K (1,0,a++l)
 |[],a,k,hk,_,_=>by
  obtain⟨k,rfl⟩:∃z,k=z+1:=⟨k-1,by omega⟩
  conv=>lhs;unfold iJ
  rw[aK (by simp[flt]),aeB]
 |(c,n,s)::l,a,k,hk,hg,ha=>by
  obtain⟨k,rfl⟩:∃z,k=z+1:=⟨k-1,by omega⟩
  simp only[aaN]at hk ha
  have h:=iB (hg _ (aaV ..))
  simp only at h
  have ih:=tK K l (a++[(c,n,s)]) k (by omega) (fun q hq=>hg q (aaU _ hq)) (by simp;omega)
  conv=>lhs;unfold iJ
  unfold f97
  rw[pS]
  simp only[abK,abP,aaN,aeW,abY]
  rw[aM (by omega),nN c (by omega) (by omega),aC,aA (by omega),nN n (by omega) (by omega),aC,aA (by omega),aA (by omega),aA (by omega),aA (by omega),ih]
  simp
open Classical in
theorem f68_hit {k c:Int} {l:List Ss} (h:okE k c l):f68 (cX (strs k c l))=some (k,c,l,0):=by
 have hl:=zR h;have hs:=kL h;have h84:=f96_plist (strs k c l) (by omega) (fun s hs'=>by have:=hs.1 s hs';omega) (by omega)
 have key : ∀ n : Nat, k = (n : Int) -> l.length <= 1000000 -> ((f98 (n:Int) c l).bind fun(r11:Int)=>
   eO ((r11 !=(0:Int))==false) (f99 (n:Int) c l) fun(r12:aaA)=>
   if((r11 !=(0:Int))||(!(r12==cX (strs k c l))))then some ((0:Int),(0:Int),([]:List Ss),(2:Int))else some ((n:Int),c,l,(0:Int)))=some (k,c,l,0):=by
  intro n hn hl1;subst hn;rw[tail_eq _ _ _ _ hl1,if_pos ⟨h,rfl⟩]
 unfold f68;rw[h84,aC];dsimp only;rw[if_neg (by simp;intro e;rw[e]at hs;simp at hs),aA (by omega),bG,aA (by omega)];rcases h with⟨rfl,rfl,h1,h2⟩|⟨rfl,h1,h2,rfl⟩|⟨rfl,rfl,rfl⟩
 ·have e:strs 1 0 l=cs2::flt l:=by rw[strs,if_neg (by decide),if_neg (by decide)]
  generalize hx:cX (strs 1 0 l)=x at *;rw[e]at *;rw[if_neg (by simp;intro h;exact absurd h (by decide)),aA (by simp),if_neg (by simp;decide),aeW,abY];rw[tK _ l [] aY (fuel_lt (by omega)) (kU h2) (by simp;omega),afB];exact key 1 rfl (by omega)
 ·have e:strs 2 c []=[pH,Lib.itoa c]:=by rw[strs,if_pos rfl]
  generalize hx:cX (strs 2 c [])=x at *;rw[e]at *;unfold f97;rw[if_pos (by rfl)];simp only[aeW,abY,abK];rw[nN c (by omega) (by omega),aC,aA (by simp)];exact key 2 rfl (by simp)
 ·have e:strs 3 0 []=[cs1]:=by rw[strs,if_neg (by decide),if_pos rfl]
  generalize hx:cX (strs 3 0 [])=x at *;rw[e]at *;rw[if_neg (by decide),aA (by simp),if_pos (by rfl)];exact key 3 rfl (by simp)
open Classical in
theorem aBr (x:aaA) (hx:x.length<=1000000) (h:∀k c l,okE k c l->cX (strs k c l)≠x):f68 x=some errE:=by
 obtain⟨j,e,L,h84,hs,hl⟩:=f96_some x hx
 have key : ∀ (n : Nat) c l, l.length <= 1000000 -> ((f98 (n:Int) c l).bind fun(r11:Int)=>
   eO ((r11 !=(0:Int))==false) (f99 (n:Int) c l) fun(r12:aaA)=>
   if((r11 !=(0:Int))||(!(r12==x)))then some ((0:Int),(0:Int),([]:List Ss),(2:Int))else some ((n:Int),c,l,(0:Int)))=some errE:=by
  intro n c l hl1;rw[tail_eq _ _ _ _ hl1,if_neg (fun hh=>h _ _ _ hh.1 hh.2)]
 unfold f68;rw[h84,aC];dsimp only;by_cases h0:((e !=0)||(((L.length:Nat):Int)==0))=true
 ·rw[if_pos h0];rfl
 ·have hL:1<=L.length:=by
   simp only[abT,bne_iff_ne,abZ]at h0;omega
  rw[if_neg h0,aA (by omega),bG,aA (by omega)];by_cases h1:((L.getD 0 []==([106,111,105,110]:aaA))&&((((L.drop 1).length:Nat):Int)==1))=true
  ·rw[if_pos h1]
   have h1':(L.drop 1).length=1:=by
    simp only[aaL,abZ]at h1;omega
   obtain⟨v0,b0,h0,_⟩:=nM ((L.drop 1).getD 0 []) (by have:=hs _ (acQ (bW (L.drop 1) 0 [] (by omega)));omega);unfold f97;rw[h0,aC,aA (by omega)];exact key 2 _ _ (by simp)
  ·rw[if_neg h1,aA (by omega)];by_cases h2:(L.getD 0 []==cs1)=true
   ·rw[if_pos h2];exact key 3 _ _ (by simp)
   ·rw[if_neg h2];obtain⟨l,hl2,e2⟩:=aAu _ (L.drop 1).length aY (L.drop 1) [] (aaY _) (fuel_lt (by rw[aaZ];omega)) (fun s hs'=>by have:=hs s (acQ hs');omega) (by rw[aaZ];omega) (by rw[aaZ];simp;omega);rw[e2];exact key 1 _ _ hl2
open Go
theorem yX (n:Nat) (hn:n<16384):aC2 aY (n:Int)=some (dU n):=by
 obtain⟨k,hk⟩:∃k,aY=k+2:=⟨aY-2,by unfold aY;omega⟩;rw[hk];by_cases h:n<128
 ·rw[kW n h (k+1),fL h]
 ·have e1:(n:Int)/128=((n/128:Nat):Int):=by omega
  conv=>lhs;unfold aC2
  rw[aK (by omega),e1,kW (n/128) (by omega) k,aC,aA (by omega),aA (by omega),aA (by omega),aA (by omega),aA (by simp),mX h,fL (show n/128<128 by omega)];have e2:((n:Int)%128+128).toNat=n%128+128:=by omega
  rw[e2];rfl
theorem xS (x:List Ty0) (hx:∀s,s∈x->s.length<=200) (hl:x.length<=25) (K:aaA->Option Ty0):∀c k n s,n+c=x.length->c<k->s.length<=2+202 *n->jI x K k (s,n)=K (s++gD (x.drop n))
 |0,k,n,s,hn,hk,hs=>by
  obtain⟨k,rfl⟩:∃z,k=z+1:=⟨k-1,by omega⟩
  rw[abF (by omega)]
  conv=>lhs;unfold jI
  rw[aK (by omega)]
  simp[gD]
 |c+1,k,n,s,hn,hk,hs=>by
  obtain⟨k,rfl⟩:∃z,k=z+1:=⟨k-1,by omega⟩
  have hxn:=hx _ (bW x n [] (by omega))
  have hv:=dX 1 (x.getD n []).length (by omega)
  have hsl:(s++dU (x.getD n []).length).length=s.length+(dU (x.getD n []).length).length:=aaF
  have hsl2:((s++dU (x.getD n []).length)++x.getD n []).length=s.length+(dU (x.getD n []).length).length+(x.getD n []).length:=by rw[aaF,aaF]
  have ih:=xS x hx hl K c k (n+1) ((s++dU (x.getD n []).length)++x.getD n []) (by omega) (by omega) (by omega)
  conv=>lhs;unfold jI
  rw[aM (by omega),yX _ (by omega),aC,aA (by omega),aA (by omega),aA (by omega),aA (by omega),aA (by omega),ih,getD_drop x n [] (by omega),cR]
  simp[item]
theorem f87_eq (x:List Ty0) (hx:∀s,s∈x->s.length<=200) (hl:x.length<=25):f87 x=some (cX x):=by
 have hv:=dX 1 x.length (by omega);unfold f87;rw[yX _ (by omega),aC,bG];exact xS x hx hl (fun s6=>some s6) x.length aY 0 (dU x.length) (by omega) (fuel_lt (by omega)) (by omega)
theorem yB (x:List Ss) (hl:x.length<=8) (hx:∀q,q∈x->mF q=true) (K:List Ty0->Option Ty0):∀(d k n:Nat) (a:List Ty0),n+d=x.length->d<k->a.length<=1+3 *n->jL x K k (n,a)=K (a++flt (x.drop n))
 |0,k,n,a,hn,hk,ha=>by
  obtain⟨k,rfl⟩:∃z,k=z+1:=⟨k-1,by omega⟩
  rw[abF (by omega)]
  conv=>lhs;unfold jL
  rw[aK (by omega)]
  simp[flt]
 |d+1,k,n,a,hn,hk,ha=>by
  obtain⟨k,rfl⟩:∃z,k=z+1:=⟨k-1,by omega⟩
  have hg:=iB (hx _ (bW x n default (by omega)))
  have ih:=yB x hl hx K d k (n+1) (a++[Lib.itoa (x.getD n default).1,Lib.itoa (x.getD n default).2.1,(x.getD n default).2.2]) (by omega) (by omega) (by simp;omega)
  conv=>lhs;unfold jL
  rw[aM (by omega),aA (by omega),rW (by omega) (by omega),aC,rW (by omega) (by omega),aC,aA (by omega),aA (by omega),ih,getD_drop x n default (by omega),pS]
  simp
theorem f65_eq {k c:Int} {l:List Ss} (h:okE k c l):f65 k c l=some (cX (strs k c l)):=by
 have hs:=kL h;rcases h with⟨rfl,rfl,h1,h2⟩|⟨rfl,h1,h2,rfl⟩|⟨rfl,rfl,rfl⟩
 ·have e:strs 1 0 l=cs2::flt l:=by rw[strs,if_neg (by decide),if_neg (by decide)]
  rw[e]at hs⊢;unfold f65;rw[if_neg (by decide),if_neg (by decide),bG,yB l h1 (kU h2) _ l.length aY 0 [cs2] (by omega) (fuel_lt (by omega)) (by simp),abY];rw[afS,f87_eq _ hs.1 hs.2.1];rfl
 ·have e:strs 2 c []=[pH,Lib.itoa c]:=by rw[strs,if_pos rfl]
  rw[e]at hs⊢;unfold f65;rw[if_pos (by decide),rW (by omega) (by omega),aC];have:=f87_eq [pH,Lib.itoa c] hs.1 hs.2.1;unfold pH at this⊢;rw[this];rfl
 ·have e:strs 3 0 []=[cs1]:=by rw[strs,if_neg (by decide),if_pos rfl]
  rw[e]at hs⊢;unfold f65;rw[if_neg (by decide),if_pos (by decide),f87_eq _ hs.1 hs.2.1];rfl
theorem tW (x:List Ss) (hl:x.length<=1000000) (c m:Int) (s:aaA):∀(d k n:Nat),n+d=x.length->d<k->iF x c m s (fun _=>some false) k n=some ((x.drop n).any (fun p=>p.1==c&&p.2.1==m))
 |0,k,n,hn,hk=>by
  obtain⟨k,rfl⟩:∃z,k=z+1:=⟨k-1,by omega⟩
  rw[abF (by omega)]
  conv=>lhs;unfold iF
  rw[aK (by omega)]
  rfl
 |d+1,k,n,hn,hk=>by
  obtain⟨k,rfl⟩:∃z,k=z+1:=⟨k-1,by omega⟩
  have ih:=tW x hl c m s d k (n+1) (by omega) (by omega)
  conv=>lhs;unfold iF
  unfold f149
  rw[aM (by omega),aC,aA (by omega),aA (by omega),ih,getD_drop x n default (by omega),adH]
  cases((x.getD n default).1==c&&(x.getD n default).2.1==m)
  ·rw[if_neg (by simp),adG]
  ·rw[if_pos rfl,afI]
theorem f120_eq (x:List Ss) (hl:x.length<=1000000) (c m:Int) (s:aaA):f120 x c m s=some (x.any (fun p=>p.1==c&&p.2.1==m)):=by
 unfold f120;rw[bG];exact tW x hl c m s x.length aY 0 (by omega) (fuel_lt (by omega))
theorem f119_eq (c n:Int) (op:aaA):∃v,f119 c n op=some v/\(v=0↔mF (c,n,op)=true):=by
 unfold f119;rw[aBf];by_cases h1:0<=c/\c<6/\1<=n/\n<=1000000
 ·rw[if_neg (by simp;omega)];by_cases h2:op=[]
  ·rw[if_pos (by simp[h2])];exact⟨_,rfl,by simp[h2]⟩
  ·rw[if_neg (by simpa using h2)];by_cases h3:op.length<=200
   ·rw[aK (by omega)];exact⟨_,rfl,by simp[h1,h2,h3]⟩
   ·rw[aM (by omega)];exact⟨_,rfl,by simp;omega⟩
 ·rw[if_pos (by simp;omega)];exact⟨_,rfl,by simp;omega⟩
theorem xT (x:List Ss) (hl:x.length<=1000000):∀(d k n:Nat),n+d=x.length->d<k->∃v,lC x (fun _=>some 0) k n=some v/\(v=0↔∀i,n<=i->i<x.length->zQ x i=true)
 |0,k,n,hn,hk=>by
  obtain⟨k,rfl⟩:∃z,k=z+1:=⟨k-1,by omega⟩
  refine⟨0, ?_,by simp;omega⟩
  conv=>lhs;unfold lC
  rw[aK (by omega)]
 |d+1,k,n,hn,hk=>by
  obtain⟨k,rfl⟩:∃z,k=z+1:=⟨k-1,by omega⟩
  obtain⟨v,hv,hi⟩:=xT x hl d k (n+1) (by omega) (by omega)
  obtain⟨w,hw,hg⟩:=f119_eq (x.getD n default).1 (x.getD n default).2.1 (x.getD n default).2.2
  have bad:zQ x n=false->∀w:Int,w≠0->(w=0↔∀i,n<=i->i<x.length->zQ x i=true):=fun h w hw=>
   ⟨fun e=>absurd e hw,fun h'=>by have:=h' n (aaY _) (by omega);rw[h]at this;cases this⟩
  conv=>enter [1,v,1,1];unfold lC
  rw[aM (by omega),hw,aC,aA (by omega)]
  by_cases h0:w=0
  ·have hgd:mF (x.getD n default)=true:=hg.1 h0
   rw[if_neg (by simpa using h0),f120_eq _ (by rw[abE];omega),aC,aA (by omega),aA (by omega)]
   cases ha:(x.take n).any (fun p=>p.1==(x.getD n default).1&&p.2.1==(x.getD n default).2.1)
   ·rw[if_neg (by simp),aA (by omega)]
    refine⟨v,hv,hi.trans ⟨fun h i h4 h5=> ?_,fun h i h4 h5=>h i (by omega) h5⟩⟩
    by_cases hin:i=n
    ·subst hin
     unfold zQ
     rw[hgd,ha]
     rfl
    ·exact h i (by omega) h5
   ·rw[if_pos rfl]
    exact⟨_,rfl,bad (by unfold zQ;rw[ha];simp) _ (by decide)⟩
  ·rw[if_pos (by simpa using h0)]
   refine⟨_,rfl,bad ?_ _ h0⟩
   have:¬mF (x.getD n default)=true:=fun h=>h0 (hg.2 h)
   unfold zQ
   simp only[Bool.not_eq_true]at this
   rw[this,adA]
theorem f64_gen (k c:Int) (l:List Ss) (hl:l.length<=1000000):∃v,f64 k c l=some v/\(v=0↔okE k c l):=by
 have hn:l=[]↔l.length=0:=List.length_eq_zero_iff.symm;unfold f64;rw[aA (by intro h1 _ h2;rw[h1,h2];rfl),aA (by intro h1 _ h2;rw[h1,h2];rfl)];by_cases h1:(k=1/\c=0)\/(k=2/\0<=c/\c<6/\l.length=0)\/(k=3/\c=0/\l.length=0)
 ·rw[if_neg (by simp only[abT,aaL,adM,beq_eq_false_iff_ne,bne_iff_ne,abA];omega)];by_cases h8:l.length<=8
  ·rw[aK (by omega)];obtain⟨v,hv,hi⟩:=xT l hl l.length aY 0 (by omega) (fuel_lt (by omega))
   have h73:f86 l=some v:=by
    unfold f86;rw[bG];exact hv
   rw[h73,aC]
   have hE:okE k c l↔v=0:=by
    rw[hi];unfold okE;rw[hn];constructor
    ·rintro(⟨_,_,_,h⟩|⟨_,_,_,h⟩|⟨_,_,h⟩)
     ·exact fun i _ h2=>h i h2
     ·intro i _ h2;omega
     ·intro i _ h2;omega
    ·intro h;rcases h1 with⟨h3,h4⟩|h3|h3
     ·exact .inl ⟨h3,h4,h8,fun i h2=>h i (abM _) h2⟩
     ·exact .inr (.inl h3)
     ·exact .inr (.inr h3)
   by_cases h0:v=0
   ·have hE':=hE.2 h0;rw[if_neg (by simpa using h0),f65_eq hE',aC];have:=zR hE';rw[aK (by omega)];exact⟨0,rfl,by simp[hE']⟩
   ·rw[if_pos (by simpa using h0)];exact⟨v,rfl,hE.symm⟩
  ·rw[aM (by omega)];refine⟨_,rfl,fun h=>absurd h (by decide),fun h=> ?_⟩;unfold okE at h;rw[hn]at h;omega
 ·rw[if_pos (by simp only[abT,aaL,adM,beq_eq_false_iff_ne,bne_iff_ne,abA];omega)];refine⟨_,rfl,fun h=>absurd h (by decide),fun h=> ?_⟩;unfold okE at h;rw[hn]at h;omega
open Classical in
theorem aA1 (x:aaA) (n c:Int) (l:List Ss) (hl:l.length<=1000000):
  ((f64 n c l).bind fun(r11:Int)=>
   eO ((r11 !=(0:Int))==false) (f65 n c l) fun(r12:aaA)=>
   if((r11 !=(0:Int))||(!(r12==x)))then some ((0:Int),(0:Int),([]:List Ss),(2:Int))else some (n,c,l,(0:Int)))=some (if okE n c l/\cX (strs n c l)=x then(n,c,l,0)else errE):=by
 obtain⟨v,hv,hi⟩:=f64_gen n c l hl;rw[hv,aC];by_cases h:v=0
 ·have hE:=hi.1 h;subst h;rw[f65_eq hE];rw[show(((0:Int) !=0)==false)=true from rfl,eH,aC];by_cases he:cX (strs n c l)=x
  ·rw[if_neg (by simp[he]),if_pos ⟨hE,he⟩]
  ·rw[if_pos (by simp[he]),if_neg (fun h=>he h.2)];rfl
 ·have hE:¬okE n c l:=fun hE=>h (hi.2 hE);have e:((v !=(0:Int))==false)=false:=by simpa using h
  rw[e,eX,if_pos (by simp[h]),if_neg (fun h=>hE h.1)];rfl
open Go
theorem zF (x:aaA) (m:Nat) (hx:x.length<=1000000):∃n j:Nat,aC3 x (m:Int)=some ((n:Int),(j:Int))/\(j=0\/(1<=j/\j<=x.length/\n<=m)):=by
 have hb:=fun i=>(x.getD i 0).toNat_lt;unfold aC3;by_cases h0:x=[]
 ·rw[if_pos (by simp[h0])];exact⟨0,0,rfl,.inl rfl⟩
 ·have hl:0<x.length:=List.length_pos_iff.2 h0;have b0:=hb 0;have b1:=hb 1;rw[if_neg (by simpa using h0),aA (by omega),aA (by omega),bG];generalize(x.getD 0 0).toNat=a at *;generalize(x.getD 1 0).toNat=b at *;by_cases h1:128<=a
  ·rw[aM (by omega)];by_cases h2:x.length<2
   ·have e:decide ((x.length:Int)<2)=true:=by simp;omega
    rw[e];refine⟨0,0, ?_,.inl rfl⟩;simp[chk]
   ·have e:decide ((x.length:Int)<2)=false:=by simp;omega
    rw[e,aA (fun _=>by omega),aA (fun _=>by omega)];by_cases h3:b=0\/128<=b
    ·rw[if_pos (by simp;omega)];exact⟨0,0,rfl,.inl rfl⟩
    ·rw[if_neg (by simp;omega),aA (by omega),aA (by omega),aA (by omega),aA (by omega),aA (by omega)];dsimp only;by_cases h4:a-128+128 *b<=m
     ·rw[aK (by omega)];exact⟨a-128+128 *b,2,by congr 2;omega,.inr ⟨by omega,by omega,h4⟩⟩
     ·rw[aM (by omega)];exact⟨0,0,rfl,.inl rfl⟩
  ·rw[aK (by omega)];dsimp only;by_cases h4:a<=m
   ·rw[aK (by omega)];exact⟨a,1,rfl,.inr ⟨by omega,by omega,h4⟩⟩
   ·rw[aM (by omega)];exact⟨0,0,rfl,.inl rfl⟩
theorem zD (n m:Nat) (r:aaA) (hn:n<=m) (hm:m<16384):aC3 (dU n++r) (m:Int)=some ((n:Int),((dU n).length:Int)):=by
 unfold aC3;by_cases h:n<128
 ·rw[fL h];have e:(([UInt8.ofNat n]++r).getD 0 0).toNat=n:=by simp[UInt8.toNat_ofNat'];omega
  rw[if_neg (by simp),aA (by simp),e,aA (by omega),bG,aK (by omega)];dsimp only;rw[aK (by omega)];rfl
 ·rw[mX h,fL (show n/128<128 by omega)];generalize hy:UInt8.ofNat (n%128+128)::[UInt8.ofNat (n/128)]++r=y;have e0:(y.getD 0 0).toNat=n%128+128:=by rw[<-hy];simp[UInt8.toNat_ofNat'];omega
  have e1:(y.getD 1 0).toNat=n/128:=by rw[<-hy];simp[UInt8.toNat_ofNat'];omega
  have hl:2<=y.length:=by rw[<-hy];simp
  have hne:y≠[]:=fun h=>by rw[h]at hl;simp at hl
  rw[if_neg (by simpa using hne),aA (by omega),e0,e1,aA (by omega),bG,aM (by omega)];have e:decide ((y.length:Int)<2)=false:=by simp;omega
  rw[e,aA (fun _=>by omega),aA (fun _=>by omega),if_neg (by simp;omega),aA (by omega),aA (by omega),aA (by omega),aA (by omega),aA (by omega)];have ev:((((n%128+128:Nat):Int)-128)+((128 *(n/128):Nat):Int))=(n:Int):=by omega
  rw[ev];dsimp only;rw[aK (by omega)];rfl
theorem aAt (x:aaA) (hx:x.length<=1000000) (r2:Tq2) (K:Int×List Ty0->Option (Bool×List Ty0)) (hK:∀i l,∃b,K (i,l)=some (b,l)):
  ∀(c k i n:Nat) (l:List Ty0),i+c=x.length->c<k->n<=i->l.length=n->(∀s,s∈l->s.length<=x.length)->∃b l',jJ x r2 K k ((i:Int),n,l)=some (b,l')/\(∀s,s∈l'->s.length<=x.length)/\l'.length<=x.length:=by
 intro c
 induction c using Nat.strongRecOn with
 |ind c ih=>
  intro k i n l hi hk hn hl hs;obtain⟨k,rfl⟩:∃z,k=z+1:=⟨k-1,by omega⟩;by_cases hr:(n:Int)<r2.1
  ·obtain⟨m,j,h,hb⟩:=zF (x.drop i) 200 (by rw[aaZ];omega);rw[aaZ]at hb
   conv=>enter [1,b,1,l',1,1];unfold jJ
   have h':aC3 (List.drop i x) 200=some ((m:Int),(j:Int)):=h;rw[aM hr,abH,h',aC];dsimp only;rw[aA (by omega)];by_cases hj:j=0
   ·subst hj;rw[aA (fun h=>by simp at h),aA (fun h=>by simp at h),if_pos (by simp)];exact⟨_,_,rfl,by simp,by simp⟩
   ·have hb':1<=j/\j<=x.length-i/\m<=200:=by omega
    rw[aA (fun _=>by omega),aA (fun _=>by omega)];by_cases hle:i+j+m<=x.length
    ·rw[if_neg (by simp;omega),aA (by omega),aA (by omega),aA (by omega),aA (by omega),aA (by omega),aA (by omega),aA (by omega),aA (by omega)];have e:(i:Int)+(j:Int)+(m:Int)=((i+j+m:Nat):Int):=by omega
     rw[e]
     exact ih (c - (j + m)) (by omega) k (i + j + m) (n + 1) _ (by omega) (by omega) (by omega) (by simp [hl]) (fun t ht=>by
      rcases abR.1 ht with ht|ht
      ·exact hs t ht
      ·simp only[adP]at ht;subst ht;rw[aaZ,abE];omega)
    ·rw[if_pos (by simp;omega)];exact⟨_,_,rfl,by simp,by simp⟩
  ·obtain⟨b,h⟩:=hK i l;refine⟨b,l, ?_,hs,by omega⟩
   conv=>lhs;unfold jJ
   rw[aK hr];exact h
theorem f81_some (x:aaA) (hx:x.length<=1000000):∃b L,f81 x=some (b,L)/\(∀s,s∈L->s.length<=x.length)/\L.length<=x.length:=by
 obtain⟨m,j,h,hb⟩:=zF x 25 hx;have h':aC3 x 25=some ((m:Int),(j:Int)):=h;unfold f81;rw[h',aC];by_cases hj:j=0
 ·subst hj;rw[if_pos (by rfl)];exact⟨_,_,rfl,by simp,by simp⟩
 ·rw[if_neg (by simp;omega),bG];exact aAt x hx _ _ (fun i l=>⟨_,rfl⟩) (x.length-j) aY j 0 [] (by omega) (fuel_lt (by omega)) (by omega) rfl (by simp)
theorem oF (x:aaA) (hx:x.length<=1000000) (r2:Tq2) (K:Int×List Ty0->Option (Bool×List Ty0)) (L:List Ty0) (hr:r2.1=(L.length:Int)):
  ∀(M:List Ty0) (A:aaA) (D:List Ty0) (k:Nat),(∀s,s∈M->s.length<=200)->x=A++gD M->L=D++M->D.length<=A.length->M.length<k->jJ x r2 K k ((A.length:Int),D.length,D)=K ((x.length:Int),L)
 |[],A,D,k,_,hxe,hL,_,hk=>by
  obtain⟨k,rfl⟩:∃z,k=z+1:=⟨k-1,by omega⟩
  have e1:x.length=A.length:=by rw[hxe];simp[gD]
  have e2:L=D:=by rw[hL];simp
  conv=>lhs;unfold jJ
  rw[aK (by rw[hr,e2];omega),e1,e2]
 |s::M,A,D,k,hM,hxe,hL,hD,hk=>by
  obtain⟨k,rfl⟩:∃z,k=z+1:=⟨k-1,by omega⟩
  simp only[aaN]at hk
  have hl:L.length=D.length+(M.length+1):=by rw[hL];simp
  have e1:x.drop A.length=dU s.length++(s++gD M):=by rw[hxe,agO,cR,item,acD]
  have hsl:=hM s (aaV ..)
  have hv:=uE s.length
  have hil:(item s).length=(dU s.length).length+s.length:=by rw[item,aaF]
  have hxl:x.length=A.length+((item s).length+(gD M).length):=by rw[hxe,cR];simp
  have h:aC3 (dU s.length++(s++gD M)) 200=some ((s.length:Int),((dU s.length).length:Int)):=zD s.length 200 _ hsl (by omega)
  have ih := oF x hx r2 K L hr M (A ++ item s) (D ++ [s]) k (fun t ht => hM t (aaU _ ht)) (by rw [hxe, cR]; simp) (by rw [hL]; simp) (by
   simp only[aaF,acR]
   omega) (by omega)
  have cut:(x.take (A.length+(dU s.length).length+s.length)).drop (A.length+(dU s.length).length)=s:=by
   have:x=(A++dU s.length)++(s++gD M):=by rw[hxe,cR,item];simp
   rw[this,<-aaF,List.drop_take,agO,aeI,aeG]
  conv=>lhs;unfold jJ
  rw[aM (by rw[hr];omega),abH,e1,h,aC]
  dsimp only
  rw[aA (by omega),aA (fun _=>by omega),aA (fun _=>by omega),if_neg (by simp only[abT,abZ,abA];omega),aA (by omega),aA (by omega),aA (by omega),aA (by omega),aA (by omega),aA (by omega),aA (by omega),aA (by omega)]
  have ea:(A.length:Int)+((dU s.length).length:Int)=((A.length+(dU s.length).length:Nat):Int):=by omega
  have eb:((A.length+(dU s.length).length:Nat):Int)+(s.length:Int)=((A.length+(dU s.length).length+s.length:Nat):Int):=by omega
  rw[ea,eb,abH,abH,cut,<-ih]
  simp only[aaF,acR,hil,adY]
theorem f81_plist (L:List Ty0) (hL:L.length<=25) (hs:∀s,s∈L->s.length<=200):f81 (cX L)=some (true,L):=by
 have hx:=qJ L 200 (by omega) (by omega) hs
 have hx':(cX L).length<=1000000:=by
  have:L.length *(200+2)<=25 *202:=Nat.mul_le_mul hL (aaY _);omega
 have hv:=uE L.length
 have h:aC3 (cX L) 25=some ((L.length:Int),((dU L.length).length:Int)):=by
  rw[hP];exact zD L.length 25 _ hL (by omega)
 unfold f81;rw[h,aC,if_neg (by simp only[abZ];omega),bG];have:=oF (cX L) hx' ((L.length:Int),((dU L.length).length:Int)) (fun((i7,l8):Int×List Ty0)=>some ((i7==(((cX L).length:Nat):Int)),l8)) L rfl L (dU L.length) [] aY hs rfl rfl (abM _) (fuel_lt (by omega));refine this.trans ?_;simp
theorem rD (x:aaA) (hx:x.length<=1000000) (K:Int->Option Int):∀(d k n:Nat) (i:Int),n+d=x.length->d<k->0<=i->i<10^n->n<=7->gG x K k (i,n)=some (-1)\/∃j,0<=j/\j<=9999999/\gG x K k (i,n)=K j
 |0,k,n,i,hn,hk,h0,h1,h7=>by
  obtain⟨k,rfl⟩:∃z,k=z+1:=⟨k-1,by omega⟩
  have h10:(10:Int)^n<=10^7:=by
   have:(10:Nat)^n<=10^7:=aeV (by decide) h7
   exact_mod_cast this
  refine .inr ⟨i,h0,by omega, ?_⟩
  conv=>lhs;unfold gG
  rw[aK (by omega)]
 |d+1,k,n,i,hn,hk,h0,h1,h7=>by
  obtain⟨k,rfl⟩:∃z,k=z+1:=⟨k-1,by omega⟩
  have h10:(10:Int)^n<=10^7:=by
   have:(10:Nat)^n<=10^7:=aeV (by decide) h7
   exact_mod_cast this
  generalize hc:(x.getD n 0).toNat=c
  have e:gG x K (k+1) (i,n)=if(((decide (((c:Nat):Int)<(48:Int)))||(decide (((c:Nat):Int)>(57:Int))))||(decide ((n:Int)>(6:Int))))=true then some (-1)else
    chk (0<=(((c:Nat):Int)-(48:Int))/\(((c:Nat):Int)-(48:Int))<=255) (gG x K k (10 *i+(((c:Nat):Int)-48),n+1)):=by
   conv=>lhs;unfold gG
   rw[hc,aM (by omega),aA (by omega),aA (fun _=>by omega)]
   by_cases hb:(((decide (((c:Nat):Int)<(48:Int)))||(decide (((c:Nat):Int)>(57:Int))))||(decide ((n:Int)>(6:Int))))=true
   ·rw[if_pos hb,if_pos hb]
   ·rw[if_neg hb,if_neg hb]
    simp only[abT,abA]at hb
    rw[aA (by omega),aA (by omega),aA (by omega),aA (by omega),aA (by omega),aA (by omega),aA (by omega)]
  rw[e]
  by_cases hb:(((decide (((c:Nat):Int)<(48:Int)))||(decide (((c:Nat):Int)>(57:Int))))||(decide ((n:Int)>(6:Int))))=true
  ·rw[if_pos hb]
   exact .inl rfl
  ·rw[if_neg hb]
   simp only[abT,abA]at hb
   rw[aA (by omega)]
   exact rD x hx K d k (n+1) _ (by omega) (by omega) (by omega) (by rw[Int.pow_succ];omega) (by omega)
theorem uZ (s:aaA) (hx:s.length<=1000000):∃v,f82 s=some v:=by
 unfold f82;rw[bG];rcases rD s hx (fun(i4:Int)=>eO ((s==[])==false) (f88 aY i4) fun(r5:aaA)=>if((s==[])||(!(r5==s)))then some (-1:Int)else some i4) s.length aY 0 0 (by omega) (fuel_lt (by omega)) (by omega) (by simp) (by omega)with h|⟨j,h1,h2,h⟩
 ·exact⟨_,h⟩
 ·have hd:=rW (n:=j) h1 (by omega);by_cases h0:s=[]
  ·refine⟨-1,h.trans ?_⟩;have e:(s==[])=true:=by simp[h0]
   rw[e];rfl
  ·have e:(s==[])=false:=by simpa using h0
   by_cases h3:Lib.itoa j=s
   ·refine⟨j,h.trans ?_⟩;rw[e,hd,show((false:Bool)==false)=true from rfl,eH,aC,if_neg (by simp[h3])]
   ·refine⟨-1,h.trans ?_⟩;rw[e,hd,show((false:Bool)==false)=true from rfl,eH,aC,if_pos (by simp[h3])]
theorem oE (x:aaA) (hx:x.length<=7) (K:Int->Option Int):∀(d k n i v:Nat),n+d=x.length->d<k->i<10^n->Lib.parseUint10 i (x.drop n)= .ok v->gG x K k ((i:Int),n)=K (v:Int)
 |0,k,n,i,v,hn,hk,h1,hp=>by
  obtain⟨k,rfl⟩:∃z,k=z+1:=⟨k-1,by omega⟩
  rw[abF (by omega)]at hp
  simp only[Lib.parseUint10,Lib.NumEnd.ok.injEq]at hp
  conv=>lhs;unfold gG
  rw[aK (by omega),hp]
 |d+1,k,n,i,v,hn,hk,h1,hp=>by
  obtain⟨k,rfl⟩:∃z,k=z+1:=⟨k-1,by omega⟩
  have h10:(10:Nat)^n<=10^7:=aeV (by decide) (by omega)
  rw[getD_drop x n 0 (by omega)]at hp
  simp only[Lib.parseUint10]at hp
  generalize hc:(x.getD n 0).toNat=c at hp
  split at hp
  case isFalse=>cases hp
  rename_i h48
  rw[if_neg (by omega),if_neg (by omega)]at hp
  have ih:=oE x hx K d k (n+1) (i *10+(c-48)) v (by omega) (by omega) (by rw[agI];omega) hp
  conv=>lhs;unfold gG
  rw[hc,aM (by omega),aA (by omega),aA (fun _=>by omega),if_neg (by simp;omega),aA (by omega),aA (by omega),aA (by omega),aA (by omega),aA (by omega),aA (by omega),<-ih]
  have e:(10:Int) *(i:Int)+(((c:Nat):Int)-48)=((i *10+(c-48):Nat):Int):=by omega
  rw[e]
theorem vA (n:Int) (h0:0<=n) (h1:n<=9999999):f82 (Lib.itoa n)=some n:=by
 have hl:=qT n h0 h1;obtain⟨m,rfl⟩:∃m:Nat,n=m:=⟨n.toNat,by omega⟩;have e:Lib.itoa (m:Int)=Lib.decDigits m:=by rw[Lib.itoa,if_neg (by omega),abH]
 have hp:=wU m (by omega);have hd:=rW (n:=(m:Int)) h0 (by omega);have hne:=dig_ne m;rw[e]at hl hd⊢;unfold f82;rw[bG];refine(oE (Lib.decDigits m) hl _ (Lib.decDigits m).length aY 0 0 m (by omega) (fuel_lt (by omega)) (by simp) (by rw[abY];exact hp)).trans ?_;have e2:(Lib.decDigits m==[])=false:=by simpa using hne
 rw[e2,hd,show((false:Bool)==false)=true from rfl,eH,aC,if_neg (by simp)]
theorem rF (b:Bool) (L:List Ty0) (hs:∀s,s∈L->s.length<=1000000) (hl:L.length<=1000000) (K:Nat×Int×List Ss->Option Ent):∀(d k n:Nat) (a:List Ss),n+3 *d=L.length->d<k->a.length<=n->∃l,l.length<=1000000/\jO (b,L) K k (n,a)=K (1,0,l)
 |0,k,n,a,hn,hk,ha=>by
  obtain⟨k,rfl⟩:∃z,k=z+1:=⟨k-1,by omega⟩
  refine⟨a,by omega, ?_⟩
  conv=>lhs;unfold jO
  rw[aK (by dsimp only;omega)]
 |d+1,k,n,a,hn,hk,ha=>by
  obtain⟨k,rfl⟩:∃z,k=z+1:=⟨k-1,by omega⟩
  obtain⟨v0,h0⟩:=uZ (L.getD n []) (hs _ (bW L n [] (by omega)))
  obtain⟨v1,h1⟩:=uZ (L.getD (n+1) []) (hs _ (bW L (n+1) [] (by omega)))
  obtain⟨l,hl2,h⟩:=rF b L hs hl K d k (n+3) (a++[(v0,v1,L.getD (n+2) [])]) (by omega) (by omega) (by simp;omega)
  refine⟨l,hl2, ?_⟩
  conv=>lhs;unfold jO
  dsimp only
  rw[aM (by omega),h0,aC,h1,aC,aA (by omega),aA (by omega),aA (by omega),aA (by omega),aA (by omega),aA (by omega),aA (by omega),aA (by omega),aA (by omega),aA (by omega)]
  exact h
theorem tL (b:Bool) (K:Nat×Int×List Ss->Option Ent) (w:aaA) (M:List Ss) (hM:M.length<=8):∀(l a:List Ss) (k:Nat),M=a++l->l.length<k->(∀q,q∈l->mF q=true)->jO (b,w::flt M) K k (1+3 *a.length,a)=K (1,0,M)
 |[],a,k,hMe,hk,_=>by
  obtain⟨k,rfl⟩:∃z,k=z+1:=⟨k-1,by omega⟩
  have e:M=a:=by rw[hMe,aeB]
  have hfl:(w::flt M).length=1+3 *M.length:=by rw[aaN,lM];omega
  conv=>lhs;unfold jO
  dsimp only
  rw[aK (by rw[hfl,e];omega),e]
 |(c,n,s)::l,a,k,hMe,hk,hg=>by
  obtain⟨k,rfl⟩:∃z,k=z+1:=⟨k-1,by omega⟩
  simp only[aaN]at hk
  have h:=iB (hg _ (aaV ..))
  simp only at h
  have hml:M.length=a.length+(l.length+1):=by rw[hMe];simp
  have hfl:(w::flt M).length=1+3 *M.length:=by rw[aaN,lM];omega
  have hf:flt M=flt a++(Lib.itoa c::Lib.itoa n::s::flt l):=by rw[hMe];simp[flt]
  have g:∀i,i<3->(w::flt M).getD (1+3 *a.length+i) []=[Lib.itoa c,Lib.itoa n,s].getD i []:=by
   intro i hi
   rw[show 1+3 *a.length+i=(3 *a.length+i)+1 by omega,abP,hf,aaC,abQ (by rw[lM];omega),lM,aeI]
   match i,hi with
   |0,_=>rfl
   |1,_=>rfl
   |2,_=>rfl
  have g0:(w::flt M).getD (1+3 *a.length) []=Lib.itoa c:=g 0 (by omega)
  have g1:(w::flt M).getD (1+3 *a.length+1) []=Lib.itoa n:=g 1 (by omega)
  have g2:(w::flt M).getD (1+3 *a.length+2) []=s:=g 2 (by omega)
  have ih:=tL b K w M hM l (a++[(c,n,s)]) k (by rw[hMe];simp) (by omega) (fun q hq=>hg q (aaU _ hq))
  conv=>lhs;unfold jO
  dsimp only
  rw[g0,g1,g2,aM (by omega),vA c (by omega) (by omega),aC,vA n (by omega) (by omega),aC,aA (by omega),aA (by omega),aA (by omega),aA (by omega),aA (by omega),aA (by omega),aA (by omega),aA (by omega),aA (by omega),aA (by omega),<-ih]
  have e:(a++[(c,n,s)]).length=a.length+1:=by simp
  rw[e]
  rfl
open Go
open Classical in
theorem f61_hit {k c:Int} {l:List Ss} (h:okE k c l):f61 (cX (strs k c l))=some (k,c,l,0):=by
 have hs:=kL h;have h81:=f81_plist (strs k c l) hs.2.1 hs.1
 have key : ∀ n : Nat, k = (n : Int) -> l.length <= 1000000 -> ((f64 (n:Int) c l).bind fun(r11:Int)=>
   eO ((r11 !=(0:Int))==false) (f65 (n:Int) c l) fun(r12:aaA)=>
   if((r11 !=(0:Int))||(!(r12==cX (strs k c l))))then some ((0:Int),(0:Int),([]:List Ss),(2:Int))else some ((n:Int),c,l,(0:Int)))=some (k,c,l,0):=by
  intro n hn hl1;subst hn;rw[aA1 _ _ _ _ hl1,if_pos ⟨h,rfl⟩]
 unfold f61;rw[h81,aC];dsimp only;rw[if_neg (by simp only[acS,adG,abZ];omega),bG,aA (by omega),aA (by omega)];rcases h with⟨rfl,rfl,h1,h2⟩|⟨rfl,h1,h2,rfl⟩|⟨rfl,rfl,rfl⟩
 ·have e:strs 1 0 l=cs2::flt l:=by rw[strs,if_neg (by decide),if_neg (by decide)]
  generalize hx:cX (strs 1 0 l)=x at *;rw[e]at *;have hfl:(cs2::flt l).length=1+3 *l.length:=by rw[aaN,lM];omega
  have n1:((cs2::flt l).getD 0 []==cs1)=false:=rfl;have n2:((cs2::flt l).getD 0 []==([106,111,105,110]:aaA))=false:=rfl;have n3:((cs2::flt l).getD 0 []==cs2)=true:=rfl;rw[n1,n2,n3,if_neg (by decide),aA (by omega),aA (by omega),adA,if_neg (by decide),aA (by omega),aA (by omega),aA (fun _=>by omega),if_pos (by simp only[acK,abZ];omega)]
  have := tL true (fun((n3,i4,l5):Nat×Int×(List Ss))=>
   (f64 (n3:Int) i4 l5).bind fun(r11:Int)=>
   eO ((r11 !=(0:Int))==false) (f65 (n3:Int) i4 l5) fun(r12:aaA)=>
   if((r11 !=(0:Int))||(!(r12==x)))then some ((0:Int),(0:Int),([]:List Ss),(2:Int))else some ((n3:Int),i4,l5,(0:Int))) cs2 l h1 l [] aY rfl (fuel_lt (by omega)) (kU h2)
  exact this.trans (key 1 rfl (by omega))
 ·have e:strs 2 c []=[pH,Lib.itoa c]:=by rw[strs,if_pos rfl]
  generalize hx:cX (strs 2 c [])=x at *;rw[e]at *;have n1:([pH,Lib.itoa c].getD 0 []==cs1)=false:=rfl;have n2:([pH,Lib.itoa c].getD 0 []==([106,111,105,110]:aaA))=true:=rfl;rw[n1,n2,if_neg (by decide),aA (by simp),aA (by simp),if_pos (by rfl)];simp only[abP,abK];rw[vA c (by omega) (by omega),aC,aA (by simp),aA (by simp)];exact key 2 rfl (by simp)
 ·have e:strs 3 0 []=[cs1]:=by rw[strs,if_neg (by decide),if_pos rfl]
  generalize hx:cX (strs 3 0 [])=x at *;rw[e]at *;rw[if_pos (by rfl)];exact key 3 rfl (by simp)
open Classical in
theorem aBw (x:aaA) (hx:x.length<=1000000) (h:∀k c l,okE k c l->cX (strs k c l)≠x):f61 x=some errE:=by
 obtain⟨b,L,h81,hs,hl⟩:=f81_some x hx
 have key : ∀ (n : Nat) c l, l.length <= 1000000 -> ((f64 (n:Int) c l).bind fun(r11:Int)=>
   eO ((r11 !=(0:Int))==false) (f65 (n:Int) c l) fun(r12:aaA)=>
   if((r11 !=(0:Int))||(!(r12==x)))then some ((0:Int),(0:Int),([]:List Ss),(2:Int))else some ((n:Int),c,l,(0:Int)))=some errE:=by
  intro n c l hl1;rw[aA1 _ _ _ _ hl1,if_neg (fun hh=>h _ _ _ hh.1 hh.2)]
 unfold f61;rw[h81,aC];dsimp only;by_cases h0:((!b)||(((L.length:Nat):Int)==0))=true
 ·rw[if_pos h0];rfl
 ·have hL:1<=L.length:=by
   simp only[abT,abZ]at h0;omega
  rw[if_neg h0,bG,aA (by omega),aA (by omega)];by_cases h2:(L.getD 0 []==cs1)=true
  ·rw[if_pos h2];exact key 3 _ _ (by simp)
  ·rw[if_neg h2,aA (by omega),aA (by omega)];by_cases h1:((L.getD 0 []==([106,111,105,110]:aaA))&&(((L.length:Nat):Int)==2))=true
   ·rw[if_pos h1]
    have h1':L.length=2:=by
     simp only[aaL,abZ]at h1;omega
    obtain⟨v,hv⟩:=uZ (L.getD 1 []) (by have:=hs _ (bW L 1 [] (by omega));omega);rw[hv,aC,aA (by omega),aA (by omega)];exact key 2 _ _ (by simp)
   ·rw[if_neg h1,aA (by omega),aA (by omega),aA (fun _=>by omega)];by_cases h3:((L.getD 0 []==cs2)&&(((L.length%3:Nat):Int)==1))=true
    ·rw[if_pos h3];simp only[aaL,abZ]at h3
     obtain ⟨l, hl2, e⟩ := rF b L (fun s hs' => by have := hs s hs'; omega) (by omega) (fun((n3,i4,l5):Nat×Int×(List Ss))=>
      (f64 (n3:Int) i4 l5).bind fun(r11:Int)=>
      eO ((r11 !=(0:Int))==false) (f65 (n3:Int) i4 l5) fun(r12:aaA)=>
      if((r11 !=(0:Int))||(!(r12==x)))then some ((0:Int),(0:Int),([]:List Ss),(2:Int))else some ((n3:Int),i4,l5,(0:Int))) (L.length/3) aY 1 [] (by omega) (fuel_lt (by omega)) (by simp)
     exact e.trans (key 1 _ _ hl2)
    ·rw[if_neg h3];exact key 0 _ _ (by simp)
theorem dec_both (x:aaA) (hx:x.length<=1000000):∃k c l e,f68 x=some (k,c,l,e)/\f61 x=some (k,c,l,e)/\l.length<=8:=by
 by_cases h:∃k c l,okE k c l/\cX (strs k c l)=x
 ·obtain⟨k,c,l,hE,rfl⟩:=h;refine⟨k,c,l,0,f68_hit hE,f61_hit hE, ?_⟩;rcases hE with⟨_,_,h,_⟩|⟨_,_,_,rfl⟩|⟨_,_,rfl⟩
  ·exact h
  ·simp
  ·simp
 ·have h':∀k c l,okE k c l->cX (strs k c l)≠x:=fun k c l hE e=>h ⟨k,c,l,hE,e⟩;exact⟨_,_,_,_,aBr x hx h',aBw x hx h',by simp⟩
def resR (m:Mc) (q:Ss):aaA:=((f62 m.1 m.2 q.1 q.2.1 q.2.2).getD ([],[],[])).2.2
theorem uF {m:Mc} (q:Ss) (hm:McV m):f123 m.1 m.2 q.1 q.2.1 q.2.2=some ((wE m q).1,(wE m q).2,resR m q)/\f62 m.1 m.2 q.1 q.2.1 q.2.2=some ((wE m q).1,(wE m q).2,resR m q)/\McV (wE m q):=by
 obtain⟨s,h1,h2,ha⟩:=stpR_ex q hm
 have e:resR m q=s:=by
  unfold resR;rw[h2];rfl
 rw[e];exact⟨h1,h2,ha.ok⟩
def zH (m:Mc):List Ss->Mc×List Ss
 |[]=>(m,[])
 |q::l=>((zH (wE m q) l).1,(q.1,q.2.1,resR m q)::(zH (wE m q) l).2)
theorem entR_ok :∀(l:List Ss) (m:Mc),McV m->McV (zH m l).1
 |[],_,h=>h
 |q::l,m,h=>entR_ok l (wE m q) (uF q h).2.2
theorem aBY :∀(l:List Ss) (m:Mc),(zH m l).2.length=l.length
 |[],_=>rfl
 |q::l,m=>by simp[zH,aBY l]
theorem xR (r4:Ent) (h8:r4.2.2.1.length<=8) (K:List Pr×List Ss×List Ss->Option (List Pr×List Ss×List Ss)):∀(d k n:Nat) (m:Mc) (a:List Ss),McV m->n+d=r4.2.2.1.length->d<k->a.length<=n->
  oD r4 K k (n,m.1,m.2,a)=K ((zH m (r4.2.2.1.drop n)).1.1,(zH m (r4.2.2.1.drop n)).1.2,a++(zH m (r4.2.2.1.drop n)).2)
 |0,k,n,m,a,hm,hn,hk,ha=>by
  obtain⟨k,rfl⟩:∃z,k=z+1:=⟨k-1,by omega⟩
  rw[abF (by omega)]
  conv=>lhs;unfold oD
  rw[aK (by omega)]
  simp[zH]
 |d+1,k,n,m,a,hm,hn,hk,ha=>by
  obtain⟨k,rfl⟩:∃z,k=z+1:=⟨k-1,by omega⟩
  obtain⟨h1,_,h3⟩:=uF (r4.2.2.1.getD n default) hm
  have ih:=xR r4 h8 K d k (n+1) (wE m (r4.2.2.1.getD n default)) (a++[((r4.2.2.1.getD n default).1,(r4.2.2.1.getD n default).2.1,resR m (r4.2.2.1.getD n default))]) h3 (by omega) (by omega) (by simp;omega)
  conv=>lhs;unfold oD
  rw[aM (by omega),aA (by omega),h1,aC,aA (by omega),aA (by omega),ih,getD_drop r4.2.2.1 n default (by omega)]
  simp[zH]
theorem yG (r4:Ent) (h8:r4.2.2.1.length<=8) (K:List Pr×List Ss×List Ss->Option (List Pr×List Ss×List Ss)):∀(d k n:Nat) (m:Mc) (a:List Ss),McV m->n+d=r4.2.2.1.length->d<k->a.length<=n->
  oO r4 K k (n,m.1,m.2,a)=K ((zH m (r4.2.2.1.drop n)).1.1,(zH m (r4.2.2.1.drop n)).1.2,a++(zH m (r4.2.2.1.drop n)).2)
 |0,k,n,m,a,hm,hn,hk,ha=>by
  obtain⟨k,rfl⟩:∃z,k=z+1:=⟨k-1,by omega⟩
  rw[abF (by omega)]
  conv=>lhs;unfold oO
  rw[aK (by omega)]
  simp[zH]
 |d+1,k,n,m,a,hm,hn,hk,ha=>by
  obtain⟨k,rfl⟩:∃z,k=z+1:=⟨k-1,by omega⟩
  obtain⟨_,h1,h3⟩:=uF (r4.2.2.1.getD n default) hm
  have ih:=yG r4 h8 K d k (n+1) (wE m (r4.2.2.1.getD n default)) (a++[((r4.2.2.1.getD n default).1,(r4.2.2.1.getD n default).2.1,resR m (r4.2.2.1.getD n default))]) h3 (by omega) (by omega) (by simp;omega)
  conv=>lhs;unfold oO
  rw[aM (by omega),aA (by omega),h1,aC,aA (by omega),aA (by omega),ih,getD_drop r4.2.2.1 n default (by omega)]
  simp[zH]
theorem tZ (m:Mc) (hm:McV m) (v:aaA) (hv:v.length<=1000000):∃m' rs,f90 m.1 m.2 v=some (m'.1,m'.2,rs)/\f37 m.1 m.2 v=some (m'.1,m'.2,rs)/\McV m'/\rs.length<=8:=by
 obtain⟨k,c,l,e,h1,h2,h8⟩:=dec_both v hv;unfold f90 f37;rw[h1,h2,aC,aC];by_cases he:(e !=0)=true
 ·rw[if_pos he,if_pos he];exact⟨m,[],rfl,rfl,hm,by simp⟩
 ·rw[if_neg he,if_neg he,bG,bG];have a1:=xR (k,c,l,e) h8 (fun((l10,l11,l12):List Pr×List Ss×List Ss)=>some (l10,l11,l12)) l.length aY 0 m [] hm (by simp) (fuel_lt (by omega)) (by simp);have a2:=yG (k,c,l,e) h8 (fun((l10,l11,l12):List Pr×List Ss×List Ss)=>some (l10,l11,l12)) l.length aY 0 m [] hm (by simp) (fuel_lt (by omega)) (by simp);exact⟨(zH m l).1,(zH m l).2,a1,a2,entR_ok l m hm,by rw[aBY];exact h8⟩
def sC (m:Mc) (v:aaA):Mc:=let t:=(f37 m.1 m.2 v).getD ([],[],[]);(t.1,t.2.1)
theorem zX {m:Mc} (v:aaA) (hm:McV m) (hv:v.length<=1000000):∃rs,f90 m.1 m.2 v=some ((sC m v).1,(sC m v).2,rs)/\f37 m.1 m.2 v=some ((sC m v).1,(sC m v).2,rs)/\McV (sC m v):=by
 obtain⟨m',rs,h1,h2,hm',_⟩:=tZ m hm v hv
 have e:sC m v=m':=by
  unfold sC;rw[h2];rfl
 rw[e];exact⟨rs,h1,h2,hm'⟩
theorem stpV_ok :∀(l:List Ty0) (m:Mc),McV m->(∀v,v∈l->v.length<=1000000)->McV (l.foldl sC m)
 |[],_,h,_=>h
 |v::l,m,h,hv=>stpV_ok l (sC m v) (zX v h (hv v (aaV ..))).choose_spec.2.2 (fun u hu=>hv u (aaU _ hu))
abbrev RMc :=List Pr×List Ss
theorem xQ (x:List Ty0) (hl:x.length<=1000000) (hx:∀v,v∈x->v.length<=1000000) (K:RMc->Option RMc):∀(d k n:Nat) (m:Mc),McV m->n+d=x.length->d<k->oC x K k (n,m.1,m.2)=K (((x.drop n).foldl sC m).1,((x.drop n).foldl sC m).2)
 |0,k,n,m,hm,hn,hk=>by
  obtain⟨k,rfl⟩:∃z,k=z+1:=⟨k-1,by omega⟩
  rw[abF (by omega)]
  conv=>lhs;unfold oC
  rw[aK (by omega)]
  rfl
 |d+1,k,n,m,hm,hn,hk=>by
  obtain⟨k,rfl⟩:∃z,k=z+1:=⟨k-1,by omega⟩
  obtain⟨rs,h1,_,h3⟩:=zX (x.getD n []) hm (hx _ (bW x n [] (by omega)))
  have ih:=xQ x hl hx K d k (n+1) (sC m (x.getD n [])) h3 (by omega) (by omega)
  conv=>lhs;unfold oC
  rw[aM (by omega),aA (by omega),h1,aC,aA (by omega),ih,getD_drop x n [] (by omega)]
  rfl
theorem yC (x:List Ty0) (hl:x.length<=1000000) (hx:∀v,v∈x->v.length<=1000000) (K:RMc->Option RMc):∀(d k n:Nat) (m:Mc),McV m->n+d=x.length->d<k->oL x K k (n,m.1,m.2)=K (((x.drop n).foldl sC m).1,((x.drop n).foldl sC m).2)
 |0,k,n,m,hm,hn,hk=>by
  obtain⟨k,rfl⟩:∃z,k=z+1:=⟨k-1,by omega⟩
  rw[abF (by omega)]
  conv=>lhs;unfold oL
  rw[aK (by omega)]
  rfl
 |d+1,k,n,m,hm,hn,hk=>by
  obtain⟨k,rfl⟩:∃z,k=z+1:=⟨k-1,by omega⟩
  obtain⟨rs,_,h1,h3⟩:=zX (x.getD n []) hm (hx _ (bW x n [] (by omega)))
  have ih:=yC x hl hx K d k (n+1) (sC m (x.getD n [])) h3 (by omega) (by omega)
  conv=>lhs;unfold oL
  rw[aM (by omega),h1,aC,aA (by omega),aA (by omega),ih,getD_drop x n [] (by omega)]
  rfl
theorem f91_eq (x:List Ty0) (hl:x.length<=1000000) (hx:∀v,v∈x->v.length<=1000000):f91 x=some ((x.foldl sC ([],[])).1,(x.foldl sC ([],[])).2):=by
 have h:=xQ x hl hx (fun((l7,l8):RMc)=>some (l7,l8)) x.length aY 0 ([],[]) ⟨StV.nil,SesV.nil⟩ (by omega) (fuel_lt (by omega));unfold f91 f124;rw[aC,bG];exact h
theorem f38_eq (x:List Ty0) (hl:x.length<=1000000) (hx:∀v,v∈x->v.length<=1000000):f38 x=some ((x.foldl sC ([],[])).1,(x.foldl sC ([],[])).2):=by
 have h:=yC x hl hx (fun((l7,l8):RMc)=>some (l7,l8)) x.length aY 0 ([],[]) ⟨StV.nil,SesV.nil⟩ (by omega) (fuel_lt (by omega))
 have h60:f63 [] [] x=some ((x.foldl sC ([],[])).1,(x.foldl sC ([],[])).2):=by
  unfold f63;rw[bG];exact h
 unfold f38;rw[h60];rfl
end Go.Abs
namespace Go.Abs
section
variable {α β:Type} [DecidableEq α]
theorem xG (x:α):∀(l:List (α×β)) (i:Nat),lA x (l.map (·.1)) i=none->∀p,p∈l->x≠p.1
 |[],_,_,p,hp=>by cases hp
 |q::l,i,h,p,hp=>by
  simp only[abS,lA]at h
  by_cases e:x=q.1
  ·rw[if_pos e]at h;cases h
  ·rw[if_neg e]at h
   rcases abC.1 hp with rfl|hp
   ·exact e
   ·exact xG x l (i+1) h p hp
theorem xF (x:α):∀(l:List (α×β)) (i j:Nat),lA x (l.map (·.1)) i=some j->∃A p B,l=A++p::B/\j=i+A.length/\x=p.1/\∀q,q∈A->x≠q.1
 |[],_,_,h=>by cases h
 |q::l,i,j,h=>by
  simp only[abS,lA]at h
  by_cases e:x=q.1
  ·rw[if_pos e]at h;cases h
   exact⟨[],q,l,rfl,rfl,e,by simp⟩
  ·rw[if_neg e]at h
   obtain⟨A,p,B,h1,h2,h3,h4⟩:=xF x l (i+1) j h
   refine⟨q::A,p,B,by rw[h1];rfl,by simp;omega,h3,fun r hr=> ?_⟩
   rcases abC.1 hr with rfl|hr
   ·exact e
   ·exact h4 r hr
theorem rA (x:α):∀(A:List (α×β)) (B:List (α×β)),(∀q,q∈A->x≠q.1)->(A++B).find? (fun p=>decide (x=p.1))=B.find? (fun p=>decide (x=p.1))
 |[],_,_=>rfl
 |a::A,B,h=>by
  rw[afU,aeA]
  have:decide (x=a.1)=false:=abV (h a (aaV ..))
  rw[this]
  exact rA x A B fun q hq=>h q (aaU _ hq)
theorem aBk (l:List (α×β)) (x k:α) (y:β):(gA l x y).find? (fun p=>decide (k=p.1))=if k=x then some (x,y)else l.find? (fun p=>decide (k=p.1)):=by
 unfold gA
 cases hi:lA x (l.map (·.1)) 0 with
 |none=>
  have h:=xG x l 0 hi;simp only[];by_cases e:k=x
  ·subst e;rw[if_pos rfl,rA _ _ _ h,aeA];simp
  ·rw[if_neg e,adR]
   cases l.find? (fun p=>decide (k=p.1))with
   |some _=>rfl
   |none=>simp[e]
 |some j=>
  obtain⟨A,p,B,rfl,h2,h3,h4⟩:=xF x l 0 j hi;have ej:j=A.length:=by omega
  subst ej;simp only[]
  have es:(A++p::B).set A.length (x,y)=A++(x,y)::B:=by
   rw[List.set_append_right _ _ (aaY _)];simp
  rw[es];by_cases e:k=x
  ·subst e;rw[if_pos rfl,rA _ _ _ h4,aeA];simp
  ·rw[if_neg e,adR,adR,aeA,aeA];have h5:decide (k=x)=false:=abV e;have h6:decide (k=p.1)=false:=abV (fun h=>e (by rw[h,h3]));simp only[h5,h6]
theorem qY (l:List (α×β)) (x k:α) (y z:β):gM (gA l x y) z k=if k=x then y else gM l z k:=by
 unfold gM;rw[aBk];by_cases e:k=x
 ·rw[if_pos e,if_pos e]
 ·rw[if_neg e,if_neg e]
theorem hM_find (l:List (α×β)) (k:α):hM l k=(l.find? (fun p=>decide (k=p.1))).isSome:=by
 unfold hM
 induction l with
 |nil=>rfl
 |cons a l ih=>
  rw[adH,aeA]
  cases decide (k=a.1)with
  |true=>rfl
  |false=>simpa using ih
theorem hM_upd (l:List (α×β)) (x k:α) (y:β):hM (gA l x y) k=(decide (k=x)||hM l k):=by
 rw[hM_find,hM_find,aBk];by_cases e:k=x
 ·rw[if_pos e];simp[e]
 ·rw[if_neg e];simp[e]
end
theorem wI {β:Type}:∀(k:Nat) (l:List (Int×β)),(∀i,i<k->∃p,p∈l/\p.1=((i:Nat):Int))->k<=l.length
 |0,_,_=>abM _
 |k+1,l,h=>by
  obtain⟨p,hp,e⟩:=h k (by omega)
  have ih:=wI k (l.filter fun q=> !decide (q.1=((k:Nat):Int))) fun i hi=>by
   obtain⟨q,hq,eq⟩:=h i (by omega)
   exact⟨q,adX.2 ⟨hq,by simp;omega⟩,eq⟩
  have hlt:(l.filter fun q=> !decide (q.1=((k:Nat):Int))).length<l.length:=by
   rcases afP (l.filter fun q=> !decide (q.1=((k:Nat):Int))).length l.length with h2|h2
   ·exact h2
   ·have:=List.length_filter_eq_length_iff.1 (Nat.le_antisymm (List.length_filter_le _ l) h2) p hp
    simp[e]at this
  omega
end Go.Abs
namespace Go.Abs
abbrev agE:=@List.dropLast_concat_getLast
def pty (k w:Int):Int×Bool:=if k=4/\0<=w/\w<12 then(w,true)else if k=3/\0<=w/\w<6 then(12+w,true)else(0,false)
theorem aBz {x1 x2 x3 x4 x5 x6 x7}:
  f50 x1 x2 x3 x4 x5 x6 x7=some (pty x2 x3):=by
 unfold f50 pty f57;by_cases h4:x2=4/\0<=x3/\x3<12
 ·rw[if_pos h4,if_pos (by simp[h4.1,h4.2.1,h4.2.2])]
 ·rw[if_neg h4,if_neg (by simp;omega)];by_cases h3:x2=3
  ·have e:((x2==(3:Int))==true)=true:=by simp[h3]
   rw[e,eH,aC];by_cases hw:0<=x3/\x3<6
   ·rw[if_pos (by simp[h3,hw.1,hw.2]),if_pos ⟨h3,hw⟩,aA (by omega)]
   ·rw[if_neg (by simp;omega),if_neg (by omega)]
  ·have e:((x2==(3:Int))==true)=false:=by simp[h3]
   rw[e,eX,if_neg (by simp),if_neg (fun h=>h3 h.1)]
def st (p:Y51):Bool:=(pty p.2.1 p.2.2.1).2
abbrev aAd (p:Y51):Int×Bool:=pty p.2.1 p.2.2.1
abbrev slot (p:Y51):Int:=p.2.2.2.1
abbrev gQ (p:Y51):aaA:=p.2.2.2.2.2.1
theorem zY {p:Y51} (h:st p=true):p.2.1=4\/p.2.1=3:=by
 unfold st pty at h;by_cases h4:p.2.1=4/\0<=p.2.2.1/\p.2.2.1<12
 ·exact .inl h4.1
 ·rw[if_neg h4]at h;by_cases h3:p.2.1=3/\0<=p.2.2.1/\p.2.2.1<6
  ·exact .inr h3.1
  ·rw[if_neg h3]at h;cases h
abbrev MV_ :=List Tq5
abbrev MX_ :=List Tq4
abbrev MS_ :=List Ty2
abbrev MA_ :=List Tq2
abbrev MQ_ :=List (Tq0×Bool)
abbrev MK_ :=List (Tq2×Bool)
def seeV (a:MV_) (s:Int) (t:aaA):MV_:=if hM a s=true then a else gA a s t
def seeX (a:MV_) (b:MX_) (s:Int) (t:aaA):MX_:=if hM a s=true then(if(gM a [] s==t)=true then b else gA b s true)else b
def seeS (c:MS_) (q s:Int) (t:aaA):MS_:=if hM c (q,s)=true then c else gA c (q,s) t
def seeA (d:MA_) (k w:Int):MA_:=if(k==3)=true then gA d w (gM d 0 w+1)else d
theorem f57_eq {x1 x2 x3 x4 x5 x6 x7}:
  f57 x1 x2 x3 x4 x5 x6 x7=some (decide (x3>=0)&&decide (x3<6)):=rfl
theorem kT {α β:Type} [Inhabited α] {c:Bool} {a:α} {k:α->Option β}:eO c (some a) k=k (if c=true then a else default):=by
 cases c<;>rfl
theorem f45_st {x1 x2 x3 x4 x5 x6 x7} (a:MV_) (b:MX_) (c:MS_) (d:MA_) (e:MS_) (f:MQ_) (g:MK_) (h:(pty x2 x3).2=true) (hb: -9223372036854775808<=gM d 0 x3+1/\gM d 0 x3+1<=9223372036854775807):
  f45 x1 x2 x3 x4 x5 x6 x7 a b c d e f g=some (seeV a x4 x6,seeX a b x4 x6,seeS c (pty x2 x3).1 x4 x6,seeA d x2 x3,e,f,g):=by
 have hk:x2≠1/\x2≠2:=by
  unfold pty at h;by_cases h4:x2=4/\0<=x3/\x3<12
  ·omega
  ·rw[if_neg h4]at h;by_cases h3:x2=3/\0<=x3/\x3<6
   ·omega
   ·rw[if_neg h3]at h;cases h
 have e1:(x2==(1:Int))=false:=by simp[hk.1]
 have e2:(x2==(2:Int))=false:=by simp[hk.2]
 unfold f45;rw[bG,aBz,aC,if_pos h];simp only[bG,e1,e2,eX,adA,show(false==true)=false from rfl];unfold seeV seeX seeS seeA
 cases h1:hM a x4 with
 |false=>
  cases h3:hM c ((pty x2 x3).1,x4)with
  |false=>
   cases h4:(x2==3)with
   |false=>rfl
   |true=>simp[aA hb]
  |true=>
   cases h4:(x2==3)with
   |false=>rfl
   |true=>simp[aA hb]
 |true=>
  cases h2:(gM a [] x4==x6)with
  |false=>
   cases h3:hM c ((pty x2 x3).1,x4)with
   |false=>
    cases h4:(x2==3)with
    |false=>rfl
    |true=>simp[aA hb]
   |true=>
    cases h4:(x2==3)with
    |false=>rfl
    |true=>simp[aA hb]
  |true=>
   cases h3:hM c ((pty x2 x3).1,x4)with
   |false=>
    cases h4:(x2==3)with
    |false=>rfl
    |true=>simp[aA hb]
   |true=>
    cases h4:(x2==3)with
    |false=>rfl
    |true=>simp[aA hb]
def gV (s:MV_×MX_) (p:Y51):MV_×MX_:=if st p=true then(seeV s.1 (slot p) (gQ p),seeX s.1 s.2 (slot p) (gQ p))else s
def comV (x:List Y51):MV_×MX_:=x.foldl gV ([],[])
theorem take_snoc {α:Type} (l:List α) (j:Nat) (d:α) (h:j<l.length):l.take (j+1)=l.take j++[l.getD j d]:=by
 rw[agU];simp[aaC,h]
theorem rL (x:List Y51) (hx:x.length<=9223372036854775807) (K:Int->Option Bool) (hK:∀i,∃b,K i=some b/\(b=true->x.length<=60)):∀(m k n:Nat) (i:Int),n+m=x.length->m<k->∃b,jR x K k (i,n)=some b/\(b=true->x.length<=60)
 |0,k,n,i,hn,hk=>by
  obtain⟨k,rfl⟩:∃z,k=z+1:=⟨k-1,by omega⟩
  conv=>enter [1,b,1,1];unfold jR
  rw[aK (by omega)]
  exact hK i
 |m+1,k,n,i,hn,hk=>by
  obtain⟨k,rfl⟩:∃z,k=z+1:=⟨k-1,by omega⟩
  conv=>enter [1,b,1,1];unfold jR
  rw[aM (by omega),aA (by omega),aA (by omega),aA (by omega)]
  exact rL x hx K hK m k (n+1) _ (by omega) (by omega)
theorem f16_some (x:List Y51) (hx:x.length<=9223372036854775807):∃b,f16 x=some b/\(b=true->x.length<=60):=by
 unfold f16;rw[bG]
 exact rL x hx _ (fun i => ⟨_,rfl,fun h=>by
  simp only[aaL,abA]at h;omega⟩) x.length aY 0 0 (by omega) (fuel_lt (by omega))
def tx (x:List Y51) (s:Int):List Ty0:=(x.filter fun p=>st p&&decide (slot p=s)).map gQ
theorem tx_app (x y:List Y51) (s:Int):tx (x++y) s=tx x s++tx y s:=by
 unfold tx;rw[aeQ,agC]
theorem tx_one (p:Y51) (s:Int):tx [p] s=if st p=true/\slot p=s then[gQ p]else[]:=by
 unfold tx;by_cases h:st p=true/\slot p=s
 ·rw[if_pos h,acZ (by simp[h.1,h.2])];rfl
 ·rw[if_neg h,acJ (by simpa using h)];rfl
structure ComI (x:List Y51) (a:MV_) (b:MX_):Prop where
 h:∀s,hM a s= !(tx x s).isEmpty
 g:∀s,gM a [] s=(tx x s).headD []
 m:∀s,gM b false s=(tx x s).any fun t=> !(t==(tx x s).headD [])
theorem comI :∀x:List Y51,ComI x (comV x).1 (comV x).2:=by
 intro x;generalize hn:x.length=n
 induction n generalizing x with
 |zero=>
  obtain rfl:=acB hn
  exact⟨fun s=>rfl,fun s=>rfl,fun s=>rfl⟩
 |succ n ih=>
  have hne:x≠[]:=fun e=>by subst e;cases hn
  obtain⟨y,p,rfl⟩:∃y p,x=y++[p]:=⟨x.dropLast,x.getLast hne,(agE hne).symm⟩;have hI:=ih y (by simpa using hn);have e:comV (y++[p])=gV (comV y) p:=by unfold comV;rw[adB];rfl
  rw[e];generalize(comV y)=q at hI;obtain⟨a,b⟩:=q;unfold gV;by_cases hs:st p=true
  ·rw[if_pos hs];dsimp only
   have ht:∀s,tx (y++[p]) s=if slot p=s then tx y s++[gQ p]else tx y s:=fun s=>by
    rw[tx_app,tx_one];by_cases h:slot p=s
    ·rw[if_pos ⟨hs,h⟩,if_pos h]
    ·rw[if_neg (fun q=>h q.2),if_neg h,aeB]
   have hh:=hI.h (slot p);have hg:=hI.g (slot p);have hm:=hI.m (slot p);unfold seeV seeX
   cases hT:tx y (slot p)with
   |nil=>
    rw[hT]at hh hg hm;simp only[List.isEmpty_nil,acS]at hh;rw[if_neg (by rw[hh];simp),if_neg (by rw[hh];simp)];refine⟨fun s=> ?_,fun s=> ?_,fun s=> ?_⟩
    ·rw[hM_upd,ht];by_cases h:slot p=s
     ·subst h;rw[if_pos rfl];simp
     ·rw[if_neg h,hI.h s,abV (fun e=>h e.symm)];simp
    ·rw[qY,ht];by_cases h:slot p=s
     ·subst h;rw[if_pos rfl,if_pos rfl,hT];rfl
     ·rw[if_neg h,if_neg (fun e=>h e.symm),hI.g s]
    ·rw[ht];by_cases h:slot p=s
     ·subst h;rw[if_pos rfl,hT,hm];simp
     ·rw[if_neg h,hI.m s]
   |cons t r=>
    rw[hT]at hh hg hm;simp only[List.isEmpty_cons,adW]at hh;simp only[List.headD_cons]at hg;rw[if_pos hh,if_pos hh,hg];refine⟨fun s=> ?_,fun s=> ?_,fun s=> ?_⟩
    ·rw[hI.h s,ht];by_cases h:slot p=s
     ·subst h;rw[if_pos rfl,hT];simp
     ·rw[if_neg h]
    ·rw[hI.g s,ht];by_cases h:slot p=s
     ·subst h;rw[if_pos rfl,hT];rfl
     ·rw[if_neg h]
    ·rw[ht];by_cases h:slot p=s
     ·subst h;rw[if_pos rfl,hT];by_cases h3:(t==gQ p)=true
      ·rw[if_pos h3,hm];have h4:gQ p=t:=(eq_of_beq h3).symm;simp[h4]
      ·rw[if_neg h3,qY,if_pos rfl]
       have h4:(gQ p==t)=false:=by
        cases h5:(gQ p==t)with
        |false=>rfl
        |true=>exact absurd (by rw[eq_of_beq h5];simp) h3
       simp[h4]
     ·rw[if_neg h];split
      ·exact hI.m s
      ·rw[qY,if_neg (fun e=>h e.symm),hI.m s]
  ·rw[if_neg hs];have ht:∀s,tx (y++[p]) s=tx y s:=fun s=>by rw[tx_app,tx_one,if_neg (fun q=>hs q.1),aeB]
   exact⟨fun s=>by rw[ht];exact hI.h s,fun s=>by rw[ht];exact hI.g s,fun s=>by rw[ht];exact hI.m s⟩
/-! ### the reference's Common -/
abbrev Cfg_ :=aaA×Int×BitVec 16×aaB×aaB×cU
section
variable {x1:List Ty0} {x2:List Tq7} {x3:BitVec 16} {x4:List Cfg_} {x5:List Int} {x6:List Ty4}
end
theorem f16_few (x:List Y51) (hx:x.length<=9223372036854775807) (ht:∀p∈x,(gQ p).length<=140737488355328/\p.2.2.2.2.2.2.length<=140737488355328):∃b,f16 x=some b/\(b=true->x.length<=60/\∀p∈x,(gQ p).length<=20000):=by
 obtain⟨b,h1,h2⟩:=f16_some x hx;refine⟨b,h1,fun hb=> ?_⟩;have h60:=h2 hb;refine⟨h60, ?_⟩;subst hb
 have hw:∀z:Int,0<=z->z<=9223372036854775807->IntKind.wrap .i64 z=z:=fun z h1 h2=>by
  unfold IntKind.wrap;simp[IntKind.bits,IntKind.signed];omega
 have main:∀d k n (s:Int),n+d=x.length->d<k->0<=s->s<=n *281474976710656->jR x (fun(i4:Int)=>some ((decide ((((x).length:Nat):Int)<=(60:Int)))&&(decide (i4<=(20000:Int))))) k (s,n)=some true->s<=20000/\∀p∈x.drop n,(gQ p).length<=20000:=by
  intro d
  induction d with
  |zero=>
   intro k n s hn hk h0 hs h;obtain⟨k,rfl⟩:∃z,k=z+1:=⟨k-1,by omega⟩;rw[jR.eq_2,aK (by omega)]at h;simp only[Option.some.injEq,aaL,abA]at h;refine⟨h.2,fun p hp=> ?_⟩
   rw[abF (by omega)]at hp;cases hp
  |succ d ih=>
   intro k n s hn hk h0 hs h;obtain⟨k,rfl⟩:∃z,k=z+1:=⟨k-1,by omega⟩;have hp:=ht _ (bW x n (default:Y51) (by omega));have hd:=getD_drop x n (default:Y51) (by omega);rw[jR.eq_2,aM (by omega),aA (by omega),aA (by omega),aA (by omega)]at h;rw[hd];generalize x.getD n (default:Y51)=p at h hp;have hp1:(p.2.2.2.2.2.1).length<=140737488355328:=hp.1;rw[hw (s+((p.2.2.2.2.2.1.length:Nat):Int)) (by omega) (by omega),hw _ (by omega) (by omega)]at h;obtain⟨g1,g2⟩:=ih k (n+1) _ (by omega) (by omega) (by omega) (by omega) h;refine⟨by omega,fun q hq=> ?_⟩;rcases abC.1 hq with rfl|hq
   ·show(q.2.2.2.2.2.1).length<=_;omega
   ·exact g2 q hq
 unfold f16 at h1;rw[bG]at h1;have:=main x.length aY 0 0 (by omega) (fuel_lt (by omega)) (aeN _) (by simp) h1;simpa using this.2
end Go.Abs
namespace Go.Abs
abbrev who (p:Y51):Int:=p.2.2.1
abbrev nmb (p:Y51):Int:=p.2.2.2.2.1
abbrev Rec_ :=MV_×MX_×MS_×MA_×MS_×MQ_×MK_
def cl (p:Y51):Bool:=decide (p.2.2.1>=0)&&decide (p.2.2.1<6)
def iv (p:Y51):Bool:=(p.2.1==1)&&cl p
def ak (p:Y51):Bool:=(p.2.1==2)&&cl p
def seeE (e:MS_) (p:Y51):MS_:=if iv p=true then(if hM e (who p,nmb p)=true then e else gA e (who p,nmb p) (gQ p))else e
def seeQ (f:MQ_) (p:Y51):MQ_:=if iv p=true then gA f (who p,nmb p,gQ p) true else f
def seeK (g:MK_) (p:Y51):MK_:=if ak p=true then gA g (who p,nmb p) true else g
def seeP (q:MS_×MA_) (p:Y51):MS_×MA_:=if st p=true then(seeS q.1 (aAd p).1 (slot p) (gQ p),seeA q.2 p.2.1 (who p))else q
def wK (q:Rec_) (p:Y51):Rec_:=((gV (q.1,q.2.1) p).1,(gV (q.1,q.2.1) p).2,(seeP (q.2.2.1,q.2.2.2.1) p).1,(seeP (q.2.2.1,q.2.2.2.1) p).2,seeE q.2.2.2.2.1 p,seeQ q.2.2.2.2.2.1 p,seeK q.2.2.2.2.2.2 p)
theorem f45_all (p:Y51) (a:MV_) (b:MX_) (c:MS_) (d:MA_) (e:MS_) (f:MQ_) (g:MK_) (hb: -9223372036854775808<=gM d 0 (who p)+1/\gM d 0 (who p)+1<=9223372036854775807):
  f45 p.1 p.2.1 p.2.2.1 p.2.2.2.1 p.2.2.2.2.1 p.2.2.2.2.2.1 p.2.2.2.2.2.2 a b c d e f g=some (wK (a,b,c,d,e,f,g) p):=by
 unfold wK gV seeP;by_cases h:st p=true
 ·rw[if_pos h,if_pos h];have hk:=zY h;have e1:iv p=false:=by unfold iv;rcases hk with h|h<;>rw[h]<;>rfl
  have e2:ak p=false:=by unfold ak;rcases hk with h|h<;>rw[h]<;>rfl
  rw[f45_st a b c d e f g h hb];unfold seeE seeQ seeK;rw[e1,e2];rfl
 ·have h':(pty p.2.1 p.2.2.1).2=false:=by simpa[st]using h
  rw[if_neg h,if_neg h];unfold f45;rw[bG,aBz,aC,if_neg (by rw[h'];simp)];dsimp only;simp only[f57_eq,kT];unfold seeE seeQ seeK iv ak;have hc:(decide (p.2.2.1>=0)&&decide (p.2.2.1<6))=cl p:=rfl;rw[hc]
  cases h1:(p.2.1==(1:Int))with
  |true=>
   have h2:(p.2.1==(2:Int))=false:=by
    have:=eq_of_beq h1;rw[this];rfl
   rw[h2]
   cases cl p with
   |false=>rfl
   |true=>
    cases hM e (who p,nmb p)<;>rfl
  |false=>
   cases h2:(p.2.1==(2:Int))with
   |false=>rfl
   |true=>
    cases cl p with
    |false=>rfl
    |true=>rfl
def FI {K:Type} [DecidableEq K] (c:List (K×aaA)) (L:K->List Ty0):Prop:=∀k,hM c k= !(L k).isEmpty/\gM c [] k=(L k).headD []
theorem FI_step {K:Type} [DecidableEq K] {c:List (K×aaA)} {L:K->List Ty0} (hI:FI c L) (k0:K) (t:aaA) (L':K->List Ty0) (hL:∀k,L' k=if k=k0 then L k++[t]else L k):
  FI (if hM c k0=true then c else gA c k0 t) L':=by
 intro k;obtain⟨h1,h2⟩:=hI k;rw[hL];by_cases hh:hM c k0=true
 ·rw[if_pos hh];by_cases e:k=k0
  ·subst e;rw[if_pos rfl]
   cases hz:L k with
   |nil=>rw[h1,hz]at hh;simp at hh
   |cons x r=>rw[h1,h2,hz];exact⟨rfl,rfl⟩
  ·rw[if_neg e];exact⟨h1,h2⟩
 ·rw[if_neg hh,hM_upd,qY];by_cases e:k=k0
  ·subst e
   cases hz:L k with
   |nil=>rw[if_pos rfl,if_pos rfl];simp
   |cons x r=>rw[h1,hz]at hh;simp at hh
  ·rw[if_neg e,if_neg e,abV e,adG];exact⟨h1,h2⟩
def tsL (y:List Y51) (k:Tq2):List Ty0:=(y.filter fun p=>st p&&(decide ((aAd p).1=k.1)&&decide (slot p=k.2))).map gQ
def ivL (y:List Y51) (k:Tq2):List Ty0:=(y.filter fun p=>iv p&&(decide (who p=k.1)&&decide (nmb p=k.2))).map gQ
def akB (y:List Y51) (k:Tq2):Bool:=y.any fun p=>ak p&&(decide (who p=k.1)&&decide (nmb p=k.2))
def asB (y:List Y51) (k:Tq0):Bool:=y.any fun p=>iv p&&(decide (who p=k.1)&&(decide (nmb p=k.2.1)&&decide (gQ p=k.2.2)))
def acN (y:List Y51) (w:Int):Nat:=(y.filter fun p=>st p&&((p.2.1==3)&&decide (who p=w))).length
def aCh (y:List Y51):Rec_:=y.foldl wK ([],[],[],[],[],[],[])
theorem rec_com :∀(y:List Y51) (q:Rec_),((y.foldl wK q).1,(y.foldl wK q).2.1)=y.foldl gV (q.1,q.2.1)
 |[],q=>rfl
 |p::y,q=>by
  rw[acF,acF,rec_com y (wK q p)]
  rfl
def RI (y:List Y51) (q:Rec_):Prop:=FI q.2.2.1 (tsL y)/\(∀w,gM q.2.2.2.1 0 w=((acN y w:Nat):Int))/\FI q.2.2.2.2.1 (ivL y)/\(∀k,gM q.2.2.2.2.2.1 false k=asB y k)/\(∀k,gM q.2.2.2.2.2.2 false k=akB y k)
theorem RI_step {y:List Y51} {q:Rec_} (p:Y51) (h:RI y q):RI (y++[p]) (wK q p):=by
 obtain⟨hc,hd,he,hf,hg⟩:=h;obtain⟨a,b,c,d,e,f,g⟩:=q;dsimp only at hc hd he hf hg
 have hT:∀k,tsL (y++[p]) k=if st p=true/\(aAd p).1=k.1/\slot p=k.2 then tsL y k++[gQ p]else tsL y k:=fun k=>by
  unfold tsL;rw[aeQ,agC];by_cases h:st p=true/\(aAd p).1=k.1/\slot p=k.2
  ·rw[if_pos h,acZ (by rw[h.1,abN h.2.1,abN h.2.2];rfl)];rfl
  ·rw[if_neg h,acJ (by simpa using h)];exact aeB _
 have hV:∀k,ivL (y++[p]) k=if iv p=true/\who p=k.1/\nmb p=k.2 then ivL y k++[gQ p]else ivL y k:=fun k=>by
  unfold ivL;rw[aeQ,agC];by_cases h:iv p=true/\who p=k.1/\nmb p=k.2
  ·rw[if_pos h,acZ (by rw[h.1,abN h.2.1,abN h.2.2];rfl)];rfl
  ·rw[if_neg h,acJ (by simpa using h)];exact aeB _
 unfold wK seeP;refine⟨?_,fun w=> ?_, ?_,fun k=> ?_,fun k=> ?_⟩
 ·show FI (if st p=true then(seeS c (aAd p).1 (slot p) (gQ p),seeA d p.2.1 (who p))else(c,d)).1 _;by_cases h:st p=true
  ·rw[if_pos h];refine FI_step hc ((aAd p).1,slot p) (gQ p) _ fun k=> ?_;rw[hT];by_cases e:k=((aAd p).1,slot p)
   ·subst e;rw[if_pos ⟨h,rfl,rfl⟩,if_pos rfl]
   ·rw[if_neg e,if_neg (fun z=>e (by obtain⟨_,z1,z2⟩:=z;rw[z1,z2]))]
  ·rw[if_neg h];intro k;rw[hT,if_neg (fun z=>h z.1)];exact hc k
 ·show gM (if st p=true then(seeS c (aAd p).1 (slot p) (gQ p),seeA d p.2.1 (who p))else(c,d)).2 0 w=_;unfold acN;rw[aeQ,aaF];have hd':=hd w;unfold acN at hd';by_cases h:st p=true
  ·rw[if_pos h];show gM (seeA d p.2.1 (who p)) 0 w=_;unfold seeA;by_cases h3:(p.2.1==(3:Int))=true
   ·rw[if_pos h3,qY];by_cases hw:w=who p
    ·subst hw;rw[if_pos rfl,hd',acZ (by rw[h,h3,abN rfl];rfl)];simp
    ·rw[if_neg hw,hd',acJ (by rw[abV (fun z=>hw z.symm)];simp)];simp
   ·rw[if_neg h3,hd',acJ (by rw[show(p.2.1==(3:Int))=false by simpa using h3];simp)];simp
  ·rw[if_neg h,acJ (by rw[show st p=false by simpa using h];simp)];exact hd'.trans (by simp)
 ·show FI (seeE e p) _;unfold seeE;by_cases h:iv p=true
  ·rw[if_pos h];refine FI_step he (who p,nmb p) (gQ p) _ fun k=> ?_;rw[hV];by_cases e:k=(who p,nmb p)
   ·subst e;rw[if_pos ⟨h,rfl,rfl⟩,if_pos rfl]
   ·rw[if_neg e,if_neg (fun z=>e (by obtain⟨_,z1,z2⟩:=z;rw[z1,z2]))]
  ·rw[if_neg h];intro k;rw[hV,if_neg (fun z=>h z.1)];exact he k
 ·show gM (seeQ f p) false k=_;unfold seeQ asB;rw[agD];have hf':=hf k;unfold asB at hf';by_cases h:iv p=true
  ·rw[if_pos h,qY];by_cases e:k=(who p,nmb p,gQ p)
   ·subst e;rw[if_pos rfl];simp[h]
   ·rw[if_neg e,hf',adH,h]
    have:(decide (who p=k.1)&&(decide (nmb p=k.2.1)&&decide (gQ p=k.2.2)))=false:=by
     by_cases z1:who p=k.1
     ·by_cases z2:nmb p=k.2.1
      ·by_cases z3:gQ p=k.2.2
       ·exact absurd (by rw[z1,z2,z3]) e
       ·rw[abV z3];simp
      ·rw[abV z2];simp
     ·rw[abV z1];simp
    rw[this];simp
  ·rw[if_neg h,hf',adH,show iv p=false by simpa using h];simp
 ·show gM (seeK g p) false k=_;unfold seeK akB;rw[agD];have hg':=hg k;unfold akB at hg';by_cases h:ak p=true
  ·rw[if_pos h,qY];by_cases e:k=(who p,nmb p)
   ·subst e;rw[if_pos rfl];simp[h]
   ·rw[if_neg e,hg',adH,h]
    have:(decide (who p=k.1)&&decide (nmb p=k.2))=false:=by
     by_cases z1:who p=k.1
     ·by_cases z2:nmb p=k.2
      ·exact absurd (by rw[z1,z2]) e
      ·rw[abV z2];simp
     ·rw[abV z1];simp
    rw[this];simp
  ·rw[if_neg h,hg',adH,show ak p=false by simpa using h];simp
theorem recI (y:List Y51):ComI y (aCh y).1 (aCh y).2.1/\RI y (aCh y):=by
 refine⟨?_, ?_⟩
 ·have h:=comI y;have e:=rec_com y ([],[],[],[],[],[],[]);unfold aCh;unfold comV at h;rw[<-e]at h;exact h
 ·generalize hn:y.length=n
  induction n generalizing y with
  |zero=>
   obtain rfl:=acB hn
   exact⟨fun k=>⟨rfl,rfl⟩,fun w=>rfl,fun k=>⟨rfl,rfl⟩,fun k=>rfl,fun k=>rfl⟩
  |succ n ih=>
   have hne:y≠[]:=fun e=>by subst e;cases hn
   obtain⟨z,p,rfl⟩:∃z p,y=z++[p]:=⟨y.dropLast,y.getLast hne,(agE hne).symm⟩;have e:aCh (z++[p])=wK (aCh z) p:=by unfold aCh;rw[adB];rfl
   rw[e];exact RI_step p (ih z (by simpa using hn))
theorem recY_snoc (y:List Y51) (p:Y51):aCh (y++[p])=wK (aCh y) p:=by unfold aCh;rw[adB];rfl
end Go.Abs
namespace Go.Abs
theorem beqD {α:Type} [BEq α] [LawfulBEq α] [DecidableEq α] (a b:α):(a==b)=decide (a=b):=by
 by_cases h:a=b
 ·subst h;simp
 ·simp[h]
theorem pty_nn {k w:Int} (h:(pty k w).2=true):0<=(pty k w).1:=by
 unfold pty at h⊢;by_cases h4:k=4/\0<=w/\w<12
 ·rw[if_pos h4];exact h4.2.1
 ·rw[if_neg h4]at h⊢;by_cases h3:k=3/\0<=w/\w<6
  ·rw[if_pos h3];show 0<=12+w;omega
  ·rw[if_neg h3]at h;cases h
def pt (p:Y51):Int:=if st p=true then(aAd p).1 else-1
theorem vD (p:Y51):f52 p.1 p.2.1 p.2.2.1 p.2.2.2.1 p.2.2.2.2.1 p.2.2.2.2.2.1 p.2.2.2.2.2.2=some (pt p):=by
 unfold f52 pt st aAd pty;by_cases h4:p.2.1=4/\0<=p.2.2.1/\p.2.2.1<12
 ·rw[if_pos (by simp[h4.1,h4.2.1,h4.2.2]),if_pos h4,if_pos rfl]
 ·rw[if_neg (by simp;omega),if_neg h4];by_cases h3:p.2.1=3/\0<=p.2.2.1/\p.2.2.1<6
  ·rw[if_pos (by simp[h3.1,h3.2.1,h3.2.2]),if_pos h3,aA (by omega),if_pos rfl]
  ·rw[if_neg (by simp;omega),if_neg h3,if_neg (by simp)]
theorem pt_st (p:Y51):decide (pt p>=0)=st p:=by
 unfold pt;by_cases h:st p=true
 ·rw[if_pos h,h];exact abN (pty_nn h)
 ·rw[if_neg h,show st p=false by simpa using h];rfl
theorem pt_eq (p:Y51) (q:Int) (hq:0<=q):(pt p==q)=(st p&&decide ((aAd p).1=q)):=by
 unfold pt;by_cases h:st p=true
 ·rw[if_pos h,h,acK];exact beqD _ _
 ·rw[if_neg h,show st p=false by simpa using h,adA];exact beq_eq_false_iff_ne.2 (by omega)
theorem xO (y:List Y51) (hy:y.length<=1000000) (q s:Int) (hq:0<=q) (K:Unit->Option (aaA×Bool)):∀(d k n:Nat),n+d=y.length->d<k->
  oA y q s K k n=(match tsL (y.drop n) (q,s)with|[]=>K ()|t::_=>some (t,true))
 |0,k,n,hn,hk=>by
  obtain⟨k,rfl⟩:∃z,k=z+1:=⟨k-1,by omega⟩
  rw[abF (by omega)]
  conv=>lhs;unfold oA
  rw[aK (by omega)]
  rfl
 |d+1,k,n,hn,hk=>by
  obtain⟨k,rfl⟩:∃z,k=z+1:=⟨k-1,by omega⟩
  have e1:=getD_drop y n (default:Y51) (by omega)
  rw[e1]
  conv=>lhs;unfold oA
  rw[aM (by omega),vD,aC,aA (by omega),aA (fun _=>by omega),pt_eq _ q hq]
  have ih:=xO y hy q s hq K d k (n+1) (by omega) (by omega)
  generalize y.getD n (default:Y51)=p
  by_cases h:st p=true/\(aAd p).1=q/\slot p=s
  ·rw[if_pos (by rw[h.1,abN h.2.1];simpa using h.2.2),aA (by omega)]
   unfold tsL
   rw[acZ (by rw[h.1,abN h.2.1,abN h.2.2];rfl)]
   rfl
  ·rw [if_neg (fun z => h (by
    simp only[aaL,abA,abZ]at z
    exact⟨z.1.1,z.1.2,z.2⟩)),aA (by omega),ih]
   unfold tsL
   rw[acJ (p:=fun p=>st p&&(decide ((aAd p).1=(q,s).1)&&decide (slot p=(q,s).2))) (by simpa using h)]
theorem aBe (l:List Ty0):(match l with|[]=>(some ([],false):Option (aaA×Bool))|t::_=>some (t,true))=some (l.headD [], !l.isEmpty):=by
 cases l<;>rfl
theorem f95_eq (y:List Y51) (hy:y.length<=1000000) (q s:Int) (hq:0<=q):f95 y q s=some ((tsL y (q,s)).headD [], !(tsL y (q,s)).isEmpty):=by
 unfold f95;rw[bG,xO y hy q s hq _ y.length aY 0 (by omega) (fuel_lt (by omega)),abY];exact aBe _
theorem cl_of {p:Y51} {w:Int} (hw:0<=w/\w<6) (h:who p=w):cl p=true:=by
 unfold cl;have h1:p.2.2.1=w:=h;rw[h1,abN hw.1,abN hw.2];rfl
theorem xP (y:List Y51) (hy:y.length<=1000000) (w m:Int) (hw:0<=w/\w<6) (K:Unit->Option (aaA×Bool)):∀(d k n:Nat),n+d=y.length->d<k->
  oB y w m K k n=(match ivL (y.drop n) (w,m)with|[]=>K ()|t::_=>some (t,true))
 |0,k,n,hn,hk=>by
  obtain⟨k,rfl⟩:∃z,k=z+1:=⟨k-1,by omega⟩
  rw[abF (by omega)]
  conv=>lhs;unfold oB
  rw[aK (by omega)]
  rfl
 |d+1,k,n,hn,hk=>by
  obtain⟨k,rfl⟩:∃z,k=z+1:=⟨k-1,by omega⟩
  have e1:=getD_drop y n (default:Y51) (by omega)
  rw[e1]
  conv=>lhs;unfold oB
  rw[aM (by omega),aA (by omega),aA (fun _=>by omega),aA (fun _=>by omega)]
  have ih:=xP y hy w m hw K d k (n+1) (by omega) (by omega)
  generalize y.getD n (default:Y51)=p
  by_cases h:iv p=true/\who p=w/\nmb p=m
  ·have h1:(p.2.1==(1:Int))=true:=by
    have:=h.1;unfold iv at this;rw[aaL]at this;exact this.1
   have h2:p.2.2.1=w:=h.2.1
   have h3:p.2.2.2.2.1=m:=h.2.2
   rw[if_pos (by rw[h1,h2,h3];simp),aA (by omega)]
   unfold ivL
   rw[acZ (by rw[h.1,abN h.2.1,abN h.2.2];rfl)]
   rfl
  ·rw [if_neg (fun z => h (by
    simp only[aaL,abZ]at z
    refine⟨?_,z.1.2,z.2⟩
    unfold iv
    rw[cl_of hw z.1.2,z.1.1];rfl)),aA (by omega),ih]
   unfold ivL
   rw[acJ (p:=fun p=>iv p&&(decide (who p=(w,m).1)&&decide (nmb p=(w,m).2))) (by simpa using h)]
theorem f94_eq (y:List Y51) (hy:y.length<=1000000) (w m:Int) (hw:0<=w/\w<6):f94 y w m=some ((ivL y (w,m)).headD [], !(ivL y (w,m)).isEmpty):=by
 unfold f94;rw[bG,xP y hy w m hw _ y.length aY 0 (by omega) (fuel_lt (by omega)),abY];exact aBe _
theorem yF (y:List Y51) (hy:y.length<=1000000) (s:Int) (t:aaA) (r:Int) (K:Nat->Option Int):∀(d k n c:Nat),n+d=y.length->d<k->c<=n->
  oM y s t r K k (c,n)=if((tx (y.drop n) s).any fun u=> !(u==t))=true then some 1 else K (c+((y.drop n).filter fun p=>pt p==r).length)
 |0,k,n,c,hn,hk,hc=>by
  obtain⟨k,rfl⟩:∃z,k=z+1:=⟨k-1,by omega⟩
  rw[abF (by omega)]
  conv=>lhs;unfold oM
  rw[aK (by omega)]
  rfl
 |d+1,k,n,c,hn,hk,hc=>by
  obtain⟨k,rfl⟩:∃z,k=z+1:=⟨k-1,by omega⟩
  have e1:y.drop n=[y.getD n (default:Y51)]++y.drop (n+1):=getD_drop y n (default:Y51) (by omega)
  conv=>lhs;unfold oM
  rw[aM (by omega),bG,vD,aC,aA (by omega),aA (fun _=>by omega),aA (fun _=>by omega),pt_st]
  have ih:=fun c hc=>yF y hy s t r K d k (n+1) c (by omega) (by omega) hc
  rw[e1,tx_app,tx_one,agD,aeQ,aaF]
  generalize y.getD n (default:Y51)=p
  have hsl:p.2.2.2.1=slot p:=rfl
  have htx:p.2.2.2.2.2.1=gQ p:=rfl
  rw[hsl,htx]
  by_cases h:((st p&&(slot p==s))&&(!(gQ p==t)))=true
  ·rw[if_pos h]
   simp only[aaL,abZ]at h
   rw[if_pos h.1,if_pos (by rw[adH,h.2];rfl)]
  ·rw[if_neg h,aC,aA (by omega)]
   have h0:(if st p=true/\slot p=s then[gQ p]else[]).any (fun u=> !(u==t))=false:=by
    by_cases h1:st p=true/\slot p=s
    ·rw[if_pos h1]
     rw[h1.1,h1.2]at h
     simpa using h
    ·rw[if_neg h1];rfl
   rw[h0,adG]
   by_cases h2:(pt p==r)=true
   ·rw[if_pos h2,aA (by omega)]
    dsimp only
    rw[aA (by omega),ih (c+1) (by omega),acZ (p:=fun p=>pt p==r) h2]
    simp only[List.filter_nil,aaN,abB]
    rw[show c+1+((y.drop (n+1)).filter fun p=>pt p==r).length=c+(0+1+((y.drop (n+1)).filter fun p=>pt p==r).length) by omega]
   ·rw[if_neg h2]
    dsimp only
    rw[aA (by omega),ih c (by omega),acJ (p:=fun p=>pt p==r) h2]
    simp only[List.filter_nil,abB,abW]
theorem any_mix (T:List Ty0) (t:aaA):(T.any fun u=> !(u==t))=(!T.isEmpty&&(!(T.headD []==t)||T.any fun u=> !(u==T.headD []))):=by
 cases T with
 |nil=>rfl
 |cons a r=>
  by_cases h:a=t
  ·subst h;simp
  ·have:(a==t)=false:=beq_false_of_ne h;simp[this]
end Go.Abs
namespace Go.Abs
theorem okRs_cl {l:List Ss} (h:okRs l):∀q∈l,0<=q.1/\q.1<6:=by
 intro q hq;obtain⟨i,hi,e⟩:=acG hq;have h1:=h i hi;unfold zQ at h1;have e2:l.getD i (default:Ss)=q:=by rw[aaC,aaO hi,e];rfl
 simp only[aaL]at h1;have h2:=iB (q:=q) (by first|exact e2▸h1.1|exact e2▸h1.2|(rw[<-e2];exact h1.1)|(rw[<-e2];exact h1.1.1));exact⟨h2.1,h2.2.1⟩
theorem dec_cl (x:aaA) (hx:x.length<=1000000):∃k c l e,f68 x=some (k,c,l,e)/\f61 x=some (k,c,l,e)/\l.length<=8/\∀q∈l,0<=q.1/\q.1<6:=by
 by_cases h:∃k c l,okE k c l/\cX (strs k c l)=x
 ·obtain⟨k,c,l,hE,rfl⟩:=h;refine⟨k,c,l,0,f68_hit hE,f61_hit hE, ?_⟩;rcases hE with⟨_,_,h,h2⟩|⟨_,_,_,rfl⟩|⟨_,_,rfl⟩
  ·exact⟨h,okRs_cl h2⟩
  ·simp
  ·simp
 ·have h':∀k c l,okE k c l->cX (strs k c l)≠x:=fun k c l hE e=>h ⟨k,c,l,hE,e⟩;exact⟨_,_,_,_,aBr x hx h',aBw x hx h',by simp⟩
def ctn (l:List Ss) (w m:Int) (op:aaA):Bool:=l.any fun q=>((q.1==w)&&(q.2.1==m))&&(q.2.2==op)
theorem tV (l:List Ss) (hl:l.length<=1000) (w m:Int) (op:aaA):∀(d k n:Nat),n+d=l.length->d<k->∃i:Int,jY l w m op (fun _=>some (-1:Int)) k n=some i/\decide (i>=0)=ctn (l.drop n) w m op
 |0,k,n,hn,hk=>by
  obtain⟨k,rfl⟩:∃z,k=z+1:=⟨k-1,by omega⟩
  rw[abF (by omega)]
  conv=>enter [1,i,1,1];unfold jY
  rw[aK (by omega)]
  exact⟨-1,rfl,rfl⟩
 |d+1,k,n,hn,hk=>by
  obtain⟨k,rfl⟩:∃z,k=z+1:=⟨k-1,by omega⟩
  obtain⟨i,h1,h2⟩:=tV l hl w m op d k (n+1) (by omega) (by omega)
  conv=>enter [1,i,1,1];unfold jY
  rw[aM (by omega),aA (by omega),getD_drop l n default (by omega)]
  unfold ctn
  rw[adH]
  generalize l.getD n default=q
  have e:((w==q.1)&&((m==q.2.1)&&((op==q.2.2)&&true)))=(((q.1==w)&&(q.2.1==m))&&(q.2.2==op)):=by
   rw[Bool.and_true,BEq.comm (a:=w),BEq.comm (a:=m),BEq.comm (a:=op),Bool.and_assoc]
  rw[e]
  cases hq:(((q.1==w)&&(q.2.1==m))&&(q.2.2==op))with
  |true=>
   rw[if_pos rfl]
   exact⟨_,rfl,by rw[afI];exact abN (by omega)⟩
  |false=>
   rw[if_neg (by simp),aA (by omega)]
   exact⟨i,h1,by rw[h2,adG];rfl⟩
theorem f89_eq (l:List Ss) (hl:l.length<=1000) (w m:Int) (op:aaA):f89 l w m op=some (ctn l w m op):=by
 obtain⟨i,h1,h2⟩:=tV l hl w m op l.length aY 0 (by omega) (fuel_lt (by omega));unfold f89 f122;rw[bG,h1,aC,h2,abY]
theorem xY (w m:Int) (r10:aaA×Bool) (r12:Ent) (hl:r12.2.2.1.length<=1000) (K:Bool->Option Bool):∀(d k n:Nat) (b:Bool),n+d=r12.2.2.1.length->d<k->
  oI w m r10 r12 K k (b,n)=K (b||ctn (r12.2.2.1.drop n) w m r10.1)
 |0,k,n,b,hn,hk=>by
  obtain⟨k,rfl⟩:∃z,k=z+1:=⟨k-1,by omega⟩
  rw[abF (by omega)]
  conv=>lhs;unfold oI
  rw[aK (by omega)]
  simp[ctn]
 |d+1,k,n,b,hn,hk=>by
  obtain⟨k,rfl⟩:∃z,k=z+1:=⟨k-1,by omega⟩
  conv=>lhs;unfold oI
  rw[aM (by omega),aA (by omega),aA (fun h1 _ h3=>by rw[h1,h3];rfl),aA (fun h1 _ h3=>by rw[h1,h3];rfl),aA (by omega),xY w m r10 r12 hl K d k (n+1) _ (by omega) (by omega),getD_drop r12.2.2.1 n default (by omega)]
  unfold ctn
  rw[adH,Bool.or_assoc]
theorem ak_eq {p:Y51} {w m:Int} (hw:0<=w/\w<6):(((p.2.1==(2:Int))&&(p.2.2.1==w))&&(p.2.2.2.2.1==m))=(ak p&&(decide (who p=w)&&decide (nmb p=m))):=by
 unfold ak;rw[beqD p.2.2.1 _,beqD p.2.2.2.2.1 _];by_cases h:p.2.2.1=w
 ·rw[cl_of hw h,abN h];simp
 ·rw[abV h];simp
theorem xZ (y:List Y51) (hy:y.length<=1000000) (w m:Int) (hw:0<=w/\w<6) (K:Unit->Option Bool):∀(d k n:Nat),n+d=y.length->d<k->
  oK y w m K k n=if akB (y.drop n) (w,m)=true then some false else K ()
 |0,k,n,hn,hk=>by
  obtain⟨k,rfl⟩:∃z,k=z+1:=⟨k-1,by omega⟩
  rw[abF (by omega)]
  conv=>lhs;unfold oK
  rw[aK (by omega)]
  rfl
 |d+1,k,n,hn,hk=>by
  obtain⟨k,rfl⟩:∃z,k=z+1:=⟨k-1,by omega⟩
  conv=>lhs;unfold oK
  rw[aM (by omega),aA (by omega),aA (fun _=>by omega),aA (fun _=>by omega),xZ y hy w m hw K d k (n+1) (by omega) (by omega),getD_drop y n default (by omega),ak_eq hw]
  unfold akB
  rw[adH]
  generalize y.getD n default=p
  cases h:(ak p&&(decide (who p=w)&&decide (nmb p=m)))with
  |true=>rw[if_pos rfl,if_pos (by rw[afI])]
  |false=>rw[if_neg (by simp),aA (by omega),adG]
theorem tsL_len (y:List Y51) (q:Int) (n:Nat) (h:∀i:Nat,i<n->tsL y (q,(i:Int))≠[]):n<=y.length:=by
 have:=wI n (y.map fun p=>(slot p,())) fun i hi=>by
  have h1:=h i hi;unfold tsL at h1;obtain⟨u,hu⟩:=List.exists_mem_of_ne_nil _ h1;obtain⟨p,hp,_⟩:=adL.1 hu;obtain⟨hp1,hp2⟩:=adX.1 hp;simp only[aaL,abA]at hp2;exact⟨(slot p,()),adL.2 ⟨p,hp1,rfl⟩,hp2.2.2⟩
 simpa using this
theorem zS {y:List Y51} {k:Int×Int} {b:Nat} (hb:∀p∈y,(gQ p).length<=b):((tsL y k).headD []).length<=b:=by
 cases h:tsL y k with
 |nil=>exact abM _
 |cons u r=>
  have hu:u∈tsL y k:=by rw[h];exact aaV
  unfold tsL at hu;obtain⟨p,hp,rfl⟩:=adL.1 hu;exact hb p (adX.1 hp).1
abbrev RB_ :=Option (Bool×Rec_)
theorem pY (y:List Y51) (hy:y.length<=1000000) (w s:Int) (hw:0<=w/\w<6) (bd:Nat) (hb:∀p∈y,(gQ p).length<=bd) (a:MV_) (b:MX_) (c:MS_) (d:MA_) (e:MS_) (f:MQ_) (g:MK_) (hc:FI c (tsL y)) (K1:List Ty0->RB_) (K3:List Ty0->Option Bool):
  ∀(j k k' n:Nat) (l:List Ty0),n+j=y.length+1->j<k->j<k'->l.length=n->(∀i:Nat,i<n->tsL y (12+w,(i:Int))≠[])->(∀v,v∈l->v.length<=bd)->
  (lE w s a b c d e f g K1 k (n,l)=some (false,a,b,c,d,e,f,g)/\lD y w s K3 k' (n,l)=some false)\/∃vs,vs.length<=y.length+1/\(∀v,v∈vs->v.length<=bd)/\lE w s a b c d e f g K1 k (n,l)=K1 vs/\lD y w s K3 k' (n,l)=K3 vs
 |0,k,k',n,l,hn,hk,hk',hl,hs,hbl=>by
  exfalso
  have:=tsL_len y (12+w) n hs
  omega
 |j+1,k,k',n,l,hn,hk,hk',hl,hs,hbl=>by
  obtain⟨k,rfl⟩:∃z,k=z+1:=⟨k-1,by omega⟩
  obtain⟨k',rfl⟩:∃z,k'=z+1:=⟨k'-1,by omega⟩
  have hny:=tsL_len y (12+w) n hs
  have e1:lE w s a b c d e f g K1 (k+1) (n,l)=if(decide ((n:Int)<s))=true then(if(!(hM c (((12:Int)+w),(n:Int))))=true then some (false,a,b,c,d,e,f,g)else chk (((l).length+1) *16<=140737488355328) (chk (((n:Int)+(1:Int))<=9223372036854775807) ((lE w s a b c d e f g K1 k) ((n+1),(l++[(gM c [] (((12:Int)+w),(n:Int)))])))))else K1 l:=by
   conv=>lhs;unfold lE
  have e2:lD y w s K3 (k'+1) (n,l)=if((decide ((n:Int)<s))&&(decide ((n:Int)<=(((y).length:Nat):Int))))=true then((f95 y ((12:Int)+w) (n:Int)).bind fun(r18:aaA×Bool)=>chk (-9223372036854775808<=((12:Int)+w)/\((12:Int)+w)<=9223372036854775807) (if(!r18.2)=true then some false else chk (((l).length+1) *16<=140737488355328) (chk (((n:Int)+(1:Int))<=9223372036854775807) ((lD y w s K3 k') ((n+1),(l++[r18.1]))))))else K3 l:=by
   conv=>lhs;unfold lD
  rw[e1,e2]
  obtain⟨c1,c2⟩:=hc (12+w,(n:Int))
  by_cases hns:(n:Int)<s
  ·rw[if_pos (abN hns),if_pos (show((decide ((n:Int)<s))&&(decide ((n:Int)<=(((y).length:Nat):Int))))=true by rw[abN hns,abN (by omega)];rfl),f95_eq y hy _ _ (by omega),aC,aA (show-9223372036854775808<=((12:Int)+w)/\((12:Int)+w)<=9223372036854775807 by omega),c1,c2]
   dsimp only
   cases hz:(tsL y (12+w,(n:Int))).isEmpty with
   |true=>rw[if_pos (by rfl),if_pos (by rfl)];exact .inl ⟨rfl,rfl⟩
   |false=>
    rw[if_neg (by simp),if_neg (by simp),aA (by omega),aA (by omega),aA (by omega),aA (by omega)]
    refine pY y hy w s hw bd hb a b c d e f g hc K1 K3 j k k' (n+1) _ (by omega) (by omega) (by omega) (by simp[hl]) (fun i hi=> ?_) (fun v hv=> ?_)
    ·rcases afP i n with h3|h3
     ·exact hs i h3
     ·obtain rfl:i=n:=by omega
      intro z
      rw[z]at hz;cases hz
    ·rcases abR.1 hv with h3|h3
     ·exact hbl v h3
     ·obtain rfl:v=(tsL y (12+w,(n:Int))).headD []:=by simpa using h3
      exact zS hb
  ·rw[if_neg (by simpa using hns),if_neg (by rw[abV hns];simp)]
   exact .inr ⟨l,by omega,hbl,rfl,rfl⟩
theorem aA6 (r21:List Pr×List Ss×List Ss) (hl:r21.2.2.length<=1000) (i1 i2 w i4 m:Int) (s6 res:aaA) (K:Int×Int×Int×Int×Int×aaA×aaA->Option Tq10) (K4:Unit->Option Bool):∀(d k k' n:Nat),n+d=r21.2.2.length->d<k->d<k'->
  (∃i,i<r21.2.2.length/\jH r21.2.2 K k (n,i1,i2,w,i4,m,s6,res)=some ((i:Int),i1,i2,w,i4,m,s6,res)/\iK w m res r21 K4 k' n=some ((r21.2.2.getD i default).2.2==res))\/(jH r21.2.2 K k (n,i1,i2,w,i4,m,s6,res)=K (i1,i2,w,i4,m,s6,res)/\iK w m res r21 K4 k' n=K4 ())
 |0,k,k',n,hn,hk,hk'=>by
  obtain⟨k,rfl⟩:∃z,k=z+1:=⟨k-1,by omega⟩
  obtain⟨k',rfl⟩:∃z,k'=z+1:=⟨k'-1,by omega⟩
  refine .inr ⟨?_, ?_⟩
  ·conv=>lhs;unfold jH
   rw[aK (by omega)]
  ·conv=>lhs;unfold iK
   rw[aK (by omega)]
 |d+1,k,k',n,hn,hk,hk'=>by
  obtain⟨k,rfl⟩:∃z,k=z+1:=⟨k-1,by omega⟩
  obtain⟨k',rfl⟩:∃z,k'=z+1:=⟨k'-1,by omega⟩
  have ih:=aA6 r21 hl i1 i2 w i4 m s6 res K K4 d k k' (n+1) (by omega) (by omega) (by omega)
  have e1:jH r21.2.2 K (k+1) (n,i1,i2,w,i4,m,s6,res)=if(((r21.2.2.getD n default).1==w)&&((r21.2.2.getD n default).2.1==m))=true then some ((n:Int),i1,i2,w,i4,m,s6,res)else jH r21.2.2 K k (n+1,i1,i2,w,i4,m,s6,res):=by
   conv=>lhs;unfold jH
   rw[aM (by omega)]
   unfold f93
   rw[aC,aA (by omega)]
   dsimp only
   rw[aA (by omega)]
  have e2:iK w m res r21 K4 (k'+1) n=if(((r21.2.2.getD n default).1==w)&&((r21.2.2.getD n default).2.1==m))=true then some ((r21.2.2.getD n default).2.2==res)else iK w m res r21 K4 k' (n+1):=by
   conv=>lhs;unfold iK
   rw[aM (by omega),aA (by omega),aA (by omega),aA (fun _=>by omega),aA (fun _=>by omega),aA (by omega),aA (by omega),aA (by omega)]
  rw[e1,e2]
  cases h:(((r21.2.2.getD n default).1==w)&&((r21.2.2.getD n default).2.1==m))with
  |true=>
   rw[if_pos rfl,if_pos rfl]
   exact .inl ⟨n,by omega,rfl,rfl⟩
  |false=>
   rw[if_neg (by simp),if_neg (by simp)]
   exact ih
theorem aCf (y:List Y51) (hy:y.length<=60) (hb:∀p∈y,(gQ p).length<=20000) (a:MV_) (b:MX_) (c:MS_) (d:MA_) (e:MS_) (f:MQ_) (g:MK_) (hc:FI c (tsL y)) (he:FI e (ivL y)) (hg:∀k,gM g false k=akB y k) (p:Y51) (hp:cl p=true):
  ∃v,f66 p.1 p.2.1 p.2.2.1 p.2.2.2.1 p.2.2.2.2.1 p.2.2.2.2.2.1 p.2.2.2.2.2.2 a b c d e f g=some (v,a,b,c,d,e,f,g)/\f67 y p.1 p.2.1 p.2.2.1 p.2.2.2.1 p.2.2.2.2.1 p.2.2.2.2.2.1 p.2.2.2.2.2.2=some v:=by
 have hw:0<=p.2.2.1/\p.2.2.1<6:=by
  unfold cl at hp;simpa using hp
 obtain⟨i1,i2,w,s,m,t,res⟩:=p;dsimp only at hw⊢;unfold f66 f67;obtain⟨c1,c2⟩:=hc (12+w,s);obtain⟨e1,e2⟩:=he (w,m);have g1:=hg (w,m);obtain⟨k0,c0,l0,e0,d1,d2,d3,_⟩:=dec_cl ((tsL y (12+w,s)).headD []) (by have:=zS (k:=(12+w,s)) hb;omega);rw[aA (by omega),c2,d1,aC,c1,e1,e2,g1,bG,bG,xZ y (by omega) w m hw _ y.length aY 0 (by omega) (fuel_lt (by omega)),abY];dsimp only
 cases hA:akB y (w,m)with
 |true=>
  rw[if_pos rfl];refine⟨false, ?_,rfl⟩;simp only[afI];rw[show(true==false)=false from rfl,eX]
  exact if_pos trivial
 |false=>
  rw[if_neg (by simp),f94_eq y (by omega) w m hw,aC,f95_eq y (by omega) (12+w) s (by omega),aC,aA (by omega)];dsimp only
  cases hB:(ivL y (w,m)).isEmpty with
  |true=>
   rw[if_pos (by rfl)];refine⟨false, ?_,rfl⟩;simp only[acS,adW,ahB,afI];rw[show(true==false)=false from rfl,eX]
   exact if_pos trivial
  |false=>
   cases hC:(tsL y (12+w,s)).isEmpty with
   |true=>
    rw[if_pos (by rfl)];refine⟨false, ?_,rfl⟩;simp only[acS,adW,ahB,afI];rw[show(true==false)=false from rfl,eX]
    exact if_pos trivial
   |false=>
    rw[if_neg (by simp),d2,aC];dsimp only
    cases hE:(e0 !=(0:Int))with
    |true=>
     rw[if_pos rfl];refine⟨false, ?_,rfl⟩;simp only[ahB,afI];rw[show(true==false)=false from rfl,eX]
     exact if_pos trivial
    |false=>
     rw[if_neg (by simp)];simp only[adW,acS,Bool.or_false,adG];rw[show(false==false)=true from rfl,eH,f89_eq l0 (by omega),aC,bG,xY w m _ (k0,c0,l0,e0) (by show l0.length<=1000;omega) _ l0.length aY 0 false (by simp) (fuel_lt (by omega)),adG,abY];dsimp only
     cases hD:ctn l0 w m ((ivL y (w,m)).headD [])with
     |false=>
      rw[if_pos (by rfl),bG];rcases pY y (by omega) w s hw 20000 hb a b c d e f g hc (fun _=>none) _ (y.length+1) aY aY 0 [] (by omega) (fuel_lt (by omega)) (fuel_lt (by omega)) rfl (by simp) (by simp)with⟨_,h2⟩|⟨vs,_,_,_,h2⟩
      ·exact⟨false,rfl,h2⟩
      ·refine⟨false,rfl,h2.trans ?_⟩
       rw[if_pos (by rfl)]
     |true=>
      rw[if_neg (by simp),bG];rcases pY y (by omega) w s hw 20000 hb a b c d e f g hc _ _ (y.length+1) aY aY 0 [] (by omega) (fuel_lt (by omega)) (fuel_lt (by omega)) rfl (by simp) (by simp)with⟨h1,h2⟩|⟨vs,hv1,hv2,h1,h2⟩
      ·exact⟨false,h1,h2⟩
      ·have hv3:∀v,v∈vs->v.length<=1000000:=fun v hv=>by have:=hv2 v hv;omega
       have hm:=stpV_ok vs ([],[]) ⟨StV.nil,SesV.nil⟩ hv3;obtain⟨m',rs,q1,q2,_,q4⟩:=tZ _ hm ((tsL y (12+w,s)).headD []) (by have:=zS (k:=(12+w,s)) hb;omega)
       suffices H : ∃ v, ((f91 vs).bind fun r20=>(f90 r20.1 r20.2 ((tsL y (12+w,s)).headD [])).bind fun r21=>(f92 r21.2.2 i1 i2 w s m t res).bind fun r22=>
         chk (((decide (r22.1>=(0:Int)))==true)=true->0<=r22.1/\r22.1<(((r21.2.2).length:Nat):Int))<|
         chk (((decide (r22.1>=(0:Int)))==true)=true->((r22.1).toNat)<(r21.2.2).length)<|
         some (((decide (r22.1>=(0:Int)))&&(((r21.2.2.getD ((r22.1).toNat) (default:Tq0)).2.2)==r22.2.2.2.2.2.2.2)),a,b,c,d,e,f,g))=(some (v,a,b,c,d,e,f,g):RB_)/\
         ((f38 vs).bind fun r20=>(f37 r20.1 r20.2 ((tsL y (12+w,s)).headD [])).bind fun r21=>iK w m res r21 (fun _=>some false) aY 0)=some v by
        obtain⟨v,H1,H2⟩:=H;refine⟨v,h1.trans H1,h2.trans ?_⟩;rw[if_neg (by simp)];exact H2
       rw[f91_eq vs (by omega) hv3,f38_eq vs (by omega) hv3,aC,aC];dsimp only;rw[q1,q2,aC,aC];unfold f92;rw[bG];dsimp only;rcases aA6 (m'.1,m'.2,rs) (by show rs.length<=1000;omega) i1 i2 w s m t res (fun((i18,i19,i20,i21,i22,s23,s24):Int×Int×Int×Int×Int×aaA×aaA)=>some ((-1:Int),i18,i19,i20,i21,i22,s23,s24)) (fun _=>some false) rs.length aY aY 0 (by simp) (fuel_lt (by omega)) (fuel_lt (by omega))with⟨i,hi,r1,r2⟩|⟨r1,r2⟩
       ·refine⟨_, ?_,r2⟩;refine(congrArg (fun z=>Option.bind z _) r1).trans ?_;rw[aC,aA (fun _=>⟨by dsimp only;omega,by dsimp only at hi⊢;omega⟩),aA (fun _=>by dsimp only at hi⊢;omega)];dsimp only;rw[abN (by omega),acK,abH]
       ·refine⟨false, ?_,r2⟩;refine(congrArg (fun z=>Option.bind z _) r1).trans ?_;rw[aC,aA (fun h=>by cases h),aA (fun h=>by cases h)];rfl
end Go.Abs
namespace Go.Abs
theorem pt_acc (p:Y51) (w:Int) (hw:0<=w/\w<6):(pt p==12+w)=(st p&&((p.2.1==3)&&decide (who p=w))):=by
 rw[pt_eq _ _ (by omega)]
 cases h:st p with
 |false=>rfl
 |true=>
  rw[acK,acK];unfold st pty at h;unfold aAd pty;by_cases h4:p.2.1=4/\0<=p.2.2.1/\p.2.2.1<12
  ·rw[if_pos h4,h4.1];show decide (p.2.2.1=12+w)=((4:Int)==3&&_);rw[abV (by omega)];rfl
  ·rw[if_neg h4]at h⊢;by_cases h3:p.2.1=3/\0<=p.2.2.1/\p.2.2.1<6
   ·rw[if_pos h3,h3.1];show decide (12+p.2.2.1=12+w)=((3:Int)==3&&decide (p.2.2.1=w));by_cases hh:p.2.2.1=w
    ·rw[abN (by omega),abN hh];rfl
    ·rw[abV (by omega),abV hh];rfl
   ·rw[if_neg h3]at h;cases h
theorem acc_pt (p:Y51) (h:st p=true) (h3:(p.2.1==(3:Int))=true):pt p=12+who p/\0<=who p/\who p<6:=by
 have e3:p.2.1=3:=eq_of_beq h3;unfold pt;rw[if_pos h];unfold st pty at h;unfold aAd pty;have n4:¬(p.2.1=4/\0<=p.2.2.1/\p.2.2.1<12):=by omega
 rw[if_neg n4]at h⊢;by_cases h3:p.2.1=3/\0<=p.2.2.1/\p.2.2.1<6
 ·rw[if_pos h3];exact⟨rfl,h3.2⟩
 ·rw[if_neg h3]at h;cases h
def kv (y:List Y51) (p:Y51):Int:=if((tx y (slot p)).any fun u=> !(u==gQ p))=true then 1 else if((p.2.1==(3:Int))&&(slot p !=((acN y (who p):Nat):Int)))=true then 2 else 0
theorem f43_st (y:List Y51) (a:MV_) (b:MX_) (c:MS_) (d:MA_) (e:MS_) (f:MQ_) (g:MK_) (hI:ComI y a b) (hd:∀w,gM d 0 w=((acN y w:Nat):Int)) (p:Y51) (h:st p=true):
  f43 p.1 p.2.1 p.2.2.1 p.2.2.2.1 p.2.2.2.2.1 p.2.2.2.2.2.1 p.2.2.2.2.2.2 a b c d e f g=some (kv y p,a,b,c,d,e,f,g):=by
 have k2:(p.2.1==(2:Int))=false:=by rcases zY h with z|z<;>rw[z]<;>rfl
 have hst:(pty p.2.1 p.2.2.1).2=true:=h;unfold f43 kv;rw[bG,aBz,aC,if_pos hst,bG,k2];simp only[bG,adA];rw[show(false==true)=false from rfl,eX,if_neg (show ¬(false=true) by simp),hI.h p.2.2.2.1,hI.g p.2.2.2.1,hI.m p.2.2.2.1,hd p.2.2.1,any_mix (tx y (slot p)) (gQ p)];show(if(!(tx y (slot p)).isEmpty)=true then _ else _)=_
 cases(tx y (slot p)).isEmpty with
 |true=>
  rw[if_neg (by simp),aA (fun h=>by cases h),if_neg (show ¬((!true&&_)=true) by simp)]
  cases(p.2.1==(3:Int))with
  |false=>rfl
  |true=>
   rw[if_pos rfl,acK];show(if(slot p !=((acN y (who p):Nat):Int))=true then _ else _)=_
   cases(slot p !=((acN y (who p):Nat):Int))<;>rfl
 |false=>
  rw[if_pos (by rfl)];show(if(!((tx y (slot p)).headD []==gQ p))=true then _ else _)=_
  cases((tx y (slot p)).headD []==gQ p)with
  |false=>rw[if_pos (by rfl),if_pos (by rfl)]
  |true=>
   rw[if_neg (by simp)];show(if((tx y (slot p)).any fun u=> !(u==(tx y (slot p)).headD []))=true then _ else _)=_
   cases((tx y (slot p)).any fun u=> !(u==(tx y (slot p)).headD []))with
   |true=>rw[if_pos rfl,if_pos (by rfl)]
   |false=>
    rw[if_neg (by simp),if_neg (show ¬((!false&&(!true||false))=true) by simp)]
    cases(p.2.1==(3:Int))with
    |false=>rfl
    |true=>
     rw[if_pos rfl,acK];show(if(slot p !=((acN y (who p):Nat):Int))=true then _ else _)=_;cases(slot p !=((acN y (who p):Nat):Int))<;>rfl
theorem f46_st (y:List Y51) (hy:y.length<=60) (p:Y51) (h:st p=true):
  f46 y p.1 p.2.1 p.2.2.1 p.2.2.2.1 p.2.2.2.2.1 p.2.2.2.2.2.1 p.2.2.2.2.2.2=some (kv y p):=by
 have k2:(p.2.1==(2:Int))=false:=by rcases zY h with z|z<;>rw[z]<;>rfl
 unfold f46 kv;rw[bG,vD,aC,pt_st,h,if_pos rfl,bG,yF y (by omega) _ _ _ _ y.length aY 0 0 (by omega) (fuel_lt (by omega)) (aaY _),abY,k2];simp only[adA];rw[show(false==true)=false from rfl,eX,if_neg (show ¬(false=true) by simp),abW];show(if((tx y (slot p)).any fun u=> !(u==gQ p))=true then _ else _)=_
 cases((tx y (slot p)).any fun u=> !(u==gQ p))with
 |true=>rfl
 |false=>
  show(if((p.2.1==(3:Int))&&(slot p !=(((y.filter fun q=>pt q==pt p).length:Nat):Int)))=true then some (2:Int)else some 0)=some (if((p.2.1==(3:Int))&&(slot p !=((acN y (who p):Nat):Int)))=true then(2:Int)else 0)
  cases h3:(p.2.1==(3:Int))with
  |false=>rfl
  |true=>
   obtain⟨w1,w2⟩:=acc_pt p h h3
   have e:(y.filter fun q=>pt q==pt p).length=acN y (who p):=by
    unfold acN;congr 1;refine List.filter_congr fun q _=> ?_;rw[w1,pt_acc q (who p) w2]
   rw[e,acK];show(if(slot p !=((acN y (who p):Nat):Int))=true then _ else _)=_;cases(slot p !=((acN y (who p):Nat):Int))<;>rfl
theorem kind_both (y:List Y51) (hy:y.length<=60) (hb:∀p∈y,(gQ p).length<=20000) (a:MV_) (b:MX_) (c:MS_) (d:MA_) (e:MS_) (f:MQ_) (g:MK_) (hq:aCh y=(a,b,c,d,e,f,g)) (p:Y51):
  ∃v:Int,0<=v/\v<=3/\f43 p.1 p.2.1 p.2.2.1 p.2.2.2.1 p.2.2.2.2.1 p.2.2.2.2.2.1 p.2.2.2.2.2.2 a b c d e f g=some (v,a,b,c,d,e,f,g)/\f46 y p.1 p.2.1 p.2.2.1 p.2.2.2.1 p.2.2.2.2.1 p.2.2.2.2.2.1 p.2.2.2.2.2.2=some v:=by
 obtain⟨hI,hR⟩:=recI y;rw[hq]at hI hR;obtain⟨hc,hd,he,hf,hg⟩:=hR;dsimp only at hI hc hd he hf hg
 cases h:st p with
 | true => exact ⟨kv y p,by
  unfold kv;split
  ·omega
  ·split<;>omega,by
  unfold kv;split
  ·omega
  ·split<;>omega,f43_st y a b c d e f g hI hd p h,f46_st y hy p h⟩
 |false=>
  have hst:(pty p.2.1 p.2.2.1).2=false:=h;have h57:f57 p.1 p.2.1 p.2.2.1 p.2.2.2.1 p.2.2.2.2.1 p.2.2.2.2.2.1 p.2.2.2.2.2.2=some (cl p):=rfl
  have e43:f43 p.1 p.2.1 p.2.2.1 p.2.2.2.1 p.2.2.2.2.1 p.2.2.2.2.2.1 p.2.2.2.2.2.2 a b c d e f g=eO ((p.2.1==(2:Int))==true) (some (cl p)) fun(r16:Bool)=>
    if((p.2.1==(2:Int))&&r16)=true then((f66 p.1 p.2.1 p.2.2.1 p.2.2.2.1 p.2.2.2.2.1 p.2.2.2.2.2.1 p.2.2.2.2.2.2 a b c d e f g).bind fun(r17:Bool×Rec_)=>if(!r17.1)=true then some ((3:Int),r17.2)else some (0,r17.2))else some (0,a,b,c,d,e,f,g):=by
   unfold f43;rw[bG,aBz,aC,if_neg (by rw[hst];simp),bG,h57]
  have hcl:((p.2.1==(2:Int))&&decide (p.2.2.1>=0)&&decide (p.2.2.1<6))=((p.2.1==(2:Int))&&cl p):=by unfold cl;rw[Bool.and_assoc]
  have e46:f46 y p.1 p.2.1 p.2.2.1 p.2.2.2.1 p.2.2.2.2.1 p.2.2.2.2.2.1 p.2.2.2.2.2.2=eO (((p.2.1==(2:Int))&&cl p)==true) (f67 y p.1 p.2.1 p.2.2.1 p.2.2.2.1 p.2.2.2.2.1 p.2.2.2.2.2.1 p.2.2.2.2.2.2) fun(r16:Bool)=>if(((p.2.1==(2:Int))&&cl p)&&(!r16))=true then some (3:Int)else some (0:Int):=by
   unfold f46;rw[bG,vD,aC,pt_st,h,if_neg (by simp),hcl]
  rw[e43,e46]
  cases h2:(p.2.1==(2:Int))with
  |false=>
   rw[show(false==true)=false from rfl,eX,adA,adA]
   exact⟨0,aeN _,by omega,rfl,rfl⟩
  |true=>
   rw[show(true==true)=true from rfl,eH,aC,acK]
   cases hcp:cl p with
   |false=>exact⟨0,aeN _,by omega,rfl,rfl⟩
   |true=>
    obtain⟨v,v1,v2⟩:=aCf y hy hb a b c d e f g hc he hg p hcp;rw[show(true==true)=true from rfl,eH,v1,v2,if_pos rfl,aC,aC]
    cases v with
    |true=>exact⟨0,aeN _,by omega,rfl,rfl⟩
    |false=>exact⟨3,by omega,by omega,rfl,rfl⟩
theorem acN_le (y:List Y51) (w:Int):acN y w<=y.length:=by unfold acN;exact List.length_filter_le _ _
theorem rec_cnt {y:List Y51} {a b c d e f g} (hq:aCh y=(a,b,c,d,e,f,g)) (w:Int) (hy:y.length<=60): -9223372036854775808<=gM d 0 w+1/\gM d 0 w+1<=9223372036854775807:=by
 have h:=(recI y).2.2.1 w;rw[hq]at h;have h2:=acN_le y w;dsimp only at h;constructor<;>omega
section
variable (x:List Y51) (hx:x.length<=60) (hb:∀p∈x,(gQ p).length<=20000)
include hx hb
theorem tH :∀(j k k' n:Nat) (a:MV_) (b:MX_) (c:MS_) (d:MA_) (e:MS_) (f:MQ_) (g:MK_),n+j=x.length->j<k->j<k'->aCh (x.take n)=(a,b,c,d,e,f,g)->
  ∃i v z:Int,oN x (fun(i15:Int)=>some ((0:Int),(13:Int),i15)) k (n,0,a,b,c,d,e,f,g)=some (i,z,v)/\oW x (fun _=>some ((0:Int),(0:Int),(13:Int))) k' n=some (i,v,z)/\(z=13\/z=0/\1<=v/\v<=3/\0<=i/\i<=60)
 |0,k,k',n,a,b,c,d,e,f,g,hn,hk,hk',hq=>by
  obtain⟨k,rfl⟩:∃z,k=z+1:=⟨k-1,by omega⟩
  obtain⟨k',rfl⟩:∃z,k'=z+1:=⟨k'-1,by omega⟩
  refine⟨0,0,13, ?_, ?_,.inl rfl⟩
  ·conv=>lhs;unfold oN
   rw[aK (by omega)]
  ·conv=>lhs;unfold oW
   rw[aK (by omega)]
 |j+1,k,k',n,a,b,c,d,e,f,g,hn,hk,hk',hq=>by
  obtain⟨k,rfl⟩:∃z,k=z+1:=⟨k-1,by omega⟩
  obtain⟨k',rfl⟩:∃z,k'=z+1:=⟨k'-1,by omega⟩
  have hty:(x.take n).length<=60:=by rw[abE];omega
  obtain⟨v,v0,v3,v1,v2⟩:=kind_both (x.take n) hty (fun p hp=>hb p (afX hp)) a b c d e f g hq (x.getD n default)
  have v1':∀i5,f42 (x.getD n default).1 (x.getD n default).2.1 (x.getD n default).2.2.1 (x.getD n default).2.2.2.1 (x.getD n default).2.2.2.2.1 (x.getD n default).2.2.2.2.2.1 (x.getD n default).2.2.2.2.2.2 a b c d e f g i5=some ((v !=(0:Int)),a,b,c,d,e,f,g,v):=fun i5=>by
   unfold f42
   rw[v1,aC]
  have hs:=recY_snoc (x.take n) (x.getD n default)
  rw[<-take_snoc x n default (by omega),hq]at hs
  have ih:=tH j k k' (n+1) (wK (a,b,c,d,e,f,g) (x.getD n default)).1 (wK (a,b,c,d,e,f,g) (x.getD n default)).2.1 (wK (a,b,c,d,e,f,g) (x.getD n default)).2.2.1 (wK (a,b,c,d,e,f,g) (x.getD n default)).2.2.2.1 (wK (a,b,c,d,e,f,g) (x.getD n default)).2.2.2.2.1 (wK (a,b,c,d,e,f,g) (x.getD n default)).2.2.2.2.2.1 (wK (a,b,c,d,e,f,g) (x.getD n default)).2.2.2.2.2.2 (by omega) (by omega) (by omega) hs
  conv=>enter [1,i,1,v,1,z,1,1];unfold oN
  conv=>enter [1,i,1,v,1,z,2,1,1];unfold oW
  rw[aM (by omega),aM (by omega),aA (by omega),v1',aC,v2,aC,aA (by omega),aA (by omega)]
  dsimp only
  by_cases hv:v=0
  ·subst hv
   rw[if_neg (by simp),if_neg (by simp),f45_all _ a b c d e f g (rec_cnt hq _ hty),aC,aA (by omega),aA (by omega)]
   exact ih
  ·rw[if_pos (by simpa using hv),if_pos (by rw[abN (by omega)])]
   exact⟨_,_,_,rfl,rfl,.inr ⟨rfl,by omega,v3,by omega,by omega⟩⟩
theorem aCy :∃i v z:Int,f41 x 0=some (i,z,v)/\f17 x=some (i,v,z)/\(z=13\/z=0/\1<=v/\v<=3/\0<=i/\i<=60):=by
 obtain⟨i,v,z,h1,h2,h3⟩:=tH x hx hb x.length aY aY 0 [] [] [] [] [] [] [] (by omega) (fuel_lt (by omega)) (fuel_lt (by omega)) rfl;refine⟨i,v,z, ?_, ?_,h3⟩
 ·unfold f41 f44;rw[aC,bG];exact h1
 ·unfold f17;rw[bG];exact h2
end
end Go.Abs
namespace Go.Abs
section
variable {R:Type} {Q:R->Prop}
theorem f200_some (x:BitVec 16) (n:Nat):∃b,f200 x (n:Int)=some b:=by
 unfold f200;rw[aA (fun _=>by omega)];exact⟨_,rfl⟩
theorem jS (x:BitVec 16) (K:List Int->Option (List Int)) (hK:∀l,l.length<=16->∃r,K l=some r):∀d k n l,n+d=16->d<k->l.length<=n->∃r,jT x K k (n,l)=some r
 |0,k,n,l,hn,hk,hl=>by
  obtain⟨k,rfl⟩:∃z,k=z+1:=⟨k-1,by omega⟩
  rw[jT.eq_2,aK (by omega)]
  exact hK l (by omega)
 |d+1,k,n,l,hn,hk,hl=>by
  obtain⟨k,rfl⟩:∃z,k=z+1:=⟨k-1,by omega⟩
  obtain⟨b,hb⟩:=f200_some x n
  rw[jT.eq_2,aM (by omega),bG,hb,aC]
  cases b with
  |true=>
   rw[if_pos rfl,aA (by omega)]
   dsimp only
   rw[aA (by omega)]
   exact jS x K hK d k (n+1) _ (by omega) (by omega) (by simp;omega)
  |false=>
   rw[if_neg (by simp)]
   dsimp only
   rw[aA (by omega)]
   exact jS x K hK d k (n+1) _ (by omega) (by omega) (by omega)
theorem rM (x:BitVec 16):∃r,f132 x=some r:=by
 obtain⟨r,h⟩:=jS x (fun l6=>some l6) (fun l _=>⟨l,rfl⟩) 16 aY 0 [] rfl (fuel_lt (by omega)) (aaY _);unfold f132 f166;rw[bG,h,aC];exact⟨_,rfl⟩
theorem f131_some (x y:BitVec 16):∃b,f131 x y=some b:=⟨_,rfl⟩
theorem f134_some (x y:BitVec 16):∃b,f134 x y=some b:=⟨_,rfl⟩
theorem kI (m:BitVec 16) (z:Int) (K:aaB->Option Ty8) (hK:∀l,l.length<=65536->∃r,K l=some r):∀d k n l,n+d=65536->d<k->l.length<=n->∃r,lV m z K k (n,l)=some r
 |0,k,n,l,hn,hk,hl=>by
  obtain⟨k,rfl⟩:∃z,k=z+1:=⟨k-1,by omega⟩
  rw[nK,aK (by omega)]
  exact hK l (by omega)
 |d+1,k,n,l,hn,hk,hl=>by
  obtain⟨k,rfl⟩:∃z,k=z+1:=⟨k-1,by omega⟩
  obtain⟨c,hc⟩:=rM (BitVec.ofInt 16 (n:Int))
  obtain⟨r5,h5⟩:=f131_some (BitVec.ofInt 16 (n:Int)) m
  rw[nK,aM (by omega),bG,h5,aC,hc,kT,aA (fun _=>trivial)]
  generalize(if(r5==true)=true then c else default)=r6
  split
  ·rw[aA (by omega)]
   dsimp only
   rw[aA (by omega)]
   exact kI m z K hK d k (n+1) _ (by omega) (by omega) (by simp;omega)
  ·dsimp only
   rw[aA (by omega)]
   exact kI m z K hK d k (n+1) _ (by omega) (by omega) (by omega)
theorem f102_some (m:BitVec 16) (z:Int):∃r,f102 m z=some r:=by
 unfold f102;rw[bG];exact kI m z (fun l8=>some l8) (fun l _=>⟨l,rfl⟩) 65536 aY 0 [] rfl (fuel_lt (by omega)) (aaY _)
theorem oV (x:BitVec 16):∀d k n m,n+d=16->d<k->m<=n *65536->∃r,jP x (fun(n4:Nat)=>some (n4:Int)) k (m,n)=some r
 |0,k,n,m,hn,hk,hm=>by
  obtain⟨k,rfl⟩:∃z,k=z+1:=⟨k-1,by omega⟩
  rw[jP.eq_2,aK (by omega)]
  exact⟨_,rfl⟩
 |d+1,k,n,m,hn,hk,hm=>by
  obtain⟨k,rfl⟩:∃z,k=z+1:=⟨k-1,by omega⟩
  have hb:((x>>>n)&&&(BitVec.ofInt 16 1)).toNat<65536:=BitVec.isLt _
  rw[jP.eq_2,aM (by omega),aA (by omega),aA (by omega)]
  exact oV x d k (n+1) _ (by omega) (by omega) (by omega)
theorem yM (x:BitVec 16):∃r,f201 x=some r:=by
 unfold f201;rw[bG];exact oV x 16 aY 0 0 rfl (fuel_lt (by omega)) (aaY _)
theorem f167_some (x y:BitVec 16):∃r,f167 x y=some r:=by
 obtain⟨a,ha⟩:=yM x;obtain⟨b,hb⟩:=yM y;unfold f167;rw[ha,aC,hb,aC];split
 ·rw[aC,aC];exact⟨_,rfl⟩
 ·exact⟨_,rfl⟩
theorem yO (x y:BitVec 16):∃r,f169 x y=some r:=by
 obtain⟨a,ha⟩:=rM x;obtain⟨b,hb⟩:=rM y;unfold f169;split
 ·exact⟨_,rfl⟩
 ·rw[ha,aC,hb,aC]
  cases decide (a<b)with
  |true=>
   rw[show(true==false)=false from rfl,eX,eX,aA (fun h=>absurd h (by decide)),if_pos (by simp)]
   exact⟨_,rfl⟩
  |false=>
   rw[show(false==false)=true from rfl,eH,aC,eH,aC,aA (fun _ _ h3=>by rw[h3];rfl)];split<;>exact⟨_,rfl⟩
theorem f136_some (x y z w:BitVec 16):∃r,f136 x y z w=some r:=by
 obtain⟨a,ha⟩:=yO x z;obtain⟨b,hb⟩:=yO y w;unfold f136;rw[ha,aC];split
 ·exact⟨_,rfl⟩
 ·rw[hb,aC];exact⟨_,rfl⟩
theorem f135_some (x y z w:BitVec 16):∃r,f135 x y z w=some r:=by
 unfold f135 f131 f168;rw[aC,kT,kT,kT];exact⟨_,rfl⟩
/-! ### a family's least sets -/
abbrev LW :=aaB
theorem oZ (x:LW) (hx:x.length<=1000000) (i:Nat) (hi:i<x.length) (K:Nat×LW->Option LW) (l:LW) (hl:l.length<=1000000) (hK:∀n,n<=l.length->∃r,K (n,l)=some r/\r.length<=1000000):∀d k n,n+d=l.length->d<k->∃r,jV x i K k (n,l)=some r/\r.length<=1000000
 |0,k,n,hn,hk=>by
  obtain⟨k,rfl⟩:∃z,k=z+1:=⟨k-1,by omega⟩
  have e:decide ((n:Int)<((l.length:Nat):Int))=false:=abV (by omega)
  rw[jV.eq_2,e]
  show ∃r,eO false _ _=some r/\_
  rw[eX,aA (fun h=>absurd h (by decide)),aA (fun h=>absurd h (by decide)),aA (fun h=>absurd h (by decide)),if_neg (by simp)]
  exact hK n (by omega)
 |d+1,k,n,hn,hk=>by
  obtain⟨k,rfl⟩:∃z,k=z+1:=⟨k-1,by omega⟩
  have e:decide ((n:Int)<((l.length:Nat):Int))=true:=abN (by omega)
  obtain⟨b,hb⟩:=f167_some (l.getD n 0#16) (x.getD i 0#16)
  rw[jV.eq_2,e,hb,show(true==true)=true from rfl,eH,aC,aA (fun _=>by omega),aA (fun _=>by omega),aA (fun _=>by omega)]
  split
  ·rw[aA (by omega)]
   exact oZ x hx i hi K l hl hK d k (n+1) (by omega) (by omega)
  ·exact hK n (by omega)
theorem oY (m:Nat) (K:LW->Option LW) (L:Nat) (hL:L<=1000000) (hK:∀l,l.length=L->∃r,K l=some r/\r.length<=1000000):∀d k i (l:LW),i=m+d->i<L->l.length=L->d<k->∃r,jU m K k ((i:Int),l)=some r/\r.length<=1000000
 |0,k,i,l,hi,hiL,hl,hk=>by
  obtain⟨k,rfl⟩:∃z,k=z+1:=⟨k-1,by omega⟩
  rw[jU.eq_2,aK (by omega)]
  exact hK l hl
 |d+1,k,i,l,hi,hiL,hl,hk=>by
  obtain⟨k,rfl⟩:∃z,k=z+1:=⟨k-1,by omega⟩
  rw[jU.eq_2,aM (by omega),aA (by omega),aA (by omega),aA (by omega),aA (by omega),aA (by omega),aA (by omega),show((i:Int)-1)=((i-1:Nat):Int) by omega]
  exact oY m K L hL hK d k (i-1) _ (by omega) (by omega) (by simpa using hl) (by omega)
theorem pA (x:LW) (hx:x.length<=1000) (K:LW->Option LW) (hK:∀l,l.length<=x.length->∃r,K l=some r/\r.length<=1000000):∀d k n (l:LW),n+d=x.length->d<k->l.length<=n->∃r,jW x K k (n,l)=some r/\r.length<=1000000
 |0,k,n,l,hn,hk,hl=>by
  obtain⟨k,rfl⟩:∃z,k=z+1:=⟨k-1,by omega⟩
  rw[jW.eq_2,aK (by omega)]
  exact hK l (by omega)
 |d+1,k,n,l,hn,hk,hl=>by
  obtain⟨k,rfl⟩:∃z,k=z+1:=⟨k-1,by omega⟩
  have ih:=fun(l':LW) (h:l'.length<=n+1)=>pA x hx K hK d k (n+1) l' (by omega) (by omega) h
  rw[jW.eq_2,aM (by omega),bG,bG]
  refine oZ x (by omega) n (by omega) _ l (by omega) (fun p hp=> ?_) l.length aY 0 (by omega) (fuel_lt (by omega))
  dsimp only
  rw[aA (fun h=>⟨by omega,by simpa using h⟩),aA (fun h=>by simpa using h),aA (fun _=>by omega)]
  split
  ·rw[aA (by omega)]
   exact ih l (by omega)
  ·rw[aA (by omega),bG,aA (by simp;omega)]
   have e:((((l++[(BitVec.ofInt 16 0)])).length:Nat):Int)-(1:Int)=((l.length:Nat):Int):=by simp
   rw[e]
   refine oY p _ (l.length+1) (by omega) (fun l' hl'=> ?_) (l.length-p) aY l.length _ (by omega) (by omega) (by simp) (fuel_lt (by omega))
   rw[aA (by omega),aA (by omega),aA (by omega),aA (by omega)]
   exact ih _ (by rw[List.length_set];omega)
theorem f133_some (x:LW) (hx:x.length<=1000):∃r,f133 x=some r/\r.length<=1000000:=by
 unfold f133;rw[bG];exact pA x hx (fun l=>some l) (fun l h=>⟨l,rfl,by omega⟩) x.length aY 0 [] (by omega) (fuel_lt (by omega)) (aaY _)
theorem kF (r:LW) (hr:r.length<=1000000) (i:Nat) (hi:i<r.length) (K:Bool->Option LW) (hK:∀b,∃q,K b=some q):∀d k n b,n+d=r.length->d<k->∃q,kG r i K k (b,n)=some q
 |0,k,n,b,hn,hk=>by
  obtain⟨k,rfl⟩:∃z,k=z+1:=⟨k-1,by omega⟩
  rw[kG.eq_2,aK (by omega)]
  exact hK b
 |d+1,k,n,b,hn,hk=>by
  obtain⟨k,rfl⟩:∃z,k=z+1:=⟨k-1,by omega⟩
  obtain⟨c,hc⟩:=f134_some (r.getD i 0#16) (r.getD n 0#16)
  rw[kG.eq_2,aM (by omega),bG,hc,kT]
  generalize(if(((i:Int) !=(n:Int))==true)=true then c else default)=r7
  rw[aA (fun _=>by omega),aA (fun _=>by omega),aA (fun _=>by omega),aA (fun _=>by omega)]
  split
  ·dsimp only
   rw[aA (by omega)]
   exact kF r hr i hi K hK d k (n+1) _ (by omega) (by omega)
  ·dsimp only
   rw[aA (by omega)]
   exact kF r hr i hi K hK d k (n+1) _ (by omega) (by omega)
theorem pD (r:LW) (hr:r.length<=1000000):∀d k n (l:LW),n+d=r.length->d<k->l.length<=n->∃q,kH r (fun l=>some l) k (n,l)=some q
 |0,k,n,l,hn,hk,hl=>by
  obtain⟨k,rfl⟩:∃z,k=z+1:=⟨k-1,by omega⟩
  rw[kH.eq_2,aK (by omega)]
  exact⟨_,rfl⟩
 |d+1,k,n,l,hn,hk,hl=>by
  obtain⟨k,rfl⟩:∃z,k=z+1:=⟨k-1,by omega⟩
  have ih:=fun(l':LW) (h:l'.length<=n+1)=>pD r hr d k (n+1) l' (by omega) (by omega) h
  rw[kH.eq_2,aM (by omega),bG,bG]
  refine kF r hr n (by omega) _ (fun b=> ?_) r.length aY 0 true (by omega) (fuel_lt (by omega))
  dsimp only
  cases b with
  |true=>
   rw[if_pos rfl,aA (by omega),aA (by omega),aA (by omega),aA (by omega)]
   exact ih _ (by simp;omega)
  |false=>
   rw[if_neg (by simp),aA (by omega)]
   exact ih _ (by omega)
theorem f103_some (x:LW) (hx:x.length<=1000):∃q,f103 x=some q:=by
 obtain⟨r,h1,h2⟩:=f133_some x hx;unfold f103;rw[h1,aC,bG];exact pD r h2 r.length aY 0 [] (by omega) (fuel_lt (by omega)) (aaY _)
theorem lQ (x:LW) (m:Int) (K:LW->Option LW) (hK:∀l,l.length<=6->∃q,K l=some q):∀d k n (l:LW),n+d=6->d<k->l.length<=n->∃q,oH x m K k (n,l)=some q
 |0,k,n,l,hn,hk,hl=>by
  obtain⟨k,rfl⟩:∃z,k=z+1:=⟨k-1,by omega⟩
  rw[oH.eq_2,if_neg (by simp;omega)]
  exact hK l (by omega)
 |d+1,k,n,l,hn,hk,hl=>by
  obtain⟨k,rfl⟩:∃z,k=z+1:=⟨k-1,by omega⟩
  rw[oH.eq_2]
  by_cases h:(n:Int)<((x.length:Nat):Int)
  ·rw[if_pos (by simp;omega),bG,aA (by omega)]
   split
   ·rw[aA (by omega)]
    dsimp only
    rw[aA (by omega)]
    exact lQ x m K hK d k (n+1) _ (by omega) (by omega) (by simp;omega)
   ·dsimp only
    rw[aA (by omega)]
    exact lQ x m K hK d k (n+1) _ (by omega) (by omega) (by omega)
  ·rw[if_neg (by simp;omega)]
   exact hK l (by omega)
theorem aBo (x1 x2 x3:Int) (x4 x5:LW) (x6:List Tq3) (x7:LW) (m:Int) (h3:0<=x3) (hm:1<=m) (hm5:m<=5):∃q,f72 x1 x2 x3 x4 x5 x6 x7 m=some q:=by
 unfold f72;rw[aA (by omega),aA (by omega)];split
 ·rw[bG]
  have hz:∀z,∃q,(f102 (((BitVec.ofInt 16 1)<<<((m).toNat))-(BitVec.ofInt 16 1)) z).bind (fun(r10:LW)=>some r10)=some q:=fun z=>by
   obtain⟨q,hq⟩:=f102_some (((BitVec.ofInt 16 1)<<<((m).toNat))-(BitVec.ofInt 16 1)) z;rw[hq];exact⟨_,rfl⟩
  have hb:=BitVec.isLt (x7.getD 0 0#16);have e0:=Int.emod_nonneg (((x7.getD 0 0#16).toNat:Nat):Int) (show m≠0 by omega);have e1:=Int.emod_lt_of_pos (((x7.getD 0 0#16).toNat:Nat):Int) (show 0<m by omega);by_cases h:(((x7).length:Nat):Int)>(0:Int)
  ·rw[aM h,aA (by omega),aA (by omega),aA (by omega),aA (by omega)];exact hz _
  ·rw[aK h];exact hz _
 ·rw[bG];refine lQ x7 m _ (fun l hl=> ?_) 6 aY 0 [] rfl (fuel_lt (by omega)) (aaY _);rw[bG]
  have hz:∀z:LW,z.length<=7->∃q,(f103 z).bind (fun(r16:LW)=>some r16)=some q:=fun z h=>by
   obtain⟨q,hq⟩:=f103_some z (by omega);rw[hq];exact⟨_,rfl⟩
  split
  ·rw[aA (by omega)];exact hz _ (by simp;omega)
  ·exact hz _ (by omega)
/-! ### a model -/
abbrev LP :=List Tq3
theorem kC (x:LP) (hx:x.length<=1000) (i:Nat) (hi:i<x.length) (K:Bool->Option LP) (hK:∀b,∃q,K b=some q):∀d k n b,n+d=x.length->d<k->∃q,kD x i K k (b,n)=some q
 |0,k,n,b,hn,hk=>by
  obtain⟨k,rfl⟩:∃z,k=z+1:=⟨k-1,by omega⟩
  rw[kD.eq_2,aK (by omega)]
  exact hK b
 |d+1,k,n,b,hn,hk=>by
  obtain⟨k,rfl⟩:∃z,k=z+1:=⟨k-1,by omega⟩
  obtain⟨r,hr⟩:=f135_some ((x.getD n (default:Tq3)).1) ((x.getD n (default:Tq3)).2) ((x.getD i (default:Tq3)).1) ((x.getD i (default:Tq3)).2)
  rw[kD.eq_2,aM (by omega),bG,hr,aC,aA (by omega),aA (by omega),aA (fun _=>by omega),aA (fun _=>by omega),aA (fun h1 _ h3=>by rw[h1,h3];rfl)]
  split
  ·dsimp only
   rw[aA (by omega)]
   exact kC x hx i hi K hK d k (n+1) _ (by omega) (by omega)
  ·dsimp only
   rw[aA (by omega)]
   exact kC x hx i hi K hK d k (n+1) _ (by omega) (by omega)
theorem pB (x:LP) (hx:x.length<=1000) (i:Nat) (hi:i<x.length) (K:Nat×LP->Option LP) (l:LP) (hl:l.length<=1000) (hK:∀n,n<=l.length->∃q,K (n,l)=some q):∀d k n,n+d=l.length->d<k->∃q,jZ x i K k (n,l)=some q
 |0,k,n,hn,hk=>by
  obtain⟨k,rfl⟩:∃z,k=z+1:=⟨k-1,by omega⟩
  have e:decide ((n:Int)<((l.length:Nat):Int))=false:=abV (by omega)
  rw[jZ.eq_2,e]
  show ∃r,eO false _ _=some r
  rw[eX,aA (fun h=>absurd h (by decide)),aA (fun h=>absurd h (by decide)),aA (fun h=>absurd h (by decide)),if_neg (by simp)]
  exact hK n (by omega)
 |d+1,k,n,hn,hk=>by
  obtain⟨k,rfl⟩:∃z,k=z+1:=⟨k-1,by omega⟩
  have e:decide ((n:Int)<((l.length:Nat):Int))=true:=abN (by omega)
  obtain⟨b,hb⟩:=f136_some ((l.getD n (default:Tq3)).1) ((l.getD n (default:Tq3)).2) ((x.getD i (default:Tq3)).1) ((x.getD i (default:Tq3)).2)
  rw[jZ.eq_2,e,hb,show(true==true)=true from rfl,eH,aC,aA (fun _=>by omega),aA (fun _=>by omega),aA (fun _=>by omega)]
  split
  ·rw[aA (by omega)]
   exact pB x hx i hi K l hl hK d k (n+1) (by omega) (by omega)
  ·exact hK n (by omega)
theorem pC (x:LP) (hx:x.length<=1000):∀d k n (l:LP),n+d=x.length->d<k->l.length<=n->∃q,kE x (fun l=>some l) k (n,l)=some q
 |0,k,n,l,hn,hk,hl=>by
  obtain⟨k,rfl⟩:∃z,k=z+1:=⟨k-1,by omega⟩
  rw[kE.eq_2,aK (by omega)]
  exact⟨_,rfl⟩
 |d+1,k,n,l,hn,hk,hl=>by
  obtain⟨k,rfl⟩:∃z,k=z+1:=⟨k-1,by omega⟩
  have ih:=fun(l':LP) (h:l'.length<=n+1)=>pC x hx d k (n+1) l' (by omega) (by omega) h
  rw[kE.eq_2,aM (by omega),bG,bG]
  refine kC x hx n (by omega) _ (fun b=> ?_) x.length aY 0 true (by omega) (fuel_lt (by omega))
  dsimp only
  cases b with
  |false=>
   rw[if_pos (by rfl),aA (by omega)]
   exact ih _ (by omega)
  |true=>
   rw[if_neg (by simp),bG]
   refine pB x hx n (by omega) _ l (by omega) (fun p hp=> ?_) l.length aY 0 (by omega) (fuel_lt (by omega))
   dsimp only
   have e1:(l.take p).length=p:=by simp;omega
   rw[aA (by omega),aA (by omega),aA (by omega),aA (by omega),aA (by omega),aA (by rw[aaF,e1];simp;omega),aA (by omega)]
   exact ih _ (by rw[aaF,aaF,e1,aaZ];simp;omega)
theorem f104_some (x:LP) (hx:x.length<=1000):∃q,f104 x=some q:=by
 unfold f104;rw[bG];exact pC x hx x.length aY 0 [] (by omega) (fuel_lt (by omega)) (aaY _)
theorem rE (m:Int) (x:LP) (K:LP->Option LP) (hK:∀l,l.length<=7->∃q,K l=some q):∀d k n (l:LP),n+d=6->d<k->l.length<=n+1->∃q,oG m x K k (n,l)=some q
 |0,k,n,l,hn,hk,hl=>by
  obtain⟨k,rfl⟩:∃z,k=z+1:=⟨k-1,by omega⟩
  rw[oG.eq_2,if_neg (by simp;omega)]
  exact hK l (by omega)
 |d+1,k,n,l,hn,hk,hl=>by
  obtain⟨k,rfl⟩:∃z,k=z+1:=⟨k-1,by omega⟩
  rw[oG.eq_2]
  by_cases h:(n:Int)<((x.length:Nat):Int)
  ·rw[if_pos (by simp;omega),aA (by omega),aA (by omega),aA (by omega),aA (by omega),aA (by omega)]
   exact rE m x K hK d k (n+1) _ (by omega) (by omega) (by simp;omega)
  ·rw[if_neg (by simp;omega)]
   exact hK l (by omega)
theorem f73_some (m:Int) (x:LP) (hm:0<=m):∃q,f73 m x=some q:=by
 unfold f73;rw[aA hm,bG];refine rE m x _ (fun l hl=> ?_) 6 aY 0 _ rfl (fuel_lt (by omega)) (by simp);obtain⟨q,hq⟩:=f104_some l (by omega);rw[hq];exact⟨_,rfl⟩
theorem f54_some (x1 x2 x3:Int) (x4 x5:LW) (x6:LP) (x7:aaA) (h1:0<=x1/\x1<=255) (h2:0<=x2/\x2<=255) (h3:0<=x3):∃q,f54 x1 x2 x3 x4 x5 x6 x7=some q:=by
 obtain⟨a,ha⟩:=aBo x1 x2 x3 x4 x5 x6 x4 ((1:Int)+(x2%(5:Int))) h3 (by omega) (by omega);obtain⟨b,hb⟩:=aBo x1 x2 x3 x4 x5 x6 x5 ((1:Int)+(x2%(5:Int))) h3 (by omega) (by omega);obtain⟨c,hc⟩:=f73_some ((1:Int)+(x2%(5:Int))) x6 (by omega);unfold f54;rw[aA (by omega),aA (by omega),aA (by omega),ha,aC,hb,aC,aA (by omega),aA (by omega),aA (by omega),aA (by omega),hc,aC];exact⟨_,rfl⟩
end
abbrev aC7 :=Int×Int×Int×aaB×aaB×cU
def okDr (d:aC7):Prop:=(0<=d.1/\d.1<=255)/\(0<=d.2.1/\d.2.1<=255)/\(0<=d.2.2.1/\d.2.2.1<=255)
abbrev Dep :=List Ty0×BitVec 16×(List Tq7)×(List Cfg_)×List Int×(List Ty4)
end Go.Abs
namespace Go.Abs
def vW (q:Dep):Prop:=(∃r,q.2.2.2.2.1=(0:Int)::r)/\1<=q.2.2.2.1.length/\q.2.2.2.2.2.length<=2/\∀c,c∈q.2.2.2.2.2->c.1.length<=2
theorem tP (x1:Int) (h1:0<=x1/\x1<=255) (x4:List aC7) (h4:∀d∈x4,okDr d) (K:List Cfg_×List Int->Option Dep) (hK:∀l l',1<=l.length->(∃r,l'=(0:Int)::r)->∃q,K (l,l')=some q/\vW q):∀d k n (l:List Cfg_) (l':List Int),n+d=2->d<k->l.length=n->l'.length=n->(1<=n->∃r,l'=(0:Int)::r)->∃q,lG x1 x4 K k (n,l,l')=some q/\vW q
 |0,k,n,l,l',hn,hk,hl,hl',hz=>by
  obtain⟨k,rfl⟩:∃z,k=z+1:=⟨k-1,by omega⟩
  rw[lG.eq_2,if_neg (by simp;omega)]
  exact hK l l' (by omega) (hz (by omega))
 |d+1,k,n,l,l',hn,hk,hl,hl',hz=>by
  obtain⟨k,rfl⟩:∃z,k=z+1:=⟨k-1,by omega⟩
  rw[lG.eq_2]
  by_cases hc:(((decide ((n:Int)<(((x4).length:Nat):Int)))&&(decide ((n:Int)<(2:Int))))||((n:Int)==(0:Int)))=true
  ·rw[if_pos hc,aA (by omega),aA (by omega),bG]
   have go : ∀ (i9 i10 i11 : Int) (a b : LW) (c : LP), 0 <= i9 /\ i9 <= 255 -> 0 <= i11 -> ∃ q, (fun((i9,i10,i11,l12,l13,l14):Int×Int×Int×aaB×aaB×cU)=>
  chk (-9223372036854775808<=(((3:Int)+(x1%(3:Int)))-(1:Int))/\(((3:Int)+(x1%(3:Int)))-(1:Int))<=9223372036854775807)<|
  chk (0<=(((3:Int)+(x1%(3:Int)))-(1:Int))/\(((3:Int)+(x1%(3:Int)))-(1:Int))<=255)<|
  (f54 i9 (((3:Int)+(x1%(3:Int)))-(1:Int)) i11 l12 l13 l14 (([([99,48]:aaA),([99,49]:aaA)]:List Ty0).getD n [])).bind fun(r15:aaA×Int×BitVec 16×aaB×aaB×cU)=>
  chk ((n:Int)<(2:Int))<|
  chk (n<2)<|
  chk (((l).length+1) *104<=140737488355328)<|
  chk (((l').length+1) *8<=140737488355328)<|
  chk (((n:Int)+(1:Int))<=9223372036854775807)<|
  (lG x1 x4 K k) ((n+1),(l++[(r15.1,r15.2.1,r15.2.2.1,r15.2.2.2.1,r15.2.2.2.2.1,r15.2.2.2.2.2)]),(l'++[(n:Int)]))) (i9,i10,i11,a,b,c)=some q/\vW q:=by
    intro i9 i10 i11 a b c g1 g3
    dsimp only
    obtain⟨q,hq⟩:=f54_some i9 (((3:Int)+(x1%(3:Int)))-(1:Int)) i11 a b c (([([99,48]:aaA),([99,49]:aaA)]:List Ty0).getD n []) g1 (by omega) g3
    rw[aA (by omega),aA (by omega),hq,aC,aA (by omega),aA (by omega),aA (by omega),aA (by omega),aA (by omega)]
    exact tP x1 h1 x4 h4 K hK d k (n + 1) _ _ (by omega) (by omega) (by simp [hl]) (by simp [hl']) (fun _=>by
     rcases Nat.eq_zero_or_pos n with h0|h0
     ·subst h0
      have e:l'=[]:=acB hl'
      subst e
      exact⟨[],rfl⟩
     ·obtain⟨r,hr⟩:=hz h0
      exact⟨r++[(n:Int)],by rw[hr];rfl⟩)
   by_cases h:(n:Int)<(((x4).length:Nat):Int)
   ·rw[aM h,aA h]
    have ho:=h4 _ (bW x4 n (default:aC7) (by omega))
    exact go (x4.getD n (default:aC7)).1 (x4.getD n (default:aC7)).2.1 (x4.getD n (default:aC7)).2.2.1 (x4.getD n (default:aC7)).2.2.2.1 (x4.getD n (default:aC7)).2.2.2.2.1 (x4.getD n (default:aC7)).2.2.2.2.2 ho.1 ho.2.2.1
   ·rw[aK h]
    exact go 0 0 1 [(BitVec.ofInt 16 (((3:Int)+(x1%(3:Int)))/(2:Int)))] [(BitVec.ofInt 16 (((3:Int)+(x1%(3:Int)))/(2:Int)))] [] (by omega) (by omega)
  ·rw[if_neg hc]
   have hn1:1<=n:=by
    rcases Nat.eq_zero_or_pos n with h0|h0
    ·exfalso
     subst h0
     simp at hc
    ·exact h0
   exact hK l l' (by omega) (hz hn1)
theorem tO (x3:Int) (h3:0<=x3/\x3<=255) (K:List (aaA×Bool×LP)->Option Dep) (hK:∀l,l.length<=2->(∀c,c∈l->c.1.length<=2)->∃q,K l=some q/\vW q):∀d k n l,n+d=2->d<k->l.length<=n->(∀c,c∈l->c.1.length<=2)->∃q,mQ x3 K k (n,l)=some q/\vW q
 |0,k,n,l,hn,hk,hl,hc=>by
  obtain⟨k,rfl⟩:∃z,k=z+1:=⟨k-1,by omega⟩
  rw[mQ.eq_2,aA (by omega),aA (by omega),aK (by omega)]
  exact hK l (by omega) hc
 |d+1,k,n,l,hn,hk,hl,hc=>by
  obtain⟨k,rfl⟩:∃z,k=z+1:=⟨k-1,by omega⟩
  rw[mQ.eq_2,aA (by omega),aA (by omega)]
  by_cases h:(n:Int)<(x3%(3:Int))
  ·rw[aM h,aA (by omega),aA (by omega),aA (by omega),aA (by omega)]
   refine tO x3 h3 K hK d k (n+1) _ (by omega) (by omega) (by simp;omega) (fun c hcm=> ?_)
   rcases abR.1 hcm with h1|h1
   ·exact hc c h1
   ·rw[adP.1 h1]
    have:n=0\/n=1:=by omega
    rcases this with rfl|rfl<;>decide
  ·rw[aK h]
   exact hK l (by omega) hc
theorem f28_ok2 (x1 x2 x3:Int) (x4:List aC7) (h1:0<=x1/\x1<=255) (h2:0<=x2/\x2<=255) (h3:0<=x3/\x3<=255) (h4:∀d∈x4,okDr d):∃q,f28 x1 x2 x3 x4=some q/\vW q:=by
 unfold f28;rw[aA (by omega),aA (by omega),aA (by omega),aA (by simp;omega),aA (by omega),bG,aA (by omega)]
 have go : ∀ w5 : BitVec 16, ∃ q, (fun(w5:BitVec 16)=>
 jn (fun((l16,l17):(List Cfg_)×List Int)=>
 jn (fun(l20:List Ty4)=>
 some ((([([115,48]:aaA),([115,49]:aaA),([115,50]:aaA),([115,51]:aaA),([115,52]:aaA)]).take ((((3:Int)+(x1%(3:Int)))).toNat)),w5,[(([104,111,109,101]:aaA),(((BitVec.ofInt 16 1)<<<((((3:Int)+(x1%(3:Int)))).toNat))-(BitVec.ofInt 16 1)))],l16,l17,l20)
 ) fun(K4:(List Ty4)->Option Dep)=>
 mQ x3 K4 aY (0,[])
 ) fun(K2:((List Cfg_)×List Int)->Option Dep)=>
 lG x1 x4 K2 aY (0,[],[])) w5=some q/\vW q:=by
  intro w5;dsimp only;rw[bG];refine tP x1 h1 x4 h4 _ (fun l l' hl hl'=> ?_) 2 aY 0 [] [] rfl (fuel_lt (by omega)) rfl rfl (fun h=>by omega);dsimp only;rw[bG];refine tO x3 h3 _ (fun l20 h20 hc=>⟨_,rfl,hl',hl,h20,hc⟩) 2 aY 0 [] rfl (fuel_lt (by omega)) (aaY _) (by simp)
 by_cases h:x2<((3:Int)+(x1%(3:Int)))
 ·rw[aM h,aA (by omega)];exact go _
 ·rw[aK h];exact go _
theorem f29_ok2 (q:Dep) (h:vW q):∃r,f29 q.1 q.2.2.1 q.2.1 q.2.2.2.1 q.2.2.2.2.1 q.2.2.2.2.2 (0:Int) false=some r/\r.2.2.2.2.2.2=0:=by
 obtain⟨⟨r,hr⟩,hc,_⟩:=h
 have e74:f74 q.1 q.2.2.1 q.2.1 q.2.2.2.1 q.2.2.2.2.1 q.2.2.2.2.2 (0:Int)=some true:=by
  unfold f74;rw[hr,aA (fun _=>by simp),aA (fun _=>by simp)];have h1:decide ((0:Int)<(((((0:Int)::r).length:Nat)):Int))=true:=abN (by simp);have h2:decide ((((0:Int)::r).getD ((0:Int).toNat) 0)<(((q.2.2.2.1.length:Nat)):Int))=true:=abN (by simp;omega);rw[h1,h2];rfl
 have e55:f55 q.1 q.2.2.1 q.2.1 q.2.2.2.1 q.2.2.2.2.1 q.2.2.2.2.2 (0:Int) false=some true:=by
  unfold f55;rw[e74,aC];rw[show((true==true)&&((!false)==false))=false from rfl,eX,aA (fun h=>by cases h),aA (fun _ _ h=>by cases h)];rfl
 have hz:0<=(((0:Int)::r).getD ((0:Int).toNat) 0)/\(((0:Int)::r).getD ((0:Int).toNat) 0)<(((q.2.2.2.1.length:Nat)):Int):=by
  have hl:(((0:Int)::r).getD ((0:Int).toNat) 0)=0:=rfl;rw[hl];omega
 unfold f29;rw[e55,aC,if_neg (by simp),if_neg (by simp),hr,aA (by simp),aA (hz)];exact⟨_,rfl,rfl⟩
end Go.Abs
namespace Go.Abs
open Go Go.RowKit Go.ChangeShapes Go.WideShapes Go.ChangeAt Go.Deep
section
variable {P:Program}
def aC6 (P:Program) (t:TypeId):Prop:=∀(H:Type) (enc:TypeId×Value->H) (W:World) (base:Nat) (spare:Nat->Bool) (held:Bool) (fuel:Nat) (cs:List Value) (y:DataW H×List MemPlace),DataW.trod enc P W base spare held fuel t cs=some y->∀c,c∈cs->c.oneCell'=true
theorem qL {t:TypeId} {k:IntKind} (ht:P.underlying t=some (.int k)):aC6 P t:=by
 intro H enc W base spare held fuel cs y h c hc;obtain⟨n,e,_,_⟩:=DataW.trod_int ht h;subst e;obtain rfl:c=_:=by simpa using hc
 rfl
theorem uK {t:TypeId} (ht:P.underlying t=some .string):aC6 P t:=by
 intro H enc W base spare held fuel cs y h c hc;obtain⟨n,e,_,_⟩:=DataW.trod_string ht h;subst e;obtain rfl:c=_:=by simpa using hc
 rfl
theorem dV {t e:TypeId} (ht:P.underlying t=some (.slice e)):aC6 P t:=by
 intro H enc W base spare held fuel cs y h c hc;rcases DataW.trod_slice ht h with⟨e1,_⟩|⟨a,len,cap,elems,rest,n,_,e1,_⟩
 ·subst e1;obtain rfl:c=_:=by simpa using hc
  rfl
 ·subst e1;obtain rfl:c=_:=by simpa using hc
  rfl
theorem aCq {t:TypeId} {fs:Array Field} (ht:P.underlying t=some (.struct fs)) (hf:∀(i:Nat) (f:Field),fs[i]? =some f->aC6 P f.type)
  (cover:∀j,j<P.cellsOf t->∃(i:Nat) (f:Field),fs[i]? =some f/\f.offset<=j/\j<f.offset+P.cellsOf f.type):aC6 P t:=by
 intro H enc W base spare held fuel cs y h c hc;obtain⟨xs,n,_,_,hl,hxl,hx⟩:=DataW.trod_struct ht h;obtain⟨j,hj,rfl⟩:=acG hc;obtain⟨i,f,h1,h2,h3⟩:=cover j (by omega);have h4:=hx i f h1
 have hi:i<xs.length:=by
  rw[hxl];exact(abD.1 h1).1
 rw[aaO hi]at h4;refine hf i f h1 _ _ _ _ _ _ _ _ _ h4 _ ?_;refine List.mem_of_getElem? (i:=j-f.offset) ?_;rw[acL,if_pos (by omega),acC,show f.offset+(j-f.offset)=j by omega,aaO hj]
theorem hU {t:TypeId} {fs:Array Field} (L:List TypeId) (ht:P.underlying t=some (.struct fs)) (hL:∀u,u∈L->aC6 P u) (hf:(fs.toList.all fun f=>L.contains f.type)=true)
  (hc:((List.range (P.cellsOf t)).all fun j=>fs.toList.any fun f=>decide (f.offset<=j)&&decide (j<f.offset+P.cellsOf f.type))=true):aC6 P t:=by
 refine aCq ht (fun i f h=> ?_) (fun j hj=> ?_)
 ·have:=aaX.1 hf f (Array.mem_toList_iff.2 (Array.mem_of_getElem? h));exact hL _ (by simpa using this)
 ·have:=aaX.1 hc j (adN.2 hj);obtain⟨f,hm,h2⟩:=afH.1 this;simp only[aaL,abA]at h2;obtain⟨i,hi,rfl⟩:=acG hm;exact⟨i,_,by rw[<-adK,aaO hi],h2.1,h2.2⟩
end
section
variable {H:Type} {enc:TypeId×Value->H} {P:Program} {W:World} {t e:TypeId} {base:Nat} {v:Value} {d:DataW H} {ps:List MemPlace}
end
abbrev PtV :=Int×Int×Int×Int×Int×aaA×aaA
def i64B (n:Int):Prop:= -9223372036854775808<=n/\n<=9223372036854775807
end Go.Abs
namespace Go.Abs
open Go Go.RowKit Go.ChangeShapes Go.WideShapes Go.ChangeAt Go.Deep
abbrev ahF:=@List.take_zero
theorem mem_all {H:Type} {P:Program} {e:TypeId} {n:Nat} {x:DataW H}:∀{L:List (DataW H)},x∈L->n∈x.weights P e->n∈DataW.weightsAll P e L
 |[],h,_=>absurd h adJ
 |y::L,h,hn=>by
  unfold DataW.weightsAll
  rcases abC.1 h with rfl|h
  ·exact acI _ hn
  ·exact adU _ (mem_all h hn)
theorem uN {H:Type} {P:Program} {n:Nat} {t:TypeId} {d:DataW H}:∀{j:Nat} {ts:List TypeId} {ds:List (DataW H)},ts[j]? =some t->ds[j]? =some d->n∈d.weights P t->n∈DataW.weightsEach P ts ds
 |0,[],_,h,_,_=>by cases h
 |_+1,[],_,h,_,_=>by cases h
 |0,_::_,[],_,h,_=>by cases h
 |_+1,_::_,[],_,h,_=>by cases h
 |0,t0::ts,d0::ds,h,h',hn=>by
  cases h;cases h'
  unfold DataW.weightsEach
  exact acI _ hn
 |j+1,t0::ts,d0::ds,h,h',hn=>by
  unfold DataW.weightsEach
  exact adU _ (uN (j:=j) (by simpa using h) (by simpa using h') hn)
def fldW (b:Bool) (x:Value):Prop:=if b then ∃s:ByteArray,x= .string s/\s.size<=reachBytes else ∃n:Int,x= .int .i64 n/\ -9223372036854775808<=n/\n<=9223372036854775807
section
variable {H:Type} {enc:TypeId×Value->H} {P:Program} {W:World} {t e:TypeId} {base:Nat} {v:Value} {d:DataW H} {ps:List MemPlace}
theorem aCp {α:Type} [Inhabited α] {encA:α->List V} {dA:α} {fs:Array Field} {bs:List Bool} {sz:Nat} (ok:α->Prop) (ht:P.underlying t=some (.slice e)) (he:P.underlying e=some (.struct fs)) (hn:bs.length<=fs.size) (ce:P.cellsOf e=sz) (hpos:bs.length<=sz) (_h0:0<bs.length)
  (hone:aC6 P e) (hf:∀(i:Nat) (f:Field),i<bs.length->fs[i]? =some f->f.offset=i/\P.cellsOf f.type=1/\P.underlying f.type=some (if bs.getD i true then .string else .int .i64))
  (hopq:∀a j,bs.length<=j->j<sz->(encA a).getD j .any= .opq)
  (mk:∀cs:List Value,(∀i,i<bs.length->fldW (bs.getD i true) (cs.getD i undef))->∃a:α,ok a/\∀i,i<bs.length->Rel (fI W) W dS ((encA a).getD i .any) (cs.getD i undef))
  (hwt:∀n,n∈d.weights P t->n<=reachBytes) (hval:Value.okWide P W .any base t v) (h:DataW.Trod enc P W 0 (fun _=>true) true t v d ps):
  ∃l:List α,Rel (fI W) W dS (.arr sz l.length (bY encA dA l)) v/\(∀a,a∈l->ok a)/\l.length<=9223372036854775807:=by
 obtain⟨fuel,hf'⟩:=h;obtain⟨a0,len0,cap0,rfl⟩:=okWide_slice ht hval;simp only[Value.cells]at hf';rcases open_slice ht hf' with⟨h1,h2⟩|⟨a,len,cap,m,n,D,Pl,h1,hb,hlc,hm,hz,hx0,hcell⟩
 ·simp only[List.cons.injEq,Value.slice.injEq,and_true]at h1;obtain⟨rfl,rfl,rfl⟩:=h1;exact⟨[],.arr0 _ _ _,by simp,by simp⟩
 ·simp only[List.cons.injEq,Value.slice.injEq,and_true]at h1;obtain⟨rfl,rfl,rfl⟩:=h1;simp only[if_true]at hz;subst hz
  have hsp:a.spot=none:=by
   unfold Value.okWide at hval;rw[ht]at hval;simp only[Cell.okWide,ht,Cell.ok]at hval;exact hval.2.2.2.1
  obtain⟨ab,ao,aas⟩:=a;simp only at hsp;subst hsp
  have each:∀i,i<len0->∃q:α×List Value,ok q.1/\q.2.length=sz/\(∀j,j<sz->W.cell? ⟨ab,ao+i *sz+j,none⟩=some (q.2.getD j undef)/\(q.2.getD j undef).oneCell'=true/\Rel (fI W) W dS ((encA q.1).getD j .any) (q.2.getD j undef)):=by
   intro i0 hi0;obtain⟨cs',g1,g2⟩:=hcell i0 (by omega);rw[ce]at g1;obtain⟨_,hlen,hc⟩:=World.cells?_some g1;obtain⟨xs,_,_,hxd,hl,hxl,hx⟩:=DataW.trod_struct he g2;rw[ce]at hl
   have hfv:∀i,i<bs.length->fldW (bs.getD i true) (cs'.getD i undef):=by
    intro i hi;obtain⟨f,hff⟩:∃f,fs[i]? =some f:=⟨fs[i],by simp[show i<fs.size by omega]⟩;obtain⟨h1,h2,h3⟩:=hf i f hi hff;have:=hx i f hff;rw[h1,h2]at this
    have e1:(cs'.drop i).take 1=[cs'.getD i undef]:=by
     rw[afJ (by omega),afL,ahF];simp[aaC,show i<cs'.length by omega]
    rw[e1,aaO (by omega)]at this
    cases hb:bs.getD i true with
    |false=>
     rw[hb]at h3;have h4:=fld_of (b:=false) h3 this
     exact h4
    |true=>
     rw[hb,if_pos rfl]at h3;obtain⟨s,s1,s2,_⟩:=DataW.trod_string h3 this;simp only[List.cons.injEq,and_true]at s1;refine⟨s,s1, ?_⟩
     have hmem:s.data.toList.length∈d.weights P t:=by
      have hd:d= .slice ((List.range len0).map D) ((List.range (m-len0)).map fun j=>D (len0+j)):=congrArg Prod.fst hx0;rw[hd];unfold DataW.weights;rw[ht];refine aaU _ (acI _ (mem_all (x:=D i0) (adL.2 ⟨i0,adN.2 hi0,rfl⟩) ?_));have hD:D i0= .agg (xs.map (·.1)):=congrArg Prod.fst hxd;rw[hD];unfold DataW.weights;rw[he];refine uN (j:=i) (t:=f.type) (d:= .lit (.string s.data.toList)) ?_ ?_ ?_
      ·rw[afD,<-adK]at *;simp[hff]
      ·rw[afD,aaO (by omega),s2];rfl
      ·unfold DataW.weights;simp
     have:=hwt _ hmem;simpa using this
   obtain⟨a,hok,ha⟩:=mk cs' hfv
   have h1c:∀j,j<sz->(cs'.getD j undef).oneCell'=true:=fun j hj=>by
    refine hone _ _ _ _ _ _ _ _ _ g2 _ ?_;rw[aaC,aaO (by omega)];exact acU _
   refine⟨(a,cs'),hok,hl,fun j hj=>⟨?_,h1c j hj, ?_⟩⟩
   ·have:=hc j hj;rw[add_plain,add_plain]at this;rw[this,aaO (by omega)];simp[aaC,hl,hj]
   ·rcases afP j bs.length with hj2|hj2
    ·exact ha j hj2
    ·show Rel _ _ _ ((encA a).getD j .any) _;rw[hopq a j hj2 hj];exact .opq _ _ (h1c j hj)
  obtain⟨q,hq⟩:=choose_lt each;have hlen:((List.range len0).map fun i=>(q i).1).length=len0:=by simp
  have hget:∀i,i<len0->((List.range len0).map fun i=>(q i).1).getD i dA=(q i).1:=fun i hi=>by
   simp[aaC,hi]
  have hmm:maxLen=9223372036854775807:=rfl;refine⟨(List.range len0).map fun i=>(q i).1, ?_, ?_,by omega⟩
  ·rw[hlen];refine .arr _ _ _ _ ab ao m (fun i j=>(q i).2.getD j undef) hlc (by omega) (fun hn hs=> ?_) (fun i j hi hj=>((hq i hi).2.2 j hj).1) (fun i j hi hj=>((hq i hi).2.2 j hj).2.1) (fun i j hi hj=> ?_)
   ·exact dR ((hq 0 hn).2.2 0 hs).1
   ·show Rel _ _ _ ((encA (((List.range len0).map fun i=>(q i).1).getD i dA)).getD j .any) _;rw[hget i hi];exact((hq i hi).2.2 j hj).2.2
  ·intro a ha;obtain⟨i,hi,rfl⟩:=adL.1 ha;exact(hq i (adN.1 hi)).1
end
def okPtW (x:PtV):Prop:=i64B x.1/\i64B x.2.1/\i64B x.2.2.1/\i64B x.2.2.2.1/\i64B x.2.2.2.2.1/\x.2.2.2.2.2.1.length<=140737488355328/\x.2.2.2.2.2.2.length<=140737488355328
theorem mkPtW {W:World} {encA:PtV->List V} (henc:∀a i,i<7->(encA a).getD i .any=([.int .i64 a.1,.int .i64 a.2.1,.int .i64 a.2.2.1,.int .i64 a.2.2.2.1,.int .i64 a.2.2.2.2.1,.str a.2.2.2.2.2.1,.str a.2.2.2.2.2.2]:List V).getD i .any) (cs:List Value) (hf:∀i,i<[false,false,false,false,false,true,true].length->fldW ([false,false,false,false,false,true,true].getD i true) (cs.getD i undef)):
  ∃a:PtV,okPtW a/\∀i,i<[false,false,false,false,false,true,true].length->Rel (fI W) W dS ((encA a).getD i .any) (cs.getD i undef):=by
 obtain⟨n0,h0,b0⟩:=hf 0 (by decide);obtain⟨n1,h1,b1⟩:=hf 1 (by decide);obtain⟨n2,h2,b2⟩:=hf 2 (by decide);obtain⟨n3,h3,b3⟩:=hf 3 (by decide);obtain⟨n4,h4,b4⟩:=hf 4 (by decide);obtain⟨s5,h5,b5⟩:=hf 5 (by decide);obtain⟨s6,h6,b6⟩:=hf 6 (by decide);refine⟨(n0,n1,n2,n3,n4,s5.data.toList,s6.data.toList),⟨b0,b1,b2,b3,b4,by have:reachBytes=140737488351232:=rfl;have:s5.data.toList.length=s5.size:=rfl;show s5.data.toList.length<=_;omega,by have:reachBytes=140737488351232:=rfl;have:s6.data.toList.length=s6.size:=rfl;show s6.data.toList.length<=_;omega⟩,fun i hi=> ?_⟩;rw[henc _ i hi]
 match i,hi with
 |0,_=>rw[h0];exact .int _ _ _
 |1,_=>rw[h1];exact .int _ _ _
 |2,_=>rw[h2];exact .int _ _ _
 |3,_=>rw[h3];exact .int _ _ _
 |4,_=>rw[h4];exact .int _ _ _
 |5,_=>rw[h5];exact .str _ _ _ rfl
 |6,_=>rw[h6];exact .str _ _ _ rfl
end Go.Abs
namespace Go.Abs
def gC (c:Int) (q:Nat×Nat) (p:Y51):Nat×Nat:=if p.2.2.1=c then(if p.2.1=3 then(q.1+1,q.2)else if p.2.1=2 then(q.1,q.2+1)else q)else q
theorem gC_le (c:Int):∀(l:List Y51) (q:Nat×Nat),(l.foldl (gC c) q).1<=q.1+l.length/\(l.foldl (gC c) q).2<=q.2+l.length
 |[],q=>by simp
 |p::l,q=>by
  rw[acF]
  obtain⟨h1,h2⟩:=gC_le c l (gC c q p)
  have h3:(gC c q p).1<=q.1+1/\(gC c q p).2<=q.2+1:=by
   unfold gC
   split
   ·split
    ·dsimp only;omega
    ·split
     ·dsimp only;omega
     ·omega
   ·omega
  simp only[aaN]
  omega
theorem yI (x:List Y51) (hx:x.length<=60) (c:Nat) (hc:c<6) (K:Nat×Nat->Option Ty0):∀(d k n a b:Nat),n+d=x.length->d<k->a<=n->b<=n->oR x c K k (a,b,n)=K ((x.drop n).foldl (gC (c:Int)) (a,b))
 |0,k,n,a,b,hn,hk,ha,hb=>by
  obtain⟨k,rfl⟩:∃z,k=z+1:=⟨k-1,by omega⟩
  rw[abF (by omega)]
  conv=>lhs;unfold oR
  rw[aK (by omega)]
  rfl
 |d+1,k,n,a,b,hn,hk,ha,hb=>by
  obtain⟨k,rfl⟩:∃z,k=z+1:=⟨k-1,by omega⟩
  rw[getD_drop x n default (by omega),acF]
  conv=>lhs;unfold oR
  rw[aM (by omega),bG,aA (by omega)]
  have ih:=fun a b ha hb=>yI x hx c hc K d k (n+1) a b (by omega) (by omega) ha hb
  generalize x.getD n default=p
  unfold gC
  by_cases hw:p.2.2.1=(c:Int)
  ·have h57:f57 p.1 p.2.1 p.2.2.1 p.2.2.2.1 p.2.2.2.2.1 p.2.2.2.2.2.1 p.2.2.2.2.2.2=some (cl p):=rfl
   rw[show(p.2.2.1 !=(c:Int))=false by simp[hw],show(false==false)=true from rfl,eH,h57,aC,cl_of (w:=(c:Int)) ⟨by omega,by omega⟩ hw,if_neg (by simp),if_pos hw]
   by_cases h3:p.2.1=3
   ·rw[if_pos (by simp[h3]),aA (by omega),if_pos h3]
    dsimp only
    rw[aA (by omega)]
    exact ih _ _ (by omega) (by omega)
   ·rw[if_neg (by simpa using h3),if_neg h3]
    by_cases h2:p.2.1=2
    ·rw[if_pos (by simp[h2]),aA (by omega),if_pos h2]
     dsimp only
     rw[aA (by omega)]
     exact ih _ _ (by omega) (by omega)
    ·rw[if_neg (by simpa using h2),if_neg h2]
     dsimp only
     rw[aA (by omega)]
     exact ih _ _ (by omega) (by omega)
  ·rw[show(p.2.2.1 !=(c:Int))=true by simp[hw],show(true==false)=false from rfl,eX,if_pos (by rfl),if_neg hw]
   dsimp only
   rw[aA (by omega)]
   exact ih _ _ (by omega) (by omega)
theorem yH (x:List Y51) (hx:x.length<=60) (c:Nat) (hc:c<6) (K:Nat×Nat->Option Ty0):∀(d k n a b:Nat),n+d=x.length->d<k->a<=n->b<=n->oP x c K k (a,b,n)=K ((x.drop n).foldl (gC (c:Int)) (a,b))
 |0,k,n,a,b,hn,hk,ha,hb=>by
  obtain⟨k,rfl⟩:∃z,k=z+1:=⟨k-1,by omega⟩
  rw[abF (by omega)]
  conv=>lhs;unfold oP
  rw[aK (by omega)]
  rfl
 |d+1,k,n,a,b,hn,hk,ha,hb=>by
  obtain⟨k,rfl⟩:∃z,k=z+1:=⟨k-1,by omega⟩
  rw[getD_drop x n default (by omega),acF]
  conv=>lhs;unfold oP
  rw[aM (by omega),bG,bG,aA (by omega),aA (fun _=>by omega)]
  have ih:=fun a b ha hb=>yH x hx c hc K d k (n+1) a b (by omega) (by omega) ha hb
  generalize x.getD n default=p
  unfold gC
  have hc6:decide ((c:Int)<6)=true:=abN (by omega)
  rw[hc6]
  by_cases hw:p.2.2.1=(c:Int)
  ·rw[show(p.2.2.1==(c:Int))=true by simp[hw],if_pos hw]
   by_cases h3:p.2.1=3
   ·rw[show(p.2.1==(3:Int))=true by simp[h3],show(p.2.1==(2:Int))=false by simp[h3],if_pos (by rfl),aA (by omega),if_pos h3]
    dsimp only
    rw[aA (by omega),aA (fun _=>by omega),if_neg (by simp)]
    rw[aA (by omega)]
    exact ih _ _ (by omega) (by omega)
   ·rw[show(p.2.1==(3:Int))=false by simpa using h3,if_neg (by simp),if_neg h3]
    dsimp only
    rw[aA (by omega),aA (fun _=>by omega)]
    by_cases h2:p.2.1=2
    ·rw[show(p.2.1==(2:Int))=true by simp[h2],if_pos (by rfl),aA (by omega),if_pos h2]
     rw[aA (by omega)]
     exact ih _ _ (by omega) (by omega)
    ·rw[show(p.2.1==(2:Int))=false by simpa using h2,if_neg (by simp),if_neg h2]
     rw[aA (by omega)]
     exact ih _ _ (by omega) (by omega)
  ·rw[show(p.2.2.1==(c:Int))=false by simpa using hw,if_neg (by simp),if_neg hw]
   dsimp only
   rw[aA (by omega),aA (fun _=>by omega),if_neg (by simp)]
   rw[aA (by omega)]
   exact ih _ _ (by omega) (by omega)
abbrev LCl :=List Ty4
theorem aA5 (cs:LCl) (hcs:cs.length<=2) (hnm:∀c,c∈cs->c.1.length<=2) (x:List Y51) (hx:x.length<=60) (K30 K31:aaA->Option Ty0):∀(d k k' n:Nat) (s:aaA),n+d=cs.length->d<k->d<k'->s.length<=200 *n->
  ∃s',s'.length<=400/\oS cs x K30 k (s,n)=K30 s'/\oQ cs x K31 k' (s,n)=K31 s'
 |0,k,k',n,s,hn,hk,hk',hs=>by
  obtain⟨k,rfl⟩:∃z,k=z+1:=⟨k-1,by omega⟩
  obtain⟨k',rfl⟩:∃z,k'=z+1:=⟨k'-1,by omega⟩
  refine⟨s,by omega, ?_, ?_⟩
  ·conv=>lhs;unfold oS
   rw[aK (by omega)]
  ·conv=>lhs;unfold oQ
   rw[aK (by omega)]
 |d+1,k,k',n,s,hn,hk,hk',hs=>by
  obtain⟨k,rfl⟩:∃z,k=z+1:=⟨k-1,by omega⟩
  obtain⟨k',rfl⟩:∃z,k'=z+1:=⟨k'-1,by omega⟩
  have hm:=hnm _ (bW cs n default (by omega))
  generalize hnme:(cs.getD n default).1=nm at hm
  obtain⟨l1,l2⟩:=gC_le (n:Int) x (0,0)
  generalize hg:x.foldl (gC (n:Int)) (0,0)=g at l1 l2
  obtain⟨a,b⟩:=g
  simp only[abW]at l1 l2
  have i1:=aCv (n:=(a:Int)) (by omega) (by omega)
  have i2:=aCv (n:=(b:Int)) (by omega) (by omega)
  have h11:aAO.length=11:=rfl
  have h12:cs12.length=14:=rfl
  obtain⟨s',g1,g2,g3⟩:=aA5 cs hcs hnm x hx K30 K31 d k k' (n+1) (s++(nm++[58,32]++Lib.itoa (a:Int)++aAO++Lib.itoa (b:Int)++cs12)) (by omega) (by omega) (by omega) (by simp only[aaF,aaN,abB];omega)
  refine⟨s',g1, ?_, ?_⟩
  ·conv=>lhs;unfold oS
   rw[aM (by omega),aA (by omega),bG,yI x hx n (by omega) _ x.length aY 0 0 0 (by omega) (fuel_lt (by omega)) (aaY _) (aaY _),abY,hg,hnme]
   dsimp only
   rw[ito (n:=(a:Int)) (by omega) (by omega),aC,ito (n:=(b:Int)) (by omega) (by omega),aC,aA (by simp only[aaF,aaN,abB];omega),aA (by simp only[aaF,aaN,abB];omega),aA (by simp only[aaF,aaN,abB];omega),aA (by simp only[aaF,aaN,abB];omega),aA (by simp only[aaF,aaN,abB];omega),aA (by simp only[aaF,aaN,abB];omega),aA (by omega)]
   exact g2
  ·conv=>lhs;unfold oQ
   rw[aM (by omega),bG,yH x hx n (by omega) _ x.length aY 0 0 0 (by omega) (fuel_lt (by omega)) (aaY _) (aaY _),abY,hg,hnme]
   dsimp only
   rw[ito (n:=(a:Int)) (by omega) (by omega),aC,ito (n:=(b:Int)) (by omega) (by omega),aC,aA (by omega),aA (by omega),aA (by simp only[aaF,aaN,abB];omega),aA (by simp only[aaF,aaN,abB];omega),aA (by simp only[aaF,aaN,abB];omega),aA (by simp only[aaF,aaN,abB];omega),aA (by simp only[aaF,aaN,abB];omega),aA (by omega)]
   refine Eq.trans ?_ g3
   congr 1
   simp only[acD]
theorem rep_text (q:Dep) (h:vW q) (x:List Y51) (hx:x.length<=60) (hb:∀p∈x,(gQ p).length<=20000):∃s,f30 q.1 q.2.2.1 q.2.1 q.2.2.2.1 q.2.2.2.2.1 q.2.2.2.2.2 x=some s/\f31 q.1 q.2.2.1 q.2.1 q.2.2.2.1 q.2.2.2.2.1 q.2.2.2.2.2 x=some s:=by
 obtain⟨_,_,hcs,hnm⟩:=h;obtain⟨i,v,z,a1,a2,a3⟩:=aCy x hx hb;unfold f30 f31;rw[bG,bG];obtain⟨s',g1,g2,g3⟩:=aA5 q.2.2.2.2.2 hcs hnm x hx _ _ q.2.2.2.2.2.length aY aY 0 [] (by omega) (fuel_lt (by omega)) (fuel_lt (by omega)) (by simp);rw[g2,g3];unfold f13;rw[a1,a2,aC,aC,aC];dsimp only;rcases a3 with rfl|⟨rfl,v1,v3,i0,i60⟩
 ·rw[if_pos (by decide),if_pos (by decide),aA (by simp only[aaN,abB];omega)];exact⟨_,rfl,rfl⟩
 ·have il:=aCv (n:=i) (by omega) (by omega);rw[if_neg (by decide),if_neg (by decide),ito (n:=i) (by omega) (by omega),aC,aC];have hv:v=1\/v=2\/v=3:=by omega
  have key : ∀ w : aaA, w.length <= 20 -> ∃ s, (chk (s'.length+w.length<=9223372036854775807)<|chk ((s'++w).length+([32]:aaA).length<=9223372036854775807)<|chk (((s'++w)++([32]:aaA)).length+(Lib.itoa i).length<=9223372036854775807)<|
    chk ((((s'++w)++([32]:aaA))++Lib.itoa i).length+([10]:aaA).length<=9223372036854775807)<|some ((((s'++w)++([32]:aaA))++Lib.itoa i)++([10]:aaA)))=some s:=fun w hw=>by
   rw[aA (by omega),aA (by simp only[aaF,aaN,abB];omega),aA (by simp only[aaF,aaN,abB];omega),aA (by simp only[aaF,aaN,abB];omega)];exact⟨_,rfl⟩
  rcases hv with rfl|rfl|rfl
  ·obtain⟨s,hs⟩:=key [102,111,114,107] (by decide);refine⟨s, ?_, ?_⟩
   ·rw[aA (by omega)];exact hs
   ·rw[aA (by omega),aA (by omega),aA (by omega)];exact hs
  ·obtain⟨s,hs⟩:=key [103,97,112] (by decide);refine⟨s, ?_, ?_⟩
   ·rw[aA (by omega)];exact hs
   ·rw[aA (by omega),aA (by omega),aA (by omega)];exact hs
  ·obtain⟨s,hs⟩:=key cs13 (by decide);refine⟨s, ?_, ?_⟩
   ·rw[aA (by omega)];exact hs
   ·rw[aA (by omega),aA (by omega),aA (by omega)];exact hs
theorem aAb (h11:f11=some true) (x1 x2 x3:Int) (x4:List aC7) (x5:List Y51) (h1:0<=x1/\x1<=255) (h2:0<=x2/\x2<=255) (h3:0<=x3/\x3<=255) (h4:∀d∈x4,okDr d) (ht:∀p∈x5,okPtW p) (h5:x5.length<=9223372036854775807):f9 x1 x2 x3 x4 x5=some true:=by
 obtain⟨b,hb,hb2⟩:=f16_few x5 h5 (fun p hp=>⟨(ht p hp).2.2.2.2.2.1,(ht p hp).2.2.2.2.2.2⟩);unfold f9;rw[h11,aC];show eO true _ _=_;rw[eH,hb,aC]
 cases b with
 |false=>rw[if_pos (by rfl),aC]
 |true=>
  obtain⟨h60,htx⟩:=hb2 rfl;obtain⟨q,q1,q2⟩:=f28_ok2 x1 x2 x3 x4 h1 h2 h3 h4;obtain⟨r,r1,r2⟩:=f29_ok2 q q2;obtain⟨s,s1,s2⟩:=rep_text q q2 x5 h60 htx;rw[if_neg (by simp),q1,aC,r1,aC,r2];rw[show(((0:Int)==(0:Int))==true)=true from rfl,eH,s1,aC,eH,s2,aC];simp
end Go.Abs
namespace Go.Abs
theorem f11_true :f11=some true:=by kernel_rfl
end Go.Abs
namespace Go.Abs
theorem f9_true (x1 x2 x3:Int) (x4:List aC7) (x5:List Y51) (h1:0<=x1/\x1<=255) (h2:0<=x2/\x2<=255) (h3:0<=x3/\x3<=255) (h4:∀d∈x4,okDr d) (ht:∀p∈x5,okPtW p) (h5:x5.length<=9223372036854775807):f9 x1 x2 x3 x4 x5=some true:=aAb f11_true x1 x2 x3 x4 x5 h1 h2 h3 h4 ht h5
end Go.Abs
